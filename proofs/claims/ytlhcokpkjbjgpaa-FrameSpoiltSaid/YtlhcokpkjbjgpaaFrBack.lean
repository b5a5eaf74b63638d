/- Frames: the law FrameBack, walked. -/
import Derived.Test.YtlhcokpkjbjgpaaFrBackP
namespace Go.Proofs.Ytlhcokpkjbjgpaa
open Go.RowKit

theorem fseal_x (w : World) (A : Option Addr) (n c : Nat) (l : List ByteArray) (x : ByteArray) (hx : x.data.toList = sealB l) (hfit : fits l) (hr : Rd w w.heap.size 1 A n (strv l)) (hl : x.size ≤ 140737488355328) (hn : n ≤ 17592186044416) :
    Calls Try.prog 12 #[.slice A n c] w fun e w' => e = .returned (.tuple #[.string x, .int .i64 0]) ∧ Below w.heap.size w w' := by
  have h := fseal_any w A n c l hr (by rw [← hx]; simpa using hl) hn (fun s hs => Nat.le_trans (hfit s hs) (by omega))
  rw [sealR_ok hfit] at h
  have : (⟨(sealB l).toArray⟩ : ByteArray) = x := by rw [← hx]
  rw [this] at h
  exact h
theorem fseal_bad (w : World) (A : Option Addr) (n c : Nat) (l : List ByteArray) (hfit : ¬ fits l) (hr : Rd w w.heap.size 1 A n (strv l)) (hl : (sealB l).length ≤ 140737488355328) (hn : n ≤ 17592186044416) (hls : ∀ s ∈ l, s.size ≤ 140737488351232) :
    Calls Try.prog 12 #[.slice A n c] w fun e w' => e = .returned (.tuple #[.string ⟨#[]⟩, .int .i64 2]) ∧ Below w.heap.size w w' := by
  have h := fseal_any w A n c l hr hl hn hls
  rw [show sealR l = ([], 2) from if_neg hfit] at h
  exact h
theorem fscan_x (w : World) (x : ByteArray) (l : List ByteArray) (hx : scanR x.data.toList = (l.map fun s => s.data.toList, (sealB l).length)) (N : Nat) (hN : N = (sealB l).length) (hl : x.size ≤ 17179869184) :
    Calls Try.prog 15 #[.string x] w fun e w' => ∃ v, e = .returned (.tuple #[v, .int .i64 (N : Int)]) ∧ w'.ownsRow w.heap.size 9 1 v l.length (strv l) ∧ Below w.heap.size w w' := by
  have h := scan_any w x hl
  rw [hx] at h
  simp only [strsOf_map, List.length_map] at h
  rw [hN]
  exact h
theorem rem_nat (a : Int) (m : Nat) (h : 0 < m) (hm : m ≤ 1048576) : ∃ k : Nat, k < m ∧ wrap64 ((IntKind.u64.wrap a).tmod (m : Int)) = (k : Int) := by
  have h0 : 0 ≤ IntKind.u64.wrap a := by rw [IntKind.wrap_u64]; exact Int.emod_nonneg _ (by decide)
  have h1 := Int.emod_lt_of_pos (IntKind.u64.wrap a) (show (0 : Int) < (m : Int) by omega)
  have h2 := Int.emod_nonneg (IntKind.u64.wrap a) (show (m : Int) ≠ 0 by omega)
  rw [Int.tmod_eq_emod_of_nonneg h0]
  refine ⟨(IntKind.u64.wrap a % (m : Int)).toNat, by omega, ?_⟩
  rw [Int.toNat_of_nonneg h2]
  generalize IntKind.u64.wrap a % (m : Int) = z at h1 h2
  unfold wrap64
  omega
theorem rd_one (w : World) (g : Nat) (hg : w.heap.size = g) (s : ByteArray) : Rd (w.alloc (.cells #[.string s] 9)) (w.alloc (.cells #[.string s] 9)).heap.size 1 (some ⟨g, 0, none⟩) 1 (strv [s]) := by
  subst hg
  have := Rd.new (w := w) (size := 1) (n := 1) #[.string s] 9 rfl
  exact this.mono (by simp)
theorem fits_one {s : ByteArray} (h : s.size ≤ 65536) : fits [s] := fun x hx => by rw [List.mem_singleton.1 hx]; exact h
theorem sealB_one (s : ByteArray) : sealB [s] = frameB s.data.toList := by simp [sealB]
theorem cut_scan (x t more : ByteArray) (l : List ByteArray) (k : Nat) (hfit : fits l) (hm : more.size ≤ 65536) (hx : x.data.toList = sealB l) (ht : t.data.toList = sealB [more]) (hk : k < t.size) :
    scanR (x ++ t.extract 0 k).data.toList = (l.map fun s => s.data.toList, (sealB l).length) := by
  rw [sealB_one] at ht
  have e : (x ++ t.extract 0 k).data.toList = sealB l ++ (frameB more.data.toList).take k := by
    rw [ByteArray.data_append, Array.toList_append, hx, ext_list, ht]; simp
  rw [e]
  refine scan_seal_cut l more.data.toList k hfit (by simpa using hm) ?_
  rw [← ht]; simpa using hk
set_option maxHeartbeats 4000000 in
set_option maxRecDepth 20000 in
theorem back_any (w : World) (A : Option Addr) (n c : Nat) (l : List ByteArray) (more : ByteArray) (cut : Int) (hr : Rd w w.heap.size 1 A n (strv l)) (hl : (sealB l).length ≤ 8388608) (hm : more.size ≤ 1048576)
    (hc0 : -9223372036854775808 ≤ cut) (hc1 : cut ≤ 9223372036854775807) (hls : ∀ s ∈ l, s.size ≤ 140737488351232) :
    Calls Try.prog 6 #[.slice A n c, .string more, .int .i64 cut] w fun e w' => e = .returned (.bool true) ∧ Below w.heap.size w w' := by
  have hnl := rd_len hr
  have hlL := seal_len l
  have hn : n ≤ 8388608 := by omega
  clear hlL
  by_cases hfit : fits l
  · obtain ⟨x, hx⟩ : ∃ x : ByteArray, x.data.toList = sealB l := ⟨⟨(sealB l).toArray⟩, by simp⟩
    have hxs : x.size = (sealB l).length := by rw [← hx]; simp
    have HX := Lib.hid hx
    have HXS := Lib.hid hxs
    have hxl : x.size ≤ 8388608 := by omega
    have HNL := Lib.hid hnl
    clear hx hxs hnl hl
    go_enter Try.func6, Try.ntmps6
    go_wp2_with fail
    refine (flives_any _).mono ?_
    rintro e w1 ⟨rfl, hb1⟩
    go_wp2_with fail
    refine (fseal_x _ A n c l x HX.out hfit ((hr.below hb1).mono hb1.size) (by omega) (by omega)).mono ?_
    rintro e w2 ⟨rfl, hb2⟩
    have hb2' := bel hb1 hb2
    go_wp2_with fail
    refine (fscan_x _ x l (by rw [HX.out]; exact scan_seal l hfit) x.size HXS.out (by omega)).mono ?_
    rintro e w3 ⟨v, rfl, hown3, hb3⟩
    have hb3' := bel hb2' hb3
    rw [← HNL.out] at hown3
    obtain ⟨Av, cv, rfl⟩ := own_shape hown3
    go_wp2_with fail
    refine (same_yes _ _ n _ _ _ l _ (by unfold maxLen; omega) (Rd.own hown3) ((hr.below hb3').mono hb3'.size)).mono ?_
    rintro e w4 ⟨rfl, m, rfl⟩
    have hb4 : Below w.heap.size w (w3.drewN m) := ⟨hb3'.os, hb3'.tape, hb3'.output, hb3'.size, hb3'.block⟩
    have hsz4 : (w3.drewN m).heap.size = w3.heap.size := rfl
    clear hown3 hb3 hb2 hb1
    have hr4 := rd_one (w3.drewN m) w3.heap.size rfl more
    have hbA : Below w.heap.size w ((w3.drewN m).alloc (.cells #[Value.string more] 9)) := hb4.alloc hb4.size _
    by_cases hmf : more.size ≤ 65536
    · obtain ⟨t, ht⟩ : ∃ t : ByteArray, t.data.toList = sealB [more] := ⟨⟨(sealB [more]).toArray⟩, by simp⟩
      have hts : t.size = 8 + more.size := by
        have : t.data.toList.length = (sealB [more]).length := by rw [ht]
        rw [sealB_one, frameB_len] at this
        simpa using this
      have HT := Lib.hid ht
      have ht0 : 8 ≤ t.size := by omega
      have ht1 : t.size ≤ 1048576 := by omega
      have ht2 : decide ((t.size : Int) < 8) = false := decide_eq_false (by omega)
      obtain ⟨k, hk, hkr⟩ := rem_nat cut t.size (by omega) ht1
      have hk1 : (k : Int) ≤ (t.size : Int) := by omega
      have hk2 : (0 : Int) ≤ (k : Int) := by omega
      clear ht hts
      go_wp2_with fail
      refine (fseal_x _ _ 1 1 [more] t HT.out (fits_one hmf) hr4 (by omega) (by omega)).mono ?_
      rintro e w5 ⟨rfl, hb5⟩
      have hb5' := bel hbA hb5
      clear hr4 hbA hb4
      have hxts : (x ++ t.extract 0 k).size ≤ 17179869184 := by
        rw [ByteArray.size_append]; simp; omega
      go_wp2_with fail
      refine (fscan_x _ (x ++ t.extract 0 k) l (cut_scan x t more l k hfit hmf HX.out HT.out hk) x.size HXS.out hxts).mono ?_
      rintro e w6 ⟨v6, rfl, hown6, hb6⟩
      have hb6' := bel hb5' hb6
      rw [← HNL.out] at hown6
      obtain ⟨A6, c6, rfl⟩ := own_shape hown6
      have hr6 := Rd.own hown6
      clear hown6 hb6 hb5 hkr
      go_wp2_with fail
      refine (same_yes _ _ n _ _ _ l _ (by unfold maxLen; omega) hr6 ((hr.below hb6').mono hb6'.size)).mono ?_
      rintro e w7 ⟨rfl, m7, rfl⟩
      go_wp2
      go_ret
      exact ⟨rfl, ⟨hb6'.os, hb6'.tape, hb6'.output, hb6'.size, hb6'.block⟩⟩
    · have hnf : ¬ fits [more] := fun h => hmf (h more List.mem_cons_self)
      go_wp2_with fail
      refine (fseal_bad _ _ 1 1 [more] hnf hr4 (by rw [sealB_one, frameB_len]; simp; omega) (by omega) (by intro s hs; rw [List.mem_singleton.1 hs]; omega)).mono ?_
      rintro e w5 ⟨rfl, hb5⟩
      have hb5' := bel hbA hb5
      clear hr4 hbA hb4
      go_wp2
      go_ret
      exact ⟨rfl, hb5'⟩
  · clear hnl
    go_enter Try.func6, Try.ntmps6
    go_wp2_with fail
    refine (flives_any _).mono ?_
    rintro e w1 ⟨rfl, hb1⟩
    go_wp2_with fail
    refine (fseal_bad _ A n c l hfit ((hr.below hb1).mono hb1.size) (by omega) (by omega) hls).mono ?_
    rintro e w2 ⟨rfl, hb2⟩
    have hb2' := bel hb1 hb2
    go_wp2
    go_ret
    exact ⟨rfl, hb2'⟩
end Go.Proofs.Ytlhcokpkjbjgpaa
