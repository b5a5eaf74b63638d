/- Frames: the reference's Frame and Seal, walked. -/
import Derived.Test.YtanieolnaiihmaaJFrRef
namespace Go.Proofs.Ytanieolnaiihmaa
open Go.RowKit

def frameB (p : List UInt8) : List UInt8 := fourB p.length ++ fourB (sumB (fourB p.length ++ p)) ++ p
theorem fourB_len (n : Nat) : (fourB n).length = 4 := rfl
theorem frameB_len (p : List UInt8) : (frameB p).length = 8 + p.length := by unfold frameB; simp only [List.length_append, fourB_len]
def sealB (l : List ByteArray) : List UInt8 := l.flatMap fun s => frameB s.data.toList
def fits (l : List ByteArray) : Prop := ∀ s ∈ l, s.size ≤ 65536
instance (l : List ByteArray) : Decidable (fits l) := by unfold fits; infer_instance
def sealR (l : List ByteArray) : List UInt8 × Nat := if fits l then (sealB l, 0) else ([], 2)
theorem sealR_ok {l : List ByteArray} (h : fits l) : sealR l = (sealB l, 0) := if_pos h
theorem sealR_no {l : List ByteArray} {x : ByteArray} (hx : x ∈ l) (h : ¬ x.size ≤ 65536) : sealR l = ([], 2) := if_neg fun hf => h (hf x hx)
theorem sealB_take (l : List ByteArray) (k : Nat) (h : k < l.length) : sealB (l.take (k + 1)) = sealB (l.take k) ++ frameB l[k].data.toList := by
  rw [List.take_succ_eq_append_getElem h]; unfold sealB; rw [List.flatMap_append, List.flatMap_cons, List.flatMap_nil, List.append_nil]
theorem sealB_take_len (l : List ByteArray) (k : Nat) : (sealB (l.take k)).length ≤ (sealB l).length := by
  have : sealB l = sealB (l.take k) ++ sealB (l.drop k) := by unfold sealB; rw [← List.flatMap_append, List.take_append_drop]
  rw [this, List.length_append]; omega
theorem append_lit (a b : List UInt8) : (⟨a.toArray⟩ : ByteArray) ++ ⟨b.toArray⟩ = ⟨(a ++ b).toArray⟩ := by
  apply ByteArray.ext
  simp [ByteArray.data_append]
theorem append_lit2 (a : List UInt8) (s : ByteArray) : (⟨a.toArray⟩ : ByteArray) ++ s = ⟨(a ++ s.data.toList).toArray⟩ := by
  apply ByteArray.ext
  simp [ByteArray.data_append]
theorem rsum_lit (w : World) (l : List UInt8) (hs : l.length ≤ 140737488355328) :
    Calls Try.prog 103 #[.string ⟨l.toArray⟩] w fun e w' => e = .returned (.int .u32 (sumB l : Int)) ∧ w' = w := by
  have := rsum_any w ⟨l.toArray⟩ (by show l.toArray.size ≤ _; simpa using hs)
  simpa using this
set_option maxHeartbeats 400000 in
theorem rframe_any (w : World) (s : ByteArray) (hs : s.size ≤ 65536) :
    Calls Try.prog 83 #[.string s] w fun e w' => e = .returned (.string ⟨(frameB s.data.toList).toArray⟩) ∧ Below w.heap.size w w' := by
  have l1 := fourB_len s.size
  have l2 := fourB_len (sumB (fourB s.size ++ s.data.toList))
  have h1 := append_lit2 (fourB s.size) s
  have h2 := append_lit (fourB s.size) (fourB (sumB (fourB s.size ++ s.data.toList)))
  have h3 := append_lit2 (fourB s.size ++ fourB (sumB (fourB s.size ++ s.data.toList))) s
  have hf := Lib.hid (show frameB s.data.toList = fourB s.size ++ fourB (sumB (fourB s.size ++ s.data.toList)) ++ s.data.toList by unfold frameB; simp)
  go_enter Try.func83, Try.ntmps83
  go_wp2_with fail
  refine (rfour_any _ s.size (by omega)).mono ?_
  rintro e w1 ⟨rfl, hb1⟩
  go_wp2_with fail
  refine (rsum_lit _ (fourB s.size ++ s.data.toList) (by rw [List.length_append, fourB_len]; simp; omega)).mono ?_
  rintro e w2 ⟨rfl, rfl⟩
  go_wp2_with fail
  refine (rfour_any _ _ (sumB_lt _)).mono ?_
  rintro e w3 ⟨rfl, hb3⟩
  have hb := bel hb1 hb3
  go_wp2
  go_ret
  exact ⟨by rw [hf.out, List.append_assoc]; rfl, hb⟩

theorem u8_infoF : (Try.prog.info? 5).map (fun i => (i.zero, i.size, i.bytes)) = some (some (.int .u8 0), 1, 1) := by kernel_rfl
set_option maxHeartbeats 1000000 in
set_option maxRecDepth 20000 in
theorem rseal_any (w : World) (A : Option Addr) (n c : Nat) (l : List ByteArray) (hr : Rd w w.heap.size 1 A n (strv l)) (hl : (sealB l).length ≤ 140737488355328) (hn : n ≤ 17592186044416) (hls : ∀ s ∈ l, s.size ≤ 140737488351232) :
    Calls Try.prog 57 #[.slice A n c] w fun e w' => e = .returned (.tuple #[.string ⟨(sealR l).1.toArray⟩, .int .i64 ((sealR l).2 : Int)]) ∧ Below w.heap.size w w' := by
  obtain ⟨i0, hi0, hz0, hz1, hz2⟩ := info_parts u8_infoF
  have hlen := Lib.hid (show l.length = n by have := hr.len; rw [strv_length] at this; omega)
  go_enter Try.func57, Try.ntmps57
  go_wp2
  go_loopw [4, 9] (fun v i wx => ∃ k : Nat, k ≤ n ∧ i = .int .i64 k ∧ wx.ownsRow w.heap.size 5 1 v (sealB (l.take k)).length (bytv (sealB (l.take k))) ∧ (∀ s ∈ l.take k, s.size ≤ 65536) ∧ Below w.heap.size w wx) (fun _ i _ => n - (intOf i).toNat)
  case atStart => exact ⟨0, Nat.zero_le _, rfl, World.ownsRow_nil _ _ _ _, by simp, Below.refl _ _⟩
  case round =>
    obtain ⟨k, hk, rfl, hown, hfit, hbx⟩ := hrel
    by_cases hlt : k < n
    · obtain ⟨ad, rfl, hab, hs, hc⟩ := hr.str hlt
      have HT := Lib.hid (sealB_take l k hs)
      have hmem := List.getElem_mem hs
      have hlsk := hls _ hmem
      have hsz := sealB_take_len l (k + 1)
      have hft : ∀ h : l[k].size ≤ 65536, ∀ s ∈ l.take (k + 1), s.size ≤ 65536 := fun h s hs' => by
        rw [List.take_succ_eq_append_getElem hs] at hs'
        rcases List.mem_append.1 hs' with h' | h'
        · exact hfit s h'
        · rw [List.mem_singleton.1 h']; exact h
      have hcr : wr.cell? (ad.add k) = some (.string l[k]) := by rw [hbx.cell (by rw [block_add]; exact hab)]; exact hc
      obtain ⟨x, hx⟩ : ∃ x, x = l[k] := ⟨_, rfl⟩
      rw [← hx] at HT hcr hlsk hft hmem
      clear hx hc hfit
      by_cases hxs : x.size ≤ 65536
      · have hft := hft hxs
        have hlx : (sealB (l.take k)).length + (frameB x.data.toList).length ≤ 140737488355328 := by
          rw [HT.out, List.length_append] at hsz; omega
        go_wp2_with fail
        refine (rframe_any _ x hxs).mono ?_
        rintro e w2 ⟨rfl, hb2⟩
        have hown2 := own_below hown hb2
        have hbx2 := hbx.trans (hb2.mono hbx.size)
        obtain ⟨y, hy⟩ : ∃ y : ByteArray, y = ⟨(frameB x.data.toList).toArray⟩ := ⟨_, rfl⟩
        rw [← hy]
        have hyl : y.data.toList = frameB x.data.toList := by rw [hy]
        have hys : y.size = (frameB x.data.toList).length := by rw [hy]; rfl
        rw [← hys] at hlx
        have HYL := Lib.hid hyl
        clear hy hyl hys hown hcr hsz
        go_wp2_with (at_builtin; refine wpList_apps rfl (.tmp 16) (.tmp 18) 38 9 rfl w.heap.size 5 i0 Try.underlying38 Try.underlying9 hi0 hz0 hz1 hz2 _ _ (sealB (l.take k)) y rfl (by exact hown2) rfl ?c1 ?c2 ?_)
        case c1 => exact hlx
        case c2 => exact hbx2.size
        intro v3 w3 hown3 hu3 hat3
        have hown3' : w3.ownsRow w.heap.size 5 1 v3 (sealB (l.take (k + 1))).length (bytv (sealB (l.take (k + 1)))) := by
          rw [HT.out, ← HYL.out, List.length_append]
          have : y.data.toList.length = y.size := by simp
          rw [this]; exact hown3
        have hb3 := below_row hbx2 hbx2.size hown2 (Nat.le_refl _) hu3
        clear hown3 hown2 hu3 hat3 hbx2 hbx hb2
        go_wp2
        go_roundw
        case rel => exact ⟨k + 1, by omega, by go_num, hown3', hft, hb3⟩
        case measure => simp [intOf]; omega
      · have hno := sealR_no hmem hxs
        have hbad : decide ((65536 : Int) < (x.size : Int)) = true := decide_eq_true (by omega)
        go_wp2
        go_ret2
        exact ⟨by rw [hno]; rfl, hbx⟩
    · obtain rfl : k = n := by omega
      rw [← hlen.out, List.take_length] at hown hfit
      have hcv := conv_own (P := Try.prog) (src := 38) (dst := 9) Try.underlying38 Try.underlying5 Try.underlying9 hown
      have hok := sealR_ok hfit
      go_wp2
      go_ret2
      exact ⟨by rw [hok]; rfl, hbx⟩
end Go.Proofs.Ytanieolnaiihmaa
