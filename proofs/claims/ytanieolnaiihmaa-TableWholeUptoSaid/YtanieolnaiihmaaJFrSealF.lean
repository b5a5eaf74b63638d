/- Frames: frame.Seal, walked. -/
import Derived.Test.YtanieolnaiihmaaJFrBuild
namespace Go.Proofs.Ytanieolnaiihmaa
open Go.RowKit

set_option maxRecDepth 20000 in
theorem fsum_two (w : World) (a b : ByteArray) (ha : a.size ≤ 140737488351232) (hb : b.size ≤ 140737488351232) :
    Calls Try.prog 74 #[.slice (some ⟨w.heap.size, 0, none⟩) 2 2] (w.alloc (.cells #[.string a, .string b] 9)) fun e w' => e = .returned (.int .u32 (sumB (a.data.toList ++ b.data.toList) : Int)) ∧ w' = w.alloc (.cells #[.string a, .string b] 9) := by
  have h := fsum_any (w.alloc (.cells #[.string a, .string b] 9)) (some ⟨w.heap.size, 0, none⟩) 2 2 [a, b] (by simpa [strv] using Rd.new (w := w) (size := 1) (n := 2) #[.string a, .string b] 9 rfl) (by omega) (by simp; exact ⟨ha, hb⟩)
  simpa [catB] using h
set_option maxRecDepth 20000 in
theorem fsum_one (w : World) (a : ByteArray) (ha : a.size ≤ 140737488351232) :
    Calls Try.prog 74 #[.slice (some ⟨w.heap.size, 0, none⟩) 1 1] (w.alloc (.cells #[.string a] 9)) fun e w' => e = .returned (.int .u32 (sumB a.data.toList : Int)) ∧ w' = w.alloc (.cells #[.string a] 9) := by
  have h := fsum_any (w.alloc (.cells #[.string a] 9)) (some ⟨w.heap.size, 0, none⟩) 1 1 [a] (by simpa [strv] using Rd.new (w := w) (size := 1) (n := 1) #[.string a] 9 rfl) (by omega) (by simpa using ha)
  simpa [catB] using h
set_option maxHeartbeats 1000000 in
set_option maxRecDepth 20000 in
theorem fseal_any (w : World) (A : Option Addr) (n c : Nat) (l : List ByteArray) (hr : Rd w w.heap.size 1 A n (strv l)) (hl : (sealB l).length ≤ 140737488355328) (hn : n ≤ 17592186044416) (hls : ∀ s ∈ l, s.size ≤ 140737488351232) :
    Calls Try.prog 51 #[.slice A n c] w fun e w' => e = .returned (.tuple #[.string ⟨(sealR l).1.toArray⟩, .int .i64 ((sealR l).2 : Int)]) ∧ Below w.heap.size w w' := by
  have hlen := Lib.hid (show l.length = n by have := hr.len; rw [strv_length] at this; omega)
  go_enter Try.func51, Try.ntmps51
  go_wp2
  go_loopw [10] (fun i wx => ∃ k : Nat, k ≤ n ∧ i = .int .i64 k ∧ Lib.IsBuilder 120 5 w.heap.size w.heap.size (bytv (sealB (l.take k))) wx ∧ (∀ s ∈ l.take k, s.size ≤ 65536) ∧ Below w.heap.size w wx) (fun i _ => n - (intOf i).toNat)
  case atStart => exact ⟨0, Nat.zero_le _, rfl, Lib.fresh_isBuilder _ _ w, by simp, (Below.refl _ _).alloc (Nat.le_refl _) _⟩
  case round =>
    obtain ⟨k, hk, rfl, hib, hfit, hbx⟩ := hrel
    by_cases hlt : k < n
    · obtain ⟨ad, rfl, hab, hs, hc⟩ := hr.str hlt
      have HT := Lib.hid (sealB_take l k hs)
      have hmem := List.getElem_mem hs
      have hlsk := hls _ hmem
      have hsz := sealB_take_len l (k + 1)
      have hft : ∀ h : l[k].size ≤ 65536, ∀ s ∈ l.take (k + 1), s.size ≤ 65536 := fun h s hs' => by
        rw [List.take_succ_eq_append_getElem hs] at hs'
        rcases List.mem_append.1 hs' with h' | h'
        · exact hfit s h'
        · rw [List.mem_singleton.1 h']; exact h
      have hcr : wr.cell? (ad.add k) = some (.string l[k]) := by rw [hbx.cell (by rw [block_add]; exact hab)]; exact hc
      obtain ⟨x, hx⟩ : ∃ x, x = l[k] := ⟨_, rfl⟩
      rw [← hx] at HT hcr hlsk hft hmem
      clear hx hc hfit
      by_cases hxs : x.size ≤ 65536
      · have hft := hft hxs
        have hfl := frameB_len x.data.toList
        have hlx : (sealB (l.take k)).length + (frameB x.data.toList).length ≤ 140737488355328 := by
          rw [HT.out, List.length_append] at hsz; omega
        have hxl : x.data.toList.length = x.size := by simp
        obtain ⟨p, hp⟩ : ∃ p, p = sealB (l.take k) := ⟨_, rfl⟩
        rw [← hp] at hib hlx HT
        have l1 := fourB_len x.size
        have hF := Lib.hid (show frameB x.data.toList = fourB x.size ++ fourB (sumB (fourB x.size ++ x.data.toList)) ++ x.data.toList by unfold frameB; simp)
        have l2 := fourB_len (sumB (fourB x.size ++ x.data.toList))
        have h2 := append_lit (fourB x.size) (fourB (sumB (fourB x.size ++ x.data.toList)))
        have hbase := hbx.size
        rw [hfl, hxl] at hlx
        clear hp hsz hfl
        go_wp2_with fail
        refine (four_any _ x.size (by omega)).mono ?_
        rintro e w2 ⟨rfl, hb2⟩
        have hib2 := isB_below hib hb2
        have hbx2 := bel hbx hb2
        go_wp2_with fail
        refine (fsum_two _ _ x (by show (fourB x.size).toArray.size ≤ _; simp [fourB_len]) (by omega)).mono ?_
        rintro e w3 ⟨rfl, rfl⟩
        have hbA : Below w2.heap.size w2 (w2.alloc (.cells #[Value.string ⟨(fourB x.size).toArray⟩, Value.string x] 9)) := (Below.refl _ _).alloc (Nat.le_refl _) _
        have hib3 := isB_below hib2 hbA
        have hbx3 := bel hbx2 hbA
        clear hib hib2 hbx2 hb2
        go_wp2_with fail
        refine (four_any _ _ (sumB_lt _)).mono ?_
        rintro e w4 ⟨rfl, hb4⟩
        have hib4 := isB_below hib3 hb4
        have hbx4 := bel hbx3 hb4
        clear hib3 hbx3 hb4 hbA
        go_wp2_with fail
        refine (bwrite_any _ _ p _ _ hib4 (by show _ + (fourB x.size ++ fourB (sumB (fourB x.size ++ x.data.toList))).toArray.size ≤ _; rw [List.size_toArray, List.length_append, l1, l2]; omega) hbx4.size).mono ?_
        rintro e w5 ⟨rfl, hib5, hb5⟩
        have hbx5 := hbx4.trans hb5
        clear hib4 hb5 hbx4
        go_wp2_with fail
        refine (bwrite_any _ _ _ _ _ hib5 (by rw [List.length_append]; simp only [List.length_append, l1, l2]; omega) hbx5.size).mono ?_
        rintro e w6 ⟨rfl, hib6, hb6⟩
        have hbx6 := hbx5.trans hb6
        have hib7 : Lib.IsBuilder 120 5 w.heap.size w.heap.size (bytv (sealB (l.take (k + 1)))) w6 := by
          rw [HT.out, hF.out, ← List.append_assoc]
          exact hib6
        clear hib5 hib6 hb6 hbx5
        go_wp2
        go_roundw
        case rel => exact ⟨k + 1, by omega, by go_num, hib7, hft, hbx6⟩
        case measure => simp [intOf]; omega
      · have hno := sealR_no hmem hxs
        have hbad : decide ((65536 : Int) < (x.size : Int)) = true := decide_eq_true (by omega)
        go_wp2
        go_ret2
        exact ⟨by rw [hno]; rfl, hbx⟩
    · obtain rfl : k = n := by omega
      rw [← hlen.out, List.take_length] at hib hfit
      have hok := sealR_ok hfit
      go_wp2_with fail
      refine (bstring_any _ _ _ _ hib hbx.size).mono ?_
      rintro e w2 ⟨rfl, hb2⟩
      have hb := hbx.trans hb2
      go_wp2
      go_ret2
      exact ⟨by rw [hok]; rfl, hb⟩
end Go.Proofs.Ytanieolnaiihmaa
