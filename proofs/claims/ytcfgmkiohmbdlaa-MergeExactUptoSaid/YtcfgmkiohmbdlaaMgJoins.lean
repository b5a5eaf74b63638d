/- Merging versions: the law MergeJoins, walked. -/
import Derived.Test.YtcfgmkiohmbdlaaMgRis
import Derived.Test.YtcfgmkiohmbdlaaSame6
namespace Go.Proofs.Ytcfgmkiohmbdlaa
open Go.RowKit
def MgPost (w : World) (l : List Ent) (e : Ending) (w' : World) : Prop := ∃ A n c, e = .returned (.slice A n c) ∧ Rd w' w'.heap.size 4 A n (entv l) ∧ n ≤ 1073741824 ∧ Below w.heap.size w w'
theorem merge2 {w : World} {A1 A2 : Option Addr} {n1 n2 c1 c2 : Nat} {l1 l2 : List Ent} (h1 : Rd w w.heap.size 4 A1 n1 (entv l1)) (h2 : Rd w w.heap.size 4 A2 n2 (entv l2)) (hs : l1.length + l2.length ≤ 1073741824) :
    Calls Try.prog 12 #[.slice (some ⟨w.heap.size, 0, none⟩) 2 2] (w.alloc (.cells #[.slice A1 n1 c1, .slice A2 n2 c2] 22)) (MgPost w (mergeL (l1 ++ l2))) := by
  have hb0 : Below w.heap.size w (w.alloc (.cells #[.slice A1 n1 c1, .slice A2 n2 c2] 22)) := (Below.refl _ _).alloc (Nat.le_refl _) _
  refine (merge_any _ _ 2 2 _ _ (ls_two (c1 := c1) (c2 := c2) h1 h2) (by decide) (by simp; omega)).mono ?_
  rintro e w' ⟨v, rfl, ho, hb⟩
  obtain ⟨A, c, rfl⟩ := own_shape ho
  have e1 : [l1, l2].flatten = l1 ++ l2 := by simp
  rw [e1] at ho ⊢
  exact ⟨_, _, _, rfl, Rd.own ho, by have := mergeL_len (l1 ++ l2); rw [List.length_append] at this; omega, hb0.trans (hb.mono hb0.size)⟩
theorem merge3 {w : World} {A1 A2 A3 : Option Addr} {n1 n2 n3 c1 c2 c3 : Nat} {l1 l2 l3 : List Ent} (h1 : Rd w w.heap.size 4 A1 n1 (entv l1)) (h2 : Rd w w.heap.size 4 A2 n2 (entv l2)) (h3 : Rd w w.heap.size 4 A3 n3 (entv l3)) (hs : l1.length + l2.length + l3.length ≤ 1073741824) :
    Calls Try.prog 12 #[.slice (some ⟨w.heap.size, 0, none⟩) 3 3] (w.alloc (.cells #[.slice A1 n1 c1, .slice A2 n2 c2, .slice A3 n3 c3] 22)) (MgPost w (mergeL (l1 ++ (l2 ++ l3)))) := by
  have hb0 : Below w.heap.size w (w.alloc (.cells #[.slice A1 n1 c1, .slice A2 n2 c2, .slice A3 n3 c3] 22)) := (Below.refl _ _).alloc (Nat.le_refl _) _
  refine (merge_any _ _ 3 3 _ _ (ls_three (c1 := c1) (c2 := c2) (c3 := c3) h1 h2 h3) (by decide) (by simp; omega)).mono ?_
  rintro e w' ⟨v, rfl, ho, hb⟩
  obtain ⟨A, c, rfl⟩ := own_shape ho
  have e1 : [l1, l2, l3].flatten = l1 ++ (l2 ++ l3) := by simp
  rw [e1] at ho ⊢
  exact ⟨_, _, _, rfl, Rd.own ho, by have := mergeL_len (l1 ++ (l2 ++ l3)); rw [List.length_append, List.length_append] at this; omega, hb0.trans (hb.mono hb0.size)⟩
theorem merge1 {w : World} {A1 : Option Addr} {n1 c1 : Nat} {l1 : List Ent} (h1 : Rd w w.heap.size 4 A1 n1 (entv l1)) (hs : l1.length ≤ 1073741824) :
    Calls Try.prog 12 #[.slice (some ⟨w.heap.size, 0, none⟩) 1 1] (w.alloc (.cells #[.slice A1 n1 c1] 22)) (MgPost w (mergeL l1)) := by
  have hb0 : Below w.heap.size w (w.alloc (.cells #[.slice A1 n1 c1] 22)) := (Below.refl _ _).alloc (Nat.le_refl _) _
  refine (merge_any _ _ 1 1 _ _ (ls_one (c := c1) h1) (by decide) (by simp; omega)).mono ?_
  rintro e w' ⟨v, rfl, ho, hb⟩
  obtain ⟨A, c, rfl⟩ := own_shape ho
  have e1 : [l1].flatten = l1 := by simp
  rw [e1] at ho ⊢
  exact ⟨_, _, _, rfl, Rd.own ho, by have := mergeL_len l1; omega, hb0.trans (hb.mono hb0.size)⟩
theorem same_b {w : World} {A A' : Option Addr} {n n' c c' : Nat} {l l' : List Ent} (h : Rd w w.heap.size 4 A n (entv l)) (h' : Rd w w.heap.size 4 A' n' (entv l')) (e : l = l') (hn : n ≤ 1073741824) :
    Calls Try.prog 14 #[.slice A n c, .slice A' n' c'] w fun e w' => e = .returned (.bool true) ∧ Below w.heap.size w w' := by
  subst e
  obtain rfl : n = n' := (rd_entlen h).trans (rd_entlen h').symm
  refine (same6_yes A A' n c c' w.heap.size l w (by unfold maxLen; omega) h h').mono ?_
  rintro e w' ⟨rfl, m, rfl⟩
  have hb := Below.refl w.heap.size w
  exact ⟨rfl, ⟨hb.os, hb.tape, hb.output, hb.size, hb.block⟩⟩
theorem Rd.go {w w' : World} {size n : Nat} {A : Option Addr} {xs : List Value} (h : Rd w w.heap.size size A n xs) (hb : Below w.heap.size w w') : Rd w' w'.heap.size size A n xs := (h.below hb).mono hb.size
theorem bel_go {w0 w w' : World} (h : Below w0.heap.size w0 w) (hb : Below w.heap.size w w') : Below w0.heap.size w0 w' := h.trans (hb.mono h.size)
set_option maxHeartbeats 8000000 in
set_option maxRecDepth 20000 in
theorem mjoins_any (w : World) (A0 : Option Addr) (n0 c0 : Nat) (a : List Ent) (A1 : Option Addr) (n1 c1 : Nat) (b : List Ent) (A2 : Option Addr) (n2 c2 : Nat) (c : List Ent) (hr0 : Rd w w.heap.size 4 A0 n0 (entv a)) (hr1 : Rd w w.heap.size 4 A1 n1 (entv b)) (hr2 : Rd w w.heap.size 4 A2 n2 (entv c)) (hn0 : n0 ≤ 1048576) (hn1 : n1 ≤ 1048576) (hn2 : n2 ≤ 1048576) :
    Calls Try.prog 4 #[.slice A0 n0 c0, .slice A1 n1 c1, .slice A2 n2 c2] w fun e w' => e = .returned (.bool true) ∧ Below w.heap.size w w' := by
  have la : a.length ≤ 1048576 := by have := rd_entlen hr0; omega
  have lb : b.length ≤ 1048576 := by have := rd_entlen hr1; omega
  have lc : c.length ≤ 1048576 := by have := rd_entlen hr2; omega
  have m1 := mergeL_len (a ++ b)
  have m2 := mergeL_len (b ++ c)
  have m3 := mergeL_len (a ++ (b ++ c))
  simp only [List.length_append] at m1 m2 m3
  have R0 := Lib.hid hr0
  have R1 := Lib.hid hr1
  have R2 := Lib.hid hr2
  have HL := Lib.hid (mlives_any w)
  clear hr0 hr1 hr2
  go_enter Try.func4, Try.ntmps4
  go_wp2_with fail
  refine HL.out.mono ?_
  rintro e w1 ⟨rfl, hb⟩
  have HB1 := Lib.hid hb
  replace R0 := Lib.hid (R0.out.go hb)
  replace R1 := Lib.hid (R1.out.go hb)
  replace R2 := Lib.hid (R2.out.go hb)
  clear hb HL
  go_wp2_with fail
  refine (merge3 R0.out R1.out R2.out (by omega)).mono ?_
  rintro e w2 ⟨Aa, na, ca, rfl, hra, hna, hb⟩
  have HB2 := Lib.hid (bel_go HB1.out hb)
  replace R0 := Lib.hid (R0.out.go hb)
  replace R1 := Lib.hid (R1.out.go hb)
  replace R2 := Lib.hid (R2.out.go hb)
  have RA := Lib.hid hra
  clear hb HB1 hra
  go_wp2_with fail
  refine (rising_any _ _ _ _ _ RA.out (by omega)).mono ?_
  rintro e w3 ⟨r, rfl, hri, hb⟩
  obtain rfl : r = true := hri.2 (rises_merge _)
  have HB3 := Lib.hid (bel_go HB2.out hb)
  replace R0 := Lib.hid (R0.out.go hb)
  replace R1 := Lib.hid (R1.out.go hb)
  replace R2 := Lib.hid (R2.out.go hb)
  replace RA := Lib.hid (RA.out.go hb)
  clear hb HB2 hri
  go_wp2_with fail
  refine (merge2 R0.out R1.out (by omega)).mono ?_
  rintro e w4 ⟨Ax, nx, cx, rfl, hrx, hnx, hb⟩
  have HB4 := Lib.hid (bel_go HB3.out hb)
  replace R0 := Lib.hid (R0.out.go hb)
  replace R1 := Lib.hid (R1.out.go hb)
  replace R2 := Lib.hid (R2.out.go hb)
  replace RA := Lib.hid (RA.out.go hb)
  have RX := Lib.hid hrx
  clear hb HB3 hrx
  go_wp2_with fail
  refine (merge2 RX.out R2.out (by omega)).mono ?_
  rintro e w5 ⟨Ay, ny, cy, rfl, hry, hny, hb⟩
  have HB5 := Lib.hid (bel_go HB4.out hb)
  replace R0 := Lib.hid (R0.out.go hb)
  replace R1 := Lib.hid (R1.out.go hb)
  replace R2 := Lib.hid (R2.out.go hb)
  replace RA := Lib.hid (RA.out.go hb)
  have RY := Lib.hid hry
  clear hb HB4 hry RX
  go_wp2_with fail
  refine (same_b RY.out RA.out (by rw [merge_part, List.append_assoc]) hny).mono ?_
  rintro e w6 ⟨rfl, hb⟩
  have HB6 := Lib.hid (bel_go HB5.out hb)
  replace R0 := Lib.hid (R0.out.go hb)
  replace R1 := Lib.hid (R1.out.go hb)
  replace R2 := Lib.hid (R2.out.go hb)
  replace RA := Lib.hid (RA.out.go hb)
  clear hb HB5 RY
  go_wp2_with fail
  refine (merge2 R1.out R2.out (by omega)).mono ?_
  rintro e w7 ⟨Az, nz, cz, rfl, hrz, hnz, hb⟩
  have HB7 := Lib.hid (bel_go HB6.out hb)
  replace R0 := Lib.hid (R0.out.go hb)
  replace RA := Lib.hid (RA.out.go hb)
  have RZ := Lib.hid hrz
  clear hb HB6 hrz R1 R2
  go_wp2_with fail
  refine (merge2 R0.out RZ.out (by omega)).mono ?_
  rintro e w8 ⟨Au, nu, cu, rfl, hru, hnu, hb⟩
  have HB8 := Lib.hid (bel_go HB7.out hb)
  replace R0 := Lib.hid (R0.out.go hb)
  replace RA := Lib.hid (RA.out.go hb)
  have RU := Lib.hid hru
  clear hb HB7 hru RZ
  go_wp2_with fail
  refine (same_b RU.out RA.out (by rw [merge_part2]) hnu).mono ?_
  rintro e w9 ⟨rfl, hb⟩
  have HB9 := Lib.hid (bel_go HB8.out hb)
  replace R0 := Lib.hid (R0.out.go hb)
  replace RA := Lib.hid (RA.out.go hb)
  clear hb HB8 RU
  go_wp2_with fail
  refine (merge2 RA.out RA.out (by omega)).mono ?_
  rintro e w10 ⟨Av, nv, cv, rfl, hrv, hnv, hb⟩
  have HB10 := Lib.hid (bel_go HB9.out hb)
  replace R0 := Lib.hid (R0.out.go hb)
  replace RA := Lib.hid (RA.out.go hb)
  have RV := Lib.hid hrv
  clear hb HB9 hrv
  go_wp2_with fail
  refine (same_b RV.out RA.out (by rw [merge_twice, mergeL_rise (rise_merge _)]) hnv).mono ?_
  rintro e w11 ⟨rfl, hb⟩
  have HB11 := Lib.hid (bel_go HB10.out hb)
  replace R0 := Lib.hid (R0.out.go hb)
  clear hb HB10 RV RA
  go_wp2_with fail
  refine (merge2 R0.out R0.out (by omega)).mono ?_
  rintro e w12 ⟨Ap, np, cp, rfl, hrp, hnp, hb⟩
  have HB12 := Lib.hid (bel_go HB11.out hb)
  replace R0 := Lib.hid (R0.out.go hb)
  have RP := Lib.hid hrp
  clear hb HB11 hrp
  go_wp2_with fail
  refine (merge1 R0.out (by omega)).mono ?_
  rintro e w13 ⟨Aq, nq, cq, rfl, hrq, hnq, hb⟩
  have HB13 := Lib.hid (bel_go HB12.out hb)
  replace RP := Lib.hid (RP.out.go hb)
  have RQ := Lib.hid hrq
  clear hb HB12 hrq R0
  go_wp2_with fail
  refine (same_b RP.out RQ.out (by rw [merge_twice]) hnp).mono ?_
  rintro e w14 ⟨rfl, hb⟩
  have HB14 := Lib.hid (bel_go HB13.out hb)
  clear hb HB13 RP RQ
  go_wp2
  go_ret
  exact ⟨rfl, HB14.out⟩
end Go.Proofs.Ytcfgmkiohmbdlaa
