/- Cabins: the place of a seat, walked. -/
import Derived.Test.YtppjpledjhinbaaDoorJRbM
import Derived.Test.YtppjpledjhinbaaDoorJCbRSp
import Derived.BigQuiet
import Derived.OrdersHeld
namespace Go.Proofs.YtppjpledjhinbaaDoor
open Go.RowKit Go.Lib
/-- The place of the first spot with that seat; -1: there is none. -/
def idxGo (q : MSeat) : Nat → List MSpot → Int
  | _, [] => -1
  | i, x :: t => if x.seat = q then (i : Int) else idxGo q (i + 1) t
def idxS (L : List MSpot) (q : MSeat) : Int := idxGo q 0 L
theorem idxGo_cases (q : MSeat) : ∀ (L : List MSpot) (i : Nat), (idxGo q i L = -1 ∧ findS L q = none) ∨ ∃ j : Nat, idxGo q i L = ((i + j : Nat) : Int) ∧ ∃ h : j < L.length, L[j].seat = q ∧ findS L q = some L[j] := by
  intro L
  induction L with
  | nil => intro i; exact .inl ⟨rfl, rfl⟩
  | cons x t ih =>
    intro i
    simp only [idxGo]
    by_cases e : x.seat = q
    · rw [if_pos e]
      exact .inr ⟨0, rfl, by simp, by simpa using e, by simp [findS, e]⟩
    · rw [if_neg e]
      rcases ih (i + 1) with ⟨h1, h2⟩ | ⟨j, h1, h, h2, h3⟩
      · exact .inl ⟨h1, by simp [findS] at h2 ⊢; exact ⟨e, h2⟩⟩
      · exact .inr ⟨j + 1, by rw [h1]; congr 1; omega, by simpa using h, by simpa using h2, by
          unfold findS at h3 ⊢
          rw [List.find?_cons, decide_eq_false e]
          simpa using h3⟩
theorem idxS_cases (L : List MSpot) (q : MSeat) : (idxS L q = -1 ∧ findS L q = none) ∨ ∃ j : Nat, idxS L q = (j : Int) ∧ ∃ h : j < L.length, L[j].seat = q ∧ findS L q = some L[j] := by
  rcases idxGo_cases q L 0 with h | ⟨j, h1, h⟩
  · exact .inl h
  · exact .inr ⟨j, by rw [Nat.zero_add] at h1; exact h1, h⟩
theorem idxGo_drop {q : MSeat} {L : List MSpot} {j : Nat} (hj : j < L.length) : idxGo q j (L.drop j) = if L[j].seat = q then (j : Int) else idxGo q (j + 1) (L.drop (j + 1)) := by
  rw [List.drop_eq_getElem_cons hj]; rfl
/-- A closure that asks for a seat. -/
def AsksSeat (g : Nat) : Prop := ∀ (w : World) (s : MSpot) (q : MSeat) (pb : Nat), pb < w.heap.size → w.cell? ⟨pb, 0, none⟩ = some (.int .i64 q.num) → w.cell? ⟨pb, 1, none⟩ = some (.int .u8 (q.ltr.toNat : Int)) →
  Calls Tryd.prog g #[spotV s, .pointer (some ⟨pb, 0, none⟩)] w fun e w' => e = .returned (.bool (decide (s.seat = q))) ∧ Below w.heap.size w w'
set_option maxHeartbeats 4000000 in
set_option maxRecDepth 20000 in
theorem asks1 : AsksSeat 68 := by
  intro w s q pb hpb h0 h1
  obtain ⟨⟨sn, sl⟩, sc, sz, sb, se, sk⟩ := s
  obtain ⟨qn, ql⟩ := q
  obtain ⟨eqb, heqb⟩ : ∃ eqb, decide ((⟨sn, sl⟩ : MSeat) = ⟨qn, ql⟩) = eqb := ⟨_, rfl⟩
  have hse : ∀ V : World, (Op.equalIn 10000 26 (.agg #[.int .i64 sn, .int .u8 (sl.toNat : Int)]) (.agg #[.int .i64 qn, .int .u8 (ql.toNat : Int)])).run Tryd.prog V = .ok eqb V := fun V => by rw [← heqb]; exact seat_eqIn V ⟨sn, sl⟩ ⟨qn, ql⟩
  simp only at h0 h1 ⊢
  rw [heqb]
  have hbw : Below w.heap.size w (w.alloc (.cells #[.int .i64 sn, .int .u8 (sl.toNat : Int), .int .i64 sc, .int .i64 sz, .int .i64 sb, .bool se, .bool sk] 105)) := (Below.refl _ w).alloc (Nat.le_refl _) _
  have HBW := Lib.hid hbw
  clear heqb hbw
  unfold spotV
  simp only
  go_enter Tryd.func68, Tryd.ntmps68
  go_wp2
  go_ret
  exact ⟨rfl, HBW.out⟩
set_option maxHeartbeats 4000000 in
set_option maxRecDepth 20000 in
theorem index1 (w : World) (A : Option Addr) (n c : Nat) (L : List MSpot) (q : MSeat) (pb : Nat) (hr : Rd w w.heap.size 7 A n (catv spotC L)) (hpb : pb < w.heap.size) (h0 : w.cell? ⟨pb, 0, none⟩ = some (.int .i64 q.num)) (h1 : w.cell? ⟨pb, 1, none⟩ = some (.int .u8 (q.ltr.toNat : Int))) (hn : n ≤ 1099511627776) :
    Calls Tryd.prog 67 #[.slice A n c, .func (.func 68) #[] #[.pointer (some ⟨pb, 0, none⟩)]] w fun e w' => e = .returned (.int .i64 (idxS L q)) ∧ Below w.heap.size w w' := by
  obtain rfl := rd_catlen spotC_len (by decide) hr
  obtain ⟨E, hE⟩ : ∃ E, idxS L q = E := ⟨_, rfl⟩
  rw [hE]
  have HE : Hid (E = idxGo q 0 (L.drop 0)) := Lib.hid hE.symm
  have HR := Lib.hid hr
  have HG : Hid (∀ (V : World) (s : MSpot), Below w.heap.size w V → Calls Tryd.prog 68 #[spotV s, .pointer (some ⟨pb, 0, none⟩)] V fun e w' => e = .returned (.bool (decide (s.seat = q))) ∧ Below V.heap.size V w') := Lib.hid (fun V s hV => asks1 V s q pb (Nat.lt_of_lt_of_le hpb hV.size) ((hV.cell (p := ⟨pb, 0, none⟩) hpb).trans h0) ((hV.cell (p := ⟨pb, 1, none⟩) hpb).trans h1))
  clear hr hpb h0 h1 hE
  go_enter Tryd.func67, Tryd.ntmps67
  go_wp2
  go_loopw [8] (fun iv wx => ∃ j : Nat, j ≤ L.length ∧ iv = .int .i64 (j : Int) ∧ Hid (E = idxGo q j (L.drop j)) ∧ Hid (Below w.heap.size w wx)) (fun iv _ => L.length - (intOf iv).toNat)
  case atStart => exact ⟨0, Nat.zero_le _, rfl, HE, Lib.hid (Below.refl _ _)⟩
  case round =>
    obtain ⟨j, hj, rfl, hG, hB⟩ := hrel
    by_cases hlt : j < L.length
    · obtain ⟨gb, off, rfl, hgb, hs, hcc⟩ := (HR.out.below hB.out).elem spotC_len (by decide) hlt
      have hG2 := hG.out
      rw [idxGo_drop hs] at hG2
      obtain ⟨s, hss⟩ : ∃ s, L[j] = s := ⟨_, rfl⟩
      rw [hss] at hcc hG2
      have hC := HG.out wr s hB.out
      obtain ⟨R, hR⟩ : ∃ R, decide (s.seat = q) = R := ⟨_, rfl⟩
      rw [hR] at hC
      have HRR := Lib.hid hR
      have HGG := Lib.hid hG2
      obtain ⟨⟨sn, sl⟩, sc, sz, sb, se, sk⟩ := s
      have c0 := hcc 0 _ rfl
      have c1 := hcc 1 _ rfl
      have c2 := hcc 2 _ rfl
      have c3 := hcc 3 _ rfl
      have c4 := hcc 4 _ rfl
      have c5 := hcc 5 _ rfl
      have c6 := hcc 6 _ rfl
      rw [Nat.add_zero] at c0
      unfold spotV at hC
      simp only at hC
      have HC := Lib.hid hC
      clear hcc hG hG2 hss hR hC
      go_wp2_with fail
      refine HC.out.mono ?_
      rintro e w2 ⟨rfl, hb2⟩
      have HB2 := Lib.hid (hB.out.trans (hb2.mono hB.out.size))
      clear HC hb2 c0 c1 c2 c3 c4 c5 c6
      cases R with
      | true =>
        have HF : Hid (E = (j : Int)) := Lib.hid (by rw [HGG.out, if_pos (of_decide_eq_true HRR.out)])
        clear HGG HRR
        go_wp2
        go_ret
        exact ⟨ret_int HF.out.symm, HB2.out⟩
      | false =>
        have HF : Hid (E = idxGo q (j + 1) (L.drop (j + 1))) := Lib.hid (by rw [HGG.out, if_neg (of_decide_eq_false HRR.out)])
        clear HGG HRR
        go_wp2
        go_roundw
        case rel => exact ⟨j + 1, by omega, by go_num, HF, HB2⟩
        case measure => simp [intOf]; omega
    · have hlz : ¬ (j : Int) < (L.length : Int) := by omega
      have hG2 := hG.out
      rw [List.drop_eq_nil_of_le (by omega)] at hG2
      have HG2 := Lib.hid hG2
      clear hG hG2
      go_wp2
      go_ret
      exact ⟨ret_int HG2.out.symm, hB.out⟩
end Go.Proofs.YtppjpledjhinbaaDoor
/- Cabins: Find and Near, walked. -/
namespace Go.Proofs.YtppjpledjhinbaaDoor
open Go.RowKit Go.Lib
set_option maxHeartbeats 8000000 in
set_option maxRecDepth 20000 in
theorem find_any (w : World) (m : Int) (A : Option Addr) (n c : Nat) (l : List MRow) (q : MSeat) (hr : Rd w w.heap.size 5 A n (catv rowC l)) (hf : ∀ r ∈ l, r.fits) (hLib : LibAt w m) :
    Calls Tryd.prog 51 #[.agg #[.int .i64 q.num, .int .u8 (q.ltr.toNat : Int)], .slice A n c] w fun e w' => e = .returned (.tuple #[spotV (spotAt (spotsL l) q), .bool (findS (spotsL l) q).isSome]) ∧ Below w.heap.size w w' := by
  obtain ⟨qn, ql⟩ := q
  obtain ⟨W, hW⟩ : ∃ W, W = (w.alloc (.cells #[.int .i64 qn, .int .u8 (ql.toNat : Int)] 26)).alloc (.cells #[.int .i64 0, .int .u8 0, .int .i64 0, .int .i64 0, .int .i64 0, .bool false, .bool false] 105) := ⟨_, rfl⟩
  have hbW : Below w.heap.size w W := by rw [hW]; exact ((Below.refl _ w).alloc (Nat.le_refl _) _).alloc (by simp) _
  have b1 : W.heap[w.heap.size]? = some (.cells #[.int .i64 qn, .int .u8 (ql.toNat : Int)] 26 (0, 0)) := by
    rw [hW]; exact (Below.heap_alloc _ _ _ (by simp)).trans (heap_alloc_new w _)
  have b2 : W.heap[w.heap.size + 1]? = some (.cells #[.int .i64 0, .int .u8 0, .int .i64 0, .int .i64 0, .int .i64 0, .bool false, .bool false] 105 (0, 0)) := by
    have := heap_alloc_new (w.alloc (.cells #[.int .i64 qn, .int .u8 (ql.toNat : Int)] 26)) (.cells #[.int .i64 0, .int .u8 0, .int .i64 0, .int .i64 0, .int .i64 0, .bool false, .bool false] 105)
    rw [show (w.alloc (.cells #[.int .i64 qn, .int .u8 (ql.toNat : Int)] 26)).heap.size = w.heap.size + 1 by simp] at this
    rw [hW]; exact this
  have hl66 := spots_len l
  obtain ⟨L, hL⟩ : ∃ L, spotsL l = L := ⟨_, rfl⟩
  have hSp := spots_any W m A n c l ((hr.below hbW).mono hbW.size) hf (hLib.below hbW)
  rw [hL] at hSp hl66 ⊢
  have HSP := Lib.hid hSp
  have HBW := Lib.hid hbW
  have H1 := Lib.hid b1
  have H2 := Lib.hid b2
  clear hSp hbW b1 b2 hL hr hf hLib
  obtain ⟨R, hR⟩ : ∃ R, spotAt L ⟨qn, ql⟩ = R := ⟨_, rfl⟩
  obtain ⟨K, hK⟩ : ∃ K, (findS L ⟨qn, ql⟩).isSome = K := ⟨_, rfl⟩
  rw [hR, hK]
  have HR := Lib.hid hR
  have HK := Lib.hid hK
  clear hR hK
  go_enter Tryd.func51, Tryd.ntmps51
  go_wp2_with fail
  rw [← hW]
  clear hW
  refine HSP.out.mono ?_
  rintro e w2 ⟨v, rfl, ho, hb2⟩
  obtain ⟨A2, c2, rfl, hrd⟩ := own_rd ho
  have x1 := box_keep H1.out (Upd.of_below (S := fun _ => False) hb2) id
  have hI := index1 w2 A2 L.length c2 L ⟨qn, ql⟩ w.heap.size hrd (Array.getElem?_eq_some_iff.1 x1).1 (by rw [cell_of_row _ _ 0 _ _ _ x1]; rfl) (by rw [cell_of_row _ _ 1 _ _ _ x1]; rfl) (by omega)
  obtain ⟨E, hE⟩ : ∃ E, idxS L ⟨qn, ql⟩ = E := ⟨_, rfl⟩
  rw [hE] at hI
  have HI := Lib.hid hI
  have HE := Lib.hid hE
  have HA := Lib.hid hrd
  have HB2 := Lib.hid (bel_on2 HBW.out hb2)
  have HX2 := Lib.hid (box_keep H2.out (Upd.of_below (S := fun _ => False) hb2) id)
  clear ho hrd hb2 H1 H2 HBW HSP x1 hI hE
  go_wp2_with fail
  refine HI.out.mono ?_
  rintro e w3 ⟨rfl, hb3⟩
  have x2 := box_keep HX2.out (Upd.of_below (S := fun _ => False) hb3) id
  have hbw : Below w.heap.size w w3 := bel_on2 HB2.out hb3
  have HRD := Lib.hid (HA.out.below hb3)
  have HBR := Lib.hid hbw
  have HXW := Lib.hid x2
  have hwr : w.heap.size + 1 < w3.heap.size := (Array.getElem?_eq_some_iff.1 x2).1
  clear hb3 HI HX2 hbw
  rcases idxS_cases L ⟨qn, ql⟩ with ⟨h1, h2⟩ | ⟨j, h1, hj, h2, h3⟩
  · obtain rfl : E = -1 := HE.out.symm.trans h1
    have HR2 : Hid (R = spotZ) := Lib.hid (by rw [← HR.out]; unfold spotAt; rw [h2]; rfl)
    have HK2 : Hid (K = false) := Lib.hid (by rw [← HK.out, h2]; rfl)
    have r0 : w3.cell? ⟨w.heap.size + 1, 0, none⟩ = some (.int .i64 0) := by rw [cell_of_row _ _ 0 _ _ _ x2]; rfl
    have f0 : w3.frozen? ⟨w.heap.size + 1, 0, none⟩ = false := frozen_of_row _ _ _ _ _ x2
    have r1 : w3.cell? ⟨w.heap.size + 1, 1, none⟩ = some (.int .u8 0) := by rw [cell_of_row _ _ 1 _ _ _ x2]; rfl
    have f1 : w3.frozen? ⟨w.heap.size + 1, 1, none⟩ = false := frozen_of_row _ _ _ _ _ x2
    have r2 : w3.cell? ⟨w.heap.size + 1, 2, none⟩ = some (.int .i64 0) := by rw [cell_of_row _ _ 2 _ _ _ x2]; rfl
    have f2 : w3.frozen? ⟨w.heap.size + 1, 2, none⟩ = false := frozen_of_row _ _ _ _ _ x2
    have r3 : w3.cell? ⟨w.heap.size + 1, 3, none⟩ = some (.int .i64 0) := by rw [cell_of_row _ _ 3 _ _ _ x2]; rfl
    have f3 : w3.frozen? ⟨w.heap.size + 1, 3, none⟩ = false := frozen_of_row _ _ _ _ _ x2
    have r4 : w3.cell? ⟨w.heap.size + 1, 4, none⟩ = some (.int .i64 0) := by rw [cell_of_row _ _ 4 _ _ _ x2]; rfl
    have f4 : w3.frozen? ⟨w.heap.size + 1, 4, none⟩ = false := frozen_of_row _ _ _ _ _ x2
    have r5 : w3.cell? ⟨w.heap.size + 1, 5, none⟩ = some (.bool false) := by rw [cell_of_row _ _ 5 _ _ _ x2]; rfl
    have f5 : w3.frozen? ⟨w.heap.size + 1, 5, none⟩ = false := frozen_of_row _ _ _ _ _ x2
    have r6 : w3.cell? ⟨w.heap.size + 1, 6, none⟩ = some (.bool false) := by rw [cell_of_row _ _ 6 _ _ _ x2]; rfl
    have f6 : w3.frozen? ⟨w.heap.size + 1, 6, none⟩ = false := frozen_of_row _ _ _ _ _ x2
    have RR : Hid ((((((((w3.setCell ⟨w.heap.size + 1, 0, none⟩ (.int .i64 0)).setCell ⟨w.heap.size + 1, 1, none⟩ (.int .u8 0)).setCell ⟨w.heap.size + 1, 2, none⟩ (.int .i64 0)).setCell ⟨w.heap.size + 1, 3, none⟩ (.int .i64 0)).setCell ⟨w.heap.size + 1, 4, none⟩ (.int .i64 0)).setCell ⟨w.heap.size + 1, 5, none⟩ (.bool false)).setCell ⟨w.heap.size + 1, 6, none⟩ (.bool false)).heap[w.heap.size + 1]? = some (.cells #[.int .i64 0, .int .u8 0, .int .i64 0, .int .i64 0, .int .i64 0, .bool false, .bool false] 105 (0, 0))) := Lib.hid (heap_setCell_same _ _ 6 _ _ _ (heap_setCell_same _ _ 5 _ _ _ (heap_setCell_same _ _ 4 _ _ _ (heap_setCell_same _ _ 3 _ _ _ (heap_setCell_same _ _ 2 _ _ _ (heap_setCell_same _ _ 1 _ _ _ (heap_setCell_same _ _ 0 _ _ _ HXW.out)))))))
    have kinfo : (Tryd.prog.info? 105).map (·.size) = some 7 := by kernel_rfl
    clear h1 h2 x2 HE
    go_wp2_with fail
    refine bodyPost_ret (results_cell_tmp_row rfl _ _ (w.heap.size + 1) 105 #[.int .i64 0, .int .u8 0, .int .i64 0, .int .i64 0, .int .i64 0, .bool false, .bool false] (0, 0) _ rfl RR.out Tryd.underlying105 rfl kinfo) rfl ?_
    refine ⟨?_, ?_⟩
    · rw [HR2.out, HK2.out]; rfl
    · exact HBR.out.trans (((((((((Upd.refl (fun k => k = w.heap.size + 1) w3).setCell ⟨w.heap.size + 1, 0, none⟩ rfl _).setCell ⟨w.heap.size + 1, 1, none⟩ rfl _).setCell ⟨w.heap.size + 1, 2, none⟩ rfl _).setCell ⟨w.heap.size + 1, 3, none⟩ rfl _).setCell ⟨w.heap.size + 1, 4, none⟩ rfl _).setCell ⟨w.heap.size + 1, 5, none⟩ rfl _).setCell ⟨w.heap.size + 1, 6, none⟩ rfl _).below (fun k hk e => by omega) HBR.out.size)
  · obtain rfl : E = (j : Int) := HE.out.symm.trans h1
    obtain ⟨gb, off, rfl, hgb, hs, hcc⟩ := HRD.out.elem spotC_len (by decide) hj
    have HR2 : Hid (R = L[j]) := Lib.hid (by rw [← HR.out]; unfold spotAt; rw [h3]; rfl)
    have HK2 : Hid (K = true) := Lib.hid (by rw [← HK.out, h3]; rfl)
    obtain ⟨s, hss⟩ : ∃ s, L[j] = s := ⟨_, rfl⟩
    rw [hss] at hcc HR2
    obtain ⟨⟨sn, sl⟩, sc, sz, sb, se, sk⟩ := s
    have c0 := hcc 0 _ rfl
    have c1 := hcc 1 _ rfl
    have c2 := hcc 2 _ rfl
    have c3 := hcc 3 _ rfl
    have c4 := hcc 4 _ rfl
    have c5 := hcc 5 _ rfl
    have c6 := hcc 6 _ rfl
    rw [Nat.add_zero] at c0
    have r0 : w3.cell? ⟨w.heap.size + 1, 0, none⟩ = some (.int .i64 0) := by rw [cell_of_row _ _ 0 _ _ _ x2]; rfl
    have f0 : w3.frozen? ⟨w.heap.size + 1, 0, none⟩ = false := frozen_of_row _ _ _ _ _ x2
    have r1 : w3.cell? ⟨w.heap.size + 1, 1, none⟩ = some (.int .u8 0) := by rw [cell_of_row _ _ 1 _ _ _ x2]; rfl
    have f1 : w3.frozen? ⟨w.heap.size + 1, 1, none⟩ = false := frozen_of_row _ _ _ _ _ x2
    have r2 : w3.cell? ⟨w.heap.size + 1, 2, none⟩ = some (.int .i64 0) := by rw [cell_of_row _ _ 2 _ _ _ x2]; rfl
    have f2 : w3.frozen? ⟨w.heap.size + 1, 2, none⟩ = false := frozen_of_row _ _ _ _ _ x2
    have r3 : w3.cell? ⟨w.heap.size + 1, 3, none⟩ = some (.int .i64 0) := by rw [cell_of_row _ _ 3 _ _ _ x2]; rfl
    have f3 : w3.frozen? ⟨w.heap.size + 1, 3, none⟩ = false := frozen_of_row _ _ _ _ _ x2
    have r4 : w3.cell? ⟨w.heap.size + 1, 4, none⟩ = some (.int .i64 0) := by rw [cell_of_row _ _ 4 _ _ _ x2]; rfl
    have f4 : w3.frozen? ⟨w.heap.size + 1, 4, none⟩ = false := frozen_of_row _ _ _ _ _ x2
    have r5 : w3.cell? ⟨w.heap.size + 1, 5, none⟩ = some (.bool false) := by rw [cell_of_row _ _ 5 _ _ _ x2]; rfl
    have f5 : w3.frozen? ⟨w.heap.size + 1, 5, none⟩ = false := frozen_of_row _ _ _ _ _ x2
    have r6 : w3.cell? ⟨w.heap.size + 1, 6, none⟩ = some (.bool false) := by rw [cell_of_row _ _ 6 _ _ _ x2]; rfl
    have f6 : w3.frozen? ⟨w.heap.size + 1, 6, none⟩ = false := frozen_of_row _ _ _ _ _ x2
    have RR : Hid ((((((((w3.setCell ⟨w.heap.size + 1, 0, none⟩ (.int .i64 sn)).setCell ⟨w.heap.size + 1, 1, none⟩ (.int .u8 (sl.toNat : Int))).setCell ⟨w.heap.size + 1, 2, none⟩ (.int .i64 sc)).setCell ⟨w.heap.size + 1, 3, none⟩ (.int .i64 sz)).setCell ⟨w.heap.size + 1, 4, none⟩ (.int .i64 sb)).setCell ⟨w.heap.size + 1, 5, none⟩ (.bool se)).setCell ⟨w.heap.size + 1, 6, none⟩ (.bool sk)).heap[w.heap.size + 1]? = some (.cells #[.int .i64 sn, .int .u8 (sl.toNat : Int), .int .i64 sc, .int .i64 sz, .int .i64 sb, .bool se, .bool sk] 105 (0, 0))) := Lib.hid (heap_setCell_same _ _ 6 _ _ _ (heap_setCell_same _ _ 5 _ _ _ (heap_setCell_same _ _ 4 _ _ _ (heap_setCell_same _ _ 3 _ _ _ (heap_setCell_same _ _ 2 _ _ _ (heap_setCell_same _ _ 1 _ _ _ (heap_setCell_same _ _ 0 _ _ _ HXW.out)))))))
    have kinfo : (Tryd.prog.info? 105).map (·.size) = some 7 := by kernel_rfl
    have hj0 : (0 : Int) ≤ (j : Int) := by omega
    have hjz : (j : Int) < (L.length : Int) := by omega
    have hjd : decide ((j : Int) < 0) = false := decide_eq_false (by omega)
    clear h1 h2 h3 x2 HE hcc hss
    go_wp2_with fail
    refine bodyPost_ret (results_cell_tmp_row rfl _ _ (w.heap.size + 1) 105 #[.int .i64 sn, .int .u8 (sl.toNat : Int), .int .i64 sc, .int .i64 sz, .int .i64 sb, .bool se, .bool sk] (0, 0) _ rfl RR.out Tryd.underlying105 rfl kinfo) rfl ?_
    refine ⟨?_, ?_⟩
    · rw [HR2.out, HK2.out]; rfl
    · exact HBR.out.trans (((((((((Upd.refl (fun k => k = w.heap.size + 1) w3).setCell ⟨w.heap.size + 1, 0, none⟩ rfl _).setCell ⟨w.heap.size + 1, 1, none⟩ rfl _).setCell ⟨w.heap.size + 1, 2, none⟩ rfl _).setCell ⟨w.heap.size + 1, 3, none⟩ rfl _).setCell ⟨w.heap.size + 1, 4, none⟩ rfl _).setCell ⟨w.heap.size + 1, 5, none⟩ rfl _).setCell ⟨w.heap.size + 1, 6, none⟩ rfl _).below (fun k hk e => by omega) HBR.out.size)
end Go.Proofs.YtppjpledjhinbaaDoor
/- Cabins: Blocks, walked. -/
namespace Go.Proofs.YtppjpledjhinbaaDoor
open Go.RowKit Go.Lib
set_option maxHeartbeats 16000000 in
set_option maxRecDepth 20000 in
theorem blocks_any (w : World) (m : Int) (A : Option Addr) (n c : Nat) (l : List MRow) (hr : Rd w w.heap.size 5 A n (catv rowC l)) (hf : ∀ r ∈ l, r.fits) (hLib : LibAt w m) :
    Calls Tryd.prog 50 #[.slice A n c] w (BlkAns w (spotsL l)) := by
  obtain ⟨i0, hi0, hz0, hz1, hz2⟩ := info_parts seat_info
  obtain ⟨i1, hi1, hy0, hy1, hy2⟩ := info_parts blk_info
  have HSP := Lib.hid (spots_any w m A n c l hr hf hLib)
  have HNX := Lib.hid (fun j (hj : j < (spotsL l).length) => blk_next l j hj)
  have HAT := Lib.hid (fun j (hj : j ≤ (spotsL l).length) => (blks_all (spotsL l) j hj (spots_go l).1 (spots_go l).2).1)
  have hl66 := spots_len l
  obtain ⟨L, hL⟩ : ∃ L, spotsL l = L := ⟨_, rfl⟩
  rw [hL] at HSP hl66 ⊢
  have HNX2 : Hid (∀ j (hj : j < L.length), 0 ≤ L[j].blk ∧ (L[j].blk < ((blocksOf (L.take j)).length : Int) ∨ L[j].blk = ((blocksOf (L.take j)).length : Int))) := Lib.hid (by subst hL; exact HNX.out)
  have HAT2 : Hid (∀ j (hj : j ≤ L.length), BlksAt (L.take j) (blocksOf (L.take j))) := Lib.hid (by subst hL; exact HAT.out)
  clear hr hf hLib hL HNX HAT
  go_enter Tryd.func50, Tryd.ntmps50
  go_wp2_with fail
  refine HSP.out.mono ?_
  rintro e w4 ⟨v, rfl, ho, hb4⟩
  obtain ⟨A2, c2, rfl, hrd⟩ := own_rd ho
  have HA := Lib.hid hrd
  have HB4 := Lib.hid hb4
  clear ho hrd hb4 HSP
  go_wp2
  go_loopw [3, 9] (fun ov iv wx => ∃ (j : Nat) (vs : List Value), j ≤ L.length ∧ iv = .int .i64 (j : Int) ∧ Hid (BlkRow wx w4.heap.size ov (blocksOf (L.take j)) vs) ∧ Hid (Below w4.heap.size w4 wx)) (fun _ iv _ => L.length - (intOf iv).toNat)
  case atStart => exact ⟨0, [], Nat.zero_le _, rfl, Lib.hid (BlkRow.nil _ _), Lib.hid (Below.refl _ _)⟩
  case round =>
    obtain ⟨j, vs, hj, rfl, hR, hB⟩ := hrel
    by_cases hlt : j < L.length
    · obtain ⟨gb, off, rfl, hgb, hs, hcc⟩ := (HA.out.below hB.out).elem spotC_len (by decide) hlt
      obtain ⟨hn0, hn1⟩ := HNX2.out j hs
      have htk : blocksOf (L.take (j + 1)) = stepB (blocksOf (L.take j)) L[j] := by rw [List.take_succ_eq_append_getElem hs, blocksOf_snoc]
      have hat1 := HAT2.out (j + 1) (by omega)
      rw [htk] at hat1
      have htl : (L.take (j + 1)).length ≤ 66 := by simp; omega
      have hol : (blocksOf (L.take j)).length ≤ 66 := Nat.le_trans (blocksOf_len _) (by simp; omega)
      obtain ⟨x, hss⟩ : ∃ x, L[j] = x := ⟨_, rfl⟩
      rw [hss] at hcc hn0 hn1 htk hat1
      obtain ⟨out, hout⟩ : ∃ out, blocksOf (L.take j) = out := ⟨_, rfl⟩
      rw [hout] at hn1 htk hat1 hR hol
      obtain ⟨⟨sn, sl⟩, sc, sz, sb, se, sk⟩ := x
      obtain ⟨b0, rfl⟩ : ∃ b0 : Nat, sb = (b0 : Int) := ⟨sb.toNat, by simp only at hn0; omega⟩
      have c0 := hcc 0 _ rfl
      have c1 := hcc 1 _ rfl
      have c2 := hcc 2 _ rfl
      have c3 := hcc 3 _ rfl
      have c4 := hcc 4 _ rfl
      have c5 := hcc 5 _ rfl
      have c6 := hcc 6 _ rfl
      rw [Nat.add_zero] at c0
      obtain ⟨V, hV⟩ : ∃ V, V = wr.alloc (.cells #[.int .i64 sn, .int .u8 (sl.toNat : Int), .int .i64 sc, .int .i64 sz, .int .i64 (b0 : Int), .bool se, .bool sk] 105) := ⟨_, rfl⟩
      have hbV : Below wr.heap.size wr V := by rw [hV]; exact (Below.refl _ _).alloc (Nat.le_refl _) _
      have bV : V.heap[wr.heap.size]? = some (.cells #[.int .i64 sn, .int .u8 (sl.toNat : Int), .int .i64 sc, .int .i64 sz, .int .i64 (b0 : Int), .bool se, .bool sk] 105 (0, 0)) := by rw [hV]; exact heap_alloc_new wr _
      obtain ⟨xb, hxb⟩ : ∃ xb, wr.heap.size = xb := ⟨_, rfl⟩
      have hxV : V.heap.size = xb + 1 := by rw [hV]; simp; omega
      rw [hxb] at bV
      have hRV := hR.out.below hbV
      obtain ⟨A3, cq, rfl⟩ := own_shape hR.out.row
      have hno : (∀ k, (Value.slice A3 out.length cq).ownBlock = some k → k < xb) ∧ ∀ (i : Nat) (u : Value) (k : Nat), vs[i]? = some u → u.ownBlock = some k → k < xb := by
        refine ⟨fun k e => by have := (hR.out.row.lt k e).2; omega, fun i u k h e => ?_⟩
        have hi : i < out.length := by rw [← hR.out.len]; exact (List.getElem?_eq_some_iff.1 h).1
        have := ((hR.out.own i hi u h).lt k e).2
        omega
      have hbV4 : Below w4.heap.size w4 V := hB.out.trans (hbV.mono hB.out.size)
      obtain ⟨N, hN⟩ : ∃ N, newBlk out ⟨⟨sn, sl⟩, sc, sz, (b0 : Int), se, sk⟩ = N := ⟨_, rfl⟩
      have hNl : N.length ≤ 67 ∧ out.length ≤ N.length := by rw [← hN]; unfold newBlk; split <;> simp <;> omega
      have hstep : stepB out ⟨⟨sn, sl⟩, sc, sz, (b0 : Int), se, sk⟩ = if sk = true then N else N.modify b0 fun x => { x with seats := x.seats ++ [⟨sn, sl⟩] } := by
        unfold stepB addSeat
        rw [hN]
        rfl
      have HNB : Hid (∀ i (h : i < N.length), (N[i]).seats.length ≤ 66) := Lib.hid (by
        have hRR := hR.out
        intro i hi
        rw [← hN] at hi
        subst hN
        have hA0 := HAT2.out j (by omega)
        rw [hout] at hA0
        by_cases hi2 : i < out.length
        · have e : (newBlk out ⟨⟨sn, sl⟩, sc, sz, (b0 : Int), se, sk⟩)[i] = out[i] := by
            unfold newBlk
            split
            · rw [List.getElem_append_left hi2]
            · rfl
          rw [e, hA0.seats i hi2, List.length_map]
          exact Nat.le_trans (List.length_filter_le _ _) (by simp; omega)
        · have hw : newBlk out ⟨⟨sn, sl⟩, sc, sz, (b0 : Int), se, sk⟩ = out ++ [⟨sc, sn, se, []⟩] := by
            unfold newBlk at hi ⊢
            split at hi
            · rename_i h; rw [if_pos h]
            · omega
          have e : (newBlk out ⟨⟨sn, sl⟩, sc, sz, (b0 : Int), se, sk⟩)[i] = ⟨sc, sn, se, []⟩ := by
            simp only [hw]
            rw [List.getElem_append_right (by omega)]
            simp
          rw [e]; simp)
      have hbN : b0 < N.length := by
        rw [← hN]; unfold newBlk
        simp only at hn1
        split
        · rename_i h; simp only at h; rw [List.length_append]; simp; omega
        · rename_i h; simp only at h; omega
      rw [hstep] at htk
      have HTK0 := Lib.hid htk
      have HRV := Lib.hid hRV
      have HNO := Lib.hid hno
      have HXV := Lib.hid bV
      have HBV := Lib.hid hbV4
      have HNE := Lib.hid hN
      simp only at hn1
      have HVS := Lib.hid hxV
      have hxl : xb < V.heap.size := by omega
      clear hxV hcc hR hB hss hout htk hat1 hstep hRV hno bV hbV hbV4 hn0 hN htl
      go_upto_region 5 with (fail)
      rw [← hV]
      clear hV c0 c1 c2 c3 c4 c5 c6 hxb
      have x0 : V.cell? ⟨xb, 0, none⟩ = some (.int .i64 sn) := by rw [cell_of_row _ _ 0 _ _ _ HXV.out]; rfl
      have x2 : V.cell? ⟨xb, 2, none⟩ = some (.int .i64 sc) := by rw [cell_of_row _ _ 2 _ _ _ HXV.out]; rfl
      have x4 : V.cell? ⟨xb, 4, none⟩ = some (.int .i64 (b0 : Int)) := by rw [cell_of_row _ _ 4 _ _ _ HXV.out]; rfl
      have x5 : V.cell? ⟨xb, 5, none⟩ = some (.bool se) := by rw [cell_of_row _ _ 5 _ _ _ HXV.out]; rfl
      obtain ⟨eqb, heqb⟩ : ∃ eqb, ((b0 : Int) == (out.length : Int)) = eqb := ⟨_, rfl⟩
      go_cut [17] (fun v wc => v = .bool eqb ∧ Hid (V = wc))
      case first =>
        go_wp2_with fail
        go_meet
        exact ⟨rfl, Lib.hid rfl⟩
      case rest =>
      obtain ⟨rfl, hwc⟩ := hcut
      have hwc2 := hwc.out
      subst hwc2
      clear hwc
      go_step
      go_cut [3] (fun v wc => ∃ (g cap : Nat) (vs' : List Value), v = .slice (some ⟨g, 0, none⟩) N.length cap ∧ Hid (BlkRow wc w4.heap.size (.slice (some ⟨g, 0, none⟩) N.length cap) N vs') ∧ Hid (g ≠ xb ∧ ∀ (i : Nat) (u : Value) (k : Nat), vs'[i]? = some u → u.ownBlock = some k → k ≠ xb) ∧ Hid (wc.heap[xb]? = some (.cells #[.int .i64 sn, .int .u8 (sl.toNat : Int), .int .i64 sc, .int .i64 sz, .int .i64 (b0 : Int), .bool se, .bool sk] 105 (0, 0))) ∧ Hid (Below w4.heap.size w4 wc))
      case first =>
        cases eqb with
        | true =>
          have hnb : b0 = out.length := by have := beq_iff_eq.1 heqb; omega
          clear heqb
          have hNN : N = out ++ [⟨sc, sn, se, []⟩] := by rw [← HNE.out]; unfold newBlk; rw [if_pos (by simp only; omega)]
          go_wp2_with (at_builtin; refine wpList_push rfl (.tmp 18) (.tmp 27) 85 rfl w4.heap.size 94 i1 _ 4 48 Tryd.underlying85 hi1 hy0 hy1 hy2 rfl (by omega) _ out.length (catv blkC (out.zip vs)) #[.int .i64 sc, .int .i64 sn, .bool se, .slice none 0 0] rfl (by exact HRV.out.row) rfl rfl (by simp [Value.oneCell']) ?d1 ?d2 ?d3 ?_)
          case d1 => omega
          case d2 => unfold maxLen; omega
          all_goals try (exact HBV.out.size)
          intro v3 w3 ho3 hu3 hat3
          obtain ⟨g, cap, rfl, -, -, -, -⟩ := own_form ho3 (by omega)
          have hRN := HRV.out.new (b := ⟨sc, sn, se, []⟩) rfl ho3 hu3 hat3
          rw [← hNN] at hRN
          have hNe : out.length + 1 = N.length := by rw [hNN]; simp
          rw [hNe] at hRN
          have hx3 : w3.heap[xb]? = some (.cells #[.int .i64 sn, .int .u8 (sl.toNat : Int), .int .i64 sc, .int .i64 sz, .int .i64 (b0 : Int), .bool se, .bool sk] 105 (0, 0)) := (hu3.block xb hxl (fun e => by have := HNO.out.1 xb e; omega)).trans HXV.out
          have hb3 : Below w4.heap.size w4 w3 := HBV.out.trans (hu3.below (fun k hk e => by have := (HRV.out.row.lt k e).1; omega) HBV.out.size)
          have hg3 : g ≠ xb := by
            intro e
            rcases hat3 with h | ⟨k, hk, h⟩
            · have := HNO.out.1 g (h.symm.trans rfl); omega
            · have : g = k := by simpa [Value.ownBlock] using h
              have := HVS.out
              omega
          have hno3 : ∀ (i : Nat) (u : Value) (k : Nat), (vs ++ [Value.slice none 0 0])[i]? = some u → u.ownBlock = some k → k ≠ xb := by
            intro i u k h e
            by_cases hi : i < vs.length
            · rw [List.getElem?_append_left hi] at h
              have := HNO.out.2 i u k h e; omega
            · rw [List.getElem?_append_right (by omega)] at h
              have hlt := (List.getElem?_eq_some_iff.1 h).1
              simp at hlt
              rw [show i - vs.length = 0 by omega] at h
              simp at h
              rw [← h] at e
              cases e
          rw [hNe]
          have HF := Lib.hid (show ∃ (g' cap' : Nat) (vs' : List Value), (Value.slice (some ⟨g, 0, none⟩) N.length cap) = .slice (some ⟨g', 0, none⟩) N.length cap' ∧ Hid (BlkRow w3 w4.heap.size (.slice (some ⟨g', 0, none⟩) N.length cap') N vs') ∧ Hid (g' ≠ xb ∧ ∀ (i : Nat) (u : Value) (k : Nat), vs'[i]? = some u → u.ownBlock = some k → k ≠ xb) ∧ Hid (w3.heap[xb]? = some (.cells #[.int .i64 sn, .int .u8 (sl.toNat : Int), .int .i64 sc, .int .i64 sz, .int .i64 (b0 : Int), .bool se, .bool sk] 105 (0, 0))) ∧ Hid (Below w4.heap.size w4 w3) from ⟨g, cap, _, rfl, Lib.hid hRN, Lib.hid ⟨hg3, hno3⟩, Lib.hid hx3, Lib.hid hb3⟩)
          clear ho3 hu3 hat3 hRN hx3 hb3 hg3 hno3
          go_wp2_with fail
          go_meet
          exact HF.out
        | false =>
          have hnb : ¬ b0 = out.length := by have := beq_eq_false_iff_ne.1 heqb; omega
          clear heqb
          have hNN : N = out := by rw [← HNE.out]; unfold newBlk; rw [if_neg (by simp only; omega)]
          obtain ⟨g, cap, e3, -, -, -, -⟩ := own_form HRV.out.row (by omega)
          injection e3 with e3 _ e4
          subst e3
          subst e4
          have HF := Lib.hid (show ∃ (g' cap' : Nat) (vs' : List Value), (Value.slice (some ⟨g, 0, none⟩) out.length cq) = .slice (some ⟨g', 0, none⟩) N.length cap' ∧ Hid (BlkRow V w4.heap.size (.slice (some ⟨g', 0, none⟩) N.length cap') N vs') ∧ Hid (g' ≠ xb ∧ ∀ (i : Nat) (u : Value) (k : Nat), vs'[i]? = some u → u.ownBlock = some k → k ≠ xb) ∧ Hid (V.heap[xb]? = some (.cells #[.int .i64 sn, .int .u8 (sl.toNat : Int), .int .i64 sc, .int .i64 sz, .int .i64 (b0 : Int), .bool se, .bool sk] 105 (0, 0))) ∧ Hid (Below w4.heap.size w4 V) from by
            rw [hNN]
            exact ⟨g, cq, vs, rfl, HRV, Lib.hid ⟨by have := HNO.out.1 g rfl; omega, fun i u k h e => by have := HNO.out.2 i u k h e; omega⟩, HXV, HBV⟩)
          go_wp2_with fail
          go_meet
          exact HF.out
      case rest =>
        obtain ⟨g, cap, vs', rfl, hR2, hno2, hxc, hB2⟩ := hcut
        clear HRV HNO HXV HBV HNE x0 x2 x4 x5
        have y6 : wc.cell? ⟨xb, 6, none⟩ = some (.bool sk) := by rw [cell_of_row _ _ 6 _ _ _ hxc.out]; rfl
        cases sk with
        | true =>
          have HTK : Hid (blocksOf (L.take (j + 1)) = N) := Lib.hid (by rw [HTK0.out]; rfl)
          go_wp2
          go_roundw
          case rel => exact ⟨j + 1, vs', by omega, by go_num, Lib.hid (by rw [HTK.out]; exact hR2.out), hB2⟩
          case measure => simp [intOf]; omega
        | false =>
          have HTK : Hid (blocksOf (L.take (j + 1)) = N.modify b0 fun x => { x with seats := x.seats ++ [⟨sn, sl⟩] }) := Lib.hid (by rw [HTK0.out]; rfl)
          obtain ⟨u, hvb⟩ := hR2.out.at_ hbN
          have hou := hR2.out.own b0 hbN u hvb
          have hsq66 := HNB.out b0 hbN
          obtain ⟨sq, hsq⟩ : ∃ sq, (N[b0]).seats = sq := ⟨_, rfl⟩
          rw [hsq] at hou hsq66
          obtain ⟨Au, ku, rfl⟩ := own_shape hou
          have HSQ := Lib.hid hsq
          have HOU := Lib.hid hou
          have HOFF : Hid (¬ (Value.slice Au sq.length ku).ownBlock = some g) := Lib.hid (fun e => hR2.out.off b0 _ g hvb e rfl)
          have hgl := hR2.out.row.lt g rfl
          have hzl : b0 < (N.zip vs').length := by rw [List.length_zip, hR2.out.len]; omega
          obtain ⟨_, _, he, _, hsz, hrc⟩ := (Rd.own hR2.out.row).elem blkC_len (by decide) hbN
          simp only [Option.some.injEq, Addr.mk.injEq, and_true] at he
          obtain ⟨rfl, rfl⟩ := he
          have hz : (N.zip vs')[b0].2 = .slice Au sq.length ku := by
            rw [List.getElem_zip]
            have := List.getElem?_eq_some_iff.1 hvb
            exact this.2
          have cu := hrc 3 _ rfl
          rw [hz, Nat.zero_add] at cu
          obtain ⟨gcs, gfr⟩ : ∃ cs, wc.heap[g]? = some (.cells cs 94 (0, 0)) := by
            rcases hR2.out.row.2 with ⟨h, _⟩ | ⟨g', cap', cur, hv, _, hg, _⟩
            · injection h with h; cases h
            · injection hv with h1 _ _
              injection h1 with h1
              injection h1 with h1
              subst h1
              exact ⟨cur, hg⟩
          have HGC := Lib.hid gfr
          have HCU := Lib.hid cu
          have OA : Hid ((wc.drew.alloc (.cells #[.int .i64 sn, .int .u8 (sl.toNat : Int)] 26)).ownsRow w4.heap.size 26 2 (.slice Au sq.length ku) sq.length (catv seatC sq)) := Lib.hid ((show wc.drew.ownsRow w4.heap.size 26 2 (.slice Au sq.length ku) sq.length (catv seatC sq) from hou).alloc _)
          have ud : Upd (fun k => (Value.slice Au sq.length ku).ownBlock = some k ∨ k = g) wc wc.drew := ⟨rfl, rfl, rfl, Nat.le_refl _, fun _ _ _ => rfl⟩
          have ua : Upd (fun k => (Value.slice Au sq.length ku).ownBlock = some k ∨ k = g) wc (wc.drew.alloc (.cells #[.int .i64 sn, .int .u8 (sl.toNat : Int)] 26)) := ud.alloc _
          have HGA : Hid ((wc.drew.alloc (.cells #[.int .i64 sn, .int .u8 (sl.toNat : Int)] 26)).heap[g]? = some (.cells gcs 94 (0, 0))) := Lib.hid ((Below.heap_alloc wc.drew _ g hgl.2).trans gfr)
          have ha : Hid (w4.heap.size ≤ (wc.drew.alloc (.cells #[.int .i64 sn, .int .u8 (sl.toNat : Int)] 26)).heap.size) := Lib.hid (by have := hB2.out.size; simp; omega)
          have y4 : wc.cell? ⟨xb, 4, none⟩ = some (.int .i64 (b0 : Int)) := by rw [cell_of_row _ _ 4 _ _ _ hxc.out]; rfl
          have hfz : wc.frozen? ⟨g, b0 * 4 + 3, none⟩ = false := frozen_of_row _ _ _ _ _ gfr
          have MK : Hid (∀ U : World, Upd (fun k => (Value.slice Au sq.length ku).ownBlock = some k ∨ k = g) wc U → U.cell? ⟨xb, 0, none⟩ = some (.int .i64 sn) ∧ U.cell? ⟨xb, 1, none⟩ = some (.int .u8 (sl.toNat : Int)) ∧ U.cell? ⟨xb, 4, none⟩ = some (.int .i64 (b0 : Int))) := Lib.hid (fun U hU => by
            have hx := (hU.block xb (Array.getElem?_eq_some_iff.1 hxc.out).1 (fun h => by
              rcases h with h | h
              · exact hno2.out.2 b0 _ xb hvb h rfl
              · exact hno2.out.1 h.symm)).trans hxc.out
            refine ⟨?_, ?_, ?_⟩
            · rw [cell_of_row _ _ 0 _ _ _ hx]; rfl
            · rw [cell_of_row _ _ 1 _ _ _ hx]; rfl
            · rw [cell_of_row _ _ 4 _ _ _ hx]; rfl)
          have hb00 : (0 : Int) ≤ (b0 : Int) := by omega
          have hb0z : (b0 : Int) < (N.length : Int) := by omega
          have hgw := hgl.2
          have hgw1 := hgl.1
          clear hsq hou hgl hzl hsz hrc hz gfr
          go_upto_region 8 with (fail)
          refine wp_region_held_drew (S := (fun U => U.cell? ⟨xb, 0, none⟩ = some (.int .i64 sn) ∧ U.cell? ⟨xb, 1, none⟩ = some (.int .u8 (sl.toNat : Int)) ∧ U.cell? ⟨xb, 4, none⟩ = some (.int .i64 (b0 : Int)))) (by kernel_rfl) (by exact MK.out _ ud) (fun hHeld => ?_)
          refine wpAnyH_take (i := 0) (v := ?_) rfl (by kernel_rfl) (by kernel_rfl) (by kernel_rfl) (fun _ _ _ h => h) (Or.inl ⟨by kernel_rfl, ?_⟩) (by assumption) ?_
          rotate_left
          · (intro w hSw; (try dsimp only at hSw); go_simp; try with_reducible rfl)
          try simp only [Act.put, List.getElem_toArray, List.getElem_cons_succ, List.getElem_cons_zero, List.setIfInBounds_toArray, List.set_cons_zero, List.set_cons_succ]
          refine wpAnyH_take (i := 1) (v := ?_) rfl (by kernel_rfl) (by kernel_rfl) (by kernel_rfl) (fun _ _ _ h => h) (Or.inl ⟨by kernel_rfl, ?_⟩) (by assumption) ?_
          rotate_left
          · (intro w hSw; (try dsimp only at hSw); go_simp; try with_reducible rfl)
          try simp only [Act.put, List.getElem_toArray, List.getElem_cons_succ, List.getElem_cons_zero, List.setIfInBounds_toArray, List.set_cons_zero, List.set_cons_succ]
          refine wpAnyH_take (i := 2) (v := ?_) rfl (by kernel_rfl) (by kernel_rfl) (by kernel_rfl) (fun _ _ _ h => h) (Or.inl ⟨by kernel_rfl, ?_⟩) (by assumption) ?_
          rotate_left
          · (intro w hSw; (try dsimp only at hSw); go_simp; try with_reducible rfl)
          try simp only [Act.put, List.getElem_toArray, List.getElem_cons_succ, List.getElem_cons_zero, List.setIfInBounds_toArray, List.set_cons_zero, List.set_cons_succ]
          refine wpAnyH_take (i := 3) (v := ?_) rfl (by kernel_rfl) (by kernel_rfl) (by kernel_rfl) (fun _ _ _ h => h) (Or.inl ⟨by kernel_rfl, ?_⟩) (by assumption) ?_
          rotate_left
          · (intro w hSw; (try dsimp only at hSw); go_simp; try with_reducible rfl)
          try simp only [Act.put, List.getElem_toArray, List.getElem_cons_succ, List.getElem_cons_zero, List.setIfInBounds_toArray, List.set_cons_zero, List.set_cons_succ]
          refine wpAnyH_take (i := 4) (v := ?_) rfl (by kernel_rfl) (by kernel_rfl) (by kernel_rfl) (fun _ _ _ h => h) (Or.inl ⟨by kernel_rfl, ?_⟩) (by assumption) ?_
          rotate_left
          · (intro w hSw; (try dsimp only at hSw); go_simp; try with_reducible rfl)
          try simp only [Act.put, List.getElem_toArray, List.getElem_cons_succ, List.getElem_cons_zero, List.setIfInBounds_toArray, List.set_cons_zero, List.set_cons_succ]
          refine wpAnyH_take (i := 5) (v := ?_) rfl (by kernel_rfl) (by kernel_rfl) (by kernel_rfl) (fun _ _ _ h => h) (Or.inl ⟨by kernel_rfl, ?_⟩) (by assumption) ?_
          rotate_left
          · (intro w hSw; (try dsimp only at hSw); go_simp; try with_reducible rfl)
          try simp only [Act.put, List.getElem_toArray, List.getElem_cons_succ, List.getElem_cons_zero, List.setIfInBounds_toArray, List.set_cons_zero, List.set_cons_succ]
          refine wpAnyH_take (i := 6) (v := ?_) rfl (by kernel_rfl) (by kernel_rfl) (by kernel_rfl) (fun _ _ _ h => h) (Or.inl ⟨by kernel_rfl, ?_⟩) (by assumption) ?_
          rotate_left
          · (intro w hSw; (try dsimp only at hSw); go_simp; try with_reducible rfl)
          try simp only [Act.put, List.getElem_toArray, List.getElem_cons_succ, List.getElem_cons_zero, List.setIfInBounds_toArray, List.set_cons_zero, List.set_cons_succ]
          refine wpAnyH_take (i := 7) (v := ?_) rfl (by kernel_rfl) (by kernel_rfl) (by kernel_rfl) (fun _ _ _ h => h) (Or.inl ⟨by kernel_rfl, ?_⟩) (by assumption) ?_
          rotate_left
          · (intro w hSw; (try dsimp only at hSw); go_simp; try with_reducible rfl)
          try simp only [Act.put, List.getElem_toArray, List.getElem_cons_succ, List.getElem_cons_zero, List.setIfInBounds_toArray, List.set_cons_zero, List.set_cons_succ]
          refine wpAnyH_take (i := 9) (v := ?_) rfl (by kernel_rfl) (by kernel_rfl) (by kernel_rfl) (fun _ _ _ h => h) (Or.inl ⟨by kernel_rfl, ?_⟩) (by assumption) ?_
          rotate_left
          · (intro w hSw; (try dsimp only at hSw); go_simp; try with_reducible rfl)
          try simp only [Act.put, List.getElem_toArray, List.getElem_cons_succ, List.getElem_cons_zero, List.setIfInBounds_toArray, List.set_cons_zero, List.set_cons_succ]
          refine wpAnyH_take (i := 10) (v := ?_) rfl (by kernel_rfl) (by kernel_rfl) (by kernel_rfl) (fun _ _ _ h => h) (Or.inl ⟨by kernel_rfl, ?_⟩) (by assumption) ?_
          rotate_left
          · (intro w hSw; (try dsimp only at hSw); go_simp; try with_reducible rfl)
          try simp only [Act.put, List.getElem_toArray, List.getElem_cons_succ, List.getElem_cons_zero, List.setIfInBounds_toArray, List.set_cons_zero, List.set_cons_succ]
          refine wpAnyH_ready (rs := [8, 11]) (by kernel_rfl) (by simp) ?_
          refine AllReadyH.cons rfl (fun K hK => ?_) (AllReadyH.cons rfl (fun K hK => ?_) AllReadyH.nil)
          · go_simp
            refine hK.out _ _ (by exact MK.out _ (by first | exact ud | exact ua | exact ua3 | exact ua3.setCell _ (.inr rfl) _)) (fun hHeld => ?_)
            clear hK K
            try simp only [Act.put, List.getElem_toArray, List.getElem_cons_succ, List.getElem_cons_zero, List.setIfInBounds_toArray, List.set_cons_zero, List.set_cons_succ]
            refine wpAnyH_ready (rs := [11]) (by kernel_rfl) (by simp) ?_
            refine AllReadyH.cons rfl (fun K hK => ?_) AllReadyH.nil
            go_simp
            refine hK.out _ _ (by exact MK.out _ (by first | exact ud | exact ua | exact ua3 | exact ua3.setCell _ (.inr rfl) _)) (fun hHeld => ?_)
            clear hK K
            try simp only [Act.put, List.getElem_toArray, List.getElem_cons_succ, List.getElem_cons_zero, List.setIfInBounds_toArray, List.set_cons_zero, List.set_cons_succ]
            refine wpAnyH_ready (rs := [12]) (by kernel_rfl) (by simp) ?_
            refine AllReadyH.cons rfl (fun K hK => ?_) AllReadyH.nil
            refine step_app (by rfl) (.tmp 40) (.tmp 43) 35 (by rfl) w4.heap.size 26 i0 _ 2 16 Tryd.underlying35 hi0 hz0 hz1 hz2 rfl (by omega) (.slice Au sq.length ku) sq.length (catv seatC sq) _ (some ⟨wc.heap.size, 0, none⟩) 1 1 [.int .i64 sn, .int .u8 (sl.toNat : Int)] (by rfl) (by exact OA.out) (by rfl) (rd_block (heap_alloc_new wc.drew (.cells #[.int .i64 sn, .int .u8 (sl.toNat : Int)] 26)) rfl) (by simp [Value.oneCell']) (by omega) (by unfold maxLen; omega) (by exact ha.out) ?_
            intro u' w3 ho3 hu3 hat3
            obtain ⟨Ad, kd, rfl⟩ := own_shape ho3
            have ua3 : Upd (fun k => (Value.slice Au sq.length ku).ownBlock = some k ∨ k = g) wc w3 := ua.trans hu3 (fun k _ h => .inl h)
            have e3 := (hu3.block g (by simp; omega) HOFF.out).trans HGA.out
            have c3' : w3.cell? ⟨g, b0 * 4 + 3, none⟩ = some (.slice Au sq.length ku) := by rw [cell_of_row _ _ _ _ _ _ e3]; rw [← cell_of_row _ _ _ _ _ _ HGC.out]; exact HCU.out
            have f3' : w3.frozen? ⟨g, b0 * 4 + 3, none⟩ = false := frozen_of_row _ _ _ _ _ e3
            refine hK.out _ _ (by exact MK.out _ (by first | exact ud | exact ua | exact ua3 | exact ua3.setCell _ (.inr rfl) _)) (fun hHeld => ?_)
            clear hK K
            try simp only [Act.put, List.getElem_toArray, List.getElem_cons_succ, List.getElem_cons_zero, List.setIfInBounds_toArray, List.set_cons_zero, List.set_cons_succ]
            refine wpAnyH_ready (rs := [13]) (by kernel_rfl) (by simp) ?_
            refine AllReadyH.cons rfl (fun K hK => ?_) AllReadyH.nil
            go_simp
            refine hK.out _ _ (by exact MK.out _ (by first | exact ud | exact ua | exact ua3 | exact ua3.setCell _ (.inr rfl) _)) (fun hHeld => ?_)
            clear hK K
            try simp only [Act.put, List.getElem_toArray, List.getElem_cons_succ, List.getElem_cons_zero, List.setIfInBounds_toArray, List.set_cons_zero, List.set_cons_succ]
            refine wpAnyH_ready (rs := [14]) (by kernel_rfl) (by simp) ?_
            refine AllReadyH.cons rfl (fun K hK => ?_) AllReadyH.nil
            go_simp
            refine hK.out _ _ (by exact MK.out _ (by first | exact ud | exact ua | exact ua3 | exact ua3.setCell _ (.inr rfl) _)) (fun hHeld => ?_)
            clear hK K
            try simp only [Act.put, List.getElem_toArray, List.getElem_cons_succ, List.getElem_cons_zero, List.setIfInBounds_toArray, List.set_cons_zero, List.set_cons_succ]
            refine wpAnyH_ready (rs := [15]) (by kernel_rfl) (by simp) ?_
            refine AllReadyH.cons rfl (fun K hK => ?_) AllReadyH.nil
            go_simp
            refine hK.out _ _ (by exact MK.out _ (by first | exact ud | exact ua | exact ua3 | exact ua3.setCell _ (.inr rfl) _)) (fun hHeld => ?_)
            clear hK K
            try simp only [Act.put, List.getElem_toArray, List.getElem_cons_succ, List.getElem_cons_zero, List.setIfInBounds_toArray, List.set_cons_zero, List.set_cons_succ]
            refine wpAnyH_done (by kernel_rfl) ?_ _
            go_wp2_with fail
            have hup : Upd (fun k => (Value.slice Au sq.length ku).ownBlock = some k) wc w3 := ⟨hu3.os, hu3.tape, hu3.output, Nat.le_trans (by simp) hu3.size, fun k hk hn => (hu3.block k (by simp; omega) hn).trans (Below.heap_alloc wc.drew _ k hk)⟩
            have hat : RowAt wc (.slice Au sq.length ku) (.slice Ad (sq.length + 1) kd) := by
              rcases hat3 with h | ⟨k, hk, h⟩
              · exact .inl h
              · exact .inr ⟨k, by simp at hk; omega, h⟩
            have hP := hR2.out.push (s := ⟨sn, sl⟩) rfl hbN hvb (by rw [HSQ.out]; exact ho3) hup hat
            have HP := Lib.hid hP
            have HBP : Hid (Below w4.heap.size w4 (w3.setCell ⟨g, b0 * 4 + 3, none⟩ (.slice Ad (sq.length + 1) kd))) := Lib.hid (hB2.out.trans (((ua3.setCell ⟨g, b0 * 4 + 3, none⟩ (.inr rfl) (.slice Ad (sq.length + 1) kd))).below (fun k hk h => by
                rcases h with h | h
                · have := (HOU.out.lt k h).1; omega
                · omega) hB2.out.size))
            clear hP hup hat ho3 hu3 hat3 ua3 e3 c3' f3'
            go_roundw
            case rel => exact ⟨j + 1, vs'.set b0 (.slice Ad (sq.length + 1) kd), by omega, by go_num, Lib.hid (by rw [HTK.out]; exact HP.out), HBP⟩
            case measure => simp [intOf]; omega
          · go_simp
            refine hK.out _ _ (by exact MK.out _ (by first | exact ud | exact ua | exact ua3 | exact ua3.setCell _ (.inr rfl) _)) (fun hHeld => ?_)
            clear hK K
            try simp only [Act.put, List.getElem_toArray, List.getElem_cons_succ, List.getElem_cons_zero, List.setIfInBounds_toArray, List.set_cons_zero, List.set_cons_succ]
            refine wpAnyH_ready (rs := [8]) (by kernel_rfl) (by simp) ?_
            refine AllReadyH.cons rfl (fun K hK => ?_) AllReadyH.nil
            go_simp
            refine hK.out _ _ (by exact MK.out _ (by first | exact ud | exact ua | exact ua3 | exact ua3.setCell _ (.inr rfl) _)) (fun hHeld => ?_)
            clear hK K
            try simp only [Act.put, List.getElem_toArray, List.getElem_cons_succ, List.getElem_cons_zero, List.setIfInBounds_toArray, List.set_cons_zero, List.set_cons_succ]
            refine wpAnyH_ready (rs := [12]) (by kernel_rfl) (by simp) ?_
            refine AllReadyH.cons rfl (fun K hK => ?_) AllReadyH.nil
            refine step_app (by rfl) (.tmp 40) (.tmp 43) 35 (by rfl) w4.heap.size 26 i0 _ 2 16 Tryd.underlying35 hi0 hz0 hz1 hz2 rfl (by omega) (.slice Au sq.length ku) sq.length (catv seatC sq) _ (some ⟨wc.heap.size, 0, none⟩) 1 1 [.int .i64 sn, .int .u8 (sl.toNat : Int)] (by rfl) (by exact OA.out) (by rfl) (rd_block (heap_alloc_new wc.drew (.cells #[.int .i64 sn, .int .u8 (sl.toNat : Int)] 26)) rfl) (by simp [Value.oneCell']) (by omega) (by unfold maxLen; omega) (by exact ha.out) ?_
            intro u' w3 ho3 hu3 hat3
            obtain ⟨Ad, kd, rfl⟩ := own_shape ho3
            have ua3 : Upd (fun k => (Value.slice Au sq.length ku).ownBlock = some k ∨ k = g) wc w3 := ua.trans hu3 (fun k _ h => .inl h)
            have e3 := (hu3.block g (by simp; omega) HOFF.out).trans HGA.out
            have c3' : w3.cell? ⟨g, b0 * 4 + 3, none⟩ = some (.slice Au sq.length ku) := by rw [cell_of_row _ _ _ _ _ _ e3]; rw [← cell_of_row _ _ _ _ _ _ HGC.out]; exact HCU.out
            have f3' : w3.frozen? ⟨g, b0 * 4 + 3, none⟩ = false := frozen_of_row _ _ _ _ _ e3
            refine hK.out _ _ (by exact MK.out _ (by first | exact ud | exact ua | exact ua3 | exact ua3.setCell _ (.inr rfl) _)) (fun hHeld => ?_)
            clear hK K
            try simp only [Act.put, List.getElem_toArray, List.getElem_cons_succ, List.getElem_cons_zero, List.setIfInBounds_toArray, List.set_cons_zero, List.set_cons_succ]
            refine wpAnyH_ready (rs := [13]) (by kernel_rfl) (by simp) ?_
            refine AllReadyH.cons rfl (fun K hK => ?_) AllReadyH.nil
            go_simp
            refine hK.out _ _ (by exact MK.out _ (by first | exact ud | exact ua | exact ua3 | exact ua3.setCell _ (.inr rfl) _)) (fun hHeld => ?_)
            clear hK K
            try simp only [Act.put, List.getElem_toArray, List.getElem_cons_succ, List.getElem_cons_zero, List.setIfInBounds_toArray, List.set_cons_zero, List.set_cons_succ]
            refine wpAnyH_ready (rs := [14]) (by kernel_rfl) (by simp) ?_
            refine AllReadyH.cons rfl (fun K hK => ?_) AllReadyH.nil
            go_simp
            refine hK.out _ _ (by exact MK.out _ (by first | exact ud | exact ua | exact ua3 | exact ua3.setCell _ (.inr rfl) _)) (fun hHeld => ?_)
            clear hK K
            try simp only [Act.put, List.getElem_toArray, List.getElem_cons_succ, List.getElem_cons_zero, List.setIfInBounds_toArray, List.set_cons_zero, List.set_cons_succ]
            refine wpAnyH_ready (rs := [15]) (by kernel_rfl) (by simp) ?_
            refine AllReadyH.cons rfl (fun K hK => ?_) AllReadyH.nil
            go_simp
            refine hK.out _ _ (by exact MK.out _ (by first | exact ud | exact ua | exact ua3 | exact ua3.setCell _ (.inr rfl) _)) (fun hHeld => ?_)
            clear hK K
            try simp only [Act.put, List.getElem_toArray, List.getElem_cons_succ, List.getElem_cons_zero, List.setIfInBounds_toArray, List.set_cons_zero, List.set_cons_succ]
            refine wpAnyH_done (by kernel_rfl) ?_ _
            go_wp2_with fail
            have hup : Upd (fun k => (Value.slice Au sq.length ku).ownBlock = some k) wc w3 := ⟨hu3.os, hu3.tape, hu3.output, Nat.le_trans (by simp) hu3.size, fun k hk hn => (hu3.block k (by simp; omega) hn).trans (Below.heap_alloc wc.drew _ k hk)⟩
            have hat : RowAt wc (.slice Au sq.length ku) (.slice Ad (sq.length + 1) kd) := by
              rcases hat3 with h | ⟨k, hk, h⟩
              · exact .inl h
              · exact .inr ⟨k, by simp at hk; omega, h⟩
            have hP := hR2.out.push (s := ⟨sn, sl⟩) rfl hbN hvb (by rw [HSQ.out]; exact ho3) hup hat
            have HP := Lib.hid hP
            have HBP : Hid (Below w4.heap.size w4 (w3.setCell ⟨g, b0 * 4 + 3, none⟩ (.slice Ad (sq.length + 1) kd))) := Lib.hid (hB2.out.trans (((ua3.setCell ⟨g, b0 * 4 + 3, none⟩ (.inr rfl) (.slice Ad (sq.length + 1) kd))).below (fun k hk h => by
                rcases h with h | h
                · have := (HOU.out.lt k h).1; omega
                · omega) hB2.out.size))
            clear hP hup hat ho3 hu3 hat3 ua3 e3 c3' f3'
            go_roundw
            case rel => exact ⟨j + 1, vs'.set b0 (.slice Ad (sq.length + 1) kd), by omega, by go_num, Lib.hid (by rw [HTK.out]; exact HP.out), HBP⟩
            case measure => simp [intOf]; omega
    · have hlz : ¬ (j : Int) < (L.length : Int) := by omega
      have hRE := hR.out
      rw [List.take_of_length_le (by omega)] at hRE
      have HRE := Lib.hid (hRE.mono HB4.out.size)
      have HBE := Lib.hid (HB4.out.trans (hB.out.mono HB4.out.size))
      obtain ⟨A3, cq, rfl⟩ := own_shape hR.out.row
      clear hR hB hRE
      have HAN : Hid (BlkAns w L (.returned (.slice A3 (blocksOf (L.take j)).length cq)) wr) := Lib.hid ⟨_, vs, rfl, HRE.out, HBE.out⟩
      clear HRE HBE
      go_wp2
      go_ret
      exact HAN.out
end Go.Proofs.YtppjpledjhinbaaDoor
