/- Cabins: Find and Near, walked. -/
import Derived.Test.YtddiabpjmnmllaaDoorJCbIdx
namespace Go.Proofs.YtddiabpjmnmllaaDoor
open Go.RowKit Go.Lib
set_option maxHeartbeats 8000000 in
set_option maxRecDepth 20000 in
theorem find_any (w : World) (m : Int) (A : Option Addr) (n c : Nat) (l : List MRow) (q : MSeat) (hr : Rd w w.heap.size 5 A n (catv rowC l)) (hf : ∀ r ∈ l, r.fits) (hLib : LibAt w m) :
    Calls Tryd.prog 32 #[.agg #[.int .i64 q.num, .int .u8 (q.ltr.toNat : Int)], .slice A n c] w fun e w' => e = .returned (.tuple #[spotV (spotAt (spotsL l) q), .bool (findS (spotsL l) q).isSome]) ∧ Below w.heap.size w w' := by
  obtain ⟨qn, ql⟩ := q
  obtain ⟨W, hW⟩ : ∃ W, W = (w.alloc (.cells #[.int .i64 qn, .int .u8 (ql.toNat : Int)] 32)).alloc (.cells #[.int .i64 0, .int .u8 0, .int .i64 0, .int .i64 0, .int .i64 0, .bool false, .bool false] 35) := ⟨_, rfl⟩
  have hbW : Below w.heap.size w W := by rw [hW]; exact ((Below.refl _ w).alloc (Nat.le_refl _) _).alloc (by simp) _
  have b1 : W.heap[w.heap.size]? = some (.cells #[.int .i64 qn, .int .u8 (ql.toNat : Int)] 32 (0, 0)) := by
    rw [hW]; exact (Below.heap_alloc _ _ _ (by simp)).trans (heap_alloc_new w _)
  have b2 : W.heap[w.heap.size + 1]? = some (.cells #[.int .i64 0, .int .u8 0, .int .i64 0, .int .i64 0, .int .i64 0, .bool false, .bool false] 35 (0, 0)) := by
    have := heap_alloc_new (w.alloc (.cells #[.int .i64 qn, .int .u8 (ql.toNat : Int)] 32)) (.cells #[.int .i64 0, .int .u8 0, .int .i64 0, .int .i64 0, .int .i64 0, .bool false, .bool false] 35)
    rw [show (w.alloc (.cells #[.int .i64 qn, .int .u8 (ql.toNat : Int)] 32)).heap.size = w.heap.size + 1 by simp] at this
    rw [hW]; exact this
  have hl66 := spots_len l
  obtain ⟨L, hL⟩ : ∃ L, spotsL l = L := ⟨_, rfl⟩
  have hSp := spots_any W m A n c l ((hr.below hbW).mono hbW.size) hf (hLib.below hbW)
  rw [hL] at hSp hl66 ⊢
  have HSP := Lib.hid hSp
  have HBW := Lib.hid hbW
  have H1 := Lib.hid b1
  have H2 := Lib.hid b2
  clear hSp hbW b1 b2 hL hr hf hLib
  obtain ⟨R, hR⟩ : ∃ R, spotAt L ⟨qn, ql⟩ = R := ⟨_, rfl⟩
  obtain ⟨K, hK⟩ : ∃ K, (findS L ⟨qn, ql⟩).isSome = K := ⟨_, rfl⟩
  rw [hR, hK]
  have HR := Lib.hid hR
  have HK := Lib.hid hK
  clear hR hK
  go_enter Tryd.func32, Tryd.ntmps32
  go_wp2_with fail
  rw [← hW]
  clear hW
  refine HSP.out.mono ?_
  rintro e w2 ⟨v, rfl, ho, hb2⟩
  obtain ⟨A2, c2, rfl, hrd⟩ := own_rd ho
  have x1 := box_keep H1.out (Upd.of_below (S := fun _ => False) hb2) id
  have hI := index1 w2 A2 L.length c2 L ⟨qn, ql⟩ w.heap.size hrd (Array.getElem?_eq_some_iff.1 x1).1 (by rw [cell_of_row _ _ 0 _ _ _ x1]; rfl) (by rw [cell_of_row _ _ 1 _ _ _ x1]; rfl) (by omega)
  obtain ⟨E, hE⟩ : ∃ E, idxS L ⟨qn, ql⟩ = E := ⟨_, rfl⟩
  rw [hE] at hI
  have HI := Lib.hid hI
  have HE := Lib.hid hE
  have HA := Lib.hid hrd
  have HB2 := Lib.hid (bel_on2 HBW.out hb2)
  have HX2 := Lib.hid (box_keep H2.out (Upd.of_below (S := fun _ => False) hb2) id)
  clear ho hrd hb2 H1 H2 HBW HSP x1 hI hE
  go_wp2_with fail
  refine HI.out.mono ?_
  rintro e w3 ⟨rfl, hb3⟩
  have x2 := box_keep HX2.out (Upd.of_below (S := fun _ => False) hb3) id
  have hbw : Below w.heap.size w w3 := bel_on2 HB2.out hb3
  have HRD := Lib.hid (HA.out.below hb3)
  have HBR := Lib.hid hbw
  have HXW := Lib.hid x2
  have hwr : w.heap.size + 1 < w3.heap.size := (Array.getElem?_eq_some_iff.1 x2).1
  clear hb3 HI HX2 hbw
  rcases idxS_cases L ⟨qn, ql⟩ with ⟨h1, h2⟩ | ⟨j, h1, hj, h2, h3⟩
  · obtain rfl : E = -1 := HE.out.symm.trans h1
    have HR2 : Hid (R = spotZ) := Lib.hid (by rw [← HR.out]; unfold spotAt; rw [h2]; rfl)
    have HK2 : Hid (K = false) := Lib.hid (by rw [← HK.out, h2]; rfl)
    have r0 : w3.cell? ⟨w.heap.size + 1, 0, none⟩ = some (.int .i64 0) := by rw [cell_of_row _ _ 0 _ _ _ x2]; rfl
    have f0 : w3.frozen? ⟨w.heap.size + 1, 0, none⟩ = false := frozen_of_row _ _ _ _ _ x2
    have r1 : w3.cell? ⟨w.heap.size + 1, 1, none⟩ = some (.int .u8 0) := by rw [cell_of_row _ _ 1 _ _ _ x2]; rfl
    have f1 : w3.frozen? ⟨w.heap.size + 1, 1, none⟩ = false := frozen_of_row _ _ _ _ _ x2
    have r2 : w3.cell? ⟨w.heap.size + 1, 2, none⟩ = some (.int .i64 0) := by rw [cell_of_row _ _ 2 _ _ _ x2]; rfl
    have f2 : w3.frozen? ⟨w.heap.size + 1, 2, none⟩ = false := frozen_of_row _ _ _ _ _ x2
    have r3 : w3.cell? ⟨w.heap.size + 1, 3, none⟩ = some (.int .i64 0) := by rw [cell_of_row _ _ 3 _ _ _ x2]; rfl
    have f3 : w3.frozen? ⟨w.heap.size + 1, 3, none⟩ = false := frozen_of_row _ _ _ _ _ x2
    have r4 : w3.cell? ⟨w.heap.size + 1, 4, none⟩ = some (.int .i64 0) := by rw [cell_of_row _ _ 4 _ _ _ x2]; rfl
    have f4 : w3.frozen? ⟨w.heap.size + 1, 4, none⟩ = false := frozen_of_row _ _ _ _ _ x2
    have r5 : w3.cell? ⟨w.heap.size + 1, 5, none⟩ = some (.bool false) := by rw [cell_of_row _ _ 5 _ _ _ x2]; rfl
    have f5 : w3.frozen? ⟨w.heap.size + 1, 5, none⟩ = false := frozen_of_row _ _ _ _ _ x2
    have r6 : w3.cell? ⟨w.heap.size + 1, 6, none⟩ = some (.bool false) := by rw [cell_of_row _ _ 6 _ _ _ x2]; rfl
    have f6 : w3.frozen? ⟨w.heap.size + 1, 6, none⟩ = false := frozen_of_row _ _ _ _ _ x2
    have RR : Hid ((((((((w3.setCell ⟨w.heap.size + 1, 0, none⟩ (.int .i64 0)).setCell ⟨w.heap.size + 1, 1, none⟩ (.int .u8 0)).setCell ⟨w.heap.size + 1, 2, none⟩ (.int .i64 0)).setCell ⟨w.heap.size + 1, 3, none⟩ (.int .i64 0)).setCell ⟨w.heap.size + 1, 4, none⟩ (.int .i64 0)).setCell ⟨w.heap.size + 1, 5, none⟩ (.bool false)).setCell ⟨w.heap.size + 1, 6, none⟩ (.bool false)).heap[w.heap.size + 1]? = some (.cells #[.int .i64 0, .int .u8 0, .int .i64 0, .int .i64 0, .int .i64 0, .bool false, .bool false] 35 (0, 0))) := Lib.hid (heap_setCell_same _ _ 6 _ _ _ (heap_setCell_same _ _ 5 _ _ _ (heap_setCell_same _ _ 4 _ _ _ (heap_setCell_same _ _ 3 _ _ _ (heap_setCell_same _ _ 2 _ _ _ (heap_setCell_same _ _ 1 _ _ _ (heap_setCell_same _ _ 0 _ _ _ HXW.out)))))))
    have kinfo : (Tryd.prog.info? 35).map (·.size) = some 7 := by kernel_rfl
    clear h1 h2 x2 HE
    go_wp2_with fail
    refine bodyPost_ret (results_cell_tmp_row rfl _ _ (w.heap.size + 1) 35 #[.int .i64 0, .int .u8 0, .int .i64 0, .int .i64 0, .int .i64 0, .bool false, .bool false] (0, 0) _ rfl RR.out Tryd.underlying35 rfl kinfo) rfl ?_
    refine ⟨?_, ?_⟩
    · rw [HR2.out, HK2.out]; rfl
    · exact HBR.out.trans (((((((((Upd.refl (fun k => k = w.heap.size + 1) w3).setCell ⟨w.heap.size + 1, 0, none⟩ rfl _).setCell ⟨w.heap.size + 1, 1, none⟩ rfl _).setCell ⟨w.heap.size + 1, 2, none⟩ rfl _).setCell ⟨w.heap.size + 1, 3, none⟩ rfl _).setCell ⟨w.heap.size + 1, 4, none⟩ rfl _).setCell ⟨w.heap.size + 1, 5, none⟩ rfl _).setCell ⟨w.heap.size + 1, 6, none⟩ rfl _).below (fun k hk e => by omega) HBR.out.size)
  · obtain rfl : E = (j : Int) := HE.out.symm.trans h1
    obtain ⟨gb, off, rfl, hgb, hs, hcc⟩ := HRD.out.elem spotC_len (by decide) hj
    have HR2 : Hid (R = L[j]) := Lib.hid (by rw [← HR.out]; unfold spotAt; rw [h3]; rfl)
    have HK2 : Hid (K = true) := Lib.hid (by rw [← HK.out, h3]; rfl)
    obtain ⟨s, hss⟩ : ∃ s, L[j] = s := ⟨_, rfl⟩
    rw [hss] at hcc HR2
    obtain ⟨⟨sn, sl⟩, sc, sz, sb, se, sk⟩ := s
    have c0 := hcc 0 _ rfl
    have c1 := hcc 1 _ rfl
    have c2 := hcc 2 _ rfl
    have c3 := hcc 3 _ rfl
    have c4 := hcc 4 _ rfl
    have c5 := hcc 5 _ rfl
    have c6 := hcc 6 _ rfl
    rw [Nat.add_zero] at c0
    have r0 : w3.cell? ⟨w.heap.size + 1, 0, none⟩ = some (.int .i64 0) := by rw [cell_of_row _ _ 0 _ _ _ x2]; rfl
    have f0 : w3.frozen? ⟨w.heap.size + 1, 0, none⟩ = false := frozen_of_row _ _ _ _ _ x2
    have r1 : w3.cell? ⟨w.heap.size + 1, 1, none⟩ = some (.int .u8 0) := by rw [cell_of_row _ _ 1 _ _ _ x2]; rfl
    have f1 : w3.frozen? ⟨w.heap.size + 1, 1, none⟩ = false := frozen_of_row _ _ _ _ _ x2
    have r2 : w3.cell? ⟨w.heap.size + 1, 2, none⟩ = some (.int .i64 0) := by rw [cell_of_row _ _ 2 _ _ _ x2]; rfl
    have f2 : w3.frozen? ⟨w.heap.size + 1, 2, none⟩ = false := frozen_of_row _ _ _ _ _ x2
    have r3 : w3.cell? ⟨w.heap.size + 1, 3, none⟩ = some (.int .i64 0) := by rw [cell_of_row _ _ 3 _ _ _ x2]; rfl
    have f3 : w3.frozen? ⟨w.heap.size + 1, 3, none⟩ = false := frozen_of_row _ _ _ _ _ x2
    have r4 : w3.cell? ⟨w.heap.size + 1, 4, none⟩ = some (.int .i64 0) := by rw [cell_of_row _ _ 4 _ _ _ x2]; rfl
    have f4 : w3.frozen? ⟨w.heap.size + 1, 4, none⟩ = false := frozen_of_row _ _ _ _ _ x2
    have r5 : w3.cell? ⟨w.heap.size + 1, 5, none⟩ = some (.bool false) := by rw [cell_of_row _ _ 5 _ _ _ x2]; rfl
    have f5 : w3.frozen? ⟨w.heap.size + 1, 5, none⟩ = false := frozen_of_row _ _ _ _ _ x2
    have r6 : w3.cell? ⟨w.heap.size + 1, 6, none⟩ = some (.bool false) := by rw [cell_of_row _ _ 6 _ _ _ x2]; rfl
    have f6 : w3.frozen? ⟨w.heap.size + 1, 6, none⟩ = false := frozen_of_row _ _ _ _ _ x2
    have RR : Hid ((((((((w3.setCell ⟨w.heap.size + 1, 0, none⟩ (.int .i64 sn)).setCell ⟨w.heap.size + 1, 1, none⟩ (.int .u8 (sl.toNat : Int))).setCell ⟨w.heap.size + 1, 2, none⟩ (.int .i64 sc)).setCell ⟨w.heap.size + 1, 3, none⟩ (.int .i64 sz)).setCell ⟨w.heap.size + 1, 4, none⟩ (.int .i64 sb)).setCell ⟨w.heap.size + 1, 5, none⟩ (.bool se)).setCell ⟨w.heap.size + 1, 6, none⟩ (.bool sk)).heap[w.heap.size + 1]? = some (.cells #[.int .i64 sn, .int .u8 (sl.toNat : Int), .int .i64 sc, .int .i64 sz, .int .i64 sb, .bool se, .bool sk] 35 (0, 0))) := Lib.hid (heap_setCell_same _ _ 6 _ _ _ (heap_setCell_same _ _ 5 _ _ _ (heap_setCell_same _ _ 4 _ _ _ (heap_setCell_same _ _ 3 _ _ _ (heap_setCell_same _ _ 2 _ _ _ (heap_setCell_same _ _ 1 _ _ _ (heap_setCell_same _ _ 0 _ _ _ HXW.out)))))))
    have kinfo : (Tryd.prog.info? 35).map (·.size) = some 7 := by kernel_rfl
    have hj0 : (0 : Int) ≤ (j : Int) := by omega
    have hjz : (j : Int) < (L.length : Int) := by omega
    have hjd : decide ((j : Int) < 0) = false := decide_eq_false (by omega)
    clear h1 h2 h3 x2 HE hcc hss
    go_wp2_with fail
    refine bodyPost_ret (results_cell_tmp_row rfl _ _ (w.heap.size + 1) 35 #[.int .i64 sn, .int .u8 (sl.toNat : Int), .int .i64 sc, .int .i64 sz, .int .i64 sb, .bool se, .bool sk] (0, 0) _ rfl RR.out Tryd.underlying35 rfl kinfo) rfl ?_
    refine ⟨?_, ?_⟩
    · rw [HR2.out, HK2.out]; rfl
    · exact HBR.out.trans (((((((((Upd.refl (fun k => k = w.heap.size + 1) w3).setCell ⟨w.heap.size + 1, 0, none⟩ rfl _).setCell ⟨w.heap.size + 1, 1, none⟩ rfl _).setCell ⟨w.heap.size + 1, 2, none⟩ rfl _).setCell ⟨w.heap.size + 1, 3, none⟩ rfl _).setCell ⟨w.heap.size + 1, 4, none⟩ rfl _).setCell ⟨w.heap.size + 1, 5, none⟩ rfl _).setCell ⟨w.heap.size + 1, 6, none⟩ rfl _).below (fun k hk e => by omega) HBR.out.size)
end Go.Proofs.YtddiabpjmnmllaaDoor
