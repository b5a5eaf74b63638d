/- The reference's Find, walked (printed by wip/tools/gen_rb.py). -/
import Derived.Test.YtppjpledjhinbaaDoorJRbM
namespace Go.Proofs.YtppjpledjhinbaaDoor
open Go.RowKit Go.Lib
set_option maxHeartbeats 8000000 in
set_option maxRecDepth 20000 in
theorem rfind_any (w : World) (A : Option Addr) (n c : Nat) (l : List MRow) (q : MSeat) (hr : Rd w w.heap.size 5 A n (catv rowC l)) (hf : ∀ r ∈ l, r.fits) :
    Calls Tryd.prog 56 #[.agg #[.int .i64 q.num, .int .u8 (q.ltr.toNat : Int)], .slice A n c] w fun e w' => e = .returned (.tuple #[spotV (spotAt (spotsL l) q), .bool (findS (spotsL l) q).isSome]) ∧ Below w.heap.size w w' := by
  obtain ⟨qn, ql⟩ := q
  obtain ⟨W, hW⟩ : ∃ W, W = (w.alloc (.cells #[.int .i64 qn, .int .u8 (ql.toNat : Int)] 26)).alloc (.cells #[.int .i64 0, .int .u8 0, .int .i64 0, .int .i64 0, .int .i64 0, .bool false, .bool false] 105) := ⟨_, rfl⟩
  have hbW : Below w.heap.size w W := by rw [hW]; exact ((Below.refl _ w).alloc (Nat.le_refl _) _).alloc (by simp) _
  have b1 : W.heap[w.heap.size]? = some (.cells #[.int .i64 qn, .int .u8 (ql.toNat : Int)] 26 (0, 0)) := by
    rw [hW]; exact (Below.heap_alloc _ _ _ (by simp)).trans (heap_alloc_new w _)
  have b2 : W.heap[w.heap.size + 1]? = some (.cells #[.int .i64 0, .int .u8 0, .int .i64 0, .int .i64 0, .int .i64 0, .bool false, .bool false] 105 (0, 0)) := by
    have := heap_alloc_new (w.alloc (.cells #[.int .i64 qn, .int .u8 (ql.toNat : Int)] 26)) (.cells #[.int .i64 0, .int .u8 0, .int .i64 0, .int .i64 0, .int .i64 0, .bool false, .bool false] 105)
    rw [show (w.alloc (.cells #[.int .i64 qn, .int .u8 (ql.toNat : Int)] 26)).heap.size = w.heap.size + 1 by simp] at this
    rw [hW]; exact this
  have hl66 := spots_len l
  obtain ⟨L, hL⟩ : ∃ L, spotsL l = L := ⟨_, rfl⟩
  have hSp := rspots_any W A n c l ((hr.below hbW).mono hbW.size) hf
  rw [hL] at hSp hl66 ⊢
  have HSP := Lib.hid hSp
  have HBW := Lib.hid hbW
  have H1 := Lib.hid b1
  have H2 := Lib.hid b2
  clear hSp hbW b1 b2 hL hr hf
  obtain ⟨R, hR⟩ : ∃ R, spotAt L ⟨qn, ql⟩ = R := ⟨_, rfl⟩
  obtain ⟨K, hK⟩ : ∃ K, (findS L ⟨qn, ql⟩).isSome = K := ⟨_, rfl⟩
  rw [hR, hK]
  have HR := Lib.hid hR
  have HK := Lib.hid hK
  clear hR hK
  go_enter Tryd.func56, Tryd.ntmps56
  go_wp2_with fail
  rw [← hW]
  clear hW
  refine HSP.out.mono ?_
  rintro e w2 ⟨v, rfl, ho, hb2⟩
  obtain ⟨A2, c2, rfl, hrd⟩ := own_rd ho
  have HA := Lib.hid hrd
  have HB2 := Lib.hid (bel_on2 HBW.out hb2)
  have HX1 := Lib.hid (box_keep H1.out (Upd.of_below (S := fun _ => False) hb2) id)
  have HX2 := Lib.hid (box_keep H2.out (Upd.of_below (S := fun _ => False) hb2) id)
  have hw2 : w.heap.size + 1 < w2.heap.size := (Array.getElem?_eq_some_iff.1 HX2.out).1
  clear ho hrd hb2 H1 H2 HBW HSP
  go_wp2
  go_loopw [11] (fun iv wx => ∃ j : Nat, j ≤ L.length ∧ iv = .int .i64 (j : Int) ∧ Hid (∀ x ∈ L.take j, x.seat ≠ ⟨qn, ql⟩) ∧ Hid (Below w2.heap.size w2 wx)) (fun iv _ => L.length - (intOf iv).toNat)
  case atStart => exact ⟨0, Nat.zero_le _, rfl, Lib.hid (by simp), Lib.hid (Below.refl _ _)⟩
  case round =>
    obtain ⟨j, hj, rfl, hG, hB⟩ := hrel
    have x1 := box_keep HX1.out (Upd.of_below (S := fun _ => False) hB.out) id
    have x2 := box_keep HX2.out (Upd.of_below (S := fun _ => False) hB.out) id
    have hwr : w.heap.size + 1 < wr.heap.size := (Array.getElem?_eq_some_iff.1 x2).1
    have hwa : w.heap.size < wr.heap.size := by omega
    by_cases hlt : j < L.length
    · obtain ⟨gb, off, rfl, hgb, hs, hcc⟩ := (HA.out.below hB.out).elem spotC_len (by decide) hlt
      have htk := List.take_succ_eq_append_getElem hs
      have hdr := List.drop_eq_getElem_cons hs
      obtain ⟨s, hss⟩ : ∃ s, L[j] = s := ⟨_, rfl⟩
      rw [hss] at hcc htk hdr
      obtain ⟨⟨sn, sl⟩, sc, sz, sb, se, sk⟩ := s
      have c0 := hcc 0 _ rfl
      have c1 := hcc 1 _ rfl
      have c2 := hcc 2 _ rfl
      have c3 := hcc 3 _ rfl
      have c4 := hcc 4 _ rfl
      have c5 := hcc 5 _ rfl
      have c6 := hcc 6 _ rfl
      rw [Nat.add_zero] at c0
      have q0 : wr.cell? ⟨w.heap.size, 0, none⟩ = some (.int .i64 qn) := by rw [cell_of_row _ _ 0 _ _ _ x1]; rfl
      have q1 : wr.cell? ⟨w.heap.size, 1, none⟩ = some (.int .u8 (ql.toNat : Int)) := by rw [cell_of_row _ _ 1 _ _ _ x1]; rfl
      have hwb : w.heap.size + 1 < wr.heap.size := hwr
      have HXW := Lib.hid x2
      clear hcc hss x1 x2
      by_cases hq : (⟨sn, sl⟩ : MSeat) = ⟨qn, ql⟩
      · have hqn : sn = qn := congrArg MSeat.num hq
        have hql : sl = ql := congrArg MSeat.ltr hq
        subst hqn
        subst hql
        have hfs : findS L ⟨sn, sl⟩ = some ⟨⟨sn, sl⟩, sc, sz, sb, se, sk⟩ := by
          unfold findS
          rw [← List.take_append_drop j L, List.find?_append, hdr, List.find?_eq_none.2 (fun x hx => by simpa using hG.out x hx)]
          simp
        have hR2 := HR.out
        have hK2 := HK.out
        unfold spotAt at hR2
        rw [hfs] at hR2 hK2
        simp only [Option.getD_some] at hR2
        have HR2 := Lib.hid hR2
        have HK2 := Lib.hid hK2
        clear hfs hR2 hK2 hdr htk
        have r0 : wr.cell? ⟨w.heap.size + 1, 0, none⟩ = some (.int .i64 0) := by rw [cell_of_row _ _ 0 _ _ _ HXW.out]; rfl
        have f0 : wr.frozen? ⟨w.heap.size + 1, 0, none⟩ = false := frozen_of_row _ _ _ _ _ HXW.out
        have r1 : wr.cell? ⟨w.heap.size + 1, 1, none⟩ = some (.int .u8 0) := by rw [cell_of_row _ _ 1 _ _ _ HXW.out]; rfl
        have f1 : wr.frozen? ⟨w.heap.size + 1, 1, none⟩ = false := frozen_of_row _ _ _ _ _ HXW.out
        have r2 : wr.cell? ⟨w.heap.size + 1, 2, none⟩ = some (.int .i64 0) := by rw [cell_of_row _ _ 2 _ _ _ HXW.out]; rfl
        have f2 : wr.frozen? ⟨w.heap.size + 1, 2, none⟩ = false := frozen_of_row _ _ _ _ _ HXW.out
        have r3 : wr.cell? ⟨w.heap.size + 1, 3, none⟩ = some (.int .i64 0) := by rw [cell_of_row _ _ 3 _ _ _ HXW.out]; rfl
        have f3 : wr.frozen? ⟨w.heap.size + 1, 3, none⟩ = false := frozen_of_row _ _ _ _ _ HXW.out
        have r4 : wr.cell? ⟨w.heap.size + 1, 4, none⟩ = some (.int .i64 0) := by rw [cell_of_row _ _ 4 _ _ _ HXW.out]; rfl
        have f4 : wr.frozen? ⟨w.heap.size + 1, 4, none⟩ = false := frozen_of_row _ _ _ _ _ HXW.out
        have r5 : wr.cell? ⟨w.heap.size + 1, 5, none⟩ = some (.bool false) := by rw [cell_of_row _ _ 5 _ _ _ HXW.out]; rfl
        have f5 : wr.frozen? ⟨w.heap.size + 1, 5, none⟩ = false := frozen_of_row _ _ _ _ _ HXW.out
        have r6 : wr.cell? ⟨w.heap.size + 1, 6, none⟩ = some (.bool false) := by rw [cell_of_row _ _ 6 _ _ _ HXW.out]; rfl
        have f6 : wr.frozen? ⟨w.heap.size + 1, 6, none⟩ = false := frozen_of_row _ _ _ _ _ HXW.out
        have hRR : ((((((((wr.setCell ⟨w.heap.size + 1, 0, none⟩ (.int .i64 sn)).setCell ⟨w.heap.size + 1, 1, none⟩ (.int .u8 (sl.toNat : Int))).setCell ⟨w.heap.size + 1, 2, none⟩ (.int .i64 sc)).setCell ⟨w.heap.size + 1, 3, none⟩ (.int .i64 sz)).setCell ⟨w.heap.size + 1, 4, none⟩ (.int .i64 sb)).setCell ⟨w.heap.size + 1, 5, none⟩ (.bool se)).setCell ⟨w.heap.size + 1, 6, none⟩ (.bool sk)).alloc (.cells #[.int .i64 sn, .int .u8 (sl.toNat : Int), .int .i64 sc, .int .i64 sz, .int .i64 sb, .bool se, .bool sk] 105)).heap[w.heap.size + 1]? = some (.cells #[.int .i64 sn, .int .u8 (sl.toNat : Int), .int .i64 sc, .int .i64 sz, .int .i64 sb, .bool se, .bool sk] 105 (0, 0)) :=
          (Below.heap_alloc _ _ _ (by simpa using hwr)).trans (heap_setCell_same _ _ 6 _ _ _ (heap_setCell_same _ _ 5 _ _ _ (heap_setCell_same _ _ 4 _ _ _ (heap_setCell_same _ _ 3 _ _ _ (heap_setCell_same _ _ 2 _ _ _ (heap_setCell_same _ _ 1 _ _ _ (heap_setCell_same _ _ 0 _ _ _ HXW.out)))))))
        have RR := Lib.hid hRR
        have kinfo : (Tryd.prog.info? 105).map (·.size) = some 7 := by kernel_rfl
        have HBR : Hid (Below w2.heap.size w2 wr) := hB
        clear hRR hB
        go_wp2
        refine bodyPost_ret (results_cell_tmp_row rfl _ _ (w.heap.size + 1) 105 #[.int .i64 sn, .int .u8 (sl.toNat : Int), .int .i64 sc, .int .i64 sz, .int .i64 sb, .bool se, .bool sk] (0, 0) _ rfl RR.out Tryd.underlying105 rfl kinfo) rfl ?_
        refine ⟨?_, ?_⟩
        · rw [← HR2.out, ← HK2.out]; rfl
        · have hbw : Below w.heap.size w wr := HB2.out.trans (HBR.out.mono HB2.out.size)
          exact hbw.trans ((((((((((Upd.refl (fun k => k = w.heap.size + 1) wr).setCell ⟨w.heap.size + 1, 0, none⟩ rfl _).setCell ⟨w.heap.size + 1, 1, none⟩ rfl _).setCell ⟨w.heap.size + 1, 2, none⟩ rfl _).setCell ⟨w.heap.size + 1, 3, none⟩ rfl _).setCell ⟨w.heap.size + 1, 4, none⟩ rfl _).setCell ⟨w.heap.size + 1, 5, none⟩ rfl _).setCell ⟨w.heap.size + 1, 6, none⟩ rfl _).alloc _).below (fun k hk e => by omega) hbw.size)
      · have HG2 : Hid (∀ x ∈ L.take (j + 1), x.seat ≠ ⟨qn, ql⟩) := Lib.hid (fun x hx => by
          rw [htk] at hx
          rcases List.mem_append.1 hx with hx | hx
          · exact hG.out x hx
          · obtain rfl : x = ⟨⟨sn, sl⟩, sc, sz, sb, se, sk⟩ := by simpa using hx
            exact hq)
        have HB3 : Hid (∀ o, Below w2.heap.size w2 (wr.alloc o)) := Lib.hid (fun o => hB.out.alloc hB.out.size o)
        have hne : ¬ (sn = qn ∧ (sl.toNat : Int) = (ql.toNat : Int)) := fun h => hq (by rw [h.1, UInt8.toNat_inj.1 (by omega : sl.toNat = ql.toNat)])
        clear hdr htk hq hG hB
        go_wp2
        all_goals (refine ⟨⟨j + 1, by omega, by go_num, HG2, Lib.hid (HB3.out _)⟩, ?_⟩; simp [intOf]; omega)
    · have hlz : ¬ (j : Int) < (L.length : Int) := by omega
      have hfs : findS L ⟨qn, ql⟩ = none := by
        unfold findS
        rw [List.find?_eq_none]
        intro x hx
        rw [← List.take_of_length_le (by omega : L.length ≤ j)] at hx
        simpa using hG.out x hx
      have hR2 := HR.out
      have hK2 := HK.out
      unfold spotAt at hR2
      rw [hfs] at hR2 hK2
      simp only [Option.getD_none] at hR2
      have HR2 := Lib.hid hR2
      have HK2 := Lib.hid hK2
      have r0 : wr.cell? ⟨w.heap.size + 1, 0, none⟩ = some (.int .i64 0) := by rw [cell_of_row _ _ 0 _ _ _ x2]; rfl
      have f0 : wr.frozen? ⟨w.heap.size + 1, 0, none⟩ = false := frozen_of_row _ _ _ _ _ x2
      have r1 : wr.cell? ⟨w.heap.size + 1, 1, none⟩ = some (.int .u8 0) := by rw [cell_of_row _ _ 1 _ _ _ x2]; rfl
      have f1 : wr.frozen? ⟨w.heap.size + 1, 1, none⟩ = false := frozen_of_row _ _ _ _ _ x2
      have r2 : wr.cell? ⟨w.heap.size + 1, 2, none⟩ = some (.int .i64 0) := by rw [cell_of_row _ _ 2 _ _ _ x2]; rfl
      have f2 : wr.frozen? ⟨w.heap.size + 1, 2, none⟩ = false := frozen_of_row _ _ _ _ _ x2
      have r3 : wr.cell? ⟨w.heap.size + 1, 3, none⟩ = some (.int .i64 0) := by rw [cell_of_row _ _ 3 _ _ _ x2]; rfl
      have f3 : wr.frozen? ⟨w.heap.size + 1, 3, none⟩ = false := frozen_of_row _ _ _ _ _ x2
      have r4 : wr.cell? ⟨w.heap.size + 1, 4, none⟩ = some (.int .i64 0) := by rw [cell_of_row _ _ 4 _ _ _ x2]; rfl
      have f4 : wr.frozen? ⟨w.heap.size + 1, 4, none⟩ = false := frozen_of_row _ _ _ _ _ x2
      have r5 : wr.cell? ⟨w.heap.size + 1, 5, none⟩ = some (.bool false) := by rw [cell_of_row _ _ 5 _ _ _ x2]; rfl
      have f5 : wr.frozen? ⟨w.heap.size + 1, 5, none⟩ = false := frozen_of_row _ _ _ _ _ x2
      have r6 : wr.cell? ⟨w.heap.size + 1, 6, none⟩ = some (.bool false) := by rw [cell_of_row _ _ 6 _ _ _ x2]; rfl
      have f6 : wr.frozen? ⟨w.heap.size + 1, 6, none⟩ = false := frozen_of_row _ _ _ _ _ x2
      have HRR : Hid ((((((((wr.setCell ⟨w.heap.size + 1, 0, none⟩ (.int .i64 0)).setCell ⟨w.heap.size + 1, 1, none⟩ (.int .u8 0)).setCell ⟨w.heap.size + 1, 2, none⟩ (.int .i64 0)).setCell ⟨w.heap.size + 1, 3, none⟩ (.int .i64 0)).setCell ⟨w.heap.size + 1, 4, none⟩ (.int .i64 0)).setCell ⟨w.heap.size + 1, 5, none⟩ (.bool false)).setCell ⟨w.heap.size + 1, 6, none⟩ (.bool false)).heap[w.heap.size + 1]? = some (.cells #[.int .i64 0, .int .u8 0, .int .i64 0, .int .i64 0, .int .i64 0, .bool false, .bool false] 105 (0, 0))) := Lib.hid ((heap_setCell_same _ _ 6 _ _ _ (heap_setCell_same _ _ 5 _ _ _ (heap_setCell_same _ _ 4 _ _ _ (heap_setCell_same _ _ 3 _ _ _ (heap_setCell_same _ _ 2 _ _ _ (heap_setCell_same _ _ 1 _ _ _ (heap_setCell_same _ _ 0 _ _ _ x2))))))))
      have kinfo : (Tryd.prog.info? 105).map (·.size) = some 7 := by kernel_rfl
      have HBR := Lib.hid hB.out
      clear hfs hR2 hK2 x1 x2 hB
      go_wp2
      refine bodyPost_ret (results_cell_tmp_row rfl _ _ (w.heap.size + 1) 105 #[.int .i64 0, .int .u8 0, .int .i64 0, .int .i64 0, .int .i64 0, .bool false, .bool false] (0, 0) _ rfl HRR.out Tryd.underlying105 rfl kinfo) rfl ?_
      refine ⟨?_, ?_⟩
      · rw [← HR2.out, ← HK2.out]; rfl
      · have hbw : Below w.heap.size w wr := HB2.out.trans (HBR.out.mono HB2.out.size)
        exact hbw.trans (((((((((Upd.refl (fun k => k = w.heap.size + 1) wr).setCell ⟨w.heap.size + 1, 0, none⟩ rfl _).setCell ⟨w.heap.size + 1, 1, none⟩ rfl _).setCell ⟨w.heap.size + 1, 2, none⟩ rfl _).setCell ⟨w.heap.size + 1, 3, none⟩ rfl _).setCell ⟨w.heap.size + 1, 4, none⟩ rfl _).setCell ⟨w.heap.size + 1, 5, none⟩ rfl _).setCell ⟨w.heap.size + 1, 6, none⟩ rfl _).below (fun k hk e => by omega) hbw.size)
end Go.Proofs.YtppjpledjhinbaaDoor
