/- The law FitOne, walked. -/
import Derived.Test.YtddiabpjmnmllaaDoorFtLives
namespace Go.Proofs.YtddiabpjmnmllaaDoor
open Go.RowKit Go.Lib
theorem bel_on {W V u : World} (h : Below W.heap.size W V) (h2 : Below V.heap.size V u) : Below W.heap.size W u := h.trans (h2.mono h.size)
theorem bel_on2 {w W V : World} (h : Below w.heap.size w W) (h2 : Below W.heap.size W V) : Below w.heap.size w V := h.trans (h2.mono h.size)
set_option maxHeartbeats 8000000 in
set_option maxRecDepth 20000 in
theorem fitOne_any (w : World) (m : Int) (x : MWho) (s : MSpot) (hLib : LibAt w m) :
    Calls Tryd.prog 4 #[.agg #[.int .i64 x.cab, .bool x.fit, .bool x.inf], spotV s] w fun e w' => e = .returned (.bool true) ∧ Below w.heap.size w w' := by
  obtain ⟨xc, xf, xi⟩ := x
  obtain ⟨⟨sn, sl⟩, sc, sz, sb, se, sk⟩ := s
  obtain ⟨W, hW⟩ : ∃ W, W = (w.alloc (.cells #[.int .i64 xc, .bool xf, .bool xi] 24)).alloc (.cells #[.int .i64 sn, .int .u8 (sl.toNat : Int), .int .i64 sc, .int .i64 sz, .int .i64 sb, .bool se, .bool sk] 35) := ⟨_, rfl⟩
  have hbW : Below w.heap.size w W := by rw [hW]; exact ((Below.refl _ w).alloc (Nat.le_refl _) _).alloc (by simp) _
  have b1 : W.heap[w.heap.size]? = some (.cells #[.int .i64 xc, .bool xf, .bool xi] 24 (0, 0)) := by
    rw [hW]; exact (Below.heap_alloc _ _ _ (by simp)).trans (heap_alloc_new w _)
  have b2 : W.heap[w.heap.size + 1]? = some (.cells #[.int .i64 sn, .int .u8 (sl.toNat : Int), .int .i64 sc, .int .i64 sz, .int .i64 sb, .bool se, .bool sk] 35 (0, 0)) := by
    have := heap_alloc_new (w.alloc (.cells #[.int .i64 xc, .bool xf, .bool xi] 24)) (.cells #[.int .i64 sn, .int .u8 (sl.toNat : Int), .int .i64 sc, .int .i64 sz, .int .i64 sb, .bool se, .bool sk] 35)
    rw [show (w.alloc (.cells #[.int .i64 xc, .bool xf, .bool xi] 24)).heap.size = w.heap.size + 1 by simp] at this
    rw [hW]; exact this
  have HX : Hid (∀ V : World, Below W.heap.size W V → V.cell? ⟨w.heap.size, 0, none⟩ = some (.int .i64 xc) ∧ V.cell? ⟨w.heap.size, 1, none⟩ = some (.bool xf) ∧ V.cell? ⟨w.heap.size, 2, none⟩ = some (.bool xi) ∧
      V.cell? ⟨w.heap.size + 1, 0, none⟩ = some (.int .i64 sn) ∧ V.cell? ⟨w.heap.size + 1, 1, none⟩ = some (.int .u8 (sl.toNat : Int)) ∧ V.cell? ⟨w.heap.size + 1, 2, none⟩ = some (.int .i64 sc) ∧ V.cell? ⟨w.heap.size + 1, 3, none⟩ = some (.int .i64 sz) ∧ V.cell? ⟨w.heap.size + 1, 4, none⟩ = some (.int .i64 sb) ∧ V.cell? ⟨w.heap.size + 1, 5, none⟩ = some (.bool se) ∧ V.cell? ⟨w.heap.size + 1, 6, none⟩ = some (.bool sk)) := Lib.hid (fun V hV => by
    have c1 := box_keep b1 (Upd.of_below (S := fun _ => False) hV) id
    have c2 := box_keep b2 (Upd.of_below (S := fun _ => False) hV) id
    refine ⟨?_, ?_, ?_, ?_, ?_, ?_, ?_, ?_, ?_, ?_⟩
    · rw [cell_of_row _ _ 0 _ _ _ c1]; rfl
    · rw [cell_of_row _ _ 1 _ _ _ c1]; rfl
    · rw [cell_of_row _ _ 2 _ _ _ c1]; rfl
    · rw [cell_of_row _ _ 0 _ _ _ c2]; rfl
    · rw [cell_of_row _ _ 1 _ _ _ c2]; rfl
    · rw [cell_of_row _ _ 2 _ _ _ c2]; rfl
    · rw [cell_of_row _ _ 3 _ _ _ c2]; rfl
    · rw [cell_of_row _ _ 4 _ _ _ c2]; rfl
    · rw [cell_of_row _ _ 5 _ _ _ c2]; rfl
    · rw [cell_of_row _ _ 6 _ _ _ c2]; rfl)
  have HLib := Lib.hid (hLib.below hbW)
  have HBW := Lib.hid hbW
  obtain ⟨O, hO⟩ : ∃ O, oneE ⟨xc, xf, xi⟩ ⟨⟨sn, sl⟩, sc, sz, sb, se, sk⟩ = O := ⟨_, rfl⟩
  have H1 : Hid (∀ V : World, Calls Tryd.prog 15 #[.agg #[.int .i64 xc, .bool xf, .bool xi], .agg #[.int .i64 sn, .int .u8 (sl.toNat : Int), .int .i64 sc, .int .i64 sz, .int .i64 sb, .bool se, .bool sk]] V fun e V' => e = .returned (.int .i64 O) ∧ Below V.heap.size V V') := Lib.hid (fun V => by
    have := one_any V ⟨xc, xf, xi⟩ ⟨⟨sn, sl⟩, sc, sz, sb, se, sk⟩
    rw [hO] at this
    exact this)
  have H2 : Hid (∀ V : World, Calls Tryd.prog 16 #[.agg #[.int .i64 xc, .bool xf, .bool xi], .agg #[.int .i64 sn, .int .u8 (sl.toNat : Int), .int .i64 sc, .int .i64 sz, .int .i64 sb, .bool se, .bool sk]] V fun e V' => e = .returned (.int .i64 O) ∧ Below V.heap.size V V') := Lib.hid (fun V => by
    have := rone_any V ⟨xc, xf, xi⟩ ⟨⟨sn, sl⟩, sc, sz, sb, se, sk⟩
    rw [hO] at this
    exact this)
  have hb : Below W.heap.size W W.drew := (Below.refl _ _).drew
  clear hbW b1 b2 hO hLib
  unfold spotV
  go_enter Tryd.func4, Tryd.ntmps4
  go_wp2_with fail
  rw [← hW]
  clear hW
  go_region_held3 (fun V => Below W.heap.size W V ∧ V.cell? ⟨w.heap.size, 0, none⟩ = some (.int .i64 xc) ∧ V.cell? ⟨w.heap.size, 1, none⟩ = some (.bool xf) ∧ V.cell? ⟨w.heap.size, 2, none⟩ = some (.bool xi) ∧ V.cell? ⟨w.heap.size + 1, 0, none⟩ = some (.int .i64 sn) ∧ V.cell? ⟨w.heap.size + 1, 1, none⟩ = some (.int .u8 (sl.toNat : Int)) ∧ V.cell? ⟨w.heap.size + 1, 2, none⟩ = some (.int .i64 sc) ∧ V.cell? ⟨w.heap.size + 1, 3, none⟩ = some (.int .i64 sz) ∧ V.cell? ⟨w.heap.size + 1, 4, none⟩ = some (.int .i64 sb) ∧ V.cell? ⟨w.heap.size + 1, 5, none⟩ = some (.bool se) ∧ V.cell? ⟨w.heap.size + 1, 6, none⟩ = some (.bool sk))
    (first | assumption | exact ⟨hb, HX.out _ hb⟩)
    (first
      | (go_at_call 12; refine (lives_any _ m (HLib.out.below (And.left (by assumption)))).mono ?_; rintro e u ⟨rfl, hu⟩; have hb := bel_on (W := W) (And.left (by assumption)) hu)
      | (go_at_call 15; refine (H1.out _).mono ?_; rintro e u ⟨rfl, hu⟩; have hb := bel_on (W := W) (And.left (by assumption)) hu)
      | (go_at_call 16; refine (H2.out _).mono ?_; rintro e u ⟨rfl, hu⟩; have hb := bel_on (W := W) (And.left (by assumption)) hu)
      | fail)
  all_goals go_wp2
  all_goals go_ret
  all_goals exact ⟨rfl, bel_on2 HBW.out (And.left (by assumption))⟩
end Go.Proofs.YtddiabpjmnmllaaDoor
