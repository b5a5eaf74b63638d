/- Seating: the laws' own example. -/
import Derived.Test.YtddiabpjmnmllaaDoorJFtFree
namespace Go.Proofs.YtddiabpjmnmllaaDoor
open Go.RowKit Go.Lib
open Go.Maps (Keyed)
theorem rd_blockN {w : World} {h : Nat} (n size : Nat) {cs : Array Value} {t : TypeId} (hb : w.heap[h]? = some (.cells cs t (0, 0))) (hs : cs.size = n * size) : Rd w w.heap.size size (some ⟨h, 0, none⟩) n cs.toList :=
  ⟨by simpa using hs, fun _ => ⟨_, rfl, (Array.getElem?_eq_some_iff.1 hb).1, fun j u hu => by
    rw [add_zero_off, cell_of_row w h j _ _ _ hb]
    simpa using hu⟩⟩
def exRows : List MRow := [⟨1, 1, 0, false, ⟨#[65, 46, 67]⟩⟩, ⟨12, 2, 1, true, ⟨#[65, 66, 67, 46, 100, 69, 70]⟩⟩]
def exWho : MWho := ⟨1, false, false⟩
theorem ex_free : freeL exRows exWho [⟨exWho, ⟨1, 65⟩⟩] = [⟨1, 67⟩] := by decide +kernel
theorem ex_all : allE exRows [⟨exWho, ⟨12, 65⟩⟩] = 16 := by decide +kernel
theorem ex_fits : ∀ r ∈ exRows, r.fits := by
  intro r hr
  simp only [exRows, List.mem_cons, List.mem_nil_iff, or_false] at hr
  rcases hr with rfl | rfl <;> (unfold MRow.fits; refine ⟨⟨by decide, by decide⟩, by decide⟩)
set_option maxHeartbeats 8000000 in
set_option maxRecDepth 20000 in
theorem lives_any (w : World) (m : Int) (hLib : LibAt w m) : Calls Tryd.prog 12 #[] w fun e w' => e = .returned (.bool true) ∧ Below w.heap.size w w' := by
  obtain ⟨W, hW⟩ : ∃ W, W = ((w.alloc (.cells #[.int .i64 1, .int .i64 1, .int .i64 0, .bool false, .string ⟨#[65, 46, 67]⟩, .int .i64 12, .int .i64 2, .int .i64 1, .bool true, .string ⟨#[65, 66, 67, 46, 100, 69, 70]⟩] 41)).alloc (.cells #[.int .i64 1, .bool false, .bool false] 24)).alloc (.cells #[.int .i64 1, .bool false, .bool false, .int .i64 1, .int .u8 65] 39) := ⟨_, rfl⟩
  have hbW : Below w.heap.size w W := by rw [hW]; exact (((Below.refl _ w).alloc (Nat.le_refl _) _).alloc (by simp) _).alloc (by simp <;> omega) _
  have h1 : W.heap[w.heap.size]? = some (.cells #[.int .i64 1, .int .i64 1, .int .i64 0, .bool false, .string ⟨#[65, 46, 67]⟩, .int .i64 12, .int .i64 2, .int .i64 1, .bool true, .string ⟨#[65, 66, 67, 46, 100, 69, 70]⟩] 41 (0, 0)) := by
    rw [hW]
    exact (Below.heap_alloc _ _ _ (by simp <;> omega)).trans ((Below.heap_alloc _ _ _ (by simp)).trans (heap_alloc_new w _))
  have h2 : W.heap[w.heap.size + 1]? = some (.cells #[.int .i64 1, .bool false, .bool false] 24 (0, 0)) := by
    have := heap_alloc_new (w.alloc (.cells #[.int .i64 1, .int .i64 1, .int .i64 0, .bool false, .string ⟨#[65, 46, 67]⟩, .int .i64 12, .int .i64 2, .int .i64 1, .bool true, .string ⟨#[65, 66, 67, 46, 100, 69, 70]⟩] 41)) (.cells #[.int .i64 1, .bool false, .bool false] 24)
    rw [show (w.alloc (.cells #[.int .i64 1, .int .i64 1, .int .i64 0, .bool false, .string ⟨#[65, 46, 67]⟩, .int .i64 12, .int .i64 2, .int .i64 1, .bool true, .string ⟨#[65, 66, 67, 46, 100, 69, 70]⟩] 41)).heap.size = w.heap.size + 1 by simp] at this
    rw [hW]
    exact (Below.heap_alloc _ _ _ (by simp)).trans this
  have h3 : W.heap[w.heap.size + 2]? = some (.cells #[.int .i64 1, .bool false, .bool false, .int .i64 1, .int .u8 65] 39 (0, 0)) := by
    have := heap_alloc_new ((w.alloc (.cells #[.int .i64 1, .int .i64 1, .int .i64 0, .bool false, .string ⟨#[65, 46, 67]⟩, .int .i64 12, .int .i64 2, .int .i64 1, .bool true, .string ⟨#[65, 66, 67, 46, 100, 69, 70]⟩] 41)).alloc (.cells #[.int .i64 1, .bool false, .bool false] 24)) (.cells #[.int .i64 1, .bool false, .bool false, .int .i64 1, .int .u8 65] 39)
    rw [show ((w.alloc (.cells #[.int .i64 1, .int .i64 1, .int .i64 0, .bool false, .string ⟨#[65, 46, 67]⟩, .int .i64 12, .int .i64 2, .int .i64 1, .bool true, .string ⟨#[65, 66, 67, 46, 100, 69, 70]⟩] 41)).alloc (.cells #[.int .i64 1, .bool false, .bool false] 24)).heap.size = w.heap.size + 2 by simp] at this
    rw [hW]
    exact this
  have r1 : Rd W W.heap.size 5 (some ⟨w.heap.size, 0, none⟩) 2 (catv rowC exRows) := rd_blockN 2 5 h1 rfl
  have r3 : Rd W W.heap.size 5 (some ⟨w.heap.size + 2, 0, none⟩) 1 (catv sitC [⟨exWho, ⟨1, 65⟩⟩]) := rd_blockN 1 5 h3 rfl
  have HLib := Lib.hid (hLib.below hbW)
  have hFr := free_any W m _ 2 2 exRows exWho _ 1 1 [⟨exWho, ⟨1, 65⟩⟩] r1 ex_fits r3 (by simp [MSeat.fits]) (by simp) HLib.out
  rw [ex_free] at hFr
  have HFr := Lib.hid hFr
  have R1 := Lib.hid r1
  have H2 := Lib.hid h2
  have HBW := Lib.hid hbW
  clear hFr r1 r3 h1 h2 h3 hbW hLib
  go_enter Tryd.func12, Tryd.ntmps12
  go_wp2_with fail
  rw [← hW]
  clear hW
  refine HFr.out.mono ?_
  rintro e w2 ⟨v, rfl, ho, hb2⟩
  obtain ⟨A2, c2, rfl, hrd⟩ := own_rd ho
  obtain ⟨gb, off, rfl, hgb, hs, hcc⟩ := Rd.elem (k := 0) seatC_len (by decide) hrd (by decide)
  have c0 := hcc 0 _ rfl
  have c1 := hcc 1 _ rfl
  simp only [Nat.zero_mul, Nat.add_zero] at c0 c1
  have b2 := box_keep H2.out (Upd.of_below (S := fun _ => False) hb2) id
  have z0 : w2.cell? ⟨w.heap.size + 1, 0, none⟩ = some (.int .i64 1) := by rw [cell_of_row _ _ 0 _ _ _ b2]; rfl
  have z1 : w2.cell? ⟨w.heap.size + 1, 1, none⟩ = some (.bool false) := by rw [cell_of_row _ _ 1 _ _ _ b2]; rfl
  have z2 : w2.cell? ⟨w.heap.size + 1, 2, none⟩ = some (.bool false) := by rw [cell_of_row _ _ 2 _ _ _ b2]; rfl
  have hlt : w.heap.size + 1 < w2.heap.size := (Array.getElem?_eq_some_iff.1 b2).1
  obtain ⟨W3, hW3⟩ : ∃ W3, W3 = w2.alloc (.cells #[.int .i64 1, .bool false, .bool false, .int .i64 12, .int .u8 65] 39) := ⟨_, rfl⟩
  have hb3 : Below w2.heap.size w2 W3 := by rw [hW3]; exact (Below.refl _ _).alloc (Nat.le_refl _) _
  have s3 : W3.heap[w2.heap.size]? = some (.cells #[.int .i64 1, .bool false, .bool false, .int .i64 12, .int .u8 65] 39 (0, 0)) := by rw [hW3]; exact heap_alloc_new w2 _
  have hbb : Below W.heap.size W W3 := hb2.trans (hb3.mono hb2.size)
  have r3 : Rd W3 W3.heap.size 5 (some ⟨w2.heap.size, 0, none⟩) 1 (catv sitC [⟨exWho, ⟨12, 65⟩⟩]) := rd_blockN 1 5 s3 rfl
  have hAl := all_any W3 m _ 2 2 exRows _ 1 1 [⟨exWho, ⟨12, 65⟩⟩] ((R1.out.below hbb).mono hbb.size) ex_fits r3 (by simp [MSeat.fits]) (by simp) (HLib.out.below hbb)
  rw [ex_all] at hAl
  have HAl := Lib.hid hAl
  have HBB := Lib.hid (HBW.out.trans (hbb.mono HBW.out.size))
  clear hAl r3 hbb s3 hb3 b2 hcc hrd ho hb2 HFr
  go_wp2_with fail
  rw [← hW3]
  clear hW3
  refine HAl.out.mono ?_
  rintro e w4 ⟨rfl, hb4⟩
  have HB4 := Lib.hid (HBB.out.trans (hb4.mono HBB.out.size))
  clear HAl hb4
  go_wp2
  go_ret
  exact ⟨rfl, HB4.out⟩
end Go.Proofs.YtddiabpjmnmllaaDoor
/- The law FitOne, walked. -/
namespace Go.Proofs.YtddiabpjmnmllaaDoor
open Go.RowKit Go.Lib
theorem bel_on {W V u : World} (h : Below W.heap.size W V) (h2 : Below V.heap.size V u) : Below W.heap.size W u := h.trans (h2.mono h.size)
theorem bel_on2 {w W V : World} (h : Below w.heap.size w W) (h2 : Below W.heap.size W V) : Below w.heap.size w V := h.trans (h2.mono h.size)
set_option maxHeartbeats 8000000 in
set_option maxRecDepth 20000 in
theorem fitOne_any (w : World) (m : Int) (x : MWho) (s : MSpot) (hLib : LibAt w m) :
    Calls Tryd.prog 4 #[.agg #[.int .i64 x.cab, .bool x.fit, .bool x.inf], spotV s] w fun e w' => e = .returned (.bool true) ∧ Below w.heap.size w w' := by
  obtain ⟨xc, xf, xi⟩ := x
  obtain ⟨⟨sn, sl⟩, sc, sz, sb, se, sk⟩ := s
  obtain ⟨W, hW⟩ : ∃ W, W = (w.alloc (.cells #[.int .i64 xc, .bool xf, .bool xi] 24)).alloc (.cells #[.int .i64 sn, .int .u8 (sl.toNat : Int), .int .i64 sc, .int .i64 sz, .int .i64 sb, .bool se, .bool sk] 35) := ⟨_, rfl⟩
  have hbW : Below w.heap.size w W := by rw [hW]; exact ((Below.refl _ w).alloc (Nat.le_refl _) _).alloc (by simp) _
  have b1 : W.heap[w.heap.size]? = some (.cells #[.int .i64 xc, .bool xf, .bool xi] 24 (0, 0)) := by
    rw [hW]; exact (Below.heap_alloc _ _ _ (by simp)).trans (heap_alloc_new w _)
  have b2 : W.heap[w.heap.size + 1]? = some (.cells #[.int .i64 sn, .int .u8 (sl.toNat : Int), .int .i64 sc, .int .i64 sz, .int .i64 sb, .bool se, .bool sk] 35 (0, 0)) := by
    have := heap_alloc_new (w.alloc (.cells #[.int .i64 xc, .bool xf, .bool xi] 24)) (.cells #[.int .i64 sn, .int .u8 (sl.toNat : Int), .int .i64 sc, .int .i64 sz, .int .i64 sb, .bool se, .bool sk] 35)
    rw [show (w.alloc (.cells #[.int .i64 xc, .bool xf, .bool xi] 24)).heap.size = w.heap.size + 1 by simp] at this
    rw [hW]; exact this
  have HX : Hid (∀ V : World, Below W.heap.size W V → V.cell? ⟨w.heap.size, 0, none⟩ = some (.int .i64 xc) ∧ V.cell? ⟨w.heap.size, 1, none⟩ = some (.bool xf) ∧ V.cell? ⟨w.heap.size, 2, none⟩ = some (.bool xi) ∧
      V.cell? ⟨w.heap.size + 1, 0, none⟩ = some (.int .i64 sn) ∧ V.cell? ⟨w.heap.size + 1, 1, none⟩ = some (.int .u8 (sl.toNat : Int)) ∧ V.cell? ⟨w.heap.size + 1, 2, none⟩ = some (.int .i64 sc) ∧ V.cell? ⟨w.heap.size + 1, 3, none⟩ = some (.int .i64 sz) ∧ V.cell? ⟨w.heap.size + 1, 4, none⟩ = some (.int .i64 sb) ∧ V.cell? ⟨w.heap.size + 1, 5, none⟩ = some (.bool se) ∧ V.cell? ⟨w.heap.size + 1, 6, none⟩ = some (.bool sk)) := Lib.hid (fun V hV => by
    have c1 := box_keep b1 (Upd.of_below (S := fun _ => False) hV) id
    have c2 := box_keep b2 (Upd.of_below (S := fun _ => False) hV) id
    refine ⟨?_, ?_, ?_, ?_, ?_, ?_, ?_, ?_, ?_, ?_⟩
    · rw [cell_of_row _ _ 0 _ _ _ c1]; rfl
    · rw [cell_of_row _ _ 1 _ _ _ c1]; rfl
    · rw [cell_of_row _ _ 2 _ _ _ c1]; rfl
    · rw [cell_of_row _ _ 0 _ _ _ c2]; rfl
    · rw [cell_of_row _ _ 1 _ _ _ c2]; rfl
    · rw [cell_of_row _ _ 2 _ _ _ c2]; rfl
    · rw [cell_of_row _ _ 3 _ _ _ c2]; rfl
    · rw [cell_of_row _ _ 4 _ _ _ c2]; rfl
    · rw [cell_of_row _ _ 5 _ _ _ c2]; rfl
    · rw [cell_of_row _ _ 6 _ _ _ c2]; rfl)
  have HLib := Lib.hid (hLib.below hbW)
  have HBW := Lib.hid hbW
  obtain ⟨O, hO⟩ : ∃ O, oneE ⟨xc, xf, xi⟩ ⟨⟨sn, sl⟩, sc, sz, sb, se, sk⟩ = O := ⟨_, rfl⟩
  have H1 : Hid (∀ V : World, Calls Tryd.prog 15 #[.agg #[.int .i64 xc, .bool xf, .bool xi], .agg #[.int .i64 sn, .int .u8 (sl.toNat : Int), .int .i64 sc, .int .i64 sz, .int .i64 sb, .bool se, .bool sk]] V fun e V' => e = .returned (.int .i64 O) ∧ Below V.heap.size V V') := Lib.hid (fun V => by
    have := one_any V ⟨xc, xf, xi⟩ ⟨⟨sn, sl⟩, sc, sz, sb, se, sk⟩
    rw [hO] at this
    exact this)
  have H2 : Hid (∀ V : World, Calls Tryd.prog 16 #[.agg #[.int .i64 xc, .bool xf, .bool xi], .agg #[.int .i64 sn, .int .u8 (sl.toNat : Int), .int .i64 sc, .int .i64 sz, .int .i64 sb, .bool se, .bool sk]] V fun e V' => e = .returned (.int .i64 O) ∧ Below V.heap.size V V') := Lib.hid (fun V => by
    have := rone_any V ⟨xc, xf, xi⟩ ⟨⟨sn, sl⟩, sc, sz, sb, se, sk⟩
    rw [hO] at this
    exact this)
  have hb : Below W.heap.size W W.drew := (Below.refl _ _).drew
  clear hbW b1 b2 hO hLib
  unfold spotV
  go_enter Tryd.func4, Tryd.ntmps4
  go_wp2_with fail
  rw [← hW]
  clear hW
  go_region_held3 (fun V => Below W.heap.size W V ∧ V.cell? ⟨w.heap.size, 0, none⟩ = some (.int .i64 xc) ∧ V.cell? ⟨w.heap.size, 1, none⟩ = some (.bool xf) ∧ V.cell? ⟨w.heap.size, 2, none⟩ = some (.bool xi) ∧ V.cell? ⟨w.heap.size + 1, 0, none⟩ = some (.int .i64 sn) ∧ V.cell? ⟨w.heap.size + 1, 1, none⟩ = some (.int .u8 (sl.toNat : Int)) ∧ V.cell? ⟨w.heap.size + 1, 2, none⟩ = some (.int .i64 sc) ∧ V.cell? ⟨w.heap.size + 1, 3, none⟩ = some (.int .i64 sz) ∧ V.cell? ⟨w.heap.size + 1, 4, none⟩ = some (.int .i64 sb) ∧ V.cell? ⟨w.heap.size + 1, 5, none⟩ = some (.bool se) ∧ V.cell? ⟨w.heap.size + 1, 6, none⟩ = some (.bool sk))
    (first | assumption | exact ⟨hb, HX.out _ hb⟩)
    (first
      | (go_at_call 12; refine (lives_any _ m (HLib.out.below (And.left (by assumption)))).mono ?_; rintro e u ⟨rfl, hu⟩; have hb := bel_on (W := W) (And.left (by assumption)) hu)
      | (go_at_call 15; refine (H1.out _).mono ?_; rintro e u ⟨rfl, hu⟩; have hb := bel_on (W := W) (And.left (by assumption)) hu)
      | (go_at_call 16; refine (H2.out _).mono ?_; rintro e u ⟨rfl, hu⟩; have hb := bel_on (W := W) (And.left (by assumption)) hu)
      | fail)
  all_goals go_wp2
  all_goals go_ret
  all_goals exact ⟨rfl, bel_on2 HBW.out (And.left (by assumption))⟩
end Go.Proofs.YtddiabpjmnmllaaDoor
