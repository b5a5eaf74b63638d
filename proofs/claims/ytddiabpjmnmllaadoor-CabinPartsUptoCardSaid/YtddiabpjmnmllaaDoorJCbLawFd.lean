/- The law CabinFinds, walked. -/
import Derived.Test.YtddiabpjmnmllaaDoorJCbRNr
namespace Go.Proofs.YtddiabpjmnmllaaDoor
open Go.RowKit Go.Lib
theorem fldSpot : Tryd.prog.underlying 35 = some (.struct (Tryd.prog.fieldsOf 35)) := by kernel_rfl
theorem hldSpot : Tryd.prog.stoodInHeld 35 = false := by kernel_rfl
theorem spot_eqRefl (w : World) (xn : Int) (xl : UInt8) (xc xz xb : Int) (xe xk : Bool) : (Op.equalIn 10000 35 (.agg #[.int .i64 xn, .int .u8 (xl.toNat : Int), .int .i64 xc, .int .i64 xz, .int .i64 xb, .bool xe, .bool xk]) (.agg #[.int .i64 xn, .int .u8 (xl.toNat : Int), .int .i64 xc, .int .i64 xz, .int .i64 xb, .bool xe, .bool xk])).run Tryd.prog w = .ok true w := by
  have u3 := Tryd.underlying3
  have u4 := Tryd.underlying4
  have u5 := Tryd.underlying5
  rw [show (10000 : Nat) = 9999 + 1 from rfl, run_equalIn_agg w 9999 35 _ _ fldSpot hldSpot]
  simp only [Program.fieldsOf, Tryd.underlying35]
  go_simp
set_option maxHeartbeats 16000000 in
set_option maxRecDepth 20000 in
theorem cabFinds_any (w : World) (m : Int) (A : Option Addr) (n c : Nat) (l : List MRow) (a b : MSeat) (hr : Rd w w.heap.size 5 A n (catv rowC l)) (hf : ∀ r ∈ l, r.fits) (hLib : LibAt w m) :
    Calls Tryd.prog 9 #[.slice A n c, .agg #[.int .i64 a.num, .int .u8 (a.ltr.toNat : Int)], .agg #[.int .i64 b.num, .int .u8 (b.ltr.toNat : Int)]] w fun e w' => e = .returned (.bool true) ∧ Below w.heap.size w w' := by
  obtain ⟨an, al⟩ := a
  obtain ⟨bn, bl⟩ := b
  obtain ⟨W, hW⟩ : ∃ W, W = (w.alloc (.cells #[.int .i64 an, .int .u8 (al.toNat : Int)] 32)).alloc (.cells #[.int .i64 bn, .int .u8 (bl.toNat : Int)] 32) := ⟨_, rfl⟩
  have hbW : Below w.heap.size w W := by rw [hW]; exact ((Below.refl _ w).alloc (Nat.le_refl _) _).alloc (by simp) _
  have b1 : W.heap[w.heap.size]? = some (.cells #[.int .i64 an, .int .u8 (al.toNat : Int)] 32 (0, 0)) := by
    rw [hW]; exact (Below.heap_alloc _ _ _ (by simp)).trans (heap_alloc_new w _)
  have b2 : W.heap[w.heap.size + 1]? = some (.cells #[.int .i64 bn, .int .u8 (bl.toNat : Int)] 32 (0, 0)) := by
    have := heap_alloc_new (w.alloc (.cells #[.int .i64 an, .int .u8 (al.toNat : Int)] 32)) (.cells #[.int .i64 bn, .int .u8 (bl.toNat : Int)] 32)
    rw [show (w.alloc (.cells #[.int .i64 an, .int .u8 (al.toNat : Int)] 32)).heap.size = w.heap.size + 1 by simp] at this
    rw [hW]; exact this
  have hLW := hLib.below hbW
  obtain ⟨L, hL⟩ : ∃ L, spotsL l = L := ⟨_, rfl⟩
  obtain ⟨K, hK⟩ : ∃ K, (findS L ⟨an, al⟩).isSome = K := ⟨_, rfl⟩
  obtain ⟨R, hR⟩ : ∃ R, nearGo ⟨an, al⟩ ⟨bn, bl⟩ L = R := ⟨_, rfl⟩
  obtain ⟨⟨⟨xn, xl⟩, xc, xz, xb, xe, xk⟩, hS⟩ : ∃ s, spotAt L ⟨an, al⟩ = s := ⟨_, rfl⟩
  have HLV : Hid (Calls Tryd.prog 24 #[] W fun e V' => e = .returned (.bool true) ∧ Below W.heap.size W V') := Lib.hid (clives_any W m hLW)
  have HFD : Hid (∀ V : World, Below W.heap.size W V → Calls Tryd.prog 32 #[.agg #[.int .i64 an, .int .u8 (al.toNat : Int)], .slice A n c] V fun e w' => e = .returned (.tuple #[.agg #[.int .i64 xn, .int .u8 (xl.toNat : Int), .int .i64 xc, .int .i64 xz, .int .i64 xb, .bool xe, .bool xk], .bool K]) ∧ Below V.heap.size V w') := Lib.hid (fun V hV => by
    have hb := bel_on2 hbW hV
    have := find_any V m A n c l ⟨an, al⟩ ((hr.below hb).mono hb.size) hf (hLW.below hV)
    rw [hL, hS, hK] at this
    exact this)
  have HRF : Hid (∀ V : World, Below W.heap.size W V → Calls Tryd.prog 23 #[.agg #[.int .i64 an, .int .u8 (al.toNat : Int)], .slice A n c] V fun e w' => e = .returned (.tuple #[.agg #[.int .i64 xn, .int .u8 (xl.toNat : Int), .int .i64 xc, .int .i64 xz, .int .i64 xb, .bool xe, .bool xk], .bool K]) ∧ Below V.heap.size V w') := Lib.hid (fun V hV => by
    have hb := bel_on2 hbW hV
    have := rfind_any V A n c l ⟨an, al⟩ ((hr.below hb).mono hb.size) hf
    rw [hL, hS, hK] at this
    exact this)
  have HNR : Hid (∀ V : World, Below W.heap.size W V → Calls Tryd.prog 33 #[.agg #[.int .i64 an, .int .u8 (al.toNat : Int)], .agg #[.int .i64 bn, .int .u8 (bl.toNat : Int)], .slice A n c] V fun e w' => e = .returned (.bool R) ∧ Below V.heap.size V w') := Lib.hid (fun V hV => by
    have hb := bel_on2 hbW hV
    have := near_any V m A n c l ⟨an, al⟩ ⟨bn, bl⟩ ((hr.below hb).mono hb.size) hf (hLW.below hV)
    rw [near_eq (spots_distinct l).1, hL, hR] at this
    exact this)
  have HRN : Hid (∀ V : World, Below W.heap.size W V → Calls Tryd.prog 34 #[.agg #[.int .i64 an, .int .u8 (al.toNat : Int)], .agg #[.int .i64 bn, .int .u8 (bl.toNat : Int)], .slice A n c] V fun e w' => e = .returned (.bool R) ∧ Below V.heap.size V w') := Lib.hid (fun V hV => by
    have hb := bel_on2 hbW hV
    have := rnear_any V A n c l ⟨an, al⟩ ⟨bn, bl⟩ ((hr.below hb).mono hb.size) hf
    rw [hL, hR] at this
    exact this)
  have HX : Hid (∀ V : World, Below W.heap.size W V → V.cell? ⟨w.heap.size, 0, none⟩ = some (.int .i64 an) ∧ V.cell? ⟨w.heap.size, 1, none⟩ = some (.int .u8 (al.toNat : Int)) ∧ V.cell? ⟨w.heap.size + 1, 0, none⟩ = some (.int .i64 bn) ∧ V.cell? ⟨w.heap.size + 1, 1, none⟩ = some (.int .u8 (bl.toNat : Int))) := Lib.hid (fun V hV => by
    have x1 := box_keep b1 (Upd.of_below (S := fun _ => False) hV) id
    have x2 := box_keep b2 (Upd.of_below (S := fun _ => False) hV) id
    refine ⟨?_, ?_, ?_, ?_⟩
    · rw [cell_of_row _ _ 0 _ _ _ x1]; rfl
    · rw [cell_of_row _ _ 1 _ _ _ x1]; rfl
    · rw [cell_of_row _ _ 0 _ _ _ x2]; rfl
    · rw [cell_of_row _ _ 1 _ _ _ x2]; rfl)
  have hse : ∀ V : World, (Op.equalIn 10000 35 (.agg #[.int .i64 xn, .int .u8 (xl.toNat : Int), .int .i64 xc, .int .i64 xz, .int .i64 xb, .bool xe, .bool xk]) (.agg #[.int .i64 xn, .int .u8 (xl.toNat : Int), .int .i64 xc, .int .i64 xz, .int .i64 xb, .bool xe, .bool xk])).run Tryd.prog V = .ok true V := fun V => spot_eqRefl V xn xl xc xz xb xe xk
  have HBW := Lib.hid hbW
  have hwW : w.heap.size + 1 < W.heap.size := (Array.getElem?_eq_some_iff.1 b2).1
  clear hbW b1 b2 hLW hL hK hR hS hr hf hLib
  go_enter Tryd.func9, Tryd.ntmps9
  go_wp2_with fail
  rw [← hW]
  clear hW
  refine HLV.out.mono ?_
  rintro e w1 ⟨rfl, hb1⟩
  obtain ⟨x0, x1, -, -⟩ := HX.out w1 hb1
  have HB1 := Lib.hid hb1
  have h2 := Lib.hid (HFD.out w1 hb1)
  clear hb1 HLV HFD
  go_wp2_with fail
  refine h2.out.mono ?_
  rintro e w2 ⟨rfl, hb2⟩
  have hB2 := bel_on HB1.out hb2
  obtain ⟨V2, hV2⟩ : ∃ V, V = w2.alloc (.cells #[.int .i64 xn, .int .u8 (xl.toNat : Int), .int .i64 xc, .int .i64 xz, .int .i64 xb, .bool xe, .bool xk] 35) := ⟨_, rfl⟩
  have hv2 : Below w2.heap.size w2 V2 := by rw [hV2]; exact (Below.refl _ _).alloc (Nat.le_refl _) _
  have bv2 : V2.heap[w2.heap.size]? = some (.cells #[.int .i64 xn, .int .u8 (xl.toNat : Int), .int .i64 xc, .int .i64 xz, .int .i64 xb, .bool xe, .bool xk] 35 (0, 0)) := by rw [hV2]; exact heap_alloc_new w2 _
  obtain ⟨y0, y1, -, -⟩ := HX.out w2 hB2
  have hwl : w.heap.size < w2.heap.size := by have := hB2.size; omega
  obtain ⟨b1, hb1e⟩ : ∃ x, w2.heap.size = x := ⟨_, rfl⟩
  rw [hb1e] at bv2
  have hwl2 : w.heap.size < b1 := by omega
  have HV2 := Lib.hid bv2
  have HB2 := Lib.hid (bel_on hB2 hv2)
  have h3 := Lib.hid (HRF.out V2 HB2.out)
  clear hb2 hB2 hv2 bv2 h2 HRF HB1 x0 x1
  go_wp2_with fail
  rw [← hV2]
  clear hV2 hb1e y0 y1
  refine h3.out.mono ?_
  rintro e w3 ⟨rfl, hb3⟩
  have hB3 := bel_on HB2.out hb3
  have hx3 := box_keep HV2.out (Upd.of_below (S := fun _ => False) hb3) id
  obtain ⟨w4, hw4⟩ : ∃ V, V = w3.alloc (.cells #[.int .i64 xn, .int .u8 (xl.toNat : Int), .int .i64 xc, .int .i64 xz, .int .i64 xb, .bool xe, .bool xk] 35) := ⟨_, rfl⟩
  have hv4 : Below w3.heap.size w3 w4 := by rw [hw4]; exact (Below.refl _ _).alloc (Nat.le_refl _) _
  have bv4 : w4.heap[w3.heap.size]? = some (.cells #[.int .i64 xn, .int .u8 (xl.toNat : Int), .int .i64 xc, .int .i64 xz, .int .i64 xb, .bool xe, .bool xk] 35 (0, 0)) := by rw [hw4]; exact heap_alloc_new w3 _
  obtain ⟨b2, hb2e⟩ : ∃ x, w3.heap.size = x := ⟨_, rfl⟩
  rw [hb2e] at bv4
  have hx4 := box_keep hx3 (Upd.of_below (S := fun _ => False) hv4) id
  have HX4 := Lib.hid hx4
  have HV4 := Lib.hid bv4
  have HB4 := Lib.hid (bel_on hB3 hv4)
  clear hb3 hB3 hx3 hv4 bv4 hx4 h3 HV2 HB2
  go_upto_region 5 with (fail)
  rw [← hw4]
  clear hw4 hb2e
  have MK : Hid (∀ V : World, Below w4.heap.size w4 V → Below w4.heap.size w4 V ∧ V.cell? ⟨w.heap.size, 0, none⟩ = some (.int .i64 an) ∧ V.cell? ⟨w.heap.size, 1, none⟩ = some (.int .u8 (al.toNat : Int)) ∧ V.cell? ⟨w.heap.size + 1, 0, none⟩ = some (.int .i64 bn) ∧ V.cell? ⟨w.heap.size + 1, 1, none⟩ = some (.int .u8 (bl.toNat : Int)) ∧ V.cell? ⟨b1, 0, none⟩ = some (.int .i64 xn) ∧ V.cell? ⟨b1, 1, none⟩ = some (.int .u8 (xl.toNat : Int)) ∧ V.cell? ⟨b1, 2, none⟩ = some (.int .i64 xc) ∧ V.cell? ⟨b1, 3, none⟩ = some (.int .i64 xz) ∧ V.cell? ⟨b1, 4, none⟩ = some (.int .i64 xb) ∧ V.cell? ⟨b1, 5, none⟩ = some (.bool xe) ∧ V.cell? ⟨b1, 6, none⟩ = some (.bool xk) ∧ V.cell? ⟨b2, 0, none⟩ = some (.int .i64 xn) ∧ V.cell? ⟨b2, 1, none⟩ = some (.int .u8 (xl.toNat : Int)) ∧ V.cell? ⟨b2, 2, none⟩ = some (.int .i64 xc) ∧ V.cell? ⟨b2, 3, none⟩ = some (.int .i64 xz) ∧ V.cell? ⟨b2, 4, none⟩ = some (.int .i64 xb) ∧ V.cell? ⟨b2, 5, none⟩ = some (.bool xe) ∧ V.cell? ⟨b2, 6, none⟩ = some (.bool xk)) := Lib.hid (fun V hV => by
    have h1 := box_keep HX4.out (Upd.of_below (S := fun _ => False) hV) id
    have h2 := box_keep HV4.out (Upd.of_below (S := fun _ => False) hV) id
    obtain ⟨a0, a1, c0, c1⟩ := HX.out V (bel_on HB4.out hV)
    refine ⟨hV, a0, a1, c0, c1, ?_, ?_, ?_, ?_, ?_, ?_, ?_, ?_, ?_, ?_, ?_, ?_, ?_, ?_⟩
    · rw [cell_of_row _ _ 0 _ _ _ h1]; rfl
    · rw [cell_of_row _ _ 1 _ _ _ h1]; rfl
    · rw [cell_of_row _ _ 2 _ _ _ h1]; rfl
    · rw [cell_of_row _ _ 3 _ _ _ h1]; rfl
    · rw [cell_of_row _ _ 4 _ _ _ h1]; rfl
    · rw [cell_of_row _ _ 5 _ _ _ h1]; rfl
    · rw [cell_of_row _ _ 6 _ _ _ h1]; rfl
    · rw [cell_of_row _ _ 0 _ _ _ h2]; rfl
    · rw [cell_of_row _ _ 1 _ _ _ h2]; rfl
    · rw [cell_of_row _ _ 2 _ _ _ h2]; rfl
    · rw [cell_of_row _ _ 3 _ _ _ h2]; rfl
    · rw [cell_of_row _ _ 4 _ _ _ h2]; rfl
    · rw [cell_of_row _ _ 5 _ _ _ h2]; rfl
    · rw [cell_of_row _ _ 6 _ _ _ h2]; rfl)
  have hbd : Below w4.heap.size w4 w4.drew := (Below.refl _ _).drew
  go_cut [6] (fun v wd => v = .bool true ∧ Hid (Below w4.heap.size w4 wd))
  case first =>
    cases K <;> (
      go_region_held3 (fun V => Below w4.heap.size w4 V ∧ V.cell? ⟨w.heap.size, 0, none⟩ = some (.int .i64 an) ∧ V.cell? ⟨w.heap.size, 1, none⟩ = some (.int .u8 (al.toNat : Int)) ∧ V.cell? ⟨w.heap.size + 1, 0, none⟩ = some (.int .i64 bn) ∧ V.cell? ⟨w.heap.size + 1, 1, none⟩ = some (.int .u8 (bl.toNat : Int)) ∧ V.cell? ⟨b1, 0, none⟩ = some (.int .i64 xn) ∧ V.cell? ⟨b1, 1, none⟩ = some (.int .u8 (xl.toNat : Int)) ∧ V.cell? ⟨b1, 2, none⟩ = some (.int .i64 xc) ∧ V.cell? ⟨b1, 3, none⟩ = some (.int .i64 xz) ∧ V.cell? ⟨b1, 4, none⟩ = some (.int .i64 xb) ∧ V.cell? ⟨b1, 5, none⟩ = some (.bool xe) ∧ V.cell? ⟨b1, 6, none⟩ = some (.bool xk) ∧ V.cell? ⟨b2, 0, none⟩ = some (.int .i64 xn) ∧ V.cell? ⟨b2, 1, none⟩ = some (.int .u8 (xl.toNat : Int)) ∧ V.cell? ⟨b2, 2, none⟩ = some (.int .i64 xc) ∧ V.cell? ⟨b2, 3, none⟩ = some (.int .i64 xz) ∧ V.cell? ⟨b2, 4, none⟩ = some (.int .i64 xb) ∧ V.cell? ⟨b2, 5, none⟩ = some (.bool xe) ∧ V.cell? ⟨b2, 6, none⟩ = some (.bool xk))
        (first | assumption | exact MK.out _ (by first | exact hbd | exact hc1 | exact hc2))
        (first
          | (go_at_call 33; refine (HNR.out _ (bel_on HB4.out (And.left (by assumption)))).mono ?_; rintro e u1 ⟨rfl, hu1⟩; have hc1 := bel_on (W := w4) (And.left (by assumption)) hu1)
          | (go_at_call 34; refine (HRN.out _ (bel_on HB4.out hc1)).mono ?_; rintro e u2 ⟨rfl, hu2⟩; have hc2 := bel_on (W := w4) hc1 hu2)
          | fail)
      all_goals (cases R <;> (go_wp2_with fail; go_meet; exact ⟨rfl, Lib.hid hc2⟩)))
  case rest =>
    obtain ⟨rfl, hB5⟩ := hcut
    have hbb := bel_on2 HBW.out (bel_on HB4.out hB5.out)
    go_wp2
    go_ret
    exact ⟨rfl, hbb⟩
end Go.Proofs.YtddiabpjmnmllaaDoor
