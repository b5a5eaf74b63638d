/- Cabins: the laws' own example. -/
import Derived.Test.YtddiabpjmnmllaaDoorJCbLab
import Derived.Test.YtddiabpjmnmllaaDoorJFtLawOne
namespace Go.Proofs.YtddiabpjmnmllaaDoor
open Go.RowKit Go.Lib
theorem ex_check : checkL exRows = true := by decide +kernel
theorem ex_spots : (spotsL exRows).length = 8 := by decide +kernel
theorem ex_blocks : (blocksOf (spotsL exRows)).length = 4 ∧ ∀ h : 3 < (blocksOf (spotsL exRows)).length, ((blocksOf (spotsL exRows))[3]).seats.length = 2 := by
  have e : (blocksOf (spotsL exRows)).map (fun b => b.seats.length) = [1, 1, 3, 2] := by decide +kernel
  have hl : (blocksOf (spotsL exRows)).length = 4 := by rw [← List.length_map (f := fun b : MBlk => b.seats.length), e]; rfl
  refine ⟨hl, fun h => ?_⟩
  have := List.getElem_map (fun b : MBlk => b.seats.length) (l := blocksOf (spotsL exRows)) (i := 3) (h := by simpa using h)
  rw [← this]
  simp only [e]
  rfl
theorem ex_label : labB ⟨12, 67⟩ = [49, 50, 67] := by decide +kernel
set_option maxHeartbeats 8000000 in
set_option maxRecDepth 20000 in
theorem clives_any (w : World) (m : Int) (hLib : LibAt w m) : Calls Tryd.prog 24 #[] w fun e w' => e = .returned (.bool true) ∧ Below w.heap.size w w' := by
  obtain ⟨W, hW⟩ : ∃ W, W = w.alloc (.cells #[.int .i64 1, .int .i64 1, .int .i64 0, .bool false, .string ⟨#[65, 46, 67]⟩, .int .i64 12, .int .i64 2, .int .i64 1, .bool true, .string ⟨#[65, 66, 67, 46, 100, 69, 70]⟩] 41) := ⟨_, rfl⟩
  have hbW : Below w.heap.size w W := by rw [hW]; exact (Below.refl _ w).alloc (Nat.le_refl _) _
  have h1 : W.heap[w.heap.size]? = some (.cells #[.int .i64 1, .int .i64 1, .int .i64 0, .bool false, .string ⟨#[65, 46, 67]⟩, .int .i64 12, .int .i64 2, .int .i64 1, .bool true, .string ⟨#[65, 66, 67, 46, 100, 69, 70]⟩] 41 (0, 0)) := by rw [hW]; exact heap_alloc_new w _
  have r1 : Rd W W.heap.size 5 (some ⟨w.heap.size, 0, none⟩) 2 (catv rowC exRows) := rd_blockN 2 5 h1 rfl
  have hLW := hLib.below hbW
  have HRD : Hid (∀ V : World, Below W.heap.size W V → Rd V V.heap.size 5 (some ⟨w.heap.size, 0, none⟩) 2 (catv rowC exRows)) := Lib.hid (fun V hV => (r1.below hV).mono hV.size)
  have HB : Hid (Calls Tryd.prog 28 #[.slice (some ⟨w.heap.size, 0, none⟩) 2 2] W (BlkAns W (spotsL exRows))) := Lib.hid (blocks_any W m _ 2 2 exRows (HRD.out W (Below.refl _ _)) ex_fits hLW)
  have HCK : Hid (∀ V : World, Below W.heap.size W V → Calls Tryd.prog 25 #[.slice (some ⟨w.heap.size, 0, none⟩) 2 2] V fun e V' => e = .returned (.int .i64 0) ∧ Below V.heap.size V V') := Lib.hid (fun V hV => by
    have := check_any V m _ 2 2 exRows (HRD.out V hV) ex_fits (hLW.below hV)
    unfold errC at this
    rw [ex_check] at this
    exact this)
  have HSP : Hid (∀ V : World, Below W.heap.size W V → Calls Tryd.prog 26 #[.slice (some ⟨w.heap.size, 0, none⟩) 2 2] V fun e V' => ∃ v, e = .returned v ∧ V'.ownsRow V.heap.size 35 7 v 8 (catv spotC (spotsL exRows)) ∧ Below V.heap.size V V') := Lib.hid (fun V hV => by
    have := spots_any V m _ 2 2 exRows (HRD.out V hV) ex_fits (hLW.below hV)
    rw [ex_spots] at this
    exact this)
  have HLB : Hid (∀ V : World, Calls Tryd.prog 35 #[.agg #[.int .i64 12, .int .u8 67]] V fun e V' => e = .returned (.string ⟨#[49, 50, 67]⟩) ∧ Below V.heap.size V V') := Lib.hid (fun V => by
    have := label_any V ⟨12, 67⟩
    rw [ex_label] at this
    exact this)
  have HBW := Lib.hid hbW
  clear h1 r1 hbW hLW hLib
  go_enter Tryd.func24, Tryd.ntmps24
  go_wp2_with fail
  rw [← hW]
  clear hW
  refine HB.out.mono ?_
  rintro e w2 ⟨v, vs, rfl, hR, hb2⟩
  obtain ⟨e4, e3⟩ := ex_blocks
  have h3 : 3 < (blocksOf (spotsL exRows)).length := by omega
  obtain ⟨u, hu⟩ := hR.at_ h3
  have ho := hR.own 3 h3 u hu
  rw [e3 h3] at ho
  obtain ⟨Au, ku, rfl⟩ := own_shape ho
  obtain ⟨g, cap, rfl, -, hgl, -, -⟩ := own_form hR.row (by omega)
  have hzl : 3 < ((blocksOf (spotsL exRows)).zip vs).length := by rw [List.length_zip, hR.len]; omega
  obtain ⟨_, _, he, _, hsz, hrc⟩ := (Rd.own hR.row).elem blkC_len (by decide) h3
  simp only [Option.some.injEq, Addr.mk.injEq, and_true] at he
  obtain ⟨rfl, rfl⟩ := he
  have hz : ((blocksOf (spotsL exRows)).zip vs)[3].2 = .slice Au 2 ku := by
    rw [List.getElem_zip]
    exact (List.getElem?_eq_some_iff.1 hu).2
  have cu := hrc 3 _ rfl
  rw [hz, Nat.zero_add] at cu
  have HCU : Hid (∀ V : World, Below w2.heap.size w2 V → V.cell? ⟨g, 3 * 4 + 3, none⟩ = some (.slice Au 2 ku)) := Lib.hid (fun V hV => (hV.cell (p := ⟨g, 3 * 4 + 3, none⟩) hgl).trans cu)
  have HB2 := Lib.hid hb2
  have h4 := Lib.hid (HCK.out w2 hb2)
  rw [e4]
  clear hR hb2 hu ho hzl hsz hrc hz cu HB HCK e3 h3
  go_wp2_with fail
  refine h4.out.mono ?_
  rintro e w3 ⟨rfl, hb3⟩
  have HB3 := Lib.hid hb3
  have h5 := Lib.hid (HSP.out w3 (bel_on HB2.out hb3))
  clear h4 hb3 HSP
  go_wp2_with fail
  refine h5.out.mono ?_
  rintro e w4 ⟨v, rfl, ho, hb4⟩
  obtain ⟨A4, c4, rfl, -⟩ := own_rd ho
  have HB4 := Lib.hid (bel_on HB3.out hb4)
  have cu := HCU.out w4 HB4.out
  have h6 := Lib.hid (HLB.out w4)
  clear ho hb4 h5 HB3
  go_wp2_with fail
  refine h6.out.mono ?_
  rintro e w5 ⟨rfl, hb5⟩
  have HB5 := Lib.hid (bel_on2 HBW.out (bel_on HB2.out (bel_on HB4.out hb5)))
  clear hb5 h6
  go_wp2
  go_ret
  exact ⟨rfl, HB5.out⟩
end Go.Proofs.YtddiabpjmnmllaaDoor
