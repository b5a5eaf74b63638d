/- Seating: the reference's Free, walked. -/
import Derived.Test.YtppjpledjhinbaaDoorJFtRAl
import Derived.Test.YtppjpledjhinbaaDoorJFtOne
import Derived.Test.YtppjpledjhinbaaDoorJVMap
namespace Go.Proofs.YtppjpledjhinbaaDoor
open Go.RowKit Go.Lib
theorem catv_snoc {α : Type} (f : α → List Value) (l : List α) (x : α) : catv f (l ++ [x]) = catv f l ++ f x := by rw [catv_append, catv_one]
theorem sit_info : (Tryd.prog.info? 51).map (fun i => (i.zero, i.size, i.bytes)) = some (some (.agg #[.int .i64 0, .bool false, .bool false, .int .i64 0, .int .u8 0]), 5, 32) := by kernel_rfl
theorem free_none {rows : List MRow} {x : MWho} {q : List MSit} (h : allE rows q ≠ 0) : freeL rows x q = [] := by
  unfold freeL
  rw [if_neg]
  rintro ⟨h1, h2⟩
  unfold allE at h
  rw [h1, if_pos rfl] at h
  exact h h2
theorem freeL_len (l : List MRow) (x : MWho) (q : List MSit) : (freeL l x q).length ≤ 66 := by
  unfold freeL
  split
  · rw [List.length_map]
    exact Nat.le_trans (List.length_filter_le _ _) (spots_len l)
  · simp
theorem mayE_snoc (L : List MSpot) (q : List MSit) (x : MSit) : mayE L ((q ++ [x]).take q.length) ((q ++ [x])[q.length]'(by simp)) = mayE L q x := by simp
set_option maxHeartbeats 8000000 in
set_option maxRecDepth 20000 in
theorem rfree_any (w : World) (A : Option Addr) (n c : Nat) (l : List MRow) (x : MWho) (S : Option Addr) (k d : Nat) (q : List MSit) (hr : Rd w w.heap.size 5 A n (catv rowC l)) (hf : ∀ r ∈ l, r.fits) (hs : Rd w w.heap.size 5 S k (catv sitC q)) (hk : k ≤ 1048576) :
    Calls Tryd.prog 42 #[.slice A n c, whoV x, .slice S k d] w fun e w' => ∃ v, e = .returned v ∧ w'.ownsRow w.heap.size 26 2 v (freeL l x q).length (catv seatC (freeL l x q)) ∧ Below w.heap.size w w' := by
  obtain ⟨i0, hi0, hz0, hz1, hz2⟩ := info_parts seat_info
  obtain ⟨i1, hi1, hy0, hy1, hy2⟩ := info_parts sit_info
  obtain rfl := rd_catlen sitC_len (by decide) hs
  obtain ⟨xc, xf, xi⟩ := x
  obtain ⟨F, hFF⟩ : ∃ F, freeL l ⟨xc, xf, xi⟩ q = F := ⟨_, rfl⟩
  have hF66 : F.length ≤ 66 := by rw [← hFF]; exact freeL_len _ _ _
  rw [hFF]
  have HFF := Lib.hid hFF
  obtain ⟨W, hW⟩ : ∃ W, W = w.alloc (.cells #[.int .i64 xc, .bool xf, .bool xi] 28) := ⟨_, rfl⟩
  have hbW : Below w.heap.size w W := by rw [hW]; exact (Below.refl _ w).alloc (Nat.le_refl _) _
  have bx : W.heap[w.heap.size]? = some (.cells #[.int .i64 xc, .bool xf, .bool xi] 28 (0, 0)) := by rw [hW]; exact heap_alloc_new w _
  have HX : Hid (∀ V : World, Below W.heap.size W V → V.cell? ⟨w.heap.size, 0, none⟩ = some (.int .i64 xc) ∧ V.cell? ⟨w.heap.size, 1, none⟩ = some (.bool xf) ∧ V.cell? ⟨w.heap.size, 2, none⟩ = some (.bool xi)) := Lib.hid (fun V hV => by
    have b := box_keep bx (Upd.of_below (S := fun _ => False) hV) id
    refine ⟨?_, ?_, ?_⟩
    · rw [cell_of_row _ _ 0 _ _ _ b]; rfl
    · rw [cell_of_row _ _ 1 _ _ _ b]; rfl
    · rw [cell_of_row _ _ 2 _ _ _ b]; rfl)
  have HBW := Lib.hid hbW
  have hwW : w.heap.size < W.heap.size := (Array.getElem?_eq_some_iff.1 bx).1
  obtain ⟨E, hE⟩ : ∃ E, allE l q = E := ⟨_, rfl⟩
  have HA : Hid (Calls Tryd.prog 23 #[.slice A n c, .slice S q.length d] W fun e V' => e = .returned (.int .i64 E) ∧ Below W.heap.size W V') := Lib.hid (by
    rw [← hE]
    exact rall_any W A n c l S q.length d q ((hr.below hbW).mono hbW.size) hf ((hs.below hbW).mono hbW.size) (by omega))
  have HSP : Hid (∀ V : World, Below W.heap.size W V → Calls Tryd.prog 21 #[.slice A n c] V fun e w' => ∃ v, e = .returned v ∧ w'.ownsRow V.heap.size 105 7 v (spotsL l).length (catv spotC (spotsL l)) ∧ Below V.heap.size V w') := Lib.hid (fun V hV => by
    have hb := bel_on2 hbW hV
    exact rspots_any V A n c l ((hr.below hb).mono hb.size) hf)
  have HNX : Hid (∀ (V : World) (g cap : Nat) (s : MSeat), Below W.heap.size W V → Rd V V.heap.size 5 (some ⟨g, 0, none⟩) (q.length + 1) (catv sitC (q ++ [⟨⟨xc, xf, xi⟩, s⟩])) → Calls Tryd.prog 43 #[.slice A n c, .slice (some ⟨g, 0, none⟩) (q.length + 1) cap, .int .i64 (q.length : Int)] V fun e w' => e = .returned (.int .i64 (mayE (spotsL l) q ⟨⟨xc, xf, xi⟩, s⟩)) ∧ Below V.heap.size V w') := Lib.hid (fun V g cap s hV hR => by
    have hb := bel_on2 hbW hV
    have := rnext_any V A n c l (some ⟨g, 0, none⟩) (q.length + 1) cap (q ++ [⟨⟨xc, xf, xi⟩, s⟩]) q.length (by omega) (by simp) ((hr.below hb).mono hb.size) hf hR (by simp; omega)
    rw [mayE_snoc] at this
    exact this)
  have HSR : Hid (∀ V : World, Below W.heap.size W V → Rd V w.heap.size 5 S q.length (catv sitC q)) := Lib.hid (fun V hV => hs.below (bel_on2 hbW hV))
  have HE := Lib.hid hE
  have hl66 := spots_len l
  have HCK : Hid (E = 0 → F = ((spotsL l).filter (fun s => decide (mayE (spotsL l) q ⟨⟨xc, xf, xi⟩, s.seat⟩ = 0))).map (·.seat)) := Lib.hid (fun h0 => by
    obtain ⟨h1, h2⟩ := (allE_zero _ _).1 (hE.trans h0)
    rw [← hFF]; unfold freeL; rw [if_pos ⟨h1, (sitE_well _ _).2 h2⟩])
  have HNO : Hid (E ≠ 0 → F = []) := Lib.hid (fun h0 => by rw [← hFF]; exact free_none (by rw [hE]; exact h0))
  obtain ⟨L, hL⟩ : ∃ L, spotsL l = L := ⟨_, rfl⟩
  rw [hL] at HSP HNX hl66 HCK
  have HEC := Lib.hid (catv_cell sitC_cell q)
  clear hbW bx hr hf hs hE hFF hL HFF HE
  unfold whoV
  go_enter Tryd.func42, Tryd.ntmps42
  go_wp2_with fail
  rw [← hW]
  clear hW
  refine HA.out.mono ?_
  rintro e w1 ⟨rfl, hb1⟩
  have HB1 := Lib.hid hb1
  clear hb1 HA
  by_cases hE0 : E = 0
  · subst hE0
    have HF2 := Lib.hid (HCK.out rfl)
    have h2 := Lib.hid (HSP.out w1 HB1.out)
    clear HCK HNO HSP
    go_wp2_with fail
    refine h2.out.mono ?_
    rintro e w4 ⟨v, rfl, ho, hb4⟩
    obtain ⟨A2, c2, rfl, hrd⟩ := own_rd ho
    have HA := Lib.hid hrd
    have HB4 : Hid (Below W.heap.size W w4) := Lib.hid (bel_on HB1.out hb4)
    have hw4 : w.heap.size < w4.heap.size := Nat.lt_of_lt_of_le hwW HB4.out.size
    clear ho hrd hb4 h2
    go_wp2
    go_loopw [7, 18] (fun ov iv wx => ∃ (j : Nat) (O : List MSeat), j ≤ L.length ∧ iv = .int .i64 (j : Int) ∧ O.length ≤ j ∧ Hid (F = O ++ ((L.drop j).filter (fun s => decide (mayE L q ⟨⟨xc, xf, xi⟩, s.seat⟩ = 0))).map (·.seat)) ∧ Hid (wx.ownsRow w4.heap.size 26 2 ov O.length (catv seatC O)) ∧ Hid (Below w4.heap.size w4 wx)) (fun _ iv _ => L.length - (intOf iv).toNat)
    case atStart => exact ⟨0, [], Nat.zero_le _, rfl, Nat.le_refl _, Lib.hid (by simpa using HF2.out), Lib.hid (World.ownsRow_nil _ _ _ _), Lib.hid (Below.refl _ _)⟩
    case round =>
      obtain ⟨j, O, hj, rfl, hO, hG, hOw, hB⟩ := hrel
      by_cases hlt : j < L.length
      · obtain ⟨gb, off, rfl, hgb, hs, hcc⟩ := (HA.out.below hB.out).elem spotC_len (by decide) hlt
        have hG2 := hG.out
        rw [List.drop_eq_getElem_cons hs, List.filter_cons] at hG2
        obtain ⟨s, hss⟩ : ∃ s, L[j] = s := ⟨_, rfl⟩
        rw [hss] at hcc hG2
        obtain ⟨⟨sn, sl⟩, sc, sz, sb, se, sk⟩ := s
        have c0 := hcc 0 _ rfl
        have c1 := hcc 1 _ rfl
        have c2 := hcc 2 _ rfl
        have c3 := hcc 3 _ rfl
        have c4 := hcc 4 _ rfl
        have c5 := hcc 5 _ rfl
        have c6 := hcc 6 _ rfl
        rw [Nat.add_zero] at c0
        obtain ⟨V, hV⟩ : ∃ V, V = wr.alloc (.cells #[.int .i64 sn, .int .u8 (sl.toNat : Int), .int .i64 sc, .int .i64 sz, .int .i64 sb, .bool se, .bool sk] 105) := ⟨_, rfl⟩
        have hbV : Below wr.heap.size wr V := by rw [hV]; exact (Below.refl _ _).alloc (Nat.le_refl _) _
        have bV : V.heap[wr.heap.size]? = some (.cells #[.int .i64 sn, .int .u8 (sl.toNat : Int), .int .i64 sc, .int .i64 sz, .int .i64 sb, .bool se, .bool sk] 105 (0, 0)) := by rw [hV]; exact heap_alloc_new wr _
        have hbV4 : Below w4.heap.size w4 V := hB.out.trans (hbV.mono hB.out.size)
        obtain ⟨M, hMM⟩ : ∃ M, mayE L q ⟨⟨xc, xf, xi⟩, ⟨sn, sl⟩⟩ = M := ⟨_, rfl⟩
        simp only at hG2
        rw [hMM] at hG2
        have HGG := Lib.hid hG2
        have HMM := Lib.hid hMM
        obtain ⟨xb, hxb⟩ : ∃ xb, wr.heap.size = xb := ⟨_, rfl⟩
        have hxV : xb < V.heap.size := by rw [← hxb]; exact (Array.getElem?_eq_some_iff.1 bV).1
        have hwV : w.heap.size < V.heap.size := Nat.lt_of_lt_of_le hw4 hbV4.size
        have hBW : Below W.heap.size W V := bel_on HB4.out hbV4
        rw [hxb] at bV
        have HC : Hid (∀ U : World, Below V.heap.size V U → Below V.heap.size V U ∧ U.cell? ⟨w.heap.size, 0, none⟩ = some (.int .i64 xc) ∧ U.cell? ⟨w.heap.size, 1, none⟩ = some (.bool xf) ∧ U.cell? ⟨w.heap.size, 2, none⟩ = some (.bool xi) ∧ U.cell? ⟨xb, 0, none⟩ = some (.int .i64 sn) ∧ U.cell? ⟨xb, 1, none⟩ = some (.int .u8 (sl.toNat : Int))) := Lib.hid (fun U hU => by
          obtain ⟨a, b, c⟩ := HX.out U (bel_on hBW hU)
          have bb := box_keep bV (Upd.of_below (S := fun _ => False) hU) id
          refine ⟨hU, a, b, c, ?_, ?_⟩
          · rw [cell_of_row _ _ 0 _ _ _ bb]; rfl
          · rw [cell_of_row _ _ 1 _ _ _ bb]; rfl)
        have HBV := Lib.hid (hB.out.trans (hbV.mono hB.out.size))
        have HBW2 := Lib.hid hBW
        have HSV : Hid (∀ U : World, Below V.heap.size V U → Rd U w.heap.size 5 S q.length (catv sitC q)) := Lib.hid (fun U hU => HSR.out U (bel_on hBW hU))
        have hOV := own_below hOw.out hbV
        have HOV := Lib.hid hOV
        clear hcc hG hG2 hMM hbV bV hbV4 hss hBW hOV hOw hB
        go_upto_region 7 with (fail)
        rw [← hV]
        clear hV c0 c1 c2 c3 c4 c5 c6 hxb
        go_cut [10] (fun v wc => ∃ g cap, v = .slice (some ⟨g, 0, none⟩) (q.length + 1) cap ∧ Hid (Rd wc wc.heap.size 5 (some ⟨g, 0, none⟩) (q.length + 1) (catv sitC (q ++ [⟨⟨xc, xf, xi⟩, ⟨sn, sl⟩⟩]))) ∧ Hid (Below V.heap.size V wc))
        case first =>
          have hbd : Below V.heap.size V V.drew := ⟨rfl, rfl, rfl, Nat.le_refl _, fun _ _ => rfl⟩
          have hb1e := hbd.alloc hbd.size (.cells #[] 51)
          have hb1x := hbd.alloc hbd.size (.cells #[.int .i64 xc, .bool xf, .bool xi, .int .i64 sn, .int .u8 (sl.toNat : Int)] 51)
          have hb2ex := hb1e.alloc hb1e.size (.cells #[.int .i64 xc, .bool xf, .bool xi, .int .i64 sn, .int .u8 (sl.toNat : Int)] 51)
          have hb2xe := hb1x.alloc hb1x.size (.cells #[] 51)
          have o1 := own_empty V.drew 51 5 V.heap.size (Nat.le_refl _)
          have o2 := o1.alloc (.cells #[.int .i64 xc, .bool xf, .bool xi, .int .i64 sn, .int .u8 (sl.toNat : Int)] 51)
          have o3 := own_empty (V.drew.alloc (.cells #[.int .i64 xc, .bool xf, .bool xi, .int .i64 sn, .int .u8 (sl.toNat : Int)] 51)) 51 5 V.heap.size hb1x.size
          have zx : (V.drew.alloc (.cells #[.int .i64 xc, .bool xf, .bool xi, .int .i64 sn, .int .u8 (sl.toNat : Int)] 51)).heap.size = V.heap.size + 1 := by simp
          rw [zx] at o3
          have y2 := heap_alloc_new (V.drew.alloc (.cells #[] 51)) (.cells #[.int .i64 xc, .bool xf, .bool xi, .int .i64 sn, .int .u8 (sl.toNat : Int)] 51)
          have ze : (V.drew.alloc (.cells #[] 51)).heap.size = V.heap.size + 1 := by simp
          rw [ze] at y2
          have y3 := (Below.heap_alloc (V.drew.alloc (.cells #[.int .i64 xc, .bool xf, .bool xi, .int .i64 sn, .int .u8 (sl.toNat : Int)] 51)) (.cells #[] 51) V.heap.size (by simp)).trans (heap_alloc_new V.drew (.cells #[.int .i64 xc, .bool xf, .bool xi, .int .i64 sn, .int .u8 (sl.toNat : Int)] 51))
          have Y2 := Lib.hid y2
          have Y3 := Lib.hid y3
          have hone : ∀ u ∈ ([.int .i64 xc, .bool xf, .bool xi, .int .i64 sn, .int .u8 (sl.toNat : Int)] : List Value), u.oneCell' = true := by simp [Value.oneCell']
          have HONE := Lib.hid hone
          have O1 := Lib.hid o1
          have O2 := Lib.hid o2
          have O3 := Lib.hid o3
          clear y2 y3 ze hone o1 o2 o3 zx
          go_region_held3 (fun U => Below V.heap.size V U ∧ U.cell? ⟨w.heap.size, 0, none⟩ = some (.int .i64 xc) ∧ U.cell? ⟨w.heap.size, 1, none⟩ = some (.bool xf) ∧ U.cell? ⟨w.heap.size, 2, none⟩ = some (.bool xi) ∧ U.cell? ⟨xb, 0, none⟩ = some (.int .i64 sn) ∧ U.cell? ⟨xb, 1, none⟩ = some (.int .u8 (sl.toNat : Int)))
            (exact HC.out _ (by first | assumption | exact hbd | exact hb1e | exact hb1x | exact hb2ex | exact hb2xe | exact Below.alloc hb3 hb3.size _))
            (first
              | (refine step_app (by rfl) (.tmp 22) (.tmp 23) 48 (by rfl) V.heap.size 51 i1 _ 5 32 Tryd.underlying48 hi1 hy0 hy1 hy2 rfl (by omega) (.slice (some ⟨V.heap.size, 0, none⟩) 0 0) 0 [] w.heap.size S q.length d (catv sitC q) (by rfl) (by first | exact O1.out | exact O2.out) (by rfl) (HSV.out _ (by first | exact hb1e | exact hb2ex)) HEC.out (by omega) (by unfold maxLen; omega) (by first | exact hb1e.size | exact hb2ex.size) ?_
                 intro v3 w3 ho3 hu3 _
                 have hb3 : Below V.heap.size V w3 := Below.trans (by first | exact hb1e | exact hb2ex) (hu3.below (fun i hi e => by simp [Value.ownBlock] at e; omega) (by first | exact hb1e.size | exact hb2ex.size)))
              | (refine step_app (by rfl) (.tmp 22) (.tmp 23) 48 (by rfl) V.heap.size 51 i1 _ 5 32 Tryd.underlying48 hi1 hy0 hy1 hy2 rfl (by omega) (.slice (some ⟨V.heap.size + 1, 0, none⟩) 0 0) 0 [] w.heap.size S q.length d (catv sitC q) (by rfl) (by exact O3.out) (by rfl) (HSV.out _ (by exact hb2xe)) HEC.out (by omega) (by unfold maxLen; omega) (by exact hb2xe.size) ?_
                 intro v3 w3 ho3 hu3 _
                 have hb3 : Below V.heap.size V w3 := Below.trans hb2xe (hu3.below (fun i hi e => by simp [Value.ownBlock] at e; omega) hb2xe.size))
              | (refine step_app (by rfl) (.tmp 24) (.tmp 29) 48 (by rfl) V.heap.size 51 i1 _ 5 32 Tryd.underlying48 hi1 hy0 hy1 hy2 rfl (by omega) v3 (0 + q.length) ([] ++ catv sitC q) _ (some ⟨w3.heap.size, 0, none⟩) 1 1 ([.int .i64 xc, .bool xf, .bool xi, .int .i64 sn, .int .u8 (sl.toNat : Int)] : List Value) (by rfl) (by exact ho3.alloc _) (by rfl) (rd_block (heap_alloc_new w3 (.cells #[.int .i64 xc, .bool xf, .bool xi, .int .i64 sn, .int .u8 (sl.toNat : Int)] 51)) rfl) HONE.out (by omega) (by unfold maxLen; omega) (by simp; have := hb3.size; omega) ?_
                 intro v4 w4 ho4 hu4 _
                 have hb4 : Below V.heap.size V w4 := (hb3.alloc hb3.size (.cells #[.int .i64 xc, .bool xf, .bool xi, .int .i64 sn, .int .u8 (sl.toNat : Int)] 51)).trans (hu4.below (fun i hi e => by have := (ho3.lt i e).1; omega) (by simp; have := hb3.size; omega)))
              | (refine step_app (by rfl) (.tmp 24) (.tmp 29) 48 (by rfl) V.heap.size 51 i1 _ 5 32 Tryd.underlying48 hi1 hy0 hy1 hy2 rfl (by omega) v3 (0 + q.length) ([] ++ catv sitC q) _ (some ⟨V.heap.size + 1, 0, none⟩) 1 1 ([.int .i64 xc, .bool xf, .bool xi, .int .i64 sn, .int .u8 (sl.toNat : Int)] : List Value) (by rfl) (by exact ho3) (by rfl) (rd_block ((hu3.block (V.heap.size + 1) (by simp) (by simp [Value.ownBlock])).trans Y2.out) rfl) HONE.out (by omega) (by unfold maxLen; omega) (by exact hb3.size) ?_
                 intro v4 w4 ho4 hu4 _
                 have hb4 : Below V.heap.size V w4 := hb3.trans (hu4.below (fun i hi e => by have := (ho3.lt i e).1; omega) hb3.size))
              | (refine step_app (by rfl) (.tmp 24) (.tmp 29) 48 (by rfl) V.heap.size 51 i1 _ 5 32 Tryd.underlying48 hi1 hy0 hy1 hy2 rfl (by omega) v3 (0 + q.length) ([] ++ catv sitC q) _ (some ⟨V.heap.size, 0, none⟩) 1 1 ([.int .i64 xc, .bool xf, .bool xi, .int .i64 sn, .int .u8 (sl.toNat : Int)] : List Value) (by rfl) (by exact ho3) (by rfl) (rd_block ((hu3.block V.heap.size (by simp; omega) (by simp [Value.ownBlock])).trans Y3.out) rfl) HONE.out (by omega) (by unfold maxLen; omega) (by exact hb3.size) ?_
                 intro v4 w4 ho4 hu4 _
                 have hb4 : Below V.heap.size V w4 := hb3.trans (hu4.below (fun i hi e => by have := (ho3.lt i e).1; omega) hb3.size))
              | fail)
          all_goals go_wp2_with fail
          all_goals go_meet
          all_goals (
            rw [List.nil_append, Nat.zero_add] at ho4
            obtain ⟨g4, cap4, rfl, -, -, -, -⟩ := own_form ho4 (by omega)
            refine ⟨g4, cap4, rfl, Lib.hid ?_, Lib.hid hb4⟩
            rw [catv_append, catv_one]
            exact Rd.own ho4)
        case rest =>
          obtain ⟨g, cap, rfl, hRQ, hB5⟩ := hcut
          have h6 := HNX.out wc g cap ⟨sn, sl⟩ (bel_on HBW2.out hB5.out) hRQ.out
          rw [HMM.out] at h6
          have H6 := Lib.hid h6
          have hO5 := own_below HOV.out hB5.out
          obtain ⟨-, -, -, -, y0, y1⟩ := HC.out _ hB5.out
          have HO5 := Lib.hid hO5
          have HBC := Lib.hid (bel_on HBV.out hB5.out)
          clear h6 hO5 hRQ HMM HSV
          go_wp2_with fail
          refine H6.out.mono ?_
          rintro e w6 ⟨rfl, hb6⟩
          have hO6 := own_below HO5.out hb6
          have hB6 : Below w4.heap.size w4 w6 := bel_on HBC.out hb6
          obtain ⟨-, -, -, -, y0, y1⟩ := HC.out _ (bel_on hB5.out hb6)
          have HO6 := Lib.hid hO6
          have HB6 := Lib.hid hB6
          have hs6 := hB6.size
          clear H6 hb6 hO6 hB6 HO5 HOV HBC HC
          by_cases hM0 : M = 0
          · subst hM0
            have hG2 := HGG.out
            simp only [decide_true, if_true, List.map_cons] at hG2
            have HG3 : Hid (F = (O ++ [⟨sn, sl⟩]) ++ ((L.drop (j + 1)).filter (fun s => decide (mayE L q ⟨⟨xc, xf, xi⟩, s.seat⟩ = 0))).map (·.seat)) := Lib.hid (by rw [hG2]; simp)
            clear hG2 HGG
            go_wp2_with (at_builtin; refine wpList_append_new rfl (.tmp 37) (.tmp 40) 35 rfl w4.heap.size 26 i0 _ 2 16 Tryd.underlying35 hi0 hz0 hz1 hz2 rfl (by omega) _ O.length (catv seatC O) #[.int .i64 sn, .int .u8 (sl.toNat : Int)] rfl HO6.out rfl rfl (by simp [Value.oneCell']) (by omega) (by unfold maxLen; omega) hs6 ?_; intro v7 w7 ho7 hg7)
            have hu7 : Upd _ w6 w7 := Upd.of_grown hg7
            have HO7 : Hid (w7.ownsRow w4.heap.size 26 2 v7 (O ++ [(⟨sn, sl⟩ : MSeat)]).length (catv seatC (O ++ [⟨sn, sl⟩]))) := Lib.hid (by rw [catv_snoc, List.length_append]; exact ho7)
            have HB7 : Hid (Below w4.heap.size w4 w7) := Lib.hid (HB6.out.trans (hu7.below (fun g hg e => by have := (HO6.out.lt g e).1; omega) hs6))
            clear ho7 hg7 hu7
            go_wp2
            go_roundw
            case rel => exact ⟨j + 1, O ++ [⟨sn, sl⟩], by omega, by go_num, by simp; omega, HG3, HO7, HB7⟩
            case measure => simp [intOf]; omega
          · have hG2 := HGG.out
            rw [decide_eq_false hM0] at hG2
            simp only [Bool.false_eq_true, if_false] at hG2
            have HG3 := Lib.hid hG2
            clear hG2 HGG
            go_wp2
            go_roundw
            case rel => exact ⟨j + 1, O, by omega, by go_num, by omega, HG3, HO6, HB6⟩
            case measure => simp [intOf]; omega
      · have hlz : ¬ (j : Int) < (L.length : Int) := by omega
        have hG2 := hG.out
        rw [List.drop_eq_nil_of_le (by omega)] at hG2
        simp only [List.filter_nil, List.map_nil, List.append_nil] at hG2
        have HG2 := Lib.hid hG2
        have HBE : Hid (Below w.heap.size w wr) := Lib.hid (bel_on2 HBW.out (bel_on HB4.out hB.out))
        have hsz : w.heap.size ≤ w4.heap.size := Nat.le_of_lt hw4
        clear hG hG2
        go_wp2
        go_ret
        rw [HG2.out]
        exact ⟨_, rfl, own_mono hOw.out hsz, HBE.out⟩
  · have HE2 := Lib.hid (HNO.out hE0)
    have HBE : Hid (Below w.heap.size w w1) := Lib.hid (bel_on2 HBW.out HB1.out)
    go_wp2
    go_ret
    rw [HE2.out]
    exact ⟨_, rfl, World.ownsRow_nil _ _ _ _, HBE.out⟩
end Go.Proofs.YtppjpledjhinbaaDoor
