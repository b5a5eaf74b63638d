/- The law CabinMaps, walked. -/
import Derived.Test.YtddiabpjmnmllaaDoorJCbMpN
import Derived.Test.YtddiabpjmnmllaaDoorJFtLawAll
import Derived.Test.YtddiabpjmnmllaaDoorJCbLives
namespace Go.Proofs.YtddiabpjmnmllaaDoor
open Go.RowKit Go.Lib
theorem blkSeats_le (L : List MSpot) : ∀ x ∈ blocksOf L, x.seats.length ≤ L.length := by
  have : ∀ (L : List MSpot) (o : List MBlk) (N : Nat), (∀ x ∈ o, x.seats.length ≤ N) → ∀ x ∈ L.foldl stepB o, x.seats.length ≤ N + L.length := by
    intro L
    induction L with
    | nil => intro o N h x hx; simpa using h x hx
    | cons y t ih =>
      intro o N h x hx
      rw [List.foldl_cons] at hx
      have h1 : ∀ z ∈ stepB o y, z.seats.length ≤ N + 1 := by
        have h2 : ∀ z ∈ newBlk o y, z.seats.length ≤ N := by
          intro z hz
          unfold newBlk at hz
          split at hz
          · rcases List.mem_append.1 hz with hz | hz
            · exact h z hz
            · simp at hz; subst hz; simp
          · exact h z hz
        intro z hz
        unfold stepB addSeat at hz
        split at hz
        · have := h2 z hz; omega
        · obtain ⟨i, hi, rfl⟩ := List.mem_iff_getElem.1 hz
          rw [List.getElem_modify]
          rw [List.length_modify] at hi
          have := h2 _ (List.getElem_mem hi)
          split
          · simp; omega
          · omega
      have := ih (stepB o y) (N + 1) h1 x hx
      rw [List.length_cons]
      omega
  intro x hx
  have := this L [] 0 (by simp) x hx
  omega
set_option maxHeartbeats 32000000 in
set_option maxRecDepth 20000 in
theorem cabMaps_any (w : World) (m : Int) (A : Option Addr) (n c : Nat) (l : List MRow) (hr : Rd w w.heap.size 5 A n (catv rowC l)) (hf : ∀ r ∈ l, r.fits) (hn : n ≤ 1048576) (hLib : LibAt w m) :
    Calls Tryd.prog 8 #[.slice A n c] w fun e w' => e = .returned (.bool true) ∧ Below w.heap.size w w' := by
  obtain ⟨i1, hi1, hy0, hy1, hy2⟩ := info_parts row_info
  obtain ⟨i2, hi2, hs0, hs1, hs2⟩ := info_parts spot_info
  obtain ⟨i3, hi3, ht0, ht1, ht2⟩ := info_parts seat_info
  have hl66 := spots_len l
  have hbl66 := blocksOf_len (spotsL l)
  have hbs66 := blkSeats_le (spotsL l)
  have HNL := Lib.hid (rd_catlen rowC_len (by decide) hr)
  have HR := Lib.hid hr
  have HF := Lib.hid hf
  have HLib := Lib.hid hLib
  have HLV := Lib.hid (clives_any w m hLib)
  clear hr hf hLib
  go_enter Tryd.func8, Tryd.ntmps8
  go_wp2_with fail
  refine HLV.out.mono ?_
  rintro e w5 ⟨rfl, hb5⟩
  have HB5 := Lib.hid hb5
  clear hb5 HLV
  have t4 := own_nothing w5 41 5
  have t5 := (HR.out.below HB5.out).below ((below_alloc1 w5 (.cells #[] 41)).mono HB5.out.size)
  have t6 := catv_cell rowC_cell l
  go_wp2_with (at_builtin; refine wpList_app rfl (.tmp 18) (.tmp 19) 22 rfl w5.heap.size 41 i1 _ 5 48 Tryd.underlying22 hi1 hy0 hy1 hy2 rfl (by omega) _ 0 [] w.heap.size A n c (catv rowC l) rfl t4 rfl t5 t6 ?e1 ?e2 ?e3 ?_)
  case e1 => omega
  case e2 => unfold maxLen; omega
  case e3 => simp
  intro v6 w6 ho6 hu6 _
  clear t4 t5 t6
  have hb6 : Below w5.heap.size w5 w6 := (below_alloc1 w5 (.cells #[] 41)).trans (hu6.below (fun k hk e => by simp [Value.ownBlock] at e; omega) (by simp))
  have HO6 := Lib.hid ho6
  have HB6 := Lib.hid hb6
  have hB6 : w5.heap.size ≤ w6.heap.size := hb6.size
  clear ho6 hu6 hb6
  go_wp2_with (at_builtin; refine wpList_append_new rfl (.tmp 20) (.tmp 22) 22 rfl w5.heap.size 41 i1 _ 5 48 Tryd.underlying22 hi1 hy0 hy1 hy2 rfl (by omega) _ n (catv rowC l) #[.int .i64 (-7), .int .i64 0, .int .i64 0, .bool false, .string ⟨#[]⟩] rfl (by exact HO6.out) rfl rfl (by simp [Value.oneCell']) ?g1 ?g2 ?g3 ?_)
  case g1 => omega
  case g2 => unfold maxLen; omega
  all_goals try (exact hB6)
  intro v7 w7 ho7 hg7
  obtain ⟨gr, cr, rfl, hrb, hrl, hrc, hrm⟩ := own_form ho7 (by omega)
  have hb7 : Below w5.heap.size w5 w7 := HB6.out.trans ((Upd.of_grown hg7).below (fun k hk e => by have := (HO6.out.lt k e).1; omega) hB6)
  have HB7 := Lib.hid (HB5.out.trans (hb7.mono HB5.out.size))
  have hell2 : (catv rowC l).length = n * 5 := by rw [catv_length rowC_len, ← HNL.out]
  have HRR := Lib.hid (Rd.own ho7)
  have HR1 := Lib.hid (rd_snoc HRR.out hell2)
  have HR7 := Lib.hid ((HR.out.below HB7.out).mono HB7.out.size)
  have HL7 := Lib.hid (HLib.out.below HB7.out)
  have x2 := rd_last (j := 0) HRR.out hell2 rfl
  have HX : Hid (∀ V : World, Below w7.heap.size w7 V → V.cell? ⟨gr, n * 5, none⟩ = some (.int .i64 (-7))) := Lib.hid (fun V hV => (hV.cell (p := ⟨gr, n * 5, none⟩) hrl).trans x2)
  clear ho7 hg7 hb7 HO6 HB6 hB6 hell2 HRR x2 HR HLib
  have HC1 : Hid (∀ V : World, Below w7.heap.size w7 V → Calls Tryd.prog 25 #[.slice (some ⟨gr, 0, none⟩) n cr] V fun e V' => e = .returned (.int .i64 (errC l)) ∧ Below V.heap.size V V') := Lib.hid (fun V hV => check_any V m _ n cr l ((HR1.out.below hV).mono hV.size) HF.out (HL7.out.below hV))
  have HC2 : Hid (∀ V : World, Below w7.heap.size w7 V → Calls Tryd.prog 22 #[.slice A n c] V fun e V' => e = .returned (.int .i64 (errC l)) ∧ Below V.heap.size V V') := Lib.hid (fun V hV => rcheck_any V A n c l ((HR7.out.below hV).mono hV.size) HF.out)
  obtain ⟨L, hL⟩ : ∃ L, spotsL l = L := ⟨_, rfl⟩
  obtain ⟨Bs, hBs⟩ : ∃ Bs, blocksOf L = Bs := ⟨_, rfl⟩
  have HS1 : Hid (∀ V : World, Below w7.heap.size w7 V → Calls Tryd.prog 26 #[.slice (some ⟨gr, 0, none⟩) n cr] V fun e V' => ∃ v, e = .returned v ∧ V'.ownsRow V.heap.size 35 7 v L.length (catv spotC L) ∧ Below V.heap.size V V') := Lib.hid (fun V hV => by
    have := spots_any V m _ n cr l ((HR1.out.below hV).mono hV.size) HF.out (HL7.out.below hV)
    rw [hL] at this
    exact this)
  have HS2 : Hid (∀ V : World, Below w7.heap.size w7 V → Calls Tryd.prog 27 #[.slice A n c] V fun e V' => ∃ v, e = .returned v ∧ V'.ownsRow V.heap.size 35 7 v L.length (catv spotC L) ∧ Below V.heap.size V V') := Lib.hid (fun V hV => by
    have := rspots_any V A n c l ((HR7.out.below hV).mono hV.size) HF.out
    rw [hL] at this
    exact this)
  have HK1 : Hid (∀ V : World, Below w7.heap.size w7 V → Calls Tryd.prog 28 #[.slice (some ⟨gr, 0, none⟩) n cr] V fun e w' => ∃ v vs, e = .returned v ∧ BlkRow w' V.heap.size v Bs vs ∧ Below V.heap.size V w') := Lib.hid (fun V hV => by
    have := blocks_any V m _ n cr l ((HR1.out.below hV).mono hV.size) HF.out (HL7.out.below hV)
    rw [hL] at this
    unfold BlkAns at this
    rw [hBs] at this
    exact this)
  have HK2 : Hid (∀ V : World, Below w7.heap.size w7 V → Calls Tryd.prog 29 #[.slice A n c] V fun e w' => ∃ v vs, e = .returned v ∧ BlkRow w' V.heap.size v Bs vs ∧ Below V.heap.size V w') := Lib.hid (fun V hV => by
    have := rblocks_any V A n c l ((HR7.out.below hV).mono hV.size) HF.out
    rw [hL] at this
    unfold BlkAns at this
    rw [hBs] at this
    exact this)
  rw [hL] at hl66 hbl66 hbs66
  rw [hBs] at hbl66 hbs66
  have HBS := Lib.hid hbs66
  have hn0 : (0 : Int) ≤ (n : Int) := by omega
  have hnc : (n : Int) ≤ (cr : Int) := by omega
  have HFN := Lib.hid (show (n : Int) < ((n + 1 : Nat) : Int) by omega)
  clear hL hBs hbs66
  go_wp2_with fail
  refine (HC1.out w7 (Below.refl _ _)).mono ?_
  rintro e w8 ⟨rfl, hb8⟩
  have HB8 := Lib.hid hb8
  have h9 := Lib.hid (HC2.out w8 hb8)
  clear hb8 HC1 HC2
  go_wp2_with fail
  refine h9.out.mono ?_
  rintro e w9 ⟨rfl, hb9⟩
  have HB9 := Lib.hid (bel_on HB8.out hb9)
  clear hb9 h9 HB8
  go_upto_region 6 with (fail)
  have hbd : Below w9.heap.size w9 w9.drew := (Below.refl _ _).drew
  have HD1 : Hid (Calls Tryd.prog 26 #[.slice (some ⟨gr, 0, none⟩) n cr] w9.drew fun e V' => ∃ v, e = .returned v ∧ V'.ownsRow w9.heap.size 35 7 v L.length (catv spotC L) ∧ Below w9.heap.size w9 V') := Lib.hid ((HS1.out w9.drew HB9.out.drew).mono fun _ _ ⟨v, h1, h2, h3⟩ => ⟨v, h1, h2, bel_on hbd h3⟩)
  go_cut [4, 5, 6] (fun va vb vc wc => ∃ p1 p2 p3 : Nat, Hid (OwnBt wc w9.heap.size p1 35 7 va L.length (catv spotC L)) ∧ Hid (OwnBt wc p1 p2 35 7 vb L.length (catv spotC L)) ∧ Hid (OwnBt wc p2 p3 35 7 vc L.length (catv spotC L)) ∧ w9.heap.size ≤ p1 ∧ p1 ≤ p2 ∧ p2 ≤ p3 ∧ p3 ≤ wc.heap.size ∧ Hid (Below w9.heap.size w9 wc))
  case first =>
    go_region_held3 (fun V => Below w9.heap.size w9 V)
      (first | assumption | exact hc3 | exact hc2 | exact hc1 | exact hbd)
      (first
        | (go_at_call 26; refine HD1.out.mono ?_; rintro e u1 ⟨va, rfl, hoa, hc1⟩)
        | (go_at_call 26; refine (HS1.out _ (bel_on HB9.out hc1)).mono ?_; rintro e u2 ⟨vb, rfl, hob, hc2'⟩; have hc2 := bel_on hc1 hc2')
        | (go_at_call 27; refine (HS2.out _ (bel_on HB9.out hc2)).mono ?_; rintro e u3 ⟨vc, rfl, hoc, hc3'⟩; have hc3 := bel_on hc2 hc3')
        | fail)
    all_goals (go_wp2_with fail; go_meet; exact ⟨_, _, _, Lib.hid (((show OwnBt _ w9.heap.size _ 35 7 va L.length (catv spotC L) from ⟨hoa, fun k e => (hoa.lt k e).2⟩).below hc2').below hc3'), Lib.hid ((OwnBt.of hob).below hc3'), Lib.hid (OwnBt.of hoc), hc1.size, hc2'.size, hc3'.size, Nat.le_refl _, Lib.hid hc3⟩)
  case rest =>
    obtain ⟨p1, p2, p3, hA, hB, hC, hp1, hp2, hp3, hp4, hW⟩ := hcut
    obtain ⟨wA, hwA⟩ : ∃ V, wc = V := ⟨_, rfl⟩
    rw [hwA] at hA hB hC hp4 hW ⊢
    clear hwA
    have HBA := Lib.hid (bel_on HB9.out hW.out)
    obtain ⟨Aa, ca, rfl, -⟩ := own_rd hA.out.1
    obtain ⟨Ab, cb, rfl, -⟩ := own_rd hB.out.1
    obtain ⟨Ac, cc, rfl, -⟩ := own_rd hC.out.1
    clear hbd HD1 HS1 HS2
    go_upto_region 7 with (fail)
    have hbd : Below wA.heap.size wA wA.drew := (Below.refl _ _).drew
    have HD1 : Hid (Calls Tryd.prog 28 #[.slice (some ⟨gr, 0, none⟩) n cr] wA.drew fun e w' => ∃ v vs, e = .returned v ∧ BlkRow w' wA.heap.size v Bs vs ∧ Below wA.heap.size wA w') := Lib.hid ((HK1.out wA.drew HBA.out.drew).mono fun _ _ ⟨v, vs, h1, h2, h3⟩ => ⟨v, vs, h1, h2, bel_on hbd h3⟩)
    go_cut [7, 8, 9] (fun va vb vc wc => ∃ (p4 p5 p6 : Nat) (us vs ws : List Value), Hid (BlkBt wc wA.heap.size p4 va Bs us) ∧ Hid (BlkBt wc p4 p5 vb Bs vs) ∧ Hid (BlkBt wc p5 p6 vc Bs ws) ∧ wA.heap.size ≤ p4 ∧ p4 ≤ p5 ∧ p5 ≤ p6 ∧ p6 ≤ wc.heap.size ∧ Hid (Below wA.heap.size wA wc))
    case first =>
      go_region_held3 (fun V => Below wA.heap.size wA V)
        (first | assumption | exact hc3 | exact hc2 | exact hc1 | exact hbd)
        (first
          | (go_at_call 28; refine HD1.out.mono ?_; rintro e u1 ⟨va, us, rfl, hoa, hc1⟩)
          | (go_at_call 28; refine (HK1.out _ (bel_on HBA.out hc1)).mono ?_; rintro e u2 ⟨vb, vs, rfl, hob, hc2'⟩; have hc2 := bel_on hc1 hc2')
          | (go_at_call 29; refine (HK2.out _ (bel_on HBA.out hc2)).mono ?_; rintro e u3 ⟨vc, ws, rfl, hoc, hc3'⟩; have hc3 := bel_on hc2 hc3')
          | fail)
      all_goals (go_wp2_with fail; go_meet; exact ⟨_, _, _, us, vs, ws, Lib.hid (((show BlkBt _ wA.heap.size _ va Bs us from ⟨hoa, fun k e => (hoa.row.lt k e).2, fun i u k hu e => ((hoa.own i (by rw [← hoa.len]; exact (List.getElem?_eq_some_iff.1 hu).1) u hu).lt k e).2⟩).below hc2').below hc3'), Lib.hid ((BlkBt.of hob).below hc3'), Lib.hid (BlkBt.of hoc), hc1.size, hc2'.size, hc3'.size, Nat.le_refl _, Lib.hid hc3⟩)
    case rest =>
      obtain ⟨p4, p5, p6, us, vs, ws, hX, hY, hZ, hq1, hq2, hq3, hq4, hW2⟩ := hcut
      obtain ⟨wB, hwB⟩ : ∃ V, wc = V := ⟨_, rfl⟩
      rw [hwB] at hX hY hZ hq4 hW2 ⊢
      clear hwB hbd HD1 HK1 HK2
      have HA := Lib.hid (hA.out.below hW2.out)
      have HB := Lib.hid (hB.out.below hW2.out)
      have HC := Lib.hid (hC.out.below hW2.out)
      have HBB := Lib.hid (bel_on HBA.out hW2.out)
      obtain ⟨Ax, cx, rfl, -⟩ := own_rd hX.out.row.row
      obtain ⟨Ay, cy, rfl, -⟩ := own_rd hY.out.row.row
      obtain ⟨Az, cz, rfl, -⟩ := own_rd hZ.out.row.row
      have h8 := Lib.hid (same_spots wB Aa Ac L.length ca cc L (Rd.own HA.out.1) (Rd.own HC.out.1) (by omega))
      have HSB : Hid (∀ (V : World) (va vb : Value), BlkRd V V.heap.size va Bs → BlkRd V V.heap.size vb Bs → Calls Tryd.prog 31 #[va, vb] V fun e w' => e = .returned (.bool true) ∧ Below V.heap.size V w') := Lib.hid (fun V va vb h1 h2 => same_blocks V va vb Bs h1 h2 (by omega) (fun x hx => by have := HBS.out x hx; omega))
      clear hA hB hC HBA
      go_wp2_with fail
      refine h8.out.mono ?_
      rintro e w10 ⟨rfl, hb10⟩
      have HB10 := Lib.hid hb10
      have h9 := Lib.hid (HSB.out w10 _ _ ((hX.out.row.rd.below hb10).mono hb10.size) ((hZ.out.row.rd.below hb10).mono hb10.size))
      clear hb10 h8
      go_wp2_with fail
      refine h9.out.mono ?_
      rintro e w11 ⟨rfl, hb11⟩
      have hb11' := bel_on HB10.out hb11
      have HA2 := Lib.hid (HA.out.below hb11')
      have HB2 := Lib.hid (HB.out.below hb11')
      have HC2 := Lib.hid (HC.out.below hb11')
      have HX2 := Lib.hid (hX.out.below hb11')
      have HY2 := Lib.hid (hY.out.below hb11')
      have HZ2 := Lib.hid (hZ.out.below hb11')
      have hq5 : p6 ≤ w11.heap.size := Nat.le_trans hq4 hb11'.size
      have HW := Lib.hid (bel_on HBB.out hb11')
      clear hb11 hb11' h9 HB10 HA HB HC hX hY hZ hq4 hW2 hW
      have HAO := Lib.hid (fun k (e : (Value.slice Aa L.length ca).ownBlock = some k) => (⟨(HA2.out.1.lt k e).1, HA2.out.2 k e⟩ : w9.heap.size ≤ k ∧ k < p1))
      have hsz9 := HB9.out.size
      have hsA : p3 ≤ wA.heap.size := hp4
      have hS : ∀ k, SMp w9.heap.size p1 wA.heap.size p4 k → w7.heap.size ≤ k := fun k h => by
        rcases h with h | h <;> omega
      have HS := Lib.hid hS
      clear hS
      go_wp2
      go_loopw [68] (fun iv wx => ∃ j : Nat, j ≤ L.length ∧ iv = .int .i64 (j : Int) ∧ Hid (OwnAny wx w9.heap.size 35 7 (.slice Aa L.length ca) L.length) ∧ Hid (Upd (fun k => w9.heap.size ≤ k ∧ k < p1) w11 wx)) (fun iv _ => L.length - (intOf iv).toNat)
      case atStart => exact ⟨0, Nat.zero_le _, rfl, Lib.hid ⟨_, HA2.out.1⟩, Lib.hid (Upd.refl _ _)⟩
      case round =>
        obtain ⟨j, hj, rfl, hO, hU⟩ := hrel
        by_cases hlt : j < L.length
        · obtain ⟨ga, cap, e, hga, hgl, -, -⟩ := own_form HA2.out.1 (by omega)
          injection e with e1 _ e2
          subst e1
          subst e2
          have hgp : ga < p1 := HA2.out.2 ga rfl
          obtain ⟨u0, r0⟩ := hO.out.cell (j * 7) (by omega)
          have f0 := hO.out.frozen (j * 7)
          obtain ⟨u1, r1⟩ := hO.out.cell (j * 7 + 1) (by omega)
          have f1 := hO.out.frozen (j * 7 + 1)
          obtain ⟨u2, r2⟩ := hO.out.cell (j * 7 + 2) (by omega)
          have f2 := hO.out.frozen (j * 7 + 2)
          obtain ⟨u3, r3⟩ := hO.out.cell (j * 7 + 3) (by omega)
          have f3 := hO.out.frozen (j * 7 + 3)
          obtain ⟨u4, r4⟩ := hO.out.cell (j * 7 + 4) (by omega)
          have f4 := hO.out.frozen (j * 7 + 4)
          obtain ⟨u5, r5⟩ := hO.out.cell (j * 7 + 5) (by omega)
          have f5 := hO.out.frozen (j * 7 + 5)
          obtain ⟨u6, r6⟩ := hO.out.cell (j * 7 + 6) (by omega)
          have f6 := hO.out.frozen (j * 7 + 6)
          have hj0 : (0 : Int) ≤ (j : Int) := by omega
          have hjz : (j : Int) < (L.length : Int) := by omega
          go_wp2_with fail
          go_roundw
          case rel => exact ⟨j + 1, by omega, by go_num, Lib.hid ((((((((hO.out.set _ _).set _ _).set _ _).set _ _).set _ _).set _ _).set _ _)), Lib.hid (upd_at hU.out (((((((((Upd.refl (fun k => k = ga) wr).setCell ⟨ga, j * 7, none⟩ rfl _).setCell ⟨ga, j * 7 + 1, none⟩ rfl _).setCell ⟨ga, j * 7 + 2, none⟩ rfl _).setCell ⟨ga, j * 7 + 3, none⟩ rfl _).setCell ⟨ga, j * 7 + 4, none⟩ rfl _).setCell ⟨ga, j * 7 + 5, none⟩ rfl _).setCell ⟨ga, j * 7 + 6, none⟩ rfl _)) (fun _ => ⟨hga, hgp⟩))⟩
          case measure => simp [intOf]; omega
        · obtain rfl : j = L.length := by omega
          clear HA2
          obtain ⟨xs, hown⟩ := hO.out
          have hwrs := hU.out.size
          have hAob : ∀ k, (Value.slice Aa L.length ca).ownBlock = some k → w9.heap.size ≤ k ∧ k < p1 := HAO.out
          go_wp2_with (at_builtin; refine wpList_push rfl (.tmp 76) (.tmp 78) 56 rfl w9.heap.size 35 i2 _ 7 48 Tryd.underlying56 hi2 hs0 hs1 hs2 rfl (by omega) _ L.length xs #[.int .i64 0, .int .u8 0, .int .i64 0, .int .i64 0, .int .i64 0, .bool false, .bool false] rfl (by exact hown) rfl rfl (by simp [Value.oneCell']) ?h1 ?h2 ?h3 ?_)
          case h1 => omega
          case h2 => unfold maxLen; omega
          all_goals try (have hle9 : w9.heap.size ≤ w11.heap.size := by omega
                         omega)
          intro v12 w12 ho12 hu12 _
          obtain ⟨g12, c12, rfl, -, -, -, -⟩ := own_form ho12 (by omega)
          have HU12 := Lib.hid (hU.out.trans hu12 (fun k _ e => hAob k e))
          clear ho12 hu12 hown hU hO
          have hXX := HX2.out.upd HU12.out (fun k h1 h2 h3 => by omega)
          have HX3 : Hid (XAt w12 w11 w9.heap.size p1 wA.heap.size p4 (.slice Ax Bs.length cx) Bs.length 0 Bs us) := Lib.hid ⟨hXX.row, rfl, fun i x hi _ => absurd hi (by omega), fun i x hx => by
            have := HBS.out x (List.mem_of_getElem? hx)
            rw [if_neg (by omega)]; omega, hXX.outer, fun i u k h e => .inl (hXX.inner i u k h e), HU12.out.mono (fun k _ h => .inl h)⟩
          have hw12 : w11.heap.size ≤ w12.heap.size := HU12.out.size
          clear hXX HX2 HU12 HAO hAob
          go_wp2
          go_loopw [82] (fun iv wx => ∃ (j : Nat) (Out : List MBlk) (us' : List Value), j ≤ Bs.length ∧ iv = .int .i64 (j : Int) ∧ Hid (XAt wx w11 w9.heap.size p1 wA.heap.size p4 (.slice Ax Bs.length cx) Bs.length j Out us')) (fun iv _ => Bs.length - (intOf iv).toNat)
          case atStart => exact ⟨0, Bs, us, Nat.zero_le _, rfl, HX3⟩
          case round =>
            obtain ⟨j, Out, us', hj, rfl, hX⟩ := hrel
            by_cases hlt : j < Bs.length
            · have hrw := hX.out.row.row
              rw [hX.out.len] at hrw
              obtain ⟨gx, capx, e, hgx, hgxl, -, -⟩ := own_form hrw (by omega)
              injection e with e1 _ e2
              subst e1
              subst e2
              have hjo : j < Out.length := by rw [hX.out.len]; exact hlt
              obtain ⟨u, hu⟩ := hX.out.row.at_ hjo
              obtain ⟨n0, hn0'⟩ : ∃ n0, (Out[j]).seats.length = n0 := ⟨_, rfl⟩
              have hn66 : n0 ≤ 66 := by
                have := hX.out.small j _ (List.getElem?_eq_getElem hjo)
                rw [if_neg (by omega)] at this
                omega
              have hos := hX.out.row.own j hjo u hu
              rw [hn0'] at hos
              obtain ⟨Au, ku, rfl⟩ := own_shape hos
              have HU := Lib.hid hu
              have CELL : Hid (∀ (V : World) (O2 : List MBlk), BlkRow V wA.heap.size (.slice (some ⟨gx, 0, none⟩) Bs.length cx) O2 us' → O2.length = Bs.length → V.cell? ⟨gx, j * 4 + 3, none⟩ = some (.slice Au n0 ku) ∧ V.frozen? ⟨gx, j * 4 + 3, none⟩ = false) := Lib.hid (fun V O2 hrow hlen => by
                have h1 := hrow.row
                rw [hlen] at h1
                obtain ⟨_, _, he, _, hsz, hrc⟩ := (Rd.own h1).elem blkC_len (by decide) hlt
                simp only [Option.some.injEq, Addr.mk.injEq, and_true] at he
                obtain ⟨rfl, rfl⟩ := he
                have hz : (O2.zip us')[j].2 = .slice Au n0 ku := by
                  rw [List.getElem_zip]
                  exact (List.getElem?_eq_some_iff.1 HU.out).2
                have cu := hrc 3 _ rfl
                rw [hz, Nat.zero_add] at cu
                exact ⟨cu, (show OwnAny V wA.heap.size 65 4 _ _ from ⟨_, h1⟩).frozen _⟩)
              obtain ⟨cu, -⟩ := CELL.out wr Out hX.out.row hX.out.len
              have hj0 : (0 : Int) ≤ (j : Int) := by omega
              have hjz : (j : Int) < (Bs.length : Int) := by omega
              have HNEG : Hid (NegTo Out j 0 n0) := Lib.hid ⟨Out[j], List.getElem?_eq_getElem hjo, hn0', fun i s hi _ => absurd hi (by omega)⟩
              clear hrw hu hos hn0' hjo
              go_wp2
              go_loopw [91] (fun iv wx => ∃ (k : Nat) (Out' : List MBlk), k ≤ n0 ∧ iv = .int .i64 (k : Int) ∧ Hid (XAt wx w11 w9.heap.size p1 wA.heap.size p4 (.slice (some ⟨gx, 0, none⟩) Bs.length cx) Bs.length j Out' us') ∧ Hid (NegTo Out' j k n0)) (fun iv _ => n0 - (intOf iv).toNat)
              case atStart => exact ⟨0, Out, Nat.zero_le _, rfl, hX, HNEG⟩
              case round =>
                obtain ⟨k, Out', hk, rfl, hX', hN⟩ := hrel
                obtain ⟨cu', fu'⟩ := CELL.out wr Out' hX'.out.row hX'.out.len
                obtain ⟨xb, hxb, hxn, -⟩ := hN.out
                obtain ⟨hjo, hxe⟩ := List.getElem?_eq_some_iff.1 hxb
                have hos := hX'.out.row.own j hjo _ HU.out
                rw [hxe, hxn] at hos
                by_cases hkl : k < n0
                · obtain ⟨gs, caps, e, -, -, -, -⟩ := own_form hos (by omega)
                  injection e with e1 _ e2
                  subst e1
                  subst e2
                  have hoa : OwnAny wr wA.heap.size 32 2 (.slice (some ⟨gs, 0, none⟩) n0 ku) n0 := ⟨_, hos⟩
                  obtain ⟨s0, r0⟩ := hoa.cell (k * 2) (by omega)
                  obtain ⟨s1, r1⟩ := hoa.cell (k * 2 + 1) (by omega)
                  have f0 := hoa.frozen (k * 2)
                  have f1 := hoa.frozen (k * 2 + 1)
                  obtain ⟨Out2, hX2, hN2⟩ := hX'.out.set hlt hN.out hkl HU.out
                  have HX2' := Lib.hid hX2
                  have HN2 := Lib.hid hN2
                  have hk0 : (0 : Int) ≤ (k : Int) := by omega
                  have hkz : (k : Int) < (n0 : Int) := by omega
                  clear hX2 hN2 hos hoa hxb hxe hjo hxn
                  go_wp2_with fail
                  go_roundw
                  case rel => exact ⟨k + 1, Out2, by omega, by go_num, HX2', HN2⟩
                  case measure => simp [intOf]; omega
                · obtain rfl : k = n0 := by omega
                  have hw1r := hX'.out.upd.size
                  have hHU := HU.out
                  clear hxb hxn
                  go_wp2_with (at_builtin; refine wpList_push rfl (.tmp 109) (.tmp 111) 29 rfl wA.heap.size 32 i3 _ 2 16 Tryd.underlying29 hi3 ht0 ht1 ht2 rfl (by omega) _ k (catv seatC xb.seats) #[.int .i64 (-2), .int .u8 0] rfl (by exact hos) rfl rfl (by simp [Value.oneCell']) ?m1 ?m2 ?m3 ?_)
                  case m1 => omega
                  case m2 => unfold maxLen; omega
                  all_goals try (omega)
                  intro v13 w13 ho13 hu13 hat13
                  obtain ⟨g13, c13, rfl, -, -, -, -⟩ := own_form ho13 (by omega)
                  have hrw := hX'.out.row.row
                  rw [hX'.out.len] at hrw
                  have hoff : ∀ q, (Value.slice (some ⟨gx, 0, none⟩) Bs.length cx).ownBlock = some q → ¬ (Value.slice Au k ku).ownBlock = some q := fun q e1 e2 => hX'.out.row.off j _ q hHU e2 e1
                  have hrw13 := own_upd hrw hu13 hoff
                  have hoa13 : OwnAny w13 wA.heap.size 65 4 (.slice (some ⟨gx, 0, none⟩) Bs.length cx) Bs.length := ⟨_, hrw13⟩
                  obtain ⟨s3, r3⟩ := hoa13.cell (j * 4 + 3) (by omega)
                  have f3 := hoa13.frozen (j * 4 + 3)
                  obtain ⟨Out2, vs2, hX2⟩ := hX'.out.push (u' := .slice (some ⟨g13, 0, none⟩) (k + 1) c13) hlt hN.out hHU (fun x hx => by
                    obtain ⟨_, hx2⟩ := List.getElem?_eq_some_iff.1 hx
                    rw [hxe] at hx2
                    subst hx2
                    exact ho13) hu13 hat13 hw1r
                  have HX2' := Lib.hid hX2
                  clear hX2 hos hrw hrw13 hoa13 hoff ho13 hu13 hat13 hxe hjo hHU cu' fu'
                  go_wp2_with fail
                  go_roundw
                  case rel => exact ⟨j + 1, Out2, vs2, by omega, by go_num, HX2'⟩
                  case measure => simp [intOf]; omega
            · obtain rfl : j = Bs.length := by omega
              obtain ⟨W2, hW2⟩ : ∃ V, wr = V := ⟨_, rfl⟩
              rw [hW2] at hX ⊢
              clear hW2
              have hlen := hX.out.len
              have HUP := Lib.hid hX.out.upd
              have HNG : Hid (∀ (i : Nat) (x : MBlk), Out[i]? = some x → (∀ s ∈ x.seats, s.num < 0) ∧ x.seats.length ≤ 67) := Lib.hid (fun i x hx => ⟨hX.out.neg i x (by have := (List.getElem?_eq_some_iff.1 hx).1; omega) hx, by have := hX.out.small i x hx; split at this <;> omega⟩)
              obtain ⟨Aq, cq, us2, e, hul, hra, hia⟩ := hX.out.row.rd
              rw [hlen] at e hul hra
              injection e with e1 _ e2
              subst e1
              subst e2
              have HRA := Lib.hid hra
              have HIA := Lib.hid hia
              have HUL := Lib.hid hul
              clear hra hia hX hul
              go_wp2
              go_loopw [118] (fun iv wx => ∃ j : Nat, j ≤ Bs.length ∧ iv = .int .i64 (j : Int) ∧ Hid (Below W2.heap.size W2 wx)) (fun iv _ => Bs.length - (intOf iv).toNat)
              case atStart => exact ⟨0, Nat.zero_le _, rfl, Lib.hid (Below.refl _ _)⟩
              case round =>
                obtain ⟨j, hj, rfl, hB1⟩ := hrel
                by_cases hlt : j < Bs.length
                · obtain ⟨ga, oa, rfl, hga, hsa, hca⟩ := (HRA.out.below hB1.out).elem blkC_len (by decide) hlt
                  have hjo : j < Out.length := by omega
                  have hua : us2[j]? = some (us2[j]'(by rw [HUL.out]; exact hlt)) := List.getElem?_eq_getElem _
                  have hea : (Out.zip us2)[j] = (Out[j], us2[j]'(by rw [HUL.out]; exact hlt)) := List.getElem_zip ..
                  rw [hea] at hca
                  obtain ⟨A', c', hA', hrA⟩ := HIA.out j _ _ (List.getElem?_eq_getElem hjo) hua
                  rw [hA'] at hca
                  have hng := HNG.out j _ (List.getElem?_eq_getElem hjo)
                  obtain ⟨⟨x0, x1, x2, xs⟩, hx⟩ : ∃ x, Out[j] = x := ⟨_, rfl⟩
                  rw [hx] at hca hrA hng
                  simp only at hrA hca hng
                  have a3 := hca 3 _ rfl
                  simp only [hx] at a3
                  have HRS := Lib.hid hrA
                  have HNN := Lib.hid hng.1
                  have hx67 := hng.2
                  have hj0 : (0 : Int) ≤ (j : Int) := by omega
                  have hjz : (j : Int) < (Bs.length : Int) := by omega
                  clear hca hx hea hua hA' hrA hng hsa hjo
                  go_wp2
                  go_loopw [127] (fun iv wx => ∃ k : Nat, k ≤ xs.length ∧ iv = .int .i64 (k : Int) ∧ Hid (Below W2.heap.size W2 wx)) (fun iv _ => xs.length - (intOf iv).toNat)
                  case atStart => exact ⟨0, Nat.zero_le _, rfl, hB1⟩
                  case round =>
                    obtain ⟨k, hk, rfl, hB2⟩ := hrel
                    by_cases hkl : k < xs.length
                    · obtain ⟨gs, os, rfl, hgs, hss, hcs⟩ := (HRS.out.below hB2.out).elem seatC_len (by decide) hkl
                      have hneg := HNN.out _ (List.getElem_mem hss)
                      obtain ⟨⟨sn, sl⟩, hsx⟩ : ∃ s, xs[k] = s := ⟨_, rfl⟩
                      rw [hsx] at hcs hneg
                      simp only at hneg
                      have s0 := hcs 0 _ rfl
                      have s1 := hcs 1 _ rfl
                      rw [Nat.add_zero] at s0
                      have hdn : decide ((0 : Int) ≤ sn) = false := decide_eq_false (by omega)
                      have hk0 : (0 : Int) ≤ (k : Int) := by omega
                      have hkz : (k : Int) < (xs.length : Int) := by omega
                      clear hcs hsx hss
                      go_wp2_with fail
                      go_roundw
                      case rel => exact ⟨k + 1, by omega, by go_num, Lib.hid (hB2.out.alloc hB2.out.size _)⟩
                      case measure => simp [intOf]; omega
                    · obtain rfl : k = xs.length := by omega
                      go_wp2_with fail
                      go_roundw
                      case rel => exact ⟨j + 1, by omega, by go_num, hB2⟩
                      case measure => simp [intOf]; omega
                · obtain rfl : j = Bs.length := by omega
                  obtain ⟨W3, hW3⟩ : ∃ V, wr = V := ⟨_, rfl⟩
                  rw [hW3] at hB1 ⊢
                  clear hW3
                  have hBf := HB2.out.upd HUP.out (fun k h1 h2 h3 => by rcases h3 with h3 | h3 <;> omega)
                  have hCf := HC2.out.upd HUP.out (fun k h1 h2 h3 => by rcases h3 with h3 | h3 <;> omega)
                  have hYf := HY2.out.upd HUP.out (fun k h1 h2 h3 => by rcases h3 with h3 | h3 <;> omega)
                  have hZf := HZ2.out.upd HUP.out (fun k h1 h2 h3 => by rcases h3 with h3 | h3 <;> omega)
                  have hwf : Below w7.heap.size w7 W3 := (HW.out.trans (HUP.out.below (fun k hk h => by have := HS.out k h; omega) HW.out.size)).trans (hB1.out.mono (Nat.le_trans HW.out.size HUP.out.size))
                  have HWF := Lib.hid hwf
                  have h1 := Lib.hid (same_spots W3 Ab Ac L.length cb cc L (Rd.own (hBf.below hB1.out).1) (Rd.own (hCf.below hB1.out).1) (by omega))
                  have HYF := Lib.hid (hYf.below hB1.out)
                  have HZF := Lib.hid (hZf.below hB1.out)
                  clear hBf hCf hYf hZf hwf hB1 HUP HB2 HC2 HY2 HZ2 HW HRA HIA HNG HUL
                  go_wp2_with fail
                  refine h1.out.mono ?_
                  rintro e y1 ⟨rfl, hc1⟩
                  have HY1 := Lib.hid hc1
                  have h2 := Lib.hid (HSB.out y1 _ _ ((HYF.out.row.rd.below hc1).mono hc1.size) ((HZF.out.row.rd.below hc1).mono hc1.size))
                  clear hc1 h1
                  go_wp2_with fail
                  refine h2.out.mono ?_
                  rintro e y2 ⟨rfl, hc2⟩
                  have HYW := Lib.hid (bel_on2 HWF.out (bel_on HY1.out hc2))
                  have h3 := Lib.hid (same_rows y2 _ _ n cr c l ((HR1.out.below HYW.out).mono HYW.out.size) ((HR7.out.below HYW.out).mono HYW.out.size) (by omega))
                  clear hc2 h2 HYF HZF
                  go_wp2_with fail
                  refine h3.out.mono ?_
                  rintro e y3 ⟨rfl, hc3⟩
                  have hfin := bel_on HYW.out hc3
                  have x2 := HX.out y3 hfin
                  have HFIN := Lib.hid (bel_on2 HB7.out hfin)
                  have hnl := HFN.out
                  have hwl : IntKind.i64.wrap ((L.length : Int) + 1) = ((L.length + 1 : Nat) : Int) := by rw [IntWalk.i64_in _ (by omega)]; omega
                  clear hc3 h3 hfin HYW HY1 HWF
                  go_wp2
                  go_ret
                  exact ⟨rfl, HFIN.out⟩
end Go.Proofs.YtddiabpjmnmllaaDoor
