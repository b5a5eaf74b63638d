/- The law FitFree, walked. -/
import Derived.Test.YtddiabpjmnmllaaDoorFtRFr
import Derived.Test.YtddiabpjmnmllaaDoorOwnAny2
namespace Go.Proofs.YtddiabpjmnmllaaDoor
open Go.RowKit Go.Lib
theorem free_ok {rows : List MRow} {x : MWho} {q : List MSit} {j : Nat} (hj : j < (freeL rows x q).length) : allE rows (q ++ [⟨x, (freeL rows x q)[j]⟩]) = 0 := free_mem (List.getElem_mem hj)
set_option maxHeartbeats 8000000 in
set_option maxRecDepth 20000 in
theorem fitFree_any (w : World) (m : Int) (A : Option Addr) (n c : Nat) (l : List MRow) (x : MWho) (S : Option Addr) (k d : Nat) (q : List MSit) (hr : Rd w w.heap.size 5 A n (catv rowC l)) (hf : ∀ r ∈ l, r.fits) (hs : Rd w w.heap.size 5 S k (catv sitC q)) (hq : ∀ x ∈ q, x.seat.fits) (hk : k ≤ 1048576) (hLib : LibAt w m) :
    Calls Tryd.prog 6 #[.slice A n c, .agg #[.int .i64 x.cab, .bool x.fit, .bool x.inf], .slice S k d] w fun e w' => e = .returned (.bool true) ∧ Below w.heap.size w w' := by
  obtain ⟨i0, hi0, hz0, hz1, hz2⟩ := info_parts seat_info
  obtain ⟨i1, hi1, hy0, hy1, hy2⟩ := info_parts sit_info
  obtain rfl := rd_catlen sitC_len (by decide) hs
  obtain ⟨xc, xf, xi⟩ := x
  obtain ⟨W, hW⟩ : ∃ W, W = w.alloc (.cells #[.int .i64 xc, .bool xf, .bool xi] 24) := ⟨_, rfl⟩
  have hbW : Below w.heap.size w W := by rw [hW]; exact (Below.refl _ w).alloc (Nat.le_refl _) _
  have bx : W.heap[w.heap.size]? = some (.cells #[.int .i64 xc, .bool xf, .bool xi] 24 (0, 0)) := by rw [hW]; exact heap_alloc_new w _
  have HX : Hid (∀ V : World, Below W.heap.size W V → V.cell? ⟨w.heap.size, 0, none⟩ = some (.int .i64 xc) ∧ V.cell? ⟨w.heap.size, 1, none⟩ = some (.bool xf) ∧ V.cell? ⟨w.heap.size, 2, none⟩ = some (.bool xi)) := Lib.hid (fun V hV => by
    have b := box_keep bx (Upd.of_below (S := fun _ => False) hV) id
    refine ⟨?_, ?_, ?_⟩
    · rw [cell_of_row _ _ 0 _ _ _ b]; rfl
    · rw [cell_of_row _ _ 1 _ _ _ b]; rfl
    · rw [cell_of_row _ _ 2 _ _ _ b]; rfl)
  have HBW := Lib.hid hbW
  have hwW : w.heap.size < W.heap.size := (Array.getElem?_eq_some_iff.1 bx).1
  have HLV : Hid (∀ V : World, Below W.heap.size W V → Calls Tryd.prog 12 #[] V fun e V' => e = .returned (.bool true) ∧ Below V.heap.size V V') := Lib.hid (fun V hV => lives_any V m (hLib.below (bel_on2 hbW hV)))
  obtain ⟨F, hF⟩ : ∃ F, freeL l ⟨xc, xf, xi⟩ q = F := ⟨_, rfl⟩
  have hF66 : F.length ≤ 66 := by rw [← hF]; exact freeL_len _ _ _
  have HFR : Hid (∀ V : World, Below W.heap.size W V → Calls Tryd.prog 14 #[.slice A n c, .agg #[.int .i64 xc, .bool xf, .bool xi], .slice S q.length d] V fun e V' => ∃ v, e = .returned v ∧ V'.ownsRow V.heap.size 32 2 v F.length (catv seatC F) ∧ Below V.heap.size V V') := Lib.hid (fun V hV => by
    have hb := bel_on2 hbW hV
    rw [← hF]
    exact free_any V m A n c l ⟨xc, xf, xi⟩ S q.length d q ((hr.below hb).mono hb.size) hf ((hs.below hb).mono hb.size) hq (by omega) (hLib.below hb))
  have HRF : Hid (∀ V : World, Below W.heap.size W V → Calls Tryd.prog 20 #[.slice A n c, .agg #[.int .i64 xc, .bool xf, .bool xi], .slice S q.length d] V fun e V' => ∃ v, e = .returned v ∧ V'.ownsRow V.heap.size 32 2 v F.length (catv seatC F) ∧ Below V.heap.size V V') := Lib.hid (fun V hV => by
    have hb := bel_on2 hbW hV
    rw [← hF]
    exact rfree_any V A n c l ⟨xc, xf, xi⟩ S q.length d q ((hr.below hb).mono hb.size) hf ((hs.below hb).mono hb.size) (by omega))
  have HAL : Hid (∀ (V : World) (g cap : Nat) (s : MSeat), s ∈ F → Below W.heap.size W V → Rd V V.heap.size 5 (some ⟨g, 0, none⟩) (q.length + 1) (catv sitC (q ++ [⟨⟨xc, xf, xi⟩, s⟩])) → Calls Tryd.prog 13 #[.slice A n c, .slice (some ⟨g, 0, none⟩) (q.length + 1) cap] V fun e w' => e = .returned (.int .i64 0) ∧ Below V.heap.size V w') := Lib.hid (fun V g cap s hsF hV hR => by
    have hb := bel_on2 hbW hV
    rw [← hF] at hsF
    have hz := free_mem hsF
    unfold freeL at hsF
    have := all_any V m A n c l (some ⟨g, 0, none⟩) (q.length + 1) cap (q ++ [⟨⟨xc, xf, xi⟩, s⟩]) ((hr.below hb).mono hb.size) hf hR (by
      intro y hy
      rcases List.mem_append.1 hy with hy | hy
      · exact hq y hy
      · obtain rfl : y = ⟨⟨xc, xf, xi⟩, s⟩ := by simpa using hy
        split at hsF
        · obtain ⟨sp, hsp, rfl⟩ := List.mem_map.1 hsF
          have := (spots_distinct l).2 sp (List.mem_filter.1 hsp).1
          unfold MSeat.fits; simp only; omega
        · cases hsF) (by simp; omega) (hLib.below hb)
    rw [hz] at this
    exact this)
  have HSR : Hid (∀ V : World, Below W.heap.size W V → Rd V w.heap.size 5 S q.length (catv sitC q)) := Lib.hid (fun V hV => hs.below (bel_on2 hbW hV))
  have HEC := Lib.hid (catv_cell sitC_cell q)
  clear hbW bx hr hf hs hF hLib
  go_enter Tryd.func6, Tryd.ntmps6
  go_wp2_with fail
  rw [← hW]
  clear hW
  refine (HLV.out W (Below.refl _ _)).mono ?_
  rintro e w3 ⟨rfl, hb3⟩
  have HB3 : Hid (Below W.heap.size W w3) := Lib.hid hb3
  have MK : Hid (∀ V, Below w3.heap.size w3 V → Below w3.heap.size w3 V ∧ V.cell? ⟨w.heap.size, 0, none⟩ = some (.int .i64 xc) ∧ V.cell? ⟨w.heap.size, 1, none⟩ = some (.bool xf) ∧ V.cell? ⟨w.heap.size, 2, none⟩ = some (.bool xi)) := Lib.hid (fun V hV => ⟨hV, HX.out V (bel_on HB3.out hV)⟩)
  have hbd : Below w3.heap.size w3 w3.drew := (Below.refl _ _).drew
  clear hb3 HLV
  go_upto_region 3 with (fail)
  go_cut [7, 8, 9] (fun a b f wc => ∃ (A1 : Option Addr) (c1 : Nat) (A2 : Option Addr) (c2 : Nat) (A3 : Option Addr) (c3 : Nat) (B1 : Nat), a = .slice A1 F.length c1 ∧ b = .slice A2 F.length c2 ∧ f = .slice A3 F.length c3 ∧ Hid (wc.ownsRow w3.heap.size 32 2 (.slice A1 F.length c1) F.length (catv seatC F)) ∧ Hid (wc.ownsRow B1 32 2 (.slice A2 F.length c2) F.length (catv seatC F)) ∧ Hid (wc.ownsRow B1 32 2 (.slice A3 F.length c3) F.length (catv seatC F)) ∧ Hid (w3.heap.size ≤ B1 ∧ ∀ g, (Value.slice A1 F.length c1).ownBlock = some g → w3.heap.size ≤ g ∧ g < B1) ∧ Hid (Below w3.heap.size w3 wc))
  case first =>
    go_region_held3 (fun V => Below w3.heap.size w3 V ∧ V.cell? ⟨w.heap.size, 0, none⟩ = some (.int .i64 xc) ∧ V.cell? ⟨w.heap.size, 1, none⟩ = some (.bool xf) ∧ V.cell? ⟨w.heap.size, 2, none⟩ = some (.bool xi))
      (exact MK.out _ (by first | assumption | exact hbd | exact hb1 | exact hb2 | exact hb3))
      (first
        | (go_at_call 20; refine (HRF.out _ (bel_on HB3.out hb2)).mono ?_; rintro e u3 ⟨v3, rfl, ho3, hu3⟩; obtain ⟨A3, c3, rfl⟩ := own_shape ho3; have hb3 := bel_on (W := w3) hb2 hu3)
        | (go_at_call 14; refine (HFR.out _ (bel_on HB3.out hb1)).mono ?_; rintro e u2 ⟨v2, rfl, ho2, hu2⟩; obtain ⟨A2, c2, rfl⟩ := own_shape ho2; have hb2 := bel_on (W := w3) hb1 hu2)
        | (go_at_call 14; refine (HFR.out _ (bel_on HB3.out hbd)).mono ?_; rintro e u1 ⟨v1, rfl, ho1, hu1⟩; obtain ⟨A1, c1, rfl⟩ := own_shape ho1; have hb1 := bel_on (W := w3) hbd hu1)
        | fail)
    all_goals (go_wp2_with fail; go_meet; exact ⟨A1, c1, A2, c2, A3, c3, u1.heap.size, rfl, rfl, rfl, Lib.hid (own_below (own_below ho1 hu2) hu3), Lib.hid (own_below ho2 hu3), Lib.hid (own_mono ho3 hu2.size), Lib.hid ⟨hb1.size, fun g e => ho1.lt g e⟩, Lib.hid hb3⟩)
  case rest =>
    obtain ⟨A1, c1, A2, c2, A3, c3, B1, rfl, rfl, rfl, h1, h2, h3, hB1, hBc⟩ := hcut
    have s1 := Lib.hid (same_seats wc A1 A3 F.length c1 c3 F (Rd.own h1.out) (Rd.own h3.out) (by omega))
    clear MK hbd HFR HRF
    go_wp2_with fail
    refine s1.out.mono ?_
    rintro e w4 ⟨rfl, hb4⟩
    have h14 := Lib.hid (own_below h1.out hb4)
    have h24 := Lib.hid (own_below h2.out hb4)
    have h34 := Lib.hid (own_below h3.out hb4)
    have HB4 := Lib.hid (bel_on hBc.out hb4)
    have s2 := Lib.hid (same_seats w4 A2 A3 F.length c2 c3 F (Rd.own h24.out) (Rd.own h34.out) (by omega))
    clear h1 h2 h3 hb4 s1 hBc
    go_wp2_with fail
    refine s2.out.mono ?_
    rintro e w5 ⟨rfl, hb5⟩
    have HOA : Hid (OwnAny w5 w3.heap.size 32 2 (.slice A1 F.length c1) F.length) := Lib.hid ⟨_, own_below h14.out hb5⟩
    have h25 := Lib.hid (own_below h24.out hb5)
    have h35 := Lib.hid (own_below h34.out hb5)
    have HB5 := Lib.hid (bel_on HB4.out hb5)
    clear h14 h24 h34 hb5 s2 HB4
    go_wp2
    go_loopw [39] (fun iv wx => ∃ j : Nat, j ≤ F.length ∧ iv = .int .i64 (j : Int) ∧ Hid (OwnAny wx w3.heap.size 32 2 (.slice A1 F.length c1) F.length) ∧ Hid (Upd (fun b => (Value.slice A1 F.length c1).ownBlock = some b) w5 wx)) (fun i _ => F.length - (intOf i).toNat)
    case atStart => exact ⟨0, Nat.zero_le _, rfl, HOA, Lib.hid (Upd.refl _ _)⟩
    case round =>
      obtain ⟨j, hjn, rfl, hoa, hua⟩ := hrel
      by_cases hj : j < F.length
      · obtain ⟨ga, rfl⟩ : ∃ ga, A1 = some ⟨ga, 0, none⟩ := by
          obtain ⟨xs, hx⟩ := hoa.out
          obtain ⟨ga, ca, e, _⟩ := own_form hx (by omega)
          injection e with e
          exact ⟨ga, e⟩
        obtain ⟨u0, hu0⟩ := hoa.out.cell (j * 2) (by omega)
        obtain ⟨u1, hu1⟩ := hoa.out.cell (j * 2 + 1) (by omega)
        have fz0 := hoa.out.frozen (j * 2)
        have fz1 := hoa.out.frozen (j * 2 + 1)
        have j1 : (0 : Int) ≤ (j : Int) := by omega
        have j2 : (j : Int) < (F.length : Int) := by omega
        go_wp2
        go_roundw
        case rel => exact ⟨j + 1, hj, by go_num, Lib.hid ((hoa.out.set (j * 2) _).set (j * 2 + 1) _), Lib.hid ((hua.out.setCell ⟨ga, j * 2, none⟩ rfl _).setCell ⟨ga, j * 2 + 1, none⟩ rfl _)⟩
        case measure => simp [intOf]; omega
      · obtain rfl : j = F.length := by omega
        have h26 := Lib.hid (own_upd h25.out hua.out (fun b e h => by have h1 := (h25.out.lt b e).1; have h2 := (hB1.out.2 b h).2; omega))
        have h36 := Lib.hid (own_upd h35.out hua.out (fun b e h => by have h1 := (h35.out.lt b e).1; have h2 := (hB1.out.2 b h).2; omega))
        have hb6 : Below w3.heap.size w3 wr := HB5.out.trans (hua.out.below (fun b h1 e => by have := hB1.out.2 b e; omega) HB5.out.size)
        have HB6 := Lib.hid hb6
        have hs6 := hb6.size
        obtain ⟨xs6, hx6⟩ := hoa.out
        have HX6 := Lib.hid hx6
        clear h25 h35 HB5 hua hoa hb6 hx6 HOA
        rename World => w6
        go_wp2_with (at_builtin; refine wpList_append_new rfl (.tmp 47) (.tmp 49) 29 rfl w3.heap.size 32 i0 _ 2 16 Tryd.underlying29 hi0 hz0 hz1 hz2 rfl (by omega) _ F.length xs6 #[.int .i64 0, .int .u8 0] rfl (by exact HX6.out) rfl rfl (by simp [Value.oneCell']) (by omega) (by unfold maxLen; omega) hs6 ?_; intro v7 w7 ho7 hg7)
        have hu7 := Upd.of_grown hg7
        obtain ⟨A7, c7, rfl⟩ := own_shape ho7
        have h27 := Lib.hid (own_upd h26.out hu7 (fun b e h => by have h1 := (h26.out.lt b e).1; have h2 := (hB1.out.2 b h).2; omega))
        have h37 := Lib.hid (own_upd h36.out hu7 (fun b e h => by have h1 := (h36.out.lt b e).1; have h2 := (hB1.out.2 b h).2; omega))
        have HB7 := Lib.hid (HB6.out.trans (hu7.below (fun b h1 e => by have := hB1.out.2 b e; omega) hs6))
        have s3 := Lib.hid (same_seats w7 A2 A3 F.length c2 c3 F (Rd.own h27.out) (Rd.own h37.out) (by omega))
        clear ho7 hg7 hu7 h26 h36 HB6 HX6
        go_wp2_with fail
        refine s3.out.mono ?_
        rintro e w8 ⟨rfl, hb8⟩
        have HR8 := Lib.hid (Rd.own (own_below h27.out hb8))
        have HB8 := Lib.hid (bel_on HB3.out (bel_on HB7.out hb8))
        have hle : ((F.length + 1 : Nat) : Int) = (F.length : Int) + 1 := by omega
        clear hb8 h27 h37 HB7 s3
        go_wp2
        go_loopw [65] (fun iv wx => ∃ j : Nat, j ≤ F.length ∧ iv = .int .i64 (j : Int) ∧ Hid (Below w8.heap.size w8 wx)) (fun iv _ => F.length - (intOf iv).toNat)
        case atStart => exact ⟨0, Nat.zero_le _, rfl, Lib.hid (Below.refl _ _)⟩
        case round =>
          obtain ⟨j, hjn, rfl, hB⟩ := hrel
          by_cases hj : j < F.length
          · obtain ⟨gn, on, rfl, hgn, _, _⟩ := (HR8.out.below hB.out).elem seatC_len (by decide) hj
            obtain ⟨hs', c0, c1⟩ := seats_cells (HR8.out.below hB.out) hj
            have hmem := List.getElem_mem hs'
            obtain ⟨s, hss⟩ : ∃ s, F[j] = s := ⟨_, rfl⟩
            rw [hss] at c0 c1 hmem
            have HMEM := Lib.hid hmem
            obtain ⟨sn, sl⟩ := s
            obtain ⟨V, hV⟩ : ∃ V, V = wr.alloc (.cells #[.int .i64 sn, .int .u8 (sl.toNat : Int)] 32) := ⟨_, rfl⟩
            have bV : V.heap[wr.heap.size]? = some (.cells #[.int .i64 sn, .int .u8 (sl.toNat : Int)] 32 (0, 0)) := by rw [hV]; exact heap_alloc_new wr _
            have hbV : Below w8.heap.size w8 V := by rw [hV]; exact hB.out.alloc hB.out.size _
            obtain ⟨xb, hxb⟩ : ∃ xb, wr.heap.size = xb := ⟨_, rfl⟩
            have hxV : xb < V.heap.size := by rw [← hxb]; exact (Array.getElem?_eq_some_iff.1 bV).1
            rw [hxb] at bV
            have hBW : Below W.heap.size W V := bel_on HB8.out hbV
            have hwV : w.heap.size < V.heap.size := Nat.lt_of_lt_of_le hwW hBW.size
            have HC : Hid (∀ U : World, Below V.heap.size V U → Below V.heap.size V U ∧ U.cell? ⟨w.heap.size, 0, none⟩ = some (.int .i64 xc) ∧ U.cell? ⟨w.heap.size, 1, none⟩ = some (.bool xf) ∧ U.cell? ⟨w.heap.size, 2, none⟩ = some (.bool xi) ∧ U.cell? ⟨xb, 0, none⟩ = some (.int .i64 sn) ∧ U.cell? ⟨xb, 1, none⟩ = some (.int .u8 (sl.toNat : Int))) := Lib.hid (fun U hU => by
              obtain ⟨a, b, c⟩ := HX.out U (bel_on hBW hU)
              have bb := box_keep bV (Upd.of_below (S := fun _ => False) hU) id
              refine ⟨hU, a, b, c, ?_, ?_⟩
              · rw [cell_of_row _ _ 0 _ _ _ bb]; rfl
              · rw [cell_of_row _ _ 1 _ _ _ bb]; rfl)
            have HSV : Hid (∀ U : World, Below V.heap.size V U → Rd U w.heap.size 5 S q.length (catv sitC q)) := Lib.hid (fun U hU => HSR.out U (bel_on hBW hU))
            have HAV : Hid (∀ (U : World) (g cap : Nat), Below V.heap.size V U → Rd U U.heap.size 5 (some ⟨g, 0, none⟩) (q.length + 1) (catv sitC (q ++ [⟨⟨xc, xf, xi⟩, ⟨sn, sl⟩⟩])) → Calls Tryd.prog 13 #[.slice A n c, .slice (some ⟨g, 0, none⟩) (q.length + 1) cap] U fun e w' => e = .returned (.int .i64 0) ∧ Below U.heap.size U w') := Lib.hid (fun U g cap hU hR => HAL.out U g cap _ HMEM.out (bel_on hBW hU) hR)
            have HBV := Lib.hid hbV
            clear hss bV hbV hs' hmem hBW hB
            go_upto_region 17 with (fail)
            rw [← hV]
            clear hV c0 c1 hxb
            go_cut [79] (fun v wd => v = .bool false ∧ Hid (Below V.heap.size V wd))
            case first =>
              have hbd : Below V.heap.size V V.drew := ⟨rfl, rfl, rfl, Nat.le_refl _, fun _ _ => rfl⟩
              have hb1e := hbd.alloc hbd.size (.cells #[] 39)
              have hb1x := hbd.alloc hbd.size (.cells #[.int .i64 xc, .bool xf, .bool xi, .int .i64 sn, .int .u8 (sl.toNat : Int)] 39)
              have hb2ex := hb1e.alloc hb1e.size (.cells #[.int .i64 xc, .bool xf, .bool xi, .int .i64 sn, .int .u8 (sl.toNat : Int)] 39)
              have hb2xe := hb1x.alloc hb1x.size (.cells #[] 39)
              have o1 := own_empty V.drew 39 5 V.heap.size (Nat.le_refl _)
              have o2 := o1.alloc (.cells #[.int .i64 xc, .bool xf, .bool xi, .int .i64 sn, .int .u8 (sl.toNat : Int)] 39)
              have o3 := own_empty (V.drew.alloc (.cells #[.int .i64 xc, .bool xf, .bool xi, .int .i64 sn, .int .u8 (sl.toNat : Int)] 39)) 39 5 V.heap.size hb1x.size
              have zx : (V.drew.alloc (.cells #[.int .i64 xc, .bool xf, .bool xi, .int .i64 sn, .int .u8 (sl.toNat : Int)] 39)).heap.size = V.heap.size + 1 := by simp
              rw [zx] at o3
              have y2 := heap_alloc_new (V.drew.alloc (.cells #[] 39)) (.cells #[.int .i64 xc, .bool xf, .bool xi, .int .i64 sn, .int .u8 (sl.toNat : Int)] 39)
              have ze : (V.drew.alloc (.cells #[] 39)).heap.size = V.heap.size + 1 := by simp
              rw [ze] at y2
              have y3 := (Below.heap_alloc (V.drew.alloc (.cells #[.int .i64 xc, .bool xf, .bool xi, .int .i64 sn, .int .u8 (sl.toNat : Int)] 39)) (.cells #[] 39) V.heap.size (by simp)).trans (heap_alloc_new V.drew (.cells #[.int .i64 xc, .bool xf, .bool xi, .int .i64 sn, .int .u8 (sl.toNat : Int)] 39))
              have Y2 := Lib.hid y2
              have Y3 := Lib.hid y3
              have hone : ∀ u ∈ ([.int .i64 xc, .bool xf, .bool xi, .int .i64 sn, .int .u8 (sl.toNat : Int)] : List Value), u.oneCell' = true := by simp [Value.oneCell']
              have HONE := Lib.hid hone
              have O1 := Lib.hid o1
              have O2 := Lib.hid o2
              have O3 := Lib.hid o3
              clear y2 y3 ze hone o1 o2 o3 zx
              go_region_held3 (fun U => Below V.heap.size V U ∧ U.cell? ⟨w.heap.size, 0, none⟩ = some (.int .i64 xc) ∧ U.cell? ⟨w.heap.size, 1, none⟩ = some (.bool xf) ∧ U.cell? ⟨w.heap.size, 2, none⟩ = some (.bool xi) ∧ U.cell? ⟨xb, 0, none⟩ = some (.int .i64 sn) ∧ U.cell? ⟨xb, 1, none⟩ = some (.int .u8 (sl.toNat : Int)))
                (exact HC.out _ (by first | assumption | exact hb5 | exact hbd | exact hb1e | exact hb1x | exact hb2ex | exact hb2xe | exact Below.alloc hb3 hb3.size _))
                (first
                  | (go_at_call 13
                     rw [List.nil_append, Nat.zero_add] at ho4
                     obtain ⟨g4, cap4, rfl, -, -, -, -⟩ := own_form ho4 (by omega)
                     refine (HAV.out _ g4 cap4 hb4 (by rw [catv_append, catv_one]; exact Rd.own ho4)).mono ?_
                     rintro e u5 ⟨rfl, hu5⟩
                     have hb5 := bel_on (W := V) hb4 hu5)
                  | (refine step_app (by rfl) (.tmp 70) (.tmp 71) 25 (by rfl) V.heap.size 39 i1 _ 5 32 Tryd.underlying25 hi1 hy0 hy1 hy2 rfl (by omega) (.slice (some ⟨V.heap.size, 0, none⟩) 0 0) 0 [] w.heap.size S q.length d (catv sitC q) (by rfl) (by first | exact O1.out | exact O2.out) (by rfl) (HSV.out _ (by first | exact hb1e | exact hb2ex)) HEC.out (by omega) (by unfold maxLen; omega) (by first | exact hb1e.size | exact hb2ex.size) ?_
                     intro v3 w3 ho3 hu3 _
                     have hb3 : Below V.heap.size V w3 := Below.trans (by first | exact hb1e | exact hb2ex) (hu3.below (fun i hi e => by simp [Value.ownBlock] at e; omega) (by first | exact hb1e.size | exact hb2ex.size)))
                  | (refine step_app (by rfl) (.tmp 70) (.tmp 71) 25 (by rfl) V.heap.size 39 i1 _ 5 32 Tryd.underlying25 hi1 hy0 hy1 hy2 rfl (by omega) (.slice (some ⟨V.heap.size + 1, 0, none⟩) 0 0) 0 [] w.heap.size S q.length d (catv sitC q) (by rfl) (by exact O3.out) (by rfl) (HSV.out _ (by exact hb2xe)) HEC.out (by omega) (by unfold maxLen; omega) (by exact hb2xe.size) ?_
                     intro v3 w3 ho3 hu3 _
                     have hb3 : Below V.heap.size V w3 := Below.trans hb2xe (hu3.below (fun i hi e => by simp [Value.ownBlock] at e; omega) hb2xe.size))
                  | (refine step_app (by rfl) (.tmp 72) (.tmp 76) 25 (by rfl) V.heap.size 39 i1 _ 5 32 Tryd.underlying25 hi1 hy0 hy1 hy2 rfl (by omega) v3 (0 + q.length) ([] ++ catv sitC q) _ (some ⟨w3.heap.size, 0, none⟩) 1 1 ([.int .i64 xc, .bool xf, .bool xi, .int .i64 sn, .int .u8 (sl.toNat : Int)] : List Value) (by rfl) (by exact ho3.alloc _) (by rfl) (rd_block (heap_alloc_new w3 (.cells #[.int .i64 xc, .bool xf, .bool xi, .int .i64 sn, .int .u8 (sl.toNat : Int)] 39)) rfl) HONE.out (by omega) (by unfold maxLen; omega) (by simp; have := hb3.size; omega) ?_
                     intro v4 w4 ho4 hu4 _
                     have hb4 : Below V.heap.size V w4 := (hb3.alloc hb3.size (.cells #[.int .i64 xc, .bool xf, .bool xi, .int .i64 sn, .int .u8 (sl.toNat : Int)] 39)).trans (hu4.below (fun i hi e => by have := (ho3.lt i e).1; omega) (by simp; have := hb3.size; omega)))
                  | (refine step_app (by rfl) (.tmp 72) (.tmp 76) 25 (by rfl) V.heap.size 39 i1 _ 5 32 Tryd.underlying25 hi1 hy0 hy1 hy2 rfl (by omega) v3 (0 + q.length) ([] ++ catv sitC q) _ (some ⟨V.heap.size + 1, 0, none⟩) 1 1 ([.int .i64 xc, .bool xf, .bool xi, .int .i64 sn, .int .u8 (sl.toNat : Int)] : List Value) (by rfl) (by exact ho3) (by rfl) (rd_block ((hu3.block (V.heap.size + 1) (by simp) (by simp [Value.ownBlock])).trans Y2.out) rfl) HONE.out (by omega) (by unfold maxLen; omega) (by exact hb3.size) ?_
                     intro v4 w4 ho4 hu4 _
                     have hb4 : Below V.heap.size V w4 := hb3.trans (hu4.below (fun i hi e => by have := (ho3.lt i e).1; omega) hb3.size))
                  | (refine step_app (by rfl) (.tmp 72) (.tmp 76) 25 (by rfl) V.heap.size 39 i1 _ 5 32 Tryd.underlying25 hi1 hy0 hy1 hy2 rfl (by omega) v3 (0 + q.length) ([] ++ catv sitC q) _ (some ⟨V.heap.size, 0, none⟩) 1 1 ([.int .i64 xc, .bool xf, .bool xi, .int .i64 sn, .int .u8 (sl.toNat : Int)] : List Value) (by rfl) (by exact ho3) (by rfl) (rd_block ((hu3.block V.heap.size (by simp; omega) (by simp [Value.ownBlock])).trans Y3.out) rfl) HONE.out (by omega) (by unfold maxLen; omega) (by exact hb3.size) ?_
                     intro v4 w4 ho4 hu4 _
                     have hb4 : Below V.heap.size V w4 := hb3.trans (hu4.below (fun i hi e => by have := (ho3.lt i e).1; omega) hb3.size))
                  | fail)
              all_goals (go_wp2_with fail; go_meet; exact ⟨rfl, Lib.hid hb5⟩)
            case rest =>
              obtain ⟨rfl, hB9⟩ := hcut
              have HB9 := Lib.hid (bel_on HBV.out hB9.out)
              clear HC HSV HAV HBV hB9
              go_wp2
              go_roundw
              case rel => exact ⟨j + 1, by omega, by go_num, HB9⟩
              case measure => simp [intOf]; omega
          · have hlz : ¬ (j : Int) < (F.length : Int) := by omega
            have hbb := bel_on2 HBW.out (bel_on HB8.out hB.out)
            go_wp2
            go_ret
            exact ⟨rfl, hbb⟩
end Go.Proofs.YtddiabpjmnmllaaDoor
