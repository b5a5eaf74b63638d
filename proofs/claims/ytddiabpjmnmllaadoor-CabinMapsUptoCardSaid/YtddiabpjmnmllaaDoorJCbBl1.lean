/- Cabins: Blocks, walked. -/
import Derived.Test.YtddiabpjmnmllaaDoorJCbBlkM
import Derived.OrdersHeld
namespace Go.Proofs.YtddiabpjmnmllaaDoor
open Go.RowKit Go.Lib
set_option maxHeartbeats 16000000 in
set_option maxRecDepth 20000 in
theorem blocks_any (w : World) (m : Int) (A : Option Addr) (n c : Nat) (l : List MRow) (hr : Rd w w.heap.size 5 A n (catv rowC l)) (hf : ∀ r ∈ l, r.fits) (hLib : LibAt w m) :
    Calls Tryd.prog 28 #[.slice A n c] w (BlkAns w (spotsL l)) := by
  obtain ⟨i0, hi0, hz0, hz1, hz2⟩ := info_parts seat_info
  obtain ⟨i1, hi1, hy0, hy1, hy2⟩ := info_parts blk_info
  have HSP := Lib.hid (spots_any w m A n c l hr hf hLib)
  have HNX := Lib.hid (fun j (hj : j < (spotsL l).length) => blk_next l j hj)
  have HAT := Lib.hid (fun j (hj : j ≤ (spotsL l).length) => (blks_all (spotsL l) j hj (spots_go l).1 (spots_go l).2).1)
  have hl66 := spots_len l
  obtain ⟨L, hL⟩ : ∃ L, spotsL l = L := ⟨_, rfl⟩
  rw [hL] at HSP hl66 ⊢
  have HNX2 : Hid (∀ j (hj : j < L.length), 0 ≤ L[j].blk ∧ (L[j].blk < ((blocksOf (L.take j)).length : Int) ∨ L[j].blk = ((blocksOf (L.take j)).length : Int))) := Lib.hid (by subst hL; exact HNX.out)
  have HAT2 : Hid (∀ j (hj : j ≤ L.length), BlksAt (L.take j) (blocksOf (L.take j))) := Lib.hid (by subst hL; exact HAT.out)
  clear hr hf hLib hL HNX HAT
  go_enter Tryd.func28, Tryd.ntmps28
  go_wp2_with fail
  refine HSP.out.mono ?_
  rintro e w4 ⟨v, rfl, ho, hb4⟩
  obtain ⟨A2, c2, rfl, hrd⟩ := own_rd ho
  have HA := Lib.hid hrd
  have HB4 := Lib.hid hb4
  clear ho hrd hb4 HSP
  go_wp2
  go_loopw [3, 9] (fun ov iv wx => ∃ (j : Nat) (vs : List Value), j ≤ L.length ∧ iv = .int .i64 (j : Int) ∧ Hid (BlkRow wx w4.heap.size ov (blocksOf (L.take j)) vs) ∧ Hid (Below w4.heap.size w4 wx)) (fun _ iv _ => L.length - (intOf iv).toNat)
  case atStart => exact ⟨0, [], Nat.zero_le _, rfl, Lib.hid (BlkRow.nil _ _), Lib.hid (Below.refl _ _)⟩
  case round =>
    obtain ⟨j, vs, hj, rfl, hR, hB⟩ := hrel
    by_cases hlt : j < L.length
    · obtain ⟨gb, off, rfl, hgb, hs, hcc⟩ := (HA.out.below hB.out).elem spotC_len (by decide) hlt
      obtain ⟨hn0, hn1⟩ := HNX2.out j hs
      have htk : blocksOf (L.take (j + 1)) = stepB (blocksOf (L.take j)) L[j] := by rw [List.take_succ_eq_append_getElem hs, blocksOf_snoc]
      have hat1 := HAT2.out (j + 1) (by omega)
      rw [htk] at hat1
      have htl : (L.take (j + 1)).length ≤ 66 := by simp; omega
      have hol : (blocksOf (L.take j)).length ≤ 66 := Nat.le_trans (blocksOf_len _) (by simp; omega)
      obtain ⟨x, hss⟩ : ∃ x, L[j] = x := ⟨_, rfl⟩
      rw [hss] at hcc hn0 hn1 htk hat1
      obtain ⟨out, hout⟩ : ∃ out, blocksOf (L.take j) = out := ⟨_, rfl⟩
      rw [hout] at hn1 htk hat1 hR hol
      obtain ⟨⟨sn, sl⟩, sc, sz, sb, se, sk⟩ := x
      obtain ⟨b0, rfl⟩ : ∃ b0 : Nat, sb = (b0 : Int) := ⟨sb.toNat, by simp only at hn0; omega⟩
      have c0 := hcc 0 _ rfl
      have c1 := hcc 1 _ rfl
      have c2 := hcc 2 _ rfl
      have c3 := hcc 3 _ rfl
      have c4 := hcc 4 _ rfl
      have c5 := hcc 5 _ rfl
      have c6 := hcc 6 _ rfl
      rw [Nat.add_zero] at c0
      obtain ⟨V, hV⟩ : ∃ V, V = wr.alloc (.cells #[.int .i64 sn, .int .u8 (sl.toNat : Int), .int .i64 sc, .int .i64 sz, .int .i64 (b0 : Int), .bool se, .bool sk] 35) := ⟨_, rfl⟩
      have hbV : Below wr.heap.size wr V := by rw [hV]; exact (Below.refl _ _).alloc (Nat.le_refl _) _
      have bV : V.heap[wr.heap.size]? = some (.cells #[.int .i64 sn, .int .u8 (sl.toNat : Int), .int .i64 sc, .int .i64 sz, .int .i64 (b0 : Int), .bool se, .bool sk] 35 (0, 0)) := by rw [hV]; exact heap_alloc_new wr _
      obtain ⟨xb, hxb⟩ : ∃ xb, wr.heap.size = xb := ⟨_, rfl⟩
      have hxV : V.heap.size = xb + 1 := by rw [hV]; simp; omega
      rw [hxb] at bV
      have hRV := hR.out.below hbV
      obtain ⟨A3, cq, rfl⟩ := own_shape hR.out.row
      have hno : (∀ k, (Value.slice A3 out.length cq).ownBlock = some k → k < xb) ∧ ∀ (i : Nat) (u : Value) (k : Nat), vs[i]? = some u → u.ownBlock = some k → k < xb := by
        refine ⟨fun k e => by have := (hR.out.row.lt k e).2; omega, fun i u k h e => ?_⟩
        have hi : i < out.length := by rw [← hR.out.len]; exact (List.getElem?_eq_some_iff.1 h).1
        have := ((hR.out.own i hi u h).lt k e).2
        omega
      have hbV4 : Below w4.heap.size w4 V := hB.out.trans (hbV.mono hB.out.size)
      obtain ⟨N, hN⟩ : ∃ N, newBlk out ⟨⟨sn, sl⟩, sc, sz, (b0 : Int), se, sk⟩ = N := ⟨_, rfl⟩
      have hNl : N.length ≤ 67 ∧ out.length ≤ N.length := by rw [← hN]; unfold newBlk; split <;> simp <;> omega
      have hstep : stepB out ⟨⟨sn, sl⟩, sc, sz, (b0 : Int), se, sk⟩ = if sk = true then N else N.modify b0 fun x => { x with seats := x.seats ++ [⟨sn, sl⟩] } := by
        unfold stepB addSeat
        rw [hN]
        rfl
      have HNB : Hid (∀ i (h : i < N.length), (N[i]).seats.length ≤ 66) := Lib.hid (by
        have hRR := hR.out
        intro i hi
        rw [← hN] at hi
        subst hN
        have hA0 := HAT2.out j (by omega)
        rw [hout] at hA0
        by_cases hi2 : i < out.length
        · have e : (newBlk out ⟨⟨sn, sl⟩, sc, sz, (b0 : Int), se, sk⟩)[i] = out[i] := by
            unfold newBlk
            split
            · rw [List.getElem_append_left hi2]
            · rfl
          rw [e, hA0.seats i hi2, List.length_map]
          exact Nat.le_trans (List.length_filter_le _ _) (by simp; omega)
        · have hw : newBlk out ⟨⟨sn, sl⟩, sc, sz, (b0 : Int), se, sk⟩ = out ++ [⟨sc, sn, se, []⟩] := by
            unfold newBlk at hi ⊢
            split at hi
            · rename_i h; rw [if_pos h]
            · omega
          have e : (newBlk out ⟨⟨sn, sl⟩, sc, sz, (b0 : Int), se, sk⟩)[i] = ⟨sc, sn, se, []⟩ := by
            simp only [hw]
            rw [List.getElem_append_right (by omega)]
            simp
          rw [e]; simp)
      have hbN : b0 < N.length := by
        rw [← hN]; unfold newBlk
        simp only at hn1
        split
        · rename_i h; simp only at h; rw [List.length_append]; simp; omega
        · rename_i h; simp only at h; omega
      rw [hstep] at htk
      have HTK0 := Lib.hid htk
      have HRV := Lib.hid hRV
      have HNO := Lib.hid hno
      have HXV := Lib.hid bV
      have HBV := Lib.hid hbV4
      have HNE := Lib.hid hN
      simp only at hn1
      have HVS := Lib.hid hxV
      have hxl : xb < V.heap.size := by omega
      clear hxV hcc hR hB hss hout htk hat1 hstep hRV hno bV hbV hbV4 hn0 hN htl
      go_upto_region 5 with (fail)
      rw [← hV]
      clear hV c0 c1 c2 c3 c4 c5 c6 hxb
      have x0 : V.cell? ⟨xb, 0, none⟩ = some (.int .i64 sn) := by rw [cell_of_row _ _ 0 _ _ _ HXV.out]; rfl
      have x2 : V.cell? ⟨xb, 2, none⟩ = some (.int .i64 sc) := by rw [cell_of_row _ _ 2 _ _ _ HXV.out]; rfl
      have x4 : V.cell? ⟨xb, 4, none⟩ = some (.int .i64 (b0 : Int)) := by rw [cell_of_row _ _ 4 _ _ _ HXV.out]; rfl
      have x5 : V.cell? ⟨xb, 5, none⟩ = some (.bool se) := by rw [cell_of_row _ _ 5 _ _ _ HXV.out]; rfl
      obtain ⟨eqb, heqb⟩ : ∃ eqb, ((b0 : Int) == (out.length : Int)) = eqb := ⟨_, rfl⟩
      go_cut [17] (fun v wc => v = .bool eqb ∧ Hid (V = wc))
      case first =>
        go_wp2_with fail
        go_meet
        exact ⟨rfl, Lib.hid rfl⟩
      case rest =>
      obtain ⟨rfl, hwc⟩ := hcut
      have hwc2 := hwc.out
      subst hwc2
      clear hwc
      go_step
      go_cut [3] (fun v wc => ∃ (g cap : Nat) (vs' : List Value), v = .slice (some ⟨g, 0, none⟩) N.length cap ∧ Hid (BlkRow wc w4.heap.size (.slice (some ⟨g, 0, none⟩) N.length cap) N vs') ∧ Hid (g ≠ xb ∧ ∀ (i : Nat) (u : Value) (k : Nat), vs'[i]? = some u → u.ownBlock = some k → k ≠ xb) ∧ Hid (wc.heap[xb]? = some (.cells #[.int .i64 sn, .int .u8 (sl.toNat : Int), .int .i64 sc, .int .i64 sz, .int .i64 (b0 : Int), .bool se, .bool sk] 35 (0, 0))) ∧ Hid (Below w4.heap.size w4 wc))
      case first =>
        cases eqb with
        | true =>
          have hnb : b0 = out.length := by have := beq_iff_eq.1 heqb; omega
          clear heqb
          have hNN : N = out ++ [⟨sc, sn, se, []⟩] := by rw [← HNE.out]; unfold newBlk; rw [if_pos (by simp only; omega)]
          go_wp2_with (at_builtin; refine wpList_push rfl (.tmp 18) (.tmp 27) 59 rfl w4.heap.size 65 i1 _ 4 48 Tryd.underlying59 hi1 hy0 hy1 hy2 rfl (by omega) _ out.length (catv blkC (out.zip vs)) #[.int .i64 sc, .int .i64 sn, .bool se, .slice none 0 0] rfl (by exact HRV.out.row) rfl rfl (by simp [Value.oneCell']) ?d1 ?d2 ?d3 ?_)
          case d1 => omega
          case d2 => unfold maxLen; omega
          all_goals try (exact HBV.out.size)
          intro v3 w3 ho3 hu3 hat3
          obtain ⟨g, cap, rfl, -, -, -, -⟩ := own_form ho3 (by omega)
          have hRN := HRV.out.new (b := ⟨sc, sn, se, []⟩) rfl ho3 hu3 hat3
          rw [← hNN] at hRN
          have hNe : out.length + 1 = N.length := by rw [hNN]; simp
          rw [hNe] at hRN
          have hx3 : w3.heap[xb]? = some (.cells #[.int .i64 sn, .int .u8 (sl.toNat : Int), .int .i64 sc, .int .i64 sz, .int .i64 (b0 : Int), .bool se, .bool sk] 35 (0, 0)) := (hu3.block xb hxl (fun e => by have := HNO.out.1 xb e; omega)).trans HXV.out
          have hb3 : Below w4.heap.size w4 w3 := HBV.out.trans (hu3.below (fun k hk e => by have := (HRV.out.row.lt k e).1; omega) HBV.out.size)
          have hg3 : g ≠ xb := by
            intro e
            rcases hat3 with h | ⟨k, hk, h⟩
            · have := HNO.out.1 g (h.symm.trans rfl); omega
            · have : g = k := by simpa [Value.ownBlock] using h
              have := HVS.out
              omega
          have hno3 : ∀ (i : Nat) (u : Value) (k : Nat), (vs ++ [Value.slice none 0 0])[i]? = some u → u.ownBlock = some k → k ≠ xb := by
            intro i u k h e
            by_cases hi : i < vs.length
            · rw [List.getElem?_append_left hi] at h
              have := HNO.out.2 i u k h e; omega
            · rw [List.getElem?_append_right (by omega)] at h
              have hlt := (List.getElem?_eq_some_iff.1 h).1
              simp at hlt
              rw [show i - vs.length = 0 by omega] at h
              simp at h
              rw [← h] at e
              cases e
          rw [hNe]
          have HF := Lib.hid (show ∃ (g' cap' : Nat) (vs' : List Value), (Value.slice (some ⟨g, 0, none⟩) N.length cap) = .slice (some ⟨g', 0, none⟩) N.length cap' ∧ Hid (BlkRow w3 w4.heap.size (.slice (some ⟨g', 0, none⟩) N.length cap') N vs') ∧ Hid (g' ≠ xb ∧ ∀ (i : Nat) (u : Value) (k : Nat), vs'[i]? = some u → u.ownBlock = some k → k ≠ xb) ∧ Hid (w3.heap[xb]? = some (.cells #[.int .i64 sn, .int .u8 (sl.toNat : Int), .int .i64 sc, .int .i64 sz, .int .i64 (b0 : Int), .bool se, .bool sk] 35 (0, 0))) ∧ Hid (Below w4.heap.size w4 w3) from ⟨g, cap, _, rfl, Lib.hid hRN, Lib.hid ⟨hg3, hno3⟩, Lib.hid hx3, Lib.hid hb3⟩)
          clear ho3 hu3 hat3 hRN hx3 hb3 hg3 hno3
          go_wp2_with fail
          go_meet
          exact HF.out
        | false =>
          have hnb : ¬ b0 = out.length := by have := beq_eq_false_iff_ne.1 heqb; omega
          clear heqb
          have hNN : N = out := by rw [← HNE.out]; unfold newBlk; rw [if_neg (by simp only; omega)]
          obtain ⟨g, cap, e3, -, -, -, -⟩ := own_form HRV.out.row (by omega)
          injection e3 with e3 _ e4
          subst e3
          subst e4
          have HF := Lib.hid (show ∃ (g' cap' : Nat) (vs' : List Value), (Value.slice (some ⟨g, 0, none⟩) out.length cq) = .slice (some ⟨g', 0, none⟩) N.length cap' ∧ Hid (BlkRow V w4.heap.size (.slice (some ⟨g', 0, none⟩) N.length cap') N vs') ∧ Hid (g' ≠ xb ∧ ∀ (i : Nat) (u : Value) (k : Nat), vs'[i]? = some u → u.ownBlock = some k → k ≠ xb) ∧ Hid (V.heap[xb]? = some (.cells #[.int .i64 sn, .int .u8 (sl.toNat : Int), .int .i64 sc, .int .i64 sz, .int .i64 (b0 : Int), .bool se, .bool sk] 35 (0, 0))) ∧ Hid (Below w4.heap.size w4 V) from by
            rw [hNN]
            exact ⟨g, cq, vs, rfl, HRV, Lib.hid ⟨by have := HNO.out.1 g rfl; omega, fun i u k h e => by have := HNO.out.2 i u k h e; omega⟩, HXV, HBV⟩)
          go_wp2_with fail
          go_meet
          exact HF.out
      case rest =>
        obtain ⟨g, cap, vs', rfl, hR2, hno2, hxc, hB2⟩ := hcut
        clear HRV HNO HXV HBV HNE x0 x2 x4 x5
        have y6 : wc.cell? ⟨xb, 6, none⟩ = some (.bool sk) := by rw [cell_of_row _ _ 6 _ _ _ hxc.out]; rfl
        cases sk with
        | true =>
          have HTK : Hid (blocksOf (L.take (j + 1)) = N) := Lib.hid (by rw [HTK0.out]; rfl)
          go_wp2
          go_roundw
          case rel => exact ⟨j + 1, vs', by omega, by go_num, Lib.hid (by rw [HTK.out]; exact hR2.out), hB2⟩
          case measure => simp [intOf]; omega
        | false =>
          have HTK : Hid (blocksOf (L.take (j + 1)) = N.modify b0 fun x => { x with seats := x.seats ++ [⟨sn, sl⟩] }) := Lib.hid (by rw [HTK0.out]; rfl)
          obtain ⟨u, hvb⟩ := hR2.out.at_ hbN
          have hou := hR2.out.own b0 hbN u hvb
          have hsq66 := HNB.out b0 hbN
          obtain ⟨sq, hsq⟩ : ∃ sq, (N[b0]).seats = sq := ⟨_, rfl⟩
          rw [hsq] at hou hsq66
          obtain ⟨Au, ku, rfl⟩ := own_shape hou
          have HSQ := Lib.hid hsq
          have HOU := Lib.hid hou
          have HOFF : Hid (¬ (Value.slice Au sq.length ku).ownBlock = some g) := Lib.hid (fun e => hR2.out.off b0 _ g hvb e rfl)
          have hgl := hR2.out.row.lt g rfl
          have hzl : b0 < (N.zip vs').length := by rw [List.length_zip, hR2.out.len]; omega
          obtain ⟨_, _, he, _, hsz, hrc⟩ := (Rd.own hR2.out.row).elem blkC_len (by decide) hbN
          simp only [Option.some.injEq, Addr.mk.injEq, and_true] at he
          obtain ⟨rfl, rfl⟩ := he
          have hz : (N.zip vs')[b0].2 = .slice Au sq.length ku := by
            rw [List.getElem_zip]
            have := List.getElem?_eq_some_iff.1 hvb
            exact this.2
          have cu := hrc 3 _ rfl
          rw [hz, Nat.zero_add] at cu
          obtain ⟨gcs, gfr⟩ : ∃ cs, wc.heap[g]? = some (.cells cs 65 (0, 0)) := by
            rcases hR2.out.row.2 with ⟨h, _⟩ | ⟨g', cap', cur, hv, _, hg, _⟩
            · injection h with h; cases h
            · injection hv with h1 _ _
              injection h1 with h1
              injection h1 with h1
              subst h1
              exact ⟨cur, hg⟩
          have HGC := Lib.hid gfr
          have HCU := Lib.hid cu
          have OA : Hid ((wc.drew.alloc (.cells #[.int .i64 sn, .int .u8 (sl.toNat : Int)] 32)).ownsRow w4.heap.size 32 2 (.slice Au sq.length ku) sq.length (catv seatC sq)) := Lib.hid ((show wc.drew.ownsRow w4.heap.size 32 2 (.slice Au sq.length ku) sq.length (catv seatC sq) from hou).alloc _)
          have ud : Upd (fun k => (Value.slice Au sq.length ku).ownBlock = some k ∨ k = g) wc wc.drew := ⟨rfl, rfl, rfl, Nat.le_refl _, fun _ _ _ => rfl⟩
          have ua : Upd (fun k => (Value.slice Au sq.length ku).ownBlock = some k ∨ k = g) wc (wc.drew.alloc (.cells #[.int .i64 sn, .int .u8 (sl.toNat : Int)] 32)) := ud.alloc _
          have HGA : Hid ((wc.drew.alloc (.cells #[.int .i64 sn, .int .u8 (sl.toNat : Int)] 32)).heap[g]? = some (.cells gcs 65 (0, 0))) := Lib.hid ((Below.heap_alloc wc.drew _ g hgl.2).trans gfr)
          have ha : Hid (w4.heap.size ≤ (wc.drew.alloc (.cells #[.int .i64 sn, .int .u8 (sl.toNat : Int)] 32)).heap.size) := Lib.hid (by have := hB2.out.size; simp; omega)
          have y4 : wc.cell? ⟨xb, 4, none⟩ = some (.int .i64 (b0 : Int)) := by rw [cell_of_row _ _ 4 _ _ _ hxc.out]; rfl
          have hfz : wc.frozen? ⟨g, b0 * 4 + 3, none⟩ = false := frozen_of_row _ _ _ _ _ gfr
          have MK : Hid (∀ U : World, Upd (fun k => (Value.slice Au sq.length ku).ownBlock = some k ∨ k = g) wc U → U.cell? ⟨xb, 0, none⟩ = some (.int .i64 sn) ∧ U.cell? ⟨xb, 1, none⟩ = some (.int .u8 (sl.toNat : Int)) ∧ U.cell? ⟨xb, 4, none⟩ = some (.int .i64 (b0 : Int))) := Lib.hid (fun U hU => by
            have hx := (hU.block xb (Array.getElem?_eq_some_iff.1 hxc.out).1 (fun h => by
              rcases h with h | h
              · exact hno2.out.2 b0 _ xb hvb h rfl
              · exact hno2.out.1 h.symm)).trans hxc.out
            refine ⟨?_, ?_, ?_⟩
            · rw [cell_of_row _ _ 0 _ _ _ hx]; rfl
            · rw [cell_of_row _ _ 1 _ _ _ hx]; rfl
            · rw [cell_of_row _ _ 4 _ _ _ hx]; rfl)
          have hb00 : (0 : Int) ≤ (b0 : Int) := by omega
          have hb0z : (b0 : Int) < (N.length : Int) := by omega
          have hgw := hgl.2
          have hgw1 := hgl.1
          clear hsq hou hgl hzl hsz hrc hz gfr
          go_upto_region 8 with (fail)
          refine wp_region_held_drew (S := (fun U => U.cell? ⟨xb, 0, none⟩ = some (.int .i64 sn) ∧ U.cell? ⟨xb, 1, none⟩ = some (.int .u8 (sl.toNat : Int)) ∧ U.cell? ⟨xb, 4, none⟩ = some (.int .i64 (b0 : Int)))) (by kernel_rfl) (by exact MK.out _ ud) (fun hHeld => ?_)
          refine wpAnyH_take (i := 0) (v := ?_) rfl (by kernel_rfl) (by kernel_rfl) (by kernel_rfl) (fun _ _ _ h => h) (Or.inl ⟨by kernel_rfl, ?_⟩) (by assumption) ?_
          rotate_left
          · (intro w hSw; (try dsimp only at hSw); go_simp; try with_reducible rfl)
          try simp only [Act.put, List.getElem_toArray, List.getElem_cons_succ, List.getElem_cons_zero, List.setIfInBounds_toArray, List.set_cons_zero, List.set_cons_succ]
          refine wpAnyH_take (i := 1) (v := ?_) rfl (by kernel_rfl) (by kernel_rfl) (by kernel_rfl) (fun _ _ _ h => h) (Or.inl ⟨by kernel_rfl, ?_⟩) (by assumption) ?_
          rotate_left
          · (intro w hSw; (try dsimp only at hSw); go_simp; try with_reducible rfl)
          try simp only [Act.put, List.getElem_toArray, List.getElem_cons_succ, List.getElem_cons_zero, List.setIfInBounds_toArray, List.set_cons_zero, List.set_cons_succ]
          refine wpAnyH_take (i := 2) (v := ?_) rfl (by kernel_rfl) (by kernel_rfl) (by kernel_rfl) (fun _ _ _ h => h) (Or.inl ⟨by kernel_rfl, ?_⟩) (by assumption) ?_
          rotate_left
          · (intro w hSw; (try dsimp only at hSw); go_simp; try with_reducible rfl)
          try simp only [Act.put, List.getElem_toArray, List.getElem_cons_succ, List.getElem_cons_zero, List.setIfInBounds_toArray, List.set_cons_zero, List.set_cons_succ]
          refine wpAnyH_take (i := 3) (v := ?_) rfl (by kernel_rfl) (by kernel_rfl) (by kernel_rfl) (fun _ _ _ h => h) (Or.inl ⟨by kernel_rfl, ?_⟩) (by assumption) ?_
          rotate_left
          · (intro w hSw; (try dsimp only at hSw); go_simp; try with_reducible rfl)
          try simp only [Act.put, List.getElem_toArray, List.getElem_cons_succ, List.getElem_cons_zero, List.setIfInBounds_toArray, List.set_cons_zero, List.set_cons_succ]
          refine wpAnyH_take (i := 4) (v := ?_) rfl (by kernel_rfl) (by kernel_rfl) (by kernel_rfl) (fun _ _ _ h => h) (Or.inl ⟨by kernel_rfl, ?_⟩) (by assumption) ?_
          rotate_left
          · (intro w hSw; (try dsimp only at hSw); go_simp; try with_reducible rfl)
          try simp only [Act.put, List.getElem_toArray, List.getElem_cons_succ, List.getElem_cons_zero, List.setIfInBounds_toArray, List.set_cons_zero, List.set_cons_succ]
          refine wpAnyH_take (i := 5) (v := ?_) rfl (by kernel_rfl) (by kernel_rfl) (by kernel_rfl) (fun _ _ _ h => h) (Or.inl ⟨by kernel_rfl, ?_⟩) (by assumption) ?_
          rotate_left
          · (intro w hSw; (try dsimp only at hSw); go_simp; try with_reducible rfl)
          try simp only [Act.put, List.getElem_toArray, List.getElem_cons_succ, List.getElem_cons_zero, List.setIfInBounds_toArray, List.set_cons_zero, List.set_cons_succ]
          refine wpAnyH_take (i := 6) (v := ?_) rfl (by kernel_rfl) (by kernel_rfl) (by kernel_rfl) (fun _ _ _ h => h) (Or.inl ⟨by kernel_rfl, ?_⟩) (by assumption) ?_
          rotate_left
          · (intro w hSw; (try dsimp only at hSw); go_simp; try with_reducible rfl)
          try simp only [Act.put, List.getElem_toArray, List.getElem_cons_succ, List.getElem_cons_zero, List.setIfInBounds_toArray, List.set_cons_zero, List.set_cons_succ]
          refine wpAnyH_take (i := 7) (v := ?_) rfl (by kernel_rfl) (by kernel_rfl) (by kernel_rfl) (fun _ _ _ h => h) (Or.inl ⟨by kernel_rfl, ?_⟩) (by assumption) ?_
          rotate_left
          · (intro w hSw; (try dsimp only at hSw); go_simp; try with_reducible rfl)
          try simp only [Act.put, List.getElem_toArray, List.getElem_cons_succ, List.getElem_cons_zero, List.setIfInBounds_toArray, List.set_cons_zero, List.set_cons_succ]
          refine wpAnyH_take (i := 9) (v := ?_) rfl (by kernel_rfl) (by kernel_rfl) (by kernel_rfl) (fun _ _ _ h => h) (Or.inl ⟨by kernel_rfl, ?_⟩) (by assumption) ?_
          rotate_left
          · (intro w hSw; (try dsimp only at hSw); go_simp; try with_reducible rfl)
          try simp only [Act.put, List.getElem_toArray, List.getElem_cons_succ, List.getElem_cons_zero, List.setIfInBounds_toArray, List.set_cons_zero, List.set_cons_succ]
          refine wpAnyH_take (i := 10) (v := ?_) rfl (by kernel_rfl) (by kernel_rfl) (by kernel_rfl) (fun _ _ _ h => h) (Or.inl ⟨by kernel_rfl, ?_⟩) (by assumption) ?_
          rotate_left
          · (intro w hSw; (try dsimp only at hSw); go_simp; try with_reducible rfl)
          try simp only [Act.put, List.getElem_toArray, List.getElem_cons_succ, List.getElem_cons_zero, List.setIfInBounds_toArray, List.set_cons_zero, List.set_cons_succ]
          refine wpAnyH_ready (rs := [8, 11]) (by kernel_rfl) (by simp) ?_
          refine AllReadyH.cons rfl (fun K hK => ?_) (AllReadyH.cons rfl (fun K hK => ?_) AllReadyH.nil)
          · go_simp
            refine hK.out _ _ (by exact MK.out _ (by first | exact ud | exact ua | exact ua3 | exact ua3.setCell _ (.inr rfl) _)) (fun hHeld => ?_)
            clear hK K
            try simp only [Act.put, List.getElem_toArray, List.getElem_cons_succ, List.getElem_cons_zero, List.setIfInBounds_toArray, List.set_cons_zero, List.set_cons_succ]
            refine wpAnyH_ready (rs := [11]) (by kernel_rfl) (by simp) ?_
            refine AllReadyH.cons rfl (fun K hK => ?_) AllReadyH.nil
            go_simp
            refine hK.out _ _ (by exact MK.out _ (by first | exact ud | exact ua | exact ua3 | exact ua3.setCell _ (.inr rfl) _)) (fun hHeld => ?_)
            clear hK K
            try simp only [Act.put, List.getElem_toArray, List.getElem_cons_succ, List.getElem_cons_zero, List.setIfInBounds_toArray, List.set_cons_zero, List.set_cons_succ]
            refine wpAnyH_ready (rs := [12]) (by kernel_rfl) (by simp) ?_
            refine AllReadyH.cons rfl (fun K hK => ?_) AllReadyH.nil
            refine step_app (by rfl) (.tmp 40) (.tmp 43) 29 (by rfl) w4.heap.size 32 i0 _ 2 16 Tryd.underlying29 hi0 hz0 hz1 hz2 rfl (by omega) (.slice Au sq.length ku) sq.length (catv seatC sq) _ (some ⟨wc.heap.size, 0, none⟩) 1 1 [.int .i64 sn, .int .u8 (sl.toNat : Int)] (by rfl) (by exact OA.out) (by rfl) (rd_block (heap_alloc_new wc.drew (.cells #[.int .i64 sn, .int .u8 (sl.toNat : Int)] 32)) rfl) (by simp [Value.oneCell']) (by omega) (by unfold maxLen; omega) (by exact ha.out) ?_
            intro u' w3 ho3 hu3 hat3
            obtain ⟨Ad, kd, rfl⟩ := own_shape ho3
            have ua3 : Upd (fun k => (Value.slice Au sq.length ku).ownBlock = some k ∨ k = g) wc w3 := ua.trans hu3 (fun k _ h => .inl h)
            have e3 := (hu3.block g (by simp; omega) HOFF.out).trans HGA.out
            have c3' : w3.cell? ⟨g, b0 * 4 + 3, none⟩ = some (.slice Au sq.length ku) := by rw [cell_of_row _ _ _ _ _ _ e3]; rw [← cell_of_row _ _ _ _ _ _ HGC.out]; exact HCU.out
            have f3' : w3.frozen? ⟨g, b0 * 4 + 3, none⟩ = false := frozen_of_row _ _ _ _ _ e3
            refine hK.out _ _ (by exact MK.out _ (by first | exact ud | exact ua | exact ua3 | exact ua3.setCell _ (.inr rfl) _)) (fun hHeld => ?_)
            clear hK K
            try simp only [Act.put, List.getElem_toArray, List.getElem_cons_succ, List.getElem_cons_zero, List.setIfInBounds_toArray, List.set_cons_zero, List.set_cons_succ]
            refine wpAnyH_ready (rs := [13]) (by kernel_rfl) (by simp) ?_
            refine AllReadyH.cons rfl (fun K hK => ?_) AllReadyH.nil
            go_simp
            refine hK.out _ _ (by exact MK.out _ (by first | exact ud | exact ua | exact ua3 | exact ua3.setCell _ (.inr rfl) _)) (fun hHeld => ?_)
            clear hK K
            try simp only [Act.put, List.getElem_toArray, List.getElem_cons_succ, List.getElem_cons_zero, List.setIfInBounds_toArray, List.set_cons_zero, List.set_cons_succ]
            refine wpAnyH_ready (rs := [14]) (by kernel_rfl) (by simp) ?_
            refine AllReadyH.cons rfl (fun K hK => ?_) AllReadyH.nil
            go_simp
            refine hK.out _ _ (by exact MK.out _ (by first | exact ud | exact ua | exact ua3 | exact ua3.setCell _ (.inr rfl) _)) (fun hHeld => ?_)
            clear hK K
            try simp only [Act.put, List.getElem_toArray, List.getElem_cons_succ, List.getElem_cons_zero, List.setIfInBounds_toArray, List.set_cons_zero, List.set_cons_succ]
            refine wpAnyH_ready (rs := [15]) (by kernel_rfl) (by simp) ?_
            refine AllReadyH.cons rfl (fun K hK => ?_) AllReadyH.nil
            go_simp
            refine hK.out _ _ (by exact MK.out _ (by first | exact ud | exact ua | exact ua3 | exact ua3.setCell _ (.inr rfl) _)) (fun hHeld => ?_)
            clear hK K
            try simp only [Act.put, List.getElem_toArray, List.getElem_cons_succ, List.getElem_cons_zero, List.setIfInBounds_toArray, List.set_cons_zero, List.set_cons_succ]
            refine wpAnyH_done (by kernel_rfl) ?_ _
            go_wp2_with fail
            have hup : Upd (fun k => (Value.slice Au sq.length ku).ownBlock = some k) wc w3 := ⟨hu3.os, hu3.tape, hu3.output, Nat.le_trans (by simp) hu3.size, fun k hk hn => (hu3.block k (by simp; omega) hn).trans (Below.heap_alloc wc.drew _ k hk)⟩
            have hat : RowAt wc (.slice Au sq.length ku) (.slice Ad (sq.length + 1) kd) := by
              rcases hat3 with h | ⟨k, hk, h⟩
              · exact .inl h
              · exact .inr ⟨k, by simp at hk; omega, h⟩
            have hP := hR2.out.push (s := ⟨sn, sl⟩) rfl hbN hvb (by rw [HSQ.out]; exact ho3) hup hat
            have HP := Lib.hid hP
            have HBP : Hid (Below w4.heap.size w4 (w3.setCell ⟨g, b0 * 4 + 3, none⟩ (.slice Ad (sq.length + 1) kd))) := Lib.hid (hB2.out.trans (((ua3.setCell ⟨g, b0 * 4 + 3, none⟩ (.inr rfl) (.slice Ad (sq.length + 1) kd))).below (fun k hk h => by
                rcases h with h | h
                · have := (HOU.out.lt k h).1; omega
                · omega) hB2.out.size))
            clear hP hup hat ho3 hu3 hat3 ua3 e3 c3' f3'
            go_roundw
            case rel => exact ⟨j + 1, vs'.set b0 (.slice Ad (sq.length + 1) kd), by omega, by go_num, Lib.hid (by rw [HTK.out]; exact HP.out), HBP⟩
            case measure => simp [intOf]; omega
          · go_simp
            refine hK.out _ _ (by exact MK.out _ (by first | exact ud | exact ua | exact ua3 | exact ua3.setCell _ (.inr rfl) _)) (fun hHeld => ?_)
            clear hK K
            try simp only [Act.put, List.getElem_toArray, List.getElem_cons_succ, List.getElem_cons_zero, List.setIfInBounds_toArray, List.set_cons_zero, List.set_cons_succ]
            refine wpAnyH_ready (rs := [8]) (by kernel_rfl) (by simp) ?_
            refine AllReadyH.cons rfl (fun K hK => ?_) AllReadyH.nil
            go_simp
            refine hK.out _ _ (by exact MK.out _ (by first | exact ud | exact ua | exact ua3 | exact ua3.setCell _ (.inr rfl) _)) (fun hHeld => ?_)
            clear hK K
            try simp only [Act.put, List.getElem_toArray, List.getElem_cons_succ, List.getElem_cons_zero, List.setIfInBounds_toArray, List.set_cons_zero, List.set_cons_succ]
            refine wpAnyH_ready (rs := [12]) (by kernel_rfl) (by simp) ?_
            refine AllReadyH.cons rfl (fun K hK => ?_) AllReadyH.nil
            refine step_app (by rfl) (.tmp 40) (.tmp 43) 29 (by rfl) w4.heap.size 32 i0 _ 2 16 Tryd.underlying29 hi0 hz0 hz1 hz2 rfl (by omega) (.slice Au sq.length ku) sq.length (catv seatC sq) _ (some ⟨wc.heap.size, 0, none⟩) 1 1 [.int .i64 sn, .int .u8 (sl.toNat : Int)] (by rfl) (by exact OA.out) (by rfl) (rd_block (heap_alloc_new wc.drew (.cells #[.int .i64 sn, .int .u8 (sl.toNat : Int)] 32)) rfl) (by simp [Value.oneCell']) (by omega) (by unfold maxLen; omega) (by exact ha.out) ?_
            intro u' w3 ho3 hu3 hat3
            obtain ⟨Ad, kd, rfl⟩ := own_shape ho3
            have ua3 : Upd (fun k => (Value.slice Au sq.length ku).ownBlock = some k ∨ k = g) wc w3 := ua.trans hu3 (fun k _ h => .inl h)
            have e3 := (hu3.block g (by simp; omega) HOFF.out).trans HGA.out
            have c3' : w3.cell? ⟨g, b0 * 4 + 3, none⟩ = some (.slice Au sq.length ku) := by rw [cell_of_row _ _ _ _ _ _ e3]; rw [← cell_of_row _ _ _ _ _ _ HGC.out]; exact HCU.out
            have f3' : w3.frozen? ⟨g, b0 * 4 + 3, none⟩ = false := frozen_of_row _ _ _ _ _ e3
            refine hK.out _ _ (by exact MK.out _ (by first | exact ud | exact ua | exact ua3 | exact ua3.setCell _ (.inr rfl) _)) (fun hHeld => ?_)
            clear hK K
            try simp only [Act.put, List.getElem_toArray, List.getElem_cons_succ, List.getElem_cons_zero, List.setIfInBounds_toArray, List.set_cons_zero, List.set_cons_succ]
            refine wpAnyH_ready (rs := [13]) (by kernel_rfl) (by simp) ?_
            refine AllReadyH.cons rfl (fun K hK => ?_) AllReadyH.nil
            go_simp
            refine hK.out _ _ (by exact MK.out _ (by first | exact ud | exact ua | exact ua3 | exact ua3.setCell _ (.inr rfl) _)) (fun hHeld => ?_)
            clear hK K
            try simp only [Act.put, List.getElem_toArray, List.getElem_cons_succ, List.getElem_cons_zero, List.setIfInBounds_toArray, List.set_cons_zero, List.set_cons_succ]
            refine wpAnyH_ready (rs := [14]) (by kernel_rfl) (by simp) ?_
            refine AllReadyH.cons rfl (fun K hK => ?_) AllReadyH.nil
            go_simp
            refine hK.out _ _ (by exact MK.out _ (by first | exact ud | exact ua | exact ua3 | exact ua3.setCell _ (.inr rfl) _)) (fun hHeld => ?_)
            clear hK K
            try simp only [Act.put, List.getElem_toArray, List.getElem_cons_succ, List.getElem_cons_zero, List.setIfInBounds_toArray, List.set_cons_zero, List.set_cons_succ]
            refine wpAnyH_ready (rs := [15]) (by kernel_rfl) (by simp) ?_
            refine AllReadyH.cons rfl (fun K hK => ?_) AllReadyH.nil
            go_simp
            refine hK.out _ _ (by exact MK.out _ (by first | exact ud | exact ua | exact ua3 | exact ua3.setCell _ (.inr rfl) _)) (fun hHeld => ?_)
            clear hK K
            try simp only [Act.put, List.getElem_toArray, List.getElem_cons_succ, List.getElem_cons_zero, List.setIfInBounds_toArray, List.set_cons_zero, List.set_cons_succ]
            refine wpAnyH_done (by kernel_rfl) ?_ _
            go_wp2_with fail
            have hup : Upd (fun k => (Value.slice Au sq.length ku).ownBlock = some k) wc w3 := ⟨hu3.os, hu3.tape, hu3.output, Nat.le_trans (by simp) hu3.size, fun k hk hn => (hu3.block k (by simp; omega) hn).trans (Below.heap_alloc wc.drew _ k hk)⟩
            have hat : RowAt wc (.slice Au sq.length ku) (.slice Ad (sq.length + 1) kd) := by
              rcases hat3 with h | ⟨k, hk, h⟩
              · exact .inl h
              · exact .inr ⟨k, by simp at hk; omega, h⟩
            have hP := hR2.out.push (s := ⟨sn, sl⟩) rfl hbN hvb (by rw [HSQ.out]; exact ho3) hup hat
            have HP := Lib.hid hP
            have HBP : Hid (Below w4.heap.size w4 (w3.setCell ⟨g, b0 * 4 + 3, none⟩ (.slice Ad (sq.length + 1) kd))) := Lib.hid (hB2.out.trans (((ua3.setCell ⟨g, b0 * 4 + 3, none⟩ (.inr rfl) (.slice Ad (sq.length + 1) kd))).below (fun k hk h => by
                rcases h with h | h
                · have := (HOU.out.lt k h).1; omega
                · omega) hB2.out.size))
            clear hP hup hat ho3 hu3 hat3 ua3 e3 c3' f3'
            go_roundw
            case rel => exact ⟨j + 1, vs'.set b0 (.slice Ad (sq.length + 1) kd), by omega, by go_num, Lib.hid (by rw [HTK.out]; exact HP.out), HBP⟩
            case measure => simp [intOf]; omega
    · have hlz : ¬ (j : Int) < (L.length : Int) := by omega
      have hRE := hR.out
      rw [List.take_of_length_le (by omega)] at hRE
      have HRE := Lib.hid (hRE.mono HB4.out.size)
      have HBE := Lib.hid (HB4.out.trans (hB.out.mono HB4.out.size))
      obtain ⟨A3, cq, rfl⟩ := own_shape hR.out.row
      clear hR hB hRE
      have HAN : Hid (BlkAns w L (.returned (.slice A3 (blocksOf (L.take j)).length cq)) wr) := Lib.hid ⟨_, vs, rfl, HRE.out, HBE.out⟩
      clear HRE HBE
      go_wp2
      go_ret
      exact HAN.out
end Go.Proofs.YtddiabpjmnmllaaDoor
