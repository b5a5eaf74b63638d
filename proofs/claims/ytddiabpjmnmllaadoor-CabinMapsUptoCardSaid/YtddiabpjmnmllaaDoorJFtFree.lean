/- Seating: All and Free, walked. -/
import Derived.Test.YtddiabpjmnmllaaDoorJFtNew
namespace Go.Proofs.YtddiabpjmnmllaaDoor
open Go.RowKit Go.Lib
open Go.Maps (Keyed)
theorem RoomAt.spared {w w' : World} {base p m1 m2 m3 n : Nat} {L : List MSpot} {B : List MSit} (h : RoomAt w base p m1 m2 m3 n L B) (hu : Upd (fun q => q = m2 ∨ q = m3) w w') {b : Nat} (hb : b ≤ base) (hB : b ≤ w.heap.size) : Below b w w' :=
  hu.below (fun k hk e => by have := h.b2; have := h.b3; omega) hB
set_option maxHeartbeats 8000000 in
set_option maxRecDepth 20000 in
theorem all_any (w : World) (m : Int) (A : Option Addr) (n c : Nat) (l : List MRow) (S : Option Addr) (k d : Nat) (q : List MSit) (hr : Rd w w.heap.size 5 A n (catv rowC l)) (hf : ∀ r ∈ l, r.fits) (hs : Rd w w.heap.size 5 S k (catv sitC q)) (hq : ∀ x ∈ q, x.seat.fits) (h40 : q.length ≤ 1099511627776) (hLib : LibAt w m) :
    Calls Tryd.prog 13 #[.slice A n c, .slice S k d] w fun e w' => e = .returned (.int .i64 (allE l q)) ∧ Below w.heap.size w w' := by
  have HR := Lib.hid hr
  have HF := Lib.hid hf
  have HS := Lib.hid hs
  have HQ := Lib.hid hq
  have HLib := Lib.hid hLib
  have HCK := Lib.hid (check_any w m A n c l hr hf hLib)
  obtain ⟨E, hE⟩ : ∃ E, allE l q = E := ⟨_, rfl⟩
  rw [hE]
  have HE := Lib.hid hE
  clear hr hf hs hq hLib hE
  go_enter Tryd.func13, Tryd.ntmps13
  go_wp2_with fail
  refine HCK.out.mono ?_
  rintro e w1 ⟨rfl, hb1⟩
  have HB1 := Lib.hid hb1
  clear hb1 HCK
  unfold errC
  cases hck : checkL l with
  | false =>
    have HE2 : Hid (E = 13) := Lib.hid (by rw [← HE.out]; unfold allE; rw [hck]; rfl)
    simp only [Bool.false_eq_true, if_false]
    go_wp2
    go_ret
    exact ⟨ret_int HE2.out.symm, HB1.out⟩
  | true =>
    have HE2 : Hid (E = sitE (spotsL l) [] q) := Lib.hid (by rw [← HE.out]; unfold allE; rw [hck]; rfl)
    simp only [if_true]
    have hr1 := (HR.out.below HB1.out).mono HB1.out.size
    have HN := Lib.hid (newRoom_any w1 m A n c l hr1 HF.out (HLib.out.below HB1.out))
    clear hr1
    go_wp2_with fail
    refine HN.out.mono ?_
    rintro e w2 ⟨rfl, hR, hb2⟩
    have hs2 : Rd w2 w1.heap.size 5 S k (catv sitC q) := ((HS.out.below HB1.out).mono HB1.out.size).below hb2
    have HM := Lib.hid (sit_any w2 w1.heap.size (w1.heap.size + 3) w1.heap.size (w1.heap.size + 1) (w1.heap.size + 2) 66 (spotsL l) [] S k d q hR hs2 HQ.out (by simpa using h40))
    have HB2 := Lib.hid (HB1.out.trans (hb2.mono HB1.out.size))
    have HRm := Lib.hid hR
    clear hR hb2 hs2 HN
    go_wp2_with fail
    refine HM.out.mono ?_
    rintro e w3 ⟨rfl, -, hu⟩
    have HB3 : Hid (Below w.heap.size w w3) := Lib.hid (HB2.out.trans (HRm.out.spared hu HB1.out.size HB2.out.size))
    clear hu HM
    go_wp2
    go_ret
    exact ⟨ret_int HE2.out.symm, HB3.out⟩
end Go.Proofs.YtddiabpjmnmllaaDoor
/- Seating: Free, walked. -/
namespace Go.Proofs.YtddiabpjmnmllaaDoor
open Go.RowKit Go.Lib
open Go.Maps (Keyed)
theorem seat_info : (Tryd.prog.info? 32).map (fun i => (i.zero, i.size, i.bytes)) = some (some (.agg #[.int .i64 0, .int .u8 0]), 2, 16) := by kernel_rfl
theorem freeL_len (l : List MRow) (x : MWho) (q : List MSit) : (freeL l x q).length ≤ 66 := by
  unfold freeL
  split
  · rw [List.length_map]
    exact Nat.le_trans (List.length_filter_le _ _) (spots_len l)
  · simp
theorem catv_snoc {α : Type} (f : α → List Value) (l : List α) (x : α) : catv f (l ++ [x]) = catv f l ++ f x := by rw [catv_append, catv_one]
set_option maxHeartbeats 8000000 in
set_option maxRecDepth 20000 in
theorem free_any (w : World) (m : Int) (A : Option Addr) (n c : Nat) (l : List MRow) (x : MWho) (S : Option Addr) (k d : Nat) (q : List MSit) (hr : Rd w w.heap.size 5 A n (catv rowC l)) (hf : ∀ r ∈ l, r.fits) (hs : Rd w w.heap.size 5 S k (catv sitC q)) (hq : ∀ x ∈ q, x.seat.fits) (h40 : q.length ≤ 1099511627776) (hLib : LibAt w m) :
    Calls Tryd.prog 14 #[.slice A n c, whoV x, .slice S k d] w fun e w' => ∃ v, e = .returned v ∧ w'.ownsRow w.heap.size 32 2 v (freeL l x q).length (catv seatC (freeL l x q)) ∧ Below w.heap.size w w' := by
  obtain ⟨i0, hi0, hz0, hz1, hz2⟩ := info_parts seat_info
  obtain ⟨xc, xf, xi⟩ := x
  have HF := Lib.hid hf
  have HQ := Lib.hid hq
  obtain ⟨F, hFF⟩ : ∃ F, freeL l ⟨xc, xf, xi⟩ q = F := ⟨_, rfl⟩
  have hF66 : F.length ≤ 66 := by rw [← hFF]; exact freeL_len _ _ _
  rw [hFF]
  have HFF := Lib.hid hFF
  obtain ⟨W, hW⟩ : ∃ W, W = w.alloc (.cells #[.int .i64 xc, .bool xf, .bool xi] 24) := ⟨_, rfl⟩
  have hbW : Below w.heap.size w W := by rw [hW]; exact (Below.refl _ w).alloc (Nat.le_refl _) _
  have bxW : W.heap[w.heap.size]? = some (.cells #[.int .i64 xc, .bool xf, .bool xi] 24 (0, 0)) := by rw [hW]; exact heap_alloc_new w _
  have HBW := Lib.hid hbW
  have HBX := Lib.hid bxW
  have HR := Lib.hid ((hr.below hbW).mono hbW.size)
  have HS := Lib.hid ((hs.below hbW).mono hbW.size)
  have HLib := Lib.hid (hLib.below hbW)
  have HN := Lib.hid (newRoom_any W m A n c l HR.out hf HLib.out)
  clear hr hf hs hq hLib hFF hbW bxW
  unfold whoV
  go_enter Tryd.func14, Tryd.ntmps14
  go_wp2_with fail
  rw [← hW]
  clear hW
  refine HN.out.mono ?_
  rintro e w1 ⟨rfl, hR, hb1⟩
  have HRm := Lib.hid hR
  have HB1 := Lib.hid hb1
  have hrr := (HR.out.below hb1).mono hb1.size
  have HCK := Lib.hid (check_any w1 m A n c l hrr HF.out (HLib.out.below hb1))
  clear hR hb1 HN hrr
  go_wp2_with fail
  refine HCK.out.mono ?_
  rintro e w2 ⟨rfl, hb2⟩
  have HB2 := Lib.hid hb2
  clear hb2 HCK
  unfold errC
  cases hck : checkL l with
  | false =>
    have HE2 : Hid (F = []) := Lib.hid (by rw [← HFF.out]; unfold freeL; rw [hck]; rfl)
    have HB3 : Hid (Below w.heap.size w w2) := Lib.hid (HBW.out.trans ((HB1.out.trans (HB2.out.mono HB1.out.size)).mono HBW.out.size))
    simp only [Bool.false_eq_true, if_false]
    go_wp2
    go_ret
    rw [HE2.out]
    exact ⟨_, rfl, World.ownsRow_nil _ _ _ _, HB3.out⟩
  | true =>
    simp only [if_true]
    have hb12 := HB1.out.trans (HB2.out.mono HB1.out.size)
    have hs2 : Rd w2 W.heap.size 5 S k (catv sitC q) := HS.out.below hb12
    have HM := Lib.hid (sit_any w2 W.heap.size (W.heap.size + 3) W.heap.size (W.heap.size + 1) (W.heap.size + 2) 66 (spotsL l) [] S k d q (HRm.out.below HB2.out) hs2 HQ.out (by simpa using h40))
    have HB12 := Lib.hid hb12
    obtain ⟨E, hE⟩ : ∃ E, sitE (spotsL l) [] q = E := ⟨_, rfl⟩
    rw [hE] at HM
    have HE := Lib.hid hE
    clear hb12 hs2 hE
    go_wp2_with fail
    refine HM.out.mono ?_
    rintro e w3 ⟨rfl, hR3, hu3⟩
    have HB13 : Hid (Below W.heap.size W w3) := Lib.hid (HB12.out.trans ((HRm.out.below HB2.out).spared hu3 (Nat.le_refl _) HB12.out.size))
    have HR3 := Lib.hid hR3
    clear HM hu3 hR3
    by_cases hE0 : E = 0
    · subst hE0
      have HF2 : Hid (F = ((spotsL l).filter (fun s => decide (mayE (spotsL l) q ⟨⟨xc, xf, xi⟩, s.seat⟩ = 0))).map (·.seat)) := Lib.hid (by rw [← HFF.out]; unfold freeL; rw [if_pos ⟨hck, HE.out⟩])
      have hrr := (HR.out.below HB13.out).mono HB13.out.size
      have HSP := Lib.hid (spots_any w3 m A n c l hrr HF.out (HLib.out.below HB13.out))
      have HRQ : Hid (RoomAt w3 W.heap.size (W.heap.size + 3) W.heap.size (W.heap.size + 1) (W.heap.size + 2) 66 (spotsL l) q) := Lib.hid (by simpa using HR3.out rfl)
      have HSN := Lib.hid (spots_distinct l)
      have hl66 := spots_len l
      obtain ⟨L, hL⟩ : ∃ L, spotsL l = L := ⟨_, rfl⟩
      rw [hL] at HF2 HSP HRQ HSN hl66
      clear hrr HR3 HE HFF hck hL HRm
      go_wp2_with fail
      refine HSP.out.mono ?_
      rintro e w4 ⟨v, rfl, ho, hb4⟩
      obtain ⟨A2, c2, rfl, hrd⟩ := own_rd ho
      have HA := Lib.hid hrd
      have HR4 := Lib.hid (HRQ.out.below hb4)
      have HB4 : Hid (Below W.heap.size W w4) := Lib.hid (HB13.out.trans (hb4.mono HB13.out.size))
      have HBX4 : Hid (w4.heap[w.heap.size]? = some (.cells #[.int .i64 xc, .bool xf, .bool xi] 24 (0, 0))) := Lib.hid ((HB4.out.block _ (Array.getElem?_eq_some_iff.1 HBX.out).1).trans HBX.out)
      have hw4 : w.heap.size < w4.heap.size := (Array.getElem?_eq_some_iff.1 HBX4.out).1
      clear ho hrd hb4 HRQ HSP
      go_wp2
      go_loopw [8, 25] (fun ov iv wx => ∃ (j : Nat) (O : List MSeat), j ≤ L.length ∧ iv = .int .i64 (j : Int) ∧ O.length ≤ j ∧ Hid (F = O ++ ((L.drop j).filter (fun s => decide (mayE L q ⟨⟨xc, xf, xi⟩, s.seat⟩ = 0))).map (·.seat)) ∧ Hid (wx.ownsRow w4.heap.size 32 2 ov O.length (catv seatC O)) ∧ Hid (Below w4.heap.size w4 wx)) (fun _ iv _ => L.length - (intOf iv).toNat)
      case atStart => exact ⟨0, [], Nat.zero_le _, rfl, Nat.le_refl _, Lib.hid (by simpa using HF2.out), Lib.hid (World.ownsRow_nil _ _ _ _), Lib.hid (Below.refl _ _)⟩
      case round =>
        obtain ⟨j, O, hj, rfl, hO, hG, hOw, hB⟩ := hrel
        by_cases hlt : j < L.length
        · obtain ⟨gb, off, rfl, hgb, hs, hcc⟩ := (HA.out.below hB.out).elem spotC_len (by decide) hlt
          have hG2 := hG.out
          rw [List.drop_eq_getElem_cons hs, List.filter_cons] at hG2
          have hsf := HSN.out.2 L[j] (List.getElem_mem hs)
          obtain ⟨s, hss⟩ : ∃ s, L[j] = s := ⟨_, rfl⟩
          rw [hss] at hcc hsf hG2
          obtain ⟨⟨sn, sl⟩, sc, sz, sb, se, sk⟩ := s
          have c0 := hcc 0 _ rfl
          have c1 := hcc 1 _ rfl
          have c2 := hcc 2 _ rfl
          have c3 := hcc 3 _ rfl
          have c4 := hcc 4 _ rfl
          have c5 := hcc 5 _ rfl
          have c6 := hcc 6 _ rfl
          rw [Nat.add_zero] at c0
          obtain ⟨V, hV⟩ : ∃ V, V = wr.alloc (.cells #[.int .i64 sn, .int .u8 (sl.toNat : Int), .int .i64 sc, .int .i64 sz, .int .i64 sb, .bool se, .bool sk] 35) := ⟨_, rfl⟩
          have hbV : Below wr.heap.size wr V := by rw [hV]; exact (Below.refl _ _).alloc (Nat.le_refl _) _
          have bV : V.heap[wr.heap.size]? = some (.cells #[.int .i64 sn, .int .u8 (sl.toNat : Int), .int .i64 sc, .int .i64 sz, .int .i64 sb, .bool se, .bool sk] 35 (0, 0)) := by rw [hV]; exact heap_alloc_new wr _
          have hbV4 : Below w4.heap.size w4 V := hB.out.trans (hbV.mono hB.out.size)
          have bx : wr.heap[w.heap.size]? = some (.cells #[.int .i64 xc, .bool xf, .bool xi] 24 (0, 0)) := (hB.out.block _ hw4).trans HBX4.out
          have z0 : wr.cell? ⟨w.heap.size, 0, none⟩ = some (.int .i64 xc) := by rw [cell_of_row _ _ 0 _ _ _ bx]; rfl
          have z1 : wr.cell? ⟨w.heap.size, 1, none⟩ = some (.bool xf) := by rw [cell_of_row _ _ 1 _ _ _ bx]; rfl
          have z2 : wr.cell? ⟨w.heap.size, 2, none⟩ = some (.bool xi) := by rw [cell_of_row _ _ 2 _ _ _ bx]; rfl
          have hM := may_any V W.heap.size (W.heap.size + 3) W.heap.size (W.heap.size + 1) (W.heap.size + 2) 66 L q ⟨⟨xc, xf, xi⟩, ⟨sn, sl⟩⟩ (HR4.out.below hbV4) (by unfold MSeat.fits; simp only at hsf ⊢; omega)
          obtain ⟨M, hMM⟩ : ∃ M, mayE L q ⟨⟨xc, xf, xi⟩, ⟨sn, sl⟩⟩ = M := ⟨_, rfl⟩
          simp only at hG2
          rw [hMM] at hM hG2
          unfold sitV at hM
          simp only at hM
          have HM := Lib.hid hM
          have HGG := Lib.hid hG2
          have HBV := Lib.hid hbV
          have HXV := Lib.hid bV
          have hwr : w.heap.size < wr.heap.size := Nat.lt_of_lt_of_le hw4 hB.out.size
          clear hcc hsf hG hG2 hMM hM hbV bV hbV4 bx hss
          go_wp2_with fail
          rw [← hV]
          clear hV c0 c1 c2 c3 c4 c5 c6 z0 z1 z2
          refine HM.out.mono ?_
          rintro e w6 ⟨rfl, hb6⟩
          have hb7 : Below wr.heap.size wr w6 := HBV.out.trans (hb6.mono HBV.out.size)
          have x6 := (hb6.block _ (Array.getElem?_eq_some_iff.1 HXV.out).1).trans HXV.out
          have y0 : w6.cell? ⟨wr.heap.size, 0, none⟩ = some (.int .i64 sn) := by rw [cell_of_row _ _ 0 _ _ _ x6]; rfl
          have y1 : w6.cell? ⟨wr.heap.size, 1, none⟩ = some (.int .u8 (sl.toNat : Int)) := by rw [cell_of_row _ _ 1 _ _ _ x6]; rfl
          have hO6 := own_below hOw.out hb7
          have hB6 : Below w4.heap.size w4 w6 := hB.out.trans (hb7.mono hB.out.size)
          have HO6 := Lib.hid hO6
          have HB6 := Lib.hid hB6
          have hs6 := hB6.size
          clear HM HBV HXV hb6 hb7 x6 hO6 hB6 hOw hB
          by_cases hM0 : M = 0
          · subst hM0
            have hG2 := HGG.out
            simp only [decide_true, if_true, List.map_cons] at hG2
            have HG3 : Hid (F = (O ++ [⟨sn, sl⟩]) ++ ((L.drop (j + 1)).filter (fun s => decide (mayE L q ⟨⟨xc, xf, xi⟩, s.seat⟩ = 0))).map (·.seat)) := Lib.hid (by rw [hG2]; simp)
            clear hG2 HGG
            go_wp2_with (at_builtin; refine wpList_append_new rfl (.tmp 36) (.tmp 39) 29 rfl w4.heap.size 32 i0 _ 2 16 Tryd.underlying29 hi0 hz0 hz1 hz2 rfl (by omega) _ O.length (catv seatC O) #[.int .i64 sn, .int .u8 (sl.toNat : Int)] rfl HO6.out rfl rfl (by simp [Value.oneCell']) (by omega) (by unfold maxLen; omega) hs6 ?_; intro v7 w7 ho7 hg7)
            have hu7 : Upd (fun g => u8.ownBlock = some g) w6 w7 := Upd.of_grown hg7
            have HO7 : Hid (w7.ownsRow w4.heap.size 32 2 v7 (O ++ [(⟨sn, sl⟩ : MSeat)]).length (catv seatC (O ++ [⟨sn, sl⟩]))) := Lib.hid (by rw [catv_snoc, List.length_append]; exact ho7)
            have HB7 : Hid (Below w4.heap.size w4 w7) := Lib.hid (HB6.out.trans (hu7.below (fun g hg e => by have := (HO6.out.lt g e).1; omega) hs6))
            clear ho7 hg7 hu7
            go_wp2
            go_roundw
            case rel => exact ⟨j + 1, O ++ [⟨sn, sl⟩], by omega, by go_num, by simp; omega, HG3, HO7, HB7⟩
            case measure => simp [intOf]; omega
          · have hG2 := HGG.out
            rw [decide_eq_false hM0] at hG2
            simp only [Bool.false_eq_true, if_false] at hG2
            have HG3 := Lib.hid hG2
            clear hG2 HGG
            go_wp2
            go_roundw
            case rel => exact ⟨j + 1, O, by omega, by go_num, by omega, HG3, HO6, HB6⟩
            case measure => simp [intOf]; omega
        · have hlz : ¬ (j : Int) < (L.length : Int) := by omega
          have hG2 := hG.out
          rw [List.drop_eq_nil_of_le (by omega)] at hG2
          simp only [List.filter_nil, List.map_nil, List.append_nil] at hG2
          have HG2 := Lib.hid hG2
          have HBE : Hid (Below w.heap.size w wr) := Lib.hid (HBW.out.trans ((HB4.out.trans (hB.out.mono HB4.out.size)).mono HBW.out.size))
          have hsz : w.heap.size ≤ w4.heap.size := Nat.le_of_lt hw4
          clear hG hG2
          go_wp2
          go_ret
          rw [HG2.out]
          exact ⟨_, rfl, own_mono hOw.out hsz, HBE.out⟩
    · have HE2 : Hid (F = []) := Lib.hid (by rw [← HFF.out]; unfold freeL; rw [if_neg (fun h => hE0 (HE.out.symm.trans h.2))])
      have HBE : Hid (Below w.heap.size w w3) := Lib.hid (HBW.out.trans (HB13.out.mono HBW.out.size))
      go_wp2
      go_ret
      rw [HE2.out]
      exact ⟨_, rfl, World.ownsRow_nil _ _ _ _, HBE.out⟩
end Go.Proofs.YtddiabpjmnmllaaDoor
