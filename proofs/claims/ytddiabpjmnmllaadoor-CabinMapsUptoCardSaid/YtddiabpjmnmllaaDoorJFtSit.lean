/- Seating: they sit down. -/
import Derived.Test.YtddiabpjmnmllaaDoorJFtRoom
import Derived.LoopNIn
namespace Go.Proofs.YtddiabpjmnmllaaDoor
open Go.RowKit Go.Lib
open Go.Maps (Keyed)
theorem RoomAt.look {w : World} {base p m1 m2 m3 n : Nat} {L : List MSpot} {B : List MSit} (h : RoomAt w base p m1 m2 m3 n L B) {q : MSeat} (hq : q.fits) :
    (Instr.lookup 95 (.map (some m1)) (.agg #[.int .i64 q.num, .int .u8 (q.ltr.toNat : Int)]) false).run Tryd.prog w = .ok (spotV (spotAt L q)) w := by
  obtain ⟨kl, hk⟩ := seatKey q hq
  exact VMap.look h.spots seatKeyed Tryd.underlying95 (zeroS w) hk
theorem SpMap.look {w : World} {m1 n : Nat} {L : List MSpot} (h : SpMap w m1 n L) {q : MSeat} (hq : q.fits) :
    (Instr.lookup 95 (.map (some m1)) (.agg #[.int .i64 q.num, .int .u8 (q.ltr.toNat : Int)]) false).run Tryd.prog w = .ok (spotV (spotAt L q)) w := by
  obtain ⟨kl, hk⟩ := seatKey q hq
  exact VMap.look h seatKeyed Tryd.underlying95 (zeroS w) hk
theorem TkMap.upd {S : Nat → Prop} {w w' : World} {m n : Nat} {B : List MSit} (h : TkMap w m n B) (hu : Upd S w w') (hs : ¬ S m) : TkMap w' m n B := by
  obtain ⟨s, h⟩ := h
  exact ⟨s, h.upd hu hs⟩
theorem InMap.upd {S : Nat → Prop} {w w' : World} {m n : Nat} {L : List MSpot} {B : List MSit} (h : InMap w m n L B) (hu : Upd S w w') (hs : ¬ S m) : InMap w' m n L B := by
  obtain ⟨s, h⟩ := h
  exact ⟨s, h.upd hu hs⟩
theorem mapBlock {w : World} {base p m1 m2 m3 n : Nat} {L : List MSpot} {B : List MSit} (h : RoomAt w base p m1 m2 m3 n L B) : p ≠ m1 ∧ p ≠ m2 ∧ p ≠ m3 ∧ p < w.heap.size ∧ m1 < w.heap.size ∧ m2 < w.heap.size ∧ m3 < w.heap.size := by
  obtain ⟨s2, t2⟩ := h.taken
  obtain ⟨s3, t3⟩ := h.infants
  obtain ⟨_, _, a1⟩ := VMap.isMap h.spots
  obtain ⟨_, _, a2⟩ := t2.isMap
  obtain ⟨_, _, a3⟩ := t3.isMap
  have hb := h.box
  refine ⟨?_, ?_, ?_, (Array.getElem?_eq_some_iff.1 hb).1, (Array.getElem?_eq_some_iff.1 a1).1, (Array.getElem?_eq_some_iff.1 a2).1, (Array.getElem?_eq_some_iff.1 a3).1⟩
  · rintro rfl; rw [a1] at hb; cases hb
  · rintro rfl; rw [a2] at hb; cases hb
  · rintro rfl; rw [a3] at hb; cases hb
/-- A seat is taken once more. -/
theorem RoomAt.take {w : World} {base p m1 m2 m3 n : Nat} {L : List MSpot} {B : List MSit} (h : RoomAt w base p m1 m2 m3 n L B) (x : MSit) (hq : x.seat.fits) (hB : B.length < 1099511627776) :
    ∃ (v0 : Value) (st : Int) (w1 w2 : World), (Instr.mapEntry 96 (.map (some m2)) (.agg #[.int .i64 x.seat.num, .int .u8 (x.seat.ltr.toNat : Int)])).run Tryd.prog w = .ok (.tuple #[v0, .int .i64 st]) w1 ∧
      (Instr.entryStore 96 (.map (some m2)) (.int .i64 st) (.int .i64 ((takenN B x.seat : Int) + 1))).run Tryd.prog w1 = .ok () w2 ∧ (Instr.lookup 96 (.map (some m2)) (.agg #[.int .i64 x.seat.num, .int .u8 (x.seat.ltr.toNat : Int)]) false).run Tryd.prog w1 = .ok (.int .i64 (takenN B x.seat : Nat)) w1 ∧ Upd (fun i => i = m2) w w2 ∧ TkMap w2 m2 (B ++ [x]).length (B ++ [x]) := by
  obtain ⟨kl, hk⟩ := seatKey x.seat hq
  obtain ⟨s2, t2⟩ := h.taken
  obtain ⟨v0, st, w1, w2, e1, e2, e3, _, u2, v2⟩ := t2.entry seatLaw seatInj Tryd.underlying96 zeroI (by unfold maxLen; omega) hk (.int .i64 ((takenN B x.seat : Int) + 1))
  refine ⟨v0, st, w1, w2, e1, e2, e3, u2, fun q => if q = x.seat then true else s2 q, ?_⟩
  have : (fun q => Value.int .i64 (takenN (B ++ [x]) q : Nat)) = fun q => if q = x.seat then Value.int .i64 ((takenN B x.seat : Int) + 1) else .int .i64 (takenN B q : Nat) := by
    funext q
    rw [takenN_snoc]
    by_cases hqx : q = x.seat
    · rw [if_pos hqx, if_pos hqx, hqx]; simp
    · rw [if_neg hqx, if_neg hqx]
  rw [this, List.length_append]
  exact v2
/-- An infant more. -/
theorem InMap.more {w : World} {m : Nat} {L : List MSpot} {B : List MSit} (h : InMap w m B.length L B) (x : MSit) (hx : x.who.inf = true) (hb : -9223372036854775808 ≤ blkOf L x.seat ∧ blkOf L x.seat ≤ 9223372036854775807) (hB : B.length < 1099511627776) :
    (Instr.lookup 97 (.map (some m)) (.int .i64 (blkOf L x.seat)) false).run Tryd.prog w = .ok (.int .i64 (infN L B (blkOf L x.seat) : Nat)) w ∧
    ∃ w2 : World, (Instr.mapUpdate 97 (.map (some m)) (.int .i64 (blkOf L x.seat)) (.int .i64 ((infN L B (blkOf L x.seat) : Int) + 1))).run Tryd.prog w = .ok () w2 ∧ Upd (fun i => i = m) w w2 ∧ InMap w2 m (B ++ [x]).length L (B ++ [x]) := by
  obtain ⟨s3, t3⟩ := h
  refine ⟨t3.look intKeyed Tryd.underlying97 (zeroI w) (intKey hb), ?_⟩
  obtain ⟨w2, e, v, u⟩ := t3.put intKeyed intKeyInj Tryd.underlying97 (by unfold maxLen; omega) (intKey hb) (.int .i64 ((infN L B (blkOf L x.seat) : Int) + 1))
  refine ⟨w2, e, u, fun q => if q = blkOf L x.seat then true else s3 q, ?_⟩
  have : (fun q => Value.int .i64 (infN L (B ++ [x]) q : Nat)) = fun q => if q = blkOf L x.seat then Value.int .i64 ((infN L B (blkOf L x.seat) : Int) + 1) else .int .i64 (infN L B q : Nat) := by
    funext q
    rw [infN_snoc]
    by_cases hq : q = blkOf L x.seat
    · rw [if_pos ⟨hx, hq⟩, if_pos hq, hq]; simp
    · rw [if_neg (fun h => hq h.2), if_neg hq]
  rw [this, List.length_append]
  exact v
theorem InMap.same {w : World} {m : Nat} {L : List MSpot} {B : List MSit} (h : InMap w m B.length L B) (x : MSit) (hx : x.who.inf = false) : InMap w m (B ++ [x]).length L (B ++ [x]) := by
  obtain ⟨s3, t3⟩ := h
  refine ⟨s3, ?_⟩
  have : (fun q => Value.int .i64 (infN L (B ++ [x]) q : Nat)) = fun q => Value.int .i64 (infN L B q : Nat) := by
    funext q
    rw [infN_snoc, if_neg (fun h => by rw [hx] at h; cases h.1)]
  rw [this]
  exact t3.mono (by simp)
theorem sitE_step (L : List MSpot) (B : List MSit) (x : MSit) (t : List MSit) : sitE L B (x :: t) = if mayE L B x ≠ 0 then mayE L B x else sitE L (B ++ [x]) t := rfl
set_option maxHeartbeats 8000000 in
set_option maxRecDepth 20000 in
theorem sit_any (w : World) (base p m1 m2 m3 k0 : Nat) (L : List MSpot) (B : List MSit) (A : Option Addr) (n c : Nat) (l : List MSit) (hR : RoomAt w base p m1 m2 m3 k0 L B) (hr : Rd w base 5 A n (catv sitC l)) (hf : ∀ x ∈ l, x.seat.fits) (hB : B.length + l.length ≤ 1099511627776) :
    Calls Tryd.prog 40 #[.pointer (some ⟨p, 0, none⟩), .slice A n c] w fun e w' => e = .returned (.int .i64 (sitE L B l)) ∧ (sitE L B l = 0 → RoomAt w' base p m1 m2 m3 k0 L (B ++ l)) ∧ Upd (fun q => q = m2 ∨ q = m3) w w' := by
  have HL := Lib.hid (rd_catlen sitC_len (by decide) hr)
  have HR := Lib.hid hR
  have HF := Lib.hid hf
  have HRD := Lib.hid hr
  obtain ⟨E, hE⟩ : ∃ E, sitE L B l = E := ⟨_, rfl⟩
  rw [hE]
  have HE := Lib.hid hE
  have hn40 : n ≤ 1099511627776 := by rw [HL.out]; omega
  clear hR hr hf hE
  go_enter Tryd.func40, Tryd.ntmps40
  go_wp2
  go_loopw [10] (fun iv wx => ∃ k : Nat, k ≤ n ∧ iv = .int .i64 (k : Int) ∧ Hid (RoomAt wx base p m1 m2 m3 k0 L (B ++ l.take k)) ∧ Hid (E = sitE L (B ++ l.take k) (l.drop k)) ∧ Hid (Upd (fun q => q = m2 ∨ q = m3) w wx)) (fun iv _ => n - (intOf iv).toNat)
  case atStart => exact ⟨0, Nat.zero_le _, rfl, Lib.hid (by simpa using HR.out), Lib.hid (by simpa using HE.out.symm), Lib.hid (Upd.refl _ _)⟩
  case round =>
    obtain ⟨k, hk, rfl, hRm, hG, hU⟩ := hrel
    by_cases hlt : k < n
    · have hbx : Below base w wr := hU.out.below (fun i hi e => by have := HR.out.b2; have := HR.out.b3; omega) (by have := mapBlock HR.out; have := HR.out.b2; omega)
      obtain ⟨gb, off, rfl, hgb, hs, hcc⟩ := (HRD.out.below hbx).elem sitC_len (by decide) hlt
      have hG2 := hG.out
      rw [List.drop_eq_getElem_cons hs, sitE_step] at hG2
      have hxf := HF.out l[k] (List.getElem_mem hs)
      have htk := List.take_succ_eq_append_getElem hs
      obtain ⟨x, hx⟩ : ∃ x, l[k] = x := ⟨_, rfl⟩
      rw [hx] at hcc hG2 hxf htk
      have c0 := hcc 0 _ rfl
      have c1 := hcc 1 _ rfl
      have c2 := hcc 2 _ rfl
      have c3 := hcc 3 _ rfl
      have c4 := hcc 4 _ rfl
      rw [Nat.add_zero] at c0
      obtain ⟨B', hB'⟩ : ∃ B', B ++ l.take k = B' := ⟨_, rfl⟩
      have hBk : B ++ l.take (k + 1) = B' ++ [x] := by rw [htk, ← hB', List.append_assoc]
      have hBl : B'.length < 1099511627776 := by rw [← hB']; simp; omega
      rw [hB'] at hG2 hRm
      have HGG := Lib.hid hG2
      have HBK := Lib.hid hBk
      have HXF := Lib.hid hxf
      obtain ⟨V, hV⟩ : ∃ V, V = wr.alloc (.cells #[.int .i64 x.who.cab, .bool x.who.fit, .bool x.who.inf, .int .i64 x.seat.num, .int .u8 (x.seat.ltr.toNat : Int)] 39) := ⟨_, rfl⟩
      have hmw := mapBlock hRm.out
      have hbV : Below wr.heap.size wr V := by rw [hV]; exact (Below.refl _ _).alloc (Nat.le_refl _) _
      have rV := hRm.out.below hbV
      have hM := may_any V base p m1 m2 m3 k0 L B' x rV hxf
      obtain ⟨M, hMM⟩ : ∃ M, mayE L B' x = M := ⟨_, rfl⟩
      rw [hMM] at hM
      unfold sitV at hM
      have HM := Lib.hid hM
      have HMM := Lib.hid hMM
      have hxV : V.heap[wr.heap.size]? = some (.cells #[.int .i64 x.who.cab, .bool x.who.fit, .bool x.who.inf, .int .i64 x.seat.num, .int .u8 (x.seat.ltr.toNat : Int)] 39 (0, 0)) := by rw [hV]; exact heap_alloc_new wr _
      have HXV := Lib.hid hxV
      have HBV := Lib.hid hbV
      have HRV := Lib.hid rV
      clear hG hG2 hcc hBk hxf htk hB' hMM hM hbV rV hxV hRm hx
      go_wp2_with fail
      rw [← hV]
      refine HM.out.mono ?_
      rintro e w2 ⟨rfl, hb2⟩
      have hb3 : Below wr.heap.size wr w2 := HBV.out.trans (hb2.mono HBV.out.size)
      have r2 := HRV.out.below hb2
      have x2 := (hb2.block _ (Array.getElem?_eq_some_iff.1 HXV.out).1).trans HXV.out
      have HU2 : Hid (Upd (fun q => q = m2 ∨ q = m3) w w2) := Lib.hid (hU.out.trans (S' := fun _ => False) (Upd.of_below hb3) (fun _ _ h => h.elim))
      have HG2 : Hid (E = if M ≠ 0 then M else sitE L (B' ++ [x]) (l.drop (k + 1))) := Lib.hid (by rw [HGG.out, HMM.out])
      clear HM hV HBV HRV HXV hU HGG HMM c0 c1 c2 c3 c4 hbx
      by_cases hM : M = 0
      · subst hM
        have HG3 : Hid (E = sitE L (B' ++ [x]) (l.drop (k + 1))) := Lib.hid (by rw [HG2.out]; simp)
        have HR2 := Lib.hid r2
        have HX2 := Lib.hid x2
        have mb := mapBlock r2
        have f2 : w2.cell? ⟨wr.heap.size, 2, none⟩ = some (.bool x.who.inf) := by rw [cell_of_row _ _ 2 _ _ _ x2]; rfl
        have f3 : w2.cell? ⟨wr.heap.size, 3, none⟩ = some (.int .i64 x.seat.num) := by rw [cell_of_row _ _ 3 _ _ _ x2]; rfl
        have f4 : w2.cell? ⟨wr.heap.size, 4, none⟩ = some (.int .u8 (x.seat.ltr.toNat : Int)) := by rw [cell_of_row _ _ 4 _ _ _ x2]; rfl
        have g1 : w2.cell? ⟨p, 1, none⟩ = some (.map (some m2)) := by rw [cell_of_row _ _ 1 _ _ _ r2.box]; rfl
        have bd : Below w2.heap.size w2 w2.drew := (Below.refl _ _).drew
        obtain ⟨-, k2, -⟩ := (r2.below bd).says HXF.out
        obtain ⟨v0, st, w3, w4, en, es, el, ut, tk⟩ := (r2.below bd).take x HXF.out hBl
        have htl := takenN_le B' x.seat
        have hwr : IntKind.i64.wrap ((takenN B' x.seat : Int) + 1) = (takenN B' x.seat : Int) + 1 := IntWalk.i64_in _ (by omega)
        clear HG2 r2 x2
        go_upto_region 7 with (fail)
        have u4 : Upd (fun i => i = m2) w2 w4 := (Upd.of_below (S := fun i => i = m2) bd).trans ut (fun _ _ e => e)
        have TK := Lib.hid tk
        have U4 := Lib.hid u4
        clear bd ut tk u4
        go_cut [] (fun wc => Hid (Upd (fun i => i = m2) w2 wc) ∧ Hid (TkMap wc m2 (B' ++ [x]).length (B' ++ [x])))
        case first =>
          go_big_region
          all_goals (go_wp2_with fail; go_meet; exact ⟨U4, TK⟩)
        case rest =>
          obtain ⟨hu4, htk4⟩ := hcut
          clear TK U4 en es el k2 hwr
          have hr2 := HR2.out
          have x4 := box_keep HX2.out hu4.out (by omega)
          have p4 := box_keep hr2.box hu4.out (by omega)
          have f6 : wc.cell? ⟨wr.heap.size, 2, none⟩ = some (.bool x.who.inf) := by rw [cell_of_row _ _ 2 _ _ _ x4]; rfl
          have f7 : wc.cell? ⟨wr.heap.size, 3, none⟩ = some (.int .i64 x.seat.num) := by rw [cell_of_row _ _ 3 _ _ _ x4]; rfl
          have f8 : wc.cell? ⟨wr.heap.size, 4, none⟩ = some (.int .u8 (x.seat.ltr.toNat : Int)) := by rw [cell_of_row _ _ 4 _ _ _ x4]; rfl
          have g0 : wc.cell? ⟨p, 0, none⟩ = some (.map (some m1)) := by rw [cell_of_row _ _ 0 _ _ _ p4]; rfl
          have g2 : wc.cell? ⟨p, 2, none⟩ = some (.map (some m3)) := by rw [cell_of_row _ _ 2 _ _ _ p4]; rfl
          have sp4 : SpMap wc m1 k0 L := hr2.spots.upd hu4.out hr2.n12
          have in4 : InMap wc m3 B'.length L B' := hr2.infants.upd hu4.out (fun e => hr2.n23 e.symm)
          have U4 : Hid (Upd (fun q => q = m2 ∨ q = m3) w wc) := Lib.hid (HU2.out.trans hu4.out (fun _ _ e => .inl e))
          have P4 := Lib.hid p4
          have SP4 := Lib.hid sp4
          have IN4 := Lib.hid in4
          clear f2 f3 f4 g1 x4 p4 sp4 in4 HX2
          obtain ⟨⟨xc, xf, xi⟩, xs⟩ := x
          simp only at *
          cases xi with
          | false =>
            have HN : Hid (RoomAt wc base p m1 m2 m3 k0 L (B' ++ [⟨⟨xc, xf, false⟩, xs⟩])) := Lib.hid ⟨hr2.b1, hr2.b2, hr2.b3, hr2.n12, hr2.n13, hr2.n23, P4.out, SP4.out, htk4.out, IN4.out.same _ rfl, hr2.blks⟩
            clear hr2
            go_wp2
            go_roundw
            case rel => exact ⟨k + 1, by omega, by go_num, by rw [HBK.out]; exact HN, by rw [HBK.out]; exact HG3, U4⟩
            case measure => simp [intOf]; omega
          | true =>
            have bd : Below wc.heap.size wc wc.drew := (Below.refl _ _).drew
            have lk := SpMap.look (VMap.upd (S := fun _ => False) SP4.out (Upd.of_below bd) id) HXF.out
            obtain ⟨li, w5, eu, u5, in5⟩ := (IN4.out.upd (S := fun _ => False) (Upd.of_below bd) id).more ⟨⟨xc, xf, true⟩, xs⟩ rfl (blkOf_fits hr2.blks xs) hBl
            simp only at li eu in5
            have HBL := Lib.hid (show blkOf L xs = (spotAt L xs).blk from rfl)
            have hil := infN_le L B' (blkOf L xs)
            obtain ⟨⟨⟨sn, sl⟩, sc, sz, sb, se, sk⟩, hS⟩ : ∃ S, spotAt L xs = S := ⟨_, rfl⟩
            have hbe : blkOf L xs = sb := by rw [HBL.out, hS]
            rw [hS] at lk
            unfold spotV at lk
            simp only at lk
            rw [hbe] at li eu hil
            have hwr2 : IntKind.i64.wrap ((infN L B' sb : Int) + 1) = (infN L B' sb : Int) + 1 := IntWalk.i64_in _ (by omega)
            have u6 : Upd (fun i => i = m3) wc w5 := (Upd.of_below (S := fun i => i = m3) bd).trans u5 (fun _ _ e => e)
            have HN : Hid (RoomAt w5 base p m1 m2 m3 k0 L (B' ++ [⟨⟨xc, xf, true⟩, xs⟩])) := Lib.hid ⟨hr2.b1, hr2.b2, hr2.b3, hr2.n12, hr2.n13, hr2.n23, box_keep P4.out u6 (by omega), SP4.out.upd u6 hr2.n13, htk4.out.upd u6 hr2.n23, in5, hr2.blks⟩
            have U6 : Hid (Upd (fun q => q = m2 ∨ q = m3) w w5) := Lib.hid (U4.out.trans u6 (fun _ _ e => .inr e))
            have hfd : (Instr.field 35 (.agg #[.int .i64 sn, .int .u8 (sl.toNat : Int), .int .i64 sc, .int .i64 sz, .int .i64 sb, .bool se, .bool sk]) 3).run Tryd.prog wc.drew = .ok (.int .i64 sb) wc.drew := by
              simp [Instr.field, run_underlying Tryd.underlying35, asAgg, part, Result.andThen]
            clear hr2 bd u5 u6 in5 hS hbe U4 P4 SP4 IN4 htk4
            go_wp2_with fail
            go_big_region
            all_goals (go_wp2; go_roundw)
            case rel => exact ⟨k + 1, by omega, by go_num, by rw [HBK.out]; exact HN, by rw [HBK.out]; exact HG3, U6⟩
            case measure => simp [intOf]; omega
      · have HF2 : Hid (E = M) := Lib.hid (by rw [HG2.out]; simp [hM])
        clear HG2 r2 x2
        go_wp2
        go_ret
        exact ⟨ret_int HF2.out.symm, fun h0 => absurd (HF2.out.symm.trans h0) hM, HU2.out⟩
    · have hlz : ¬ (k : Int) < (n : Int) := by omega
      have hG2 := hG.out
      rw [List.drop_eq_nil_of_le (by rw [← HL.out]; omega)] at hG2
      have hRe := hRm.out
      rw [List.take_of_length_le (by rw [← HL.out]; omega)] at hRe
      have HG2 := Lib.hid hG2
      have HRE := Lib.hid hRe
      clear hG hG2 hRm hRe
      go_wp2
      go_ret
      exact ⟨ret_int HG2.out.symm, fun _ => HRE.out, hU.out⟩
end Go.Proofs.YtddiabpjmnmllaaDoor
