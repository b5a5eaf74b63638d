/- Seekers: the board, walked. -/
import Derived.Test.YtppjpledjhinbaaDoorJRsBdP
import Derived.Test.YtppjpledjhinbaaDoorJRb1
import Derived.Test.YtppjpledjhinbaaDoorJCbRSp
namespace Go.Proofs.YtppjpledjhinbaaDoor
open Go.RowKit Go.Lib
set_option maxRecDepth 20000 in
theorem skr_info : (Tryd.prog.info? 92).map (fun i => (i.zero, i.size, i.bytes)) = some (some (.agg #[.int .i64 0, .bool false, .bool false, .int .i64 0, .int .u8 0, .bool false, .bool false, .int .i64 0, .int .i64 0]), 9, 56) := by kernel_rfl
def BoardAns (w : World) (l : List MRow) (rs : List MSit) (e : Ending) (w' : World) : Prop :=
  Below w.heap.size w w' ∧
  if errC l ≠ 0 then e = .returned (.tuple #[.pointer none, .int .i64 (errC l)])
  else if 20 < rs.length then e = .returned (.tuple #[.pointer none, .int .i64 26])
  else ∃ P v u vs, e = .returned (.tuple #[.pointer (some ⟨P, 0, none⟩), .int .i64 0]) ∧ PlaneAt w' w.heap.size P v u vs (blocksOf (spotsL l)) (boardK (spotsL l) [] rs)
theorem kinds_ne {W : World} {a b : Nat} {cs cs' : Array Value} {t t' : TypeId} (ha : W.heap[a]? = some (.cells cs t (0, 0))) (hb : W.heap[b]? = some (.cells cs' t' (0, 0))) (ht : t ≠ t') : a ≠ b := by
  rintro rfl
  rw [ha] at hb
  injection hb with hb
  injection hb with _ h2
  exact ht h2
/-- A box of a seeker is turned. -/
theorem BdSt.boxed {w0 W : World} {P M Y i : Nat} {v u val : Value} {vs : List Value} {B : List MBlk} {ks : List MSkr} {R : List MSit} {cs : Array Value} (h : BdSt w0 W P M v u vs B ks R) (hY : W.heap[Y]? = some (.cells cs 92 (0, 0))) (hu : u.ownBlock ≠ some Y) (hlo : w0.heap.size ≤ Y) : BdSt w0 (W.setCell ⟨Y, i, none⟩ val) P M v u vs B ks R := by
  have hs : Upd (fun k => k = Y) W (W.setCell ⟨Y, i, none⟩ val) := (Upd.refl (fun k => k = Y) W).setCell ⟨Y, i, none⟩ rfl val
  refine ⟨⟨box_keep h.plane.box hs (kinds_ne h.plane.box hY (by decide)), h.plane.lo, ⟨h.plane.blk.len, own_upd h.plane.blk.row hs (fun k e => ?_), fun j hj x hx => own_upd (h.plane.blk.own j hj x hx) hs (fun k e => ?_), h.plane.blk.apart, h.plane.blk.off⟩, own_upd h.plane.skr hs (fun k e e2 => hu (by rw [e, e2]))⟩, h.olds.upd hs (fun e => h.olds.not_cells hY e.symm), h.bel.trans (hs.below (fun k hk e => by omega) h.bel.size), h.lo⟩
  · obtain ⟨cs2, h2⟩ := own_typed h.plane.blk.row e
    exact kinds_ne h2 hY (by decide)
  · obtain ⟨cs2, h2⟩ := own_typed (h.plane.blk.own j hj x hx) e
    exact kinds_ne h2 hY (by decide)
/-- One seeker more. -/
theorem bd_more {w0 W w7 : World} {P M : Nat} {v u : Value} {vs : List Value} {B : List MBlk} {ks : List MSkr} {R : List MSit} {y : MSkr} {Ad : Option Addr} {kd : Nat} {cs : Array Value} {t : TypeId} (h : BdSt w0 W P M v u vs B ks R)
    (ho : w7.ownsRow w0.heap.size 92 9 (.slice Ad (ks.length + 1) kd) (ks.length + 1) (catv skrC ks ++ skrC y)) (hu : Upd (fun k => u.ownBlock = some k) (W.drew.alloc (.cells cs t)) w7) :
    BdSt w0 (w7.setCell ⟨P, 1, none⟩ (.slice Ad (ks.length + 1) kd)) P M v (.slice Ad (ks.length + 1) kd) vs B (ks ++ [y]) R := by
  have hA := h.below ((Below.refl W.heap.size W).drew.alloc (Nat.le_refl _) (.cells cs t))
  have hub' : ∀ k, u.ownBlock = some k → ∃ cs', (W.drew.alloc (.cells cs t)).heap[k]? = some (.cells cs' 92 (0, 0)) := fun k e => own_typed hA.plane.skr e
  have hP : u.ownBlock ≠ some P := fun e => by
    obtain ⟨cs2, h2⟩ := hub' _ e
    exact kinds_ne h2 hA.plane.box (by decide) rfl
  have b7 := box_keep hA.plane.box hu hP
  have hs : Upd (fun k => k = P) w7 (w7.setCell ⟨P, 1, none⟩ (.slice Ad (ks.length + 1) kd)) := (Upd.refl (fun k => k = P) w7).setCell ⟨P, 1, none⟩ rfl _
  have b8 := heap_setCell_same w7 P 1 _ _ (.slice Ad (ks.length + 1) kd) b7
  refine ⟨⟨by simpa using b8, h.plane.lo, ⟨h.plane.blk.len, ?_, fun j hj x hx => ?_, h.plane.blk.apart, h.plane.blk.off⟩, ?_⟩, ?_, ?_, h.lo⟩
  · have r7 := own_upd hA.plane.blk.row hu (fun k e e2 => by
      obtain ⟨c1, h1⟩ := own_typed hA.plane.blk.row e
      obtain ⟨c2, h2⟩ := hub' _ e2
      exact kinds_ne h1 h2 (by decide) rfl)
    exact own_upd r7 hs (fun k e => by
      obtain ⟨c1, h1⟩ := own_typed r7 e
      exact kinds_ne h1 b7 (by decide))
  · have r7 := own_upd (hA.plane.blk.own j hj x hx) hu (fun k e e2 => by
      obtain ⟨c1, h1⟩ := own_typed (hA.plane.blk.own j hj x hx) e
      obtain ⟨c2, h2⟩ := hub' _ e2
      exact kinds_ne h1 h2 (by decide) rfl)
    exact own_upd r7 hs (fun k e => by
      obtain ⟨c1, h1⟩ := own_typed r7 e
      exact kinds_ne h1 b7 (by decide))
  · rw [List.length_append, catv_append, catv_one]
    exact own_upd ho hs (fun k e => by
      obtain ⟨c1, h1⟩ := own_typed ho e
      exact kinds_ne h1 b7 (by decide))
  · have o7 := hA.olds.upd hu (fun e => by
      obtain ⟨c2, h2⟩ := hub' _ e
      exact hA.olds.not_cells h2 rfl)
    exact o7.upd hs (fun e => o7.not_cells b7 e.symm)
  · exact hA.bel.trans ((hu.below (fun k hk e => by have := (hA.plane.skr.lt k e).1; omega) hA.bel.size).trans (hs.below (fun k hk e => by have := h.plane.lo; omega) (Nat.le_trans hA.bel.size hu.size)))
def skrA (x : MSit) (o : Int) : Array Value := #[.int .i64 x.who.cab, .bool x.who.fit, .bool x.who.inf, .int .i64 x.seat.num, .int .u8 (x.seat.ltr.toNat : Int), .bool false, .bool false, .int .i64 (-1), .int .i64 o]
set_option maxHeartbeats 8000000 in
set_option maxRecDepth 20000 in
theorem board_any (w : World) (mm : Int) (A : Option Addr) (n c : Nat) (l : List MRow) (hr : Rd w w.heap.size 5 A n (catv rowC l)) (hf : ∀ r ∈ l, r.fits) (hLib : LibAt w mm) (A2 : Option Addr) (n2 c2 : Nat) (rs : List MSit) (hr2 : Rd w w.heap.size 5 A2 n2 (catv sitC rs)) (hf2 : ∀ x ∈ rs, x.seat.fits) (hn2 : n2 ≤ 1099511627776) :
    Calls Tryd.prog 31 #[.slice A n c, .slice A2 n2 c2] w (BoardAns w l rs) := by
  obtain ⟨i0, hi0, hz0, hz1, hz2⟩ := info_parts skr_info
  have HR := Lib.hid hr
  have HR2 := Lib.hid hr2
  have HF := Lib.hid hf
  have HF2 := Lib.hid hf2
  have HLB := Lib.hid hLib
  have HNL := Lib.hid (rd_catlen sitC_len (by decide) hr2)
  clear hr hr2 hf hf2 hLib
  obtain ⟨E, hE⟩ : ∃ E, errC l = E := ⟨_, rfl⟩
  have HCK := Lib.hid (check_any w mm A n c l HR.out HF.out HLB.out)
  rw [hE] at HCK
  have HE := Lib.hid hE
  clear hE
  go_enter Tryd.func31, Tryd.ntmps31
  go_wp2_with fail
  refine HCK.out.mono ?_
  rintro e w1 ⟨rfl, hb1⟩
  by_cases hE0 : E = 0
  · subst hE0
    by_cases hlt : 20 < n2
    · have hli : (20 : Int) < (n2 : Int) := by omega
      have HB1 := Lib.hid hb1
      clear hb1 HCK
      go_wp2
      go_ret2
      refine ⟨HB1.out, ?_⟩
      rw [if_neg (fun h => h HE.out), if_pos (by rw [← HNL.out]; exact hlt)]
      rfl
    · have hli : ¬ (20 : Int) < (n2 : Int) := by omega
      have hn20 : n2 ≤ 20 := by omega
      have HB1 := Lib.hid hb1
      have HBK := Lib.hid (blocks_any w1 mm A n c l ((HR.out.below hb1).mono hb1.size) HF.out (HLB.out.below hb1))
      clear hb1 HCK hlt
      go_wp2_with fail
      refine HBK.out.mono ?_
      rintro e w2 ⟨v, vs, rfl, hbk, hb2⟩
      have HBW2 := Lib.hid (HB1.out.trans (hb2.mono HB1.out.size))
      obtain ⟨Av, cv, rfl⟩ := own_shape hbk.row
      have hmm := @run_makeMap Tryd.prog
      have h0 : BdSt w ((w2.alloc (.cells #[.slice Av (blocksOf (spotsL l)).length cv, .slice none 0 0] 88)).alloc (.map #[] 0)) w2.heap.size (w2.heap.size + 1) (.slice Av (blocksOf (spotsL l)).length cv) (.slice none 0 0) vs (blocksOf (spotsL l)) [] [] := by
        have hbA := (Below.refl w2.heap.size w2).alloc (Nat.le_refl _) (.cells #[.slice Av (blocksOf (spotsL l)).length cv, .slice none 0 0] 88)
        have hbB := hbA.alloc hbA.size (.map #[] 0)
        refine ⟨⟨?_, HBW2.out.size, (hbk.mono HB1.out.size).below hbB, World.ownsRow_nil _ _ _ _⟩, ⟨fun _ => false, ?_⟩, HBW2.out.trans (hbB.mono HBW2.out.size), by have := HBW2.out.size; omega⟩
        · exact (Below.heap_alloc _ _ _ (by simp)).trans (heap_alloc_new w2 _)
        · have := VMap.made (P := Tryd.prog) (k := 26) (kv := seatV) (z := .int .i64 0) (w2.alloc (.cells #[.slice Av (blocksOf (spotsL l)).length cv, .slice none 0 0] 88))
          simpa [takenN] using this
      have H0 := Lib.hid h0
      clear h0 hbk hb2 HBK
      obtain ⟨B, hB⟩ : ∃ B, blocksOf (spotsL l) = B := ⟨_, rfl⟩
      obtain ⟨L, hL⟩ : ∃ L, spotsL l = L := ⟨_, rfl⟩
      have HBL := Lib.hid (And.intro hB hL)
      rw [hB] at H0 ⊢
      clear hB hL
      obtain ⟨P, hP⟩ : ∃ P, w2.heap.size = P := ⟨_, rfl⟩
      rw [hP] at H0
      go_wp2
      clear hP hmm
      go_loopw [29] (fun iv wx => ∃ (k : Nat) (u : Value), iv = .int .i64 (k : Int) ∧ k ≤ n2 ∧ Hid (BdSt w wx P (P + 1) (.slice Av B.length cv) u vs B (boardK L [] (rs.take k)) (rs.take k))) (fun iv _ => n2 - (intOf iv).toNat)
      case atStart => exact ⟨0, _, rfl, Nat.zero_le _, H0⟩
      case round =>
        obtain ⟨k, u, rfl, hk, hst⟩ := hrel
        clear H0
        by_cases hlt : k < n2
        · obtain ⟨gb, off, rfl, hgb, hs, hcc⟩ := (HR2.out.below hst.out.bel).elem sitC_len (by decide) hlt
          have hxf := HF2.out rs[k] (List.getElem_mem hs)
          have htk := List.take_succ_eq_append_getElem hs
          obtain ⟨x, hx⟩ : ∃ x, rs[k] = x := ⟨_, rfl⟩
          rw [hx] at hcc hxf htk
          have c0 := hcc 0 _ rfl
          have c1 := hcc 1 _ rfl
          have c2' := hcc 2 _ rfl
          have c3 := hcc 3 _ rfl
          have c4 := hcc 4 _ rfl
          rw [Nat.add_zero] at c0
          obtain ⟨R, hR⟩ : ∃ R, rs.take k = R := ⟨_, rfl⟩
          have hRl : R.length = k := by rw [← hR, List.length_take]; omega
          obtain ⟨ks, hks⟩ : ∃ ks, boardK L [] R = ks := ⟨_, rfl⟩
          have hksl : ks.length = k := by rw [← hks, boardK_len, hRl]
          have hnext : boardK L [] (rs.take (k + 1)) = ks ++ [⟨x, false, false, -1, ownOf L R x⟩] := by rw [htk, hR, boardK_snoc, hks]; rfl
          have htk2 : rs.take (k + 1) = R ++ [x] := by rw [htk, hR]
          rw [hR, hks] at hst
          have HXF := Lib.hid hxf
          have HNX := Lib.hid (And.intro hnext htk2)
          have HRL := Lib.hid (And.intro hRl hksl)
          obtain ⟨X, hX⟩ : ∃ X, wr.heap.size = X := ⟨_, rfl⟩
          obtain ⟨V, hV⟩ : ∃ V, (wr.alloc (.cells #[.int .i64 x.who.cab, .bool x.who.fit, .bool x.who.inf, .int .i64 x.seat.num, .int .u8 (x.seat.ltr.toNat : Int)] 30)).alloc (.cells (skrA x (-1)) 92) = V := ⟨_, rfl⟩
          have s1 : (wr.alloc (.cells #[.int .i64 x.who.cab, .bool x.who.fit, .bool x.who.inf, .int .i64 x.seat.num, .int .u8 (x.seat.ltr.toNat : Int)] 30)).heap.size = X + 1 := by simp [hX]
          have hbV : Below wr.heap.size wr V := by rw [← hV]; exact ((Below.refl _ _).alloc (Nat.le_refl _) _).alloc (by rw [s1]; omega) _
          have hsV := hst.out.below hbV
          have xV : V.heap[X]? = some (.cells #[.int .i64 x.who.cab, .bool x.who.fit, .bool x.who.inf, .int .i64 x.seat.num, .int .u8 (x.seat.ltr.toNat : Int)] 30 (0, 0)) := by
            rw [← hV]
            refine (Below.heap_alloc _ _ _ (by rw [s1]; omega)).trans ?_
            rw [← hX]
            exact heap_alloc_new wr _
          have yV : V.heap[X + 1]? = some (.cells (skrA x (-1)) 92 (0, 0)) := by
            rw [← hV, ← s1]
            exact heap_alloc_new _ _
          have HSV := Lib.hid hsV
          have HXV := Lib.hid xV
          have HYV := Lib.hid yV
          have HOX : Hid (∀ e, u.ownBlock = some e → e < X) := Lib.hid (fun e he => by rw [← hX]; exact (hst.out.plane.skr.lt e he).2)
          have hXlo : w.heap.size ≤ X := by rw [← hX]; exact hst.out.bel.size
          have hMX : P + 1 < X := by rw [← hX]; exact hst.out.olds.lt
          have bd : Below V.heap.size V V.drew := (Below.refl _ _).drew
          have hRlt : R.length < 1099511627776 := by omega
          have ho := (hsV.below bd).olds
          have k2 := ho.look HXF.out
          obtain ⟨v0, st, w3, w4, en, es, el, ut, tk⟩ := ho.more x HXF.out hRlt
          have htl := takenN_leS R x.seat
          have hwr : IntKind.i64.wrap ((takenN R x.seat : Int) + 1) = (takenN R x.seat : Int) + 1 := IntWalk.i64_in _ (by omega)
          have u4 : Upd (fun i => i = P + 1) V w4 := (Upd.of_below (S := fun i => i = P + 1) bd).trans ut (fun _ _ e => e)
          have TK := Lib.hid tk
          have U4 := Lib.hid u4
          have f3 : V.cell? ⟨X, 3, none⟩ = some (.int .i64 x.seat.num) := by rw [cell_of_row _ _ 3 _ _ _ xV]; rfl
          have f4 : V.cell? ⟨X, 4, none⟩ = some (.int .u8 (x.seat.ltr.toNat : Int)) := by rw [cell_of_row _ _ 4 _ _ _ xV]; rfl
          have hki : (k : Int) < (n2 : Int) := by omega
          have hk0 : (0 : Int) ≤ (k : Int) := by omega
          clear hcc hx hxf htk hR hks hRl hksl hnext htk2 hbV hsV xV yV bd ho ut tk u4 s1 hst
          unfold skrA at hV
          go_upto_region 12 with (fail)
          clear hV
          go_cut [] (fun wc => Hid (Upd (fun i => i = P + 1) V wc) ∧ Hid (TkMapS wc (P + 1) (R ++ [x]).length (R ++ [x])))
          case first =>
            go_big_region
            all_goals (go_wp2_with fail; go_meet; exact ⟨U4, TK⟩)
          case rest =>
            obtain ⟨hu4, htk4⟩ := hcut
            clear TK U4 en es el k2 hwr f3 f4
            have hPM : ¬ P = P + 1 := by omega
            have pl4 := HSV.out.plane.upd hu4.out hPM (fun k cs t f hk2 => HSV.out.olds.not_cells hk2)
            have st4 : BdSt w wc P (P + 1) (.slice Av B.length cv) u vs B ks (R ++ [x]) := ⟨pl4, htk4.out, HSV.out.bel.trans (hu4.out.below (fun i hi e => by have := HSV.out.lo; omega) HSV.out.bel.size), HSV.out.lo⟩
            have x4 := box_keep HXV.out hu4.out (by omega)
            have y4 := box_keep HYV.out hu4.out (by omega)
            have HS4 := Lib.hid st4
            have HX4 := Lib.hid x4
            have HY4 := Lib.hid y4
            have hF := find_any wc mm A n c l x.seat ((HR.out.below st4.bel).mono st4.bel.size) HF.out (HLB.out.below st4.bel)
            rw [HBL.out.2] at hF
            have HFN := Lib.hid hF
            obtain ⟨O, hO⟩ : ∃ O, ownOf L R x = O := ⟨_, rfl⟩
            rw [hO] at HNX
            have HO := Lib.hid hO
            clear HSV HXV HYV hu4 htk4 pl4 st4 hF hO y4
            have f3 : wc.cell? ⟨X, 3, none⟩ = some (.int .i64 x.seat.num) := by rw [cell_of_row _ _ 3 _ _ _ x4]; rfl
            have f4 : wc.cell? ⟨X, 4, none⟩ = some (.int .u8 (x.seat.ltr.toNat : Int)) := by rw [cell_of_row _ _ 4 _ _ _ x4]; rfl
            clear x4
            go_wp2_with fail
            refine HFN.out.mono ?_
            rintro e w5 ⟨rfl, hb5⟩
            obtain ⟨Sp, hSp⟩ : ∃ Sp, spotAt L x.seat = Sp := ⟨_, rfl⟩
            obtain ⟨ok, hok⟩ : ∃ ok, (findS L x.seat).isSome = ok := ⟨_, rfl⟩
            rw [hSp, hok]
            have HSO := Lib.hid (And.intro hSp hok)
            unfold spotV
            obtain ⟨WS, hWS⟩ : ∃ W, w5.alloc (.cells #[.int .i64 Sp.seat.num, .int .u8 (Sp.seat.ltr.toNat : Int), .int .i64 Sp.cab, .int .i64 Sp.zone, .int .i64 Sp.blk, .bool Sp.exit, .bool Sp.blocked] 105) = W := ⟨_, rfl⟩
            have hbS : Below wc.heap.size wc WS := by rw [← hWS]; exact hb5.alloc hb5.size _
            have HS5 := Lib.hid (HS4.out.below hbS)
            have HX5 := Lib.hid ((hbS.block _ (Array.getElem?_eq_some_iff.1 HX4.out).1).trans HX4.out)
            have HY5 := Lib.hid ((hbS.block _ (Array.getElem?_eq_some_iff.1 HY4.out).1).trans HY4.out)
            have hZS : WS.heap[w5.heap.size]? = some (.cells #[.int .i64 Sp.seat.num, .int .u8 (Sp.seat.ltr.toNat : Int), .int .i64 Sp.cab, .int .i64 Sp.zone, .int .i64 Sp.blk, .bool Sp.exit, .bool Sp.blocked] 105 (0, 0)) := by rw [← hWS]; exact heap_alloc_new w5 _
            clear f3 f4 HFN HS4 HX4 HY4 hSp hok hb5 hbS
            cases ok with
            | false =>
              have hO1 : O = -1 := by rw [← HO.out]; unfold ownOf; rw [if_neg (by rw [HSO.out.2]; simp)]
              rw [← hO1] at HY5
              go_upto_region 16 with (fail)
              obtain ⟨wq, hwq⟩ : ∃ W, WS = W := ⟨_, rfl⟩
              rw [hwq] at HS5 HY5 ⊢
              clear hWS hwq hZS HX5 hO1
              have hud : Upd (fun k => u.ownBlock = some k ∨ k = P) wq wq.drew := (Upd.refl _ wq).drewN 1
              have ud := hud
              have ua : Upd (fun k => u.ownBlock = some k ∨ k = P) wq (wq.drew.alloc (.cells (skrA x O) 92)) := hud.alloc _
              have hy5 := HY5.out
              have hbox := HS5.out.plane.box
              have hne : u.ownBlock ≠ some (X + 1) := fun e => by have := (HS5.out.plane.skr.lt _ e).2; have := HOX.out _ e; omega
              have MK : Hid (∀ U, Upd (fun k => u.ownBlock = some k ∨ k = P) wq U → (fun U => U.cell? ⟨X + 1, 0, none⟩ = some (.int .i64 x.who.cab) ∧ U.cell? ⟨X + 1, 1, none⟩ = some (.bool x.who.fit) ∧ U.cell? ⟨X + 1, 2, none⟩ = some (.bool x.who.inf) ∧ U.cell? ⟨X + 1, 3, none⟩ = some (.int .i64 x.seat.num) ∧ U.cell? ⟨X + 1, 4, none⟩ = some (.int .u8 (x.seat.ltr.toNat : Int)) ∧ U.cell? ⟨X + 1, 5, none⟩ = some (.bool false) ∧ U.cell? ⟨X + 1, 6, none⟩ = some (.bool false) ∧ U.cell? ⟨X + 1, 7, none⟩ = some (.int .i64 (-1)) ∧ U.cell? ⟨X + 1, 8, none⟩ = some (.int .i64 O)) U) := Lib.hid (fun U hU => by
                have h9 := box_keep hy5 hU (fun h => by rcases h with h | h; exact hne h; omega)
                refine ⟨?_, ?_, ?_, ?_, ?_, ?_, ?_, ?_, ?_⟩ <;> rw [cell_of_row _ _ _ _ _ _ h9] <;> rfl)
              have OA : Hid ((wq.drew.alloc (.cells (skrA x O) 92)).ownsRow w.heap.size 92 9 u ks.length (catv skrC ks)) := Lib.hid (own_below HS5.out.plane.skr ((Below.refl wq.heap.size wq).drew.alloc (Nat.le_refl _) _))
              have HAZ : Hid (w.heap.size ≤ (wq.drew.alloc (.cells (skrA x O) 92)).heap.size) := Lib.hid (by have := HS5.out.bel.size; simp; omega)
              have HPA : Hid ((wq.drew.alloc (.cells (skrA x O) 92)).heap[P]? = some (.cells #[.slice Av B.length cv, u] 88 (0, 0))) := Lib.hid (by
                rw [Below.heap_alloc wq.drew _ _ (show P < wq.drew.heap.size from HS5.out.plane.plt)]
                exact hbox)
              have HPB : Hid (u.ownBlock ≠ some P ∧ P < wq.heap.size ∧ True) := Lib.hid ⟨fun e => by
                obtain ⟨cs, h2⟩ := own_typed HS5.out.plane.skr e
                rw [hbox] at h2
                simp at h2, HS5.out.plane.plt, trivial⟩
              have p1 : wq.drew.cell? ⟨P, 1, none⟩ = some u := by rw [cell_of_row _ _ 1 _ _ _ (show wq.drew.heap[P]? = _ from hbox)]; rfl
              have p1a : (wq.drew.alloc (.cells (skrA x O) 92)).cell? ⟨P, 1, none⟩ = some u := by rw [cell_of_row _ _ 1 _ _ _ HPA.out]; rfl
              have p1b : (wq.alloc (.cells (skrA x O) 92)).cell? ⟨P, 1, none⟩ = some u := p1a
              unfold skrA at p1b
              have HNEW : Hid (∀ (Ad : Option Addr) (kd : Nat) (w7 : World), w7.ownsRow w.heap.size 92 9 (.slice Ad (ks.length + 1) kd) (ks.length + 1) (catv skrC ks ++ skrC ⟨x, false, false, -1, O⟩) → Upd (fun k => u.ownBlock = some k) (wq.drew.alloc (.cells (skrA x O) 92)) w7 → RowAt (wq.drew.alloc (.cells (skrA x O) 92)) u (.slice Ad (ks.length + 1) kd) → BdSt w (w7.setCell ⟨P, 1, none⟩ (.slice Ad (ks.length + 1) kd)) P (P + 1) (.slice Av B.length cv) (.slice Ad (ks.length + 1) kd) vs B (ks ++ [⟨x, false, false, -1, O⟩]) (R ++ [x])) := Lib.hid (fun Ad kd w7 ho hu2 hat => bd_more HS5.out ho hu2)
              clear hbox hy5 hne
              refine wp_region_held_drew (S := (fun U => U.cell? ⟨X + 1, 0, none⟩ = some (.int .i64 x.who.cab) ∧ U.cell? ⟨X + 1, 1, none⟩ = some (.bool x.who.fit) ∧ U.cell? ⟨X + 1, 2, none⟩ = some (.bool x.who.inf) ∧ U.cell? ⟨X + 1, 3, none⟩ = some (.int .i64 x.seat.num) ∧ U.cell? ⟨X + 1, 4, none⟩ = some (.int .u8 (x.seat.ltr.toNat : Int)) ∧ U.cell? ⟨X + 1, 5, none⟩ = some (.bool false) ∧ U.cell? ⟨X + 1, 6, none⟩ = some (.bool false) ∧ U.cell? ⟨X + 1, 7, none⟩ = some (.int .i64 (-1)) ∧ U.cell? ⟨X + 1, 8, none⟩ = some (.int .i64 O))) (by kernel_rfl) (by exact MK.out _ ud) (fun hHeld => ?_)
              refine wpAnyH_take (i := 0) (v := ?_) rfl (by kernel_rfl) (by kernel_rfl) (by kernel_rfl) (fun _ _ _ h => h) (Or.inl ⟨by kernel_rfl, ?_⟩) (by assumption) ?_
              rotate_left
              · (intro w hSw; (try dsimp only at hSw); go_simp; try with_reducible rfl)
              try simp only [Act.put, List.getElem_toArray, List.getElem_cons_succ, List.getElem_cons_zero, List.setIfInBounds_toArray, List.set_cons_zero, List.set_cons_succ]
              refine wpAnyH_take (i := 1) (v := ?_) rfl (by kernel_rfl) (by kernel_rfl) (by kernel_rfl) (fun _ _ _ h => h) (Or.inl ⟨by kernel_rfl, ?_⟩) (by assumption) ?_
              rotate_left
              · (intro w hSw; (try dsimp only at hSw); go_simp; try with_reducible rfl)
              try simp only [Act.put, List.getElem_toArray, List.getElem_cons_succ, List.getElem_cons_zero, List.setIfInBounds_toArray, List.set_cons_zero, List.set_cons_succ]
              refine wpAnyH_take (i := 2) (v := ?_) rfl (by kernel_rfl) (by kernel_rfl) (by kernel_rfl) (fun _ _ _ h => h) (Or.inl ⟨by kernel_rfl, ?_⟩) (by assumption) ?_
              rotate_left
              · (intro w hSw; (try dsimp only at hSw); go_simp; try with_reducible rfl)
              try simp only [Act.put, List.getElem_toArray, List.getElem_cons_succ, List.getElem_cons_zero, List.setIfInBounds_toArray, List.set_cons_zero, List.set_cons_succ]
              refine wpAnyH_take (i := 3) (v := ?_) rfl (by kernel_rfl) (by kernel_rfl) (by kernel_rfl) (fun _ _ _ h => h) (Or.inl ⟨by kernel_rfl, ?_⟩) (by assumption) ?_
              rotate_left
              · (intro w hSw; (try dsimp only at hSw); go_simp; try with_reducible rfl)
              try simp only [Act.put, List.getElem_toArray, List.getElem_cons_succ, List.getElem_cons_zero, List.setIfInBounds_toArray, List.set_cons_zero, List.set_cons_succ]
              refine wpAnyH_take (i := 5) (v := ?_) rfl (by kernel_rfl) (by kernel_rfl) (by kernel_rfl) (fun _ _ _ h => h) (Or.inl ⟨by kernel_rfl, ?_⟩) (by assumption) ?_
              rotate_left
              · (intro w hSw; (try dsimp only at hSw); go_simp; try with_reducible rfl)
              try simp only [Act.put, List.getElem_toArray, List.getElem_cons_succ, List.getElem_cons_zero, List.setIfInBounds_toArray, List.set_cons_zero, List.set_cons_succ]
              refine wpAnyH_ready (rs := [4, 6]) (by kernel_rfl) (by simp) ?_
              refine AllReadyH.cons rfl (fun K hK => ?_) (AllReadyH.cons rfl (fun K hK => ?_) AllReadyH.nil)
              · go_simp
                refine hK.out _ _ (by exact MK.out _ (by first | exact ud | exact ua | exact ua3 | exact ua3.setCell _ (.inr rfl) _)) (fun hHeld => ?_)
                clear hK K
                try simp only [Act.put, List.getElem_toArray, List.getElem_cons_succ, List.getElem_cons_zero, List.setIfInBounds_toArray, List.set_cons_zero, List.set_cons_succ]
                refine wpAnyH_ready (rs := [6]) (by kernel_rfl) (by simp) ?_
                refine AllReadyH.cons rfl (fun K hK => ?_) AllReadyH.nil
                go_simp
                refine hK.out _ _ (by exact MK.out _ (by first | exact ud | exact ua | exact ua3 | exact ua3.setCell _ (.inr rfl) _)) (fun hHeld => ?_)
                clear hK K
                try simp only [Act.put, List.getElem_toArray, List.getElem_cons_succ, List.getElem_cons_zero, List.setIfInBounds_toArray, List.set_cons_zero, List.set_cons_succ]
                refine wpAnyH_ready (rs := [7]) (by kernel_rfl) (by simp) ?_
                refine AllReadyH.cons rfl (fun K hK => ?_) AllReadyH.nil
                refine step_app (by rfl) (.tmp 72) (.tmp 74) 86 (by rfl) w.heap.size 92 i0 _ 9 56 Tryd.underlying86 hi0 hz0 hz1 hz2 rfl (by omega) u ks.length (catv skrC ks) _ (some ⟨wq.heap.size, 0, none⟩) 1 1 (skrC ⟨x, false, false, -1, O⟩) (by rfl) (by exact OA.out) (by rfl) (rd_block (heap_alloc_new wq.drew (.cells (skrA x O) 92)) rfl) (skrC_cell _) (by have := HRL.out.2; omega) (by have := HRL.out.2; unfold maxLen; omega) (by exact HAZ.out) ?_
                intro u' w7 ho7 hu7 hat7
                obtain ⟨Ad, kd, rfl⟩ := own_shape ho7
                have ua3 : Upd (fun k => u.ownBlock = some k ∨ k = P) wq w7 := ua.trans hu7 (fun k _ h => .inl h)
                have e7 := (hu7.block P (by have := HPB.out.2.1; simp; omega) HPB.out.1).trans HPA.out
                have p1' : w7.cell? ⟨P, 1, none⟩ = some u := by rw [cell_of_row _ _ 1 _ _ _ e7]; rfl
                have f1' : w7.frozen? ⟨P, 1, none⟩ = false := frozen_of_row _ _ _ _ _ e7
                refine hK.out _ _ (by exact MK.out _ (by first | exact ud | exact ua | exact ua3 | exact ua3.setCell _ (.inr rfl) _)) (fun hHeld => ?_)
                clear hK K
                try simp only [Act.put, List.getElem_toArray, List.getElem_cons_succ, List.getElem_cons_zero, List.setIfInBounds_toArray, List.set_cons_zero, List.set_cons_succ]
                refine wpAnyH_ready (rs := [8]) (by kernel_rfl) (by simp) ?_
                refine AllReadyH.cons rfl (fun K hK => ?_) AllReadyH.nil
                go_simp
                refine hK.out _ _ (by exact MK.out _ (by first | exact ud | exact ua | exact ua3 | exact ua3.setCell _ (.inr rfl) _)) (fun hHeld => ?_)
                clear hK K
                try simp only [Act.put, List.getElem_toArray, List.getElem_cons_succ, List.getElem_cons_zero, List.setIfInBounds_toArray, List.set_cons_zero, List.set_cons_succ]
                refine wpAnyH_ready (rs := [9]) (by kernel_rfl) (by simp) ?_
                refine AllReadyH.cons rfl (fun K hK => ?_) AllReadyH.nil
                go_simp
                refine hK.out _ _ (by exact MK.out _ (by first | exact ud | exact ua | exact ua3 | exact ua3.setCell _ (.inr rfl) _)) (fun hHeld => ?_)
                clear hK K
                try simp only [Act.put, List.getElem_toArray, List.getElem_cons_succ, List.getElem_cons_zero, List.setIfInBounds_toArray, List.set_cons_zero, List.set_cons_succ]
                refine wpAnyH_ready (rs := [10]) (by kernel_rfl) (by simp) ?_
                refine AllReadyH.cons rfl (fun K hK => ?_) AllReadyH.nil
                go_simp
                refine hK.out _ _ (by exact MK.out _ (by first | exact ud | exact ua | exact ua3 | exact ua3.setCell _ (.inr rfl) _)) (fun hHeld => ?_)
                clear hK K
                try simp only [Act.put, List.getElem_toArray, List.getElem_cons_succ, List.getElem_cons_zero, List.setIfInBounds_toArray, List.set_cons_zero, List.set_cons_succ]
                refine wpAnyH_done (by kernel_rfl) ?_ _
                have HN7 : Hid (BdSt w (w7.setCell ⟨P, 1, none⟩ (.slice Ad (ks.length + 1) kd)) P (P + 1) (.slice Av B.length cv) (.slice Ad (ks.length + 1) kd) vs B (boardK L [] (rs.take (k + 1))) (rs.take (k + 1))) := Lib.hid (by
                  rw [HNX.out.1, HNX.out.2]
                  exact HNEW.out Ad kd w7 ho7 hu7 hat7)
                clear ho7 hu7 hat7 e7 ua3 hHeld
                go_wp2
                go_roundw
                case rel => exact ⟨k + 1, _, by go_num, hlt, HN7⟩
                case measure => simp [intOf]; omega
              · go_simp
                refine hK.out _ _ (by exact MK.out _ (by first | exact ud | exact ua | exact ua3 | exact ua3.setCell _ (.inr rfl) _)) (fun hHeld => ?_)
                clear hK K
                try simp only [Act.put, List.getElem_toArray, List.getElem_cons_succ, List.getElem_cons_zero, List.setIfInBounds_toArray, List.set_cons_zero, List.set_cons_succ]
                refine wpAnyH_ready (rs := [4]) (by kernel_rfl) (by simp) ?_
                refine AllReadyH.cons rfl (fun K hK => ?_) AllReadyH.nil
                go_simp
                refine hK.out _ _ (by exact MK.out _ (by first | exact ud | exact ua | exact ua3 | exact ua3.setCell _ (.inr rfl) _)) (fun hHeld => ?_)
                clear hK K
                try simp only [Act.put, List.getElem_toArray, List.getElem_cons_succ, List.getElem_cons_zero, List.setIfInBounds_toArray, List.set_cons_zero, List.set_cons_succ]
                refine wpAnyH_ready (rs := [7]) (by kernel_rfl) (by simp) ?_
                refine AllReadyH.cons rfl (fun K hK => ?_) AllReadyH.nil
                refine step_app (by rfl) (.tmp 72) (.tmp 74) 86 (by rfl) w.heap.size 92 i0 _ 9 56 Tryd.underlying86 hi0 hz0 hz1 hz2 rfl (by omega) u ks.length (catv skrC ks) _ (some ⟨wq.heap.size, 0, none⟩) 1 1 (skrC ⟨x, false, false, -1, O⟩) (by rfl) (by exact OA.out) (by rfl) (rd_block (heap_alloc_new wq.drew (.cells (skrA x O) 92)) rfl) (skrC_cell _) (by have := HRL.out.2; omega) (by have := HRL.out.2; unfold maxLen; omega) (by exact HAZ.out) ?_
                intro u' w7 ho7 hu7 hat7
                obtain ⟨Ad, kd, rfl⟩ := own_shape ho7
                have ua3 : Upd (fun k => u.ownBlock = some k ∨ k = P) wq w7 := ua.trans hu7 (fun k _ h => .inl h)
                have e7 := (hu7.block P (by have := HPB.out.2.1; simp; omega) HPB.out.1).trans HPA.out
                have p1' : w7.cell? ⟨P, 1, none⟩ = some u := by rw [cell_of_row _ _ 1 _ _ _ e7]; rfl
                have f1' : w7.frozen? ⟨P, 1, none⟩ = false := frozen_of_row _ _ _ _ _ e7
                refine hK.out _ _ (by exact MK.out _ (by first | exact ud | exact ua | exact ua3 | exact ua3.setCell _ (.inr rfl) _)) (fun hHeld => ?_)
                clear hK K
                try simp only [Act.put, List.getElem_toArray, List.getElem_cons_succ, List.getElem_cons_zero, List.setIfInBounds_toArray, List.set_cons_zero, List.set_cons_succ]
                refine wpAnyH_ready (rs := [8]) (by kernel_rfl) (by simp) ?_
                refine AllReadyH.cons rfl (fun K hK => ?_) AllReadyH.nil
                go_simp
                refine hK.out _ _ (by exact MK.out _ (by first | exact ud | exact ua | exact ua3 | exact ua3.setCell _ (.inr rfl) _)) (fun hHeld => ?_)
                clear hK K
                try simp only [Act.put, List.getElem_toArray, List.getElem_cons_succ, List.getElem_cons_zero, List.setIfInBounds_toArray, List.set_cons_zero, List.set_cons_succ]
                refine wpAnyH_ready (rs := [9]) (by kernel_rfl) (by simp) ?_
                refine AllReadyH.cons rfl (fun K hK => ?_) AllReadyH.nil
                go_simp
                refine hK.out _ _ (by exact MK.out _ (by first | exact ud | exact ua | exact ua3 | exact ua3.setCell _ (.inr rfl) _)) (fun hHeld => ?_)
                clear hK K
                try simp only [Act.put, List.getElem_toArray, List.getElem_cons_succ, List.getElem_cons_zero, List.setIfInBounds_toArray, List.set_cons_zero, List.set_cons_succ]
                refine wpAnyH_ready (rs := [10]) (by kernel_rfl) (by simp) ?_
                refine AllReadyH.cons rfl (fun K hK => ?_) AllReadyH.nil
                go_simp
                refine hK.out _ _ (by exact MK.out _ (by first | exact ud | exact ua | exact ua3 | exact ua3.setCell _ (.inr rfl) _)) (fun hHeld => ?_)
                clear hK K
                try simp only [Act.put, List.getElem_toArray, List.getElem_cons_succ, List.getElem_cons_zero, List.setIfInBounds_toArray, List.set_cons_zero, List.set_cons_succ]
                refine wpAnyH_done (by kernel_rfl) ?_ _
                have HN7 : Hid (BdSt w (w7.setCell ⟨P, 1, none⟩ (.slice Ad (ks.length + 1) kd)) P (P + 1) (.slice Av B.length cv) (.slice Ad (ks.length + 1) kd) vs B (boardK L [] (rs.take (k + 1))) (rs.take (k + 1))) := Lib.hid (by
                  rw [HNX.out.1, HNX.out.2]
                  exact HNEW.out Ad kd w7 ho7 hu7 hat7)
                clear ho7 hu7 hat7 e7 ua3 hHeld
                go_wp2
                go_roundw
                case rel => exact ⟨k + 1, _, by go_num, hlt, HN7⟩
                case measure => simp [intOf]; omega
            | true =>
              have el := HS5.out.olds.look HXF.out
              rw [takenN_snoc, if_pos rfl] at el
              obtain ⟨tn, htn⟩ : ∃ tn, takenN R x.seat = tn := ⟨_, rfl⟩
              rw [htn] at el
              have hx5 := HX5.out
              have f0 : WS.cell? ⟨X, 0, none⟩ = some (.int .i64 x.who.cab) := by rw [cell_of_row _ _ 0 _ _ _ hx5]; rfl
              have f1 : WS.cell? ⟨X, 1, none⟩ = some (.bool x.who.fit) := by rw [cell_of_row _ _ 1 _ _ _ hx5]; rfl
              have f2 : WS.cell? ⟨X, 2, none⟩ = some (.bool x.who.inf) := by rw [cell_of_row _ _ 2 _ _ _ hx5]; rfl
              have f3 : WS.cell? ⟨X, 3, none⟩ = some (.int .i64 x.seat.num) := by rw [cell_of_row _ _ 3 _ _ _ hx5]; rfl
              have f4 : WS.cell? ⟨X, 4, none⟩ = some (.int .u8 (x.seat.ltr.toNat : Int)) := by rw [cell_of_row _ _ 4 _ _ _ hx5]; rfl
              clear hx5
              by_cases ht0 : tn = 0
              · subst ht0
                have z0 : WS.cell? ⟨w5.heap.size, 0, none⟩ = some (.int .i64 Sp.seat.num) := by rw [cell_of_row _ _ 0 _ _ _ hZS]; rfl
                have z1 : WS.cell? ⟨w5.heap.size, 1, none⟩ = some (.int .u8 (Sp.seat.ltr.toNat : Int)) := by rw [cell_of_row _ _ 1 _ _ _ hZS]; rfl
                have z2 : WS.cell? ⟨w5.heap.size, 2, none⟩ = some (.int .i64 Sp.cab) := by rw [cell_of_row _ _ 2 _ _ _ hZS]; rfl
                have z3 : WS.cell? ⟨w5.heap.size, 3, none⟩ = some (.int .i64 Sp.zone) := by rw [cell_of_row _ _ 3 _ _ _ hZS]; rfl
                have z4 : WS.cell? ⟨w5.heap.size, 4, none⟩ = some (.int .i64 Sp.blk) := by rw [cell_of_row _ _ 4 _ _ _ hZS]; rfl
                have z5 : WS.cell? ⟨w5.heap.size, 5, none⟩ = some (.bool Sp.exit) := by rw [cell_of_row _ _ 5 _ _ _ hZS]; rfl
                have z6 : WS.cell? ⟨w5.heap.size, 6, none⟩ = some (.bool Sp.blocked) := by rw [cell_of_row _ _ 6 _ _ _ hZS]; rfl
                have hon := one_any WS x.who Sp
                obtain ⟨E1, hE1⟩ : ∃ E1, oneE x.who Sp = E1 := ⟨_, rfl⟩
                rw [hE1] at hon
                unfold whoV spotV at hon
                have HON := Lib.hid hon
                have HZS := Lib.hid hZS
                have HE1 := Lib.hid (And.intro hE1 htn)
                have el1 : (Instr.lookup 84 (.map (some (P + 1))) (.agg #[.int .i64 x.seat.num, .int .u8 (x.seat.ltr.toNat : Int)]) false).run Tryd.prog WS = .ok (.int .i64 1) WS := el
                clear hon hE1 htn hZS el
                go_wp2_with fail
                refine HON.out.mono ?_
                rintro e w6 ⟨rfl, hb6⟩
                have HS6 := Lib.hid (HS5.out.below hb6)
                have HY6 := Lib.hid ((hb6.block _ (Array.getElem?_eq_some_iff.1 HY5.out).1).trans HY5.out)
                have hz6 := (hb6.block _ (Array.getElem?_eq_some_iff.1 HZS.out).1).trans HZS.out
                have z4' : w6.cell? ⟨w5.heap.size, 4, none⟩ = some (.int .i64 Sp.blk) := by rw [cell_of_row _ _ 4 _ _ _ hz6]; rfl
                have y8 : w6.cell? ⟨X + 1, 8, none⟩ = some (.int .i64 (-1)) := by rw [cell_of_row _ _ 8 _ _ _ HY6.out]; rfl
                have fy : w6.frozen? ⟨X + 1, 8, none⟩ = false := frozen_of_row _ _ _ _ _ HY6.out
                clear hb6 hz6 HS5 HY5 HX5 HON HZS f0 f1 f2 f3 f4 z0 z1 z2 z3 z4 z5 z6 el1 hWS
                by_cases hE0 : E1 = 0
                · subst hE0
                  have hO1 : O = Sp.blk := by rw [← HO.out]; unfold ownOf; rw [HSO.out.1, if_pos ⟨HSO.out.2, HE1.out.2, HE1.out.1⟩]
                  go_upto_region 16 with (fail)
                  have hY6 := HY6.out
                  have hneY : u.ownBlock ≠ some (X + 1) := fun e => by have := HOX.out _ e; omega
                  have HS5 : Hid (BdSt w (w6.setCell ⟨X + 1, 8, none⟩ (.int .i64 Sp.blk)) P (P + 1) (.slice Av B.length cv) u vs B ks (R ++ [x])) := Lib.hid (HS6.out.boxed hY6 hneY (by omega))
                  have HY5 : Hid ((w6.setCell ⟨X + 1, 8, none⟩ (.int .i64 Sp.blk)).heap[X + 1]? = some (.cells (skrA x O) 92 (0, 0))) := Lib.hid (by
                    have := heap_setCell_same w6 (X + 1) 8 _ _ (.int .i64 Sp.blk) hY6
                    rw [hO1]
                    simpa [skrA] using this)
                  obtain ⟨wq, hwq⟩ : ∃ W, w6.setCell ⟨X + 1, 8, none⟩ (.int .i64 Sp.blk) = W := ⟨_, rfl⟩
                  rw [hwq] at HS5 HY5 ⊢
                  clear hwq hO1 HS6 HY6 hY6 hneY z4' y8 fy
                  have hud : Upd (fun k => u.ownBlock = some k ∨ k = P) wq wq.drew := (Upd.refl _ wq).drewN 1
                  have ud := hud
                  have ua : Upd (fun k => u.ownBlock = some k ∨ k = P) wq (wq.drew.alloc (.cells (skrA x O) 92)) := hud.alloc _
                  have hy5 := HY5.out
                  have hbox := HS5.out.plane.box
                  have hne : u.ownBlock ≠ some (X + 1) := fun e => by have := (HS5.out.plane.skr.lt _ e).2; have := HOX.out _ e; omega
                  have MK : Hid (∀ U, Upd (fun k => u.ownBlock = some k ∨ k = P) wq U → (fun U => U.cell? ⟨X + 1, 0, none⟩ = some (.int .i64 x.who.cab) ∧ U.cell? ⟨X + 1, 1, none⟩ = some (.bool x.who.fit) ∧ U.cell? ⟨X + 1, 2, none⟩ = some (.bool x.who.inf) ∧ U.cell? ⟨X + 1, 3, none⟩ = some (.int .i64 x.seat.num) ∧ U.cell? ⟨X + 1, 4, none⟩ = some (.int .u8 (x.seat.ltr.toNat : Int)) ∧ U.cell? ⟨X + 1, 5, none⟩ = some (.bool false) ∧ U.cell? ⟨X + 1, 6, none⟩ = some (.bool false) ∧ U.cell? ⟨X + 1, 7, none⟩ = some (.int .i64 (-1)) ∧ U.cell? ⟨X + 1, 8, none⟩ = some (.int .i64 O)) U) := Lib.hid (fun U hU => by
                    have h9 := box_keep hy5 hU (fun h => by rcases h with h | h; exact hne h; omega)
                    refine ⟨?_, ?_, ?_, ?_, ?_, ?_, ?_, ?_, ?_⟩ <;> rw [cell_of_row _ _ _ _ _ _ h9] <;> rfl)
                  have OA : Hid ((wq.drew.alloc (.cells (skrA x O) 92)).ownsRow w.heap.size 92 9 u ks.length (catv skrC ks)) := Lib.hid (own_below HS5.out.plane.skr ((Below.refl wq.heap.size wq).drew.alloc (Nat.le_refl _) _))
                  have HAZ : Hid (w.heap.size ≤ (wq.drew.alloc (.cells (skrA x O) 92)).heap.size) := Lib.hid (by have := HS5.out.bel.size; simp; omega)
                  have HPA : Hid ((wq.drew.alloc (.cells (skrA x O) 92)).heap[P]? = some (.cells #[.slice Av B.length cv, u] 88 (0, 0))) := Lib.hid (by
                    rw [Below.heap_alloc wq.drew _ _ (show P < wq.drew.heap.size from HS5.out.plane.plt)]
                    exact hbox)
                  have HPB : Hid (u.ownBlock ≠ some P ∧ P < wq.heap.size ∧ True) := Lib.hid ⟨fun e => by
                    obtain ⟨cs, h2⟩ := own_typed HS5.out.plane.skr e
                    rw [hbox] at h2
                    simp at h2, HS5.out.plane.plt, trivial⟩
                  have p1 : wq.drew.cell? ⟨P, 1, none⟩ = some u := by rw [cell_of_row _ _ 1 _ _ _ (show wq.drew.heap[P]? = _ from hbox)]; rfl
                  have p1a : (wq.drew.alloc (.cells (skrA x O) 92)).cell? ⟨P, 1, none⟩ = some u := by rw [cell_of_row _ _ 1 _ _ _ HPA.out]; rfl
                  have p1b : (wq.alloc (.cells (skrA x O) 92)).cell? ⟨P, 1, none⟩ = some u := p1a
                  unfold skrA at p1b
                  have HNEW : Hid (∀ (Ad : Option Addr) (kd : Nat) (w7 : World), w7.ownsRow w.heap.size 92 9 (.slice Ad (ks.length + 1) kd) (ks.length + 1) (catv skrC ks ++ skrC ⟨x, false, false, -1, O⟩) → Upd (fun k => u.ownBlock = some k) (wq.drew.alloc (.cells (skrA x O) 92)) w7 → RowAt (wq.drew.alloc (.cells (skrA x O) 92)) u (.slice Ad (ks.length + 1) kd) → BdSt w (w7.setCell ⟨P, 1, none⟩ (.slice Ad (ks.length + 1) kd)) P (P + 1) (.slice Av B.length cv) (.slice Ad (ks.length + 1) kd) vs B (ks ++ [⟨x, false, false, -1, O⟩]) (R ++ [x])) := Lib.hid (fun Ad kd w7 ho hu2 hat => bd_more HS5.out ho hu2)
                  clear hbox hy5 hne
                  refine wp_region_held_drew (S := (fun U => U.cell? ⟨X + 1, 0, none⟩ = some (.int .i64 x.who.cab) ∧ U.cell? ⟨X + 1, 1, none⟩ = some (.bool x.who.fit) ∧ U.cell? ⟨X + 1, 2, none⟩ = some (.bool x.who.inf) ∧ U.cell? ⟨X + 1, 3, none⟩ = some (.int .i64 x.seat.num) ∧ U.cell? ⟨X + 1, 4, none⟩ = some (.int .u8 (x.seat.ltr.toNat : Int)) ∧ U.cell? ⟨X + 1, 5, none⟩ = some (.bool false) ∧ U.cell? ⟨X + 1, 6, none⟩ = some (.bool false) ∧ U.cell? ⟨X + 1, 7, none⟩ = some (.int .i64 (-1)) ∧ U.cell? ⟨X + 1, 8, none⟩ = some (.int .i64 O))) (by kernel_rfl) (by exact MK.out _ ud) (fun hHeld => ?_)
                  refine wpAnyH_take (i := 0) (v := ?_) rfl (by kernel_rfl) (by kernel_rfl) (by kernel_rfl) (fun _ _ _ h => h) (Or.inl ⟨by kernel_rfl, ?_⟩) (by assumption) ?_
                  rotate_left
                  · (intro w hSw; (try dsimp only at hSw); go_simp; try with_reducible rfl)
                  try simp only [Act.put, List.getElem_toArray, List.getElem_cons_succ, List.getElem_cons_zero, List.setIfInBounds_toArray, List.set_cons_zero, List.set_cons_succ]
                  refine wpAnyH_take (i := 1) (v := ?_) rfl (by kernel_rfl) (by kernel_rfl) (by kernel_rfl) (fun _ _ _ h => h) (Or.inl ⟨by kernel_rfl, ?_⟩) (by assumption) ?_
                  rotate_left
                  · (intro w hSw; (try dsimp only at hSw); go_simp; try with_reducible rfl)
                  try simp only [Act.put, List.getElem_toArray, List.getElem_cons_succ, List.getElem_cons_zero, List.setIfInBounds_toArray, List.set_cons_zero, List.set_cons_succ]
                  refine wpAnyH_take (i := 2) (v := ?_) rfl (by kernel_rfl) (by kernel_rfl) (by kernel_rfl) (fun _ _ _ h => h) (Or.inl ⟨by kernel_rfl, ?_⟩) (by assumption) ?_
                  rotate_left
                  · (intro w hSw; (try dsimp only at hSw); go_simp; try with_reducible rfl)
                  try simp only [Act.put, List.getElem_toArray, List.getElem_cons_succ, List.getElem_cons_zero, List.setIfInBounds_toArray, List.set_cons_zero, List.set_cons_succ]
                  refine wpAnyH_take (i := 3) (v := ?_) rfl (by kernel_rfl) (by kernel_rfl) (by kernel_rfl) (fun _ _ _ h => h) (Or.inl ⟨by kernel_rfl, ?_⟩) (by assumption) ?_
                  rotate_left
                  · (intro w hSw; (try dsimp only at hSw); go_simp; try with_reducible rfl)
                  try simp only [Act.put, List.getElem_toArray, List.getElem_cons_succ, List.getElem_cons_zero, List.setIfInBounds_toArray, List.set_cons_zero, List.set_cons_succ]
                  refine wpAnyH_take (i := 5) (v := ?_) rfl (by kernel_rfl) (by kernel_rfl) (by kernel_rfl) (fun _ _ _ h => h) (Or.inl ⟨by kernel_rfl, ?_⟩) (by assumption) ?_
                  rotate_left
                  · (intro w hSw; (try dsimp only at hSw); go_simp; try with_reducible rfl)
                  try simp only [Act.put, List.getElem_toArray, List.getElem_cons_succ, List.getElem_cons_zero, List.setIfInBounds_toArray, List.set_cons_zero, List.set_cons_succ]
                  refine wpAnyH_ready (rs := [4, 6]) (by kernel_rfl) (by simp) ?_
                  refine AllReadyH.cons rfl (fun K hK => ?_) (AllReadyH.cons rfl (fun K hK => ?_) AllReadyH.nil)
                  · go_simp
                    refine hK.out _ _ (by exact MK.out _ (by first | exact ud | exact ua | exact ua3 | exact ua3.setCell _ (.inr rfl) _)) (fun hHeld => ?_)
                    clear hK K
                    try simp only [Act.put, List.getElem_toArray, List.getElem_cons_succ, List.getElem_cons_zero, List.setIfInBounds_toArray, List.set_cons_zero, List.set_cons_succ]
                    refine wpAnyH_ready (rs := [6]) (by kernel_rfl) (by simp) ?_
                    refine AllReadyH.cons rfl (fun K hK => ?_) AllReadyH.nil
                    go_simp
                    refine hK.out _ _ (by exact MK.out _ (by first | exact ud | exact ua | exact ua3 | exact ua3.setCell _ (.inr rfl) _)) (fun hHeld => ?_)
                    clear hK K
                    try simp only [Act.put, List.getElem_toArray, List.getElem_cons_succ, List.getElem_cons_zero, List.setIfInBounds_toArray, List.set_cons_zero, List.set_cons_succ]
                    refine wpAnyH_ready (rs := [7]) (by kernel_rfl) (by simp) ?_
                    refine AllReadyH.cons rfl (fun K hK => ?_) AllReadyH.nil
                    refine step_app (by rfl) (.tmp 72) (.tmp 74) 86 (by rfl) w.heap.size 92 i0 _ 9 56 Tryd.underlying86 hi0 hz0 hz1 hz2 rfl (by omega) u ks.length (catv skrC ks) _ (some ⟨wq.heap.size, 0, none⟩) 1 1 (skrC ⟨x, false, false, -1, O⟩) (by rfl) (by exact OA.out) (by rfl) (rd_block (heap_alloc_new wq.drew (.cells (skrA x O) 92)) rfl) (skrC_cell _) (by have := HRL.out.2; omega) (by have := HRL.out.2; unfold maxLen; omega) (by exact HAZ.out) ?_
                    intro u' w7 ho7 hu7 hat7
                    obtain ⟨Ad, kd, rfl⟩ := own_shape ho7
                    have ua3 : Upd (fun k => u.ownBlock = some k ∨ k = P) wq w7 := ua.trans hu7 (fun k _ h => .inl h)
                    have e7 := (hu7.block P (by have := HPB.out.2.1; simp; omega) HPB.out.1).trans HPA.out
                    have p1' : w7.cell? ⟨P, 1, none⟩ = some u := by rw [cell_of_row _ _ 1 _ _ _ e7]; rfl
                    have f1' : w7.frozen? ⟨P, 1, none⟩ = false := frozen_of_row _ _ _ _ _ e7
                    refine hK.out _ _ (by exact MK.out _ (by first | exact ud | exact ua | exact ua3 | exact ua3.setCell _ (.inr rfl) _)) (fun hHeld => ?_)
                    clear hK K
                    try simp only [Act.put, List.getElem_toArray, List.getElem_cons_succ, List.getElem_cons_zero, List.setIfInBounds_toArray, List.set_cons_zero, List.set_cons_succ]
                    refine wpAnyH_ready (rs := [8]) (by kernel_rfl) (by simp) ?_
                    refine AllReadyH.cons rfl (fun K hK => ?_) AllReadyH.nil
                    go_simp
                    refine hK.out _ _ (by exact MK.out _ (by first | exact ud | exact ua | exact ua3 | exact ua3.setCell _ (.inr rfl) _)) (fun hHeld => ?_)
                    clear hK K
                    try simp only [Act.put, List.getElem_toArray, List.getElem_cons_succ, List.getElem_cons_zero, List.setIfInBounds_toArray, List.set_cons_zero, List.set_cons_succ]
                    refine wpAnyH_ready (rs := [9]) (by kernel_rfl) (by simp) ?_
                    refine AllReadyH.cons rfl (fun K hK => ?_) AllReadyH.nil
                    go_simp
                    refine hK.out _ _ (by exact MK.out _ (by first | exact ud | exact ua | exact ua3 | exact ua3.setCell _ (.inr rfl) _)) (fun hHeld => ?_)
                    clear hK K
                    try simp only [Act.put, List.getElem_toArray, List.getElem_cons_succ, List.getElem_cons_zero, List.setIfInBounds_toArray, List.set_cons_zero, List.set_cons_succ]
                    refine wpAnyH_ready (rs := [10]) (by kernel_rfl) (by simp) ?_
                    refine AllReadyH.cons rfl (fun K hK => ?_) AllReadyH.nil
                    go_simp
                    refine hK.out _ _ (by exact MK.out _ (by first | exact ud | exact ua | exact ua3 | exact ua3.setCell _ (.inr rfl) _)) (fun hHeld => ?_)
                    clear hK K
                    try simp only [Act.put, List.getElem_toArray, List.getElem_cons_succ, List.getElem_cons_zero, List.setIfInBounds_toArray, List.set_cons_zero, List.set_cons_succ]
                    refine wpAnyH_done (by kernel_rfl) ?_ _
                    have HN7 : Hid (BdSt w (w7.setCell ⟨P, 1, none⟩ (.slice Ad (ks.length + 1) kd)) P (P + 1) (.slice Av B.length cv) (.slice Ad (ks.length + 1) kd) vs B (boardK L [] (rs.take (k + 1))) (rs.take (k + 1))) := Lib.hid (by
                      rw [HNX.out.1, HNX.out.2]
                      exact HNEW.out Ad kd w7 ho7 hu7 hat7)
                    clear ho7 hu7 hat7 e7 ua3 hHeld
                    go_wp2
                    go_roundw
                    case rel => exact ⟨k + 1, _, by go_num, hlt, HN7⟩
                    case measure => simp [intOf]; omega
                  · go_simp
                    refine hK.out _ _ (by exact MK.out _ (by first | exact ud | exact ua | exact ua3 | exact ua3.setCell _ (.inr rfl) _)) (fun hHeld => ?_)
                    clear hK K
                    try simp only [Act.put, List.getElem_toArray, List.getElem_cons_succ, List.getElem_cons_zero, List.setIfInBounds_toArray, List.set_cons_zero, List.set_cons_succ]
                    refine wpAnyH_ready (rs := [4]) (by kernel_rfl) (by simp) ?_
                    refine AllReadyH.cons rfl (fun K hK => ?_) AllReadyH.nil
                    go_simp
                    refine hK.out _ _ (by exact MK.out _ (by first | exact ud | exact ua | exact ua3 | exact ua3.setCell _ (.inr rfl) _)) (fun hHeld => ?_)
                    clear hK K
                    try simp only [Act.put, List.getElem_toArray, List.getElem_cons_succ, List.getElem_cons_zero, List.setIfInBounds_toArray, List.set_cons_zero, List.set_cons_succ]
                    refine wpAnyH_ready (rs := [7]) (by kernel_rfl) (by simp) ?_
                    refine AllReadyH.cons rfl (fun K hK => ?_) AllReadyH.nil
                    refine step_app (by rfl) (.tmp 72) (.tmp 74) 86 (by rfl) w.heap.size 92 i0 _ 9 56 Tryd.underlying86 hi0 hz0 hz1 hz2 rfl (by omega) u ks.length (catv skrC ks) _ (some ⟨wq.heap.size, 0, none⟩) 1 1 (skrC ⟨x, false, false, -1, O⟩) (by rfl) (by exact OA.out) (by rfl) (rd_block (heap_alloc_new wq.drew (.cells (skrA x O) 92)) rfl) (skrC_cell _) (by have := HRL.out.2; omega) (by have := HRL.out.2; unfold maxLen; omega) (by exact HAZ.out) ?_
                    intro u' w7 ho7 hu7 hat7
                    obtain ⟨Ad, kd, rfl⟩ := own_shape ho7
                    have ua3 : Upd (fun k => u.ownBlock = some k ∨ k = P) wq w7 := ua.trans hu7 (fun k _ h => .inl h)
                    have e7 := (hu7.block P (by have := HPB.out.2.1; simp; omega) HPB.out.1).trans HPA.out
                    have p1' : w7.cell? ⟨P, 1, none⟩ = some u := by rw [cell_of_row _ _ 1 _ _ _ e7]; rfl
                    have f1' : w7.frozen? ⟨P, 1, none⟩ = false := frozen_of_row _ _ _ _ _ e7
                    refine hK.out _ _ (by exact MK.out _ (by first | exact ud | exact ua | exact ua3 | exact ua3.setCell _ (.inr rfl) _)) (fun hHeld => ?_)
                    clear hK K
                    try simp only [Act.put, List.getElem_toArray, List.getElem_cons_succ, List.getElem_cons_zero, List.setIfInBounds_toArray, List.set_cons_zero, List.set_cons_succ]
                    refine wpAnyH_ready (rs := [8]) (by kernel_rfl) (by simp) ?_
                    refine AllReadyH.cons rfl (fun K hK => ?_) AllReadyH.nil
                    go_simp
                    refine hK.out _ _ (by exact MK.out _ (by first | exact ud | exact ua | exact ua3 | exact ua3.setCell _ (.inr rfl) _)) (fun hHeld => ?_)
                    clear hK K
                    try simp only [Act.put, List.getElem_toArray, List.getElem_cons_succ, List.getElem_cons_zero, List.setIfInBounds_toArray, List.set_cons_zero, List.set_cons_succ]
                    refine wpAnyH_ready (rs := [9]) (by kernel_rfl) (by simp) ?_
                    refine AllReadyH.cons rfl (fun K hK => ?_) AllReadyH.nil
                    go_simp
                    refine hK.out _ _ (by exact MK.out _ (by first | exact ud | exact ua | exact ua3 | exact ua3.setCell _ (.inr rfl) _)) (fun hHeld => ?_)
                    clear hK K
                    try simp only [Act.put, List.getElem_toArray, List.getElem_cons_succ, List.getElem_cons_zero, List.setIfInBounds_toArray, List.set_cons_zero, List.set_cons_succ]
                    refine wpAnyH_ready (rs := [10]) (by kernel_rfl) (by simp) ?_
                    refine AllReadyH.cons rfl (fun K hK => ?_) AllReadyH.nil
                    go_simp
                    refine hK.out _ _ (by exact MK.out _ (by first | exact ud | exact ua | exact ua3 | exact ua3.setCell _ (.inr rfl) _)) (fun hHeld => ?_)
                    clear hK K
                    try simp only [Act.put, List.getElem_toArray, List.getElem_cons_succ, List.getElem_cons_zero, List.setIfInBounds_toArray, List.set_cons_zero, List.set_cons_succ]
                    refine wpAnyH_done (by kernel_rfl) ?_ _
                    have HN7 : Hid (BdSt w (w7.setCell ⟨P, 1, none⟩ (.slice Ad (ks.length + 1) kd)) P (P + 1) (.slice Av B.length cv) (.slice Ad (ks.length + 1) kd) vs B (boardK L [] (rs.take (k + 1))) (rs.take (k + 1))) := Lib.hid (by
                      rw [HNX.out.1, HNX.out.2]
                      exact HNEW.out Ad kd w7 ho7 hu7 hat7)
                    clear ho7 hu7 hat7 e7 ua3 hHeld
                    go_wp2
                    go_roundw
                    case rel => exact ⟨k + 1, _, by go_num, hlt, HN7⟩
                    case measure => simp [intOf]; omega
                · have hO1 : O = -1 := by rw [← HO.out]; unfold ownOf; rw [HSO.out.1, if_neg (fun h => hE0 (HE1.out.1.symm.trans h.2.2))]
                  have hEi : ¬ E1 = 0 := hE0
                  rw [← hO1] at HY6
                  go_upto_region 16 with (fail)
                  obtain ⟨wq, hwq⟩ : ∃ W, w6 = W := ⟨_, rfl⟩
                  rw [hwq] at HS6 HY6 ⊢
                  have HS5 := HS6
                  have HY5 := HY6
                  clear hwq hO1 z4' y8 fy HS6 HY6
                  have hud : Upd (fun k => u.ownBlock = some k ∨ k = P) wq wq.drew := (Upd.refl _ wq).drewN 1
                  have ud := hud
                  have ua : Upd (fun k => u.ownBlock = some k ∨ k = P) wq (wq.drew.alloc (.cells (skrA x O) 92)) := hud.alloc _
                  have hy5 := HY5.out
                  have hbox := HS5.out.plane.box
                  have hne : u.ownBlock ≠ some (X + 1) := fun e => by have := (HS5.out.plane.skr.lt _ e).2; have := HOX.out _ e; omega
                  have MK : Hid (∀ U, Upd (fun k => u.ownBlock = some k ∨ k = P) wq U → (fun U => U.cell? ⟨X + 1, 0, none⟩ = some (.int .i64 x.who.cab) ∧ U.cell? ⟨X + 1, 1, none⟩ = some (.bool x.who.fit) ∧ U.cell? ⟨X + 1, 2, none⟩ = some (.bool x.who.inf) ∧ U.cell? ⟨X + 1, 3, none⟩ = some (.int .i64 x.seat.num) ∧ U.cell? ⟨X + 1, 4, none⟩ = some (.int .u8 (x.seat.ltr.toNat : Int)) ∧ U.cell? ⟨X + 1, 5, none⟩ = some (.bool false) ∧ U.cell? ⟨X + 1, 6, none⟩ = some (.bool false) ∧ U.cell? ⟨X + 1, 7, none⟩ = some (.int .i64 (-1)) ∧ U.cell? ⟨X + 1, 8, none⟩ = some (.int .i64 O)) U) := Lib.hid (fun U hU => by
                    have h9 := box_keep hy5 hU (fun h => by rcases h with h | h; exact hne h; omega)
                    refine ⟨?_, ?_, ?_, ?_, ?_, ?_, ?_, ?_, ?_⟩ <;> rw [cell_of_row _ _ _ _ _ _ h9] <;> rfl)
                  have OA : Hid ((wq.drew.alloc (.cells (skrA x O) 92)).ownsRow w.heap.size 92 9 u ks.length (catv skrC ks)) := Lib.hid (own_below HS5.out.plane.skr ((Below.refl wq.heap.size wq).drew.alloc (Nat.le_refl _) _))
                  have HAZ : Hid (w.heap.size ≤ (wq.drew.alloc (.cells (skrA x O) 92)).heap.size) := Lib.hid (by have := HS5.out.bel.size; simp; omega)
                  have HPA : Hid ((wq.drew.alloc (.cells (skrA x O) 92)).heap[P]? = some (.cells #[.slice Av B.length cv, u] 88 (0, 0))) := Lib.hid (by
                    rw [Below.heap_alloc wq.drew _ _ (show P < wq.drew.heap.size from HS5.out.plane.plt)]
                    exact hbox)
                  have HPB : Hid (u.ownBlock ≠ some P ∧ P < wq.heap.size ∧ True) := Lib.hid ⟨fun e => by
                    obtain ⟨cs, h2⟩ := own_typed HS5.out.plane.skr e
                    rw [hbox] at h2
                    simp at h2, HS5.out.plane.plt, trivial⟩
                  have p1 : wq.drew.cell? ⟨P, 1, none⟩ = some u := by rw [cell_of_row _ _ 1 _ _ _ (show wq.drew.heap[P]? = _ from hbox)]; rfl
                  have p1a : (wq.drew.alloc (.cells (skrA x O) 92)).cell? ⟨P, 1, none⟩ = some u := by rw [cell_of_row _ _ 1 _ _ _ HPA.out]; rfl
                  have p1b : (wq.alloc (.cells (skrA x O) 92)).cell? ⟨P, 1, none⟩ = some u := p1a
                  unfold skrA at p1b
                  have HNEW : Hid (∀ (Ad : Option Addr) (kd : Nat) (w7 : World), w7.ownsRow w.heap.size 92 9 (.slice Ad (ks.length + 1) kd) (ks.length + 1) (catv skrC ks ++ skrC ⟨x, false, false, -1, O⟩) → Upd (fun k => u.ownBlock = some k) (wq.drew.alloc (.cells (skrA x O) 92)) w7 → RowAt (wq.drew.alloc (.cells (skrA x O) 92)) u (.slice Ad (ks.length + 1) kd) → BdSt w (w7.setCell ⟨P, 1, none⟩ (.slice Ad (ks.length + 1) kd)) P (P + 1) (.slice Av B.length cv) (.slice Ad (ks.length + 1) kd) vs B (ks ++ [⟨x, false, false, -1, O⟩]) (R ++ [x])) := Lib.hid (fun Ad kd w7 ho hu2 hat => bd_more HS5.out ho hu2)
                  clear hbox hy5 hne
                  refine wp_region_held_drew (S := (fun U => U.cell? ⟨X + 1, 0, none⟩ = some (.int .i64 x.who.cab) ∧ U.cell? ⟨X + 1, 1, none⟩ = some (.bool x.who.fit) ∧ U.cell? ⟨X + 1, 2, none⟩ = some (.bool x.who.inf) ∧ U.cell? ⟨X + 1, 3, none⟩ = some (.int .i64 x.seat.num) ∧ U.cell? ⟨X + 1, 4, none⟩ = some (.int .u8 (x.seat.ltr.toNat : Int)) ∧ U.cell? ⟨X + 1, 5, none⟩ = some (.bool false) ∧ U.cell? ⟨X + 1, 6, none⟩ = some (.bool false) ∧ U.cell? ⟨X + 1, 7, none⟩ = some (.int .i64 (-1)) ∧ U.cell? ⟨X + 1, 8, none⟩ = some (.int .i64 O))) (by kernel_rfl) (by exact MK.out _ ud) (fun hHeld => ?_)
                  refine wpAnyH_take (i := 0) (v := ?_) rfl (by kernel_rfl) (by kernel_rfl) (by kernel_rfl) (fun _ _ _ h => h) (Or.inl ⟨by kernel_rfl, ?_⟩) (by assumption) ?_
                  rotate_left
                  · (intro w hSw; (try dsimp only at hSw); go_simp; try with_reducible rfl)
                  try simp only [Act.put, List.getElem_toArray, List.getElem_cons_succ, List.getElem_cons_zero, List.setIfInBounds_toArray, List.set_cons_zero, List.set_cons_succ]
                  refine wpAnyH_take (i := 1) (v := ?_) rfl (by kernel_rfl) (by kernel_rfl) (by kernel_rfl) (fun _ _ _ h => h) (Or.inl ⟨by kernel_rfl, ?_⟩) (by assumption) ?_
                  rotate_left
                  · (intro w hSw; (try dsimp only at hSw); go_simp; try with_reducible rfl)
                  try simp only [Act.put, List.getElem_toArray, List.getElem_cons_succ, List.getElem_cons_zero, List.setIfInBounds_toArray, List.set_cons_zero, List.set_cons_succ]
                  refine wpAnyH_take (i := 2) (v := ?_) rfl (by kernel_rfl) (by kernel_rfl) (by kernel_rfl) (fun _ _ _ h => h) (Or.inl ⟨by kernel_rfl, ?_⟩) (by assumption) ?_
                  rotate_left
                  · (intro w hSw; (try dsimp only at hSw); go_simp; try with_reducible rfl)
                  try simp only [Act.put, List.getElem_toArray, List.getElem_cons_succ, List.getElem_cons_zero, List.setIfInBounds_toArray, List.set_cons_zero, List.set_cons_succ]
                  refine wpAnyH_take (i := 3) (v := ?_) rfl (by kernel_rfl) (by kernel_rfl) (by kernel_rfl) (fun _ _ _ h => h) (Or.inl ⟨by kernel_rfl, ?_⟩) (by assumption) ?_
                  rotate_left
                  · (intro w hSw; (try dsimp only at hSw); go_simp; try with_reducible rfl)
                  try simp only [Act.put, List.getElem_toArray, List.getElem_cons_succ, List.getElem_cons_zero, List.setIfInBounds_toArray, List.set_cons_zero, List.set_cons_succ]
                  refine wpAnyH_take (i := 5) (v := ?_) rfl (by kernel_rfl) (by kernel_rfl) (by kernel_rfl) (fun _ _ _ h => h) (Or.inl ⟨by kernel_rfl, ?_⟩) (by assumption) ?_
                  rotate_left
                  · (intro w hSw; (try dsimp only at hSw); go_simp; try with_reducible rfl)
                  try simp only [Act.put, List.getElem_toArray, List.getElem_cons_succ, List.getElem_cons_zero, List.setIfInBounds_toArray, List.set_cons_zero, List.set_cons_succ]
                  refine wpAnyH_ready (rs := [4, 6]) (by kernel_rfl) (by simp) ?_
                  refine AllReadyH.cons rfl (fun K hK => ?_) (AllReadyH.cons rfl (fun K hK => ?_) AllReadyH.nil)
                  · go_simp
                    refine hK.out _ _ (by exact MK.out _ (by first | exact ud | exact ua | exact ua3 | exact ua3.setCell _ (.inr rfl) _)) (fun hHeld => ?_)
                    clear hK K
                    try simp only [Act.put, List.getElem_toArray, List.getElem_cons_succ, List.getElem_cons_zero, List.setIfInBounds_toArray, List.set_cons_zero, List.set_cons_succ]
                    refine wpAnyH_ready (rs := [6]) (by kernel_rfl) (by simp) ?_
                    refine AllReadyH.cons rfl (fun K hK => ?_) AllReadyH.nil
                    go_simp
                    refine hK.out _ _ (by exact MK.out _ (by first | exact ud | exact ua | exact ua3 | exact ua3.setCell _ (.inr rfl) _)) (fun hHeld => ?_)
                    clear hK K
                    try simp only [Act.put, List.getElem_toArray, List.getElem_cons_succ, List.getElem_cons_zero, List.setIfInBounds_toArray, List.set_cons_zero, List.set_cons_succ]
                    refine wpAnyH_ready (rs := [7]) (by kernel_rfl) (by simp) ?_
                    refine AllReadyH.cons rfl (fun K hK => ?_) AllReadyH.nil
                    refine step_app (by rfl) (.tmp 72) (.tmp 74) 86 (by rfl) w.heap.size 92 i0 _ 9 56 Tryd.underlying86 hi0 hz0 hz1 hz2 rfl (by omega) u ks.length (catv skrC ks) _ (some ⟨wq.heap.size, 0, none⟩) 1 1 (skrC ⟨x, false, false, -1, O⟩) (by rfl) (by exact OA.out) (by rfl) (rd_block (heap_alloc_new wq.drew (.cells (skrA x O) 92)) rfl) (skrC_cell _) (by have := HRL.out.2; omega) (by have := HRL.out.2; unfold maxLen; omega) (by exact HAZ.out) ?_
                    intro u' w7 ho7 hu7 hat7
                    obtain ⟨Ad, kd, rfl⟩ := own_shape ho7
                    have ua3 : Upd (fun k => u.ownBlock = some k ∨ k = P) wq w7 := ua.trans hu7 (fun k _ h => .inl h)
                    have e7 := (hu7.block P (by have := HPB.out.2.1; simp; omega) HPB.out.1).trans HPA.out
                    have p1' : w7.cell? ⟨P, 1, none⟩ = some u := by rw [cell_of_row _ _ 1 _ _ _ e7]; rfl
                    have f1' : w7.frozen? ⟨P, 1, none⟩ = false := frozen_of_row _ _ _ _ _ e7
                    refine hK.out _ _ (by exact MK.out _ (by first | exact ud | exact ua | exact ua3 | exact ua3.setCell _ (.inr rfl) _)) (fun hHeld => ?_)
                    clear hK K
                    try simp only [Act.put, List.getElem_toArray, List.getElem_cons_succ, List.getElem_cons_zero, List.setIfInBounds_toArray, List.set_cons_zero, List.set_cons_succ]
                    refine wpAnyH_ready (rs := [8]) (by kernel_rfl) (by simp) ?_
                    refine AllReadyH.cons rfl (fun K hK => ?_) AllReadyH.nil
                    go_simp
                    refine hK.out _ _ (by exact MK.out _ (by first | exact ud | exact ua | exact ua3 | exact ua3.setCell _ (.inr rfl) _)) (fun hHeld => ?_)
                    clear hK K
                    try simp only [Act.put, List.getElem_toArray, List.getElem_cons_succ, List.getElem_cons_zero, List.setIfInBounds_toArray, List.set_cons_zero, List.set_cons_succ]
                    refine wpAnyH_ready (rs := [9]) (by kernel_rfl) (by simp) ?_
                    refine AllReadyH.cons rfl (fun K hK => ?_) AllReadyH.nil
                    go_simp
                    refine hK.out _ _ (by exact MK.out _ (by first | exact ud | exact ua | exact ua3 | exact ua3.setCell _ (.inr rfl) _)) (fun hHeld => ?_)
                    clear hK K
                    try simp only [Act.put, List.getElem_toArray, List.getElem_cons_succ, List.getElem_cons_zero, List.setIfInBounds_toArray, List.set_cons_zero, List.set_cons_succ]
                    refine wpAnyH_ready (rs := [10]) (by kernel_rfl) (by simp) ?_
                    refine AllReadyH.cons rfl (fun K hK => ?_) AllReadyH.nil
                    go_simp
                    refine hK.out _ _ (by exact MK.out _ (by first | exact ud | exact ua | exact ua3 | exact ua3.setCell _ (.inr rfl) _)) (fun hHeld => ?_)
                    clear hK K
                    try simp only [Act.put, List.getElem_toArray, List.getElem_cons_succ, List.getElem_cons_zero, List.setIfInBounds_toArray, List.set_cons_zero, List.set_cons_succ]
                    refine wpAnyH_done (by kernel_rfl) ?_ _
                    have HN7 : Hid (BdSt w (w7.setCell ⟨P, 1, none⟩ (.slice Ad (ks.length + 1) kd)) P (P + 1) (.slice Av B.length cv) (.slice Ad (ks.length + 1) kd) vs B (boardK L [] (rs.take (k + 1))) (rs.take (k + 1))) := Lib.hid (by
                      rw [HNX.out.1, HNX.out.2]
                      exact HNEW.out Ad kd w7 ho7 hu7 hat7)
                    clear ho7 hu7 hat7 e7 ua3 hHeld
                    go_wp2
                    go_roundw
                    case rel => exact ⟨k + 1, _, by go_num, hlt, HN7⟩
                    case measure => simp [intOf]; omega
                  · go_simp
                    refine hK.out _ _ (by exact MK.out _ (by first | exact ud | exact ua | exact ua3 | exact ua3.setCell _ (.inr rfl) _)) (fun hHeld => ?_)
                    clear hK K
                    try simp only [Act.put, List.getElem_toArray, List.getElem_cons_succ, List.getElem_cons_zero, List.setIfInBounds_toArray, List.set_cons_zero, List.set_cons_succ]
                    refine wpAnyH_ready (rs := [4]) (by kernel_rfl) (by simp) ?_
                    refine AllReadyH.cons rfl (fun K hK => ?_) AllReadyH.nil
                    go_simp
                    refine hK.out _ _ (by exact MK.out _ (by first | exact ud | exact ua | exact ua3 | exact ua3.setCell _ (.inr rfl) _)) (fun hHeld => ?_)
                    clear hK K
                    try simp only [Act.put, List.getElem_toArray, List.getElem_cons_succ, List.getElem_cons_zero, List.setIfInBounds_toArray, List.set_cons_zero, List.set_cons_succ]
                    refine wpAnyH_ready (rs := [7]) (by kernel_rfl) (by simp) ?_
                    refine AllReadyH.cons rfl (fun K hK => ?_) AllReadyH.nil
                    refine step_app (by rfl) (.tmp 72) (.tmp 74) 86 (by rfl) w.heap.size 92 i0 _ 9 56 Tryd.underlying86 hi0 hz0 hz1 hz2 rfl (by omega) u ks.length (catv skrC ks) _ (some ⟨wq.heap.size, 0, none⟩) 1 1 (skrC ⟨x, false, false, -1, O⟩) (by rfl) (by exact OA.out) (by rfl) (rd_block (heap_alloc_new wq.drew (.cells (skrA x O) 92)) rfl) (skrC_cell _) (by have := HRL.out.2; omega) (by have := HRL.out.2; unfold maxLen; omega) (by exact HAZ.out) ?_
                    intro u' w7 ho7 hu7 hat7
                    obtain ⟨Ad, kd, rfl⟩ := own_shape ho7
                    have ua3 : Upd (fun k => u.ownBlock = some k ∨ k = P) wq w7 := ua.trans hu7 (fun k _ h => .inl h)
                    have e7 := (hu7.block P (by have := HPB.out.2.1; simp; omega) HPB.out.1).trans HPA.out
                    have p1' : w7.cell? ⟨P, 1, none⟩ = some u := by rw [cell_of_row _ _ 1 _ _ _ e7]; rfl
                    have f1' : w7.frozen? ⟨P, 1, none⟩ = false := frozen_of_row _ _ _ _ _ e7
                    refine hK.out _ _ (by exact MK.out _ (by first | exact ud | exact ua | exact ua3 | exact ua3.setCell _ (.inr rfl) _)) (fun hHeld => ?_)
                    clear hK K
                    try simp only [Act.put, List.getElem_toArray, List.getElem_cons_succ, List.getElem_cons_zero, List.setIfInBounds_toArray, List.set_cons_zero, List.set_cons_succ]
                    refine wpAnyH_ready (rs := [8]) (by kernel_rfl) (by simp) ?_
                    refine AllReadyH.cons rfl (fun K hK => ?_) AllReadyH.nil
                    go_simp
                    refine hK.out _ _ (by exact MK.out _ (by first | exact ud | exact ua | exact ua3 | exact ua3.setCell _ (.inr rfl) _)) (fun hHeld => ?_)
                    clear hK K
                    try simp only [Act.put, List.getElem_toArray, List.getElem_cons_succ, List.getElem_cons_zero, List.setIfInBounds_toArray, List.set_cons_zero, List.set_cons_succ]
                    refine wpAnyH_ready (rs := [9]) (by kernel_rfl) (by simp) ?_
                    refine AllReadyH.cons rfl (fun K hK => ?_) AllReadyH.nil
                    go_simp
                    refine hK.out _ _ (by exact MK.out _ (by first | exact ud | exact ua | exact ua3 | exact ua3.setCell _ (.inr rfl) _)) (fun hHeld => ?_)
                    clear hK K
                    try simp only [Act.put, List.getElem_toArray, List.getElem_cons_succ, List.getElem_cons_zero, List.setIfInBounds_toArray, List.set_cons_zero, List.set_cons_succ]
                    refine wpAnyH_ready (rs := [10]) (by kernel_rfl) (by simp) ?_
                    refine AllReadyH.cons rfl (fun K hK => ?_) AllReadyH.nil
                    go_simp
                    refine hK.out _ _ (by exact MK.out _ (by first | exact ud | exact ua | exact ua3 | exact ua3.setCell _ (.inr rfl) _)) (fun hHeld => ?_)
                    clear hK K
                    try simp only [Act.put, List.getElem_toArray, List.getElem_cons_succ, List.getElem_cons_zero, List.setIfInBounds_toArray, List.set_cons_zero, List.set_cons_succ]
                    refine wpAnyH_done (by kernel_rfl) ?_ _
                    have HN7 : Hid (BdSt w (w7.setCell ⟨P, 1, none⟩ (.slice Ad (ks.length + 1) kd)) P (P + 1) (.slice Av B.length cv) (.slice Ad (ks.length + 1) kd) vs B (boardK L [] (rs.take (k + 1))) (rs.take (k + 1))) := Lib.hid (by
                      rw [HNX.out.1, HNX.out.2]
                      exact HNEW.out Ad kd w7 ho7 hu7 hat7)
                    clear ho7 hu7 hat7 e7 ua3 hHeld
                    go_wp2
                    go_roundw
                    case rel => exact ⟨k + 1, _, by go_num, hlt, HN7⟩
                    case measure => simp [intOf]; omega
              · have hO1 : O = -1 := by rw [← HO.out]; unfold ownOf; rw [if_neg (fun h => ht0 (htn.symm.trans h.2.1))]
                obtain ⟨N1, hN1⟩ : ∃ N1, tn + 1 = N1 := ⟨_, rfl⟩
                rw [hN1] at el
                have hne1 : ((N1 : Int) == 1) = false := by rw [beq_eq_false_iff_ne]; omega
                rw [← hO1] at HY5
                clear htn ht0 hN1
                go_upto_region 16 with (fail)
                obtain ⟨wq, hwq⟩ : ∃ W, WS = W := ⟨_, rfl⟩
                rw [hwq] at HS5 HY5 ⊢
                clear hWS hwq hZS HX5 hO1 el f0 f1 f2 f3 f4 hne1
                have hud : Upd (fun k => u.ownBlock = some k ∨ k = P) wq wq.drew := (Upd.refl _ wq).drewN 1
                have ud := hud
                have ua : Upd (fun k => u.ownBlock = some k ∨ k = P) wq (wq.drew.alloc (.cells (skrA x O) 92)) := hud.alloc _
                have hy5 := HY5.out
                have hbox := HS5.out.plane.box
                have hne : u.ownBlock ≠ some (X + 1) := fun e => by have := (HS5.out.plane.skr.lt _ e).2; have := HOX.out _ e; omega
                have MK : Hid (∀ U, Upd (fun k => u.ownBlock = some k ∨ k = P) wq U → (fun U => U.cell? ⟨X + 1, 0, none⟩ = some (.int .i64 x.who.cab) ∧ U.cell? ⟨X + 1, 1, none⟩ = some (.bool x.who.fit) ∧ U.cell? ⟨X + 1, 2, none⟩ = some (.bool x.who.inf) ∧ U.cell? ⟨X + 1, 3, none⟩ = some (.int .i64 x.seat.num) ∧ U.cell? ⟨X + 1, 4, none⟩ = some (.int .u8 (x.seat.ltr.toNat : Int)) ∧ U.cell? ⟨X + 1, 5, none⟩ = some (.bool false) ∧ U.cell? ⟨X + 1, 6, none⟩ = some (.bool false) ∧ U.cell? ⟨X + 1, 7, none⟩ = some (.int .i64 (-1)) ∧ U.cell? ⟨X + 1, 8, none⟩ = some (.int .i64 O)) U) := Lib.hid (fun U hU => by
                  have h9 := box_keep hy5 hU (fun h => by rcases h with h | h; exact hne h; omega)
                  refine ⟨?_, ?_, ?_, ?_, ?_, ?_, ?_, ?_, ?_⟩ <;> rw [cell_of_row _ _ _ _ _ _ h9] <;> rfl)
                have OA : Hid ((wq.drew.alloc (.cells (skrA x O) 92)).ownsRow w.heap.size 92 9 u ks.length (catv skrC ks)) := Lib.hid (own_below HS5.out.plane.skr ((Below.refl wq.heap.size wq).drew.alloc (Nat.le_refl _) _))
                have HAZ : Hid (w.heap.size ≤ (wq.drew.alloc (.cells (skrA x O) 92)).heap.size) := Lib.hid (by have := HS5.out.bel.size; simp; omega)
                have HPA : Hid ((wq.drew.alloc (.cells (skrA x O) 92)).heap[P]? = some (.cells #[.slice Av B.length cv, u] 88 (0, 0))) := Lib.hid (by
                  rw [Below.heap_alloc wq.drew _ _ (show P < wq.drew.heap.size from HS5.out.plane.plt)]
                  exact hbox)
                have HPB : Hid (u.ownBlock ≠ some P ∧ P < wq.heap.size ∧ True) := Lib.hid ⟨fun e => by
                  obtain ⟨cs, h2⟩ := own_typed HS5.out.plane.skr e
                  rw [hbox] at h2
                  simp at h2, HS5.out.plane.plt, trivial⟩
                have p1 : wq.drew.cell? ⟨P, 1, none⟩ = some u := by rw [cell_of_row _ _ 1 _ _ _ (show wq.drew.heap[P]? = _ from hbox)]; rfl
                have p1a : (wq.drew.alloc (.cells (skrA x O) 92)).cell? ⟨P, 1, none⟩ = some u := by rw [cell_of_row _ _ 1 _ _ _ HPA.out]; rfl
                have p1b : (wq.alloc (.cells (skrA x O) 92)).cell? ⟨P, 1, none⟩ = some u := p1a
                unfold skrA at p1b
                have HNEW : Hid (∀ (Ad : Option Addr) (kd : Nat) (w7 : World), w7.ownsRow w.heap.size 92 9 (.slice Ad (ks.length + 1) kd) (ks.length + 1) (catv skrC ks ++ skrC ⟨x, false, false, -1, O⟩) → Upd (fun k => u.ownBlock = some k) (wq.drew.alloc (.cells (skrA x O) 92)) w7 → RowAt (wq.drew.alloc (.cells (skrA x O) 92)) u (.slice Ad (ks.length + 1) kd) → BdSt w (w7.setCell ⟨P, 1, none⟩ (.slice Ad (ks.length + 1) kd)) P (P + 1) (.slice Av B.length cv) (.slice Ad (ks.length + 1) kd) vs B (ks ++ [⟨x, false, false, -1, O⟩]) (R ++ [x])) := Lib.hid (fun Ad kd w7 ho hu2 hat => bd_more HS5.out ho hu2)
                clear hbox hy5 hne
                refine wp_region_held_drew (S := (fun U => U.cell? ⟨X + 1, 0, none⟩ = some (.int .i64 x.who.cab) ∧ U.cell? ⟨X + 1, 1, none⟩ = some (.bool x.who.fit) ∧ U.cell? ⟨X + 1, 2, none⟩ = some (.bool x.who.inf) ∧ U.cell? ⟨X + 1, 3, none⟩ = some (.int .i64 x.seat.num) ∧ U.cell? ⟨X + 1, 4, none⟩ = some (.int .u8 (x.seat.ltr.toNat : Int)) ∧ U.cell? ⟨X + 1, 5, none⟩ = some (.bool false) ∧ U.cell? ⟨X + 1, 6, none⟩ = some (.bool false) ∧ U.cell? ⟨X + 1, 7, none⟩ = some (.int .i64 (-1)) ∧ U.cell? ⟨X + 1, 8, none⟩ = some (.int .i64 O))) (by kernel_rfl) (by exact MK.out _ ud) (fun hHeld => ?_)
                refine wpAnyH_take (i := 0) (v := ?_) rfl (by kernel_rfl) (by kernel_rfl) (by kernel_rfl) (fun _ _ _ h => h) (Or.inl ⟨by kernel_rfl, ?_⟩) (by assumption) ?_
                rotate_left
                · (intro w hSw; (try dsimp only at hSw); go_simp; try with_reducible rfl)
                try simp only [Act.put, List.getElem_toArray, List.getElem_cons_succ, List.getElem_cons_zero, List.setIfInBounds_toArray, List.set_cons_zero, List.set_cons_succ]
                refine wpAnyH_take (i := 1) (v := ?_) rfl (by kernel_rfl) (by kernel_rfl) (by kernel_rfl) (fun _ _ _ h => h) (Or.inl ⟨by kernel_rfl, ?_⟩) (by assumption) ?_
                rotate_left
                · (intro w hSw; (try dsimp only at hSw); go_simp; try with_reducible rfl)
                try simp only [Act.put, List.getElem_toArray, List.getElem_cons_succ, List.getElem_cons_zero, List.setIfInBounds_toArray, List.set_cons_zero, List.set_cons_succ]
                refine wpAnyH_take (i := 2) (v := ?_) rfl (by kernel_rfl) (by kernel_rfl) (by kernel_rfl) (fun _ _ _ h => h) (Or.inl ⟨by kernel_rfl, ?_⟩) (by assumption) ?_
                rotate_left
                · (intro w hSw; (try dsimp only at hSw); go_simp; try with_reducible rfl)
                try simp only [Act.put, List.getElem_toArray, List.getElem_cons_succ, List.getElem_cons_zero, List.setIfInBounds_toArray, List.set_cons_zero, List.set_cons_succ]
                refine wpAnyH_take (i := 3) (v := ?_) rfl (by kernel_rfl) (by kernel_rfl) (by kernel_rfl) (fun _ _ _ h => h) (Or.inl ⟨by kernel_rfl, ?_⟩) (by assumption) ?_
                rotate_left
                · (intro w hSw; (try dsimp only at hSw); go_simp; try with_reducible rfl)
                try simp only [Act.put, List.getElem_toArray, List.getElem_cons_succ, List.getElem_cons_zero, List.setIfInBounds_toArray, List.set_cons_zero, List.set_cons_succ]
                refine wpAnyH_take (i := 5) (v := ?_) rfl (by kernel_rfl) (by kernel_rfl) (by kernel_rfl) (fun _ _ _ h => h) (Or.inl ⟨by kernel_rfl, ?_⟩) (by assumption) ?_
                rotate_left
                · (intro w hSw; (try dsimp only at hSw); go_simp; try with_reducible rfl)
                try simp only [Act.put, List.getElem_toArray, List.getElem_cons_succ, List.getElem_cons_zero, List.setIfInBounds_toArray, List.set_cons_zero, List.set_cons_succ]
                refine wpAnyH_ready (rs := [4, 6]) (by kernel_rfl) (by simp) ?_
                refine AllReadyH.cons rfl (fun K hK => ?_) (AllReadyH.cons rfl (fun K hK => ?_) AllReadyH.nil)
                · go_simp
                  refine hK.out _ _ (by exact MK.out _ (by first | exact ud | exact ua | exact ua3 | exact ua3.setCell _ (.inr rfl) _)) (fun hHeld => ?_)
                  clear hK K
                  try simp only [Act.put, List.getElem_toArray, List.getElem_cons_succ, List.getElem_cons_zero, List.setIfInBounds_toArray, List.set_cons_zero, List.set_cons_succ]
                  refine wpAnyH_ready (rs := [6]) (by kernel_rfl) (by simp) ?_
                  refine AllReadyH.cons rfl (fun K hK => ?_) AllReadyH.nil
                  go_simp
                  refine hK.out _ _ (by exact MK.out _ (by first | exact ud | exact ua | exact ua3 | exact ua3.setCell _ (.inr rfl) _)) (fun hHeld => ?_)
                  clear hK K
                  try simp only [Act.put, List.getElem_toArray, List.getElem_cons_succ, List.getElem_cons_zero, List.setIfInBounds_toArray, List.set_cons_zero, List.set_cons_succ]
                  refine wpAnyH_ready (rs := [7]) (by kernel_rfl) (by simp) ?_
                  refine AllReadyH.cons rfl (fun K hK => ?_) AllReadyH.nil
                  refine step_app (by rfl) (.tmp 72) (.tmp 74) 86 (by rfl) w.heap.size 92 i0 _ 9 56 Tryd.underlying86 hi0 hz0 hz1 hz2 rfl (by omega) u ks.length (catv skrC ks) _ (some ⟨wq.heap.size, 0, none⟩) 1 1 (skrC ⟨x, false, false, -1, O⟩) (by rfl) (by exact OA.out) (by rfl) (rd_block (heap_alloc_new wq.drew (.cells (skrA x O) 92)) rfl) (skrC_cell _) (by have := HRL.out.2; omega) (by have := HRL.out.2; unfold maxLen; omega) (by exact HAZ.out) ?_
                  intro u' w7 ho7 hu7 hat7
                  obtain ⟨Ad, kd, rfl⟩ := own_shape ho7
                  have ua3 : Upd (fun k => u.ownBlock = some k ∨ k = P) wq w7 := ua.trans hu7 (fun k _ h => .inl h)
                  have e7 := (hu7.block P (by have := HPB.out.2.1; simp; omega) HPB.out.1).trans HPA.out
                  have p1' : w7.cell? ⟨P, 1, none⟩ = some u := by rw [cell_of_row _ _ 1 _ _ _ e7]; rfl
                  have f1' : w7.frozen? ⟨P, 1, none⟩ = false := frozen_of_row _ _ _ _ _ e7
                  refine hK.out _ _ (by exact MK.out _ (by first | exact ud | exact ua | exact ua3 | exact ua3.setCell _ (.inr rfl) _)) (fun hHeld => ?_)
                  clear hK K
                  try simp only [Act.put, List.getElem_toArray, List.getElem_cons_succ, List.getElem_cons_zero, List.setIfInBounds_toArray, List.set_cons_zero, List.set_cons_succ]
                  refine wpAnyH_ready (rs := [8]) (by kernel_rfl) (by simp) ?_
                  refine AllReadyH.cons rfl (fun K hK => ?_) AllReadyH.nil
                  go_simp
                  refine hK.out _ _ (by exact MK.out _ (by first | exact ud | exact ua | exact ua3 | exact ua3.setCell _ (.inr rfl) _)) (fun hHeld => ?_)
                  clear hK K
                  try simp only [Act.put, List.getElem_toArray, List.getElem_cons_succ, List.getElem_cons_zero, List.setIfInBounds_toArray, List.set_cons_zero, List.set_cons_succ]
                  refine wpAnyH_ready (rs := [9]) (by kernel_rfl) (by simp) ?_
                  refine AllReadyH.cons rfl (fun K hK => ?_) AllReadyH.nil
                  go_simp
                  refine hK.out _ _ (by exact MK.out _ (by first | exact ud | exact ua | exact ua3 | exact ua3.setCell _ (.inr rfl) _)) (fun hHeld => ?_)
                  clear hK K
                  try simp only [Act.put, List.getElem_toArray, List.getElem_cons_succ, List.getElem_cons_zero, List.setIfInBounds_toArray, List.set_cons_zero, List.set_cons_succ]
                  refine wpAnyH_ready (rs := [10]) (by kernel_rfl) (by simp) ?_
                  refine AllReadyH.cons rfl (fun K hK => ?_) AllReadyH.nil
                  go_simp
                  refine hK.out _ _ (by exact MK.out _ (by first | exact ud | exact ua | exact ua3 | exact ua3.setCell _ (.inr rfl) _)) (fun hHeld => ?_)
                  clear hK K
                  try simp only [Act.put, List.getElem_toArray, List.getElem_cons_succ, List.getElem_cons_zero, List.setIfInBounds_toArray, List.set_cons_zero, List.set_cons_succ]
                  refine wpAnyH_done (by kernel_rfl) ?_ _
                  have HN7 : Hid (BdSt w (w7.setCell ⟨P, 1, none⟩ (.slice Ad (ks.length + 1) kd)) P (P + 1) (.slice Av B.length cv) (.slice Ad (ks.length + 1) kd) vs B (boardK L [] (rs.take (k + 1))) (rs.take (k + 1))) := Lib.hid (by
                    rw [HNX.out.1, HNX.out.2]
                    exact HNEW.out Ad kd w7 ho7 hu7 hat7)
                  clear ho7 hu7 hat7 e7 ua3 hHeld
                  go_wp2
                  go_roundw
                  case rel => exact ⟨k + 1, _, by go_num, hlt, HN7⟩
                  case measure => simp [intOf]; omega
                · go_simp
                  refine hK.out _ _ (by exact MK.out _ (by first | exact ud | exact ua | exact ua3 | exact ua3.setCell _ (.inr rfl) _)) (fun hHeld => ?_)
                  clear hK K
                  try simp only [Act.put, List.getElem_toArray, List.getElem_cons_succ, List.getElem_cons_zero, List.setIfInBounds_toArray, List.set_cons_zero, List.set_cons_succ]
                  refine wpAnyH_ready (rs := [4]) (by kernel_rfl) (by simp) ?_
                  refine AllReadyH.cons rfl (fun K hK => ?_) AllReadyH.nil
                  go_simp
                  refine hK.out _ _ (by exact MK.out _ (by first | exact ud | exact ua | exact ua3 | exact ua3.setCell _ (.inr rfl) _)) (fun hHeld => ?_)
                  clear hK K
                  try simp only [Act.put, List.getElem_toArray, List.getElem_cons_succ, List.getElem_cons_zero, List.setIfInBounds_toArray, List.set_cons_zero, List.set_cons_succ]
                  refine wpAnyH_ready (rs := [7]) (by kernel_rfl) (by simp) ?_
                  refine AllReadyH.cons rfl (fun K hK => ?_) AllReadyH.nil
                  refine step_app (by rfl) (.tmp 72) (.tmp 74) 86 (by rfl) w.heap.size 92 i0 _ 9 56 Tryd.underlying86 hi0 hz0 hz1 hz2 rfl (by omega) u ks.length (catv skrC ks) _ (some ⟨wq.heap.size, 0, none⟩) 1 1 (skrC ⟨x, false, false, -1, O⟩) (by rfl) (by exact OA.out) (by rfl) (rd_block (heap_alloc_new wq.drew (.cells (skrA x O) 92)) rfl) (skrC_cell _) (by have := HRL.out.2; omega) (by have := HRL.out.2; unfold maxLen; omega) (by exact HAZ.out) ?_
                  intro u' w7 ho7 hu7 hat7
                  obtain ⟨Ad, kd, rfl⟩ := own_shape ho7
                  have ua3 : Upd (fun k => u.ownBlock = some k ∨ k = P) wq w7 := ua.trans hu7 (fun k _ h => .inl h)
                  have e7 := (hu7.block P (by have := HPB.out.2.1; simp; omega) HPB.out.1).trans HPA.out
                  have p1' : w7.cell? ⟨P, 1, none⟩ = some u := by rw [cell_of_row _ _ 1 _ _ _ e7]; rfl
                  have f1' : w7.frozen? ⟨P, 1, none⟩ = false := frozen_of_row _ _ _ _ _ e7
                  refine hK.out _ _ (by exact MK.out _ (by first | exact ud | exact ua | exact ua3 | exact ua3.setCell _ (.inr rfl) _)) (fun hHeld => ?_)
                  clear hK K
                  try simp only [Act.put, List.getElem_toArray, List.getElem_cons_succ, List.getElem_cons_zero, List.setIfInBounds_toArray, List.set_cons_zero, List.set_cons_succ]
                  refine wpAnyH_ready (rs := [8]) (by kernel_rfl) (by simp) ?_
                  refine AllReadyH.cons rfl (fun K hK => ?_) AllReadyH.nil
                  go_simp
                  refine hK.out _ _ (by exact MK.out _ (by first | exact ud | exact ua | exact ua3 | exact ua3.setCell _ (.inr rfl) _)) (fun hHeld => ?_)
                  clear hK K
                  try simp only [Act.put, List.getElem_toArray, List.getElem_cons_succ, List.getElem_cons_zero, List.setIfInBounds_toArray, List.set_cons_zero, List.set_cons_succ]
                  refine wpAnyH_ready (rs := [9]) (by kernel_rfl) (by simp) ?_
                  refine AllReadyH.cons rfl (fun K hK => ?_) AllReadyH.nil
                  go_simp
                  refine hK.out _ _ (by exact MK.out _ (by first | exact ud | exact ua | exact ua3 | exact ua3.setCell _ (.inr rfl) _)) (fun hHeld => ?_)
                  clear hK K
                  try simp only [Act.put, List.getElem_toArray, List.getElem_cons_succ, List.getElem_cons_zero, List.setIfInBounds_toArray, List.set_cons_zero, List.set_cons_succ]
                  refine wpAnyH_ready (rs := [10]) (by kernel_rfl) (by simp) ?_
                  refine AllReadyH.cons rfl (fun K hK => ?_) AllReadyH.nil
                  go_simp
                  refine hK.out _ _ (by exact MK.out _ (by first | exact ud | exact ua | exact ua3 | exact ua3.setCell _ (.inr rfl) _)) (fun hHeld => ?_)
                  clear hK K
                  try simp only [Act.put, List.getElem_toArray, List.getElem_cons_succ, List.getElem_cons_zero, List.setIfInBounds_toArray, List.set_cons_zero, List.set_cons_succ]
                  refine wpAnyH_done (by kernel_rfl) ?_ _
                  have HN7 : Hid (BdSt w (w7.setCell ⟨P, 1, none⟩ (.slice Ad (ks.length + 1) kd)) P (P + 1) (.slice Av B.length cv) (.slice Ad (ks.length + 1) kd) vs B (boardK L [] (rs.take (k + 1))) (rs.take (k + 1))) := Lib.hid (by
                    rw [HNX.out.1, HNX.out.2]
                    exact HNEW.out Ad kd w7 ho7 hu7 hat7)
                  clear ho7 hu7 hat7 e7 ua3 hHeld
                  go_wp2
                  go_roundw
                  case rel => exact ⟨k + 1, _, by go_num, hlt, HN7⟩
                  case measure => simp [intOf]; omega
        · obtain rfl : k = n2 := by omega
          have hki : ¬ (k : Int) < (k : Int) := by omega
          have HPL : Hid (PlaneAt wr w.heap.size P (.slice Av B.length cv) u vs (blocksOf (spotsL l)) (boardK (spotsL l) [] rs)) := Lib.hid (by
            have h1 := hst.out.plane
            rw [HNL.out, List.take_length] at h1
            rw [HBL.out.1, HBL.out.2]
            exact h1)
          have HBW := Lib.hid hst.out.bel
          clear hst
          go_wp2
          go_ret2
          refine ⟨HBW.out, ?_⟩
          rw [if_neg (fun h => h HE.out), if_neg (by rw [← HNL.out]; omega)]
          exact ⟨P, _, u, vs, rfl, HPL.out⟩
  · have hEi : ¬ E = 0 := hE0
    have HB1 := Lib.hid hb1
    clear hb1 HCK
    go_wp2
    go_ret2
    refine ⟨HB1.out, ?_⟩
    rw [if_pos (by rw [HE.out]; exact hE0), HE.out]
    rfl
end Go.Proofs.YtppjpledjhinbaaDoor
