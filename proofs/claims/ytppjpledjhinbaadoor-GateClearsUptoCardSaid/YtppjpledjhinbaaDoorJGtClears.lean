/- GateClears' walk (printed by pre.py). -/
import Derived.Test.YtppjpledjhinbaaDoorJGtWhos
import Derived.Test.YtppjpledjhinbaaDoorJGtClrP
import Derived.Test.YtppjpledjhinbaaDoorJGtMap
import Derived.Deep.RegionHeld3
namespace Go.Proofs.YtppjpledjhinbaaDoor
open Go.RowKit Go.Lib
theorem whoC_cell (x : MWho) : ∀ u ∈ whoC x, u.oneCell' = true := by
  intro u hu
  simp [whoC] at hu
  rcases hu with rfl | rfl | rfl <;> rfl
/-- While those who were taken are gathered. -/
structure GcSt (w5 wx : World) (M N : Nat) (av : Value) (us : List MWho) (f : Int → Int) : Prop where
  own : wx.ownsRow w5.heap.size 28 3 av us.length (catv whoC us)
  mp : InMap wx M N f
  bel : Below w5.heap.size w5 wx
  lo : w5.heap.size ≤ M
theorem GcSt.below {w5 wx wy : World} {M N : Nat} {av : Value} {us : List MWho} {f : Int → Int} (h : GcSt w5 wx M N av us f) (hb : Below wx.heap.size wx wy) : GcSt w5 wy M N av us f :=
  ⟨own_below h.own hb, h.mp.below hb, h.bel.trans (hb.mono h.bel.size), h.lo⟩
theorem takeW_len (ws : List MWho) (D : List Nat) : (takeW ws D).length = D.length := by simp [takeW]
theorem takeW_snoc (ws : List MWho) (D : List Nat) (i : Nat) : takeW ws (D ++ [i]) = takeW ws D ++ [ws.getD i whoZ] := by simp [takeW]
set_option maxHeartbeats 8000000 in
set_option maxRecDepth 20000 in
theorem gclears_any (w : World) (mm : Int) (A : Option Addr) (n c : Nat) (l : List MRow) (hr : Rd w w.heap.size 5 A n (catv rowC l)) (hf : ∀ r ∈ l, r.fits) (hLib : LibAt w mm) (A1 : Option Addr) (n1 c1 : Nat) (sure : List MWho) (hr1 : Rd w w.heap.size 3 A1 n1 (catv whoC sure)) (hn1 : n1 ≤ 1048576) (A2 : Option Addr) (n2 c2 : Nat) (ws : List MWho) (hr2 : Rd w w.heap.size 3 A2 n2 (catv whoC ws)) (hn2 : n2 ≤ 1048576) :
    Calls Tryd.prog 12 #[.slice A n c, .slice A1 n1 c1, .slice A2 n2 c2] w fun e w' => e = .returned (.bool true) ∧ Below w.heap.size w w' := by
  obtain ⟨i1, hi1, hy0, hy1, hy2⟩ := info_parts who_infoG
  have hl1 := (rd_catlen whoC_len (by decide) hr1).symm
  have hl2 := (rd_catlen whoC_len (by decide) hr2).symm
  have HLV := Lib.hid (glives_any w mm hLib)
  have HR := Lib.hid hr
  have HF := Lib.hid hf
  have HLB := Lib.hid hLib
  have HR1 := Lib.hid hr1
  have HR2 := Lib.hid hr2
  have HL1 := Lib.hid hl1
  have HL2 := Lib.hid hl2
  clear hr hf hLib hr1 hr2 hl1 hl2
  go_enter Tryd.func12, Tryd.ntmps12
  go_wp2_with fail
  refine HLV.out.mono ?_
  rintro e w1 ⟨rfl, hb1⟩
  have HCL := Lib.hid (clear_any w1 mm A n c l ((HR.out.below hb1).mono hb1.size) HF.out (HLB.out.below hb1) A1 n1 c1 sure ((HR1.out.below hb1).mono hb1.size) A2 n2 c2 ws ((HR2.out.below hb1).mono hb1.size) (by omega) (by omega))
  have HB1 := Lib.hid hb1
  clear hb1 HLV
  go_wp2_with fail
  refine HCL.out.mono ?_
  rintro e w2 ⟨hb2, hd⟩
  have hb02 := HB1.out.trans (hb2.mono HB1.out.size)
  by_cases hE : errC l ≠ 0
  · rw [if_pos hE] at hd
    subst hd
    obtain ⟨E, hE1⟩ : ∃ E, errC l = E := ⟨_, rfl⟩
    rw [hE1] at hE ⊢
    have HB2 := Lib.hid hb02
    have hne : ¬ E = 0 := hE
    clear hb2 hb02 hE1 HCL
    go_wp2
    go_ret
    exact ⟨rfl, HB2.out⟩
  · rw [if_neg hE] at hd
    by_cases hlt : 20 < sure.length + ws.length
    · rw [if_pos hlt] at hd
      subst hd
      have HB2 := Lib.hid hb02
      clear hb2 hb02 hlt hE HCL
      go_wp2
      go_ret
      exact ⟨rfl, HB2.out⟩
    · rw [if_neg hlt] at hd
      have hE0 : errC l = 0 := Classical.byContradiction hE
      by_cases hfs : fitL l (sure.map rider) = false
      · rw [if_pos hfs] at hd
        subst hd
        have HJN := Lib.hid (joint_any w2 mm A n c l ((HR.out.below hb02).mono hb02.size) HF.out (HLB.out.below hb02) A1 n1 c1 sure ((HR1.out.below hb02).mono hb02.size))
        have HB2 := Lib.hid hb02
        have HE := Lib.hid hE
        have HLT := Lib.hid hlt
        have HFS := Lib.hid hfs
        clear hb2 hb02 hlt hE HCL hE0 hfs
        go_wp2_with fail
        refine HJN.out.mono ?_
        rintro e w3 ⟨hb3, hj⟩
        rw [if_neg HE.out, if_neg (by have := HLT.out; omega)] at hj
        obtain ⟨k, hk, rfl⟩ := hj
        have hk2 := fitL_is hk
        rw [List.length_map, HFS.out] at hk2
        rw [hk2]
        have HB3 := Lib.hid (HB2.out.trans (hb3.mono HB2.out.size))
        clear hk hk2 hb3 HJN
        go_wp2
        go_ret
        exact ⟨rfl, HB3.out⟩
      · rw [if_neg hfs] at hd
        have hft : fitL l (sure.map rider) = true := by simpa using hfs
        obtain ⟨v, rfl, ho⟩ := hd
        obtain ⟨D, hD⟩ := clears_ok l sure ws (by omega) hft
        rw [hD.out, List.length_map, List.map_map] at ho
        obtain ⟨Al, cl, rfl⟩ := own_shape ho
        have HD := Lib.hid hD
        have HO2 : Hid (w2.ownsRow w1.heap.size 3 1 (.slice Al D.length cl) D.length (D.map fun i : Nat => Value.int .i64 (i : Int))) := Lib.hid ho
        have HJ : Hid (∀ (W : World) (Aq : Option Addr) (nq cq : Nat) (us : List MWho) (b : Bool), Below w.heap.size w W → Rd W W.heap.size 3 Aq nq (catv whoC us) → us.length ≤ sure.length + ws.length → fitL l (us.map rider) = b → Calls Tryd.prog 27 #[.slice A n c, .slice Aq nq cq] W fun e w' => e = .returned (.tuple #[.bool b, .int .i64 0]) ∧ Below W.heap.size W w') := Lib.hid (fun W Aq nq cq us b hb hru hul hfu => by
          refine (joint_any W mm A n c l ((HR.out.below hb).mono hb.size) HF.out (HLB.out.below hb) Aq nq cq us hru).mono ?_
          rintro e w3 ⟨hb3, hj⟩
          rw [if_neg hE, if_neg (by omega)] at hj
          obtain ⟨k, hk, rfl⟩ := hj
          have hk2 := fitL_is hk
          rw [List.length_map, hfu] at hk2
          rw [hk2]
          exact ⟨rfl, hb3⟩)
        have HJ1 := Lib.hid (HJ.out w2 A1 n1 c1 sure true hb02 ((HR1.out.below hb02).mono hb02.size) (by omega) hft)
        have HLN : Hid (sure.length + ws.length ≤ 20) := Lib.hid (by omega)
        have HE := Lib.hid hE
        have HLT := Lib.hid hlt
        have HFS := Lib.hid hfs
        have HB2 := Lib.hid hb02
        clear hD ho hb2 hb02 hE hE0 hlt hfs hft HCL
        go_wp2_with fail
        refine HJ1.out.mono ?_
        rintro e w5 ⟨rfl, hb5⟩
        have HB5 := Lib.hid (HB2.out.trans (hb5.mono HB2.out.size))
        have HO5 := Lib.hid (own_below HO2.out hb5)
        have t4 := own_empty w5 28 3 w5.heap.size (Nat.le_refl _)
        have hbe : Below w5.heap.size w5 (w5.alloc (.cells #[] 28)) := (Below.refl _ _).alloc (Nat.le_refl _) _
        have hb05 := HB5.out.trans (hbe.mono HB5.out.size)
        have t5 := HR1.out.below hb05
        have t6 := catv_cell whoC_cell sure
        have HBE := Lib.hid hbe
        clear hb5 hbe hb05 HO2 HJ1 HB2
        go_wp2_with (at_builtin; refine wpList_app rfl (.tmp 45) (.tmp 46) 57 rfl w5.heap.size 28 i1 _ 3 16 Tryd.underlying57 hi1 hy0 hy1 hy2 rfl (by omega) _ 0 [] w.heap.size A1 n1 c1 (catv whoC sure) rfl t4 rfl t5 t6 ?e1 ?e2 ?e3 ?_)
        case e1 => omega
        case e2 => unfold maxLen; omega
        case e3 => simp
        intro v6 w6 ho6 hu6 _
        have hb6 : Below w5.heap.size w5 w6 := HBE.out.trans (hu6.below (fun k hk e => by simp [Value.ownBlock] at e; omega) HBE.out.size)
        have hmm := @run_makeMap Tryd.prog
        have hs0 : GcSt w5 (w6.alloc (.map #[] 0)) w6.heap.size 0 v6 sure (inF []) := by
          have hbA : Below w6.heap.size w6 (w6.alloc (.map #[] 0)) := (Below.refl _ _).alloc (Nat.le_refl _) _
          have ho7 := own_below ho6 hbA
          rw [← HL1.out] at ho7
          refine ⟨ho7, ?_, hb6.trans (hbA.mono hb6.size), hb6.size⟩
          rw [inF_nil]
          exact InMap.made w6
        have HS0 := Lib.hid hs0
        obtain ⟨M, hM⟩ : ∃ M, w6.heap.size = M := ⟨_, rfl⟩
        rw [hM] at HS0
        clear ho6 hu6 t4 t5 t6 hb6 hs0 HBE
        go_wp2
        clear hM hmm
        go_loopw [51, 11] (fun iv ov wx => ∃ (k : Nat) (av : Value), iv = .int .i64 (k : Int) ∧ av = ov ∧ k ≤ D.length ∧ Hid (GcSt w5 wx M k av (sure ++ takeW ws (D.take k)) (inF (D.take k)))) (fun iv _ _ => D.length - (intOf iv).toNat)
        case atStart => exact ⟨0, _, rfl, rfl, Nat.zero_le _, by simpa [takeW] using HS0⟩
        case round =>
          obtain ⟨k, av, rfl, rfl, hk, hst⟩ := hrel
          by_cases hlt : k < D.length
          · have hbx := HB5.out.trans (hst.out.bel.mono HB5.out.size)
            obtain ⟨g, e, hgl, hcl⟩ := ints_cell (own_below HO5.out hst.out.bel) hlt hlt
            subst e
            have hx2 := HD.out.lt _ (List.getElem_mem hlt)
            have htk := List.take_succ_eq_append_getElem hlt
            obtain ⟨i, hi⟩ : ∃ i, D[k] = i := ⟨_, rfl⟩
            have hprev : 0 < k → ∃ j : Nat, wr.cell? ⟨g, k - 1, none⟩ = some (.int .i64 (j : Int)) ∧ j < i := fun h0 => by
              obtain ⟨g2, e, _, h2⟩ := ints_cell (own_below HO5.out hst.out.bel) (k := k - 1) (by omega) (by omega)
              simp only [Option.some.injEq, Addr.mk.injEq, and_true] at e
              subst e
              refine ⟨_, h2, ?_⟩
              rw [← hi]
              exact (List.pairwise_iff_getElem.1 HD.out.up) (k - 1) k (by omega) hlt (by omega)
            rw [hi] at hcl hx2 htk
            have hin2 : i < n2 := by rw [← HL2.out]; exact hx2
            obtain ⟨gb, off, e, hgb, hsl, hcc⟩ := (HR2.out.below hbx).elem whoC_len (by decide) hin2
            subst e
            obtain ⟨x, hx⟩ : ∃ x, ws[i] = x := ⟨_, rfl⟩
            rw [hx] at hcc
            have hxg : ws.getD i whoZ = x := by rw [List.getD_eq_getElem?_getD, List.getElem?_eq_getElem hx2, ← hx]; rfl
            have hc0 := hcc 0 (.int .i64 x.cab) rfl
            have hc1 := hcc 1 (.bool x.fit) rfl
            have hc2 := hcc 2 (.bool x.inf) rfl
            rw [Nat.add_zero] at hc0
            obtain ⟨us, hus⟩ : ∃ us, sure ++ takeW ws (D.take k) = us := ⟨_, rfl⟩
            obtain ⟨F, hF⟩ : ∃ F, inF (D.take k) = F := ⟨_, rfl⟩
            have HUS : Hid (sure ++ takeW ws (D.take (k + 1)) = us ++ [x]) := Lib.hid (by rw [htk, takeW_snoc, hxg, ← List.append_assoc, hus])
            have HFF : Hid (inF (D.take (k + 1)) = fun q => if q = (i : Int) then 1 else F q) := Lib.hid (by rw [htk, inF_snoc, hF])
            rw [hus, hF] at hst
            have hul : us.length ≤ 1048576 + k := by rw [← hus, List.length_append, takeW_len, List.length_take, HL1.out]; omega
            have hk20 : k ≤ 20 := by
              have h1 := hst.out.own
              have h2 := HLN.out
              have h3 : D.length ≤ ws.length := by
                have := List.Nodup.length_le_of_subset (l₁ := D) (l₂ := List.range ws.length) (HD.out.up.imp (fun h => Nat.ne_of_lt h)) (fun i hi => by simpa using HD.out.lt i hi)
                simpa using this
              omega
            obtain ⟨w7, hmu, hm7, hu7⟩ := hst.out.mp.put (q := (i : Int)) (by omega) (by omega) 1
            have hc0b : w7.cell? ⟨gb, off + i * 3, none⟩ = some (.int .i64 x.cab) := (hu7.cell (p := ⟨gb, off + i * 3, none⟩) (Nat.lt_of_lt_of_le hgb (hbx.size)) (fun e => by have := hst.out.lo; have := HB5.out.size; simp only at e; omega)).trans hc0
            have hc1b : w7.cell? ⟨gb, off + i * 3 + 1, none⟩ = some (.bool x.fit) := (hu7.cell (p := ⟨gb, off + i * 3 + 1, none⟩) (Nat.lt_of_lt_of_le hgb (hbx.size)) (fun e => by have := hst.out.lo; have := HB5.out.size; simp only at e; omega)).trans hc1
            have hc2b : w7.cell? ⟨gb, off + i * 3 + 2, none⟩ = some (.bool x.inf) := (hu7.cell (p := ⟨gb, off + i * 3 + 2, none⟩) (Nat.lt_of_lt_of_le hgb (hbx.size)) (fun e => by have := hst.out.lo; have := HB5.out.size; simp only at e; omega)).trans hc2
            have hs7 : GcSt w5 w7 M (k + 1) av us (fun q => if q = (i : Int) then 1 else F q) := by
              refine ⟨own_upd hst.out.own hu7 (fun q e e2 => ?_), hm7, hst.out.bel.trans (hu7.below (fun q hq e => by have := hst.out.lo; omega) hst.out.bel.size), hst.out.lo⟩
              obtain ⟨cs, hcs⟩ := own_typed hst.out.own e
              exact hst.out.mp.not_cells hcs e2
            have HS7 := Lib.hid hs7
            have hki : (k : Int) < (D.length : Int) := by omega
            have hk0 : (0 : Int) ≤ (k : Int) := by omega
            have hii : (i : Int) < (n2 : Int) := by rw [← HL2.out]; omega
            have hi0 : (0 : Int) ≤ (i : Int) := by omega
            have hil : decide ((i : Int) < 0) = false := decide_eq_false (by omega)
            have hig : decide ((n2 : Int) ≤ (i : Int)) = false := decide_eq_false (by omega)
            clear hcc hx hxg hus hF htk hi hbx hsl hst hs7 hm7 hu7
            have fin : ∀ v8 w8, w8.ownsRow w5.heap.size 28 3 v8 (us.length + 1) (catv whoC us ++ [.int .i64 x.cab, .bool x.fit, .bool x.inf]) → Upd (fun k => av.ownBlock = some k) w7 w8 → Hid (GcSt w5 w8 M (k + 1) v8 (sure ++ takeW ws (D.take (k + 1))) (inF (D.take (k + 1)))) := fun v8 w8 ho8 hu8 => Lib.hid (by
              have h8 := HS7.out
              rw [HUS.out, HFF.out]
              refine ⟨by rw [List.length_append, catv_append, catv_one]; exact ho8, h8.mp.upd hu8 (fun e => ?_), h8.bel.trans (hu8.below (fun q hq e => by have := (h8.own.lt q e).1; omega) h8.bel.size), h8.lo⟩
              obtain ⟨cs, hcs⟩ := own_typed h8.own e
              exact h8.mp.not_cells hcs rfl)
            have FIN := Lib.hid fin
            clear fin
            by_cases h0 : 0 < k
            · obtain ⟨j, hcj, hji⟩ := hprev h0
              obtain ⟨kp, hkp⟩ : ∃ kp, k - 1 = kp := ⟨_, rfl⟩
              rw [hkp] at hcj
              have hwk : IntKind.i64.wrap ((k : Int) - 1) = (kp : Int) := by rw [IntWalk.i64_in _ (by omega)]; omega
              have hkpl : (kp : Int) < (D.length : Int) := by omega
              have hkp0 : (0 : Int) ≤ (kp : Int) := by omega
              have hgt : decide ((0 : Int) < (k : Int)) = true := decide_eq_true (by omega)
              have hge : decide ((i : Int) ≤ (j : Int)) = false := decide_eq_false (by omega)
              clear hprev hkp
              go_wp2_with (at_builtin; refine wpList_push rfl (.tmp 79) (.tmp 84) 57 rfl w5.heap.size 28 i1 _ 3 16 Tryd.underlying57 hi1 hy0 hy1 hy2 rfl (by omega) _ us.length (catv whoC us) #[.int .i64 x.cab, .bool x.fit, .bool x.inf] rfl (by exact HS7.out.own) (by simp [Act.eval]) rfl (by simp [Value.oneCell']) ?k1 ?k2 ?k3 ?_)
              case k1 => omega
              case k2 => unfold maxLen; omega
              case k3 => exact HS7.out.bel.size
              intro v8 w8 ho8 hu8 _
              have HFN := FIN.out v8 w8 ho8 hu8
              clear ho8 hu8
              go_wp2
              go_roundw
              case rel => exact ⟨k + 1, _, by go_num, rfl, hlt, HFN⟩
              case measure => (simp [intOf]; try omega)
            · obtain rfl : k = 0 := by omega
              have hgt : decide ((0 : Int) < ((0 : Nat) : Int)) = false := rfl
              clear hprev
              go_wp2_with (at_builtin; refine wpList_push rfl (.tmp 79) (.tmp 84) 57 rfl w5.heap.size 28 i1 _ 3 16 Tryd.underlying57 hi1 hy0 hy1 hy2 rfl (by omega) _ us.length (catv whoC us) #[.int .i64 x.cab, .bool x.fit, .bool x.inf] rfl (by exact HS7.out.own) (by simp [Act.eval]) rfl (by simp [Value.oneCell']) ?m1 ?m2 ?m3 ?_)
              case m1 => omega
              case m2 => unfold maxLen; omega
              case m3 => exact HS7.out.bel.size
              intro v8 w8 ho8 hu8 _
              have HFN := FIN.out v8 w8 ho8 hu8
              clear ho8 hu8
              go_wp2
              go_roundw
              case rel => exact ⟨0 + 1, _, by go_num, rfl, hlt, HFN⟩
              case measure => (simp [intOf]; try omega)
          · obtain rfl : k = D.length := by omega
            have hki : ¬ (D.length : Int) < (D.length : Int) := by omega
            have hst := hst.out
            rw [List.take_length] at hst
            have hbx := HB5.out.trans (hst.bel.mono HB5.out.size)
            obtain ⟨us, hus⟩ : ∃ us, sure ++ takeW ws D = us := ⟨_, rfl⟩
            rw [hus] at hst
            have hul : us.length ≤ 20 := by
              have h2 := HLN.out
              have h3 : D.length ≤ ws.length := by
                have := List.Nodup.length_le_of_subset (l₁ := D) (l₂ := List.range ws.length) (HD.out.up.imp (fun h => Nat.ne_of_lt h)) (fun i hi => by simpa using HD.out.lt i hi)
                simpa using this
              rw [← hus, List.length_append, takeW_len]; omega
            have hule : us.length ≤ sure.length + ws.length := by
              have h3 : D.length ≤ ws.length := by
                have := List.Nodup.length_le_of_subset (l₁ := D) (l₂ := List.range ws.length) (HD.out.up.imp (fun h => Nat.ne_of_lt h)) (fun i hi => by simpa using HD.out.lt i hi)
                simpa using this
              rw [← hus, List.length_append, takeW_len]; omega
            obtain ⟨Aa, ca, rfl⟩ := own_shape hst.own
            have HJ2 := Lib.hid (HJ.out wr Aa us.length ca us true hbx (Rd.own hst.own) hule (by rw [← hus]; exact HD.out.fits))
            have HUS := Lib.hid hus
            have HST := Lib.hid hst
            have HBX := Lib.hid hbx
            have HUL := Lib.hid hul
            clear hst hus hbx HS0 hule hul
            go_wp2_with fail
            refine HJ2.out.mono ?_
            rintro e w8 ⟨rfl, hb8⟩
            have HS8 := Lib.hid (HST.out.below hb8)
            have HB8 := Lib.hid (HBX.out.trans (hb8.mono HBX.out.size))
            have hw2 : IntKind.i64.wrap ((n2 : Int) - 1) = (n2 : Int) - 1 := IntWalk.i64_in _ (by omega)
            obtain ⟨na, hna⟩ : ∃ na, us.length = na := ⟨_, rfl⟩
            rw [hna] at HS8 ⊢
            have HNA := Lib.hid hna
            clear hb8 HJ2 HST HBX hna
            go_wp2
            clear hw2
            go_loopw [16, 15] (fun iv bv wx => ∃ (m : Nat) (z : Int), iv = .int .i64 z ∧ z = (m : Int) - 1 ∧ m ≤ n2 ∧ Hid (wx.ownsRow w8.heap.size 28 3 bv (n2 - m) (catv whoC (ws.drop m).reverse)) ∧ Hid (Below w8.heap.size w8 wx)) (fun iv _ _ => (intOf iv + 1).toNat)
            case atStart => exact ⟨n2, _, rfl, rfl, Nat.le_refl _, Lib.hid (by rw [Nat.sub_self, List.drop_eq_nil_of_le (by rw [HL2.out]; exact Nat.le_refl _)]; exact World.ownsRow_nil _ _ _ _), Lib.hid (Below.refl _ _)⟩
            case round =>
              obtain ⟨m, z, rfl, hz, hm, hO, hB⟩ := hrel
              by_cases hm0 : m = 0
              · subst hm0
                have hzn : decide ((0 : Int) ≤ z) = false := decide_eq_false (by omega)
                have hO := hO.out
                rw [Nat.sub_zero, List.drop_zero] at hO
                obtain ⟨Ab, cb, rfl⟩ := own_shape hO
                have hb9 := HB8.out.trans (hB.out.mono HB8.out.size)
                have HCL := Lib.hid (clear_any wr mm A n c l ((HR.out.below hb9).mono hb9.size) HF.out (HLB.out.below hb9) A1 n1 c1 sure ((HR1.out.below hb9).mono hb9.size) Ab n2 cb ws.reverse (Rd.own hO) (by omega) (by omega))
                have HB9 := Lib.hid hb9
                clear hO hB hb9
                go_wp2_with fail
                refine HCL.out.mono ?_
                rintro e w10 ⟨hb10, hd⟩
                rw [if_neg HE.out, if_neg (by rw [List.length_reverse]; exact HLT.out), if_neg HFS.out] at hd
                obtain ⟨vz, rfl, hoz⟩ := hd
                obtain ⟨Az, cz, rfl⟩ := own_shape hoz
                rw [HD.out.back]
                have HB10 := Lib.hid (HB9.out.trans (hb10.mono HB9.out.size))
                clear hoz hb10 HCL
                go_wp2
                go_ret
                exact ⟨rfl, HB10.out⟩
              · obtain ⟨q, hq⟩ : ∃ q, m = q + 1 := ⟨m - 1, by omega⟩
                subst hq
                obtain rfl : z = (q : Int) := by omega
                clear hz
                have hqw : q < ws.length := by rw [HL2.out]; omega
                have hbx := HB8.out.trans (hB.out.mono HB8.out.size)
                obtain ⟨gb, off, e, hgb, hsl, hcc⟩ := (HR2.out.below hbx).elem whoC_len (by decide) (show q < n2 by omega)
                subst e
                obtain ⟨x, hx⟩ : ∃ x, ws[q] = x := ⟨_, rfl⟩
                rw [hx] at hcc
                have hxg : ws.getD q whoZ = x := by rw [List.getD_eq_getElem?_getD, List.getElem?_eq_getElem hqw, ← hx]; rfl
                have hc0 := hcc 0 (.int .i64 x.cab) rfl
                have hc1 := hcc 1 (.bool x.fit) rfl
                have hc2 := hcc 2 (.bool x.inf) rfl
                rw [Nat.add_zero] at hc0
                have hdr : (ws.drop q).reverse = (ws.drop (q + 1)).reverse ++ [x] := by rw [List.drop_eq_getElem_cons hqw, List.reverse_cons, hx]
                have hnq : n2 - q = (n2 - (q + 1)) + 1 := by omega
                have HDR := Lib.hid (And.intro hdr hnq)
                obtain ⟨bs, hbs⟩ : ∃ bs, (ws.drop (q + 1)).reverse = bs := ⟨_, rfl⟩
                obtain ⟨nb, hnb⟩ : ∃ nb, n2 - (q + 1) = nb := ⟨_, rfl⟩
                rw [hbs, hnb] at HDR hO
                have hnb2 : nb ≤ 1048576 := by omega
                have HOA := hO
                have HBA := hB
                have hq2 : (q : Int) < (n2 : Int) := by omega
                have hq0 : (0 : Int) ≤ (q : Int) := by omega
                have hgb8 : gb < w.heap.size := hgb
                clear hcc hx hdr hnq hbs hnb hbx hsl hO hB
                go_wp2_with (at_builtin; refine wpList_push rfl (.tmp 106) (.tmp 111) 57 rfl w8.heap.size 28 i1 _ 3 16 Tryd.underlying57 hi1 hy0 hy1 hy2 rfl (by omega) _ nb (catv whoC bs) #[.int .i64 x.cab, .bool x.fit, .bool x.inf] rfl (by exact HOA.out) (by simp [Act.eval]) rfl (by simp [Value.oneCell']) ?j1 ?j2 ?j3 ?_)
                case j1 => omega
                case j2 => unfold maxLen; omega
                case j3 => exact HBA.out.size
                intro v9 V ho9 hu9 _
                have HO9 : Hid (V.ownsRow w8.heap.size 28 3 v9 (n2 - q) (catv whoC (ws.drop q).reverse)) := Lib.hid (by rw [HDR.out.1, HDR.out.2, catv_append, catv_one]; exact ho9)
                have hbV : Below w8.heap.size w8 V := HBA.out.trans (hu9.below (fun k hk e => by have := (HOA.out.lt k e).1; omega) HBA.out.size)
                have HBV := Lib.hid hbV
                have hlk := (HS8.out.mp.below hbV).look (q := (q : Int)) (by omega)
                rw [inF_at] at hlk
                clear ho9 hu9 hbV HOA HBA hc0 hc1 hc2 HDR
                by_cases hqd : q ∈ D
                · rw [if_pos hqd] at hlk
                  clear hqd
                  go_wp2
                  go_roundw
                  case rel => exact ⟨q, _, by go_num, rfl, by omega, HO9, HBV⟩
                  case measure => (simp [intOf]; try omega)
                · rw [if_neg hqd] at hlk
                  have hbx := HB8.out.trans (HBV.out.mono HB8.out.size)
                  have HJF : Hid (∀ (U : World) (g cap : Nat), Below V.heap.size V U → Rd U U.heap.size 3 (some ⟨g, 0, none⟩) (na + 1) (catv whoC (us ++ [x])) → Calls Tryd.prog 27 #[.slice A n c, .slice (some ⟨g, 0, none⟩) (na + 1) cap] U fun e w' => e = .returned (.tuple #[.bool false, .int .i64 0]) ∧ Below U.heap.size U w') := Lib.hid (fun U g cap hU hRu => by
                    refine HJ.out U (some ⟨g, 0, none⟩) (na + 1) cap (us ++ [x]) false (hbx.trans (hU.mono hbx.size)) hRu ?_ ?_
                    · rw [← HUS.out, List.length_append, List.length_append, takeW_len, List.length_singleton]
                      have := List.Nodup.length_le_of_subset (l₁ := q :: D) (l₂ := List.range ws.length) (List.nodup_cons.2 ⟨hqd, HD.out.up.imp (fun h => Nat.ne_of_lt h)⟩) (fun i hi => by
                        rcases List.mem_cons.1 hi with rfl | hi
                        · simpa using hqw
                        · simpa using HD.out.lt i hi)
                      simp only [List.length_cons, List.length_range] at this
                      omega
                    · rw [← HUS.out, ← hxg]
                      exact HD.out.no q hqw hqd)
                  have HSV : Hid (∀ U : World, Below V.heap.size V U → Rd U V.heap.size 3 Aa na (catv whoC us)) := Lib.hid (fun U hU => by
                    have h0 := HS8.out.own
                    rw [HNA.out] at h0
                    exact (Rd.own (own_below h0 HBV.out)).below hU)
                  have HEC := Lib.hid (catv_cell whoC_cell us)
                  have hRx := HR2.out.below hbx
                  have HC : Hid (∀ U : World, Below V.heap.size V U → Below V.heap.size V U ∧ U.cell? ⟨gb, off + q * 3, none⟩ = some (.int .i64 x.cab) ∧ U.cell? ⟨gb, off + q * 3 + 1, none⟩ = some (.bool x.fit) ∧ U.cell? ⟨gb, off + q * 3 + 2, none⟩ = some (.bool x.inf)) := Lib.hid (fun U hU => by
                    have hbU := hbx.trans (hU.mono hbx.size)
                    obtain ⟨gb2, off2, e, _, _, hcc⟩ := (HR2.out.below hbU).elem whoC_len (by decide) (show q < n2 by omega)
                    simp only [Option.some.injEq, Addr.mk.injEq, and_true] at e
                    obtain ⟨rfl, rfl⟩ := e
                    have hx : ws[q] = x := by rw [← hxg, List.getD_eq_getElem?_getD, List.getElem?_eq_getElem hqw]; rfl
                    rw [hx] at hcc
                    exact ⟨hU, hcc 0 _ rfl, hcc 1 _ rfl, hcc 2 _ rfl⟩)
                  have hnal : na ≤ 20 := by rw [← HNA.out]; exact HUL.out
                  clear hqd hbx hRx hgb
                  go_upto_region 28 with (fail)
                  clear hlk
                  have hbd : Below V.heap.size V V.drew := ⟨rfl, rfl, rfl, Nat.le_refl _, fun _ _ => rfl⟩
                  have hb1e := hbd.alloc hbd.size (.cells #[] 28)
                  have hb1x := hbd.alloc hbd.size (.cells #[.int .i64 x.cab, .bool x.fit, .bool x.inf] 28)
                  have hb2ex := hb1e.alloc hb1e.size (.cells #[.int .i64 x.cab, .bool x.fit, .bool x.inf] 28)
                  have hb2xe := hb1x.alloc hb1x.size (.cells #[] 28)
                  have o1 := own_empty V.drew 28 3 V.heap.size (Nat.le_refl _)
                  have o2 := o1.alloc (.cells #[.int .i64 x.cab, .bool x.fit, .bool x.inf] 28)
                  have o3 := own_empty (V.drew.alloc (.cells #[.int .i64 x.cab, .bool x.fit, .bool x.inf] 28)) 28 3 V.heap.size hb1x.size
                  have zx : (V.drew.alloc (.cells #[.int .i64 x.cab, .bool x.fit, .bool x.inf] 28)).heap.size = V.heap.size + 1 := by simp
                  rw [zx] at o3
                  have y2 := heap_alloc_new (V.drew.alloc (.cells #[] 28)) (.cells #[.int .i64 x.cab, .bool x.fit, .bool x.inf] 28)
                  have ze : (V.drew.alloc (.cells #[] 28)).heap.size = V.heap.size + 1 := by simp
                  rw [ze] at y2
                  have y3 := (Below.heap_alloc (V.drew.alloc (.cells #[.int .i64 x.cab, .bool x.fit, .bool x.inf] 28)) (.cells #[] 28) V.heap.size (by simp)).trans (heap_alloc_new V.drew (.cells #[.int .i64 x.cab, .bool x.fit, .bool x.inf] 28))
                  have Y2 := Lib.hid y2
                  have Y3 := Lib.hid y3
                  have hone : ∀ u ∈ ([.int .i64 x.cab, .bool x.fit, .bool x.inf] : List Value), u.oneCell' = true := by simp [Value.oneCell']
                  have HONE := Lib.hid hone
                  have O1 := Lib.hid o1
                  have O2 := Lib.hid o2
                  have O3 := Lib.hid o3
                  clear y2 y3 ze hone o1 o2 o3 zx
                  go_region_held3 (fun U => Below V.heap.size V U ∧ U.cell? ⟨gb, off + q * 3, none⟩ = some (.int .i64 x.cab) ∧ U.cell? ⟨gb, off + q * 3 + 1, none⟩ = some (.bool x.fit) ∧ U.cell? ⟨gb, off + q * 3 + 2, none⟩ = some (.bool x.inf))
                    (exact HC.out _ (by first | assumption | exact hbd | exact hb1e | exact hb1x | exact hb2ex | exact hb2xe | exact Below.alloc hb3 hb3.size _))
                    (first
                      | (refine step_app (by rfl) (.tmp 119) (.tmp 120) 57 (by rfl) V.heap.size 28 i1 _ 3 16 Tryd.underlying57 hi1 hy0 hy1 hy2 rfl (by omega) (.slice (some ⟨V.heap.size, 0, none⟩) 0 0) 0 [] V.heap.size Aa na ca (catv whoC us) (by rfl) (by first | exact O1.out | exact O2.out) (by rfl) (HSV.out _ (by first | exact hb1e | exact hb2ex)) HEC.out (by omega) (by unfold maxLen; omega) (by first | exact hb1e.size | exact hb2ex.size) ?_
                         intro v3 w3 ho3 hu3 _
                         have hb3 : Below V.heap.size V w3 := Below.trans (by first | exact hb1e | exact hb2ex) (hu3.below (fun i hi e => by simp [Value.ownBlock] at e; omega) (by first | exact hb1e.size | exact hb2ex.size)))
                      | (refine step_app (by rfl) (.tmp 119) (.tmp 120) 57 (by rfl) V.heap.size 28 i1 _ 3 16 Tryd.underlying57 hi1 hy0 hy1 hy2 rfl (by omega) (.slice (some ⟨V.heap.size + 1, 0, none⟩) 0 0) 0 [] V.heap.size Aa na ca (catv whoC us) (by rfl) (by exact O3.out) (by rfl) (HSV.out _ (by exact hb2xe)) HEC.out (by omega) (by unfold maxLen; omega) (by exact hb2xe.size) ?_
                         intro v3 w3 ho3 hu3 _
                         have hb3 : Below V.heap.size V w3 := Below.trans hb2xe (hu3.below (fun i hi e => by simp [Value.ownBlock] at e; omega) hb2xe.size))
                      | (refine step_app (by rfl) (.tmp 121) (.tmp 126) 57 (by rfl) V.heap.size 28 i1 _ 3 16 Tryd.underlying57 hi1 hy0 hy1 hy2 rfl (by omega) v3 (0 + na) ([] ++ catv whoC us) _ (some ⟨w3.heap.size, 0, none⟩) 1 1 ([.int .i64 x.cab, .bool x.fit, .bool x.inf] : List Value) (by rfl) (by exact ho3.alloc _) (by rfl) (rd_block (heap_alloc_new w3 (.cells #[.int .i64 x.cab, .bool x.fit, .bool x.inf] 28)) rfl) HONE.out (by omega) (by unfold maxLen; omega) (by simp; have := hb3.size; omega) ?_
                         intro v4 w4 ho4 hu4 _
                         have hb4 : Below V.heap.size V w4 := (hb3.alloc hb3.size (.cells #[.int .i64 x.cab, .bool x.fit, .bool x.inf] 28)).trans (hu4.below (fun i hi e => by have := (ho3.lt i e).1; omega) (by simp; have := hb3.size; omega)))
                      | (refine step_app (by rfl) (.tmp 121) (.tmp 126) 57 (by rfl) V.heap.size 28 i1 _ 3 16 Tryd.underlying57 hi1 hy0 hy1 hy2 rfl (by omega) v3 (0 + na) ([] ++ catv whoC us) _ (some ⟨V.heap.size + 1, 0, none⟩) 1 1 ([.int .i64 x.cab, .bool x.fit, .bool x.inf] : List Value) (by rfl) (by exact ho3) (by rfl) (rd_block ((hu3.block (V.heap.size + 1) (by simp) (by simp [Value.ownBlock])).trans Y2.out) rfl) HONE.out (by omega) (by unfold maxLen; omega) (by exact hb3.size) ?_
                         intro v4 w4 ho4 hu4 _
                         have hb4 : Below V.heap.size V w4 := hb3.trans (hu4.below (fun i hi e => by have := (ho3.lt i e).1; omega) hb3.size))
                      | (refine step_app (by rfl) (.tmp 121) (.tmp 126) 57 (by rfl) V.heap.size 28 i1 _ 3 16 Tryd.underlying57 hi1 hy0 hy1 hy2 rfl (by omega) v3 (0 + na) ([] ++ catv whoC us) _ (some ⟨V.heap.size, 0, none⟩) 1 1 ([.int .i64 x.cab, .bool x.fit, .bool x.inf] : List Value) (by rfl) (by exact ho3) (by rfl) (rd_block ((hu3.block V.heap.size (by simp; omega) (by simp [Value.ownBlock])).trans Y3.out) rfl) HONE.out (by omega) (by unfold maxLen; omega) (by exact hb3.size) ?_
                         intro v4 w4 ho4 hu4 _
                         have hb4 : Below V.heap.size V w4 := hb3.trans (hu4.below (fun i hi e => by have := (ho3.lt i e).1; omega) hb3.size))
                      | (go_at_call 27
                         rw [List.nil_append, Nat.zero_add] at ho4
                         obtain ⟨g4, cap4, rfl, -, -, -, -⟩ := own_form ho4 (by omega)
                         have hr4 : Rd w4 w4.heap.size 3 (some ⟨g4, 0, none⟩) (na + 1) (catv whoC (us ++ [x])) := by
                           rw [catv_append, catv_one]
                           exact Rd.own ho4
                         refine (HJF.out _ g4 cap4 hb4 hr4).mono ?_
                         rintro e w11 ⟨rfl, hb11⟩
                         have hb12 : Below V.heap.size V w11 := hb4.trans (hb11.mono hb4.size))
                      | fail)
                  all_goals go_wp2_with fail
                  all_goals go_roundw
                  all_goals first
                    | exact ⟨q, _, by go_num, rfl, by omega, Lib.hid (own_below HO9.out hb12), Lib.hid (HBV.out.trans (hb12.mono HBV.out.size))⟩
                    | (simp [intOf]; try omega)
end Go.Proofs.YtppjpledjhinbaaDoor
