/- Merging versions: the law MergeExact, walked. -/
import Derived.Test.YtcfgmkiohmbdlaaMgRTr2
import Derived.Test.YtcfgmkiohmbdlaaMgTrims
import Derived.Test.YtcfgmkiohmbdlaaOwnAny
import Derived.Deep.RegionHeld3
namespace Go.Proofs.Ytcfgmkiohmbdlaa
open Go.RowKit
theorem LsRd.go {w w' : World} {n : Nat} {A : Option Addr} {vs : List Value} {Ls : List (List Ent)} (h : LsRd w w.heap.size A n vs Ls) (hb : Below w.heap.size w w') : LsRd w' w'.heap.size A n vs Ls := by
  have h2 := h.below hb
  exact ⟨h2.rd.mono hb.size, h2.len, fun i g g' => by
    obtain ⟨A, n, c, e, hr⟩ := h2.each i g g'
    exact ⟨A, n, c, e, hr.mono hb.size⟩⟩
def spareM : Ent := ⟨⟨#[115, 112, 97, 114, 101]⟩, 0, false, ⟨#[]⟩⟩
set_option maxHeartbeats 8000000 in
set_option maxRecDepth 20000 in
theorem mexact_any (w : World) (A0 : Option Addr) (n0 c0 : Nat) (a : List Ent) (A1 : Option Addr) (n1 c1 : Nat) (b : List Ent) (A2 : Option Addr) (n2 c2 : Nat) (seen : List Int) (hr0 : Rd w w.heap.size 4 A0 n0 (entv a)) (hr1 : Rd w w.heap.size 4 A1 n1 (entv b)) (hr2 : Rd w w.heap.size 1 A2 n2 (i64v seen)) (hn0 : n0 ≤ 1048576) (hn1 : n1 ≤ 1048576) (hn2 : n2 ≤ 1048576) (hmx : ∀ x ∈ a, x.seq ≤ 9223372036854775807) :
    Calls Try.prog 3 #[.slice A0 n0 c0, .slice A1 n1 c1, .slice A2 n2 c2] w fun e w' => e = .returned (.bool true) ∧ Below w.heap.size w w' := by
  obtain ⟨ii, hii, hj0, hj1, hj2⟩ := info_parts int_info
  obtain ⟨i0, hi0, hz0, hz1, hz2⟩ := info_parts ent_info2
  have HLA := Lib.hid (rd_entlen hr0)
  have HLB := Lib.hid (rd_entlen hr1)
  have HSL := Lib.hid (show n2 = seen.length by have := hr2.len; rw [i64v_length] at this; omega)
  have R0 := Lib.hid hr0
  have R1 := Lib.hid hr1
  have R2 := Lib.hid hr2
  have HMX := Lib.hid hmx
  have HL := Lib.hid (mlives_any w)
  clear hr0 hr1 hr2 hmx
  go_enter Try.func3, Try.ntmps3
  go_wp2_with fail
  refine HL.out.mono ?_
  rintro e w1 ⟨rfl, hb⟩
  have HB1 := Lib.hid hb
  replace R0 := Lib.hid (R0.out.go hb)
  replace R1 := Lib.hid (R1.out.go hb)
  replace R2 := Lib.hid (R2.out.go hb)
  clear hb HL
  have t1 := own_nothing w1 26 4
  have t2 := R0.out.below (bel_new w1 (.cells #[] 26))
  have t3 := entv_cell a
  go_wp2_with (at_builtin; refine wpList_app rfl (.tmp 19) (.tmp 20) 22 rfl w1.heap.size 26 i0 _ 4 48 Try.underlying22 hi0 hz0 hz1 hz2 rfl (by omega) _ 0 [] w1.heap.size A0 n0 c0 (entv a) rfl (by exact t1) rfl (by exact t2) t3 ?c1 ?c2 ?c3 ?_)
  case c1 => omega
  case c2 => unfold maxLen; omega
  case c3 => simp
  intro v2 w2 ho2 hu2 _
  clear t1 t2 t3
  have hb2 : Below w1.heap.size w1 w2 := (bel_new w1 (.cells #[] 26)).trans (hu2.below (fun k hk e => by simp [Value.ownBlock] at e; omega) (by simp))
  have HO2 := Lib.hid ho2
  have HB2 := Lib.hid hb2
  have hB2 := hb2.size
  clear ho2 hu2 hb2
  go_wp2_with (at_builtin; refine wpList_push rfl (.tmp 21) (.tmp 23) 22 rfl w1.heap.size 26 i0 _ 4 48 Try.underlying22 hi0 hz0 hz1 hz2 rfl (by omega) _ n0 (entv a) #[.string ⟨#[115, 112, 97, 114, 101]⟩, .int .i64 0, .bool false, .string ⟨#[]⟩] rfl (by exact HO2.out) rfl rfl (by simp [Value.oneCell']) ?d1 ?d2 ?d3 ?_)
  case d1 => omega
  case d2 => unfold maxLen; omega
  all_goals try (exact hB2)
  intro v3 w3 ho3 hu3 _
  obtain ⟨gx, cx, rfl, hgb, hgl, hnc, hcm⟩ := own_form ho3 (by omega)
  have hb3 : Below w1.heap.size w1 w3 := below_row HB2.out hB2 HO2.out (Nat.le_refl _) hu3
  have HRX := Lib.hid (Rd.own ho3)
  have HB3 := Lib.hid (bel_go HB1.out hb3)
  replace R0 := Lib.hid (R0.out.go hb3)
  replace R1 := Lib.hid (R1.out.go hb3)
  replace R2 := Lib.hid (R2.out.go hb3)
  clear ho3 hu3 hb3 HO2 HB2 HB1 hB2
  have t1 := own_nothing w3 3 1
  have t2 := R2.out.below (bel_new w3 (.cells #[] 3))
  have t3 := i64v_one seen
  go_wp2_with (at_builtin; refine wpList_app rfl (.tmp 25) (.tmp 26) 23 rfl w3.heap.size 3 ii _ 1 8 Try.underlying23 hii hj0 hj1 hj2 rfl (by omega) _ 0 [] w3.heap.size A2 n2 c2 (i64v seen) rfl (by exact t1) rfl (by exact t2) t3 ?e1 ?e2 ?e3 ?_)
  case e1 => omega
  case e2 => unfold maxLen; omega
  case e3 => simp
  intro v4 w4 ho4 hu4 _
  clear t1 t2 t3
  have hb4 : Below w3.heap.size w3 w4 := (bel_new w3 (.cells #[] 3)).trans (hu4.below (fun k hk e => by simp [Value.ownBlock] at e; omega) (by simp))
  have HO4 := Lib.hid ho4
  have HB4 := Lib.hid hb4
  have hB4 := hb4.size
  clear ho4 hu4 hb4
  go_wp2_with (at_builtin; refine wpList_push rfl (.tmp 27) (.tmp 28) 23 rfl w3.heap.size 3 ii _ 1 8 Try.underlying23 hii hj0 hj1 hj2 rfl (by omega) _ n2 (i64v seen) #[.int .i64 (-77)] rfl (by exact HO4.out) rfl rfl (by simp [Value.oneCell']) ?f1 ?f2 ?f3 ?_)
  case f1 => omega
  case f2 => unfold maxLen; omega
  all_goals try (exact hB4)
  intro v5 w5 ho5 hu5 _
  obtain ⟨gn, cn, rfl, hgnb, hgnl, hncn, _⟩ := own_form ho5 (by omega)
  have hb5 : Below w3.heap.size w3 w5 := below_row HB4.out hB4 HO4.out (Nat.le_refl _) hu5
  have HRN := Lib.hid (Rd.own ho5)
  have HB5 := Lib.hid (bel_go HB3.out hb5)
  replace HRX := Lib.hid (HRX.out.go hb5)
  replace R0 := Lib.hid (R0.out.go hb5)
  replace R1 := Lib.hid (R1.out.go hb5)
  replace R2 := Lib.hid (R2.out.go hb5)
  have hxl : gx < w5.heap.size := Nat.lt_of_lt_of_le hgl hb5.size
  clear ho5 hu5 hb5 HO4 HB4 HB3 hB4
  have hell : (entv a).length = n0 * 4 := by rw [entv_length, ← HLA.out]
  have hsll : (i64v seen).length = n2 * 1 := by rw [i64v_length, ← HSL.out]; omega
  have HXA := Lib.hid (rd_snoc HRX.out hell)
  have HNA := Lib.hid (rd_snoc HRN.out hsll)
  have hboth := ls_two (c1 := c0) (c2 := c1) R0.out R1.out
  have hbb : Below w5.heap.size w5 (w5.alloc (.cells #[.slice A0 n0 c0, .slice A1 n1 c1] 22)) := bel_new _ _
  have hargs := ls_two (c1 := cx) (c2 := c1) (HXA.out.go hbb) (R1.out.go hbb)
  have hfl : [a, b].flatten = a ++ b := by simp
  have hlen : (a ++ b).length ≤ 2097152 := by rw [List.length_append, ← HLA.out, ← HLB.out]; omega
  have hme := merge_any _ _ 2 2 _ _ hargs (by decide) (by rw [hfl]; omega)
  have hml := mergeL_len (a ++ b)
  rw [hfl] at hme
  obtain ⟨M, hM⟩ : ∃ M, mergeL (a ++ b) = M := ⟨_, rfl⟩
  rw [hM] at hme hml
  have hMl : M.length ≤ 2097152 := by omega
  simp only [World.size_alloc] at hme
  have HMM := Lib.hid (show mergeL [a, b].flatten = M by rw [hfl, hM])
  have HMQ := Lib.hid hM
  have HME := Lib.hid hme
  have HBO := Lib.hid hboth
  have HTL : Hid ([a, b].flatten.length ≤ 1073741824) := Lib.hid (by rw [hfl]; omega)
  clear hboth hbb hargs hme hml hfl hM hlen hell hsll
  go_wp2_with fail
  refine HME.out.mono ?_
  rintro e w7 ⟨v7, rfl, ho7, hb7⟩
  have hb7' : Below w5.heap.size w5 w7 := ((Below.refl _ _).alloc (Nat.le_refl _) _).alloc (by simp) _ |>.trans (hb7.mono (by omega))
  obtain ⟨A7, c7, rfl⟩ := own_shape ho7
  have HO7 := Lib.hid (own_mono ho7 (by omega : w5.heap.size ≤ w5.heap.size + 1 + 1))
  have HBW7 := Lib.hid hb7'
  replace HBO := Lib.hid (HBO.out.go ((bel_new _ _).trans (hb7.mono (by simp))))
  clear ho7 hb7 hb7' HME
  have hrm := rmerge_any w7 _ 2 2 _ _ HBO.out (by decide) HTL.out
  rw [HMM.out] at hrm
  have HRM := Lib.hid hrm
  clear hrm
  go_wp2_with fail
  refine HRM.out.mono ?_
  rintro e w8 ⟨A8, n8, c8, rfl, hnc8, hr8, hb8, hnew8⟩
  have hn8 := rd_entlen hr8
  obtain ⟨N, hN⟩ : ∃ N, M.length = N := ⟨_, rfl⟩
  rw [hN] at hn8 hMl HO7
  rw [hN]
  have hn8' := hn8.symm
  subst hn8'
  have HNM := Lib.hid hN
  have HO8 := Lib.hid (own_below HO7.out hb8)
  have HW8 := Lib.hid hr8
  have HNW := Lib.hid hnew8
  have HL7 : Hid (∀ k, (Value.slice A7 N c7).ownBlock = some k → w5.heap.size ≤ k ∧ k < w7.heap.size) := Lib.hid fun k e => HO7.out.lt k e
  have hw57 : w5.heap.size ≤ w7.heap.size := HBW7.out.size
  have HBW8 := Lib.hid (HBW7.out.trans (hb8.mono hw57))
  have hw78 : w7.heap.size ≤ w8.heap.size := hb8.size
  clear hr8 hb8 hnew8 HO7 HRM HBO hN HTL HMM
  have hxa8 := (HXA.out.below HBW8.out).mono HBW8.out.size
  have hra8 := ls_two (c1 := cx) (c2 := c1) hxa8 ((R1.out.below HBW8.out).mono HBW8.out.size)
  have hfl : [a, b].flatten = a ++ b := by simp
  have hme2 := merge_any _ _ 2 2 _ _ hra8 (by decide) (by rw [hfl, List.length_append, ← HLA.out, ← HLB.out]; omega)
  rw [hfl, HMQ.out, HNM.out] at hme2
  simp only [World.size_alloc] at hme2
  have HME2 := Lib.hid hme2
  clear hra8 hme2 hfl hxa8
  go_wp2_with fail
  refine HME2.out.mono ?_
  rintro e w9 ⟨v9, rfl, ho9, hb9⟩
  have hb9' : Below w8.heap.size w8 w9 := (bel_new w8 _).trans (hb9.mono (by simp))
  obtain ⟨A9, c9, rfl⟩ := own_shape ho9
  have HR9 := Lib.hid (Rd.own ho9)
  have HL9 : Hid (0 < N → ∃ ad, A9 = some ad ∧ w8.heap.size + 1 ≤ ad.block) := Lib.hid (own_from ho9)
  have HO9 := Lib.hid (own_below HO8.out hb9')
  have HW9 := Lib.hid (HW8.out.go hb9')
  have HBW9 := Lib.hid (HBW8.out.trans (hb9'.mono HBW8.out.size))
  have hw89 : w8.heap.size ≤ w9.heap.size := hb9'.size
  clear ho9 hb9 hb9' HME2 HO8 HW8 HBW8 HBW7
  have HSM := Lib.hid (same_b (c := c7) (c' := c8) (Rd.own HO9.out) HW9.out rfl (by omega))
  go_wp2_with fail
  refine HSM.out.mono ?_
  rintro e w10 ⟨rfl, hb10⟩
  have HR10 := Lib.hid (HR9.out.go hb10)
  have HO10 := Lib.hid (own_below HO9.out hb10)
  have HW10 := Lib.hid (HW9.out.go hb10)
  have HBW10 := Lib.hid (HBW9.out.trans (hb10.mono HBW9.out.size))
  have hw9 : w9.heap.size ≤ w10.heap.size := hb10.size
  clear hb10 HSM HR9 HO9 HW9 HBW9
  have HSM := Lib.hid (same_b (c := c9) (c' := c8) HR10.out HW10.out rfl (by omega))
  go_wp2_with fail
  refine HSM.out.mono ?_
  rintro e w11 ⟨rfl, hb11⟩
  have HR11 := Lib.hid (HR10.out.go hb11)
  have HO11 : Hid (OwnAny w11 w5.heap.size 26 4 (.slice A7 N c7) N) := Lib.hid ⟨_, own_below HO10.out hb11⟩
  have HW11 := Lib.hid (HW10.out.go hb11)
  have HBW11 := Lib.hid (HBW10.out.trans (hb11.mono HBW10.out.size))
  have hw10 : w10.heap.size ≤ w11.heap.size := hb11.size
  clear hb11 HSM HR10 HO10 HW10 HBW10
  go_wp2
  go_loopw [61] (fun i wx => ∃ j : Nat, j ≤ N ∧ i = .int .i64 (j : Int) ∧ Hid (OwnAny wx w5.heap.size 26 4 (.slice A7 N c7) N) ∧ Hid (Upd (fun b => (Value.slice A7 N c7).ownBlock = some b) w11 wx)) (fun i _ => N - (intOf i).toNat)
  case atStart => exact ⟨0, Nat.zero_le _, rfl, HO11, Lib.hid (Upd.refl _ _)⟩
  case round =>
    clear HO11
    obtain ⟨j, hjn, rfl, hoa, hua⟩ := hrel
    by_cases hj : j < N
    · obtain ⟨ga, rfl⟩ : ∃ ga, A7 = some ⟨ga, 0, none⟩ := by
        obtain ⟨xs, hx⟩ := hoa.out
        obtain ⟨ga, ca, e, _⟩ := own_form hx (by omega)
        injection e with e
        exact ⟨ga, e⟩
      obtain ⟨u0, hu0⟩ := hoa.out.cell (j * 4) (by omega)
      obtain ⟨u1, hu1⟩ := hoa.out.cell (j * 4 + 1) (by omega)
      obtain ⟨u2, hu2⟩ := hoa.out.cell (j * 4 + 2) (by omega)
      obtain ⟨u3, hu3⟩ := hoa.out.cell (j * 4 + 3) (by omega)
      have fz0 := hoa.out.frozen (j * 4)
      have fz1 := hoa.out.frozen (j * 4 + 1)
      have fz2 := hoa.out.frozen (j * 4 + 2)
      have fz3 := hoa.out.frozen (j * 4 + 3)
      have j1 : (0 : Int) ≤ (j : Int) := by omega
      have j2 : (j : Int) < (N : Int) := by omega
      go_wp2
      go_roundw
      case rel => exact ⟨j + 1, hj, by go_num, Lib.hid (hoa.out.set4 (j * 4) _ _ _ _), Lib.hid ((((hua.out.setCell ⟨ga, j * 4, none⟩ rfl _).setCell ⟨ga, j * 4 + 1, none⟩ rfl _).setCell ⟨ga, j * 4 + 2, none⟩ rfl _).setCell ⟨ga, j * 4 + 3, none⟩ rfl _)⟩
      case measure => simp [intOf]; omega
    · obtain rfl : j = N := by omega
      obtain ⟨xs, hx⟩ := hoa.out
      have HX := Lib.hid hx
      have hwr := hua.out.size
      have hz : ¬ (j : Int) < (j : Int) := by omega
      clear hx hoa
      go_wp2_with (at_builtin; refine wpList_push rfl (.tmp 69) (.tmp 71) 22 rfl w5.heap.size 26 i0 _ 4 48 Try.underlying22 hi0 hz0 hz1 hz2 rfl (by omega) _ j xs #[.string ⟨#[]⟩, .int .i64 0, .bool false, .string ⟨#[]⟩] rfl (by exact HX.out) rfl rfl (by simp [Value.oneCell']) ?g1 ?g2 ?g3 ?_)
      case g1 => omega
      case g2 => unfold maxLen; omega
      case g3 => omega
      intro v12 w12 ho12 hu12 _
      obtain ⟨A12, c12, rfl⟩ := own_shape ho12
      have hu := hua.out.trans hu12 (fun k _ h => h)
      have hB := hu.below (B := w5.heap.size) (fun k hk e => by have := (HL7.out k e).1; omega) (by omega)
      have hBW := HBW11.out.trans hB
      have hsz := hu.size
      have HW12 := Lib.hid ((HW11.out.upd hu (Nat.le_refl _) (fun h0 ad e e2 => by
        obtain ⟨ad', e', hge⟩ := HNW.out h0
        rw [e] at e'
        injection e' with e'
        subst e'
        have := (HL7.out _ e2).2
        omega)).mono hsz)
      have HR12 := Lib.hid ((HR11.out.upd hu (Nat.le_refl _) (fun h0 ad e e2 => by
        obtain ⟨ad', e', hge⟩ := HL9.out h0
        rw [e] at e'
        injection e' with e'
        subst e'
        have := (HL7.out _ e2).2
        omega)).mono hsz)
      have HXA12 := Lib.hid ((HXA.out.below hBW).mono hBW.size)
      have HNA12 := Lib.hid ((HNA.out.below hBW).mono hBW.size)
      have HRX12 := Lib.hid ((HRX.out.below hBW).mono hBW.size)
      have HRN12 := Lib.hid ((HRN.out.below hBW).mono hBW.size)
      have HR0 := Lib.hid ((R0.out.below hBW).mono hBW.size)
      have HR2 := Lib.hid ((R2.out.below hBW).mono hBW.size)
      have HB12 := Lib.hid (bel_go HB5.out hBW)
      have HTR := Lib.hid (fun (W : World) (bb : Bool) (hW : Below w12.heap.size w12 W) => trim_any W _ n0 cx a bb _ n2 cn seen (HXA12.out.go hW) (HNA12.out.go hW) HMX.out (by omega) (by omega))
      have HTQ := Lib.hid (fun (W : World) (bb : Bool) (hW : Below w12.heap.size w12 W) => rtrim_any W _ n0 c0 a bb _ n2 c2 seen (HR0.out.go hW) (HR2.out.go hW) HMX.out hn0 (by omega))
      have HVW := Lib.hid (fun (W : World) (x : Int) (hW : Below w12.heap.size w12 W) => view_any W _ n0 cx a x (HXA12.out.go hW) (by omega))
      have HVQ := Lib.hid (fun (W : World) (x : Int) (hW : Below w12.heap.size w12 W) => rview_any W _ n0 c0 a x (HR0.out.go hW) hn0)
      clear ho12 hu12 hu hB hBW hua HX HXA HNA HRX HRN R0 R1 R2 HW11 HR11 HBW11 HB5 HMX HL7 HL9 HNW
      go_wp2
      go_loopw [14] (fun i wx => ∃ q : Nat, q ≤ 2 ∧ i = .int .i64 (q : Int) ∧ Hid (Below w12.heap.size w12 wx)) (fun i _ => 2 - (intOf i).toNat)
      case atStart => exact ⟨0, by omega, rfl, Lib.hid (Below.refl _ _)⟩
      case round =>
        obtain ⟨q, hq, rfl, HW⟩ := hrel
        by_cases hlt : q < 2
        · obtain ⟨bb, hbb⟩ : ∃ bb, ((q : Int) == 0) = bb := ⟨_, rfl⟩
          have HT1 := Lib.hid (fun (W : World) (hW : Below wr.heap.size wr W) => HTR.out W bb (bel_go HW.out hW))
          have HT2 := Lib.hid (fun (W : World) (hW : Below wr.heap.size wr W) => HTQ.out W bb (bel_go HW.out hW))
          have htl := trim_le a bb seen
          rw [← HLA.out] at htl
          obtain ⟨TL, hTL⟩ : ∃ TL, trimL (mergeL a) bb seen = TL := ⟨_, rfl⟩
          rw [hTL] at HT1 HT2 htl
          have k1 : (0 : Int) ≤ (n0 : Int) := by omega
          have k2 : (n0 : Int) ≤ (cx : Int) := by omega
          have k3 : (0 : Int) ≤ (n2 : Int) := by omega
          have k4 : (n2 : Int) ≤ (cn : Int) := by omega
          clear hTL
          go_upto_region 19 with (fail)
          go_cut [94] (fun rv wc => rv = .bool false ∧ Hid (Below wr.heap.size wr wc))
          case first =>
            go_region_held3 (fun W => Below wr.heap.size wr W) (first | exact hB2 | exact below_drewG (Below.refl _ _) _ | exact Below.refl _ _ | fail)
              (first
                | (go_at_call 15; refine (HT1.out _ (by assumption)).mono ?_; rintro e wa ⟨va, rfl, hoa, hba⟩; obtain ⟨Aa, ca, rfl⟩ := own_shape hoa; have hra := Rd.own hoa; have hB2 : Below wr.heap.size wr wa := (by first | exact bel_go hB2 hba | exact bel_go (below_drewG (Below.refl _ _) _) hba); clear hoa)
                | (go_at_call 16; refine (HT2.out _ (by assumption)).mono ?_; rintro e wb ⟨Ab, nb, cb, rfl, hncb, hrb, hbb2⟩; have hra2 := hra.go hbb2; have hB2 : Below wr.heap.size wr wb := bel_go hB2 hbb2)
                | (go_at_call 14; refine (same_b hra2 hrb rfl (by omega)).mono ?_; rintro e wc ⟨rfl, hbc⟩; have hB2 : Below wr.heap.size wr wc := bel_go hB2 hbc)
                | fail)
            all_goals go_wp2
            all_goals go_meet
            all_goals exact ⟨rfl, Lib.hid hB2⟩
          case rest =>
            obtain ⟨rfl, hbc⟩ := hcut
            have HW2 := Lib.hid (bel_go HW.out hbc.out)
            clear hbc HW HT1 HT2
            go_wp2
            go_roundw
            case rel => exact ⟨q + 1, by omega, by go_num, HW2⟩
            case measure => simp [intOf]; omega
        · have hz2 : ¬ (q : Int) < 2 := by omega
          have HBW := Lib.hid (bel_go HB12.out HW.out)
          have HW12 := Lib.hid (HW12.out.go HW.out)
          have HR12 := Lib.hid (HR12.out.go HW.out)
          have HRX12 := Lib.hid (HRX12.out.go HW.out)
          have HRN12 := Lib.hid (HRN12.out.go HW.out)
          have HXA12 := Lib.hid (HXA12.out.go HW.out)
          have HR0 := Lib.hid (HR0.out.go HW.out)
          have HR2 := Lib.hid (HR2.out.go HW.out)
          replace HVW := Lib.hid (fun (W : World) (x : Int) (hW : Below wr.heap.size wr W) => HVW.out W x (bel_go HW.out hW))
          replace HVQ := Lib.hid (fun (W : World) (x : Int) (hW : Below wr.heap.size wr W) => HVQ.out W x (bel_go HW.out hW))
          clear HTR HTQ HW HB12 HNA12
          obtain ⟨w13, rfl⟩ : ∃ w13, w13 = wr := ⟨_, rfl⟩
          go_wp2
          go_loopw [97] (fun i wx => ∃ q : Nat, q ≤ n2 ∧ i = .int .i64 (q : Int) ∧ Hid (Below w13.heap.size w13 wx)) (fun i _ => n2 - (intOf i).toNat)
          case atStart => exact ⟨0, by omega, rfl, Lib.hid (Below.refl _ _)⟩
          case round =>
            obtain ⟨q, hq, rfl, HW⟩ := hrel
            by_cases hlt : q < n2
            · obtain ⟨ad, rfl, hbb, hsq, hcl⟩ := i64v_at (HR2.out.below HW.out) hlt
              obtain ⟨x, hx⟩ : ∃ x, seen[q] = x := ⟨_, rfl⟩
              rw [hx] at hcl
              have hvl : (viewL (mergeL a) x).length ≤ (mergeL a).length := List.length_filter_le _ _
              have hml2 := mergeL_len a
              rw [← HLA.out] at hml2
              obtain ⟨VL, hVL⟩ : ∃ VL, viewL (mergeL a) x = VL := ⟨_, rfl⟩
              have HV1 := Lib.hid (fun (W : World) (hW : Below wr.heap.size wr W) => HVW.out W x (bel_go HW.out hW))
              have HV2 := Lib.hid (fun (W : World) (hW : Below wr.heap.size wr W) => HVQ.out W x (bel_go HW.out hW))
              rw [hVL] at HV1 HV2 hvl
              clear hx hVL
              go_wp2_with fail
              refine (HV1.out _ (Below.refl _ _)).mono ?_
              rintro e wa ⟨va, rfl, hoa, hba⟩
              obtain ⟨Aa, ca, rfl⟩ := own_shape hoa
              have HRA := Lib.hid (Rd.own hoa)
              have HBA := Lib.hid hba
              clear hoa hba HV1
              go_wp2_with fail
              refine (HV2.out _ HBA.out).mono ?_
              rintro e wb ⟨Ab, nb, cb, rfl, hncb, hrb, hbb2⟩
              have HSM := Lib.hid (same_b (c := ca) (c' := cb) (HRA.out.go hbb2) hrb rfl (by omega))
              have HBB := Lib.hid (bel_go HBA.out hbb2)
              clear hrb hbb2 HV2 HRA HBA
              go_wp2_with fail
              refine HSM.out.mono ?_
              rintro e wc ⟨rfl, hbc⟩
              have HW2 := Lib.hid (bel_go HW.out (bel_go HBB.out hbc))
              clear hbc HSM HBB HW
              go_wp2
              go_roundw
              case rel => exact ⟨q + 1, by omega, by go_num, HW2⟩
              case measure => simp [intOf]; omega
            · have hz3 : ¬ (q : Int) < (n2 : Int) := by omega
              have HBX := Lib.hid (bel_go HBW.out HW.out)
              have HW14 := Lib.hid (HW12.out.go HW.out)
              have HR14 := Lib.hid (HR12.out.go HW.out)
              have HRX14 := Lib.hid (HRX12.out.go HW.out)
              have HRN14 := Lib.hid (HRN12.out.go HW.out)
              have HXA14 := Lib.hid (HXA12.out.go HW.out)
              have HR014 := Lib.hid (HR0.out.go HW.out)
              clear HVW HVQ HBW HW12 HR12 HRX12 HRN12 HXA12 HR0 HW
              have HSM := Lib.hid (same_b (c := c9) (c' := c8) HR14.out HW14.out rfl (by omega))
              go_wp2_with fail
              refine HSM.out.mono ?_
              rintro e wa ⟨rfl, hba⟩
              have HBA := Lib.hid hba
              have HSM2 := Lib.hid (same_b (c := cx) (c' := c0) (HXA14.out.go hba) (HR014.out.go hba) rfl (by omega))
              clear hba HSM HR14 HW14 HXA14 HR014
              go_wp2_with fail
              refine HSM2.out.mono ?_
              rintro e wb ⟨rfl, hbb⟩
              have hbab := bel_go HBA.out hbb
              have hrx := HRX14.out.go hbab
              have hrn := HRN14.out.go hbab
              have HBB := Lib.hid (bel_go HBX.out hbab)
              have hell : (entv a).length = n0 * 4 := by rw [entv_length, ← HLA.out]
              have hsll : (i64v seen).length = n2 * 1 := by rw [i64v_length, ← HSL.out]; omega
              have d0 : wb.cell? ⟨gx, n0 * 4, none⟩ = some (.string ⟨#[115, 112, 97, 114, 101]⟩) := by
                obtain ⟨ad, e, _, hc⟩ := hrx.at_ (by omega)
                injection e with e
                have := hc (n0 * 4) (.string ⟨#[115, 112, 97, 114, 101]⟩) (by rw [List.getElem?_append_right (by omega), hell, Nat.sub_self]; rfl)
                rw [← add_zero_off gx (n0 * 4), e]
                exact this
              have d1 : wb.cell? ⟨gn, n2, none⟩ = some (.int .i64 (-77)) := by
                obtain ⟨ad, e, _, hc⟩ := hrn.at_ (by omega)
                injection e with e
                have := hc n2 (.int .i64 (-77)) (by rw [List.getElem?_append_right (by omega), hsll, Nat.mul_one, Nat.sub_self]; rfl)
                rw [← add_zero_off gn n2, e]
                exact this
              have i1 : (n0 : Int) < (n0 : Int) + 1 := by omega
              have i2 : (n2 : Int) < (n2 : Int) + 1 := by omega
              have hnil : LsRd wb wb.heap.size none 0 [] [] := ⟨Rd.nil, rfl, fun i g => absurd g (by simp)⟩
              have hm0 := merge_any wb none 0 0 [] [] hnil (by decide) (by simp)
              rw [show mergeL ([] : List (List Ent)).flatten = [] by rfl] at hm0
              have HM0 := Lib.hid hm0
              clear hbab hrx hrn hbb hell hsll hnil hm0 HSM2 HBX HRX14 HRN14
              go_wp2_with fail
              refine HM0.out.mono ?_
              rintro e wd ⟨vd, rfl, hod, hbd⟩
              obtain ⟨Ad, cd, rfl⟩ := own_shape hod
              have HBD := Lib.hid (bel_go HBB.out hbd)
              clear hod hbd HM0 HBB
              go_wp2
              go_ret
              exact ⟨rfl, HBD.out⟩
end Go.Proofs.Ytcfgmkiohmbdlaa
