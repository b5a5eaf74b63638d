/- Merging versions: the law MergeTrims, walked. -/
import Derived.Test.YtcfgmkiohmbdlaaMgJoins
namespace Go.Proofs.Ytcfgmkiohmbdlaa
open Go.RowKit
theorem int_info : (Try.prog.info? 3).map (fun i => (i.zero, i.size, i.bytes)) = some (some (.int .i64 0), 1, 8) := by kernel_rfl
theorem own_empty (w : World) (e : TypeId) (size base : Nat) (hb : base ≤ w.heap.size) : (w.alloc (.cells #[] e)).ownsRow base e size (.slice (some ⟨w.heap.size, 0, none⟩) 0 0) 0 [] :=
  ⟨by simp, .inr ⟨_, 0, #[], rfl, hb, heap_alloc_new w _, Nat.le_refl _, Nat.zero_le _, by simp, by simp⟩⟩
theorem trim_sees {l : List Ent} {b : Bool} {seen : List Int} {a : Int} (hmax : ∀ y ∈ l, y.seq ≤ 9223372036854775807) (ha : a ∈ seen ∨ ∀ y ∈ l, y.seq ≤ a) : viewL (mergeL (trimL (mergeL l) b seen)) a = viewL (mergeL l) a := by
  rw [mergeL_rise (rise_trim (rise_merge l) b seen)]
  exact view_trim (mergeL l) b seen a (ha.imp id fun h y hy => h y (mergeL_sub hy)) fun y hy => hmax y (mergeL_sub hy)
theorem trim_again (l : List Ent) (b : Bool) (seen : List Int) : trimL (mergeL (trimL (mergeL l) b seen)) b seen = trimL (mergeL l) b seen := by
  rw [mergeL_rise (rise_trim (rise_merge l) b seen), trim_trim]
theorem trim_le (l : List Ent) (b : Bool) (seen : List Int) : (trimL (mergeL l) b seen).length ≤ l.length := by
  have h1 := (trim_sub (mergeL l) b seen).length_le
  have h2 := mergeL_len l
  omega
set_option maxHeartbeats 8000000 in
set_option maxRecDepth 20000 in
theorem mtrims_any (w : World) (A0 : Option Addr) (n0 c0 : Nat) (l : List Ent) (A1 : Option Addr) (n1 c1 : Nat) (seen : List Int) (b : Bool) (hr0 : Rd w w.heap.size 4 A0 n0 (entv l)) (hr1 : Rd w w.heap.size 1 A1 n1 (i64v seen)) (hn0 : n0 ≤ 1048576) (hn1 : n1 ≤ 1048576) (hmx : ∀ x ∈ l, x.seq ≤ 9223372036854775807) :
    Calls Try.prog 5 #[.slice A0 n0 c0, .slice A1 n1 c1, .bool b] w fun e w' => e = .returned (.bool true) ∧ Below w.heap.size w w' := by
  obtain ⟨i0, hi0, hz0, hz1, hz2⟩ := info_parts int_info
  have HLL := Lib.hid (rd_entlen hr0)
  have HSL := Lib.hid (show n1 = seen.length by have := hr1.len; rw [i64v_length] at this; omega)
  have htl := trim_le l b seen
  rw [← HLL.out] at htl
  have R0 := Lib.hid hr0
  have R1 := Lib.hid hr1
  have HMX := Lib.hid hmx
  have HL := Lib.hid (mlives_any w)
  have HS := Lib.hid (fun a ha => trim_sees (l := l) (b := b) (seen := seen) (a := a) hmx ha)
  have HA := Lib.hid (trim_again l b seen)
  have HTM : Hid (∀ x ∈ trimL (mergeL l) b seen, x.seq ≤ 9223372036854775807) := Lib.hid (fun x hx => hmx x (mergeL_sub (mem_trim.1 hx).1))
  clear hr0 hr1 hmx
  go_enter Try.func5, Try.ntmps5
  go_wp2_with fail
  refine HL.out.mono ?_
  rintro e w1 ⟨rfl, hb⟩
  have HB1 := Lib.hid hb
  replace R0 := Lib.hid (R0.out.go hb)
  replace R1 := Lib.hid (R1.out.go hb)
  clear hb HL
  go_wp2_with fail
  refine (trim_any w1 A0 n0 c0 l b A1 n1 c1 seen R0.out R1.out HMX.out (by omega) (by omega)).mono ?_
  rintro e w2 ⟨v, rfl, ho, hb⟩
  obtain ⟨At, ct, rfl⟩ := own_shape ho
  have HB2 := Lib.hid (bel_go HB1.out hb)
  replace R0 := Lib.hid (R0.out.go hb)
  replace R1 := Lib.hid (R1.out.go hb)
  have RT := Lib.hid (Rd.own ho)
  obtain ⟨T, hT⟩ : ∃ T, trimL (mergeL l) b seen = T := ⟨_, rfl⟩
  rw [hT] at RT HS HA HTM htl ⊢
  obtain ⟨nt, hnt⟩ : ∃ nt, T.length = nt := ⟨_, rfl⟩
  rw [hnt] at RT htl ⊢
  clear hb HB1 ho hT hnt
  go_wp2
  go_loopw [8, 21] (fun tv iv wx => ∃ (k : Nat) (t : Int), k ≤ n0 ∧ iv = .int .i64 k ∧ tv = .int .i64 t ∧ Hid (∀ x ∈ l.take k, x.seq ≤ t) ∧ Hid (Below w2.heap.size w2 wx)) (fun _ iv _ => n0 - (intOf iv).toNat)
  case atStart => exact ⟨0, 0, Nat.zero_le _, rfl, rfl, Lib.hid (by simp), Lib.hid (Below.refl _ _)⟩
  case round =>
    obtain ⟨k, t, hk, rfl, rfl, HT, HW⟩ := hrel
    by_cases hlt : k < n0
    · obtain ⟨bb, off, rfl, hbb, hsq, e0, e1, e2, e3⟩ := (R0.out.below HW.out).ent hlt
      have htk := List.take_succ_eq_append_getElem hsq
      obtain ⟨x, hx⟩ : ∃ x, l[k] = x := ⟨_, rfl⟩
      rw [hx] at e0 e1 e2 e3 htk
      obtain ⟨x1, x2, x3, x4⟩ := x
      simp only at e0 e1 e2 e3
      have HTK := Lib.hid htk
      have hws := HW.out.size
      have HN : Hid (∀ u : Int, t ≤ u → x2 ≤ u → ∀ x ∈ l.take (k + 1), x.seq ≤ u) := Lib.hid (fun u h1 h2 x hx => by
        rw [HTK.out] at hx
        rcases List.mem_append.1 hx with hx | hx
        · have := HT.out x hx; omega
        · rw [List.mem_singleton.1 hx]; exact h2)
      have HW3 : Hid (Below w2.heap.size w2 (wr.alloc (.cells #[.string x1, .int .i64 x2, .bool x3, .string x4] 26))) := Lib.hid (HW.out.alloc hws _)
      clear htk hx HTK HT
      go_wp2
      go_roundw
      case rel => exact ⟨k + 1, _, by omega, by go_num, rfl, Lib.hid (HN.out _ (by omega) (by omega)), HW3⟩
      case measure => simp [intOf]; omega
    · have HT2 : Hid (∀ x ∈ l, x.seq ≤ t) := Lib.hid (by
        have h := HT.out
        rwa [List.take_of_length_le (by rw [← HLL.out]; omega)] at h)
      have hz : ¬ (k : Int) < (n0 : Int) := by omega
      have HB3 := Lib.hid (bel_go HB2.out HW.out)
      replace R0 := Lib.hid (R0.out.go HW.out)
      replace R1 := Lib.hid (R1.out.go HW.out)
      replace RT := Lib.hid (RT.out.go HW.out)
      clear HT HB2 HW
      obtain ⟨w4, rfl⟩ : ∃ w4, w4 = wr := ⟨_, rfl⟩
      have o1 := own_empty w4 3 1 w4.heap.size (Nat.le_refl _)
      have hbe := (Below.refl w4.heap.size w4).alloc (Nat.le_refl _) (.cells #[] 3)
      have t1 := R1.out.below hbe
      have t2 := i64v_one seen
      have HBE := Lib.hid hbe
      clear hbe
      go_wp2_with (at_builtin; refine wpList_app rfl (.tmp 30) (.tmp 31) 23 rfl w4.heap.size 3 i0 _ 1 8 Try.underlying23 hi0 hz0 hz1 hz2 rfl (by omega) _ 0 [] _ A1 n1 c1 (i64v seen) rfl (by exact o1) rfl (by exact t1) t2 ?e1 ?e2 ?e3 ?_)
      case e1 => omega
      case e2 => unfold maxLen; omega
      all_goals try (simp; done)
      intro v5 w5 ho5 hu5 _
      have hb5 : Below w4.heap.size w4 w5 := HBE.out.trans (hu5.below (fun i hi e => by simp [Value.ownBlock] at e; omega) (by simp))
      have HB5 := Lib.hid hb5
      have ho6 := own_below ho5 ((Below.refl w5.heap.size w5).alloc (Nat.le_refl _) (.cells #[.int .i64 t, .int .i64 4611686018427387904] 3))
      have t3 : Rd (w5.alloc (.cells #[.int .i64 t, .int .i64 4611686018427387904] 3)) (w5.heap.size + 1) 1 (some ⟨w5.heap.size, 0, none⟩) 2 (i64v [t, 4611686018427387904]) := Rd.new _ _ rfl
      have t4 := i64v_one [t, 4611686018427387904]
      have hbs := hb5.size
      have hbf : Below w4.heap.size w4 (w5.alloc (.cells #[.int .i64 t, .int .i64 4611686018427387904] 3)) := hb5.alloc hbs _
      have HBF := Lib.hid hbf
      have HO6 := Lib.hid ho6
      clear o1 t1 t2 hu5 hb5 ho5 ho6 hbf HBE
      go_wp2_with (at_builtin; refine wpList_app rfl (.tmp 32) (.tmp 34) 23 rfl w4.heap.size 3 i0 _ 1 8 Try.underlying23 hi0 hz0 hz1 hz2 rfl (by omega) _ n1 (i64v seen) _ _ 2 2 (i64v [t, 4611686018427387904]) rfl (by exact HO6.out) rfl (by exact t3) t4 ?f1 ?f2 ?f3 ?_)
      case f1 => omega
      case f2 => unfold maxLen; omega
      all_goals try (simp; omega)
      intro v7 w7 ho7 hu7 _
      have hb7 : Below w4.heap.size w4 w7 := below_row HBF.out HBF.out.size HO6.out (Nat.le_refl _) hu7
      obtain ⟨As, cs, rfl⟩ := own_shape ho7
      rw [← i64v_append] at ho7
      have HB7 := Lib.hid (bel_go HB3.out hb7)
      replace R0 := Lib.hid (R0.out.go hb7)
      replace R1 := Lib.hid (R1.out.go hb7)
      replace RT := Lib.hid (RT.out.go hb7)
      have RS := Lib.hid (Rd.own ho7)
      clear ho7 hu7 hb7 HO6 HBF HB5 t3 t4 HB3 hbs
      go_wp2
      go_loopw [37] (fun iv wx => ∃ q : Nat, q ≤ n1 + 2 ∧ iv = .int .i64 q ∧ Hid (Below w7.heap.size w7 wx)) (fun iv _ => n1 + 2 - (intOf iv).toNat)
      case atStart => exact ⟨0, Nat.zero_le _, rfl, Lib.hid (Below.refl _ _)⟩
      case round =>
        obtain ⟨q, hq, rfl, HY⟩ := hrel
        by_cases hlt2 : q < n1 + 2
        · have hql : q < (seen ++ [t, 4611686018427387904]).length := by rw [List.length_append, ← HSL.out]; simpa using hlt2
          obtain ⟨ad, u, rfl, hbb, hu, hcl⟩ := (RS.out.below HY.out).get hlt2
          rw [i64v_get _ _ hql] at hu
          injection hu with hu
          subst hu
          obtain ⟨a, ha⟩ : ∃ a, (seen ++ [t, 4611686018427387904])[q] = a := ⟨_, rfl⟩
          have hin0 : a ∈ seen ++ [t, 4611686018427387904] := by rw [← ha]; exact List.getElem_mem hql
          have hin : a ∈ seen ∨ a = t ∨ a = 4611686018427387904 := by simpa using hin0
          rw [ha] at hcl
          clear hin0
          have HIN := Lib.hid hin
          clear hin ha hql
          by_cases hskip : a = 4611686018427387904 ∧ t > a
          · have s1 : (a == 4611686018427387904) = true := beq_iff_eq.2 hskip.1
            have s2 : decide (t > a) = true := decide_eq_true hskip.2
            clear hskip
            go_wp2
            go_roundw
            case rel => exact ⟨q + 1, by omega, by go_num, HY⟩
            case measure => simp [intOf]; omega
          · have HV : Hid (viewL (mergeL T) a = viewL (mergeL l) a) := Lib.hid (HS.out a (by
              rcases HIN.out with h | h | h
              · exact .inl h
              · exact .inr fun y hy => by have := HT2.out y hy; omega
              · exact .inr fun y hy => by
                  have := HT2.out y hy
                  have : ¬ t > a := fun g => hskip ⟨h, g⟩
                  omega))
            have hbr := HY.out
            have HV1 := Lib.hid (view_any wr At nt ct T a (RT.out.go hbr) (by omega))
            have HR0 := Lib.hid (R0.out.go hbr)
            have key : ∀ (P : Prop), ((a == 4611686018427387904) = true → decide (t > a) = false → P) → ((a == 4611686018427387904) = false → P) → P := fun P h1 h2 => by
              cases hc : (a == 4611686018427387904) with
              | true => exact h1 hc (decide_eq_false fun g => hskip ⟨beq_iff_eq.1 hc, g⟩)
              | false => exact h2 hc
            have rest : True := trivial
            refine key _ (fun s1 s2 => ?_) (fun s1 => ?_)
            all_goals
              clear key hskip hbr
              go_wp2_with fail
              refine HV1.out.mono ?_
              rintro e w8 ⟨v8, rfl, ho8, hb8⟩
              obtain ⟨A8, c8, rfl⟩ := own_shape ho8
              have HR8 := Lib.hid (Rd.own ho8)
              have HY8 := Lib.hid (bel_go HY.out hb8)
              have HV2 := Lib.hid (view_any w8 A0 n0 c0 l a (HR0.out.go hb8) (by omega))
              clear ho8 hb8 HV1
              go_wp2_with fail
              refine HV2.out.mono ?_
              rintro e w9 ⟨v9, rfl, ho9, hb9⟩
              obtain ⟨A9, c9, rfl⟩ := own_shape ho9
              have HR9 := Lib.hid (Rd.own ho9)
              have HY9 := Lib.hid (bel_go HY8.out hb9)
              have HSM := Lib.hid (same_b (c := c8) (c' := c9) (HR8.out.go hb9) HR9.out HV.out (by
                have h1 := mergeL_len T
                have h2 : (viewL (mergeL T) a).length ≤ (mergeL T).length := List.length_filter_le _ _
                have h3 := rd_entlen RT.out
                omega))
              clear ho9 hb9 HV2 HR8 HR9 HY8
              go_wp2_with fail
              refine HSM.out.mono ?_
              rintro e w10 ⟨rfl, hb10⟩
              have HY10 := Lib.hid (bel_go HY9.out hb10)
              clear hb10 HSM HY9
              go_wp2
              go_roundw
              case rel => exact ⟨q + 1, by omega, by go_num, HY10⟩
              case measure => simp [intOf]; omega
        · have hz2 : ¬ (q : Int) < ((n1 + 2 : Nat) : Int) := by omega
          have HB8 := Lib.hid (bel_go HB7.out HY.out)
          replace R1 := Lib.hid (R1.out.go HY.out)
          replace RT := Lib.hid (RT.out.go HY.out)
          have HTR := Lib.hid (trim_any wr At nt ct T b A1 n1 c1 seen RT.out R1.out HTM.out (by omega) (by omega))
          clear HY HB7
          go_wp2_with fail
          refine HTR.out.mono ?_
          rintro e w11 ⟨v11, rfl, ho11, hb11⟩
          obtain ⟨A11, c11, rfl⟩ := own_shape ho11
          have HB11 := Lib.hid (bel_go HB8.out hb11)
          have HSM := Lib.hid (same_b (c := c11) (c' := ct) (Rd.own ho11) (RT.out.go hb11) HA.out (by
            rw [HA.out]
            have h3 := rd_entlen RT.out
            omega))
          clear ho11 hb11 HTR HB8
          go_wp2_with fail
          refine HSM.out.mono ?_
          rintro e w12 ⟨rfl, hb12⟩
          have HB12 := Lib.hid (bel_go HB11.out hb12)
          have hdl : decide ((nt : Int) ≤ (n0 : Int)) = true := decide_eq_true (by omega)
          clear hb12 HSM HB11
          go_wp2
          go_ret
          exact ⟨rfl, HB12.out⟩
end Go.Proofs.Ytcfgmkiohmbdlaa
