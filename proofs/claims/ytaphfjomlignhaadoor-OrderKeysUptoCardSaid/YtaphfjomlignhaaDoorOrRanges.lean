/- Keys: the law OrderRanges, walked. -/
import Derived.Test.YtaphfjomlignhaaDoorOrRisesW
namespace Go.Proofs.YtaphfjomlignhaaDoor
open Go.RowKit
theorem own_nothing (w : World) (e : TypeId) (size : Nat) : (w.alloc (.cells #[] e)).ownsRow w.heap.size e size (.slice (some ⟨w.heap.size, 0, none⟩) 0 0) 0 [] :=
  ⟨by simp, .inr ⟨_, 0, #[], rfl, Nat.le_refl _, heap_alloc_new w _, Nat.le_refl _, Nat.zero_le _, by simp, by simp⟩⟩
theorem below_alloc (w : World) (o : Obj) : Below w.heap.size w (w.alloc o) := (Below.refl _ _).alloc (Nat.le_refl _) _
theorem ranges_cases (X Z E : ByteArray) (hE : E.data.toList = endF X.data.toList) :
    (X.data.toList <+: Z.data.toList ∧ Op.bytesLess Z.toList X.toList = false ∧ (E.toList = [] ∨ Op.bytesLess Z.toList E.toList = true)) ∨
    (¬ X.data.toList <+: Z.data.toList ∧ (Op.bytesLess Z.toList X.toList = true ∨ (Op.bytesLess Z.toList X.toList = false ∧ E.toList ≠ [] ∧ Op.bytesLess Z.toList E.toList = false))) := by
  have hi := begins_iff X.data.toList Z.data.toList
  rw [← hE] at hi
  rw [ByteArray.toList_eq, ByteArray.toList_eq, ByteArray.toList_eq]
  by_cases hP : X.data.toList <+: Z.data.toList
  · exact .inl ⟨hP, hi.1 hP⟩
  · refine .inr ⟨hP, ?_⟩
    cases h3 : Op.bytesLess Z.data.toList X.data.toList with
    | true => exact .inl rfl
    | false =>
      refine .inr ⟨rfl, fun he => hP (hi.2 ⟨h3, .inl he⟩), ?_⟩
      cases h4 : Op.bytesLess Z.data.toList E.data.toList with
      | false => rfl
      | true => exact absurd (hi.2 ⟨h3, .inr h4⟩) hP
theorem pre_parts {a b : List Pt} (h1 : allR a) (h2 : allR b) (f1 : allF a) (f2 : allF b) : bytesK a <+: bytesK b ↔ a.length ≤ b.length ∧ cmpL (b.take a.length) a = 0 := by
  rw [cmpL_zero]
  constructor
  · rintro ⟨t, ht⟩
    obtain ⟨rs, h, _⟩ := bytesK_free a b t h1 h2 f1 f2 ht
    rw [h]
    exact ⟨by simp, by simp⟩
  · rintro ⟨_, h⟩
    rw [← h]
    exact take_pre b _
theorem allR_app {a b : List Pt} (h1 : allR a) (h2 : allR b) : allR (a ++ b) := fun x hx => (List.mem_append.1 hx).elim (h1 x) (h2 x)
theorem okL_app {a b : List Pt} (h1 : okL a) (h2 : okL b) : okL (a ++ b) := fun x hx => (List.mem_append.1 hx).elim (h1 x) (h2 x)
set_option maxHeartbeats 4000000 in
set_option maxRecDepth 20000 in
theorem ranges_any (w : World) (A A' A3 : Option Addr) (n c n' c' n3 c3 : Nat) (l l' l3 : List Pt) (m : Int) (hm : MaxAt w m) (hr : Rd w w.heap.size 3 A n (ptv l)) (hr' : Rd w w.heap.size 3 A' n' (ptv l')) (hr3 : Rd w w.heap.size 3 A3 n3 (ptv l3))
    (hn : n + n' ≤ 1048576) (hn3 : n3 ≤ 1048576) (hc : n3 ≤ c3)
    (hok : okL l) (hok' : okL l') (hok3 : okL l3) (hl : (bytesK l).length + (bytesK l').length ≤ 67108864) (hl3 : (bytesK l3).length ≤ 67108864) :
    Calls Tryd.prog 8 #[.slice A n c, .slice A' n' c', .slice A3 n3 c3] w fun e w' => e = .returned (.bool true) ∧ Below w.heap.size w w' := by
  obtain ⟨i0, hi0, hz0, hz1, hz2⟩ := info_parts pt_info
  have hok2 := okL_app hok hok'
  have hbl2 : (bytesK (l ++ l')).length ≤ 67108864 := by rw [bytesK_append, List.length_append]; exact hl
  have HF : Hid (allF l ∧ allF l3) := Lib.hid ⟨fun x hx => (hok x hx).1, fun x hx => (hok3 x hx).1⟩
  obtain ⟨X, e, hXe, hK⟩ := key_as l hok (by omega)
  obtain ⟨Y, f, hYf, hK'⟩ := key_as (l ++ l') hok2 hbl2
  obtain ⟨Z, g, hZg, hK3⟩ := key_as l3 hok3 hl3
  have hXs : e = 0 → X.size ≤ 67108864 := fun h0 => by
    rcases hXe with ⟨_, _, h⟩ | ⟨h, _⟩
    · have h1 : X.data.toList.length = X.size := by simp
      rw [h] at h1; omega
    · omega
  have HXS := Lib.hid hXs
  have HK := Lib.hid hK
  have HK' := Lib.hid hK'
  have HK3 := Lib.hid hK3
  have HXE := Lib.hid hXe
  have HYF := Lib.hid hYf
  have HZG := Lib.hid hZg
  have HNL := Lib.hid (rd_ptlen hr)
  have HN3 := Lib.hid (rd_ptlen hr3)
  have HNL' := Lib.hid (rd_ptlen hr')
  have HR := Lib.hid hr
  have HR' := Lib.hid hr'
  have HR3 := Lib.hid hr3
  clear hK hK' hK3 hXe hYf hZg hr hr' hr3 hok hok' hok3 hok2 hXs
  go_enter Tryd.func8, Tryd.ntmps8
  go_wp2_with fail
  refine (olives_any _ m hm).mono ?_
  rintro e0 w1 ⟨rfl, hb1⟩
  have HB1 := Lib.hid hb1
  have HM1 := Lib.hid (hm.below hb1)
  have HM0 := Lib.hid hm
  clear hb1 hm
  go_wp2_with fail
  refine (HK.out w1 A n c m HM1.out ((HR.out.below HB1.out).mono HB1.out.size) (by omega)).mono ?_
  rintro e1 w2 ⟨rfl, hb2⟩
  have HB2 := Lib.hid (HB1.out.trans (hb2.mono HB1.out.size))
  have HM2 := Lib.hid (HM1.out.below hb2)
  clear hb2 HB1 HM1
  have hS2 := HB2.out.size
  have t4 := own_nothing w2 31 3
  have t5 := (HR.out.below HB2.out).below ((below_alloc w2 (.cells #[] 31)).mono hS2)
  have t6 := ptv_cell l
  go_wp2_with (at_builtin; refine wpList_app rfl (.tmp 23) (.tmp 24) 27 rfl w2.heap.size 31 i0 _ 3 32 Tryd.underlying27 hi0 hz0 hz1 hz2 rfl (by omega) _ 0 [] w.heap.size A n c (ptv l) rfl t4 rfl t5 t6 ?e1 ?e2 ?e3 ?_)
  case e1 => omega
  case e2 => unfold maxLen; omega
  case e3 => simp
  intro v4 w4 ho4 hu4 _
  clear t4 t5 t6
  have hb4 : Below w2.heap.size w2 w4 := (below_alloc w2 (.cells #[] 31)).trans (hu4.below (fun k hk e => by simp [Value.ownBlock] at e; omega) (by simp))
  have HO4 := Lib.hid ho4
  have HB4 := Lib.hid (HB2.out.trans (hb4.mono hS2))
  have hB4 : w2.heap.size ≤ w4.heap.size := hb4.size
  clear ho4 hu4
  have t5 := HR'.out.below HB4.out
  have t6 := ptv_cell l'
  go_wp2_with (at_builtin; refine wpList_app rfl (.tmp 25) (.tmp 26) 27 rfl w2.heap.size 31 i0 _ 3 32 Tryd.underlying27 hi0 hz0 hz1 hz2 rfl (by omega) _ n (ptv l) w.heap.size A' n' c' (ptv l') rfl (by exact HO4.out) rfl t5 t6 ?f1 ?f2 ?f3 ?_)
  case f1 => omega
  case f2 => unfold maxLen; omega
  case f3 => exact hB4
  intro v5 w5 ho5 hu5 _
  clear t5 t6
  have hb5 : Below w2.heap.size w2 w5 := hb4.trans (hu5.below (fun k hk e => by have := (HO4.out.lt k e).1; omega) hB4)
  have HB5 := Lib.hid (HB2.out.trans (hb5.mono hS2))
  have HM5 := Lib.hid (HM2.out.below hb5)
  obtain ⟨A5, c5, hv5⟩ := own_shape ho5
  subst hv5
  have hr5 : Rd w5 w5.heap.size 3 A5 (n + n') (ptv (l ++ l')) := by
    have h := Rd.own ho5
    rw [ptv_append]
    simpa using h
  have HR5 := Lib.hid hr5
  clear ho5 hu5 hb5 HO4 HB4 hb4 hB4 hr5 HM2
  go_wp2_with fail
  refine (HK'.out w5 A5 (n + n') c5 m HM5.out HR5.out hn).mono ?_
  rintro e6 w6 ⟨rfl, hb6⟩
  have HB6 := Lib.hid (HB5.out.trans (hb6.mono HB5.out.size))
  have HM6 := Lib.hid (HM5.out.below hb6)
  clear hb6 HB5 HM5 HR5 hS2 HB2
  go_wp2_with fail
  refine (HK3.out w6 A3 n3 c3 m HM6.out ((HR3.out.below HB6.out).mono HB6.out.size) hn3).mono ?_
  rintro e7 w7 ⟨rfl, hb7⟩
  have HB7 := Lib.hid (HB6.out.trans (hb7.mono HB6.out.size))
  clear hb7 HB6 HM6 HK HK' HK3
  rcases HXE.out with ⟨rfl, hRX, hX⟩ | ⟨rfl, _⟩
  · rcases HYF.out with ⟨rfl, hRY, hY⟩ | ⟨rfl, _⟩
    · rcases HZG.out with ⟨rfl, hRZ, hZ⟩ | ⟨rfl, _⟩
      · obtain ⟨E, hE⟩ : ∃ E : ByteArray, (⟨(endF X.data.toList).toArray⟩ : ByteArray) = E := ⟨_, rfl⟩
        have hEd : E.data.toList = endF X.data.toList := by rw [← hE]
        have hXl := HXS.out rfl
        have hpY : X.data.toList <+: Y.data.toList := by rw [hX, hY, bytesK_append]; exact List.prefix_append _ _
        have hyc := ranges_cases X Y E hEd
        have hzc := ranges_cases X Z E hEd
        have hpz := pre_parts hRX hRZ HF.out.1 HF.out.2
        rw [← hX, ← hZ, ← HNL.out, ← HN3.out] at hpz
        have HPZ := Lib.hid hpz
        have h1 := end_any w7 X (by omega)
        rw [hE] at h1
        have HE := Lib.hid h1
        have HYC : Hid (Op.bytesLess Y.toList X.toList = false ∧ (E.toList = [] ∨ Op.bytesLess Y.toList E.toList = true)) := Lib.hid (by
          rcases hyc with ⟨_, h⟩ | ⟨h, _⟩
          · exact h
          · exact absurd hpY h)
        have HZC := Lib.hid hzc
        clear hE hEd hX hY hZ hRX hRY hRZ hpY hyc hzc hpz h1 HXE HYF HZG HXS
        go_wp2_with fail
        refine HE.out.mono ?_
        rintro e8 w8 ⟨rfl, hb8⟩
        have HB8 := Lib.hid (HB7.out.trans (hb8.mono HB7.out.size))
        clear hb8 HB7 HE
        obtain ⟨y1, hy2⟩ := HYC.out
        have hS8 := HB8.out.size
        by_cases hE0 : E.toList = []
        · clear hy2 HYC
          rcases HZC.out with ⟨hp, z1, z2⟩ | ⟨hp, z1⟩
          · have hq := HPZ.out.1 hp
            obtain ⟨q1, q2⟩ := hq
            have QQ := Lib.hid q2
            clear z2 q2 hp HZC HPZ
            have q1' : (n : Int) ≤ n3 := by omega
            have q1'' : n ≤ c3 := by omega
            go_wp2_with fail
            refine (compare_any w8 A3 A n c3 n c (l3.take n) l ((rd_take (HR3.out.below HB8.out) q1).mono hS8) ((HR.out.below HB8.out).mono hS8) (by omega) (by omega)).mono ?_
            rintro e9 w9 ⟨rfl, hb9⟩
            have HBC := Lib.hid (HB8.out.trans (hb9.mono hS8))
            clear hb9
            rw [QQ.out]
            go_wp2
            go_ret
            exact ⟨rfl, HBC.out⟩
          · have z2 : Op.bytesLess Z.toList X.toList = true := by
              rcases z1 with h | ⟨_, h, _⟩
              · exact h
              · exact absurd hE0 h
            clear z1
            by_cases q1 : n ≤ n3
            · have q2 : cmpL (l3.take n) l ≠ 0 := fun h => hp (HPZ.out.2 ⟨q1, h⟩)
              obtain ⟨r, hrr⟩ : ∃ r, cmpL (l3.take n) l = r := ⟨_, rfl⟩
              have q3 : ((r == 0) : Bool) = false := beq_eq_false_iff_ne.2 (by rw [← hrr]; exact q2)
              have QQ := Lib.hid hrr
              have q1' : (n : Int) ≤ n3 := by omega
              have q1'' : n ≤ c3 := by omega
              clear q2 hp HZC HPZ hrr
              go_wp2_with fail
              refine (compare_any w8 A3 A n c3 n c (l3.take n) l ((rd_take (HR3.out.below HB8.out) q1).mono hS8) ((HR.out.below HB8.out).mono hS8) (by omega) (by omega)).mono ?_
              rintro e9 w9 ⟨rfl, hb9⟩
              have HBC := Lib.hid (HB8.out.trans (hb9.mono hS8))
              clear hb9
              rw [QQ.out]
              go_wp2
              go_ret
              exact ⟨rfl, HBC.out⟩
            · have q1' : ¬ (n : Int) ≤ n3 := by omega
              clear hp HZC HPZ
              go_wp2
              go_ret
              exact ⟨rfl, HB8.out⟩
        · have y2 := hy2.resolve_left hE0
          have e1 : (E.toList == []) = false := beq_eq_false_iff_ne.2 hE0
          have e2 : E.toList.isEmpty = false := List.isEmpty_eq_false_iff.2 hE0
          clear hy2 HYC
          rcases HZC.out with ⟨hp, z1, z2⟩ | ⟨hp, z1⟩
          · have hq := HPZ.out.1 hp
            obtain ⟨q1, q2⟩ := hq
            have z3 := z2.resolve_left hE0
            have QQ := Lib.hid q2
            clear z2 q2 hp HZC HPZ
            have q1' : (n : Int) ≤ n3 := by omega
            have q1'' : n ≤ c3 := by omega
            go_wp2_with fail
            refine (compare_any w8 A3 A n c3 n c (l3.take n) l ((rd_take (HR3.out.below HB8.out) q1).mono hS8) ((HR.out.below HB8.out).mono hS8) (by omega) (by omega)).mono ?_
            rintro e9 w9 ⟨rfl, hb9⟩
            have HBC := Lib.hid (HB8.out.trans (hb9.mono hS8))
            clear hb9
            rw [QQ.out]
            go_wp2
            go_ret
            exact ⟨rfl, HBC.out⟩
          · rcases z1 with z2 | ⟨z2, _, z3⟩
            · by_cases q1 : n ≤ n3
              · have q2 : cmpL (l3.take n) l ≠ 0 := fun h => hp (HPZ.out.2 ⟨q1, h⟩)
                obtain ⟨r, hrr⟩ : ∃ r, cmpL (l3.take n) l = r := ⟨_, rfl⟩
                have q3 : ((r == 0) : Bool) = false := beq_eq_false_iff_ne.2 (by rw [← hrr]; exact q2)
                have QQ := Lib.hid hrr
                have q1' : (n : Int) ≤ n3 := by omega
                have q1'' : n ≤ c3 := by omega
                clear q2 hp HZC HPZ hrr
                go_wp2_with fail
                refine (compare_any w8 A3 A n c3 n c (l3.take n) l ((rd_take (HR3.out.below HB8.out) q1).mono hS8) ((HR.out.below HB8.out).mono hS8) (by omega) (by omega)).mono ?_
                rintro e9 w9 ⟨rfl, hb9⟩
                have HBC := Lib.hid (HB8.out.trans (hb9.mono hS8))
                clear hb9
                rw [QQ.out]
                go_wp2
                go_ret
                exact ⟨rfl, HBC.out⟩
              · have q1' : ¬ (n : Int) ≤ n3 := by omega
                clear hp HZC HPZ
                go_wp2
                go_ret
                exact ⟨rfl, HB8.out⟩
            · by_cases q1 : n ≤ n3
              · have q2 : cmpL (l3.take n) l ≠ 0 := fun h => hp (HPZ.out.2 ⟨q1, h⟩)
                obtain ⟨r, hrr⟩ : ∃ r, cmpL (l3.take n) l = r := ⟨_, rfl⟩
                have q3 : ((r == 0) : Bool) = false := beq_eq_false_iff_ne.2 (by rw [← hrr]; exact q2)
                have QQ := Lib.hid hrr
                have q1' : (n : Int) ≤ n3 := by omega
                have q1'' : n ≤ c3 := by omega
                clear q2 hp HZC HPZ hrr
                go_wp2_with fail
                refine (compare_any w8 A3 A n c3 n c (l3.take n) l ((rd_take (HR3.out.below HB8.out) q1).mono hS8) ((HR.out.below HB8.out).mono hS8) (by omega) (by omega)).mono ?_
                rintro e9 w9 ⟨rfl, hb9⟩
                have HBC := Lib.hid (HB8.out.trans (hb9.mono hS8))
                clear hb9
                rw [QQ.out]
                go_wp2
                go_ret
                exact ⟨rfl, HBC.out⟩
              · have q1' : ¬ (n : Int) ≤ n3 := by omega
                clear hp HZC HPZ
                go_wp2
                go_ret
                exact ⟨rfl, HB8.out⟩
      · go_wp2
        go_ret
        exact ⟨rfl, HB7.out⟩
    · go_wp2
      go_ret
      exact ⟨rfl, HB7.out⟩
  · go_wp2
    go_ret
    exact ⟨rfl, HB7.out⟩
end Go.Proofs.YtaphfjomlignhaaDoor
