/- Flows: FlowMore, walked. -/
import Derived.Test.YtmekcpbcgelliaaFlBox
namespace Go.Proofs.Ytmekcpbcgelliaa
open Go.RowKit
/-- A row of the call's own, one cell of it written. -/
theorem own_set {w : World} {base g cap n size : Nat} {e : TypeId} {xs : List Value} (h : w.ownsRow base e size (.slice (some ⟨g, 0, none⟩) n cap) n xs) (j : Nat) (u : Value) : (w.setCell ⟨g, j, none⟩ u).ownsRow base e size (.slice (some ⟨g, 0, none⟩) n cap) n (xs.set j u) := by
  obtain ⟨hl, h⟩ := h
  rcases h with ⟨h, _⟩ | ⟨g', cap', cur, hv, hb, hg, hn, hm, hc, hx⟩
  · injection h with h; cases h
  · injection hv with h1 h2 h3
    injection h1 with h1
    injection h1 with h1
    subst h1; subst h3
    exact ⟨by rw [List.length_set]; exact hl, .inr ⟨g, cap, _, rfl, hb, heap_setCell_same w g j _ _ u hg, hn, hm, by simpa using hc, by rw [← hx, Array.toList_setIfInBounds, List.take_set]⟩⟩
theorem own_frozen {w : World} {base g cap n size : Nat} {e : TypeId} {xs : List Value} (h : w.ownsRow base e size (.slice (some ⟨g, 0, none⟩) n cap) n xs) (j : Nat) : w.frozen? ⟨g, j, none⟩ = false := by
  obtain ⟨hl, h⟩ := h
  rcases h with ⟨h, _⟩ | ⟨g', cap', cur, hv, hb, hg, hn, hm, hc, hx⟩
  · injection h with h; cases h
  · injection hv with h1 h2 h3
    injection h1 with h1
    injection h1 with h1
    subst h1
    exact frozen_of_row _ _ _ _ _ hg
theorem wrap64_small {a : Int} (h0 : -4611686018427387904 ≤ a) (h1 : a ≤ 4611686018427387904) : wrap64 a = a := by unfold wrap64; omega
theorem rem_nat (a : Int) (m : Nat) (h : 0 < m) (hm : m ≤ 4611686018427387904) : ∃ k : Nat, k < m ∧ wrap64 ((IntKind.u64.wrap a).tmod (m : Int)) = (k : Int) := by
  have h0 : 0 ≤ IntKind.u64.wrap a := by rw [IntKind.wrap_u64]; exact Int.emod_nonneg _ (by decide)
  have h1 := Int.emod_lt_of_pos (IntKind.u64.wrap a) (show (0 : Int) < (m : Int) by omega)
  have h2 := Int.emod_nonneg (IntKind.u64.wrap a) (show (m : Int) ≠ 0 by omega)
  rw [Int.tmod_eq_emod_of_nonneg h0]
  refine ⟨(IntKind.u64.wrap a % (m : Int)).toNat, by omega, ?_⟩
  rw [Int.toNat_of_nonneg h2]
  exact wrap64_small (by omega) (by omega)
theorem arv_set (l : List Ar) : ∀ (i : Nat) (a b c d c' : Int), l[i]? = some (a, b, c, d) → (arv l).set (4 * i + 2) (.int .i64 c') = arv (l.set i (a, b, c', d)) := by
  induction l with
  | nil => intro i a b c d c' h; simp at h
  | cons x l ih =>
    intro i a b c d c' h
    cases i with
    | zero =>
      obtain rfl : x = (a, b, c, d) := by simpa using h
      rw [arv_cons, List.set_cons_zero, arv_cons]
      rfl
    | succ i =>
      rw [List.set_cons_succ, arv_cons, arv_cons, ← ih i a b c d c' (by simpa using h), List.set_append_right _ _ (by simp; omega)]
      simp only [List.length_cons, List.length_nil]
      congr 2
/-- One arc bears one more. -/
def moreL (l : List Ar) (i : Nat) (x : Ar) : List Ar := l.set i (x.1, x.2.1, x.2.2.1 + 1, x.2.2.2)
theorem nw_more {l : List Ar} {i : Nat} {x : Ar} (hx : l[i]? = some x) : (nwOf (moreL l i x)).m = (nwOf l).m ∧ (nwOf (moreL l i x)).fr = (nwOf l).fr ∧ (nwOf (moreL l i x)).to = (nwOf l).to ∧
    (∀ j, j ≠ i → (nwOf (moreL l i x)).cap j = (nwOf l).cap j) ∧ (nwOf (moreL l i x)).cap i = (nwOf l).cap i + 1 := by
  have hi : i < l.length := (List.getElem?_eq_some_iff.1 hx).1
  have g : ∀ j, (moreL l i x).getD j (0, 0, 0, 0) = if j = i then (x.1, x.2.1, x.2.2.1 + 1, x.2.2.2) else l.getD j (0, 0, 0, 0) := fun j => by
    unfold moreL
    rw [List.getD_eq_getElem?_getD, List.getD_eq_getElem?_getD, List.getElem?_set]
    by_cases e : j = i
    · rw [if_pos e, if_pos e.symm, if_pos hi]; rfl
    · rw [if_neg e, if_neg (fun h => e h.symm)]
  have gi : l.getD i (0, 0, 0, 0) = x := by rw [List.getD_eq_getElem?_getD, hx]; rfl
  refine ⟨by simp [nwOf, moreL], funext fun j => ?_, funext fun j => ?_, fun j hj => ?_, ?_⟩
  · show ((moreL l i x).getD j (0, 0, 0, 0)).1.toNat = (l.getD j (0, 0, 0, 0)).1.toNat
    rw [g]
    by_cases e : j = i
    · rw [if_pos e, e, gi]
    · rw [if_neg e]
  · show ((moreL l i x).getD j (0, 0, 0, 0)).2.1.toNat = (l.getD j (0, 0, 0, 0)).2.1.toNat
    rw [g]
    by_cases e : j = i
    · rw [if_pos e, e, gi]
    · rw [if_neg e]
  · show ((moreL l i x).getD j (0, 0, 0, 0)).2.2.1 = (l.getD j (0, 0, 0, 0)).2.2.1
    rw [g, if_neg hj]
  · show ((moreL l i x).getD i (0, 0, 0, 0)).2.2.1 = (l.getD i (0, 0, 0, 0)).2.2.1 + 1
    rw [g, if_pos rfl, gi]
theorem good_less {N S T : Int} {l : List Ar} {i : Nat} {x : Ar} (hx : l[i]? = some x) (h0 : 0 ≤ x.2.2.1) (h : GoodN N S T (moreL l i x)) : GoodN N S T l := by
  obtain ⟨h1, h2, h3, h4, h5, h6, h7⟩ := h
  have hi : i < l.length := (List.getElem?_eq_some_iff.1 hx).1
  have hlen : (moreL l i x).length = l.length := by simp [moreL]
  obtain ⟨n1, n2, n3, n4, n5⟩ := nw_more hx
  refine ⟨h1, h2, h3, h4, by rw [hlen] at h5; exact h5, fun a ha => ?_, ?_⟩
  · obtain ⟨j, hj, rfl⟩ := List.getElem_of_mem ha
    have hm := h6 ((moreL l i x)[j]'(by rw [hlen]; exact hj)) (List.getElem_mem _)
    by_cases e : j = i
    · subst e
      have e1 : (moreL l j x)[j]'(by rw [hlen]; exact hj) = (x.1, x.2.1, x.2.2.1 + 1, x.2.2.2) := by simp [moreL]
      have e2 : l[j] = x := by
        rw [List.getElem?_eq_getElem hj] at hx
        exact Option.some.inj hx
      rw [e1] at hm
      rw [e2]
      obtain ⟨a1, a2, a3, a4, a5⟩ := hm
      simp only at a1 a2 a3 a4 a5
      exact ⟨a1, a2, a3, by omega, a5⟩
    · have e1 : (moreL l i x)[j]'(by rw [hlen]; exact hj) = l[j] := by
        unfold moreL
        rw [List.getElem_set_ne (fun h => e h.symm)]
      rw [e1] at hm
      exact hm
  · refine Int.le_trans ?_ h7
    rw [hlen]
    refine sm_le fun j _ => ?_
    rw [n2]
    by_cases e : j = i
    · rw [e, n5]; split <;> omega
    · rw [n4 j e]; exact Int.le_refl _
set_option maxHeartbeats 8000000 in
set_option maxRecDepth 20000 in
theorem fmore_any (w : World) (N S T : Int) (A : Option Addr) (k c : Nat) (l : List Ar) (at_ : Int) (hr : Rd w w.heap.size 4 A k (arv l)) (hk32 : k * 32 ≤ 140737488351232) :
    Calls Try.prog 3 #[.agg #[.int .i64 N, .int .i64 S, .int .i64 T, .slice A k c], .int .i64 at_] w fun e w' => e = .returned (.bool true) ∧ Below w.heap.size w w' := by
  obtain ⟨i0, hi0, hz0, hz1, hz2⟩ := info_parts arc_info
  have HKL := Lib.hid (rd_arlen hr)
  have HR := Lib.hid hr
  clear hr
  have HG := Lib.hid (NBox.made w N S T A k c)
  go_enter Try.func3, Try.ntmps3
  go_wp2_with fail
  refine (flives_any _).mono ?_
  rintro e w2 ⟨rfl, hb2⟩
  have HG2 := Lib.hid (HG.out.below hb2)
  have c3 := HG2.out.c3
  clear hb2 HG
  by_cases hk0 : k = 0
  · have b0 : ((k : Int) == 0) = true := beq_iff_eq.2 (by omega)
    go_wp2_with fail
    refine (flives_any _).mono ?_
    rintro e w3 ⟨rfl, hb3⟩
    have HG3 := Lib.hid (HG2.out.below hb3)
    clear hb3 HG2
    go_wp2
    go_ret
    exact ⟨rfl, HG3.out.bel⟩
  · have b0 : ((k : Int) == 0) = false := beq_eq_false_iff_ne.2 (by omega)
    have o1 := own_empty w2 28 4 w2.heap.size (Nat.le_refl _)
    have hbe := (Below.refl w2.heap.size w2).alloc (Nat.le_refl _) (.cells #[] 28)
    have HGe := Lib.hid (HG2.out.alloc (.cells #[] 28))
    have t1 := HGe.out.rd HR.out
    have t2 := arv_cell l
    have d3 := HGe.out.c3
    go_wp2_with (at_builtin; refine wpList_app rfl (.tmp 20) (.tmp 22) 22 rfl w2.heap.size 28 i0 _ 4 32 Try.underlying22 hi0 hz0 hz1 hz2 rfl (by omega) _ 0 [] _ A k c (arv l) rfl (by exact o1) rfl (by exact t1) t2 ?c1 ?c2 ?c3 ?_)
    case c1 => omega
    case c2 => unfold maxLen; omega
    case c3 => simp
    intro v3 w3 ho3 hu3 _
    have hb3 : Below w2.heap.size w2 w3 := hbe.trans (hu3.below (fun i hi e => by simp [Value.ownBlock] at e; omega) (by simp))
    obtain ⟨g, cap, rfl, hbg, hgl, hnc, hcm⟩ := own_form ho3 (by omega)
    have HG3 := Lib.hid (HG2.out.below hb3)
    have HO3 := Lib.hid ho3
    have hgB : w.heap.size < g := by have := HG2.out.lt; omega
    clear o1 hbe HGe t1 t2 hu3 hb3 ho3 HG2 c3 d3
    obtain ⟨i, hik, hiw⟩ := rem_nat at_ k (by omega) (by omega)
    have hwk : IntKind.u64.wrap (k : Int) = (k : Int) := by rw [IntKind.wrap_u64]; omega
    have hk1 : ((k : Int) == 0) = false := beq_eq_false_iff_ne.2 (by omega)
    have hrm := Rd.own HO3.out
    obtain ⟨b, off, hbo, hbB, hsl, e0, e1, e2, e3⟩ := hrm.arc hik
    injection hbo with hbo
    injection hbo with hbo1 hbo2
    subst hbo1
    subst hbo2
    rw [Nat.zero_add] at e0 e1 e2 e3
    have hx : l[i]? = some l[i] := List.getElem?_eq_getElem hsl
    obtain ⟨⟨ef, et, ec, ek⟩, he⟩ : ∃ e, l[i] = e := ⟨_, rfl⟩
    rw [he] at e0 e1 e2 e3 hx
    simp only at e0 e1 e2 e3
    have HX := Lib.hid hx
    have hfz := own_frozen HO3.out (i * 4 + 2)
    have hikI : (i : Int) < (k : Int) := by omega
    have hwi : IntKind.i64.wrap (i : Int) = (i : Int) := IntWalk.i64_in _ (by omega)
    clear hrm hx he hsl e0 e1 e3 i0 hi0 hz0 hz1 hz2
    by_cases hbad : ec < 0 ∨ 200 ≤ ec
    · have hb3 := HG3.out.bel
      clear HG3 HO3
      rcases hbad with hbad | hbad
      · go_wp2
        go_ret
        exact ⟨rfl, hb3⟩
      · by_cases hneg : ec < 0
        · omega
        · go_wp2
          go_ret
          exact ⟨rfl, hb3⟩
    · have q1 : decide (ec < 0) = false := decide_eq_false (by omega)
      have q2 : decide (ec ≥ 200) = false := decide_eq_false (by omega)
      have hwc : IntKind.i64.wrap (ec + 1) = ec + 1 := IntWalk.i64_in _ (by omega)
      go_upto_region 8 with (fail)
      have ho4 := own_set HO3.out (i * 4 + 2) (Value.int .i64 (ec + 1))
      rw [show i * 4 + 2 = 4 * i + 2 by omega, arv_set l i ef et ec ek (ec + 1) HX.out] at ho4
      have hu4 : Upd (fun b => b = g) w3 (w3.setCell ⟨g, 4 * i + 2, none⟩ (.int .i64 (ec + 1))) := (Upd.refl (fun b => b = g) w3).setCell ⟨g, 4 * i + 2, none⟩ rfl _
      have hG4 := HG3.out.upd hu4 (fun j hj e => by omega)
      rw [show i * 4 + 2 = 4 * i + 2 by omega]
      generalize w3.setCell ⟨g, 4 * i + 2, none⟩ (.int .i64 (ec + 1)) = w4 at ho4 hG4 ⊢
      have HG4 := Lib.hid hG4
      have HRM := Lib.hid (Rd.own ho4)
      have c0 := hG4.c0
      have c1 := hG4.c1
      have c2 := hG4.c2
      clear hG4 ho4 hu4 HG3 HO3 e2 hfz
      obtain ⟨l', hl'⟩ : ∃ l', moreL l i (ef, et, ec, ek) = l' := ⟨_, rfl⟩
      have HL' := Lib.hid hl'
      have HRM' : Hid (Rd w4 w4.heap.size 4 (some ⟨g, 0, none⟩) k (arv l')) := Lib.hid (by rw [← hl']; exact HRM.out)
      clear HRM hl'
      go_wp2_with fail
      refine (nright_any w4 N S T _ k cap l' HRM'.out).mono ?_
      rintro e w5 ⟨r, rfl, hri, hb5⟩
      have HG5 := Lib.hid (HG4.out.below hb5)
      have HRM5 := Lib.hid ((HRM'.out.below hb5).mono hb5.size)
      clear hb5 HG4 HRM' c0 c1 c2
      cases r with
      | false =>
        clear hri
        go_wp2
        go_ret
        exact ⟨rfl, HG5.out.bel⟩
      | true =>
        have hgood := hri.1 rfl
        have HGM := Lib.hid hgood
        have HGL : Hid (GoodN N S T l) := Lib.hid (good_less HX.out (by show 0 ≤ ec; omega) (by rw [HL'.out]; exact hgood))
        have c0 := HG5.out.c0
        have c1 := HG5.out.c1
        have c2 := HG5.out.c2
        have c3 := HG5.out.c3
        clear hri hgood
        go_wp2_with fail
        refine (value_any w5 N S T A k c l (HG5.out.rd HR.out)).mono ?_
        rintro e w6 ⟨a, er, rfl, hb6, (⟨_, rfl, hma, ha0, ha1⟩ | ⟨h, _⟩)⟩
        rotate_left
        · exact absurd HGL.out h
        have HG6 := Lib.hid (HG5.out.below hb6)
        have HRM6 := Lib.hid ((HRM5.out.below hb6).mono hb6.size)
        have HMA := Lib.hid hma
        have c0 := HG6.out.c0
        have c1 := HG6.out.c1
        have c2 := HG6.out.c2
        clear hma hb6 HG5 HRM5
        go_wp2_with fail
        refine (value_any w6 N S T _ k cap l' HRM6.out).mono ?_
        rintro e w7 ⟨b, er, rfl, hb7, (⟨_, rfl, hmb, hb0, hb1⟩ | ⟨h, _⟩)⟩
        rotate_left
        · exact absurd HGM.out h
        have HG7 := Lib.hid (HG6.out.below hb7)
        have hok := HGL.out.ok'
        obtain ⟨n1, n2, n3, n4, n5⟩ := nw_more HX.out
        rw [HL'.out] at n1 n2 n3 n4 n5
        obtain ⟨m1, m2⟩ := max_more (N := nwOf l) (N' := nwOf l') (x := i) (List.getElem?_eq_some_iff.1 HX.out).1 n1 n2 n3 (fun j _ hj => n4 j hj) n5 hok.ends hok.sn hok.tn hok.st HMA.out hmb
        have x1 : IntKind.i64.wrap (a + 1) = a + 1 := IntWalk.i64_in _ (by omega)
        have x2 : decide (a ≤ b) = true := decide_eq_true (by omega)
        have x3 : decide (b ≤ a + 1) = true := decide_eq_true (by omega)
        clear hmb hb7 HG6 hok n1 n2 n3 n4 n5
        go_wp2
        all_goals go_ret
        all_goals exact ⟨rfl, HG7.out.bel⟩
end Go.Proofs.Ytmekcpbcgelliaa
