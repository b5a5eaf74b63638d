/- Flows: the reference's Right, walked; lives, walked. -/
import Derived.Test.YtmekcpbcgelliaaFlCalls
namespace Go.Proofs.Ytmekcpbcgelliaa
open Go.RowKit
/-- What is wrong with an arc, the first thing first. -/
theorem bad_ways {nodes ef et ec ek : Int} (hin : ¬ okA nodes (ef, et, ec, ek)) :
    ef < 0 ∨ (0 ≤ ef ∧ nodes ≤ ef) ∨ (0 ≤ ef ∧ ef < nodes ∧ et < 0) ∨ (0 ≤ ef ∧ ef < nodes ∧ 0 ≤ et ∧ nodes ≤ et) ∨ (0 ≤ ef ∧ ef < nodes ∧ 0 ≤ et ∧ et < nodes ∧ ef = et) ∨ (0 ≤ ef ∧ ef < nodes ∧ 0 ≤ et ∧ et < nodes ∧ ef ≠ et ∧ ec < 0) ∨ (0 ≤ ef ∧ ef < nodes ∧ 0 ≤ et ∧ et < nodes ∧ ef ≠ et ∧ 0 ≤ ec ∧ 200 < ec) ∨ (0 ≤ ef ∧ ef < nodes ∧ 0 ≤ et ∧ et < nodes ∧ ef ≠ et ∧ 0 ≤ ec ∧ ec ≤ 200 ∧ ek < 0) ∨ (0 ≤ ef ∧ ef < nodes ∧ 0 ≤ et ∧ et < nodes ∧ ef ≠ et ∧ 0 ≤ ec ∧ ec ≤ 200 ∧ 0 ≤ ek ∧ 1000 < ek) := by
  by_cases h1 : ef < 0
  · exact .inl h1
  refine .inr ?_
  by_cases h2 : nodes ≤ ef
  · exact .inl ⟨by omega, h2⟩
  refine .inr ?_
  by_cases h3 : et < 0
  · exact .inl ⟨by omega, by omega, h3⟩
  refine .inr ?_
  by_cases h4 : nodes ≤ et
  · exact .inl ⟨by omega, by omega, by omega, h4⟩
  refine .inr ?_
  by_cases h5 : ef = et
  · exact .inl ⟨by omega, by omega, by omega, by omega, h5⟩
  refine .inr ?_
  by_cases h6 : ec < 0
  · exact .inl ⟨by omega, by omega, by omega, by omega, h5, h6⟩
  refine .inr ?_
  by_cases h7 : 200 < ec
  · exact .inl ⟨by omega, by omega, by omega, by omega, h5, by omega, h7⟩
  refine .inr ?_
  by_cases h8 : ek < 0
  · exact .inl ⟨by omega, by omega, by omega, by omega, h5, by omega, by omega, h8⟩
  refine .inr ?_
  by_cases h9 : 1000 < ek
  · exact ⟨by omega, by omega, by omega, by omega, h5, by omega, by omega, by omega, h9⟩
  exact absurd ⟨⟨by show 0 ≤ ef; omega, by show ef < nodes; omega⟩, ⟨by show 0 ≤ et; omega, by show et < nodes; omega⟩, h5, ⟨by show 0 ≤ ec; omega, by show ec ≤ 200; omega⟩, by show 0 ≤ ek; omega, by show ek ≤ 1000; omega⟩ hin
def RIs (r : Bool) (P : Prop) : Prop := r = true ↔ P
set_option maxHeartbeats 8000000 in
set_option maxRecDepth 20000 in
theorem nright_any (w : World) (nodes s t : Int) (A : Option Addr) (k c : Nat) (l : List Ar) (hr : Rd w w.heap.size 4 A k (arv l)) :
    Calls Try.prog 10 #[.int .i64 nodes, .int .i64 s, .int .i64 t, .slice A k c] w fun e w' => ∃ r, e = .returned (.bool r) ∧ RIs r (GoodN nodes s t l) ∧ Below w.heap.size w w' := by
  have HKL := Lib.hid (rd_arlen hr)
  by_cases hs : (2 ≤ nodes ∧ nodes ≤ 200) ∧ (0 ≤ s ∧ s < nodes) ∧ (0 ≤ t ∧ t < nodes) ∧ s ≠ t ∧ k ≤ 4000
  · obtain ⟨⟨h1, h2⟩, ⟨h3, h4⟩, ⟨h5, h6⟩, h7, h8⟩ := hs
    have b1 : decide (nodes < 2) = false := decide_eq_false (by omega)
    have b2 : decide (nodes > 200) = false := decide_eq_false (by omega)
    have b3 : decide (s < 0) = false := decide_eq_false (by omega)
    have b4 : decide (s ≥ nodes) = false := decide_eq_false (by omega)
    have b5 : decide (t < 0) = false := decide_eq_false (by omega)
    have b6 : decide (t ≥ nodes) = false := decide_eq_false (by omega)
    have b7 : (s == t) = false := beq_eq_false_iff_ne.2 h7
    have b8 : decide ((k : Int) > 4000) = false := decide_eq_false (by omega)
    go_enter Try.func10, Try.ntmps10
    go_wp2
    go_loopw [48, 9] (fun i sv wx => ∃ j : Nat, j ≤ k ∧ i = .int .i64 j ∧ sv = .int .i64 (outTo l s.toNat j) ∧ Hid (okTo nodes l j) ∧ (0 ≤ outTo l s.toNat j ∧ outTo l s.toNat j ≤ 200 * j) ∧ Below w.heap.size w wx) (fun i _ _ => k - (intOf i).toNat)
    case atStart => exact ⟨0, Nat.zero_le _, rfl, rfl, Lib.hid (fun _ _ h => by omega), ⟨Int.le_refl _, by simp [outTo, sm]⟩, Below.refl _ _⟩
    case round =>
      clear b1 b2 b3 b4 b5 b6 b7 b8
      have HH := Lib.hid (And.intro (And.intro h1 h2) (And.intro (And.intro h3 h4) (And.intro (And.intro h5 h6) (And.intro h7 h8))))
      clear h1 h2 h3 h4 h5 h6 h7 h8
      obtain ⟨j, hj, rfl, rfl, hg, hsb, hb⟩ := hrel
      obtain ⟨sv, hsv⟩ : ∃ sv, outTo l s.toNat j = sv := ⟨_, rfl⟩
      rw [hsv] at hsb
      rw [hsv]
      by_cases hlt : j < k
      · obtain ⟨b, off, rfl, hbB, hsl, c0, c1, c2, c3⟩ := hr.arc hlt
        have d0 := (hb.cell (p := ⟨b, off + j * 4, none⟩) hbB).trans c0
        have d1 := (hb.cell (p := ⟨b, off + j * 4 + 1, none⟩) hbB).trans c1
        have d2 := (hb.cell (p := ⟨b, off + j * 4 + 2, none⟩) hbB).trans c2
        have d3 := (hb.cell (p := ⟨b, off + j * 4 + 3, none⟩) hbB).trans c3
        have hnw := nw_at hsl
        obtain ⟨⟨ef, et, ec, ek⟩, he⟩ : ∃ e, l[j] = e := ⟨_, rfl⟩
        rw [he] at d0 d1 d2 d3 hnw
        simp only at d0 d1 d2 d3 hnw
        have hXB := hb.alloc hb.size (.cells #[.int .i64 ef, .int .i64 et, .int .i64 ec, .int .i64 ek] 28)
        have hE := heap_alloc_new wr (.cells #[.int .i64 ef, .int .i64 et, .int .i64 ec, .int .i64 ek] 28)
        go_upto_region 7 with (fail)
        obtain ⟨E, hEe⟩ : ∃ E, wr.heap.size = E := ⟨_, rfl⟩
        rw [hEe] at hE ⊢
        generalize wr.alloc (.cells #[.int .i64 ef, .int .i64 et, .int .i64 ec, .int .i64 ek] 28) = wE at hE hXB ⊢
        have i0 : wE.cell? ⟨E, 0, none⟩ = some (.int .i64 ef) := by rw [cell_of_row wE E 0 _ _ _ hE]; rfl
        have i1 : wE.cell? ⟨E, 1, none⟩ = some (.int .i64 et) := by rw [cell_of_row wE E 1 _ _ _ hE]; rfl
        have i2 : wE.cell? ⟨E, 2, none⟩ = some (.int .i64 ec) := by rw [cell_of_row wE E 2 _ _ _ hE]; rfl
        have i3 : wE.cell? ⟨E, 3, none⟩ = some (.int .i64 ek) := by rw [cell_of_row wE E 3 _ _ _ hE]; rfl
        clear hE d0 d1 d2 d3 hEe
        by_cases hin : okA nodes (ef, et, ec, ek)
        · have HG : Hid (okTo nodes l (j + 1)) := Lib.hid fun i hi hij => by
            by_cases e : i = j
            · subst e
              rw [he]; exact hin
            · exact hg.out i hi (by omega)
          obtain ⟨⟨g1, g2⟩, ⟨g3, g4⟩, g5, ⟨g6, g7⟩, g8, g9⟩ := hin
          simp only at g1 g2 g3 g4 g5 g6 g7 g8 g9
          have e1 : decide (ef < 0) = false := decide_eq_false (by omega)
          have e2 : decide (ef ≥ nodes) = false := decide_eq_false (by omega)
          have e3 : decide (et < 0) = false := decide_eq_false (by omega)
          have e4 : decide (et ≥ nodes) = false := decide_eq_false (by omega)
          have e5 : (ef == et) = false := beq_eq_false_iff_ne.2 g5
          have e6 : decide (ec < 0) = false := decide_eq_false (by omega)
          have e7 : decide (ec > 200) = false := decide_eq_false (by omega)
          have e8 : decide (ek < 0) = false := decide_eq_false (by omega)
          have e9 : decide (ek > 1000) = false := decide_eq_false (by omega)
          have hsu := outTo_succ l s.toNat j
          rw [hsv, hnw.1, hnw.2.2.1] at hsu
          have hs0 := HH.out.2.1.1
          have hwj : IntKind.i64.wrap ((j : Int) + 1) = (j : Int) + 1 := IntWalk.i64_in _ (by have := HH.out.2.2.2.2; omega)
          have HWJ := Lib.hid hwj
          have HGG : Hid (0 ≤ ec ∧ ec ≤ 200 ∧ 0 ≤ ef ∧ 0 ≤ s) := Lib.hid ⟨g6, g7, g1, hs0⟩
          have HGS := Lib.hid hsu
          have HSB0 := Lib.hid hsb
          clear hwj hg c0 c1 c2 c3 he hnw hsu hsv g1 g2 g3 g4 g5 g6 g7 g8 g9 hsb hs0
          go_upto_region 9 with (fail)
          clear e1 e2 e3 e4 e5 e6 e7 e8 e9 i1 i3
          obtain ⟨g6, g7, g1, hs0⟩ := HGG.out
          have hsu := HGS.out
          have hsb := HSB0.out
          have hwj := HWJ.out
          have h8 := HH.out.2.2.2.2
          clear HGG HGS HSB0
          by_cases hes : ef = s
          · subst hes
            have e10 : (ef == ef) = true := beq_iff_eq.2 rfl
            have HSU : Hid (outTo l ef.toNat (j + 1) = sv + ec) := Lib.hid (by rw [hsu, if_pos rfl])
            have HSB : Hid (0 ≤ outTo l ef.toNat (j + 1) ∧ outTo l ef.toNat (j + 1) ≤ 200 * ((j + 1 : Nat) : Int)) := Lib.hid (by rw [HSU.out]; omega)
            have hwz : IntKind.i64.wrap (sv + ec) = sv + ec := IntWalk.i64_in _ (by omega)
            clear hsu g6 g7 g1 hsb hs0 h8
            go_wp2
            go_roundw
            case rel => exact ⟨j + 1, by omega, by go_num, by rw [HSU.out], HG, HSB.out, hXB⟩
            case measure => simp [intOf]; omega
          · have e10 : (ef == s) = false := beq_eq_false_iff_ne.2 hes
            have HSU : Hid (outTo l s.toNat (j + 1) = sv) := Lib.hid (by rw [hsu, if_neg (by omega)]; omega)
            have HSB : Hid (0 ≤ outTo l s.toNat (j + 1) ∧ outTo l s.toNat (j + 1) ≤ 200 * ((j + 1 : Nat) : Int)) := Lib.hid (by rw [HSU.out]; omega)
            clear hsu g6 g7 g1 hsb hs0 h8
            go_wp2
            go_roundw
            case rel => exact ⟨j + 1, by omega, by go_num, by rw [HSU.out], HG, HSB.out, hXB⟩
            case measure => simp [intOf]; omega
        · have hno : RIs false (GoodN nodes s t l) := ⟨(fun h => by cases h), fun h => by
            have := h.2.2.2.2.2.1 l[j] (List.getElem_mem hsl)
            rw [he] at this
            exact absurd this hin⟩
          have h := bad_ways hin
          clear hin hg c0 c1 c2 c3 he hnw hsv
          rcases h with g1 | ⟨g1, g2⟩ | ⟨g1, g2, g3⟩ | ⟨g1, g2, g3, g4⟩ | ⟨g1, g2, g3, g4, g5⟩ | ⟨g1, g2, g3, g4, g5, g6⟩ | ⟨g1, g2, g3, g4, g5, g6, g7⟩ | ⟨g1, g2, g3, g4, g5, g6, g7, g8⟩ | ⟨g1, g2, g3, g4, g5, g6, g7, g8, g9⟩
          case inr.inr.inr.inr.inl =>
            subst g5
            go_wp2
            all_goals go_ret
            all_goals exact ⟨false, rfl, hno, hXB⟩
          all_goals
            first
              | have e5 : (ef == et) = false := beq_eq_false_iff_ne.2 g5
              | skip
            go_wp2
            all_goals go_ret
            all_goals exact ⟨false, rfl, hno, hXB⟩
      · obtain rfl : j = k := by omega
        have hlt' : decide ((j : Int) < (j : Int)) = false := decide_eq_false (by omega)
        have hyes : RIs (decide (sv ≤ 200)) (GoodN nodes s t l) := by
          unfold RIs
          rw [decide_eq_true_eq]
          have hkl := HKL.out
          obtain ⟨⟨h1, h2⟩, ⟨h3, h4⟩, ⟨h5, h6⟩, h7, h8⟩ := HH.out
          constructor
          · intro h
            exact ⟨⟨h1, h2⟩, ⟨h3, h4⟩, ⟨h5, h6⟩, h7, by omega, fun e he => by
              obtain ⟨i, hi, rfl⟩ := List.getElem_of_mem he
              exact hg.out i hi (by omega), by rw [← hkl, hsv]; exact h⟩
          · intro h
            have := h.2.2.2.2.2.2
            rw [← hkl, hsv] at this
            exact this
        clear hg hsv
        go_wp2
        go_ret
        exact ⟨_, rfl, hyes, hb⟩
  · have hno : RIs false (GoodN nodes s t l) := ⟨(fun h => by cases h), fun h => absurd ⟨h.1, h.2.1, h.2.2.1, h.2.2.2.1, by have := h.2.2.2.2.1; have := HKL.out; omega⟩ hs⟩
    have h : nodes < 2 ∨ (2 ≤ nodes ∧ 200 < nodes) ∨ (2 ≤ nodes ∧ nodes ≤ 200 ∧ s < 0) ∨ (2 ≤ nodes ∧ nodes ≤ 200 ∧ 0 ≤ s ∧ nodes ≤ s) ∨ (2 ≤ nodes ∧ nodes ≤ 200 ∧ 0 ≤ s ∧ s < nodes ∧ t < 0) ∨ (2 ≤ nodes ∧ nodes ≤ 200 ∧ 0 ≤ s ∧ s < nodes ∧ 0 ≤ t ∧ nodes ≤ t) ∨ (2 ≤ nodes ∧ nodes ≤ 200 ∧ 0 ≤ s ∧ s < nodes ∧ 0 ≤ t ∧ t < nodes ∧ s = t) ∨ (2 ≤ nodes ∧ nodes ≤ 200 ∧ 0 ≤ s ∧ s < nodes ∧ 0 ≤ t ∧ t < nodes ∧ s ≠ t ∧ 4000 < k) := by omega
    clear hs hr
    rcases h with g1 | ⟨g1, g2⟩ | ⟨g1, g2, g3⟩ | ⟨g1, g2, g3, g4⟩ | ⟨g1, g2, g3, g4, g5⟩ | ⟨g1, g2, g3, g4, g5, g6⟩ | ⟨g1, g2, g3, g4, g5, g6, g7⟩ | ⟨g1, g2, g3, g4, g5, g6, g7, g8⟩
    case inr.inr.inr.inr.inr.inr.inl =>
      subst g7
      go_enter Try.func10, Try.ntmps10
      go_wp2
      all_goals go_ret
      all_goals exact ⟨false, rfl, hno, Below.refl _ _⟩
    all_goals
      first
        | have e5 : (s == t) = false := beq_eq_false_iff_ne.2 g7
        | skip
      go_enter Try.func10, Try.ntmps10
      go_wp2
      all_goals go_ret
      all_goals exact ⟨false, rfl, hno, Below.refl _ _⟩
end Go.Proofs.Ytmekcpbcgelliaa
