/- Flows: the reference's Right of layer 15, walked. -/
import Derived.Test.YtmekcpbcgelliaaFlRight
namespace Go.Proofs.Ytmekcpbcgelliaa
open Go.RowKit
def GoodG (n m : Int) (l : List Eg) : Prop := (0 ≤ n ∧ n ≤ 200) ∧ (0 ≤ m ∧ m ≤ 200) ∧ l.length ≤ 4000 ∧ ∀ e ∈ l, (0 ≤ e.1 ∧ e.1 < n) ∧ (0 ≤ e.2 ∧ e.2 < m)
def GoodTo (n m : Int) (l : List Eg) (j : Nat) : Prop := ∀ i (h : i < l.length), i < j → (0 ≤ l[i].1 ∧ l[i].1 < n) ∧ (0 ≤ l[i].2 ∧ l[i].2 < m)
set_option maxHeartbeats 4000000 in
set_option maxRecDepth 20000 in
theorem rright_any (w : World) (n m : Int) (A : Option Addr) (k c : Nat) (l : List Eg) (hr : Rd w w.heap.size 2 A k (edgv l)) :
    Calls Try.prog 12 #[.int .i64 n, .int .i64 m, .slice A k c] w fun e w' => ∃ r, e = .returned (.bool r) ∧ RIs r (GoodG n m l) ∧ Below w.heap.size w w' := by
  have HKL := Lib.hid (rd_edglen hr)
  by_cases hs : (0 ≤ n ∧ n ≤ 200) ∧ (0 ≤ m ∧ m ≤ 200) ∧ k ≤ 4000
  · obtain ⟨⟨h1, h2⟩, ⟨h3, h4⟩, h5⟩ := hs
    have b1 : decide (n < 0) = false := decide_eq_false (by omega)
    have b2 : decide (n > 200) = false := decide_eq_false (by omega)
    have b3 : decide (m < 0) = false := decide_eq_false (by omega)
    have b4 : decide (m > 200) = false := decide_eq_false (by omega)
    have b5 : decide ((k : Int) > 4000) = false := decide_eq_false (by omega)
    go_enter Try.func12, Try.ntmps12
    go_wp2
    go_loopw [30] (fun i wx => ∃ j : Nat, j ≤ k ∧ i = .int .i64 j ∧ Hid (GoodTo n m l j) ∧ Below w.heap.size w wx) (fun i _ => k - (intOf i).toNat)
    case atStart => exact ⟨0, Nat.zero_le _, rfl, Lib.hid (fun _ _ h => by omega), Below.refl _ _⟩
    case round =>
      obtain ⟨j, hj, rfl, hg, hb⟩ := hrel
      by_cases hlt : j < k
      · obtain ⟨b, off, rfl, hbB, hsl, c0, c1⟩ := hr.edge hlt
        have d0 := (hb.cell (p := ⟨b, off + j * 2, none⟩) hbB).trans c0
        have d1 := (hb.cell (p := ⟨b, off + j * 2 + 1, none⟩) hbB).trans c1
        obtain ⟨⟨ea, eb⟩, he⟩ : ∃ e, l[j] = e := ⟨_, rfl⟩
        rw [he] at d0 d1
        simp only at d0 d1
        have hXB := hb.alloc hb.size (.cells #[.int .i64 ea, .int .i64 eb] 37)
        by_cases hin : (0 ≤ ea ∧ ea < n) ∧ (0 ≤ eb ∧ eb < m)
        · have HG : Hid (GoodTo n m l (j + 1)) := Lib.hid fun i hi hij => by
            by_cases e : i = j
            · subst e
              rw [he]; exact hin
            · exact hg.out i hi (by omega)
          obtain ⟨⟨g1, g2⟩, g3, g4⟩ := hin
          have e1 : decide (ea < 0) = false := decide_eq_false (by omega)
          have e2 : decide (ea ≥ n) = false := decide_eq_false (by omega)
          have e3 : decide (eb < 0) = false := decide_eq_false (by omega)
          have e4 : decide (eb ≥ m) = false := decide_eq_false (by omega)
          clear hg c0 c1 he
          go_wp2
          go_roundw
          case rel => exact ⟨j + 1, by omega, by go_num, HG, hXB⟩
          case measure => simp [intOf]; omega
        · have hno : RIs false (GoodG n m l) := ⟨(fun h => by cases h), fun h => by
            have := h.2.2.2 l[j] (List.getElem_mem hsl)
            rw [he] at this
            exact absurd this hin⟩
          have h : ea < 0 ∨ (0 ≤ ea ∧ n ≤ ea) ∨ (0 ≤ ea ∧ ea < n ∧ eb < 0) ∨ (0 ≤ ea ∧ ea < n ∧ 0 ≤ eb ∧ m ≤ eb) := by omega
          clear hin hg c0 c1 he
          rcases h with g1 | ⟨g1, g2⟩ | ⟨g1, g2, g3⟩ | ⟨g1, g2, g3, g4⟩
          all_goals
            go_wp2
            all_goals go_ret
            all_goals exact ⟨false, rfl, hno, hXB⟩
      · have hyes : RIs true (GoodG n m l) := ⟨fun _ => ⟨⟨h1, h2⟩, ⟨h3, h4⟩, by have := HKL.out; omega, fun e he => by
          obtain ⟨i, hi, rfl⟩ := List.getElem_of_mem he
          exact hg.out i hi (by have := HKL.out; omega)⟩, fun _ => rfl⟩
        have hlt' : decide ((j : Int) < (k : Int)) = false := decide_eq_false (by omega)
        clear hg
        go_wp2
        go_ret
        exact ⟨true, rfl, hyes, hb⟩
  · have hno : RIs false (GoodG n m l) := ⟨(fun h => by cases h), fun h => absurd ⟨h.1, h.2.1, by have := h.2.2.1; have := HKL.out; omega⟩ hs⟩
    have h : n < 0 ∨ (0 ≤ n ∧ 200 < n) ∨ (0 ≤ n ∧ n ≤ 200 ∧ m < 0) ∨ (0 ≤ n ∧ n ≤ 200 ∧ 0 ≤ m ∧ 200 < m) ∨ (0 ≤ n ∧ n ≤ 200 ∧ 0 ≤ m ∧ m ≤ 200 ∧ 4000 < k) := by omega
    clear hs hr
    rcases h with g1 | ⟨g1, g2⟩ | ⟨g1, g2, g3⟩ | ⟨g1, g2, g3, g4⟩ | ⟨g1, g2, g3, g4, g5⟩
    all_goals
      go_enter Try.func12, Try.ntmps12
      go_wp2
      all_goals go_ret
      all_goals exact ⟨false, rfl, hno, Below.refl _ _⟩
end Go.Proofs.Ytmekcpbcgelliaa
