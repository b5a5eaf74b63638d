/- Cabins, in plain words: rows, seats, spots. -/
import Derived.Test.YtddiabpjmnmllaaDoorRow
import Derived.Lib.Case
namespace Go.Proofs.YtddiabpjmnmllaaDoor
open Go.RowKit Go.Lib
/-- The letter as a great one; 0: it is none. -/
def greatB (c : UInt8) : UInt8 := if 97 ≤ c.toNat ∧ c.toNat ≤ 122 then c - 32 else if 65 ≤ c.toNat ∧ c.toNat ≤ 90 then c else 0
/-- A row's letters, judged one by one: did a block just begin, how many, the last. -/
def seatsGo : Bool → Nat → UInt8 → List UInt8 → Bool
  | dot, n, _, [] => !dot && decide (1 ≤ n ∧ n ≤ 6)
  | dot, n, last, c :: t => if c = 46 then (if dot then false else seatsGo true n last t) else if greatB c = 0 ∨ (greatB c).toNat ≤ last.toNat then false else seatsGo false (n + 1) (greatB c) t
def seatsOk (s : ByteArray) : Bool := seatsGo true 0 0 s.data.toList
/-- The letters rise. -/
def risesGo : UInt8 → List UInt8 → Bool
  | _, [] => true
  | last, c :: t => decide (65 ≤ c.toNat ∧ c.toNat ≤ 90 ∧ last.toNat < c.toNat) && risesGo c t
/-- No block is empty. -/
def dotsOk : Bool → List UInt8 → Bool
  | dot, [] => !dot
  | dot, c :: t => if c = 46 then (if dot then false else dotsOk true t) else dotsOk false t
def noDots (l : List UInt8) : List UInt8 := l.filter (fun c => decide (c ≠ 46))
theorem upper_great {c : UInt8} (h : c ≠ 46) (ha : c.toNat < 128) : (65 ≤ (upperB c).toNat ∧ (upperB c).toNat ≤ 90 → greatB c = upperB c) ∧ (greatB c ≠ 0 → greatB c = upperB c ∧ 65 ≤ (upperB c).toNat ∧ (upperB c).toNat ≤ 90) ∧ upperB c ≠ 46 := by
  have key : ∀ i : Fin 128, UInt8.ofNat i.val ≠ 46 → (65 ≤ (upperB (UInt8.ofNat i.val)).toNat ∧ (upperB (UInt8.ofNat i.val)).toNat ≤ 90 → greatB (UInt8.ofNat i.val) = upperB (UInt8.ofNat i.val)) ∧ (greatB (UInt8.ofNat i.val) ≠ 0 → greatB (UInt8.ofNat i.val) = upperB (UInt8.ofNat i.val) ∧ 65 ≤ (upperB (UInt8.ofNat i.val)).toNat ∧ (upperB (UInt8.ofNat i.val)).toNat ≤ 90) ∧ upperB (UInt8.ofNat i.val) ≠ 46 := by decide +kernel
  have := key ⟨c.toNat, ha⟩
  simp only [UInt8.ofNat_toNat] at this
  exact this h
theorem upper_dot : upperB 46 = 46 := by decide
theorem great_zero : (0 : UInt8).toNat = 0 := rfl
theorem noDots_cons (c : UInt8) (t : List UInt8) : noDots (c :: t) = if c = 46 then noDots t else c :: noDots t := by
  unfold noDots
  rw [List.filter_cons]
  by_cases h : c = 46 <;> simp [h]
theorem noDots_le (l : List UInt8) : (noDots l).length ≤ l.length := List.length_filter_le _ _
/-- Judged letter by letter, or all at once. -/
theorem seats_go : ∀ (l : List UInt8) (dot : Bool) (n : Nat) (last : UInt8), (∀ c ∈ l, c.toNat < 128) → n ≤ 6 →
    seatsGo dot n last l = (risesGo last (noDots (l.map upperB)) && decide (1 ≤ n + (noDots (l.map upperB)).length ∧ n + (noDots (l.map upperB)).length ≤ 6) && dotsOk dot l) := by
  intro l
  induction l with
  | nil =>
    intro dot n last _ _
    simp only [seatsGo, List.map_nil, noDots, List.filter_nil, risesGo, List.length_nil, Nat.add_zero, Bool.true_and, dotsOk]
    rw [Bool.and_comm]
  | cons c t ih =>
    intro dot n last ha hn
    have hat := fun x hx => ha x (List.mem_cons_of_mem c hx)
    have hac := ha c (by simp)
    rw [List.map_cons, noDots_cons]
    by_cases hc : c = 46
    · subst hc
      rw [upper_dot, if_pos rfl]
      simp only [seatsGo, dotsOk, if_true]
      cases dot with
      | true => simp
      | false => simp only [Bool.false_eq_true, if_false]; exact ih true n last hat hn
    · obtain ⟨h1, h2, h3⟩ := upper_great hc hac
      rw [if_neg h3]
      simp only [seatsGo, dotsOk, if_neg hc, risesGo, List.length_cons]
      by_cases hg : greatB c = 0 ∨ (greatB c).toNat ≤ last.toNat
      · rw [if_pos hg]
        have : decide (65 ≤ (upperB c).toNat ∧ (upperB c).toNat ≤ 90 ∧ last.toNat < (upperB c).toNat) = false := by
          refine decide_eq_false fun h => ?_
          have e := h1 ⟨h.1, h.2.1⟩
          rcases hg with hg | hg
          · rw [← e, hg] at h; have := h.1; rw [great_zero] at this; omega
          · rw [e] at hg; omega
        rw [this]; simp
      · rw [if_neg hg]
        have hg0 : greatB c ≠ 0 := fun h => hg (.inl h)
        obtain ⟨e, r1, r2⟩ := h2 hg0
        have hlt : last.toNat < (upperB c).toNat := by
          rw [← e]; exact Nat.lt_of_not_le fun h => hg (.inr h)
        rw [decide_eq_true (⟨r1, r2, hlt⟩ : 65 ≤ (upperB c).toNat ∧ (upperB c).toNat ≤ 90 ∧ last.toNat < (upperB c).toNat), Bool.true_and, e]
        by_cases h6 : n + 1 ≤ 6
        · rw [ih false (n + 1) (upperB c) hat h6, show n + 1 + (noDots (t.map upperB)).length = n + ((noDots (t.map upperB)).length + 1) by omega]
        · have hno : ∀ (l : List UInt8) (dot : Bool) (n : Nat) (last : UInt8), 6 < n → seatsGo dot n last l = false := by
            intro l
            induction l with
            | nil => intro dot n last h; simp only [seatsGo]; rw [decide_eq_false (by omega)]; simp
            | cons c t ih =>
              intro dot n last h
              simp only [seatsGo]
              split
              · split
                · rfl
                · exact ih _ _ _ h
              · split
                · rfl
                · exact ih _ _ _ (by omega)
          rw [hno t false (n + 1) _ (by omega), decide_eq_false (by omega)]; simp
end Go.Proofs.YtddiabpjmnmllaaDoor
