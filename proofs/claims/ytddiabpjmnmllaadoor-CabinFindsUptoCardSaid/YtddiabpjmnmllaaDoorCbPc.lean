/- Cabins: a row's text cut at its dots, and its dots struck, in plain words. -/
import Derived.Test.YtddiabpjmnmllaaDoorCbUp
import Derived.Lib.Replace
import Derived.Lib.SplitLaws
import Derived.Lib.IndexBytes
import Derived.Lib.SlicesS
namespace Go.Proofs.YtddiabpjmnmllaaDoor
open Go.RowKit Go.Lib
theorem index_skip {c d : UInt8} {s : List UInt8} {i : Nat} (hc : ¬ c = d) (hi : index s [d] = i) : index (c :: s) [d] = ((i + 1 : Nat) : Int) := by
  rw [index_one] at hi ⊢
  have hcb : (c == d) = false := beq_eq_false_iff_ne.2 hc
  rw [indexByte]
  simp only [hcb, Bool.false_eq_true, if_false, hi]
  have : ((i : Int) == -1) = false := beq_eq_false_iff_ne.2 (by omega)
  simp only [this, Bool.false_eq_true, if_false]
  omega
theorem replaceK_dots : ∀ s : List UInt8, replaceK [46] [] (count s [46]) s = noDots s := by
  intro s
  induction s with
  | nil => rw [count_one]; rfl
  | cons c s ih =>
    by_cases hc : c = 46
    · subst hc
      have hi : index ((46 : UInt8) :: s) [46] = ((0 : Nat) : Int) := by rw [index_one]; simp [indexByte]
      rw [count_cons_eq, Nat.add_comm, replaceK_hit _ _ _ _ 0 hi, noDots_cons, if_pos rfl]
      simpa using ih
    · rw [count_cons_ne c 46 s hc, noDots_cons, if_neg hc]
      cases hk : count s [46] with
      | zero =>
        rw [hk] at ih
        rw [replaceK] at ih ⊢
        rw [← ih]
      | succ k =>
        obtain ⟨i, hi⟩ := index_of_count (s := s) (old := [46]) (by omega)
        rw [hk, replaceK_hit _ _ _ _ i hi] at ih
        rw [replaceK_hit _ _ _ _ (i + 1) (index_skip hc hi), ← ih]
        simp
theorem replace_dots (s : List UInt8) : replaceAll s [46] [] = noDots s := by
  unfold replaceAll replace replaceNum
  rw [if_neg (by decide), if_pos (.inl (by decide))]
  exact replaceK_dots s
/-- A row's blocks. -/
def piecesL : List UInt8 → List (List UInt8)
  | [] => [[]]
  | c :: t => if c = 46 then [] :: piecesL t else match piecesL t with
    | p :: ps => (c :: p) :: ps
    | [] => [[c]]
theorem pieces_ne : ∀ s, piecesL s ≠ [] := by
  intro s
  cases s with
  | nil => simp [piecesL]
  | cons c t =>
    unfold piecesL
    split
    · simp
    · split <;> simp
theorem splitK_pieces : ∀ s : List UInt8, splitK [46] 0 (count s [46]) s = piecesL s := by
  intro s
  induction s with
  | nil => rw [count_one]; rfl
  | cons c s ih =>
    by_cases hc : c = 46
    · subst hc
      have hi : index ((46 : UInt8) :: s) [46] = ((0 : Nat) : Int) := by rw [index_one]; simp [indexByte]
      rw [count_cons_eq, Nat.add_comm, splitK, hi, piecesL, if_pos rfl, ← ih]
      simp
    · rw [count_cons_ne c 46 s hc, piecesL, if_neg hc, ← ih]
      cases hk : count s [46] with
      | zero => rfl
      | succ k =>
        obtain ⟨i, hi⟩ := index_of_count (s := s) (old := [46]) (by omega)
        have h1 : ((i : Int) == -1) = false := beq_eq_false_iff_ne.2 (by omega)
        have h2 : (((i + 1 : Nat) : Int) == -1) = false := beq_eq_false_iff_ne.2 (by omega)
        rw [splitK, splitK, hi, index_skip hc hi, h1, h2]
        simp
theorem dots_pieces : ∀ (s : List UInt8), (dotsOk true s = true ↔ ([] : List UInt8) ∉ piecesL s) ∧ (dotsOk false s = true ↔ ([] : List UInt8) ∉ (piecesL s).tail) := by
  intro s
  induction s with
  | nil => exact ⟨by simp [dotsOk, piecesL], by simp [dotsOk, piecesL]⟩
  | cons c t ih =>
    by_cases hc : c = 46
    · subst hc
      refine ⟨by simp [dotsOk, piecesL], ?_⟩
      simp only [dotsOk, piecesL, if_true, Bool.false_eq_true, if_false, List.tail_cons]
      exact ih.1
    · obtain ⟨p, ps, hp⟩ : ∃ p ps, piecesL t = p :: ps := by
        cases h : piecesL t with
        | nil => exact absurd h (pieces_ne t)
        | cons p ps => exact ⟨p, ps, rfl⟩
      have h2 := ih.2
      rw [hp] at h2
      simp only [List.tail_cons] at h2
      refine ⟨?_, ?_⟩
      · simp only [dotsOk, piecesL, if_neg hc, hp, h2]
        simp
      · simp only [dotsOk, piecesL, if_neg hc, hp, h2, List.tail_cons]
theorem bytes_nil {b : ByteArray} (h : b.data.toList = []) : b = ⟨#[]⟩ := by
  cases b with
  | mk d => cases d with
    | mk l => simp at h; subst h; rfl
theorem contains_pieces (s : ByteArray) : containsS (splitB ⟨#[46]⟩ 0 (countB s ⟨#[46]⟩) s) ⟨#[]⟩ = !dotsOk true s.data.toList := by
  have hd := splitB_data ⟨#[46]⟩ 0 (countB s ⟨#[46]⟩) s
  have e : countB s ⟨#[46]⟩ = count s.data.toList [46] := rfl
  rw [e] at hd ⊢
  have hp : (splitB ⟨#[46]⟩ 0 (count s.data.toList [46]) s).map (·.data.toList) = piecesL s.data.toList := hd.trans (splitK_pieces _)
  rw [Bool.eq_iff_iff, containsS_iff, Bool.not_eq_true', ← Bool.not_eq_true, (dots_pieces s.data.toList).1, Classical.not_not, ← hp, List.mem_map]
  constructor
  · exact fun h => ⟨_, h, rfl⟩
  · rintro ⟨b, hb, e⟩
    rw [← bytes_nil e]; exact hb
theorem rises_small : ∀ (l : List UInt8) (last : UInt8), risesGo last l = true → ∀ c ∈ l, c.toNat < 128 := by
  intro l
  induction l with
  | nil => intro _ _ c hc; cases hc
  | cons d t ih =>
    intro last h c hc
    simp only [risesGo, Bool.and_eq_true, decide_eq_true_eq] at h
    rcases List.mem_cons.1 hc with rfl | hc
    · omega
    · exact ih d h.2 c hc
theorem seats_small : ∀ (l : List UInt8) (dot : Bool) (n : Nat) (last : UInt8), seatsGo dot n last l = true → ∀ c ∈ l, c.toNat < 128 := by
  intro l
  induction l with
  | nil => intro _ _ _ _ c hc; cases hc
  | cons d t ih =>
    intro dot n last h c hc
    simp only [seatsGo] at h
    split at h
    · rename_i h46
      split at h
      · cases h
      · rcases List.mem_cons.1 hc with rfl | hc
        · rw [h46]; decide
        · exact ih _ _ _ h c hc
    · split at h
      · cases h
      · rename_i hg
        rcases List.mem_cons.1 hc with rfl | hc
        · rcases Nat.lt_or_ge c.toNat 128 with h8 | h8
          · exact h8
          · exfalso
            refine hg (.inl ?_)
            unfold greatB
            rw [if_neg (by omega), if_neg (by omega)]
        · exact ih _ _ _ h c hc
/-- A row's letters, as the program judges them. -/
theorem letters_ok (s : ByteArray) : seatsOk s = (risesGo 0 (noDots (toUpperD s.data.toList)) && decide (1 ≤ (noDots (toUpperD s.data.toList)).length ∧ (noDots (toUpperD s.data.toList)).length ≤ 6) && decide ((toUpperD s.data.toList).length = s.data.toList.length) && dotsOk true s.data.toList) := by
  unfold seatsOk
  by_cases ha : ∀ c ∈ s.data.toList, c.toNat < 128
  · rw [toUpperD_ascii _ ha, seats_go _ true 0 0 ha (by omega)]
    unfold toUpperA
    rw [Nat.zero_add, List.length_map, decide_eq_true (rfl : s.data.toList.length = s.data.toList.length), Bool.and_true]
  · have h1 : seatsGo true 0 0 s.data.toList = false := Bool.eq_false_iff.2 fun h => ha (seats_small _ _ _ _ h)
    rw [h1]
    symm
    rw [Bool.eq_false_iff]
    intro h
    simp only [Bool.and_eq_true, decide_eq_true_eq] at h
    obtain ⟨⟨⟨h2, _⟩, h3⟩, _⟩ := h
    have hs := rises_small _ _ h2
    refine ha ((upper_small _ _ (Nat.le_refl _) fun c hc => ?_).2 h3)
    by_cases hc46 : c = 46
    · rw [hc46]; decide
    · exact hs c (List.mem_filter.2 ⟨hc, by simpa using hc46⟩)
end Go.Proofs.YtddiabpjmnmllaaDoor
