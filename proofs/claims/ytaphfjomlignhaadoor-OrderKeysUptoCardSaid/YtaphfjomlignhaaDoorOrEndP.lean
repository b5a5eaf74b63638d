/- Keys: the end of a prefix, in plain words. -/
import Derived.Test.YtaphfjomlignhaaDoorMem
namespace Go.Proofs.YtaphfjomlignhaaDoor
/-- The least text behind all that begin so. -/
def endF : List UInt8 → List UInt8
  | [] => []
  | a :: p => if endF p ≠ [] then a :: endF p else if a = 255 then [] else [a + 1]
theorem u8_255 (a : UInt8) (h : a ≠ 255) : (a + 1).toNat = a.toNat + 1 := by
  have h1 : a.toNat ≠ 255 := fun e => h (UInt8.toNat_inj.1 (by rw [e]; rfl))
  have h2 := a.toNat_lt
  rw [UInt8.toNat_add]
  have : (1 : UInt8).toNat = 1 := rfl
  rw [this, Nat.mod_eq_of_lt (by omega)]
theorem less_cons (a b : UInt8) (x y : List UInt8) : Op.bytesLess (a :: x) (b :: y) = true ↔ a.toNat < b.toNat ∨ (a.toNat = b.toNat ∧ Op.bytesLess x y = true) := by
  simp only [Op.bytesLess, Bool.or_eq_true, decide_eq_true_eq, Bool.and_eq_true, beq_iff_eq, UInt8.lt_iff_toNat_lt]
  constructor
  · rintro (h | ⟨h, h2⟩)
    · exact .inl h
    · exact .inr ⟨by rw [h], h2⟩
  · rintro (h | ⟨h, h2⟩)
    · exact .inl h
    · exact .inr ⟨UInt8.toNat_inj.1 h, h2⟩
theorem less_nil (x : List UInt8) : Op.bytesLess x [] = false := by cases x <;> rfl
theorem nil_less (b : UInt8) (y : List UInt8) : Op.bytesLess [] (b :: y) = true := rfl
/-- A text begins with the prefix just where it lies from the prefix on and ahead of its end. -/
theorem begins_iff : ∀ (p t : List UInt8), p <+: t ↔ Op.bytesLess t p = false ∧ (endF p = [] ∨ Op.bytesLess t (endF p) = true) := by
  intro p
  induction p with
  | nil => intro t; simp [endF, less_nil]
  | cons a p ih =>
    intro t
    cases t with
    | nil => simp [nil_less]
    | cons b t =>
      have hl : Op.bytesLess (b :: t) (a :: p) = false ↔ ¬ (b.toNat < a.toNat ∨ (b.toNat = a.toNat ∧ Op.bytesLess t p = true)) := by
        rw [← less_cons]; simp
      have hih := ih t
      have hp : (a :: p) <+: (b :: t) ↔ a.toNat = b.toNat ∧ p <+: t := by
        rw [List.cons_prefix_cons]
        exact ⟨fun h => ⟨by rw [h.1], h.2⟩, fun h => ⟨UInt8.toNat_inj.1 h.1, h.2⟩⟩
      rw [hp, hl, hih]
      have hf : Op.bytesLess t p = false ↔ ¬ Op.bytesLess t p = true := by simp
      rw [hf]
      by_cases hE : endF p = []
      · by_cases ha : a = 255
        · have : endF (a :: p) = [] := by rw [endF, if_neg (by simp [hE]), if_pos ha]
          rw [this, hE]
          have h255 : a.toNat = 255 := by rw [ha]; rfl
          have hb := b.toNat_lt
          simp only [true_or, and_true]
          constructor
          · rintro ⟨h1, h2⟩ (h | ⟨_, h⟩)
            · omega
            · exact h2 h
          · intro h
            have hba : b.toNat = a.toNat := by
              apply Classical.byContradiction
              intro hne
              exact h (.inl (by omega))
            exact ⟨hba.symm, fun h' => h (.inr ⟨hba, h'⟩)⟩
        · have : endF (a :: p) = [a + 1] := by rw [endF, if_neg (by simp [hE]), if_neg ha]
          rw [this, hE, less_cons, less_nil, u8_255 a ha]
          simp only [true_or, and_true, Bool.false_eq_true, and_false, or_false, List.cons_ne_nil, false_or]
          constructor
          · rintro ⟨h1, h2⟩
            refine ⟨?_, by omega⟩
            rintro (h | ⟨_, h⟩)
            · omega
            · exact h2 h
          · rintro ⟨h, h3⟩
            have hba : b.toNat = a.toNat := by
              apply Classical.byContradiction
              intro hne
              exact h (.inl (by omega))
            exact ⟨hba.symm, fun h' => h (.inr ⟨hba, h'⟩)⟩
      · have : endF (a :: p) = a :: endF p := by rw [endF, if_pos hE]
        rw [this, less_cons]
        simp only [hE, List.cons_ne_nil, false_or]
        constructor
        · rintro ⟨h1, h2, h3⟩
          refine ⟨?_, .inr ⟨h1.symm, h3⟩⟩
          rintro (h | ⟨_, h⟩)
          · omega
          · exact h2 h
        · rintro ⟨h, h3 | ⟨h3, h4⟩⟩
          · exact absurd (.inl h3) h
          · exact ⟨h3.symm, fun h' => h (.inr ⟨h3, h'⟩), h4⟩
/-- As it is reckoned: the 255 at the end go, the last byte that is left is one greater. -/
theorem endF_all (k : Nat) : endF (List.replicate k 255) = [] := by
  induction k with
  | zero => rfl
  | succ k ih => rw [List.replicate_succ, endF, if_neg (by simp [ih]), if_pos rfl]
theorem endF_at (q : List UInt8) (c : UInt8) (hc : c ≠ 255) (k : Nat) : endF (q ++ c :: List.replicate k 255) = q ++ [c + 1] := by
  induction q with
  | nil => rw [List.nil_append, endF, if_neg (by simp [endF_all]), if_neg hc]; rfl
  | cons a q ih => rw [List.cons_append, endF, if_pos (by rw [ih]; simp), ih]; rfl
end Go.Proofs.YtaphfjomlignhaaDoor
