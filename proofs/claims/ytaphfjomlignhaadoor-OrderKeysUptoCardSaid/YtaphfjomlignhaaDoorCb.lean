/- Bytes compared (plain). -/
import Derived.Test.YtaphfjomlignhaaDoorMem
import Derived.Lib.Bytealg
namespace Go.Proofs.YtaphfjomlignhaaDoor
section
open Lib (compareBytes)
theorem cb_refl : ∀ a, compareBytes a a = 0
  | [] => rfl
  | x :: a => by
    rw [compareBytes, if_neg (UInt8.lt_irrefl x), if_neg (UInt8.lt_irrefl x)]
    exact cb_refl a
theorem cb_eq : ∀ a b, compareBytes a b = 0 → a = b
  | [], [], _ => rfl
  | [], _ :: _, h => by simp [compareBytes] at h
  | _ :: _, [], h => by simp [compareBytes] at h
  | x :: a, y :: b, h => by
    rw [compareBytes] at h
    split at h
    · simp at h
    · split at h
      · simp at h
      · rename_i h1 h2
        have : x = y := by
          rw [UInt8.lt_iff_toNat_lt] at h1 h2
          exact UInt8.toNat_inj.1 (by omega)
        rw [this, cb_eq a b h]
theorem cb_swap : ∀ a b, compareBytes b a = - compareBytes a b
  | [], [] => rfl
  | [], _ :: _ => rfl
  | _ :: _, [] => rfl
  | x :: a, y :: b => by
    rw [compareBytes, compareBytes]
    have h3 := cb_swap a b
    by_cases h1 : x < y
    · have h2 : ¬ y < x := by rw [UInt8.lt_iff_toNat_lt] at h1 ⊢; omega
      rw [if_neg h2, if_pos h1, if_pos h1]; rfl
    · by_cases h2 : y < x
      · rw [if_pos h2, if_neg h1, if_pos h2]
      · rw [if_neg h2, if_neg h1, if_neg h1, if_neg h2]; exact h3
theorem cb_trans : ∀ a b c, compareBytes a b < 0 → compareBytes b c < 0 → compareBytes a c < 0
  | [], [], _, h, _ => by simp [compareBytes] at h
  | _ :: _, [], _, h, _ => by simp [compareBytes] at h
  | _, _ :: _, [], _, h => by simp [compareBytes] at h
  | [], _ :: _, _ :: _, _, _ => by simp [compareBytes]
  | x :: a, y :: b, z :: c, h, h' => by
    rw [compareBytes] at h h' ⊢
    have ih := cb_trans a b c
    simp only [UInt8.lt_iff_toNat_lt] at h h' ⊢
    by_cases h1 : x.toNat < y.toNat
    · by_cases h2 : y.toNat < z.toNat
      · rw [if_pos (by omega)]; decide
      · rw [if_neg h2] at h'
        by_cases h3 : z.toNat < y.toNat
        · rw [if_pos h3] at h'; simp at h'
        · rw [if_pos (by omega)]; decide
    · rw [if_neg h1] at h
      by_cases h2 : y.toNat < x.toNat
      · rw [if_pos h2] at h; simp at h
      · rw [if_neg h2] at h
        by_cases h3 : y.toNat < z.toNat
        · rw [if_pos (by omega)]; decide
        · rw [if_neg h3] at h'
          by_cases h4 : z.toNat < y.toNat
          · rw [if_pos h4] at h'; simp at h'
          · rw [if_neg h4] at h'
            rw [if_neg (by omega), if_neg (by omega)]
            exact ih h h'
theorem cb_less : ∀ a b, Op.bytesLess a b = decide (compareBytes a b < 0)
  | [], [] => rfl
  | [], _ :: _ => rfl
  | _ :: _, [] => rfl
  | x :: a, y :: b => by
    have ih := cb_less a b
    rw [compareBytes]
    simp only [Op.bytesLess, UInt8.lt_iff_toNat_lt, ih]
    by_cases h1 : x.toNat < y.toNat
    · rw [if_pos h1, decide_eq_true h1]; rfl
    · rw [if_neg h1, decide_eq_false h1, Bool.false_or]
      by_cases h2 : y.toNat < x.toNat
      · rw [if_pos h2]
        have : (x == y) = false := by
          rw [beq_eq_false_iff_ne]
          intro e
          rw [e] at h2
          omega
        rw [this]; rfl
      · rw [if_neg h2]
        have : (x == y) = true := by
          rw [beq_iff_eq]
          exact UInt8.toNat_inj.1 (by omega)
        rw [this, Bool.true_and]
end
end Go.Proofs.YtaphfjomlignhaaDoor
