/- Tables in memory: the order of versions, and skip lists (plain). -/
import Derived.Test.YtcfgmkiohmbdlaaMmCmp
namespace Go.Proofs.Ytcfgmkiohmbdlaa
section
open Lib (compareBytes)
theorem cb_refl : ∀ a, compareBytes a a = 0
  | [] => rfl
  | x :: a => by
    rw [compareBytes, if_neg (UInt8.lt_irrefl x), if_neg (UInt8.lt_irrefl x)]
    exact cb_refl a
theorem cb_eq : ∀ a b, compareBytes a b = 0 → a = b
  | [], [], _ => rfl
  | [], _ :: _, h => by simp [compareBytes] at h
  | _ :: _, [], h => by simp [compareBytes] at h
  | x :: a, y :: b, h => by
    rw [compareBytes] at h
    split at h
    · simp at h
    · split at h
      · simp at h
      · rename_i h1 h2
        have : x = y := by
          rw [UInt8.lt_iff_toNat_lt] at h1 h2
          exact UInt8.toNat_inj.1 (by omega)
        rw [this, cb_eq a b h]
theorem cb_swap : ∀ a b, compareBytes b a = - compareBytes a b
  | [], [] => rfl
  | [], _ :: _ => rfl
  | _ :: _, [] => rfl
  | x :: a, y :: b => by
    rw [compareBytes, compareBytes]
    have h3 := cb_swap a b
    by_cases h1 : x < y
    · have h2 : ¬ y < x := by rw [UInt8.lt_iff_toNat_lt] at h1 ⊢; omega
      rw [if_neg h2, if_pos h1, if_pos h1]; rfl
    · by_cases h2 : y < x
      · rw [if_pos h2, if_neg h1, if_pos h2]
      · rw [if_neg h2, if_neg h1, if_neg h1, if_neg h2]; exact h3
theorem cb_trans : ∀ a b c, compareBytes a b < 0 → compareBytes b c < 0 → compareBytes a c < 0
  | [], [], _, h, _ => by simp [compareBytes] at h
  | _ :: _, [], _, h, _ => by simp [compareBytes] at h
  | _, _ :: _, [], _, h => by simp [compareBytes] at h
  | [], _ :: _, _ :: _, _, _ => by simp [compareBytes]
  | x :: a, y :: b, z :: c, h, h' => by
    rw [compareBytes] at h h' ⊢
    have ih := cb_trans a b c
    simp only [UInt8.lt_iff_toNat_lt] at h h' ⊢
    by_cases h1 : x.toNat < y.toNat
    · by_cases h2 : y.toNat < z.toNat
      · rw [if_pos (by omega)]; decide
      · rw [if_neg h2] at h'
        by_cases h3 : z.toNat < y.toNat
        · rw [if_pos h3] at h'; simp at h'
        · rw [if_pos (by omega)]; decide
    · rw [if_neg h1] at h
      by_cases h2 : y.toNat < x.toNat
      · rw [if_pos h2] at h; simp at h
      · rw [if_neg h2] at h
        by_cases h3 : y.toNat < z.toNat
        · rw [if_pos (by omega)]; decide
        · rw [if_neg h3] at h'
          by_cases h4 : z.toNat < y.toNat
          · rw [if_pos h4] at h'; simp at h'
          · rw [if_neg h4] at h'
            rw [if_neg (by omega), if_neg (by omega)]
            exact ih h h'
theorem cb_less : ∀ a b, Op.bytesLess a b = decide (compareBytes a b < 0)
  | [], [] => rfl
  | [], _ :: _ => rfl
  | _ :: _, [] => rfl
  | x :: a, y :: b => by
    have ih := cb_less a b
    rw [compareBytes]
    simp only [Op.bytesLess, UInt8.lt_iff_toNat_lt, ih]
    by_cases h1 : x.toNat < y.toNat
    · rw [if_pos h1, decide_eq_true h1]; rfl
    · rw [if_neg h1, decide_eq_false h1, Bool.false_or]
      by_cases h2 : y.toNat < x.toNat
      · rw [if_pos h2]
        have : (x == y) = false := by
          rw [beq_eq_false_iff_ne]
          intro e
          rw [e] at h2
          omega
        rw [this]; rfl
      · rw [if_neg h2]
        have : (x == y) = true := by
          rw [beq_iff_eq]
          exact UInt8.toNat_inj.1 (by omega)
        rw [this, Bool.true_and]
end
theorem cmpI_swap (a b : Int) : cmpI b a = - cmpI a b := by unfold cmpI; split <;> split <;> first | rfl | omega
theorem cmpI_zero {a b : Int} (h : cmpI a b = 0) : a = b := by
  unfold cmpI at h
  split at h
  · omega
  · split at h <;> omega
theorem cmpE_swap (x y : Ent) : cmpE y x = - cmpE x y := by
  unfold cmpE
  rw [cb_swap x.key.data.toList y.key.data.toList, cmpI_swap y.seq x.seq]
  by_cases h : Lib.compareBytes x.key.data.toList y.key.data.toList = 0
  · rw [if_pos h, if_pos (by omega)]
  · rw [if_neg h, if_neg (by omega)]
theorem bytes_eq {a b : ByteArray} (h : a.data.toList = b.data.toList) : a = b := by
  cases a; cases b
  simp at h
  rw [h]
theorem cmpE_zero {x y : Ent} (h : cmpE x y = 0) : x.key = y.key ∧ x.seq = y.seq := by
  unfold cmpE at h
  by_cases h1 : Lib.compareBytes x.key.data.toList y.key.data.toList = 0
  · rw [if_pos h1] at h
    exact ⟨bytes_eq (cb_eq _ _ h1), (cmpI_zero h).symm⟩
  · rw [if_neg h1] at h
    exact absurd h h1
theorem cmpE_same {x y : Ent} (h1 : x.key = y.key) (h2 : x.seq = y.seq) : cmpE x y = 0 := by
  unfold cmpE
  rw [h1, h2, cb_refl, if_pos rfl]
  unfold cmpI
  rw [if_neg (by omega), if_neg (by omega)]
theorem cmpI_lt {a b : Int} : cmpI a b < 0 ↔ a < b := by
  unfold cmpI
  split
  · omega
  · split <;> omega
theorem less_cmp (x y : Ent) : lessE x y = decide (cmpE x y < 0) := by
  unfold lessE lessK cmpE
  rw [ByteArray.toList_eq, ByteArray.toList_eq, cb_less]
  by_cases h : Lib.compareBytes x.key.data.toList y.key.data.toList = 0
  · have e := cb_eq _ _ h
    have e2 : (x.key.data.toList == y.key.data.toList) = true := by rw [beq_iff_eq]; exact e
    rw [if_pos h, e2, h, Bool.true_and]
    show (false || decide (y.seq < x.seq)) = _
    rw [Bool.false_or]
    exact decide_eq_decide.2 cmpI_lt.symm
  · have e2 : (x.key.data.toList == y.key.data.toList) = false := by
      rw [beq_eq_false_iff_ne]
      intro e
      rw [e] at h
      exact h (cb_refl _)
    rw [if_neg h, e2, Bool.false_and, Bool.or_false]
theorem cmpE_trans {x y z : Ent} (h1 : cmpE x y < 0) (h2 : cmpE y z < 0) : cmpE x z < 0 := by
  unfold cmpE at *
  by_cases a : Lib.compareBytes x.key.data.toList y.key.data.toList = 0
  · rw [if_pos a] at h1
    have e := cb_eq _ _ a
    rw [e]
    by_cases b : Lib.compareBytes y.key.data.toList z.key.data.toList = 0
    · rw [if_pos b] at h2 ⊢
      rw [cmpI_lt] at *
      omega
    · rw [if_neg b] at h2 ⊢
      exact h2
  · rw [if_neg a] at h1
    by_cases b : Lib.compareBytes y.key.data.toList z.key.data.toList = 0
    · have e := cb_eq _ _ b
      rw [← e, if_neg a]
      exact h1
    · rw [if_neg b] at h2
      have h3 := cb_trans _ _ _ h1 h2
      rw [if_neg (by omega)]
      exact h3
end Go.Proofs.Ytcfgmkiohmbdlaa
