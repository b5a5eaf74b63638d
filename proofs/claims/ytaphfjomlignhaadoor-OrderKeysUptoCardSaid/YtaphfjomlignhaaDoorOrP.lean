/- Keys: texts, numbers, parts, in plain words. -/
import Derived.Test.YtaphfjomlignhaaDoorMem
import Derived.Lib.Replace
import Derived.Lib.IndexBytes
namespace Go.Proofs.YtaphfjomlignhaaDoor
open Go.Lib
/-- A text as it stands in a key: each nought is followed by 255. -/
def esc (l : List UInt8) : List UInt8 := l.flatMap fun b => if b = 0 then [0, 255] else [b]
theorem esc_cons (b : UInt8) (l : List UInt8) : esc (b :: l) = (if b = 0 then [0, 255] else [b]) ++ esc l := by simp [esc]
theorem replaceK_esc : ∀ s : List UInt8, replaceK [0] [0, 255] (count s [0]) s = esc s := by
  intro s
  induction s with
  | nil => rw [count_one]; rfl
  | cons c s ih =>
    by_cases hc : c = 0
    · subst hc
      have hi : index ((0 : UInt8) :: s) [0] = ((0 : Nat) : Int) := by rw [index_one]; simp [indexByte]
      rw [count_cons_eq, Nat.add_comm, replaceK_hit _ _ _ _ 0 hi, esc_cons, if_pos rfl]
      simpa using ih
    · rw [count_cons_ne c 0 s hc, esc_cons, if_neg hc]
      cases hk : count s [0] with
      | zero =>
        rw [hk] at ih
        rw [replaceK] at ih ⊢
        rw [← ih]
        rfl
      | succ k =>
        obtain ⟨i, hi⟩ := index_of_count (s := s) (old := [0]) (by omega)
        have hi2 : index (c :: s) [0] = ((i + 1 : Nat) : Int) := by
          rw [index_one] at hi ⊢
          have hcb : (c == 0) = false := beq_eq_false_iff_ne.2 hc
          rw [indexByte]
          simp only [hcb, Bool.false_eq_true, if_false, hi]
          have : ((i : Int) == -1) = false := beq_eq_false_iff_ne.2 (by omega)
          simp only [this, Bool.false_eq_true, if_false]
          omega
        rw [hk, replaceK_hit _ _ _ _ i hi] at ih
        rw [replaceK_hit _ _ _ _ (i + 1) hi2, ← ih]
        simp
theorem replace_esc (s : List UInt8) : replaceAll s [0] [0, 255] = esc s := by
  unfold replaceAll replace replaceNum
  rw [if_neg (by decide), if_pos (.inl (by decide))]
  exact replaceK_esc s
end Go.Proofs.YtaphfjomlignhaaDoor
