/- Stable sorting: rows of blocks in order, in plain words. -/
import Derived.Test.YtcfgmkiohmbdlaaStbP
namespace Go.Proofs.Ytcfgmkiohmbdlaa
section
variable {α : Type} {lt : α → α → Bool}
/-- Blocks of just this length, each in order. -/
inductive Full (lt : α → α → Bool) (k : Nat) : List α → Prop
  | nil : Full lt k []
  | snoc {A B : List α} : Full lt k A → B.length = k → Srt lt B → Full lt k (A ++ B)
/-- Blocks of this length, the last may be shorter, each in order. -/
inductive Chop (lt : α → α → Bool) (k : Nat) : List α → Prop
  | last {l : List α} : l.length ≤ k → Srt lt l → Chop lt k l
  | step {B R : List α} : B.length = k → Srt lt B → Chop lt k R → Chop lt k (B ++ R)
theorem Full.chop {k : Nat} {A R : List α} (h : Full lt k A) (hR : Chop lt k R) : Chop lt k (A ++ R) := by
  induction h generalizing R with
  | nil => exact hR
  | snoc _ h1 h2 ih => rw [List.append_assoc]; exact ih (.step h1 h2 hR)
theorem Chop.srt {k : Nat} {R : List α} (h : Chop lt k R) (hl : R.length ≤ k) : Srt lt R := by
  cases h with
  | last _ h => exact h
  | step h1 h2 h3 =>
    rename_i B R
    have hr : R = [] := List.eq_nil_of_length_eq_zero (by rw [List.length_append] at hl; omega)
    subst hr
    rw [List.append_nil]; exact h2
theorem Chop.head {k : Nat} {R : List α} (h : Chop lt k R) (hl : k ≤ R.length) : ∃ B R', R = B ++ R' ∧ B.length = k ∧ Srt lt B ∧ Chop lt k R' := by
  cases h with
  | last h1 h2 => exact ⟨R, [], by simp, by omega, h2, .last (by simp) List.Pairwise.nil⟩
  | step h1 h2 h3 => exact ⟨_, _, rfl, h1, h2, h3⟩
theorem Chop.two {k : Nat} {R : List α} (h : Chop lt k R) (hl : k + k ≤ R.length) : ∃ B1 B2 R', R = B1 ++ B2 ++ R' ∧ B1.length = k ∧ B2.length = k ∧ Srt lt B1 ∧ Srt lt B2 ∧ Chop lt k R' := by
  obtain ⟨B1, R1, rfl, h1, h2, h3⟩ := h.head (by omega)
  obtain ⟨B2, R2, rfl, h4, h5, h6⟩ := h3.head (by rw [List.length_append] at hl; omega)
  exact ⟨B1, B2, R2, by rw [List.append_assoc], h1, h4, h2, h5, h6⟩
theorem Chop.one {k : Nat} {R : List α} (h : Chop lt k R) (h1 : k < R.length) (h2 : R.length < k + k) : ∃ B1 B2, R = B1 ++ B2 ∧ B1.length = k ∧ Srt lt B1 ∧ Srt lt B2 := by
  obtain ⟨B1, R1, rfl, h3, h4, h5⟩ := h.head (by omega)
  exact ⟨B1, R1, rfl, h3, h4, h5.srt (by rw [List.length_append] at h2; omega)⟩
end
end Go.Proofs.Ytcfgmkiohmbdlaa
