/- The board's riders, in plain words. -/
import Derived.Test.YtppjpledjhinbaaDoorJRsMost
namespace Go.Proofs.YtppjpledjhinbaaDoor
open Go.RowKit Go.Lib
def gP (l : List MRow) (rs : List MSit) : Nat → Skr := kN (blocksOf (spotsL l)) (boardK (spotsL l) [] rs)
def gC (l : List MRow) : Nat → Nat := capsOf (blocksOf (spotsL l))
def gM (l : List MRow) : Nat := (blocksOf (spotsL l)).length
theorem boardK_at (L : List MSpot) : ∀ (rs B : List MSit) (i : Nat) (hi : i < rs.length), (boardK L B rs)[i]'(by rw [boardK_len]; exact hi) = ⟨rs[i], false, false, -1, ownOf L (B ++ rs.take i) rs[i]⟩ := by
  intro rs
  induction rs with
  | nil => intro B i hi; simp at hi
  | cons x t ih =>
    intro B i hi
    cases i with
    | zero => simp [boardK]
    | succ i =>
      have := ih (B ++ [x]) i (by simpa using hi)
      simp only [boardK, List.getElem_cons_succ, List.take_succ_cons]
      rw [this, List.append_assoc]
      rfl
theorem gP_at (l : List MRow) (rs : List MSit) {i : Nat} (hi : i < rs.length) : gP l rs i = kOf (blocksOf (spotsL l)) ⟨rs[i], false, false, -1, ownOf (spotsL l) (rs.take i) rs[i]⟩ := by
  unfold gP
  rw [kN_at (by rw [boardK_len]; exact hi), boardK_at (spotsL l) rs [] i hi, List.nil_append]
theorem gP_open (l : List MRow) (rs : List MSit) : Open0 (gP l rs) rs.length := fun i hi => by
  rw [gP_at l rs hi]
  exact ⟨rfl, rfl, by show (-1 : Int) < 0; omega⟩
theorem gP_same {l : List MRow} {rs rs' : List MSit} {i j : Nat} (hi : i < rs.length) (hj : j < rs'.length) (h : rs[i].who = rs'[j].who) : (gP l rs i).fits = (gP l rs' j).fits ∧ (gP l rs i).inf = (gP l rs' j).inf := by
  rw [gP_at l rs hi, gP_at l rs' hj]
  unfold kOf
  simp only
  rw [h]
  exact ⟨rfl, rfl⟩
theorem min_ex (K : Nat → Skr) (caps : Nat → Nat) (n m : Nat) : ∃ c, MinIs K caps n m c := by
  have hpos : ∀ σ, 0 ≤ costA K n m σ := fun σ => sm_nonneg fun i _ => by
    have h1 := (K i).price_pos
    have h2 := (K i).toll_le (σ i)
    split <;> omega
  have main : ∀ (d : Nat) (σ : Nat → Nat), OkA K caps n m σ → costA K n m σ < d → ∃ c, MinIs K caps n m c := by
    intro d
    induction d with
    | zero => intro σ _ h; have := hpos σ; omega
    | succ d ih =>
      intro σ h1 h2
      by_cases h : ∀ τ, OkA K caps n m τ → costA K n m σ ≤ costA K n m τ
      · exact ⟨_, ⟨σ, h1, rfl⟩, h⟩
      · obtain ⟨τ, hτ⟩ := Classical.not_forall.1 h
        obtain ⟨h3, h4⟩ := Classical.not_imp.1 hτ
        exact ih τ h3 (by omega)
  exact main ((costA K n m fun _ => m).toNat + 1) _ (none_ok K caps n m) (by have := hpos (fun _ => m); omega)
end Go.Proofs.YtppjpledjhinbaaDoor
