/- Keys: the comparison of lists, in plain words. -/
import Derived.Test.YtaphfjomlignhaaDoorOrCmpF
import Derived.Test.YtaphfjomlignhaaDoorCb
namespace Go.Proofs.YtaphfjomlignhaaDoor
theorem bytes_eq {a b : ByteArray} (h : a.data.toList = b.data.toList) : a = b := by
  cases a; cases b
  simp at h
  rw [h]
theorem cmpI_swap (a b : Int) : cmpI b a = - cmpI a b := by unfold cmpI; split <;> split <;> first | rfl | omega
theorem cmpI_zero {a b : Int} : cmpI a b = 0 ↔ a = b := by
  unfold cmpI
  split
  · constructor <;> intro h <;> omega
  · split <;> constructor <;> intro h <;> omega
theorem cmpI_lt {a b : Int} : cmpI a b < 0 ↔ a < b := by
  unfold cmpI
  split
  · constructor <;> intro h <;> omega
  · split <;> constructor <;> intro h <;> omega
theorem cmpT_swap (a b : ByteArray) : cmpT b a = - cmpT a b := by rw [← cmpT_is, ← cmpT_is, cb_swap]
theorem cmpT_zero {a b : ByteArray} : cmpT a b = 0 ↔ a = b := by
  rw [← cmpT_is]
  exact ⟨fun h => bytes_eq (cb_eq _ _ h), fun h => by rw [h, cb_refl]⟩
theorem cmpT_lt {a b : ByteArray} : cmpT a b < 0 ↔ Op.bytesLess a.data.toList b.data.toList = true := by
  rw [← cmpT_is, cb_less, decide_eq_true_eq]
theorem orL3 (a b c : Int) : orL [a, b, c] = if a = 0 then (if b = 0 then c else b) else a := by
  have h : orL [c] = c := by
    simp only [orL]
    split
    · rename_i h; rw [h]
    · rfl
  rw [orL, orL, h]
theorem cmpP_swap (x y : Pt) : cmpP y x = - cmpP x y := by
  unfold cmpP
  rw [orL3, orL3, cmpI_swap x.kind y.kind, cmpI_swap x.num y.num, cmpT_swap x.text y.text]
  by_cases h1 : cmpI x.kind y.kind = 0
  · rw [if_pos h1, if_pos (by omega)]
    by_cases h2 : cmpI x.num y.num = 0
    · rw [if_pos h2, if_pos (by omega)]
    · rw [if_neg h2, if_neg (by omega)]
  · rw [if_neg h1, if_neg (by omega)]
theorem cmpP_zero {x y : Pt} : cmpP x y = 0 ↔ x = y := by
  obtain ⟨K, N, T⟩ := x
  obtain ⟨K', N', T'⟩ := y
  unfold cmpP
  rw [orL3]
  simp only [Pt.mk.injEq]
  rw [← cmpI_zero (a := K), ← cmpI_zero (a := N), ← cmpT_zero (a := T)]
  by_cases h1 : cmpI K K' = 0
  · rw [if_pos h1]
    by_cases h2 : cmpI N N' = 0
    · rw [if_pos h2]; simp [h1, h2]
    · rw [if_neg h2]; simp [h1, h2]
  · rw [if_neg h1]; simp [h1]
theorem cmpP_lt {x y : Pt} : cmpP x y < 0 ↔ ptLess x y := by
  unfold cmpP ptLess
  rw [orL3]
  have e1 : x.kind < y.kind ↔ cmpI x.kind y.kind < 0 := cmpI_lt.symm
  have e2 : x.num < y.num ↔ cmpI x.num y.num < 0 := cmpI_lt.symm
  have e3 : x.kind = y.kind ↔ cmpI x.kind y.kind = 0 := cmpI_zero.symm
  have e4 : x.num = y.num ↔ cmpI x.num y.num = 0 := cmpI_zero.symm
  rw [e1, e2, e3, e4, ← cmpT_lt]
  by_cases h1 : cmpI x.kind y.kind = 0
  · rw [if_pos h1]
    by_cases h2 : cmpI x.num y.num = 0
    · rw [if_pos h2]; simp [h1, h2]
    · rw [if_neg h2]; simp [h1, h2]
  · rw [if_neg h1]; simp [h1]
theorem cmpL_swap : ∀ (a b : List Pt), cmpL b a = - cmpL a b
  | [], [] => rfl
  | [], _ :: _ => rfl
  | _ :: _, [] => rfl
  | x :: a, y :: b => by
    rw [cmpL, cmpL, cmpP_swap x y, cmpL_swap a b]
    by_cases h : cmpP x y = 0
    · rw [if_pos h, if_pos (by omega)]
    · rw [if_neg h, if_neg (by omega)]
theorem cmpL_zero : ∀ (a b : List Pt), cmpL a b = 0 ↔ a = b
  | [], [] => by simp [cmpL]
  | [], _ :: _ => by simp [cmpL]
  | _ :: _, [] => by simp [cmpL]
  | x :: a, y :: b => by
    rw [cmpL, List.cons.injEq, ← cmpL_zero a b, ← cmpP_zero]
    by_cases h : cmpP x y = 0
    · rw [if_pos h]; simp [h]
    · rw [if_neg h]; simp [h]
theorem cmpL_lt : ∀ (a b : List Pt), cmpL a b < 0 ↔ lessL a b
  | [], [] => by simp [cmpL, lessL]
  | [], _ :: _ => by simp [cmpL, lessL]
  | _ :: _, [] => by simp [cmpL, lessL]
  | x :: a, y :: b => by
    rw [cmpL, lessL, ← cmpL_lt a b]
    by_cases h : cmpP x y = 0
    · have e := cmpP_zero.1 h
      rw [if_pos h]; simp [e]
    · have e : x ≠ y := fun e => h (cmpP_zero.2 e)
      rw [if_neg h, cmpP_lt]; simp [e]
end Go.Proofs.YtaphfjomlignhaaDoor
