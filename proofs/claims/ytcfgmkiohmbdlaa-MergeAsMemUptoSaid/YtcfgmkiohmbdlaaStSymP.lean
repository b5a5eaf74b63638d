/- Stable sorting: where two rows are cut, in plain words. -/
import Derived.Test.YtcfgmkiohmbdlaaStSym2
namespace Go.Proofs.Ytcfgmkiohmbdlaa
theorem cut_le {A U V C : List Ent} {s e : Nat} (hs1 : A.length ≤ s) (hs2 : s ≤ A.length + U.length) (he1 : A.length + U.length ≤ e) (hU : Srt ltE U) (hV : Srt ltE V)
    (h : s = A.length ∨ e = A.length + U.length + V.length ∨ ∀ x y, (A ++ U ++ V ++ C)[s - 1]? = some x → (A ++ U ++ V ++ C)[e]? = some y → ltE y x = false) :
    ∀ u ∈ U.take (s - A.length), ∀ v ∈ V.drop (e - (A.length + U.length)), ltE v u = false := by
  rcases h with h | h | h
  · subst h; intro u hu; simp at hu
  · subst h; intro u _ v hv; simp at hv
  · have hU2 : Srt ltE (U.take (s - A.length)) := (srt_append.1 (by rw [List.take_append_drop]; exact hU)).1
    have hV2 : Srt ltE (V.drop (e - (A.length + U.length))) := (srt_append.1 (show Srt ltE (V.take (e - (A.length + U.length)) ++ V.drop (e - (A.length + U.length))) by rw [List.take_append_drop]; exact hV)).2.1
    refine cross_le swoE hU2 hV2 fun u v hu hv => h u v ?_ ?_
    · rw [List.getLast?_eq_getElem?, List.length_take] at hu
      have hlt : s - A.length ≠ 0 := fun h0 => by rw [h0] at hu; simp at hu
      rw [show min (s - A.length) U.length = s - A.length by omega, List.getElem?_take_of_lt (by omega)] at hu
      have hb : s - A.length - 1 < U.length := by omega
      rw [List.getElem?_eq_getElem hb] at hu
      have := look_U (A := A) (U := U) (V := V) (C := C) (t := s - 1) (by omega) (by omega)
      rw [this]
      simp only [show s - 1 - A.length = s - A.length - 1 by omega]
      exact hu
    · rw [List.head?_drop] at hv
      have hb : e - (A.length + U.length) < V.length := by
        rcases Nat.lt_or_ge (e - (A.length + U.length)) V.length with h | h
        · exact h
        · rw [List.getElem?_eq_none h] at hv; cases hv
      rw [List.getElem?_eq_getElem hb] at hv
      have := look_V (A := A) (U := U) (V := V) (C := C) (t := e) he1 hb
      rw [this]; exact hv
theorem cut_lt {A U V C : List Ent} {s e : Nat} (hs1 : A.length ≤ s) (he1 : A.length + U.length ≤ e) (he2 : e ≤ A.length + U.length + V.length) (hU : Srt ltE U) (hV : Srt ltE V)
    (h : s = A.length + U.length ∨ e = A.length + U.length ∨ ∀ x y, (A ++ U ++ V ++ C)[s]? = some x → (A ++ U ++ V ++ C)[e - 1]? = some y → ltE y x = true) :
    ∀ u ∈ U.drop (s - A.length), ∀ v ∈ V.take (e - (A.length + U.length)), ltE v u = true := by
  rcases h with h | h | h
  · subst h; intro u hu; simp at hu
  · subst h; intro u _ v hv; simp at hv
  · have hU2 : Srt ltE (U.drop (s - A.length)) := (srt_append.1 (show Srt ltE (U.take (s - A.length) ++ U.drop (s - A.length)) by rw [List.take_append_drop]; exact hU)).2.1
    have hV2 : Srt ltE (V.take (e - (A.length + U.length))) := (srt_append.1 (by rw [List.take_append_drop]; exact hV)).1
    refine cross_lt swoE hU2 hV2 fun u v hu hv => h u v ?_ ?_
    · rw [List.head?_drop] at hu
      have hb : s - A.length < U.length := by
        rcases Nat.lt_or_ge (s - A.length) U.length with h | h
        · exact h
        · rw [List.getElem?_eq_none h] at hu; cases hu
      rw [List.getElem?_eq_getElem hb] at hu
      have := look_U (A := A) (U := U) (V := V) (C := C) (t := s) hs1 hb
      rw [this]; exact hu
    · rw [List.getLast?_eq_getElem?, List.length_take] at hv
      have hlt : e - (A.length + U.length) ≠ 0 := fun h0 => by rw [h0] at hv; simp at hv
      rw [show min (e - (A.length + U.length)) V.length = e - (A.length + U.length) by omega, List.getElem?_take_of_lt (by omega)] at hv
      have hb : e - (A.length + U.length) - 1 < V.length := by omega
      rw [List.getElem?_eq_getElem hb] at hv
      have := look_V (A := A) (U := U) (V := V) (C := C) (t := e - 1) (by omega) (by omega)
      rw [this]
      simp only [show e - 1 - (A.length + U.length) = e - (A.length + U.length) - 1 by omega]
      exact hv
theorem look_mid {A U V C : List Ent} {t : Nat} (h : t < (A ++ U ++ V ++ C).length) : ∃ x, (A ++ U ++ V ++ C)[t]? = some x := ⟨_, List.getElem?_eq_getElem h⟩
/-- Nothing to merge where one of the two is empty. -/
theorem merged_or {U V : List Ent} (hU : Srt ltE U) (hV : Srt ltE V) (h : U = [] ∨ V = []) : Merged ltE U V (U ++ V) := by
  rcases h with h | h
  · subst h; exact merged_right V hV
  · subst h; rw [List.append_nil]; exact merged_left U hU
end Go.Proofs.Ytcfgmkiohmbdlaa
