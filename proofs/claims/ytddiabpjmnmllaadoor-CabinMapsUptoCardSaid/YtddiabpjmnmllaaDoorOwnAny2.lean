/- (Without what XFtLawAll has too.) Rows of the call's own that are overwritten. -/
import Derived.Test.YtddiabpjmnmllaaDoorRow
namespace Go.Proofs.YtddiabpjmnmllaaDoor
open Go.RowKit
/-- A row of the call's own, whatever stands in it. -/
def OwnAny (w : World) (base : Nat) (e : TypeId) (size : Nat) (v : Value) (n : Nat) : Prop := ∃ xs, w.ownsRow base e size v n xs
theorem OwnAny.row {w : World} {base g cap n size : Nat} {e : TypeId} (h : OwnAny w base e size (.slice (some ⟨g, 0, none⟩) n cap) n) : ∃ cur, w.heap[g]? = some (.cells cur e (0, 0)) ∧ cur.size = cap * size ∧ n ≤ cap ∧ base ≤ g := by
  obtain ⟨xs, _, h⟩ := h
  rcases h with ⟨h, _⟩ | ⟨g', cap', cur, hv, hb, hg, hn, _, hc, _⟩
  · injection h with h; cases h
  · injection hv with h1 h2 h3
    injection h1 with h1
    injection h1 with h1
    subst h1; subst h3
    exact ⟨cur, hg, hc, hn, hb⟩
theorem OwnAny.cell {w : World} {base g cap n size : Nat} {e : TypeId} (h : OwnAny w base e size (.slice (some ⟨g, 0, none⟩) n cap) n) (j : Nat) (hj : j < n * size) : ∃ u, w.cell? ⟨g, j, none⟩ = some u := by
  obtain ⟨cur, hg, hc, hn, _⟩ := h.row
  have : n * size ≤ cap * size := Nat.mul_le_mul_right _ hn
  exact ⟨_, (cell_of_row w g j _ _ _ hg).trans (Array.getElem?_eq_getElem (by omega))⟩
theorem OwnAny.frozen {w : World} {base g cap n size : Nat} {e : TypeId} (h : OwnAny w base e size (.slice (some ⟨g, 0, none⟩) n cap) n) (j : Nat) : w.frozen? ⟨g, j, none⟩ = false := by
  obtain ⟨cur, hg, _⟩ := h.row
  exact frozen_of_row _ _ _ _ _ hg
theorem OwnAny.set {w : World} {base g cap n size : Nat} {e : TypeId} (h : OwnAny w base e size (.slice (some ⟨g, 0, none⟩) n cap) n) (j : Nat) (u : Value) : OwnAny (w.setCell ⟨g, j, none⟩ u) base e size (.slice (some ⟨g, 0, none⟩) n cap) n := by
  obtain ⟨xs, hl, h⟩ := h
  rcases h with ⟨h, _⟩ | ⟨g', cap', cur, hv, hb, hg, hn, hm, hc, hx⟩
  · injection h with h; cases h
  · injection hv with h1 h2 h3
    injection h1 with h1
    injection h1 with h1
    subst h1; subst h3
    have hle : n * size ≤ cap * size := Nat.mul_le_mul_right _ hn
    exact ⟨(cur.setIfInBounds j u).toList.take (n * size), by rw [List.length_take, Array.length_toList, Array.size_setIfInBounds, hc]; omega, .inr ⟨g, cap, _, rfl, hb, heap_setCell_same w g j _ _ u hg, hn, hm, by simpa using hc, rfl⟩⟩
theorem OwnAny.upd {S : Nat → Prop} {w w' : World} {base size n : Nat} {e : TypeId} {v : Value} (h : OwnAny w base e size v n) (hu : Upd S w w') (hs : ∀ k, v.ownBlock = some k → ¬ S k) : OwnAny w' base e size v n := by
  obtain ⟨xs, h⟩ := h
  exact ⟨xs, own_upd h hu hs⟩
end Go.Proofs.YtddiabpjmnmllaaDoor
