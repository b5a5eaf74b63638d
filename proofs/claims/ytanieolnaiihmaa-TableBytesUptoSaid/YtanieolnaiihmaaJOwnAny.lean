/- tarmacref06.Same: two lists of entries that read alike are the same. -/
import Derived.Test.YtanieolnaiihmaaEnt
import Derived.Test.YtanieolnaiihmaaRow
namespace Go.Proofs.Ytanieolnaiihmaa
open Go.RowKit

set_option maxHeartbeats 400000 in
theorem same6_yes (A A' : Option Addr) (n c c' B : Nat) (l : List Ent) (w : World) (hn : n ≤ maxLen) (h : Rd w B 4 A n (entv l)) (h' : Rd w B 4 A' n (entv l)) :
    Calls Try.prog 20 #[.slice A n c, .slice A' n c'] w fun e w' => e = .returned (.bool true) ∧ ∃ m, w' = w.drewN m := by
  unfold maxLen at hn
  go_enter Try.func20, Try.ntmps20
  go_wp2
  go_loopw [5, 13] (fun u i wr => ∃ k : Nat, k ≤ n ∧ i = .int .i64 k ∧ Hid (∃ m, wr = w.drewN m)) (fun _ i _ => n - (intOf i).toNat)
  case atStart => exact ⟨0, Nat.zero_le _, rfl, 0, rfl⟩
  case round =>
    obtain ⟨k, hk, rfl, m, rfl⟩ := hrel
    by_cases hlt : k < n
    · obtain ⟨b, off, rfl, hb, hs, c0, c1, c2, c3⟩ := h.ent hlt
      obtain ⟨b', off', rfl, hb', hs', d0, d1, d2, d3⟩ := h'.ent hlt
      obtain ⟨y, hy⟩ : ∃ y, l[k] = y := ⟨_, rfl⟩
      rw [hy] at c0 c1 c2 c3 d0 d1 d2 d3
      obtain ⟨K, S, D, V⟩ := y
      simp only at c0 c1 c2 c3 d0 d1 d2 d3
      clear hy
      go_wp2
      go_quiet (fail)
      go_wp2
      go_roundw
      case rel => exact ⟨k + 1, by omega, by go_num, m + nq, rfl⟩
      case measure => simp [intOf]; omega
    · go_wp2
      go_ret
      exact ⟨rfl, m, rfl⟩
end Go.Proofs.Ytanieolnaiihmaa
/- Rows of the call's own that are overwritten. -/
namespace Go.Proofs.Ytanieolnaiihmaa
open Go.RowKit
/-- A row of the call's own, whatever stands in it. -/
def OwnAny (w : World) (base : Nat) (e : TypeId) (size : Nat) (v : Value) (n : Nat) : Prop := ∃ xs, w.ownsRow base e size v n xs
theorem OwnAny.row {w : World} {base g cap n size : Nat} {e : TypeId} (h : OwnAny w base e size (.slice (some ⟨g, 0, none⟩) n cap) n) : ∃ cur, w.heap[g]? = some (.cells cur e (0, 0)) ∧ cur.size = cap * size ∧ n ≤ cap ∧ base ≤ g := by
  obtain ⟨xs, _, h⟩ := h
  rcases h with ⟨h, _⟩ | ⟨g', cap', cur, hv, hb, hg, hn, _, hc, _⟩
  · injection h with h; cases h
  · injection hv with h1 h2 h3
    injection h1 with h1
    injection h1 with h1
    subst h1; subst h3
    exact ⟨cur, hg, hc, hn, hb⟩
theorem OwnAny.cell {w : World} {base g cap n size : Nat} {e : TypeId} (h : OwnAny w base e size (.slice (some ⟨g, 0, none⟩) n cap) n) (j : Nat) (hj : j < n * size) : ∃ u, w.cell? ⟨g, j, none⟩ = some u := by
  obtain ⟨cur, hg, hc, hn, _⟩ := h.row
  have : n * size ≤ cap * size := Nat.mul_le_mul_right _ hn
  exact ⟨_, (cell_of_row w g j _ _ _ hg).trans (Array.getElem?_eq_getElem (by omega))⟩
theorem OwnAny.frozen {w : World} {base g cap n size : Nat} {e : TypeId} (h : OwnAny w base e size (.slice (some ⟨g, 0, none⟩) n cap) n) (j : Nat) : w.frozen? ⟨g, j, none⟩ = false := by
  obtain ⟨cur, hg, _⟩ := h.row
  exact frozen_of_row _ _ _ _ _ hg
theorem OwnAny.set {w : World} {base g cap n size : Nat} {e : TypeId} (h : OwnAny w base e size (.slice (some ⟨g, 0, none⟩) n cap) n) (j : Nat) (u : Value) : OwnAny (w.setCell ⟨g, j, none⟩ u) base e size (.slice (some ⟨g, 0, none⟩) n cap) n := by
  obtain ⟨xs, hl, h⟩ := h
  rcases h with ⟨h, _⟩ | ⟨g', cap', cur, hv, hb, hg, hn, hm, hc, hx⟩
  · injection h with h; cases h
  · injection hv with h1 h2 h3
    injection h1 with h1
    injection h1 with h1
    subst h1; subst h3
    have hle : n * size ≤ cap * size := Nat.mul_le_mul_right _ hn
    exact ⟨(cur.setIfInBounds j u).toList.take (n * size), by rw [List.length_take, Array.length_toList, Array.size_setIfInBounds, hc]; omega, .inr ⟨g, cap, _, rfl, hb, heap_setCell_same w g j _ _ u hg, hn, hm, by simpa using hc, rfl⟩⟩
theorem OwnAny.upd {S : Nat → Prop} {w w' : World} {base size n : Nat} {e : TypeId} {v : Value} (h : OwnAny w base e size v n) (hu : Upd S w w') (hs : ∀ k, v.ownBlock = some k → ¬ S k) : OwnAny w' base e size v n := by
  obtain ⟨xs, h⟩ := h
  exact ⟨xs, own_upd h hu hs⟩
theorem own_nothing (w : World) (e : TypeId) (size : Nat) : (w.alloc (.cells #[] e)).ownsRow w.heap.size e size (.slice (some ⟨w.heap.size, 0, none⟩) 0 0) 0 [] :=
  ⟨by simp, .inr ⟨_, 0, #[], rfl, Nat.le_refl _, heap_alloc_new w _, Nat.le_refl _, Nat.zero_le _, by simp, by simp⟩⟩
theorem rd_snoc {w : World} {B size n : Nat} {A : Option Addr} {xs ys : List Value} (h : Rd w B size A (n + 1) (xs ++ ys)) (hx : xs.length = n * size) : Rd w B size A n xs := by
  have := h.take n (Nat.le_succ _)
  rwa [← hx, List.take_left] at this
theorem bel_new (w : World) (o : Obj) : Below w.heap.size w (w.alloc o) := (Below.refl _ _).alloc (Nat.le_refl _) _
/-- One element of four cells laid over. -/
theorem OwnAny.set4 {w : World} {base g cap n size : Nat} {e : TypeId} (h : OwnAny w base e size (.slice (some ⟨g, 0, none⟩) n cap) n) (j : Nat) (u0 u1 u2 u3 : Value) : OwnAny ((((w.setCell ⟨g, j, none⟩ u0).setCell ⟨g, j + 1, none⟩ u1).setCell ⟨g, j + 2, none⟩ u2).setCell ⟨g, j + 3, none⟩ u3) base e size (.slice (some ⟨g, 0, none⟩) n cap) n := (((h.set _ _).set _ _).set _ _).set _ _
end Go.Proofs.Ytanieolnaiihmaa
