/- Flows: a row of numbers and an arc in its box, while the arcs are looked at. -/
import Derived.Test.YtmekcpbcgelliaaFlBox
import Derived.Deep.RegionHeld3
namespace Go.Proofs.Ytmekcpbcgelliaa
open Go.RowKit
theorem Rd.int {w : World} {B n k : Nat} {A : Option Addr} {l : List Int} (h : Rd w B 1 A n (l.map (Value.int .i64))) (hk : k < n) :
    ∃ b off, A = some ⟨b, off, none⟩ ∧ b < B ∧ k < l.length ∧ w.cell? ⟨b, off + k, none⟩ = some (.int .i64 (gi l k)) := by
  have hs : k < l.length := by have := h.len; simp at this; omega
  obtain ⟨ad, e, hb, hc⟩ := h.at_ (by omega)
  have h0 := hc k (.int .i64 (gi l k)) (by rw [gi_get hs]; simp [hs])
  obtain ⟨b, off, spot⟩ := ad
  have hz := hc 0 (.int .i64 (gi l 0)) (by rw [gi_get (by omega)]; simp [show 0 < l.length by omega])
  have hspot : spot = none := by simpa [Addr.add] using World.cell?_spot hz
  subst hspot
  rw [add_flat] at h0
  exact ⟨b, off, e, hb, hs, h0⟩
/-- A row of numbers, and an arc in its box. -/
structure FBx (w V : World) (O E : Nat) (ov : List Int) (fr tv cap cost : Int) : Prop where
  ints : Ints V O ov
  box : V.heap[E]? = some (.cells #[.int .i64 fr, .int .i64 tv, .int .i64 cap, .int .i64 cost] 28 (0, 0))
  bel : Below w.heap.size w V
  ne : O ≠ E
  lo : w.heap.size ≤ O
section
variable {w V V' : World} {O E : Nat} {ov : List Int} {fr tv cap cost : Int}
theorem FBx.c0 (h : FBx w V O E ov fr tv cap cost) : V.cell? ⟨E, 0, none⟩ = some (.int .i64 fr) := by rw [cell_of_row V E 0 _ _ _ h.box]; rfl
theorem FBx.c1 (h : FBx w V O E ov fr tv cap cost) : V.cell? ⟨E, 1, none⟩ = some (.int .i64 tv) := by rw [cell_of_row V E 1 _ _ _ h.box]; rfl
theorem FBx.c2 (h : FBx w V O E ov fr tv cap cost) : V.cell? ⟨E, 2, none⟩ = some (.int .i64 cap) := by rw [cell_of_row V E 2 _ _ _ h.box]; rfl
theorem FBx.c3 (h : FBx w V O E ov fr tv cap cost) : V.cell? ⟨E, 3, none⟩ = some (.int .i64 cost) := by rw [cell_of_row V E 3 _ _ _ h.box]; rfl
theorem FBx.arg (h : FBx w V O E ov fr tv cap cost) {p : Addr} {u : Value} (hp : p.block < w.heap.size) (hc : w.cell? p = some u) : V.cell? p = some u := (h.bel.cell hp).trans hc
theorem FBx.drew (h : FBx w V O E ov fr tv cap cost) : FBx w V.drew O E ov fr tv cap cost := ⟨h.ints, h.box, ⟨h.bel.os, h.bel.tape, h.bel.output, h.bel.size, h.bel.block⟩, h.ne, h.lo⟩
theorem FBx.drewN (h : FBx w V O E ov fr tv cap cost) (n : Nat) : FBx w (V.drewN n) O E ov fr tv cap cost := ⟨h.ints, h.box, ⟨h.bel.os, h.bel.tape, h.bel.output, h.bel.size, h.bel.block⟩, h.ne, h.lo⟩
theorem FBx.set (h : FBx w V O E ov fr tv cap cost) (k : Nat) (v : Int) : FBx w (V.setCell ⟨O, k, none⟩ (.int .i64 v)) O E (ov.set k v) fr tv cap cost := by
  have hu : Upd (fun b => b = O) V (V.setCell ⟨O, k, none⟩ (.int .i64 v)) := (Upd.refl (fun b => b = O) V).setCell ⟨O, k, none⟩ rfl _
  exact ⟨h.ints.set k v, (hu.block E (Array.getElem?_eq_some_iff.1 h.box).1 (fun e => h.ne e.symm)).trans h.box, h.bel.trans (hu.below (fun i hi e => by have := h.lo; omega) h.bel.size), h.ne, h.lo⟩
theorem FBx.made (hI : Ints V O ov) (hb : Below w.heap.size w V) (hlo : w.heap.size ≤ O) (fr tv cap cost : Int) : FBx w (V.alloc (.cells #[.int .i64 fr, .int .i64 tv, .int .i64 cap, .int .i64 cost] 28)) O V.heap.size ov fr tv cap cost :=
  ⟨hI.upd (S := fun _ => False) ((Upd.refl _ _).alloc _) (fun h => h), heap_alloc_new V _, hb.alloc hb.size _, fun e => by have := hI.lt; omega, hlo⟩
end
end Go.Proofs.Ytmekcpbcgelliaa
