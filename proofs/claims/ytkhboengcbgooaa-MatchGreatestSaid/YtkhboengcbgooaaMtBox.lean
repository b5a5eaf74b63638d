/- Matchings: the laws' graph in its box; sets of ints in maps. -/
import Derived.Test.YtkhboengcbgooaaMtMatching
namespace Go.Proofs.Ytkhboengcbgooaa
open Go.RowKit
/-- The graph in its box, and its edges. -/
structure GBox (w0 w : World) (N M : Int) (A : Option Addr) (k c : Nat) : Prop where
  blk : w.heap[w0.heap.size]? = some (.cells #[.int .i64 N, .int .i64 M, .slice A k c] 24 (0, 0))
  bel : Below w0.heap.size w0 w
section
variable {w0 w w' : World} {N M : Int} {A : Option Addr} {k c : Nat}
theorem GBox.made (w : World) (N M : Int) (A : Option Addr) (k c : Nat) : GBox w (w.alloc (.cells #[.int .i64 N, .int .i64 M, .slice A k c] 24)) N M A k c :=
  ⟨heap_alloc_new w _, (Below.refl w.heap.size w).alloc (Nat.le_refl _) _⟩
theorem GBox.lt (h : GBox w0 w N M A k c) : w0.heap.size < w.heap.size := (Array.getElem?_eq_some_iff.1 h.blk).1
theorem GBox.c0 (h : GBox w0 w N M A k c) : w.cell? ⟨w0.heap.size, 0, none⟩ = some (.int .i64 N) := by rw [cell_of_row w _ 0 _ _ _ h.blk]; rfl
theorem GBox.c1 (h : GBox w0 w N M A k c) : w.cell? ⟨w0.heap.size, 1, none⟩ = some (.int .i64 M) := by rw [cell_of_row w _ 1 _ _ _ h.blk]; rfl
theorem GBox.c2 (h : GBox w0 w N M A k c) : w.cell? ⟨w0.heap.size, 2, none⟩ = some (.slice A k c) := by rw [cell_of_row w _ 2 _ _ _ h.blk]; rfl
theorem GBox.upd {S : Nat → Prop} (h : GBox w0 w N M A k c) (hu : Upd S w w') (hs : ∀ i, i ≤ w0.heap.size → ¬ S i) : GBox w0 w' N M A k c :=
  ⟨(hu.block _ h.lt (hs _ (Nat.le_refl _))).trans h.blk, h.bel.trans (hu.below (fun i hi => hs i (by omega)) h.bel.size)⟩
theorem GBox.below (h : GBox w0 w N M A k c) (hb : Below w.heap.size w w') : GBox w0 w' N M A k c := h.upd (S := fun _ => False) (Upd.of_below hb) (fun _ _ h => h)
theorem GBox.alloc (h : GBox w0 w N M A k c) (o : Obj) : GBox w0 (w.alloc o) N M A k c := h.upd (S := fun _ => False) ((Upd.refl _ _).alloc o) (fun _ _ h => h)
theorem GBox.rd {l : List Eg} (h : GBox w0 w N M A k c) (hr : Rd w0 w0.heap.size 2 A k (edgv l)) : Rd w w.heap.size 2 A k (edgv l) := (hr.below h.bel).mono h.bel.size
end
/-- The map marks just the numbers of T. -/
def InSet (f : Int → Int) (T : List Nat) : Prop := ∀ x : Int, f x = if 0 ≤ x ∧ x.toNat ∈ T then 1 else 0
theorem InSet.nil : InSet (fun _ => 0) [] := fun x => by simp
theorem InSet.put {f : Int → Int} {T : List Nat} (h : InSet f T) (t : Nat) : InSet (fun x => if x = (t : Int) then 1 else f x) (T ++ [t]) := by
  intro x
  show (if x = (t : Int) then (1 : Int) else f x) = _
  rw [h x]
  by_cases e : x = (t : Int)
  · subst e
    simp
  · rw [if_neg e]
    have : (0 ≤ x ∧ x.toNat ∈ T ++ [t]) ↔ (0 ≤ x ∧ x.toNat ∈ T) := by
      rw [List.mem_append, List.mem_singleton]
      constructor
      · rintro ⟨h1, h2 | h2⟩
        · exact ⟨h1, h2⟩
        · omega
      · rintro ⟨h1, h2⟩
        exact ⟨h1, .inl h2⟩
    simp only [this]
theorem placesN_lt {l : List Int} {v : Int} {n : Nat} (hl : l.length = n) : ∀ x ∈ placesN l v, x < n := fun x hx => by
  unfold placesN at hx
  have := (List.mem_filter.1 hx).1
  rw [hl] at this
  simpa using this
theorem placesN_rise (l : List Int) (v : Int) : (placesN l v).Pairwise (· < ·) := List.pairwise_lt_range.sublist List.filter_sublist
theorem placesN_len (l : List Int) (v : Int) : (placesN l v).length ≤ l.length := by
  have := List.length_filter_le (fun x => decide (gi l x = v)) (List.range l.length)
  rw [List.length_range] at this
  exact this
theorem mem_placesN {l : List Int} {v : Int} {n : Nat} (h : Bits l n) (hv : v = 1) (x : Nat) : x ∈ placesN l v ↔ gi l x = 1 := by
  subst hv
  unfold placesN
  rw [h.1, List.mem_filter]
  simp only [List.mem_range, decide_eq_true_eq]
  exact ⟨fun h => h.2, fun h' => ⟨h.one h', h'⟩⟩
/-- 'for _, a := range l { in[a] = 1 }' -/
def MarkInv (w0 wx : World) (U j : Nat) (T : List Nat) : Prop := ∃ f Ks, IMap wx U j f Ks ∧ InSet f (T.take j) ∧ Below w0.heap.size w0 wx
end Go.Proofs.Ytkhboengcbgooaa
