/- Bytes in a block of the call's own that may be written: what '[]byte(s)' makes. -/
import Derived.Test.YtddiabpjmnmllaaDoorRow
import Derived.Laws.IdiomStrings
namespace Go.Proofs.YtddiabpjmnmllaaDoor
open Go.RowKit

/-- Block g holds the bytes l from its head on, and they may be written. -/
structure Bts (w : World) (g : Nat) (l : List UInt8) : Prop where
  lt : g < w.heap.size
  cell : ∀ j (h : j < l.length), w.cell? ⟨g, j, none⟩ = some (.int .u8 (l[j].toNat : Int))
  free : ∀ j, j < l.length → w.frozen? ⟨g, j, none⟩ = false
theorem rd_bytes0 (w : World) (s : ByteArray) (cap : Nat) (e : TypeId) (fr : Nat × Nat) (j : Nat) (h : j < s.data.toList.length) : (w.alloc (.cells (bytesRow s cap) e fr)).cell? ⟨w.heap.size, j, none⟩ = some (.int .u8 (s.data.toList[j].toNat : Int)) := by
  rw [World.cell?_alloc_mark]
  unfold bytesRow
  rw [Array.getElem?_append_left (by simpa using h)]
  simp at h
  simp [h]
section
variable {w w' : World} {g : Nat} {l : List UInt8}
theorem Bts.made (w : World) (s : ByteArray) (cap : Nat) (e : TypeId) : Bts (w.alloc (.cells (bytesRow s cap) e ((bytesRow s cap).size, (bytesRow s cap).size + 1))) w.heap.size s.data.toList := by
  have hsz : s.data.toList.length ≤ (bytesRow s cap).size := by simp [bytesRow]
  refine ⟨by simp, fun j h => ?_, fun j h => ?_⟩
  · have hr := rd_bytes0 w s cap e ((bytesRow s cap).size, (bytesRow s cap).size + 1)
    exact hr j h
  · rw [World.frozen?_alloc_mark]
    simp; omega
theorem Bts.drewN (h : Bts w g l) (n : Nat) : Bts (w.drewN n) g l := ⟨h.lt, h.cell, h.free⟩
theorem Bts.drew (h : Bts w g l) : Bts w.drew g l := ⟨h.lt, h.cell, h.free⟩
theorem Bts.below {B : Nat} (h : Bts w g l) (hb : Below B w w') (hg : g < B) : Bts w' g l :=
  ⟨Nat.lt_of_lt_of_le h.lt hb.size, fun j hj => (hb.cell (p := ⟨g, j, none⟩) hg).trans (h.cell j hj), fun j hj => (hb.frozen (p := ⟨g, j, none⟩) hg).trans (h.free j hj)⟩
theorem Bts.set (h : Bts w g l) (k : Nat) (hk : k < l.length) (b : UInt8) : Bts (w.setCell ⟨g, k, none⟩ (.int .u8 (b.toNat : Int))) g (l.set k b) := by
  refine ⟨by simpa using h.lt, fun j hj => ?_, fun j hj => ?_⟩
  · have hj' : j < l.length := by simpa using hj
    by_cases e : k = j
    · subst e
      rw [World.cell?_setCell_same _ _ _ (h.cell k hk)]
      simp
    · rw [World.cell?_setCell_other _ _ _ _ (by simp), h.cell j hj']
      simp [List.getElem_set_ne e]
  · rw [World.frozen?_setCell]
    exact h.free j (by simpa using hj)
theorem Bts.take (h : Bts w g l) (n : Nat) : Bts w g (l.take n) :=
  ⟨h.lt, fun j hj => by rw [h.cell j (by rw [List.length_take] at hj; omega)]; simp, fun j hj => h.free j (by rw [List.length_take] at hj; omega)⟩
theorem Bts.conv {P : Program} {src dst e : TypeId} (h : Bts w g l) (hs : P.underlying src = some (.slice e)) (he : P.underlying e = some (.int .u8)) (hd : P.underlying dst = some .string) (n cap : Nat) (hn : n = l.length) :
    (convert src dst (.slice (some ⟨g, 0, none⟩) n cap)).run P w = .ok (.string ⟨l.toArray⟩) w := by
  subst hn
  exact run_convert_bytes_back (P := P) w src dst e ⟨g, 0, none⟩ cap l hs he hd (fun j hj => by rw [add_zero_off]; exact h.cell j hj)
end
end Go.Proofs.YtddiabpjmnmllaaDoor
