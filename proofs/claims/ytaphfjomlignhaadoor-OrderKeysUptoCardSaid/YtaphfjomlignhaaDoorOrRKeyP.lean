/- Keys: the reference's Key, walked. -/
import Derived.Test.YtaphfjomlignhaaDoorOrRight
import Derived.Test.YtaphfjomlignhaaDoorOrSplP
import Derived.Test.YtaphfjomlignhaaDoorBytS
import Derived.Deep.RegionHeld3
namespace Go.Proofs.YtaphfjomlignhaaDoor
open Go.RowKit
/-- Block g is just the bytes l, of the type T. -/
def RowT (w : World) (g : Nat) (T : TypeId) (l : List UInt8) : Prop := w.heap[g]? = some (.cells (bytv l).toArray T (0, 0))
section
variable {w w' : World} {g : Nat} {T : TypeId} {l : List UInt8}
theorem RowT.lt (h : RowT w g T l) : g < w.heap.size := (Array.getElem?_eq_some_iff.1 h).1
theorem RowT.cell (h : RowT w g T l) (k : Nat) (hk : k < l.length) : w.cell? ⟨g, k, none⟩ = some (.int .u8 (((l[k]'hk).toNat : Nat) : Int)) := by
  rw [cell_of_row w g k _ _ _ h, List.getElem?_toArray, bytv_get l k hk]
theorem RowT.free (h : RowT w g T l) (k : Nat) : w.frozen? ⟨g, k, none⟩ = false := frozen_of_row w g k _ _ h
theorem RowT.set (h : RowT w g T l) (k : Nat) (x : UInt8) : RowT (w.setCell ⟨g, k, none⟩ (.int .u8 (x.toNat : Int))) g T (l.set k x) := by
  have := heap_setCell_same w g k _ _ (.int .u8 (x.toNat : Int)) h
  unfold RowT
  rw [this, List.setIfInBounds_toArray]
  simp [bytv, List.map_set]
theorem RowT.rd (h : RowT w g T l) : Rd w w.heap.size 1 (some ⟨g, 0, none⟩) l.length (bytv l) :=
  ⟨by rw [bytv_length]; omega, fun _ => ⟨_, rfl, h.lt, fun j u hu => by rw [add_flat0, Nat.zero_add, cell_of_row w g j _ _ _ h, List.getElem?_toArray, hu]⟩⟩
end
/-- What has been written of the eight bytes, from the last one on. -/
def eig (v j : Nat) : List UInt8 := List.replicate (8 - j) 0 ++ (be8 v).drop (8 - j)
theorem eig_length (v j : Nat) (hj : j ≤ 8) : (eig v j).length = 8 := by
  unfold eig
  rw [List.length_append, List.length_replicate, List.length_drop, be8_len]; omega
theorem eig_all (v : Nat) : eig v 8 = be8 v := rfl
theorem eig_set (v j : Nat) (hj : j < 8) : (eig v j).set (7 - j) (UInt8.ofNat (v / 256 ^ j)) = eig v (j + 1) := by
  unfold eig
  rw [be8_eq]
  obtain rfl | rfl | rfl | rfl | rfl | rfl | rfl | rfl : j = 0 ∨ j = 1 ∨ j = 2 ∨ j = 3 ∨ j = 4 ∨ j = 5 ∨ j = 6 ∨ j = 7 := by omega
  all_goals simp [List.replicate]
theorem wrap_up (N : Int) (h : -9223372036854775808 ≤ N ∧ N ≤ 9223372036854775807) : IntKind.u64.wrap (IntKind.u64.wrap N + 9223372036854775808) = ((upN N : Nat) : Int) := by
  rw [IntKind.wrap_u64, IntKind.wrap_u64]; unfold upN; omega
theorem one_rd2 (w : World) (b : UInt8) : Rd (w.alloc (.cells #[.int .u8 (b.toNat : Int)] 5)) (w.heap.size + 1) 1 (some ⟨w.heap.size, 0, none⟩) 1 (bytv [b]) := Rd.new _ _ rfl
/-- A text, escaped, byte by byte. -/
theorem esc_take (l : List UInt8) (k : Nat) (h : k < l.length) : esc (l.take (k + 1)) = esc (l.take k) ++ (if l[k] = 0 then [0, 255] else [l[k]]) := by
  rw [List.take_succ_eq_append_getElem h, esc_append, esc_cons]
  simp [esc]
end Go.Proofs.YtaphfjomlignhaaDoor
