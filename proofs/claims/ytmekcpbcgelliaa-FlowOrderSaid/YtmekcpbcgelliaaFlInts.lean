/- Matchings: rows of numbers, and slices.Repeat of one number, walked. -/
import Derived.Test.YtmekcpbcgelliaaRow
import Derived.Test.YtmekcpbcgelliaaMtTryP
import Derived.Laws.CopyOwn
import Derived.Deep.RegionLaw
import Derived.Deep.CutBlock
import Derived.Deep.DeepCutAuto
namespace Go.Proofs.Ytmekcpbcgelliaa
open Go.RowKit
/-- Block g is just this row of numbers. -/
def Ints (w : World) (g : Nat) (l : List Int) : Prop := w.heap[g]? = some (.cells (l.map (Value.int .i64)).toArray 3 (0, 0))
section
variable {w w' : World} {g : Nat} {l : List Int}
theorem Ints.lt (h : Ints w g l) : g < w.heap.size := (Array.getElem?_eq_some_iff.1 h).1
theorem Ints.cell (h : Ints w g l) {k : Nat} (hk : k < l.length) : w.cell? ⟨g, k, none⟩ = some (.int .i64 (gi l k)) := by
  rw [cell_of_row w g k _ _ _ h, gi_get hk]
  simp [hk]
theorem Ints.free (h : Ints w g l) (k : Nat) : w.frozen? ⟨g, k, none⟩ = false := frozen_of_row w g k _ _ h
theorem Ints.set (h : Ints w g l) (k : Nat) (v : Int) : Ints (w.setCell ⟨g, k, none⟩ (.int .i64 v)) g (l.set k v) := by
  have := heap_setCell_same w g k _ _ (.int .i64 v) h
  unfold Ints
  rw [this]
  congr 2
  apply Array.ext'
  simp [List.map_set]
theorem Ints.upd {S : Nat → Prop} (h : Ints w g l) (hu : Upd S w w') (hs : ¬ S g) : Ints w' g l := (hu.block g h.lt hs).trans h
theorem Ints.below {B : Nat} (h : Ints w g l) (hb : Below B w w') (hg : g < B) : Ints w' g l := (hb.block g hg).trans h
theorem Ints.rd (h : Ints w g l) {B : Nat} (hB : g < B) : Rd w B 1 (some ⟨g, 0, none⟩) l.length (l.map (Value.int .i64)) :=
  ⟨by simp, fun _ => ⟨_, rfl, hB, fun j u hu => by
    rw [add_zero_off, cell_of_row w g j _ _ _ h]
    simpa using hu⟩⟩
end
theorem int_info : (Try.prog.info? 3).map (fun i => (i.zero, i.size, i.bytes)) = some (some (.int .i64 0), 1, 8) := by kernel_rfl
/-- 'make([]int, n)'. -/
theorem mkints (w : World) (n : Nat) (hn : n ≤ 1048576) : (Instr.makeSlice 39 (.int .i64 n) (.int .i64 n)).run Try.prog w = .ok (.slice (some ⟨w.heap.size, 0, none⟩) n n) (w.alloc (.cells (Array.replicate n (Value.int .i64 0)) 3)) := by
  obtain ⟨i0, hi0, hz0, hz1, hz2⟩ := info_parts int_info
  have h := run_makeSlice (P := Try.prog) w 39 3 i0 (.int .i64 0) Try.underlying39 hi0 hz0 .i64 .i64 n n (by omega) (by omega) (by rw [hz1]; omega) (by rw [hz2]; omega) (by omega)
  rw [hz1, Int.toNat_natCast, Nat.mul_one] at h
  have e : (madeCells (Value.int IntKind.i64 0).cells n).toList = _ := toList_madeCells_one _ n
  have e2 : madeCells (Value.int IntKind.i64 0).cells n = Array.replicate n (Value.int .i64 0) := Array.ext' (by rw [e]; simp)
  rw [h, e2]
theorem made_ints (w : World) (n : Nat) : Ints (w.alloc (.cells (Array.replicate n (Value.int .i64 0)) 3)) w.heap.size (List.replicate n 0) := by
  have := heap_alloc_new w (.cells (Array.replicate n (Value.int .i64 0)) 3)
  unfold Ints
  rw [this]
  congr 2
  apply Array.ext'
  simp
end Go.Proofs.Ytmekcpbcgelliaa
