/- Pack: lives. -/
import Derived.Test.YtmjkebokedaldaaPkRRd2
namespace Go.Proofs.Ytmjkebokedaldaa
open Go.RowKit

theorem ex_nums : numsB [0, 1, 127, 128, 300] = [0, 1, 127, 128, 1, 172, 2] := by
  simp only [numsB, List.flatMap_cons, List.flatMap_nil]
  rw [numB_small (n := 0) (by omega), numB_small (n := 1) (by omega), numB_small (n := 127) (by omega), numB_big (n := 128) (by omega), numB_small (n := 128 / 128) (by omega), numB_big (n := 300) (by omega), numB_small (n := 300 / 128) (by omega)]
  decide
theorem ex_ints : intsB [0, -1, 1, -64] = [0, 1, 2, 127] := by
  simp only [intsB, List.flatMap_cons, List.flatMap_nil, intB]
  rw [show fold 0 = 0 from rfl, show fold (-1) = 1 from rfl, show fold 1 = 2 from rfl, show fold (-64) = 127 from rfl, numB_small (n := 0) (by omega), numB_small (n := 1) (by omega), numB_small (n := 2) (by omega), numB_small (n := 127) (by omega)]
  decide
theorem ex_texts : textsB [⟨#[]⟩, ⟨#[97, 98]⟩] = [0, 2, 97, 98] := by
  simp only [textsB, List.flatMap_cons, List.flatMap_nil, textB]
  rw [show numB (List.length (#[] : Array UInt8).toList) = numB 0 from rfl, show numB (List.length (#[97, 98] : Array UInt8).toList) = numB 2 from rfl, numB_small (n := 0) (by omega), numB_small (n := 2) (by omega)]
  decide
theorem nums_ex (w : World) : Calls Try.prog 28 #[.slice (some ⟨w.heap.size, 0, none⟩) 5 5] (w.alloc (.cells #[.int .u64 0, .int .u64 1, .int .u64 127, .int .u64 128, .int .u64 300] 27)) fun e w' => e = .returned (.string ⟨#[0, 1, 127, 128, 1, 172, 2]⟩) ∧ Below w.heap.size w w' := by
  have := nums_any (w.alloc (.cells #[.int .u64 0, .int .u64 1, .int .u64 127, .int .u64 128, .int .u64 300] 27)) (some ⟨w.heap.size, 0, none⟩) 5 5 [0, 1, 127, 128, 300]
    (by simpa [u64v] using Rd.new (w := w) (size := 1) (n := 5) #[.int .u64 0, .int .u64 1, .int .u64 127, .int .u64 128, .int .u64 300] 27 rfl) (by rw [ex_nums]; simp) (by simp) (by omega)
  rw [ex_nums] at this
  exact this.mono fun e w' ⟨he, hb⟩ => ⟨he, ((Below.refl _ _).alloc (Nat.le_refl _) _).trans (hb.mono (by simp))⟩
theorem ints_ex (w : World) : Calls Try.prog 29 #[.slice (some ⟨w.heap.size, 0, none⟩) 4 4] (w.alloc (.cells #[.int .i64 0, .int .i64 (-1), .int .i64 1, .int .i64 (-64)] 3)) fun e w' => e = .returned (.string ⟨#[0, 1, 2, 127]⟩) ∧ Below w.heap.size w w' := by
  have := ints_any (w.alloc (.cells #[.int .i64 0, .int .i64 (-1), .int .i64 1, .int .i64 (-64)] 3)) (some ⟨w.heap.size, 0, none⟩) 4 4 [0, -1, 1, -64]
    (by simpa [i64v] using Rd.new (w := w) (size := 1) (n := 4) #[.int .i64 0, .int .i64 (-1), .int .i64 1, .int .i64 (-64)] 3 rfl) (by rw [ex_ints]; simp) (by simp) (by omega)
  rw [ex_ints] at this
  exact this.mono fun e w' ⟨he, hb⟩ => ⟨he, ((Below.refl _ _).alloc (Nat.le_refl _) _).trans (hb.mono (by simp))⟩
theorem texts_ex (w : World) : Calls Try.prog 30 #[.slice (some ⟨w.heap.size, 0, none⟩) 2 2] (w.alloc (.cells #[.string ⟨#[]⟩, .string ⟨#[97, 98]⟩] 9)) fun e w' => e = .returned (.string ⟨#[0, 2, 97, 98]⟩) ∧ Below w.heap.size w w' := by
  have := texts_any (w.alloc (.cells #[.string ⟨#[]⟩, .string ⟨#[97, 98]⟩] 9)) (some ⟨w.heap.size, 0, none⟩) 2 2 [⟨#[]⟩, ⟨#[97, 98]⟩]
    (by simpa [strv] using Rd.new (w := w) (size := 1) (n := 2) #[.string ⟨#[]⟩, .string ⟨#[97, 98]⟩] 9 rfl) (by rw [ex_texts]; simp) (by omega)
  rw [ex_texts] at this
  exact this.mono fun e w' ⟨he, hb⟩ => ⟨he, ((Below.refl _ _).alloc (Nat.le_refl _) _).trans (hb.mono (by simp))⟩

set_option maxHeartbeats 400000 in
set_option maxRecDepth 20000 in
theorem plives_any (w : World) : Calls Try.prog 20 #[] w fun e w' => e = .returned (.bool true) ∧ Below w.heap.size w w' := by
  go_enter Try.func20, Try.ntmps20
  go_wp2_with fail
  refine (nums_ex _).mono ?_
  rintro e w1 ⟨rfl, hb1⟩
  go_wp2_with fail
  refine (ints_ex _).mono ?_
  rintro e w2 ⟨rfl, hb2⟩
  go_wp2_with fail
  refine (texts_ex _).mono ?_
  rintro e w3 ⟨rfl, hb3⟩
  go_wp2_with fail
  refine (new_any _).mono ?_
  rintro e w4 ⟨rfl, hw4⟩
  have hb4 : Below w3.heap.size w3 w4 := by rw [hw4]; exact (Below.refl _ _).alloc (Nat.le_refl _) _
  clear hw4
  go_wp2_with fail
  refine (read_any _ _).mono ?_
  rintro e w5 ⟨rfl, hw5⟩
  have hb5 : Below w4.heap.size w4 w5 := by rw [hw5]; exact (Below.refl _ _).alloc (Nat.le_refl _) _
  clear hw5
  go_wp2
  go_ret
  exact ⟨rfl, bel (bel (bel (bel hb1 hb2) hb3) hb4) hb5⟩
end Go.Proofs.Ytmjkebokedaldaa
