/- Digests: the example, walked. -/
import Derived.Test.YtohgkcgeanofnaaTgHex
namespace Go.Proofs.Ytohgkcgeanofnaa
open Go.RowKit
theorem sum_abc : sumB (allB [⟨#[97, 98]⟩, ⟨#[99]⟩]) = [186, 120, 22, 191, 143, 1, 207, 234, 65, 65, 64, 222, 93, 174, 34, 35, 176, 3, 97, 163, 150, 23, 122, 156, 180, 16, 255, 97, 242, 0, 21, 173] := abc
theorem hex_abc : (⟨(hexB (⟨(sumB (allB [⟨#[97, 98]⟩, ⟨#[99]⟩])).toArray⟩ : ByteArray).data.toList).toArray⟩ : ByteArray) = ⟨#[98, 97, 55, 56, 49, 54, 98, 102, 56, 102, 48, 49, 99, 102, 101, 97, 52, 49, 52, 49, 52, 48, 100, 101, 53, 100, 97, 101, 50, 50, 50, 51, 98, 48, 48, 51, 54, 49, 97, 51, 57, 54, 49, 55, 55, 97, 57, 99, 98, 52, 49, 48, 102, 102, 54, 49, 102, 50, 48, 48, 49, 53, 97, 100]⟩ := by
  rw [sum_abc]
  rfl
set_option maxHeartbeats 4000000 in
set_option maxRecDepth 20000 in
theorem lives_any (w : World) : Calls Try.prog 6 #[] w fun e w' => e = .returned (.bool true) ∧ Below w.heap.size w w' := by
  go_enter Try.func6, Try.ntmps6
  go_wp2_with fail
  have h1 := Rd.new (w := w) (size := 1) (n := 2) #[.string ⟨#[97, 98]⟩, .string ⟨#[99]⟩] 9 rfl
  refine (sum_any _ _ 2 2 [⟨#[97, 98]⟩, ⟨#[99]⟩] (h1.mono (by simp)) (by decide) ?_).mono ?_
  · intro p hp
    rw [List.mem_cons, List.mem_singleton] at hp
    rcases hp with rfl | rfl
    · decide
    · decide
  rintro e w1 ⟨rfl, hb1⟩
  have hB1 : Below w.heap.size w w1 := ((Below.refl _ _).alloc (Nat.le_refl _) _).trans (hb1.mono (by simp))
  go_wp2_with fail
  refine (hex_any w1 _ ?_).mono ?_
  · show (sumB _).toArray.size ≤ _
    rw [List.size_toArray, sumB_length]; decide
  rintro e w2 ⟨rfl, hb2⟩
  rw [hex_abc]
  go_wp2
  go_ret
  exact ⟨rfl, hB1.trans (hb2.mono hB1.size)⟩
end Go.Proofs.Ytohgkcgeanofnaa
