/- Bloom: lives. -/
import Derived.Test.YtmjkebokedaldaaBlPlain
namespace Go.Proofs.Ytmjkebokedaldaa
open Go.RowKit

theorem hsh_a : hsh [97] = 12638187200555641996 := by decide +kernel
theorem may_a : may (bld [⟨#[97]⟩]) [97] = true := may_bld [⟨#[97]⟩] ⟨#[97]⟩ (by simp)

def sA : ByteArray := ⟨#[97]⟩
theorem hash_a (w : World) : Calls Try.prog 16 #[.string ⟨#[97]⟩] w fun e w' => e = .returned (.int .u64 12638187200555641996) ∧ w = w' :=
  (hash_any ⟨#[97]⟩ w (by unfold maxLen; decide)).mono fun e w' ⟨he, hw⟩ => ⟨by
    rw [he]
    show Ending.returned (.int .u64 (hsh [97] : Int)) = _
    rw [hsh_a]; rfl, hw⟩
def four : List ByteArray := [⟨#[97]⟩, ⟨#[98]⟩, ⟨#[99]⟩, ⟨#[100]⟩]
def fone : List ByteArray := [⟨#[97]⟩]
def f4 : ByteArray := ⟨(bld four).toArray⟩
def f1 : ByteArray := ⟨(bld fone).toArray⟩
theorem f4_size : f4.size = 5 := by
  have : (bld four).length = 5 := by rw [bld_length]; rfl
  exact this
theorem f1_size : f1.size = 2 := by
  have : (bld fone).length = 2 := by rw [bld_length]; rfl
  exact this
theorem f1_may : may f1.data.toList [97] = true := may_a
theorem build_four (w : World) : Calls Try.prog 13 #[.slice (some ⟨w.heap.size, 0, none⟩) 4 4] (w.alloc (.cells #[.string ⟨#[97]⟩, .string ⟨#[98]⟩, .string ⟨#[99]⟩, .string ⟨#[100]⟩] 9)) fun e w' => e = .returned (.string f4) ∧ Below w.heap.size w w' :=
  (build_any (some ⟨w.heap.size, 0, none⟩) 4 4 four (w.alloc (.cells #[.string ⟨#[97]⟩, .string ⟨#[98]⟩, .string ⟨#[99]⟩, .string ⟨#[100]⟩] 9)) (by omega)
    (by have h := Rd.new (w := w) (size := 1) (n := 4) #[.string ⟨#[97]⟩, .string ⟨#[98]⟩, .string ⟨#[99]⟩, .string ⟨#[100]⟩] 9 rfl; simpa [strv, four] using h)
    (by intro k hk; have : k.size = 1 := by simp [four] at hk; rcases hk with rfl | rfl | rfl | rfl <;> rfl
        unfold maxLen; omega)).mono fun e w' ⟨he, hb⟩ => ⟨he, ((Below.refl _ _).alloc (Nat.le_refl _) _).trans (hb.mono (by simp))⟩
theorem build_one (w : World) : Calls Try.prog 13 #[.slice (some ⟨w.heap.size, 0, none⟩) 1 1] (w.alloc (.cells #[.string ⟨#[97]⟩] 9)) fun e w' => e = .returned (.string f1) ∧ Below w.heap.size w w' :=
  (build_any (some ⟨w.heap.size, 0, none⟩) 1 1 fone (w.alloc (.cells #[.string ⟨#[97]⟩] 9)) (by omega)
    (by have h := Rd.new (w := w) (size := 1) (n := 1) #[.string ⟨#[97]⟩] 9 rfl; simpa [strv, fone] using h)
    (by intro k hk; have : k.size = 1 := by simp [fone] at hk; rcases hk with rfl; rfl
        unfold maxLen; omega)).mono fun e w' ⟨he, hb⟩ => ⟨he, ((Below.refl _ _).alloc (Nat.le_refl _) _).trans (hb.mono (by simp))⟩
theorem may_one (w : World) : Calls Try.prog 18 #[.string f1, .string ⟨#[97]⟩] w fun e w' => e = .returned (.bool true) ∧ Below w.heap.size w w' :=
  (may_any f1 ⟨#[97]⟩ w (by rw [f1_size]; omega) (by unfold maxLen; decide)).mono fun e w' ⟨he, hb⟩ => ⟨by rw [he, ← f1_may], hb⟩

set_option maxHeartbeats 400000 in
theorem lives_any (w : World) : Calls Try.prog 12 #[] w fun e w' => e = .returned (.bool true) ∧ Below w.heap.size w w' := by
  have h5 := f4_size
  go_enter Try.func12, Try.ntmps12
  go_wp2_with (go_at_call 16; refine (hash_a _).mono ?_; rintro e w' ⟨rfl, rfl⟩)
  refine (build_four _).mono ?_
  rintro e w1 ⟨rfl, hb1⟩
  go_wp2_with fail
  refine (build_one _).mono ?_
  rintro e w2 ⟨rfl, hb2⟩
  go_wp2_with fail
  refine (may_one _).mono ?_
  rintro e w3 ⟨rfl, hb3⟩
  go_wp2
  go_ret
  exact ⟨rfl, (hb1.trans (hb2.mono hb1.size)).trans (hb3.mono (hb1.trans (hb2.mono hb1.size)).size)⟩
end Go.Proofs.Ytmjkebokedaldaa
