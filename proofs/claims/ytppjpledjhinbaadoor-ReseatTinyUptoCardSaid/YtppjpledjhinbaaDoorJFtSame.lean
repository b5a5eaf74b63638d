/- The reference's Same: two lists that read alike. -/
import Derived.Test.YtppjpledjhinbaaDoorJFtOne
import Derived.LoopNIn
import Derived.BigQuiet
import Derived.BigRegion
namespace Go.Proofs.YtppjpledjhinbaaDoor
open Go.RowKit Go.Lib
theorem bel_drewN {B : Nat} {w w' : World} (h : Below B w w') (n : Nat) : Below B w (w'.drewN n) := ⟨h.os, h.tape, h.output, h.size, h.block⟩
set_option maxHeartbeats 4000000 in
set_option maxRecDepth 20000 in
theorem same_seats (w : World) (A B : Option Addr) (n c d : Nat) (l : List MSeat) (ha : Rd w w.heap.size 2 A n (catv seatC l)) (hb : Rd w w.heap.size 2 B n (catv seatC l)) (hn : n ≤ 1099511627776) :
    Calls Tryd.prog 18 #[.slice A n c, .slice B n d] w fun e w' => e = .returned (.bool true) ∧ Below w.heap.size w w' := by
  have HA := Lib.hid ha
  have HB := Lib.hid hb
  clear ha hb
  go_enter Tryd.func18, Tryd.ntmps18
  go_wp2
  go_loopw [13] (fun iv wx => ∃ j : Nat, j ≤ n ∧ iv = .int .i64 (j : Int) ∧ Hid (Below w.heap.size w wx)) (fun iv _ => n - (intOf iv).toNat)
  case atStart => exact ⟨0, Nat.zero_le _, rfl, Lib.hid (Below.refl _ _)⟩
  case round =>
    obtain ⟨j, hj, rfl, hW⟩ := hrel
    by_cases hlt : j < n
    · obtain ⟨ga, oa, rfl, hga, hs, hca⟩ := (HA.out.below hW.out).elem seatC_len (by decide) hlt
      obtain ⟨gb, ob, rfl, hgb, _, hcb⟩ := (HB.out.below hW.out).elem seatC_len (by decide) hlt
      obtain ⟨x, hx⟩ : ∃ x, l[j] = x := ⟨_, rfl⟩
      rw [hx] at hca hcb
      obtain ⟨x0, x1⟩ := x
      have a0 := hca 0 _ rfl
      have b0 := hcb 0 _ rfl
      have a1 := hca 1 _ rfl
      have b1 := hcb 1 _ rfl
      rw [Nat.add_zero] at a0 b0
      clear hca hcb hx
      go_wp2_with fail
      go_quiet (fail)
      go_wp2
      go_roundw
      case rel => exact ⟨j + 1, by omega, by go_num, Lib.hid (by first | exact hW.out.drew | exact bel_drewN hW.out _)⟩
      case measure => simp [intOf]; omega
    · have hz : ¬ (j : Int) < (n : Int) := by omega
      go_wp2
      go_ret
      exact ⟨rfl, hW.out⟩
end Go.Proofs.YtppjpledjhinbaaDoor
