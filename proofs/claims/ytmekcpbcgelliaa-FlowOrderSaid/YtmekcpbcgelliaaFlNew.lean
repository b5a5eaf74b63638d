/- Flows: newNet, walked. -/
import Derived.Test.YtmekcpbcgelliaaFlMem
import Derived.Deep.RegionHeld3
import Derived.Deep.CutBlock
import Derived.Deep.DeepCutAuto
namespace Go.Proofs.Ytmekcpbcgelliaa
open Go.RowKit
def BIs (r : Bool) (P : Prop) : Prop := r = true ↔ P
theorem btw (w : World) (n lo hi : Int) (r : Bool) (h : BIs r (lo ≤ n ∧ n ≤ hi)) : Calls Try.prog 28 #[.int .i64 n, .int .i64 lo, .int .i64 hi] w fun e w' => e = .returned (.bool r) ∧ w = w' := by
  cases r with
  | true =>
    obtain ⟨h1, h2⟩ := h.1 rfl
    clear h
    go_enter Try.func28, Try.ntmps28
    go_wp2
    go_ret
    exact ⟨rfl, rfl⟩
  | false =>
    have hn : ¬ (lo ≤ n ∧ n ≤ hi) := fun h' => by have := h.2 h'; cases this
    clear h
    by_cases h1 : lo ≤ n
    · have h2 : ¬ n ≤ hi := fun h2 => hn ⟨h1, h2⟩
      clear hn
      go_enter Try.func28, Try.ntmps28
      go_wp2
      go_ret
      exact ⟨rfl, rfl⟩
    · clear hn
      go_enter Try.func28, Try.ntmps28
      go_wp2
      go_ret
      exact ⟨rfl, rfl⟩
theorem bis_t {P : Prop} (h : P) : BIs true P := ⟨fun _ => h, fun _ => rfl⟩
theorem bis_f {P : Prop} (h : ¬ P) : BIs false P := ⟨(fun h => by cases h), fun h' => absurd h' h⟩
theorem net_info : (Try.prog.info? 71).map (fun i => (i.zero, i.size, i.bytes)) = some (some (.agg #[.int .i64 0, .int .i64 0, .int .i64 0]), 3, 24) := by kernel_rfl
set_option maxHeartbeats 4000000 in
set_option maxRecDepth 20000 in
/-- Sizes that aren't right. -/
theorem newn_size (w : World) (nodes s t : Int) (A : Option Addr) (k c : Nat) (hs : ¬ ((2 ≤ nodes ∧ nodes ≤ 200) ∧ (0 ≤ s ∧ s < nodes) ∧ (0 ≤ t ∧ t < nodes) ∧ s ≠ t ∧ k ≤ 4000)) :
    Calls Try.prog 26 #[.int .i64 nodes, .int .i64 s, .int .i64 t, .slice A k c] w fun e w' => e = .returned (.tuple #[.pointer none, .int .i64 19]) ∧ w = w' := by
  by_cases h1 : 2 ≤ nodes ∧ nodes ≤ 200
  · have x1 : IntKind.i64.wrap (nodes - 1) = nodes - 1 := IntWalk.i64_in _ (by omega)
    by_cases h2 : 0 ≤ s ∧ s ≤ nodes - 1
    · by_cases h3 : 0 ≤ t ∧ t ≤ nodes - 1
      · have h4 : s = t ∨ (s ≠ t ∧ 4000 < k) := by
          by_cases e : s = t
          · exact .inl e
          · exact .inr ⟨e, by
              by_cases e2 : 4000 < k
              · exact e2
              · exact absurd ⟨h1, ⟨h2.1, by omega⟩, ⟨h3.1, by omega⟩, e, by omega⟩ hs⟩
        have C1 := Lib.hid (btw w nodes 2 200 true (bis_t h1))
        have C2 := Lib.hid (btw w s 0 (nodes - 1) true (bis_t h2))
        have C3 := Lib.hid (btw w t 0 (nodes - 1) true (bis_t h3))
        clear hs h1 h2 h3
        rcases h4 with rfl | ⟨h4, h5⟩
        all_goals
          go_enter Try.func26, Try.ntmps26
          go_wp2_with fail
          refine C1.out.mono ?_
          rintro e w1 ⟨rfl, rfl⟩
          go_wp2_with fail
          refine C2.out.mono ?_
          rintro e w2 ⟨rfl, rfl⟩
          go_wp2_with fail
          refine C3.out.mono ?_
          rintro e w3 ⟨rfl, rfl⟩
          go_wp2
          go_ret2
          exact ⟨rfl, rfl⟩
      · have C1 := Lib.hid (btw w nodes 2 200 true (bis_t h1))
        have C2 := Lib.hid (btw w s 0 (nodes - 1) true (bis_t h2))
        have C3 := Lib.hid (btw w t 0 (nodes - 1) false (bis_f h3))
        clear hs h1 h2 h3
        go_enter Try.func26, Try.ntmps26
        go_wp2_with fail
        refine C1.out.mono ?_
        rintro e w1 ⟨rfl, rfl⟩
        go_wp2_with fail
        refine C2.out.mono ?_
        rintro e w2 ⟨rfl, rfl⟩
        go_wp2_with fail
        refine C3.out.mono ?_
        rintro e w3 ⟨rfl, rfl⟩
        go_wp2
        go_ret2
        exact ⟨rfl, rfl⟩
    · have C1 := Lib.hid (btw w nodes 2 200 true (bis_t h1))
      have C2 := Lib.hid (btw w s 0 (nodes - 1) false (bis_f h2))
      clear hs h1 h2
      go_enter Try.func26, Try.ntmps26
      go_wp2_with fail
      refine C1.out.mono ?_
      rintro e w1 ⟨rfl, rfl⟩
      go_wp2_with fail
      refine C2.out.mono ?_
      rintro e w2 ⟨rfl, rfl⟩
      go_wp2
      go_ret2
      exact ⟨rfl, rfl⟩
  · have C1 := Lib.hid (btw w nodes 2 200 false (bis_f h1))
    clear hs h1
    go_enter Try.func26, Try.ntmps26
    go_wp2_with fail
    refine C1.out.mono ?_
    rintro e w1 ⟨rfl, rfl⟩
    go_wp2
    go_ret2
    exact ⟨rfl, rfl⟩
end Go.Proofs.Ytmekcpbcgelliaa
