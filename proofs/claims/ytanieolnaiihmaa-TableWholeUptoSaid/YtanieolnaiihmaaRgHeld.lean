/- A region that draws its order, in a round of a range over a function: walked by takes as outside. -/
import Derived.Test.YtanieolnaiihmaaRow
import Derived.OrdersHeld
import Derived.OrdersIn
import Derived.RangeFuncNested
import Derived.RangeFuncBound
import Derived.RangeFuncCalls
import Derived.RangeFuncLeaves
import Derived.OwnWalkIn
namespace Go.Proofs.Ytanieolnaiihmaa
open Go.RowKit
/-- A piece ends as it should, and nowhere else. -/
def EndsIn (R : Act → World → Prop) : Exit → Act → World → Prop := fun e a w => e = .normal ∧ R a w
theorem EndsIn.out {R : Act → World → Prop} : ¬ LetsOut (EndsIn R) := fun ⟨_, _, h, _⟩ => by cases h
theorem EndsIn.panic {R : Act → World → Prop} (v : Act → Act) : ∀ c a w, EndsIn R (.panic c) (v a) w → EndsIn R (.panic c) a w := fun _ _ _ h => by cases h.1
theorem wpOpIn_of_wp {l n : Nat} {P : Program} {ops : Array Oper} {R : Act → World → Prop} {i : Nat} {K K' : Act → World → Prop} {a : Act} {w : World} (hnd : ∀ (i : Nat) (o : Oper), ops[i]? = some o → ∀ c, o.op ≠ .defer c)
    (h : wpOp P ops (EndsIn R) i K a w) (hK : ∀ a w, K a w → K' a w) : wpOpIn (Fence.wide.inRound l) n P ops (EndsIn R) i K' a w := by
  unfold wpOp at h
  unfold wpOpIn
  split
  · rename_i ho
    simp only [ho] at h
    exact hK _ _ h
  · rename_i o ho
    simp only [ho] at h
    split
    · rename_i hw
      simp only [hw, if_true] at h
      rcases h with h | h
      · refine ⟨fun _ _ => trivial, ?_⟩
        rw [Oper.semAt_eq _ _ _ (hnd i o ho)]
        unfold Oper.wp at h
        generalize (execOp a.eval o).run P w = r at *
        cases r with
        | ok x w' =>
          cases x <;> simp only [Oper.upon, Oper.uponIn] at h ⊢
          case value => exact hK _ _ h
          case skip => exact hK _ _ h
          case defer => exact hK _ _ h
          case enter f args =>
            refine ⟨fun h0 => by simp [Fence.wide] at h0, CallsIn.inRound l (callsIn_wide.2 (h.mono fun e w'' he => ?_))⟩
            cases e with
            | returned v => exact hK _ _ he
            | panicked c => exact he
            | outgrown => exact he
          case row row args =>
            refine ⟨fun h0 => by simp [Fence.wide] at h0, ?_⟩
            intro c cs _
            obtain ⟨v, w'', hr, hs⟩ := h c cs
            exact ⟨v, w'', hK _ _ hr, stepsIn_wide.2 hs⟩
        | halt x w' =>
          cases x <;> simp only [Oper.upon, Oper.uponIn] at h ⊢ <;> exact h
      · exact absurd h.2 EndsIn.out
    · rename_i hw
      simp only [hw] at h
      exact ⟨fun _ _ => trivial, hK _ _ h⟩
theorem wpAnyIn_of_wp {l n : Nat} {P : Program} {md : Region.Mode} {ops : Array Oper} {R : Act → World → Prop} (hnd : ∀ (i : Nat) (o : Oper), ops[i]? = some o → ∀ c, o.op ≠ .defer c) : ∀ (fuel : Nat) (listed : Array Bool) (a : Act) (w : World),
    wpAny P md ops (EndsIn R) fuel listed a w → wpAnyIn (Fence.wide.inRound l) n P md ops (EndsIn R) fuel listed a w
  | 0, _, _, _, h => h
  | fuel + 1, _, _, _, h => ⟨h.1, fun i hi => wpOpIn_of_wp hnd (h.2 i hi) (fun a' w' => wpAnyIn_of_wp hnd fuel _ a' w')⟩
theorem wpIn_region_held_round {l n : Nat} {P : Program} {id : Nat} {ops : Array Oper} {Q : Exit → Act → World → Prop} {a : Act} {w : World} {S : World → Prop} (R : Act → World → Prop) (hm : P.follows .mixedOrders = true)
    (hnd : ∀ (i : Nat) (o : Oper), ops[i]? = some o → ∀ c, o.op ≠ .defer c)
    (h : wpAnyH P .any ops (EndsIn R) S ops.size (Array.replicate ops.size false) a w.drew) (hk : ∀ a' w', R a' w' → Q .normal a' w') : (Code.region id ops true).wpIn (Fence.wide.inRound l) n P Q a w :=
  wpIn_mono (wpIn_region_any hm (wpAnyIn_of_wp hnd _ _ _ _ (wpAny_of_held _ _ _ _ h))) (fun e a' w' he => by obtain ⟨rfl, he⟩ := he; exact hk a' w' he)
end Go.Proofs.Ytanieolnaiihmaa
