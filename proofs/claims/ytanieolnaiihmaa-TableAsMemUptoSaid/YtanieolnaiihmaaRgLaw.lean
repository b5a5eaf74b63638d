/- A range over a function whose iterator keeps its state in a cell, and whose body never leaves: one law. -/
import Derived.Test.YtanieolnaiihmaaRow
import Derived.RangeFuncNested
import Derived.RangeFuncBound
import Derived.RangeFuncCalls
import Derived.RangeFuncLeaves
namespace Go.Proofs.Ytanieolnaiihmaa
open Go.RowKit
variable {F : Fence} {n : Nat} {P : Program}
/-- What an iterator of N values does, whatever the loop: it hands them over one by one; between two rounds it turns its own cell alone. -/
def Hands (F : Fence) (n : Nat) (P : Program) (gf : Nat) (lb : Array Value) (x : Nat → Value) (N sB : Nat) (Kp : World → World → Prop) (w : World) : Prop :=
  ∀ (l : Nat) (J : Nat → World → Prop), (∀ j W v, J j W → J j (W.setCell ⟨sB, 0, none⟩ v)) →
    (∀ j W, J j W → j < N → YieldAt F (n - 1) P l #[x j] W fun e W' => e = .returned (.bool true) ∧ J (j + 1) W' ∧ Kp W W') →
    ∀ W, Kp w W → J 0 W → CallsIn F n P gf (#[.func (.yield l) #[] #[]] ++ lb) W fun e W' => (∃ v, e = .returned v) ∧ J N W'
/-- How a round's body ends: it goes on. -/
def goesOn (B : Nat) (Kp : World → World → Prop) (I : Nat → World → Prop) (j : Nat) (W : World) : Exit → Act → World → Prop
  | .normal, _, W' => KeepsFrom B W W' ∧ Kp W W' ∧ I (j + 1) W'
  | _, _, _ => False
theorem range_hands {g : Operand} {ps : Array Tmp} {assign body : Code} {Q : Exit → Act → World → Prop} {a : Act} {w : World}
    (hro : F.round = none) (h1 : 1 ≤ n) {gf : Nat} {lb : Array Value} (hg : a.eval g = .func (.func gf) #[] lb) (hFg : F.fn gf) (eg : ∀ args w, (callFunc gf args).run P w = .ok (.enter gf args) w)
    {x : Nat → Value} {N sB : Nat} {Kp : World → World → Prop} (hit : Hands F (n - 1) P gf lb x N sB Kp w)
    (hKt : ∀ {A B C : World}, Kp A B → Kp B C → Kp A C) (hKb : ∀ (W : World) (l : Nat) (o : Obj), w.heap.size ≤ l → Kp W (W.putObj l o)) (hKa : ∀ (W : World) (o : Obj), Kp W (W.alloc o)) (hps : ps.size = 1) (hsB : sB < w.heap.size)
    (I : Nat → World → Prop) (hI : OwnFrom w.heap.size I) (hIc : ∀ j W v, I j W → I j (W.setCell ⟨sB, 0, none⟩ v)) (h0 : I 0 w) (a₁ : Nat → Act)
    (hassign : ∀ (l j : Nat) (W : World) (K : Act → World → Prop), K (a₁ j) W → assign.wpIn (F.inRound l) (n - 1 - 1) P (Exit.then K (fun _ _ _ => False)) { tmps := (ps.zip #[x j]).foldl (fun t (p, v) => t.setIfInBounds p v) a.tmps, defers := [] } W)
    (hbody : ∀ (l j : Nat) (W : World), I j W → j < N → body.wpIn (F.inRound l) (n - 1 - 1) P (goesOn w.heap.size Kp I j W) (a₁ j) W)
    (hdone : ∀ (D : Nat) (W : World), w.heap.size ≤ D → I N W → W.heap[D]? = some (.deferred (some [])) → Q .normal { a with defers := { target := .collected D, args := #[] } :: a.defers } W) :
    (Code.rangeFunc g ps assign body).wpIn F n P Q a w := by
  refine wpIn_rangeFunc ?_
  intro fn hfn
  rw [hro]
  obtain ⟨rec, hrec⟩ : ∃ rec : LoopState → Option Code → Loop, rec = fun st pe => { state := st, pending := pe, fn, tmps := a.tmps, params := ps, assign, body, defers := w.heap.size } := ⟨_, rfl⟩
  obtain ⟨W1, hW1⟩ : ∃ W1, (w.alloc (.deferred (some []))).alloc (.loop (rec .ready none)) = W1 := ⟨_, rfl⟩
  have hR1 : W1.heap[w.heap.size + 1]? = some (.loop (rec .ready none)) := by
    subst hW1
    have := World.alloc_heap_new (w.alloc (.deferred (some []))) (.loop (rec .ready none))
    rwa [World.size_alloc] at this
  have hD1 : W1.heap[w.heap.size]? = some (.deferred (some [])) := by
    subst hW1
    exact (Below.heap_alloc _ _ _ (by simp)).trans (World.alloc_heap_new w _)
  have hI1 : I 0 W1 := by subst hW1; exact hI.alloc _ (hI.alloc _ h0)
  have hK1 : Kp w W1 := by subst hW1; exact hKt (hKa _ _) (hKa _ _)
  refine ⟨w.heap.size + 1, [{ target := .collected w.heap.size, args := #[] }], W1, { target := .fn (.func gf) lb, args := #[.func (.yield (w.heap.size + 1)) #[] #[]] }, W1, gf, #[.func (.yield (w.heap.size + 1)) #[] #[]] ++ lb, W1, ?_, ?_, ?_, ?_, fun _ => h1, ?_⟩
  · subst hW1; rw [hrec]; exact run_enterLoop_outer _ _ _ _ _
  · simp only [resolve, hg]
    simp [go_sem]
  · intro f' hf'
    simp [Target.leads] at hf'
    subst hf'; exact hFg
  · simp [invoke, go_sem, eg]
  · refine (hit (w.heap.size + 1) (fun j W => I j W ∧ W.heap[w.heap.size + 1]? = some (.loop (rec .ready none)) ∧ W.heap[w.heap.size]? = some (.deferred (some []))) ?_ ?_ W1 hK1 ⟨hI1, hR1, hD1⟩).mono ?_
    · rintro j W v ⟨hi, hr, hd⟩
      have hne : ∀ k, w.heap.size ≤ k → k < W.heap.size → (W.setCell ⟨sB, 0, none⟩ v).heap[k]? = W.heap[k]? := fun k hk hl => (Upd.setCell (S := fun q => q = sB) (Upd.refl _ W) ⟨sB, 0, none⟩ rfl v).block k hl (fun e => by omega)
      exact ⟨hIc j W v hi, (hne _ (by omega) (Array.getElem?_eq_some_iff.1 hr).1).trans hr, (hne _ (Nat.le_refl _) (Array.getElem?_eq_some_iff.1 hd).1).trans hd⟩
    · rintro j W ⟨hi, hr, hd⟩ hj
      have hy := run_yield (P := P) (args := #[x j]) hr (by rw [hrec]; simpa using hps.symm)
      rw [hrec] at hy
      refine ⟨fn, _, assign, body, hy, roundIn_of_wpIn hfn (hassign _ j W _ ?_)⟩
      have hlt := (Array.getElem?_eq_some_iff.1 hr).1
      refine ⟨_, run_beginRound hr (by rw [hrec]), ?_⟩
      obtain ⟨W2, hW2⟩ : ∃ W2, W.putObj (w.heap.size + 1) (.loop { rec .ready none with state := .busy }) = W2 := ⟨_, rfl⟩
      have hr2 : W2.heap[w.heap.size + 1]? = some (.loop { rec .ready none with state := .busy }) := by subst hW2; exact World.putObj_heap_same hlt
      have hd2 : W2.heap[w.heap.size]? = some (.deferred (some [])) := by subst hW2; exact (World.putObj_heap_other (by omega)).trans hd
      have hi2 : I j W2 := by subst hW2; exact hI.putObj _ hi (by omega) hr rfl
      have hk2 : Kp W W2 := by subst hW2; exact hKb _ _ _ (by omega)
      rw [hW2]
      refine wpIn_mono (hbody _ j W2 hi2 hj) ?_
      rintro e a3 W3 hp
      cases e with
      | normal =>
        obtain ⟨q1, q2, q3⟩ := hp
        have hr3 := q1.same _ _ (by omega) hr2 rfl
        have hd3 := q1.same _ _ (Nat.le_refl _) hd2 rfl
        have hend := run_endRound (P := P) none hr3
        refine ⟨_, _, hend, rfl, ⟨hI.putObj _ q3 (by omega) hr3 rfl, ?_, (World.putObj_heap_other (by omega)).trans hd3⟩, hKt hk2 (hKt q2 (hKb _ _ _ (by omega)))⟩
        rw [World.putObj_heap_same (Array.getElem?_eq_some_iff.1 hr3).1, hrec]
        rfl
      | ret => exact hp.elim
      | exit id => exact hp.elim
      | goto t => exact hp.elim
      | panic ch => exact hp.elim
      | outgrown => exact hp.elim
    · rintro e W2 ⟨⟨v, rfl⟩, hi, hr, hd⟩
      refine ⟨none, W2.putObj (w.heap.size + 1) (.loop { rec .ready none with state := .exhausted }), ?_, hdone _ _ (Nat.le_refl _) (hI.putObj _ hi (by omega) hr rfl) ((World.putObj_heap_other (by omega)).trans hd)⟩
      have hend := run_endLoop (P := P) hr (by rw [hrec]; simp)
      rw [hrec] at hend ⊢
      exact hend
end Go.Proofs.Ytanieolnaiihmaa
