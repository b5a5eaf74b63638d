/- slices.Chunk of versions, eight by eight: what it hands over. -/
import Derived.Test.YtanieolnaiihmaaRgLaw
import Derived.Test.YtanieolnaiihmaaEnt
import Derived.Shelf.Abstract
import Derived.Shelf.RegionOpen
import Derived.WalkKit
import Derived.OwnWalkIn
import Derived.TacticsInMore
import Derived.LoopNIn
import Derived.LoopIn
import Derived.BigRegionIn
namespace Go.Proofs.Ytanieolnaiihmaa
open Go.RowKit
attribute [local go_sem] Oper.semAt_some
section
variable {F : Fence} {n : Nat} {P : Program}
/-- What an iterator of N values does, whatever the loop: it hands them over one by one; between two rounds it may draw. -/
def HandsD (F : Fence) (n : Nat) (P : Program) (gf : Nat) (lb : Array Value) (x : Nat → Value) (N : Nat) (Kp : World → World → Prop) (w : World) : Prop :=
  ∀ (l : Nat) (J : Nat → World → Prop), (∀ j W, J j W → J j W.drew) →
    (∀ j W, J j W → j < N → YieldAt F (n - 1) P l #[x j] W fun e W' => e = .returned (.bool true) ∧ J (j + 1) W' ∧ Kp W W') →
    ∀ W, Kp w W → J 0 W → CallsIn F n P gf (#[.func (.yield l) #[] #[]] ++ lb) W fun e W' => (∃ v, e = .returned v) ∧ J N W'
theorem range_handsD {g : Operand} {ps : Array Tmp} {assign body : Code} {Q : Exit → Act → World → Prop} {a : Act} {w : World}
    (hro : F.round = none) (h1 : 1 ≤ n) {gf : Nat} {lb : Array Value} (hg : a.eval g = .func (.func gf) #[] lb) (hFg : F.fn gf) (eg : ∀ args w, (callFunc gf args).run P w = .ok (.enter gf args) w)
    {x : Nat → Value} {N : Nat} {Kp : World → World → Prop} (hit : HandsD F (n - 1) P gf lb x N Kp w)
    (hKt : ∀ {A B C : World}, Kp A B → Kp B C → Kp A C) (hKb : ∀ (W : World) (l : Nat) (o : Obj), w.heap.size ≤ l → Kp W (W.putObj l o)) (hKa : ∀ (W : World) (o : Obj), Kp W (W.alloc o)) (hps : ps.size = 1)
    (I : Nat → World → Prop) (hI : OwnFrom w.heap.size I) (hIc : ∀ j W, I j W → I j W.drew) (h0 : I 0 w) (a₁ : Nat → Act)
    (hassign : ∀ (l j : Nat) (W : World) (K : Act → World → Prop), K (a₁ j) W → assign.wpIn (F.inRound l) (n - 1 - 1) P (Exit.then K (fun _ _ _ => False)) { tmps := (ps.zip #[x j]).foldl (fun t (p, v) => t.setIfInBounds p v) a.tmps, defers := [] } W)
    (hbody : ∀ (l j : Nat) (W : World), I j W → j < N → body.wpIn (F.inRound l) (n - 1 - 1) P (goesOn w.heap.size Kp I j W) (a₁ j) W)
    (hdone : ∀ (D : Nat) (W : World), w.heap.size ≤ D → I N W → W.heap[D]? = some (.deferred (some [])) → Q .normal { a with defers := { target := .collected D, args := #[] } :: a.defers } W) :
    (Code.rangeFunc g ps assign body).wpIn F n P Q a w := by
  refine wpIn_rangeFunc ?_
  intro fn hfn
  rw [hro]
  obtain ⟨rec, hrec⟩ : ∃ rec : LoopState → Option Code → Loop, rec = fun st pe => { state := st, pending := pe, fn, tmps := a.tmps, params := ps, assign, body, defers := w.heap.size } := ⟨_, rfl⟩
  obtain ⟨W1, hW1⟩ : ∃ W1, (w.alloc (.deferred (some []))).alloc (.loop (rec .ready none)) = W1 := ⟨_, rfl⟩
  have hR1 : W1.heap[w.heap.size + 1]? = some (.loop (rec .ready none)) := by
    subst hW1
    have := World.alloc_heap_new (w.alloc (.deferred (some []))) (.loop (rec .ready none))
    rwa [World.size_alloc] at this
  have hD1 : W1.heap[w.heap.size]? = some (.deferred (some [])) := by
    subst hW1
    exact (Below.heap_alloc _ _ _ (by simp)).trans (World.alloc_heap_new w _)
  have hI1 : I 0 W1 := by subst hW1; exact hI.alloc _ (hI.alloc _ h0)
  have hK1 : Kp w W1 := by subst hW1; exact hKt (hKa _ _) (hKa _ _)
  refine ⟨w.heap.size + 1, [{ target := .collected w.heap.size, args := #[] }], W1, { target := .fn (.func gf) lb, args := #[.func (.yield (w.heap.size + 1)) #[] #[]] }, W1, gf, #[.func (.yield (w.heap.size + 1)) #[] #[]] ++ lb, W1, ?_, ?_, ?_, ?_, fun _ => h1, ?_⟩
  · subst hW1; rw [hrec]; exact run_enterLoop_outer _ _ _ _ _
  · simp only [resolve, hg]
    simp [go_sem]
  · intro f' hf'
    simp [Target.leads] at hf'
    subst hf'; exact hFg
  · simp [invoke, go_sem, eg]
  · refine (hit (w.heap.size + 1) (fun j W => I j W ∧ W.heap[w.heap.size + 1]? = some (.loop (rec .ready none)) ∧ W.heap[w.heap.size]? = some (.deferred (some []))) ?_ ?_ W1 hK1 ⟨hI1, hR1, hD1⟩).mono ?_
    · rintro j W ⟨hi, hr, hd⟩
      exact ⟨hIc j W hi, hr, hd⟩
    · rintro j W ⟨hi, hr, hd⟩ hj
      have hy := run_yield (P := P) (args := #[x j]) hr (by rw [hrec]; simpa using hps.symm)
      rw [hrec] at hy
      refine ⟨fn, _, assign, body, hy, roundIn_of_wpIn hfn (hassign _ j W _ ?_)⟩
      have hlt := (Array.getElem?_eq_some_iff.1 hr).1
      refine ⟨_, run_beginRound hr (by rw [hrec]), ?_⟩
      obtain ⟨W2, hW2⟩ : ∃ W2, W.putObj (w.heap.size + 1) (.loop { rec .ready none with state := .busy }) = W2 := ⟨_, rfl⟩
      have hr2 : W2.heap[w.heap.size + 1]? = some (.loop { rec .ready none with state := .busy }) := by subst hW2; exact World.putObj_heap_same hlt
      have hd2 : W2.heap[w.heap.size]? = some (.deferred (some [])) := by subst hW2; exact (World.putObj_heap_other (by omega)).trans hd
      have hi2 : I j W2 := by subst hW2; exact hI.putObj _ hi (by omega) hr rfl
      have hk2 : Kp W W2 := by subst hW2; exact hKb _ _ _ (by omega)
      rw [hW2]
      refine wpIn_mono (hbody _ j W2 hi2 hj) ?_
      rintro e a3 W3 hp
      cases e with
      | normal =>
        obtain ⟨q1, q2, q3⟩ := hp
        have hr3 := q1.same _ _ (by omega) hr2 rfl
        have hd3 := q1.same _ _ (Nat.le_refl _) hd2 rfl
        have hend := run_endRound (P := P) none hr3
        refine ⟨_, _, hend, rfl, ⟨hI.putObj _ q3 (by omega) hr3 rfl, ?_, (World.putObj_heap_other (by omega)).trans hd3⟩, hKt hk2 (hKt q2 (hKb _ _ _ (by omega)))⟩
        rw [World.putObj_heap_same (Array.getElem?_eq_some_iff.1 hr3).1, hrec]
        rfl
      | ret => exact hp.elim
      | exit id => exact hp.elim
      | goto t => exact hp.elim
      | panic ch => exact hp.elim
      | outgrown => exact hp.elim
    · rintro e W2 ⟨⟨v, rfl⟩, hi, hr, hd⟩
      refine ⟨none, W2.putObj (w.heap.size + 1) (.loop { rec .ready none with state := .exhausted }), ?_, hdone _ _ (Nat.le_refl _) (hI.putObj _ hi (by omega) hr rfl) ((World.putObj_heap_other (by omega)).trans hd)⟩
      have hend := run_endLoop (P := P) hr (by rw [hrec]; simp)
      rw [hrec] at hend ⊢
      exact hend
end
theorem chunk_any (w : World) (A : Option Addr) (n c : Nat) :
    Calls Try.prog 47 #[.slice A n c, .int .i64 8] w fun e w' => e = .returned (.func (.func 71) #[] #[.pointer (some ⟨w.heap.size, 0, none⟩), .pointer (some ⟨w.heap.size + 1, 0, none⟩)]) ∧
      w' = (w.alloc (.cells #[.slice A n c] 31)).alloc (.cells #[.int .i64 8] 3) := by
  go_enter Try.func47, Try.ntmps47
  go_wp2
  go_ret
  exact ⟨rfl, rfl⟩
/-- What a round keeps: the iterator's two boxes. -/
def KeepC (H : Nat) (W W' : World) : Prop := W.heap.size ≤ W'.heap.size ∧ ∀ k, H ≤ k → k < H + 2 → k < W.heap.size → W'.heap[k]? = W.heap[k]?
theorem KeepC.trans {H : Nat} {A B C : World} (h : KeepC H A B) (h2 : KeepC H B C) : KeepC H A C :=
  ⟨Nat.le_trans h.1 h2.1, fun k k1 k2 k3 => (h2.2 k k1 k2 (Nat.lt_of_lt_of_le k3 h.1)).trans (h.2 k k1 k2 k3)⟩
theorem KeepC.upd {H : Nat} {S : Nat → Prop} {A B : World} (h : Upd S A B) (hs : ∀ k, H ≤ k → k < H + 2 → ¬ S k) : KeepC H A B := ⟨h.size, fun k k1 k2 k3 => h.block k k3 (hs k k1 k2)⟩
theorem KeepC.alloc (H : Nat) (W : World) (o : Obj) : KeepC H W (W.alloc o) := ⟨by simp, fun k _ _ k3 => Below.heap_alloc W o k k3⟩
theorem KeepC.putObj {H : Nat} (W : World) (l : Nat) (o : Obj) (hl : H + 2 ≤ l) : KeepC H W (W.putObj l o) := ⟨by simp [World.putObj], fun k _ k2 _ => World.putObj_heap_other (by omega)⟩
/-- The part that is handed over. -/
def chV (g off n j : Nat) : Value := .slice (some ⟨g, off + 8 * j * 4, none⟩) (min 8 (n - 8 * j)) (min 8 (n - 8 * j))
set_option maxRecDepth 100000 in
set_option maxHeartbeats 4000000 in
theorem chunk_hands (m : Nat) (hm : 1 ≤ m) (w : World) (H : Nat) (A : Option Addr) (n c : Nat) (g off : Nat) (hA : 0 < n → A = some ⟨g, off, none⟩) (hnc : n ≤ c) (hc : n ≤ 4611686018427387904)
    (b0 : w.heap[H]? = some (.cells #[.slice A n c] 31 (0, 0))) (b1 : w.heap[H + 1]? = some (.cells #[.int .i64 8] 3 (0, 0))) :
    HandsD Fence.wide m Try.prog 71 #[.pointer (some ⟨H, 0, none⟩), .pointer (some ⟨H + 1, 0, none⟩)] (chV g off n) ((n + 7) / 8) (KeepC H) w := by
  intro l J hJc hY W hW hJ0
  have hl0 := (Array.getElem?_eq_some_iff.1 b0).1
  have hl1 := (Array.getElem?_eq_some_iff.1 b1).1
  have B0 := Lib.hid ((hW.2 H (Nat.le_refl _) (by omega) hl0).trans b0)
  have B1 := Lib.hid ((hW.2 (H + 1) (by omega) (by omega) hl1).trans b1)
  have HY := Lib.hid hY
  have HJD := Lib.hid hJc
  have HJ0 := Lib.hid hJ0
  have HA := Lib.hid hA
  clear hY hJc hJ0 b0 b1 hl0 hl1 hW hA
  refine callsIn_of_wp Try.func71 rfl trivial ?_ rfl
  simp only [Try.ntmps71, List.size_toArray, List.length_cons, List.length_nil, Nat.reduceAdd, Nat.reduceSub, Array.replicate_succ, Array.replicate_zero, List.push_toArray, List.append_toArray, List.nil_append, List.cons_append]
  gi_wp2
  gi_loopw [4] (fun iv wr => ∃ j : Nat, j ≤ (n + 7) / 8 ∧ iv = .int .i64 ((8 * j : Nat) : Int) ∧ Hid (wr.heap[H]? = some (.cells #[.slice A n c] 31 (0, 0))) ∧ Hid (wr.heap[H + 1]? = some (.cells #[.int .i64 8] 3 (0, 0))) ∧ Hid (J j wr)) (fun iv _ => n + 8 - (intOf iv).toNat)
  case atStart => exact ⟨0, Nat.zero_le _, rfl, B0, B1, HJ0⟩
  case round =>
    clear B0 B1 HJ0
    obtain ⟨j, hj, rfl, b0, b1, hJ⟩ := hrel
    have y0 : wr.cell? ⟨H, 0, none⟩ = some (.slice A n c) := by rw [cell_of_row _ _ 0 _ _ _ b0.out]; rfl
    have y1 : wr.cell? ⟨H + 1, 0, none⟩ = some (.int .i64 8) := by rw [cell_of_row _ _ 0 _ _ _ b1.out]; rfl
    obtain ⟨i, hi⟩ : ∃ i, 8 * j = i := ⟨_, rfl⟩
    rw [hi]
    by_cases hlt : i < n
    · obtain rfl := HA.out (by omega)
      have hR := HY.out j wr.drew (HJD.out j wr hJ.out) (by omega)
      unfold chV at hR
      rw [hi] at hR
      obtain ⟨fn, tmps, assign, body, hy, hRR⟩ := hR
      have HRR := Lib.hid hRR
      have i0 : (0 : Int) ≤ (i : Int) := by omega
      have i1 : (i : Int) ≤ (n : Int) := by omega
      have i2 : (n : Int) ≤ (c : Int) := by omega
      have hwd : IntKind.i64.wrap ((i : Int) + 8) = (i : Int) + 8 := IntWalk.i64_in _ (by omega)
      have hj8 : ((i + 8 : Nat) : Int) = (i : Int) + 8 := by omega
      have hj8' : 8 * (j + 1) = i + 8 := by omega
      have HJ8 := Lib.hid hj8'
      have hjn : j < (n + 7) / 8 := by omega
      clear hRR hj8'
      by_cases h8 : 8 ≤ n - i
      · have hd : min 8 (n - i) = 8 := by omega
        have hmx : ((i : Int) + 8).toNat - i = 8 := by omega
        have h9 : (i : Int) + 8 ≤ (c : Int) := by omega
        rw [hd] at hy
        clear hd
        gi_wp2
        gi_region
        all_goals gi_wp2
        refine HRR.out.mono ?_
        rintro e w3 ⟨rfl, hJ3, hk3⟩
        have hh0 := (Array.getElem?_eq_some_iff.1 b0.out).1
        have hh1 := (Array.getElem?_eq_some_iff.1 b1.out).1
        have B0 := Lib.hid ((hk3.2 H (Nat.le_refl _) (by omega) hh0).trans b0.out)
        have B1 := Lib.hid ((hk3.2 (H + 1) (by omega) (by omega) hh1).trans b1.out)
        have z1 : w3.cell? ⟨H + 1, 0, none⟩ = some (.int .i64 8) := by rw [cell_of_row _ _ 0 _ _ _ B1.out]; rfl
        have HJ3 := Lib.hid hJ3
        clear hJ3 hk3 y0 y1
        gi_wp2
        go_roundw
        case rel => exact ⟨j + 1, by omega, by rw [HJ8.out]; go_num, B0, B1, HJ3⟩
        case measure => simp [intOf]; omega
      · have hd : min 8 (n - i) = n - i := by omega
        have hwx : IntKind.i64.wrap ((i : Int) + ((n - i : Nat) : Int)) = (i : Int) + ((n - i : Nat) : Int) := IntWalk.i64_in _ (by omega)
        have hmx : ((i : Int) + ((n - i : Nat) : Int)).toNat - i = n - i := by omega
        have h9 : (i : Int) + ((n - i : Nat) : Int) ≤ (c : Int) := by omega
        rw [hd] at hy
        clear hd
        gi_wp2
        gi_region
        all_goals gi_wp2
        refine HRR.out.mono ?_
        rintro e w3 ⟨rfl, hJ3, hk3⟩
        have hh0 := (Array.getElem?_eq_some_iff.1 b0.out).1
        have hh1 := (Array.getElem?_eq_some_iff.1 b1.out).1
        have B0 := Lib.hid ((hk3.2 H (Nat.le_refl _) (by omega) hh0).trans b0.out)
        have B1 := Lib.hid ((hk3.2 (H + 1) (by omega) (by omega) hh1).trans b1.out)
        have z1 : w3.cell? ⟨H + 1, 0, none⟩ = some (.int .i64 8) := by rw [cell_of_row _ _ 0 _ _ _ B1.out]; rfl
        have HJ3 := Lib.hid hJ3
        clear hJ3 hk3 y0 y1
        gi_wp2
        go_roundw
        case rel => exact ⟨j + 1, by omega, by rw [HJ8.out]; go_num, B0, B1, HJ3⟩
        case measure => simp [intOf]; omega
    · have hz : ¬ (i : Int) < (n : Int) := by omega
      obtain rfl : j = (n + 7) / 8 := by omega
      gi_wp2
      go_end0
      exact ⟨⟨_, rfl⟩, hJ.out⟩
end Go.Proofs.Ytanieolnaiihmaa
