/- A range over a function whose iterator keeps its state in a cell, and whose body never leaves: one law. -/
import Derived.Test.YtppjpledjhinbaaDoorJVMap
import Derived.RangeFuncNested
import Derived.RangeFuncBound
import Derived.RangeFuncCalls
import Derived.RangeFuncLeaves
import Derived.Test.YtppjpledjhinbaaDoorJCbChk
import Derived.Shelf.Abstract
import Derived.WalkKit
import Derived.OwnWalkIn
import Derived.TacticsInMore
import Derived.LoopNIn
import Derived.LoopIn
namespace Go.Proofs.YtppjpledjhinbaaDoor
open Go.RowKit
variable {F : Fence} {n : Nat} {P : Program}
/-- What an iterator of N values does, whatever the loop: it hands them over one by one; between two rounds it turns its own cell alone. -/
def Hands (F : Fence) (n : Nat) (P : Program) (gf : Nat) (lb : Array Value) (x : Nat → Value) (N sB : Nat) (Kp : World → World → Prop) (w : World) : Prop :=
  ∀ (l : Nat) (J : Nat → World → Prop), (∀ j W v, J j W → J j (W.setCell ⟨sB, 0, none⟩ v)) →
    (∀ j W, J j W → j < N → YieldAt F (n - 1) P l #[x j] W fun e W' => e = .returned (.bool true) ∧ J (j + 1) W' ∧ Kp W W') →
    ∀ W, Kp w W → J 0 W → CallsIn F n P gf (#[.func (.yield l) #[] #[]] ++ lb) W fun e W' => (∃ v, e = .returned v) ∧ J N W'
/-- How a round's body ends: it goes on. -/
def goesOn (B : Nat) (Kp : World → World → Prop) (I : Nat → World → Prop) (j : Nat) (W : World) : Exit → Act → World → Prop
  | .normal, _, W' => KeepsFrom B W W' ∧ Kp W W' ∧ I (j + 1) W'
  | _, _, _ => False
theorem range_hands {g : Operand} {ps : Array Tmp} {assign body : Code} {Q : Exit → Act → World → Prop} {a : Act} {w : World}
    (hro : F.round = none) (h1 : 1 ≤ n) {gf : Nat} {lb : Array Value} (hg : a.eval g = .func (.func gf) #[] lb) (hFg : F.fn gf) (eg : ∀ args w, (callFunc gf args).run P w = .ok (.enter gf args) w)
    {x : Nat → Value} {N sB : Nat} {Kp : World → World → Prop} (hit : Hands F (n - 1) P gf lb x N sB Kp w)
    (hKt : ∀ {A B C : World}, Kp A B → Kp B C → Kp A C) (hKb : ∀ (W : World) (l : Nat) (o : Obj), w.heap.size ≤ l → Kp W (W.putObj l o)) (hKa : ∀ (W : World) (o : Obj), Kp W (W.alloc o)) (hps : ps.size = 1) (hsB : sB < w.heap.size)
    (I : Nat → World → Prop) (hI : OwnFrom w.heap.size I) (hIc : ∀ j W v, I j W → I j (W.setCell ⟨sB, 0, none⟩ v)) (h0 : I 0 w) (a₁ : Nat → Act)
    (hassign : ∀ (l j : Nat) (W : World) (K : Act → World → Prop), K (a₁ j) W → assign.wpIn (F.inRound l) (n - 1 - 1) P (Exit.then K (fun _ _ _ => False)) { tmps := (ps.zip #[x j]).foldl (fun t (p, v) => t.setIfInBounds p v) a.tmps, defers := [] } W)
    (hbody : ∀ (l j : Nat) (W : World), I j W → j < N → body.wpIn (F.inRound l) (n - 1 - 1) P (goesOn w.heap.size Kp I j W) (a₁ j) W)
    (hdone : ∀ (D : Nat) (W : World), w.heap.size ≤ D → I N W → W.heap[D]? = some (.deferred (some [])) → Q .normal { a with defers := { target := .collected D, args := #[] } :: a.defers } W) :
    (Code.rangeFunc g ps assign body).wpIn F n P Q a w := by
  refine wpIn_rangeFunc ?_
  intro fn hfn
  rw [hro]
  obtain ⟨rec, hrec⟩ : ∃ rec : LoopState → Option Code → Loop, rec = fun st pe => { state := st, pending := pe, fn, tmps := a.tmps, params := ps, assign, body, defers := w.heap.size } := ⟨_, rfl⟩
  obtain ⟨W1, hW1⟩ : ∃ W1, (w.alloc (.deferred (some []))).alloc (.loop (rec .ready none)) = W1 := ⟨_, rfl⟩
  have hR1 : W1.heap[w.heap.size + 1]? = some (.loop (rec .ready none)) := by
    subst hW1
    have := World.alloc_heap_new (w.alloc (.deferred (some []))) (.loop (rec .ready none))
    rwa [World.size_alloc] at this
  have hD1 : W1.heap[w.heap.size]? = some (.deferred (some [])) := by
    subst hW1
    exact (Below.heap_alloc _ _ _ (by simp)).trans (World.alloc_heap_new w _)
  have hI1 : I 0 W1 := by subst hW1; exact hI.alloc _ (hI.alloc _ h0)
  have hK1 : Kp w W1 := by subst hW1; exact hKt (hKa _ _) (hKa _ _)
  refine ⟨w.heap.size + 1, [{ target := .collected w.heap.size, args := #[] }], W1, { target := .fn (.func gf) lb, args := #[.func (.yield (w.heap.size + 1)) #[] #[]] }, W1, gf, #[.func (.yield (w.heap.size + 1)) #[] #[]] ++ lb, W1, ?_, ?_, ?_, ?_, fun _ => h1, ?_⟩
  · subst hW1; rw [hrec]; exact run_enterLoop_outer _ _ _ _ _
  · simp only [resolve, hg]
    simp [go_sem]
  · intro f' hf'
    simp [Target.leads] at hf'
    subst hf'; exact hFg
  · simp [invoke, go_sem, eg]
  · refine (hit (w.heap.size + 1) (fun j W => I j W ∧ W.heap[w.heap.size + 1]? = some (.loop (rec .ready none)) ∧ W.heap[w.heap.size]? = some (.deferred (some []))) ?_ ?_ W1 hK1 ⟨hI1, hR1, hD1⟩).mono ?_
    · rintro j W v ⟨hi, hr, hd⟩
      have hne : ∀ k, w.heap.size ≤ k → k < W.heap.size → (W.setCell ⟨sB, 0, none⟩ v).heap[k]? = W.heap[k]? := fun k hk hl => (Upd.setCell (S := fun q => q = sB) (Upd.refl _ W) ⟨sB, 0, none⟩ rfl v).block k hl (fun e => by omega)
      exact ⟨hIc j W v hi, (hne _ (by omega) (Array.getElem?_eq_some_iff.1 hr).1).trans hr, (hne _ (Nat.le_refl _) (Array.getElem?_eq_some_iff.1 hd).1).trans hd⟩
    · rintro j W ⟨hi, hr, hd⟩ hj
      have hy := run_yield (P := P) (args := #[x j]) hr (by rw [hrec]; simpa using hps.symm)
      rw [hrec] at hy
      refine ⟨fn, _, assign, body, hy, roundIn_of_wpIn hfn (hassign _ j W _ ?_)⟩
      have hlt := (Array.getElem?_eq_some_iff.1 hr).1
      refine ⟨_, run_beginRound hr (by rw [hrec]), ?_⟩
      obtain ⟨W2, hW2⟩ : ∃ W2, W.putObj (w.heap.size + 1) (.loop { rec .ready none with state := .busy }) = W2 := ⟨_, rfl⟩
      have hr2 : W2.heap[w.heap.size + 1]? = some (.loop { rec .ready none with state := .busy }) := by subst hW2; exact World.putObj_heap_same hlt
      have hd2 : W2.heap[w.heap.size]? = some (.deferred (some [])) := by subst hW2; exact (World.putObj_heap_other (by omega)).trans hd
      have hi2 : I j W2 := by subst hW2; exact hI.putObj _ hi (by omega) hr rfl
      have hk2 : Kp W W2 := by subst hW2; exact hKb _ _ _ (by omega)
      rw [hW2]
      refine wpIn_mono (hbody _ j W2 hi2 hj) ?_
      rintro e a3 W3 hp
      cases e with
      | normal =>
        obtain ⟨q1, q2, q3⟩ := hp
        have hr3 := q1.same _ _ (by omega) hr2 rfl
        have hd3 := q1.same _ _ (Nat.le_refl _) hd2 rfl
        have hend := run_endRound (P := P) none hr3
        refine ⟨_, _, hend, rfl, ⟨hI.putObj _ q3 (by omega) hr3 rfl, ?_, (World.putObj_heap_other (by omega)).trans hd3⟩, hKt hk2 (hKt q2 (hKb _ _ _ (by omega)))⟩
        rw [World.putObj_heap_same (Array.getElem?_eq_some_iff.1 hr3).1, hrec]
        rfl
      | ret => exact hp.elim
      | exit id => exact hp.elim
      | goto t => exact hp.elim
      | panic ch => exact hp.elim
      | outgrown => exact hp.elim
    · rintro e W2 ⟨⟨v, rfl⟩, hi, hr, hd⟩
      refine ⟨none, W2.putObj (w.heap.size + 1) (.loop { rec .ready none with state := .exhausted }), ?_, hdone _ _ (Nat.le_refl _) (hI.putObj _ hi (by omega) hr rfl) ((World.putObj_heap_other (by omega)).trans hd)⟩
      have hend := run_endLoop (P := P) hr (by rw [hrec]; simp)
      rw [hrec] at hend ⊢
      exact hend
end Go.Proofs.YtppjpledjhinbaaDoor
/- strings.SplitSeq at ".": the pieces are handed over one by one. -/
namespace Go.Proofs.YtppjpledjhinbaaDoor
open Go.RowKit Go.Lib
attribute [local go_sem] Oper.semAt_some
/-- How much of the text is left. -/
def strLeft (w : World) (b : Nat) : Nat := match w.cell? ⟨b, 0, none⟩ with
  | some (.string R) => R.size
  | _ => 0
theorem strLeft_eq {w : World} {b : Nat} {R : ByteArray} (h : w.cell? ⟨b, 0, none⟩ = some (.string R)) : strLeft w b = R.size := by unfold strLeft; rw [h]
/-- What a round keeps: the iterator's three boxes. -/
def KeepB (H : Nat) (W W' : World) : Prop := W.heap.size ≤ W'.heap.size ∧ ∀ k, H ≤ k → k < H + 3 → k < W.heap.size → W'.heap[k]? = W.heap[k]?
theorem KeepB.trans {H : Nat} {A B C : World} (h : KeepB H A B) (h2 : KeepB H B C) : KeepB H A C :=
  ⟨Nat.le_trans h.1 h2.1, fun k k1 k2 k3 => (h2.2 k k1 k2 (Nat.lt_of_lt_of_le k3 h.1)).trans (h.2 k k1 k2 k3)⟩
theorem KeepB.refl (H : Nat) (A : World) : KeepB H A A := ⟨Nat.le_refl _, fun _ _ _ _ => rfl⟩
theorem KeepB.upd {H : Nat} {S : Nat → Prop} {A B : World} (h : Upd S A B) (hs : ∀ k, H ≤ k → k < H + 3 → ¬ S k) : KeepB H A B := ⟨h.size, fun k k1 k2 k3 => h.block k k3 (hs k k1 k2)⟩
theorem KeepB.alloc (H : Nat) (W : World) (o : Obj) : KeepB H W (W.alloc o) := ⟨by simp, fun k _ _ k3 => Below.heap_alloc W o k k3⟩
theorem KeepB.putObj {H : Nat} (W : World) (l : Nat) (o : Obj) (hl : H + 3 ≤ l) : KeepB H W (W.putObj l o) := ⟨by simp [World.putObj], fun k _ k2 _ => World.putObj_heap_other (by omega)⟩
theorem index_dot (R : ByteArray) : indexByte R.data.toList 46 = indexB R ⟨#[46]⟩ := (index_one _ _).symm
set_option maxRecDepth 100000 in
set_option maxHeartbeats 4000000 in
theorem split_hands (n : Nat) (hn : 1 ≤ n) (w : World) (H : Nat) (s : ByteArray) (hs : s.size ≤ 1048576) (b0 : w.heap[H]? = some (.cells #[.string s] 9 (0, 0))) (b1 : w.heap[H + 1]? = some (.cells #[.string ⟨#[46]⟩] 9 (0, 0))) (b2 : w.heap[H + 2]? = some (.cells #[.int .i64 0] 3 (0, 0))) :
    Hands Fence.wide n Tryd.prog 104 #[.pointer (some ⟨H + 1, 0, none⟩), .pointer (some ⟨H, 0, none⟩), .pointer (some ⟨H + 2, 0, none⟩)]
      (fun j => .string ((splitB ⟨#[46]⟩ 0 (countB s ⟨#[46]⟩) s).getD j ⟨#[]⟩)) (countB s ⟨#[46]⟩ + 1) H (KeepB H) w := by
  intro l J hJc hY W hW hJ0
  obtain ⟨Z, hZ⟩ : ∃ Z, splitB ⟨#[46]⟩ 0 (countB s ⟨#[46]⟩) s = Z := ⟨_, rfl⟩
  obtain ⟨N, hN⟩ : ∃ N, countB s ⟨#[46]⟩ = N := ⟨_, rfl⟩
  rw [hN] at hZ
  rw [hN, hZ] at hY
  rw [hN]
  have hl0 := (Array.getElem?_eq_some_iff.1 b0).1
  have hl1 := (Array.getElem?_eq_some_iff.1 b1).1
  have hl2 := (Array.getElem?_eq_some_iff.1 b2).1
  have B0 := Lib.hid ((hW.2 H (Nat.le_refl _) (by omega) hl0).trans b0)
  have B1 := Lib.hid ((hW.2 (H + 1) (by omega) (by omega) hl1).trans b1)
  have B2 := Lib.hid ((hW.2 (H + 2) (by omega) (by omega) hl2).trans b2)
  have HY := Lib.hid hY
  have HJC := Lib.hid hJc
  have HJ0 := Lib.hid hJ0
  have HZ := Lib.hid hZ
  have HN := Lib.hid hN
  clear hY hJc hJ0 hZ hN b0 b1 b2 hl0 hl1 hl2 hW
  refine callsIn_of_wp Tryd.func104 rfl trivial ?_ rfl
  simp only [Tryd.ntmps104, List.size_toArray, List.length_cons, List.length_nil, Nat.reduceAdd, Nat.reduceSub, Array.replicate_succ, Array.replicate_zero, List.push_toArray, List.append_toArray, List.nil_append, List.cons_append]
  have y1 : W.cell? ⟨H + 1, 0, none⟩ = some (.string ⟨#[46]⟩) := by rw [cell_of_row _ _ 0 _ _ _ B1.out]; rfl
  gi_wp2
  gi_loopw [7] (fun _ wr => ∃ (j q : Nat) (R : ByteArray), j + q = N ∧ R.size ≤ 1048576 ∧ Hid (Z.drop j = splitB ⟨#[46]⟩ 0 q R) ∧ Hid (countB R ⟨#[46]⟩ = q) ∧ Hid (wr.heap[H]? = some (.cells #[.string R] 9 (0, 0))) ∧ Hid (wr.heap[H + 1]? = some (.cells #[.string ⟨#[46]⟩] 9 (0, 0))) ∧ Hid (wr.heap[H + 2]? = some (.cells #[.int .i64 0] 3 (0, 0))) ∧ Hid (J j wr)) (fun _ wr => strLeft wr H)
  case atStart => exact ⟨0, N, s, by omega, hs, Lib.hid (by rw [List.drop_zero]; exact HZ.out.symm), HN, B0, B1, B2, HJ0⟩
  case round =>
    clear B0 B1 B2 HJ0 y1
    obtain ⟨j, q, R, hjq, hRs, hD, hC, b0, b1, b2, hJ⟩ := hrel
    have y0 : wr.cell? ⟨H, 0, none⟩ = some (.string R) := by rw [cell_of_row _ _ 0 _ _ _ b0.out]; rfl
    have y1 : wr.cell? ⟨H + 1, 0, none⟩ = some (.string ⟨#[46]⟩) := by rw [cell_of_row _ _ 0 _ _ _ b1.out]; rfl
    have y2 : wr.cell? ⟨H + 2, 0, none⟩ = some (.int .i64 0) := by rw [cell_of_row _ _ 0 _ _ _ b2.out]; rfl
    have hix := Tryd.strings_Index_one R 46 wr
    rw [index_dot] at hix
    rcases indexB_cases R ⟨#[46]⟩ with hm | ⟨i, hi, hroom⟩
    · rw [hm] at hix
      have hq0 : q = 0 := by rw [← hC.out]; exact countB_miss R _ hm
      subst hq0
      have hget : Z.getD j ⟨#[]⟩ = R := by
        have h9 := hD.out
        rw [splitB_zero] at h9
        have h10 := congrArg (fun l => l[0]?) h9
        simp only [List.getElem?_drop, Nat.add_zero, List.getElem?_cons_zero] at h10
        rw [List.getD_eq_getElem?_getD, h10]; rfl
      have hJN : j = N := by omega
      have hR := HY.out j wr hJ.out (by omega)
      rw [hget] at hR
      subst hJN
      have HIX := Lib.hid hix
      obtain ⟨fn, tmps, assign, body, hy, hRR⟩ := hR
      have HRR := Lib.hid hRR
      clear hm hix hget hRR hD hC
      gi_wp2_with (refine ⟨trivial, ?_⟩; gi_at_call 102; refine (callsIn_wide.2 HIX.out).mono ?_; rintro e w2 ⟨rfl, rfl⟩)
      refine HRR.out.mono ?_
      rintro e w3 ⟨rfl, hJ3, hk3⟩
      gi_wp2
      go_end0
      exact ⟨⟨_, rfl⟩, hJ3⟩
    · rw [hi] at hix
      have hcc := countB_hit R ⟨#[46]⟩ i (by decide) hi
      rw [hC.out] at hcc
      obtain ⟨p, rfl⟩ : ∃ p, q = p + 1 := ⟨q - 1, by omega⟩
      have hsp := splitB_hit ⟨#[46]⟩ 0 p R i hi
      rw [← hD.out] at hsp
      have hone : (⟨#[46]⟩ : ByteArray).size = 1 := rfl
      rw [hone] at hsp hroom hcc
      rw [Nat.add_zero] at hsp
      have hget : Z.getD j ⟨#[]⟩ = R.extract 0 i := by
        have h10 := congrArg (fun l => l[0]?) hsp
        simp only [List.getElem?_drop, Nat.add_zero, List.getElem?_cons_zero] at h10
        rw [List.getD_eq_getElem?_getD, h10]; rfl
      have hnext : Z.drop (j + 1) = splitB ⟨#[46]⟩ 0 p (R.extract (i + 1) R.size) := by
        have h10 := congrArg List.tail hsp
        rw [List.tail_drop, List.tail_cons] at h10
        exact h10
      have hcn : countB (R.extract (i + 1) R.size) ⟨#[46]⟩ = p := by omega
      have hR := HY.out j wr hJ.out (by omega)
      rw [hget] at hR
      have HNX := Lib.hid hnext
      have HCN := Lib.hid hcn
      have HIX := Lib.hid hix
      obtain ⟨fn, tmps, assign, body, hy, hRR⟩ := hR
      have HRR := Lib.hid hRR
      have i1 : (0 : Int) ≤ (i : Int) := by omega
      have i2 : (i : Int) ≤ (R.size : Int) := by omega
      have hwi : IntKind.i64.wrap ((i : Int) + 1) = (i : Int) + 1 := IntWalk.i64_in _ (by omega)
      have hwj : IntKind.i64.wrap (i : Int) = (i : Int) := IntWalk.i64_in _ (by omega)
      have hRle : i + 1 ≤ R.size := hroom
      clear hi hix hget hRR hD hC hsp hone hroom hcc hnext hcn
      gi_wp2_with (refine ⟨trivial, ?_⟩; gi_at_call 102; refine (callsIn_wide.2 HIX.out).mono ?_; rintro e w2 ⟨rfl, rfl⟩)
      refine HRR.out.mono ?_
      rintro e w3 ⟨rfl, hJ3, hk3⟩
      have hh0 := (Array.getElem?_eq_some_iff.1 b0.out).1
      have hh1 := (Array.getElem?_eq_some_iff.1 b1.out).1
      have hh2 := (Array.getElem?_eq_some_iff.1 b2.out).1
      have B0 := Lib.hid ((hk3.2 H (Nat.le_refl _) (by omega) hh0).trans b0.out)
      have B1 := Lib.hid ((hk3.2 (H + 1) (by omega) (by omega) hh1).trans b1.out)
      have B2 := Lib.hid ((hk3.2 (H + 2) (by omega) (by omega) hh2).trans b2.out)
      have z0 : w3.cell? ⟨H, 0, none⟩ = some (.string R) := by rw [cell_of_row _ _ 0 _ _ _ B0.out]; rfl
      have z1 : w3.cell? ⟨H + 1, 0, none⟩ = some (.string ⟨#[46]⟩) := by rw [cell_of_row _ _ 0 _ _ _ B1.out]; rfl
      have z2 : w3.frozen? ⟨H, 0, none⟩ = false := frozen_of_row _ _ _ _ _ B0.out
      have HJ3 := Lib.hid (HJC.out _ w3 (.string (R.extract (i + 1) R.size)) hJ3)
      have c0 : (w3.setCell ⟨H, 0, none⟩ (.string (R.extract (i + 1) R.size))).heap[H]? = some (.cells #[.string (R.extract (i + 1) R.size)] 9 (0, 0)) := by
        rw [heap_setCell_same w3 H 0 _ _ _ B0.out]; rfl
      have hupd := Upd.setCell (S := fun q => q = H) (Upd.refl _ w3) ⟨H, 0, none⟩ rfl (.string (R.extract (i + 1) R.size))
      have C0 := Lib.hid c0
      have C1 := Lib.hid ((hupd.block (H + 1) (Array.getElem?_eq_some_iff.1 B1.out).1 (by simp)).trans B1.out)
      have C2 := Lib.hid ((hupd.block (H + 2) (Array.getElem?_eq_some_iff.1 B2.out).1 (by simp)).trans B2.out)
      have hl1 : strLeft (w3.setCell ⟨H, 0, none⟩ (.string (R.extract (i + 1) R.size))) H = R.size - (i + 1) := by
        rw [strLeft_eq (R := R.extract (i + 1) R.size) (by rw [cell_of_row _ _ 0 _ _ _ c0]; rfl), ByteArray.size_extract]; omega
      have hl2 := strLeft_eq y0
      have hes : (R.extract (i + 1) R.size).size ≤ 1048576 := by rw [ByteArray.size_extract]; omega
      have HL1 := Lib.hid hl1
      have HL2 := Lib.hid hl2
      clear hJ3 hk3 hh0 hh1 hh2 b0 b1 b2 y0 y1 y2 c0 hupd hl1 hl2 B0 B1 B2
      gi_wp2
      go_roundw
      case rel => exact ⟨j + 1, p, R.extract (i + 1) R.size, by omega, hes, HNX, HCN, C0, C1, C2, HJ3⟩
      case measure => rw [HL1.out, HL2.out]; omega
end Go.Proofs.YtppjpledjhinbaaDoor
/- Ranges over functions inside another loop: the marks that they leave, and an append in a round. -/
namespace Go.Proofs.YtppjpledjhinbaaDoor
open Go.RowKit
/-- The mark of an outermost loop's deferred calls: there are none. -/
def markOf (D : Nat) : Deferred := { target := .collected D, args := #[] }
def NoCalls (W : World) (Ds : List Nat) : Prop := Ds.Nodup ∧ ∀ D ∈ Ds, W.heap[D]? = some (.deferred (some []))
theorem NoCalls.upd {S : Nat → Prop} {W W' : World} {Ds : List Nat} (h : NoCalls W Ds) (hu : Upd S W W') (hs : ∀ D ∈ Ds, ¬ S D) : NoCalls W' Ds :=
  ⟨h.1, fun D hD => (hu.block D (Array.getElem?_eq_some_iff.1 (h.2 D hD)).1 (hs D hD)).trans (h.2 D hD)⟩
theorem upd_putObj (W : World) (D : Nat) (o : Obj) : Upd (fun k => k = D) W (W.putObj D o) := ⟨rfl, rfl, rfl, by simp [World.putObj], fun k _ hk => World.putObj_heap_other hk⟩
theorem leave_marks {F : Fence} {n : Nat} {P : Program} {fn : Func} {tmps : Array Value} {R : Ending → World → Prop} : ∀ (Ds : List Nat) (W : World), NoCalls W Ds →
    (∀ W', Upd (fun k => k ∈ Ds) W W' → LeavesInM F n P fn tmps R [] .returning W') → LeavesInM F n P fn tmps R (Ds.map markOf) .returning W := by
  intro Ds
  induction Ds with
  | nil => intro W _ h; exact h W (Upd.refl _ _)
  | cons D Ds ih =>
    intro W hn h
    have hD := hn.2 D (by simp)
    obtain ⟨hd, hnd⟩ := List.nodup_cons.1 hn.1
    refine ⟨by simp, .inl ⟨D, _, rfl, run_takeDeferred hD, ?_⟩⟩
    have hu := upd_putObj W D (.deferred none)
    refine ih _ (NoCalls.upd (S := fun k => k = D) ⟨hnd, fun D' h' => hn.2 D' (by simp [h'])⟩ hu (fun D' h' e => hd (e ▸ h'))) fun W' hu' => h W' ?_
    exact (hu.mono fun k _ e => by rw [e]; simp).trans hu' (fun k _ hk => by simp [hk])
/-- 'append(out, xs...)' in a round. -/
theorem wpListIn_app {F : Fence} {n : Nat} {P : Program} {w : World} {ops : Array Oper} {rest : List Oper} {o : Oper} {a : Act} {Q : Exit → Act → World → Prop} (hgd : o.guard = none) (s x : Operand) (t : TypeId)
    (ho : o.op = .call { callee := .builtin .append, args := #[s, x], argTypes := #[t, t] })
    (base : Nat) (e : TypeId) (i : TypeInfo) (z : Value) (size bytes : Nat) (ht : P.underlying t = some (.slice e)) (hi : P.info? e = some i) (hz : i.zero = some z)
    (hsize : i.size = size) (hby : i.bytes = bytes) (hzs : z.cells.size = size) (hsz : 0 < size)
    (v : Value) (k : Nat) (xs : List Value) (B : Nat) (A : Option Addr) (m c : Nat) (news : List Value) (hs : a.eval s = v) (hown : w.ownsRow base e size v k xs) (hx : a.eval x = .slice A m c) (hr : Rd w B size A m news) (h1 : ∀ u ∈ news, u.oneCell' = true)
    (hbytes : (k + m) * bytes ≤ 140737488355328) (h63 : k + m ≤ maxLen) (hbase : base ≤ w.heap.size)
    (h : ∀ v' w', w'.ownsRow base e size v' (k + m) (xs ++ news) → Upd (fun q => v.ownBlock = some q) w w' → RowAt w v v' → wpListIn F n P ops Q rest (a.put o.dst v') w') : wpListIn F n P ops Q (o :: rest) a w := by
  refine wpListIn_plain hgd fun K hK' => ?_
  obtain ⟨v', w', hrun, r1, r2, r3⟩ := app_run (P := P) w t o.type base e i z size bytes ht hi hz hsize hby hzs hsz v k xs B A m c news hown hr h1 hbytes h63 hbase
  unfold Oper.wpIn
  refine ⟨?_, ?_⟩
  · simp [Oper.about, ho, resolve, Target.leads, Sem.run_pure]
  · rw [Oper.semAt_plain F _ _ (by rw [ho]; intro c hc'; cases hc')]
    simp [execOp, ho, resolve, invoke, builtin, hs, hx, hrun, Result.andThen]
    exact hK' _ _ (h v' w' r1 r2 r3)
end Go.Proofs.YtppjpledjhinbaaDoor
