/- Ranges over functions inside another loop: the marks that they leave, and an append in a round. -/
import Derived.Test.YtanieolnaiihmaaRgLaw
import Derived.Test.YtanieolnaiihmaaStep
import Derived.OwnWalkIn
namespace Go.Proofs.Ytanieolnaiihmaa
open Go.RowKit
/-- The mark of an outermost loop's deferred calls: there are none. -/
def markOf (D : Nat) : Deferred := { target := .collected D, args := #[] }
def NoCalls (W : World) (Ds : List Nat) : Prop := Ds.Nodup ∧ ∀ D ∈ Ds, W.heap[D]? = some (.deferred (some []))
theorem NoCalls.upd {S : Nat → Prop} {W W' : World} {Ds : List Nat} (h : NoCalls W Ds) (hu : Upd S W W') (hs : ∀ D ∈ Ds, ¬ S D) : NoCalls W' Ds :=
  ⟨h.1, fun D hD => (hu.block D (Array.getElem?_eq_some_iff.1 (h.2 D hD)).1 (hs D hD)).trans (h.2 D hD)⟩
theorem upd_putObj (W : World) (D : Nat) (o : Obj) : Upd (fun k => k = D) W (W.putObj D o) := ⟨rfl, rfl, rfl, by simp [World.putObj], fun k _ hk => World.putObj_heap_other hk⟩
theorem leave_marks {F : Fence} {n : Nat} {P : Program} {fn : Func} {tmps : Array Value} {R : Ending → World → Prop} : ∀ (Ds : List Nat) (W : World), NoCalls W Ds →
    (∀ W', Upd (fun k => k ∈ Ds) W W' → LeavesInM F n P fn tmps R [] .returning W') → LeavesInM F n P fn tmps R (Ds.map markOf) .returning W := by
  intro Ds
  induction Ds with
  | nil => intro W _ h; exact h W (Upd.refl _ _)
  | cons D Ds ih =>
    intro W hn h
    have hD := hn.2 D (by simp)
    obtain ⟨hd, hnd⟩ := List.nodup_cons.1 hn.1
    refine ⟨by simp, .inl ⟨D, _, rfl, run_takeDeferred hD, ?_⟩⟩
    have hu := upd_putObj W D (.deferred none)
    refine ih _ (NoCalls.upd (S := fun k => k = D) ⟨hnd, fun D' h' => hn.2 D' (by simp [h'])⟩ hu (fun D' h' e => hd (e ▸ h'))) fun W' hu' => h W' ?_
    exact (hu.mono fun k _ e => by rw [e]; simp).trans hu' (fun k _ hk => by simp [hk])
/-- 'append(out, xs...)' in a round. -/
theorem wpListIn_app {F : Fence} {n : Nat} {P : Program} {w : World} {ops : Array Oper} {rest : List Oper} {o : Oper} {a : Act} {Q : Exit → Act → World → Prop} (hgd : o.guard = none) (s x : Operand) (t : TypeId)
    (ho : o.op = .call { callee := .builtin .append, args := #[s, x], argTypes := #[t, t] })
    (base : Nat) (e : TypeId) (i : TypeInfo) (z : Value) (size bytes : Nat) (ht : P.underlying t = some (.slice e)) (hi : P.info? e = some i) (hz : i.zero = some z)
    (hsize : i.size = size) (hby : i.bytes = bytes) (hzs : z.cells.size = size) (hsz : 0 < size)
    (v : Value) (k : Nat) (xs : List Value) (B : Nat) (A : Option Addr) (m c : Nat) (news : List Value) (hs : a.eval s = v) (hown : w.ownsRow base e size v k xs) (hx : a.eval x = .slice A m c) (hr : Rd w B size A m news) (h1 : ∀ u ∈ news, u.oneCell' = true)
    (hbytes : (k + m) * bytes ≤ 140737488355328) (h63 : k + m ≤ maxLen) (hbase : base ≤ w.heap.size)
    (h : ∀ v' w', w'.ownsRow base e size v' (k + m) (xs ++ news) → Upd (fun q => v.ownBlock = some q) w w' → RowAt w v v' → wpListIn F n P ops Q rest (a.put o.dst v') w') : wpListIn F n P ops Q (o :: rest) a w := by
  refine wpListIn_plain hgd fun K hK' => ?_
  obtain ⟨v', w', hrun, r1, r2, r3⟩ := app_run (P := P) w t o.type base e i z size bytes ht hi hz hsize hby hzs hsz v k xs B A m c news hown hr h1 hbytes h63 hbase
  unfold Oper.wpIn
  refine ⟨?_, ?_⟩
  · simp [Oper.about, ho, resolve, Target.leads, Sem.run_pure]
  · rw [Oper.semAt_plain F _ _ (by rw [ho]; intro c hc'; cases hc')]
    simp [execOp, ho, resolve, invoke, builtin, hs, hx, hrun, Result.andThen]
    exact hK' _ _ (h v' w' r1 r2 r3)
end Go.Proofs.Ytanieolnaiihmaa
