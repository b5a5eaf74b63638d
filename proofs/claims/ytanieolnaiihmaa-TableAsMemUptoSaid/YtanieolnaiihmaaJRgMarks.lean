/- A region that draws its order, in a round of a range over a function: walked by takes as outside. -/
import Derived.Test.YtanieolnaiihmaaRow
import Derived.OrdersHeld
import Derived.OrdersIn
import Derived.RangeFuncNested
import Derived.RangeFuncBound
import Derived.RangeFuncCalls
import Derived.RangeFuncLeaves
import Derived.OwnWalkIn
import Derived.Test.YtanieolnaiihmaaRgLaw
import Derived.Deep.RegionHeld
import Derived.Lib.Hide
namespace Go.Proofs.Ytanieolnaiihmaa
open Go.RowKit
/-- A piece ends as it should, and nowhere else. -/
def EndsIn (R : Act → World → Prop) : Exit → Act → World → Prop := fun e a w => e = .normal ∧ R a w
theorem EndsIn.out {R : Act → World → Prop} : ¬ LetsOut (EndsIn R) := fun ⟨_, _, h, _⟩ => by cases h
theorem EndsIn.panic {R : Act → World → Prop} (v : Act → Act) : ∀ c a w, EndsIn R (.panic c) (v a) w → EndsIn R (.panic c) a w := fun _ _ _ h => by cases h.1
theorem wpOpIn_of_wp {l n : Nat} {P : Program} {ops : Array Oper} {R : Act → World → Prop} {i : Nat} {K K' : Act → World → Prop} {a : Act} {w : World} (hnd : ∀ (i : Nat) (o : Oper), ops[i]? = some o → ∀ c, o.op ≠ .defer c)
    (h : wpOp P ops (EndsIn R) i K a w) (hK : ∀ a w, K a w → K' a w) : wpOpIn (Fence.wide.inRound l) n P ops (EndsIn R) i K' a w := by
  unfold wpOp at h
  unfold wpOpIn
  split
  · rename_i ho
    simp only [ho] at h
    exact hK _ _ h
  · rename_i o ho
    simp only [ho] at h
    split
    · rename_i hw
      simp only [hw, if_true] at h
      rcases h with h | h
      · refine ⟨fun _ _ => trivial, ?_⟩
        rw [Oper.semAt_eq _ _ _ (hnd i o ho)]
        unfold Oper.wp at h
        generalize (execOp a.eval o).run P w = r at *
        cases r with
        | ok x w' =>
          cases x <;> simp only [Oper.upon, Oper.uponIn] at h ⊢
          case value => exact hK _ _ h
          case skip => exact hK _ _ h
          case defer => exact hK _ _ h
          case enter f args =>
            refine ⟨fun h0 => by simp [Fence.wide] at h0, CallsIn.inRound l (callsIn_wide.2 (h.mono fun e w'' he => ?_))⟩
            cases e with
            | returned v => exact hK _ _ he
            | panicked c => exact he
            | outgrown => exact he
          case row row args =>
            refine ⟨fun h0 => by simp [Fence.wide] at h0, ?_⟩
            intro c cs _
            obtain ⟨v, w'', hr, hs⟩ := h c cs
            exact ⟨v, w'', hK _ _ hr, stepsIn_wide.2 hs⟩
        | halt x w' =>
          cases x <;> simp only [Oper.upon, Oper.uponIn] at h ⊢ <;> exact h
      · exact absurd h.2 EndsIn.out
    · rename_i hw
      simp only [hw] at h
      exact ⟨fun _ _ => trivial, hK _ _ h⟩
theorem wpAnyIn_of_wp {l n : Nat} {P : Program} {md : Region.Mode} {ops : Array Oper} {R : Act → World → Prop} (hnd : ∀ (i : Nat) (o : Oper), ops[i]? = some o → ∀ c, o.op ≠ .defer c) : ∀ (fuel : Nat) (listed : Array Bool) (a : Act) (w : World),
    wpAny P md ops (EndsIn R) fuel listed a w → wpAnyIn (Fence.wide.inRound l) n P md ops (EndsIn R) fuel listed a w
  | 0, _, _, _, h => h
  | fuel + 1, _, _, _, h => ⟨h.1, fun i hi => wpOpIn_of_wp hnd (h.2 i hi) (fun a' w' => wpAnyIn_of_wp hnd fuel _ a' w')⟩
theorem wpIn_region_held_round {l n : Nat} {P : Program} {id : Nat} {ops : Array Oper} {Q : Exit → Act → World → Prop} {a : Act} {w : World} {S : World → Prop} (R : Act → World → Prop) (hm : P.follows .mixedOrders = true)
    (hnd : ∀ (i : Nat) (o : Oper), ops[i]? = some o → ∀ c, o.op ≠ .defer c)
    (h : wpAnyH P .any ops (EndsIn R) S ops.size (Array.replicate ops.size false) a w.drew) (hk : ∀ a' w', R a' w' → Q .normal a' w') : (Code.region id ops true).wpIn (Fence.wide.inRound l) n P Q a w :=
  wpIn_mono (wpIn_region_any hm (wpAnyIn_of_wp hnd _ _ _ _ (wpAny_of_held _ _ _ _ h))) (fun e a' w' he => by obtain ⟨rfl, he⟩ := he; exact hk a' w' he)
end Go.Proofs.Ytanieolnaiihmaa
/- append at a step of a region that draws its order. -/
namespace Go.Proofs.Ytanieolnaiihmaa
open Go.RowKit
section
variable {P : Program}
/-- 'append(s, xs...)' runs. -/
theorem app_run (w : World) (t ty : TypeId) (base : Nat) (e : TypeId) (i : TypeInfo) (z : Value) (size bytes : Nat) (ht : P.underlying t = some (.slice e)) (hi : P.info? e = some i) (hz : i.zero = some z)
    (hsize : i.size = size) (hby : i.bytes = bytes) (hzs : z.cells.size = size) (hsz : 0 < size)
    (v : Value) (n : Nat) (xs : List Value) (B : Nat) (A : Option Addr) (m c : Nat) (news : List Value) (hown : w.ownsRow base e size v n xs) (hr : Rd w B size A m news) (h1 : ∀ u ∈ news, u.oneCell' = true)
    (hbytes : (n + m) * bytes ≤ 140737488355328) (h63 : n + m ≤ maxLen) (hbase : base ≤ w.heap.size) :
    ∃ v' w', (Builtin.append_ #[t, t] ty #[v, .slice A m c]).run P w = .ok v' w' ∧ w'.ownsRow base e size v' (n + m) (xs ++ news) ∧ Upd (fun k => v.ownBlock = some k) w w' ∧ RowAt w v v' := by
  have some_case : ∀ ad, A = some ad → (∀ j u, news[j]? = some u → w.cell? (ad.add j) = some u) → ∃ v' w', (Builtin.append_ #[t, t] ty #[v, .slice A m c]).run P w = .ok v' w' ∧ w'.ownsRow base e size v' (n + m) (xs ++ news) ∧ Upd (fun k => v.ownBlock = some k) w w' ∧ RowAt w v v' := by
    rintro ad rfl hc
    obtain ⟨v', w', hrun, h2, h3, _, h5⟩ := run_append_own_at (P := P) w base t ty e i z size bytes ht hi hz hsize hby hzs hsz v n xs hown ad m c news hr.len hc h1 h63 hbytes hbase
    exact ⟨v', w', hrun, h2, Upd.of_grown h3, h5.imp id fun h => ⟨_, Nat.le_refl _, h⟩⟩
  by_cases hm : m = 0
  · subst hm
    have hn : news = [] := List.eq_nil_of_length_eq_zero (by simpa using hr.len)
    subst hn
    cases A with
    | none => exact ⟨v, w, run_append_empty (P := P) w base t ty e i size c ht hi v n xs hown, by simpa using hown, Upd.refl _ _, RowAt.refl _ _⟩
    | some ad => exact some_case ad rfl (by simp)
  · obtain ⟨ad, hA, _, hc⟩ := hr.at_ (by omega)
    exact some_case ad hA hc
/-- .. at a step of a region that draws. -/
theorem step_app {ops : Array Oper} {o : Oper} {a : Act} {w : World} {K : Act → World → Prop} {Q : Exit → Act → World → Prop} {E : Prop} (hgd : o.guard = none) (s x : Operand) (t : TypeId)
    (ho : o.op = .call { callee := .builtin .append, args := #[s, x], argTypes := #[t, t] })
    (base : Nat) (e : TypeId) (i : TypeInfo) (z : Value) (size bytes : Nat) (ht : P.underlying t = some (.slice e)) (hi : P.info? e = some i) (hz : i.zero = some z)
    (hsize : i.size = size) (hby : i.bytes = bytes) (hzs : z.cells.size = size) (hsz : 0 < size)
    (v : Value) (n : Nat) (xs : List Value) (B : Nat) (A : Option Addr) (m c : Nat) (news : List Value) (hs : a.eval s = v) (hown : w.ownsRow base e size v n xs) (hx : a.eval x = .slice A m c) (hr : Rd w B size A m news) (h1 : ∀ u ∈ news, u.oneCell' = true)
    (hbytes : (n + m) * bytes ≤ 140737488355328) (h63 : n + m ≤ maxLen) (hbase : base ≤ w.heap.size)
    (h : ∀ v' w', w'.ownsRow base e size v' (n + m) (xs ++ news) → Upd (fun k => v.ownBlock = some k) w w' → RowAt w v v' → K (a.put o.dst v') w') :
    if Region.wanted o (yielded ops a.tmps) = true then Oper.wp P o a w K Q else E := by
  have hw : Region.wanted o (yielded ops a.tmps) = true := by simp [Region.wanted, hgd]
  rw [if_pos hw]
  obtain ⟨v', w', hrun, h2, h3, h5⟩ := app_run (P := P) w t o.type base e i z size bytes ht hi hz hsize hby hzs hsz v n xs B A m c news hown hr h1 hbytes h63 hbase
  unfold Oper.wp execOp
  simp only [ho, resolve, invoke, builtin, Sem.run_bind, Sem.run_pure, Result.andThen_ok, List.map_toArray, List.map_cons, List.map_nil, hs, hx, hrun]
  exact h v' w' h2 h3 h5
end
theorem own_empty (w : World) (e : TypeId) (size base : Nat) (hb : base ≤ w.heap.size) : (w.alloc (.cells #[] e)).ownsRow base e size (.slice (some ⟨w.heap.size, 0, none⟩) 0 0) 0 [] :=
  ⟨by simp, .inr ⟨_, 0, #[], rfl, hb, heap_alloc_new w _, Nat.le_refl _, Nat.zero_le _, by simp, by simp⟩⟩
theorem rd_block {w : World} {h size : Nat} {cs : Array Value} {t : TypeId} (hb : w.heap[h]? = some (.cells cs t (0, 0))) (hs : cs.size = size) : Rd w w.heap.size size (some ⟨h, 0, none⟩) 1 cs.toList :=
  ⟨by simpa using hs, fun _ => ⟨_, rfl, (Array.getElem?_eq_some_iff.1 hb).1, fun j u hu => by
    rw [add_zero_off, cell_of_row w h j _ _ _ hb]
    simpa using hu⟩⟩
end Go.Proofs.Ytanieolnaiihmaa
/- Ranges over functions inside another loop: the marks that they leave, and an append in a round. -/
namespace Go.Proofs.Ytanieolnaiihmaa
open Go.RowKit
/-- The mark of an outermost loop's deferred calls: there are none. -/
def markOf (D : Nat) : Deferred := { target := .collected D, args := #[] }
def NoCalls (W : World) (Ds : List Nat) : Prop := Ds.Nodup ∧ ∀ D ∈ Ds, W.heap[D]? = some (.deferred (some []))
theorem NoCalls.upd {S : Nat → Prop} {W W' : World} {Ds : List Nat} (h : NoCalls W Ds) (hu : Upd S W W') (hs : ∀ D ∈ Ds, ¬ S D) : NoCalls W' Ds :=
  ⟨h.1, fun D hD => (hu.block D (Array.getElem?_eq_some_iff.1 (h.2 D hD)).1 (hs D hD)).trans (h.2 D hD)⟩
theorem upd_putObj (W : World) (D : Nat) (o : Obj) : Upd (fun k => k = D) W (W.putObj D o) := ⟨rfl, rfl, rfl, by simp [World.putObj], fun k _ hk => World.putObj_heap_other hk⟩
theorem leave_marks {F : Fence} {n : Nat} {P : Program} {fn : Func} {tmps : Array Value} {R : Ending → World → Prop} : ∀ (Ds : List Nat) (W : World), NoCalls W Ds →
    (∀ W', Upd (fun k => k ∈ Ds) W W' → LeavesInM F n P fn tmps R [] .returning W') → LeavesInM F n P fn tmps R (Ds.map markOf) .returning W := by
  intro Ds
  induction Ds with
  | nil => intro W _ h; exact h W (Upd.refl _ _)
  | cons D Ds ih =>
    intro W hn h
    have hD := hn.2 D (by simp)
    obtain ⟨hd, hnd⟩ := List.nodup_cons.1 hn.1
    refine ⟨by simp, .inl ⟨D, _, rfl, run_takeDeferred hD, ?_⟩⟩
    have hu := upd_putObj W D (.deferred none)
    refine ih _ (NoCalls.upd (S := fun k => k = D) ⟨hnd, fun D' h' => hn.2 D' (by simp [h'])⟩ hu (fun D' h' e => hd (e ▸ h'))) fun W' hu' => h W' ?_
    exact (hu.mono fun k _ e => by rw [e]; simp).trans hu' (fun k _ hk => by simp [hk])
/-- 'append(out, xs...)' in a round. -/
theorem wpListIn_app {F : Fence} {n : Nat} {P : Program} {w : World} {ops : Array Oper} {rest : List Oper} {o : Oper} {a : Act} {Q : Exit → Act → World → Prop} (hgd : o.guard = none) (s x : Operand) (t : TypeId)
    (ho : o.op = .call { callee := .builtin .append, args := #[s, x], argTypes := #[t, t] })
    (base : Nat) (e : TypeId) (i : TypeInfo) (z : Value) (size bytes : Nat) (ht : P.underlying t = some (.slice e)) (hi : P.info? e = some i) (hz : i.zero = some z)
    (hsize : i.size = size) (hby : i.bytes = bytes) (hzs : z.cells.size = size) (hsz : 0 < size)
    (v : Value) (k : Nat) (xs : List Value) (B : Nat) (A : Option Addr) (m c : Nat) (news : List Value) (hs : a.eval s = v) (hown : w.ownsRow base e size v k xs) (hx : a.eval x = .slice A m c) (hr : Rd w B size A m news) (h1 : ∀ u ∈ news, u.oneCell' = true)
    (hbytes : (k + m) * bytes ≤ 140737488355328) (h63 : k + m ≤ maxLen) (hbase : base ≤ w.heap.size)
    (h : ∀ v' w', w'.ownsRow base e size v' (k + m) (xs ++ news) → Upd (fun q => v.ownBlock = some q) w w' → RowAt w v v' → wpListIn F n P ops Q rest (a.put o.dst v') w') : wpListIn F n P ops Q (o :: rest) a w := by
  refine wpListIn_plain hgd fun K hK' => ?_
  obtain ⟨v', w', hrun, r1, r2, r3⟩ := app_run (P := P) w t o.type base e i z size bytes ht hi hz hsize hby hzs hsz v k xs B A m c news hown hr h1 hbytes h63 hbase
  unfold Oper.wpIn
  refine ⟨?_, ?_⟩
  · simp [Oper.about, ho, resolve, Target.leads, Sem.run_pure]
  · rw [Oper.semAt_plain F _ _ (by rw [ho]; intro c hc'; cases hc')]
    simp [execOp, ho, resolve, invoke, builtin, hs, hx, hrun, Result.andThen]
    exact hK' _ _ (h v' w' r1 r2 r3)
end Go.Proofs.Ytanieolnaiihmaa
/- A region that draws its order: reads and quiet calls are taken first; a cell that the region's own last store turns may be read, as long as what leads to that store waits for the read. -/
namespace Go.Proofs.Ytanieolnaiihmaa
open Go.RowKit
section
variable {P : Program} {ops : Array Oper} {R : Act → World → Prop} {md : Region.Mode} {S1 S2 : World → Prop} {k : Nat}
/-- A piece ends as it should, and nowhere else. -/
def Goes (R : Act → World → Prop) : Exit → Act → World → Prop
  | .normal, a, w => R a w
  | _, _, _ => False
/-- What holds while not all has come up. -/
def Late (S1 S2 : World → Prop) (k : Nat) (listed : Array Bool) (w : World) : Prop := S1 w ∧ (listed.getD k true = false → S2 w)
/-- In every world that meets S the operation leaves v and does nothing else: by itself, or by a call that is quiet. -/
def Quiet (P : Program) (ops : Array Oper) (S : World → Prop) (o : Oper) (v : Value) (a : Act) : Prop :=
  Region.wanted o (yielded ops a.tmps) = true ∧ ∀ w, S w → (execOp a.eval o).run P w = .ok (.value v) w ∨ ∃ f args, (execOp a.eval o).run P w = .ok (.enter f args) w ∧ Calls P f args w fun e w' => e = .returned v ∧ w' = w
theorem Quiet.op {S : World → Prop} {i : Nat} {o : Oper} {v : Value} {a : Act} (hi : ops[i]? = some o) (hy : Quiet P ops S o v a) {K : Act → World → Prop} {w : World} (hS : S w) (h : K (a.put o.dst v) w) : wpOp P ops (Goes R) i K a w := by
  unfold Go.wpOp
  simp only [hi, hy.1, if_true]
  refine .inl ?_
  unfold Oper.wp
  rcases hy.2 w hS with h1 | ⟨f, args, h1, h2⟩
  · rw [h1]; exact h
  · rw [h1]
    exact h2.mono fun e w' he => by obtain ⟨rfl, rfl⟩ := he; exact h
theorem Quiet.same {S : World → Prop} {o : Oper} {v : Value} {a a' : Act} (hy : Quiet P ops S o v a) (he : execOp a'.eval o = execOp a.eval o) (hw : Region.wanted o (yielded ops a'.tmps) = Region.wanted o (yielded ops a.tmps)) : Quiet P ops S o v a' := by
  unfold Quiet at *
  rw [he, hw]
  exact hy
theorem wpOp_putQ {S : World → Prop} {j : Nat} {oi oj : Oper} {v : Value} (hj : ops[j]? = some oj) (hap : oi.apart ops oj = true) (hsi : ∀ cs b, oi.op ≠ .select cs b) (hsj : ∀ cs b, oj.op ≠ .select cs b)
    {K : Act → World → Prop} {a : Act} {w : World} (hy : Quiet P ops S oi v a) (h : wpOp P ops (Goes R) j K (a.put oi.dst v) w) : wpOp P ops (Goes R) j (fun a' w' => Quiet P ops S oi v a' ∧ K (a'.put oi.dst v) w') a w := by
  obtain ⟨h1, h2, h3⟩ := Oper.apart_spec hap
  have keep : ∀ (a : Act), Quiet P ops S oi v a → ∀ u, Quiet P ops S oi v (a.put oj.dst u) := fun a hy u => hy.same (execOp_put oi hsi a oj.dst u h3) (wanted_put oi a oj.dst u h3)
  have keepD : ∀ d, Quiet P ops S oi v { a with defers := d :: a.defers } := fun d => hy.same rfl rfl
  unfold wpOp at *
  simp only [hj] at *
  rw [wanted_put oj a oi.dst v h1] at h
  split
  · rename_i hw
    simp only [hw, if_true] at h
    rcases h with h | ⟨_, _, _, hlets⟩
    case inr => exact hlets.elim
    refine .inl ?_
    unfold Oper.wp at *
    rw [execOp_put oj hsj a oi.dst v h1] at h
    generalize (execOp a.eval oj).run P w = r at *
    cases r with
    | ok n w' =>
      cases n <;> simp only [Oper.upon] at h ⊢
      case value u => exact ⟨keep a hy u, by rw [← Act.put_comm a v u h2]; exact h⟩
      case skip => exact ⟨keep a hy _, by rw [← Act.put_comm a v undef h2]; exact h⟩
      case defer d =>
        refine ⟨keep _ (keepD d) _, ?_⟩
        rw [← Act.put_comm _ v undef h2, ← Act.put_defers]
        exact h
      case enter f args =>
        refine Calls.mono h fun e w'' he => ?_
        cases e with
        | returned u => exact ⟨keep a hy u, by rw [← Act.put_comm a v u h2]; exact he⟩
        | panicked c => exact he
        | outgrown => obtain ⟨_, _, h⟩ := he; exact h.elim
      case row row args => exact Rows.mono h fun u w'' he => ⟨keep a hy u, by rw [← Act.put_comm a v u h2]; exact he⟩
    | halt x w' =>
      cases x <;> simp only [Oper.upon] at h ⊢
      case panic u => exact h
  · rename_i hw
    simp only [hw] at h
    exact ⟨keep a hy _, by rw [← Act.put_comm a v undef h2]; exact h⟩
/-- Whatever order is picked from here on. -/
def wpLate (P : Program) (md : Region.Mode) (ops : Array Oper) (R : Act → World → Prop) (S1 S2 : World → Prop) (k : Nat) : Nat → Array Bool → Act → World → Prop
  | 0, listed, a, w => Region.ready md ops listed = [] ∧ R a w
  | fuel + 1, listed, a, w =>
    (Region.ready md ops listed = [] → R a w) ∧
    ∀ i ∈ Region.ready md ops listed, wpOp P ops (Goes R) i (fun a' w' => Late S1 S2 k (listed.setIfInBounds i true) w' ∧ wpLate P md ops R S1 S2 k fuel (listed.setIfInBounds i true) a' w') a w
theorem wpAny_of_late : ∀ (fuel : Nat) (listed : Array Bool) (a : Act) (w : World), wpLate P md ops R S1 S2 k fuel listed a w → wpAny P md ops (Goes R) fuel listed a w
  | 0, _, _, _, h => h
  | fuel + 1, _, _, _, h => ⟨h.1, fun i hi => wpOp_mono (fun a' w' h' => wpAny_of_late fuel _ a' w' h'.2) (h.2 i hi)⟩
theorem late_put {listed : Array Bool} {i : Nat} {w : World} (h : Late S1 S2 k listed w) : Late S1 S2 k (listed.setIfInBounds i true) w := by
  refine ⟨h.1, fun h0 => h.2 ?_⟩
  by_cases e : i = k
  · subst e
    rcases Nat.lt_or_ge i listed.size with h' | h'
    · simp [h'] at h0
    · simp [Array.getElem?_eq_none h'] at h0
  · rwa [getD_set_ne true e] at h0
/-- Taken first: either it reads S1 alone, or the operation k waits for it. -/
theorem late_first {i : Nat} {oi : Oper} {v : Value} {S : World → Prop} (hi : ops[i]? = some oi) (hsel : ∀ (j : Nat) (o : Oper) cs b, ops[j]? = some o → o.op ≠ .select cs b)
    (hik : i ≠ k) (hS : (∀ w, S1 w → S w) ∨ ((∀ w, S1 w → S2 w → S w) ∧ ∃ ok, ops[k]? = some ok ∧ ∃ e ∈ ok.after, Region.binds md e = true ∧ e.on = i)) :
    ∀ (fuel : Nat) (listed : Array Bool) (a : Act) (w : World),
      (∀ j oj, ops[j]? = some oj → j ≠ i → listed.getD j true = false → (∀ e ∈ oj.after, Region.binds md e = true → e.on ≠ i) → oi.apart ops oj = true) →
      i ∈ Region.ready md ops listed → Quiet P ops S oi v a → Late S1 S2 k listed w → ((∀ w, S1 w → S w) ∨ listed.getD k true = false) →
      wpLate P md ops R S1 S2 k fuel (listed.setIfInBounds i true) (a.put oi.dst v) w → wpLate P md ops R S1 S2 k (fuel + 1) listed a w := by
  have hSw : ∀ (listed : Array Bool) (w : World), Late S1 S2 k listed w → ((∀ w, S1 w → S w) ∨ listed.getD k true = false) → S w := fun listed w hL hk => by
    rcases hk with h | h
    · exact h w hL.1
    · rcases hS with h' | h'
      · exact h' w hL.1
      · exact h'.1 w hL.1 (hL.2 h)
  intro fuel
  induction fuel with
  | zero =>
    intro listed a w _ hr hy hL hk H
    refine ⟨fun h => (by rw [h] at hr; cases hr), fun j hj => ?_⟩
    by_cases hji : j = i
    · subst hji; exact hy.op hi (hSw _ _ hL hk) ⟨late_put hL, H⟩
    · have := ready_mono hj hji
      rw [H.1] at this
      cases this
  | succ fuel ih =>
    intro listed a w hfree hr hy hL hk H
    refine ⟨fun h => (by rw [h] at hr; cases hr), fun j hj => ?_⟩
    by_cases hji : j = i
    · subst hji; exact hy.op hi (hSw _ _ hL hk) ⟨late_put hL, H⟩
    · have h1 := H.2 j (ready_mono hj hji)
      obtain ⟨hjun, oj, hoj, hall⟩ := mem_ready.1 hj
      have hnot : ∀ e ∈ oj.after, Region.binds md e = true → e.on ≠ i := fun e he hb heq => by
        have h1 := hall e he hb
        have h0 := (mem_ready.1 hr).1
        rw [heq] at h1
        rcases Nat.lt_or_ge i listed.size with h' | h'
        · simp [h'] at h0 h1; rw [h0] at h1; cases h1
        · simp [Array.getElem?_eq_none h'] at h1
      have hk' : (∀ w, S1 w → S w) ∨ (listed.setIfInBounds j true).getD k true = false := by
        rcases hk with h | h
        · exact .inl h
        · rcases hS with h' | ⟨_, ok, hok, e, he, hb, heq⟩
          · exact .inl h'
          · refine .inr ?_
            have hjk : j ≠ k := fun e2 => by
              subst e2
              rw [hok] at hoj
              injection hoj with hoj
              subst hoj
              exact hnot e he hb heq
            rw [getD_set_ne true hjk]
            exact h
      have h2 := wpOp_putQ hoj (hfree j oj hoj hji hjun hnot) (fun cs b => hsel i oi cs b hi) (fun cs b => hsel j oj cs b hoj) hy h1
      have hfree' : ∀ k ok, ops[k]? = some ok → k ≠ i → (listed.setIfInBounds j true).getD k true = false →
          (∀ e ∈ ok.after, Region.binds md e = true → e.on ≠ i) → oi.apart ops ok = true := fun k ok hk hki hun hno => by
        refine hfree k ok hk hki ?_ hno
        by_cases hjk : j = k
        · subst hjk; exact hjun
        · rw [getD_set_ne true hjk] at hun; exact hun
      refine wpOp_mono (fun a' w' h3 => ?_) h2
      obtain ⟨hq, hl, hrest⟩ := h3
      rw [Array.setIfInBounds_comm _ _ (Ne.symm hji)] at hl hrest
      have hl' : Late S1 S2 k (listed.setIfInBounds j true) w' := by
        refine ⟨hl.1, fun h0 => hl.2 ?_⟩
        rw [getD_set_ne true hik]; exact h0
      exact ⟨hl', ih (listed.setIfInBounds j true) a' w' hfree' (ready_mono hr (Ne.symm hji)) hq hl' hk' hrest⟩
/-- The moves of a walk: an operation that reads S1 alone. -/
theorem late_take {i : Nat} {oi : Oper} {v : Value} {fuel : Nat} {listed : Array Bool} {a : Act} {w : World} (hi : ops[i]? = some oi)
    (hs : Region.noSelect ops = true) (hf : Region.free md ops listed i = true) (hr : (Region.ready md ops listed).contains i = true) (hik : i ≠ k)
    (hw : Region.wanted oi (yielded ops a.tmps) = true) (hy : ∀ w, S1 w → (execOp a.eval oi).run P w = .ok (.value v) w ∨ ∃ f args, (execOp a.eval oi).run P w = .ok (.enter f args) w ∧ Calls P f args w fun e w' => e = .returned v ∧ w' = w) (hL : Late S1 S2 k listed w)
    (h : Late S1 S2 k (listed.setIfInBounds i true) w → wpLate P md ops R S1 S2 k fuel (listed.setIfInBounds i true) (a.put oi.dst v) w) : wpLate P md ops R S1 S2 k (fuel + 1) listed a w :=
  late_first (S := S1) hi (Region.noSelect_spec hs) hik (.inl fun _ h => h) fuel listed a w (Region.free_spec hi hf) (by simpa using hr) ⟨hw, hy⟩ hL (.inl fun _ h => h) (h (late_put hL))
/-- An operation that reads S2, and that the operation k waits for. -/
theorem late_take2 {i : Nat} {oi ok : Oper} {v : Value} {fuel : Nat} {listed : Array Bool} {a : Act} {w : World} (hi : ops[i]? = some oi) (hok : ops[k]? = some ok)
    (hs : Region.noSelect ops = true) (hf : Region.free md ops listed i = true) (hr : (Region.ready md ops listed).contains i = true) (hik : i ≠ k)
    (hwait : ok.after.any (fun e => Region.binds md e && e.on == i) = true) (hk0 : listed.getD k true = false)
    (hw : Region.wanted oi (yielded ops a.tmps) = true) (hy : ∀ w, S1 w → S2 w → (execOp a.eval oi).run P w = .ok (.value v) w) (hL : Late S1 S2 k listed w)
    (h : Late S1 S2 k (listed.setIfInBounds i true) w → wpLate P md ops R S1 S2 k fuel (listed.setIfInBounds i true) (a.put oi.dst v) w) : wpLate P md ops R S1 S2 k (fuel + 1) listed a w := by
  refine late_first (S := fun w => S1 w ∧ S2 w) hi (Region.noSelect_spec hs) hik (.inr ⟨fun _ h1 h2 => ⟨h1, h2⟩, ok, hok, ?_⟩) fuel listed a w (Region.free_spec hi hf) (by simpa using hr) ⟨hw, fun w h => .inl (hy w h.1 h.2)⟩ hL (.inr hk0) (h (late_put hL))
  obtain ⟨e, he, h2⟩ := Array.any_eq_true'.1 hwait
  simp only [Bool.and_eq_true, beq_iff_eq] at h2
  exact ⟨e, he, h2.1, h2.2⟩
def AllLate (P : Program) (md : Region.Mode) (ops : Array Oper) (R : Act → World → Prop) (S1 S2 : World → Prop) (k : Nat) (fuel : Nat) (listed : Array Bool) (a : Act) (w : World) (rs : List Nat) : Prop :=
  ∀ i ∈ rs, wpOp P ops (Goes R) i (fun a' w' => Late S1 S2 k (listed.setIfInBounds i true) w' ∧ wpLate P md ops R S1 S2 k fuel (listed.setIfInBounds i true) a' w') a w
theorem AllLate.nil {fuel : Nat} {listed : Array Bool} {a : Act} {w : World} : AllLate P md ops R S1 S2 k fuel listed a w [] := fun _ h => by cases h
theorem AllLate.cons {fuel : Nat} {listed : Array Bool} {a : Act} {w : World} {i : Nat} {o : Oper} {rs : List Nat} (ho : ops[i]? = some o)
    (h : ∀ K' : Act → World → Prop, Hid (∀ a w, Late S1 S2 k (listed.setIfInBounds i true) w → (Late S1 S2 k (listed.setIfInBounds i true) w → wpLate P md ops R S1 S2 k fuel (listed.setIfInBounds i true) a w) → K' a w) → if Region.wanted o (yielded ops a.tmps) = true then Oper.wp P o a w K' (Goes R) else K' (a.put o.dst undef) w)
    (hs : AllLate P md ops R S1 S2 k fuel listed a w rs) : AllLate P md ops R S1 S2 k fuel listed a w (i :: rs) := fun j hj => by
  rcases List.mem_cons.1 hj with rfl | hj
  · exact wpOp_step ho (fun K' hK => h K' (Lib.hid fun a w hS hW => hK a w ⟨hS, hW hS⟩))
  · exact hs j hj
theorem late_ready {rs : List Nat} {fuel : Nat} {listed : Array Bool} {a : Act} {w : World} (hr : Region.ready md ops listed = rs) (hne : rs ≠ [])
    (h : AllLate P md ops R S1 S2 k fuel listed a w rs) : wpLate P md ops R S1 S2 k (fuel + 1) listed a w := ⟨fun h0 => absurd (hr ▸ h0) hne, hr ▸ h⟩
theorem late_done {listed : Array Bool} {a : Act} {w : World} (hr : Region.ready md ops listed = []) (h : R a w) : ∀ fuel, wpLate P md ops R S1 S2 k fuel listed a w
  | 0 => ⟨hr, h⟩
  | _ + 1 => ⟨fun _ => h, by rw [hr]; simp⟩
/-- The beginning. -/
theorem wpIn_region_late {n : Nat} {id : Nat} {Q : Exit → Act → World → Prop} {a : Act} {w : World} (R : Act → World → Prop) (S1 S2 : World → Prop) (k : Nat) (hm : P.follows .mixedOrders = true)
    (hL : Late S1 S2 k (Array.replicate ops.size false) w.drew) (h : Late S1 S2 k (Array.replicate ops.size false) w.drew → wpLate P .any ops R S1 S2 k ops.size (Array.replicate ops.size false) a w.drew) (hk : ∀ a' w', R a' w' → Q .normal a' w') : (Code.region id ops true).wpIn Fence.wide n P Q a w := by
  refine wpIn_wide.2 (Code.wp_mono (fun e a' w' he => ?_) (wp_region_any hm (wpAny_of_late _ _ _ _ (h hL))))
  cases e with
  | normal => exact hk _ _ he
  | _ => exact he.elim
end
end Go.Proofs.Ytanieolnaiihmaa
