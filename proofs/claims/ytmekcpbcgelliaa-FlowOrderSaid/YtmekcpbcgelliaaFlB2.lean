/- Flows: rounds of relaxing in a network: the reference's Round and dists, in plain words. -/
import Derived.Test.YtmekcpbcgelliaaFlB1
namespace Go.Proofs.Ytmekcpbcgelliaa
/-- What can be relaxed in a network with a flow. -/
def rlxOf (N : Nw) (room : List Int) : Rlx := ⟨2 * N.m, fun j => decide (0 < gi room j), rfr N, rto N, rc N, FAR⟩
section
variable {N : Nw} {room : List Int} {s nodes : Nat} {π : Nat → Int}
theorem rlxOf_ends (hN : InN N nodes) : (rlxOf N room).ends nodes := fun j hj => by
  have hj' : j < 2 * N.m := hj
  have := hN (j / 2) (by omega)
  show rfr N j < nodes ∧ rto N j < nodes
  unfold rfr rto
  split <;> omega
theorem rlxOf_floor (hp : RFeas N true room π) (M : Int) : (rlxOf N room).floor nodes (fun v => π v - M) := fun j hj hon => by
  have h := hp j hj (of_decide_eq_true hon)
  unfold cst at h
  rw [if_pos rfl] at h
  show π (rto N j) - M ≤ π (rfr N j) - M + rc N j
  omega
theorem sm_ge {n : Nat} {g : Nat → Int} (h0 : ∀ i, i < n → 0 ≤ g i) {v : Nat} (hv : v < n) : g v ≤ sm n g := by
  have h1 : sm n (fun i => if i = v then g v else 0) ≤ sm n g := sm_le fun i hi => by
    by_cases e : i = v
    · rw [if_pos e, e]; exact Int.le_refl _
    · rw [if_neg e]; exact h0 i hi
  rwa [sm_one v hv] at h1
/-- Behind 'nodes' rounds nothing changes. -/
theorem rlxOf_done (hN : InN N nodes) (hp : RFeas N true room π) (h0 : ∀ v, v < nodes → 0 ≤ π v) {d : List Int} (hd : d.length = nodes) (hd0 : ∀ v, v < nodes → 0 ≤ gi d v) : (rlxOf N room).fix ((rlxOf N room).rnd d nodes) :=
  rlx_done (rlxOf_ends hN) (rlxOf_floor hp (sm nodes π)) hd fun v hv => by
    have := sm_ge h0 hv
    have := hd0 v hv
    omega
/-- How low it can be behind so many steps. -/
theorem rlx_low {X : Rlx} {n : Nat} (hX : X.ends n) {d : List Int} (hd : d.length = n) {j : Nat} (hj : j < X.J) (hc : -1000 ≤ X.c j) {q : Nat} (h : ∀ x, x < n → -1000 * (q : Int) ≤ gi d x) : ∀ x, x < n → -1000 * ((q + 1 : Nat) : Int) ≤ gi (X.step d j) x := by
  intro x hx
  rw [rlx_gi hX hd hj]
  split
  · have := h _ (hX j hj).1
    omega
  · have := h x hx
    omega
/-- The search as dists does it: nothing waits, nothing is said of what was looked at. -/
def DInv (N : Nw) (room : List Int) (s nodes : Nat) (π : Nat → Int) (by_ di : List Int) : Prop := WInv N true room s nodes π (fun _ _ => False) ⟨by_, di, List.replicate nodes 0, []⟩
theorem gi_zeros (n v : Nat) (h : v < n) : gi (List.replicate n 0) v = 0 := by rw [gi_get (by simpa using h)]; simp
theorem DInv.of {done : Nat → Nat → Prop} {by_ di wa : List Int} {todo : List Nat} (h : WInv N true room s nodes π done ⟨by_, di, wa, todo⟩) : DInv N room s nodes π by_ di :=
  ⟨h.lb, h.ld, by simp, h.ds, h.bs, h.pot, h.unm, h.par, h.pth, fun v hv => .inl (gi_zeros _ _ hv), fun v hv _ => by
    show gi (List.replicate nodes 0) v = 1 ↔ v ∈ []
    rw [gi_zeros _ _ hv]; simp, fun v hv => (by cases hv), List.nodup_nil, h.up, fun _ _ _ _ _ h => h.elim⟩
theorem DInv.start (hf : WFix N true room s nodes π) : DInv N room s nodes π (List.replicate nodes (-1)) ((List.replicate nodes FAR).set s 0) := DInv.of (way_start hf)
theorem DInv.step (hf : WFix N true room s nodes π) {by_ di : List Int} (h : DInv N room s nodes π by_ di) {j : Nat} (hj : j < 2 * N.m) (hc : (rlxOf N room).can di j) :
    DInv N room s nodes π (by_.set (rto N j) j) (di.set (rto N j) (gi di (rfr N j) + rc N j)) := by
  obtain ⟨c1, c2, c3⟩ := hc
  have hr : 0 < gi room j := of_decide_eq_true c1
  have c2 : gi di (rfr N j) < FAR := c2
  have c3 : gi di (rfr N j) + rc N j < gi di (rto N j) := c3
  have ecst : cst N true j = rc N j := by unfold cst; rw [if_pos rfl]
  obtain ⟨h1, h2⟩ := hf.rto hj
  have hfe := hf.feas j hj hr
  rw [ecst] at hfe
  have hpo := h.pot _ h2 c2
  have hpo : π (rfr N j) ≤ gi di (rfr N j) := hpo
  have hns : ¬ rto N j = s := fun e => by
    have hds : gi di s = 0 := h.ds
    rw [e] at c3 hfe
    rw [hf.ps] at hfe
    omega
  have zl : (List.replicate nodes (0 : Int)).length = nodes := by simp
  have hw : ∀ x, x < nodes → gi ((List.replicate nodes (0 : Int)).set (rto N j) 1) x = if x = rto N j then 1 else 0 := fun x hx => by
    rw [gi_set (by rw [zl]; exact h1)]
    split
    · rfl
    · exact gi_zeros _ _ hx
  obtain ⟨h3, _⟩ := way_take hf h (v := rfr N j) h2 c2 (by simp) hj rfl (by omega) (by rw [ecst]; show ¬ gi di (rto N j) ≤ gi di (rfr N j) + rc N j; omega) hns ((List.replicate nodes 0).set (rto N j) 1) [rto N j] (by simp)
    (fun x hx => by
      rw [hw x hx, List.mem_singleton]
      by_cases e : x = rto N j <;> simp [e]) (fun x => by simp) (by simp)
  have h4 := DInv.of h3
  rw [ecst] at h4
  exact h4
theorem DInv.end_ (hf : WFix N true room s nodes π) {by_ di : List Int} (h : DInv N room s nodes π by_ di) (hx : (rlxOf N room).fix di) : WEnd N true room s nodes ⟨by_, di, List.replicate nodes 0, []⟩ :=
  way_end hf ⟨h.lb, h.ld, h.lw, h.ds, h.bs, h.pot, h.unm, h.par, h.pth, h.wa01, h.wat, h.tn, h.nd, h.up, fun u j hu hm _ _ hj hju hr => by
    refine .inr ?_
    have hn := hx j hj
    apply Classical.byContradiction
    intro h'
    refine hn ⟨decide_eq_true hr, ?_, ?_⟩
    · show gi di (rfr N j) < FAR
      rw [hju]; exact hm
    · show gi di (rfr N j) + rc N j < gi di (rto N j)
      have e : cst N true j = rc N j := by unfold cst; rw [if_pos rfl]
      rw [e] at h'
      rw [hju]
      have h'' : ¬ gi di (rto N j) ≤ gi di u + rc N j := h'
      omega⟩ rfl
/-- What was paid is what the way costs. -/
theorem paid_way (most : Int) : ∀ (L : List Nat) (r : List Int × Int), (L.foldl (pushStep N most) r).2 = r.2 + most * (L.map (rc N)).sum := by
  intro L
  induction L with
  | nil => intro r; simp
  | cons j L ih =>
    intro r
    rw [List.foldl_cons, ih, List.map_cons, List.sum_cons, Int.mul_add]
    unfold pushStep
    simp only
    omega
theorem way_cost {st : WSt} (hf : WFix N true room s nodes π) (h : WEnd N true room s nodes st) {v : Nat} {L : List Nat} (hp : Pth N (gi st.by_) s v L) : v < nodes → gi st.di v < FAR → (L.map (rc N)).sum = gi st.di v := by
  induction hp with
  | nil => intro _ _; rw [h.ds]; rfl
  | cons j B h1 h2 h3 h4 ih =>
    intro hv hm
    obtain ⟨j', p1, p2, p3, p4, p5, p6⟩ := h.par _ hv h1 hm
    have : j' = j := by omega
    subst this
    have e : cst N true j' = rc N j' := by unfold cst; rw [if_pos rfl]
    rw [e] at p6
    rw [List.map_cons, List.sum_cons, ih (hf.rto h3).2 p5]
    omega
end
end Go.Proofs.Ytmekcpbcgelliaa
