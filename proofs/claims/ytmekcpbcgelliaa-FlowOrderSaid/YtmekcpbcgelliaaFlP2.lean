/- Flows: the search for a cheapest way, in plain words. -/
import Derived.Test.YtmekcpbcgelliaaFlP1
import Derived.Test.YtmekcpbcgelliaaMtLevP
namespace Go.Proofs.Ytmekcpbcgelliaa
/-! ### The arcs as they are gone -/
def flip (j : Nat) : Nat := if j % 2 = 0 then j + 1 else j - 1
def rto (N : Nw) (j : Nat) : Nat := if j % 2 = 0 then N.to (j / 2) else N.fr (j / 2)
def rfr (N : Nw) (j : Nat) : Nat := if j % 2 = 0 then N.fr (j / 2) else N.to (j / 2)
def rc (N : Nw) (j : Nat) : Int := if j % 2 = 0 then N.cost (j / 2) else - N.cost (j / 2)
theorem flip_lt {m j : Nat} (h : j < 2 * m) : flip j < 2 * m := by unfold flip; split <;> omega
theorem flip_ne (j : Nat) : flip j ≠ j := by unfold flip; split <;> omega
theorem flip_flip (j : Nat) : flip (flip j) = j := by
  unfold flip
  split
  · rw [if_neg (by omega)]; omega
  · rw [if_pos (by omega)]; omega
theorem rto_flip (N : Nw) (j : Nat) : rto N (flip j) = rfr N j := by
  unfold rto rfr flip
  by_cases h : j % 2 = 0
  · simp only [if_pos h, if_neg (show ¬ (j + 1) % 2 = 0 by omega), show (j + 1) / 2 = j / 2 by omega]
  · simp only [if_neg h, if_pos (show (j - 1) % 2 = 0 by omega), show (j - 1) / 2 = j / 2 by omega]
theorem rfr_flip (N : Nw) (j : Nat) : rfr N (flip j) = rto N j := by
  have := rto_flip N (flip j)
  rw [flip_flip] at this
  exact this.symm
theorem rc_flip (N : Nw) (j : Nat) : rc N (flip j) = - rc N j := by
  unfold rc flip
  by_cases h : j % 2 = 0
  · simp only [if_pos h, if_neg (show ¬ (j + 1) % 2 = 0 by omega), show (j + 1) / 2 = j / 2 by omega]
  · simp only [if_neg h, if_pos (show (j - 1) % 2 = 0 by omega), show (j - 1) / 2 = j / 2 by omega]; omega
/-- With costs, or without. -/
def cst (N : Nw) (costs : Bool) (j : Nat) : Int := if costs = true then rc N j else 0
theorem cst_flip (N : Nw) (costs : Bool) (j : Nat) : cst N costs (flip j) = - cst N costs j := by
  unfold cst
  split
  · exact rc_flip N j
  · rfl
def FAR : Int := 1099511627776
structure WSt where
  by_ : List Int
  di : List Int
  wa : List Int
  todo : List Nat
def wayStep (N : Nw) (costs : Bool) (room : List Int) (s v j : Nat) (st : WSt) : WSt :=
  if gi room j = 0 ∨ gi st.di (rto N j) ≤ gi st.di v + cst N costs j ∨ rto N j = s then st
  else if gi st.wa (rto N j) = 0 then ⟨st.by_.set (rto N j) j, st.di.set (rto N j) (gi st.di v + cst N costs j), st.wa.set (rto N j) 1, st.todo ++ [rto N j]⟩
  else ⟨st.by_.set (rto N j) j, st.di.set (rto N j) (gi st.di v + cst N costs j), st.wa, st.todo⟩
def wayL (N : Nw) (costs : Bool) (room : List Int) (s v : Nat) : List Nat → WSt → WSt
  | [], st => st
  | j :: l, st => wayL N costs room s v l (wayStep N costs room s v j st)
def wayQ (N : Nw) (costs : Bool) (room : List Int) (s : Nat) (out : Nat → List Nat) : Nat → WSt → Option WSt
  | 0, st => if st.todo = [] then some st else none
  | f + 1, st => match st.todo with
    | [] => some st
    | v :: T => wayQ N costs room s out f (wayL N costs room s v (out v) { st with todo := T, wa := st.wa.set v 0 })
/-- Which way v was met. -/
inductive Pth (N : Nw) (by_ : Nat → Int) (s : Nat) : Nat → List Nat → Prop
  | nil : Pth N by_ s s []
  | cons (j : Nat) (L : List Nat) : rto N j ≠ s → by_ (rto N j) = (j : Int) → j < 2 * N.m → Pth N by_ s (rfr N j) L → Pth N by_ s (rto N j) (j :: L)
/-- No arc with room leads down the potential. -/
def RFeas (N : Nw) (costs : Bool) (room : List Int) (π : Nat → Int) : Prop := ∀ j, j < 2 * N.m → 0 < gi room j → 0 ≤ cst N costs j + π (rfr N j) - π (rto N j)
def metc (di : List Int) (nodes : Nat) : Nat := ((List.range nodes).filter (fun v => decide (gi di v < FAR))).length
theorem metc_le (di : List Int) (nodes : Nat) : metc di nodes ≤ nodes := by
  have := List.length_filter_le (fun v => decide (gi di v < FAR)) (List.range nodes)
  rw [List.length_range] at this
  exact this
section
variable {N : Nw} {costs : Bool} {room : List Int} {s nodes : Nat} {π : Nat → Int} {out : Nat → List Nat}
/-- What is fixed while a way is sought. -/
structure WFix (N : Nw) (costs : Bool) (room : List Int) (s nodes : Nat) (π : Nat → Int) : Prop where
  sn : s < nodes
  nn : nodes ≤ 200
  ends : InN N nodes
  feas : RFeas N costs room π
  ps : π s = 0
  p0 : ∀ v, v < nodes → 0 ≤ π v
  room0 : ∀ j, j < 2 * N.m → 0 ≤ gi room j
  c1 : ∀ i, i < N.m → 0 ≤ N.cost i ∧ N.cost i ≤ 1000
theorem WFix.cle (h : WFix N costs room s nodes π) {j : Nat} (hj : j < 2 * N.m) : -1000 ≤ cst N costs j ∧ cst N costs j ≤ 1000 := by
  have := h.c1 (j / 2) (by omega)
  unfold cst rc
  split
  · split <;> omega
  · omega
theorem WFix.rto (h : WFix N costs room s nodes π) {j : Nat} (hj : j < 2 * N.m) : rto N j < nodes ∧ rfr N j < nodes := by
  have := h.ends (j / 2) (by omega)
  unfold Proofs.Ytmekcpbcgelliaa.rto Proofs.Ytmekcpbcgelliaa.rfr
  split <;> omega
/-- The search, as it stands. 'done': which arcs of which nodes that don't wait were looked at. -/
structure WInv (N : Nw) (costs : Bool) (room : List Int) (s nodes : Nat) (π : Nat → Int) (done : Nat → Nat → Prop) (st : WSt) : Prop where
  lb : st.by_.length = nodes
  ld : st.di.length = nodes
  lw : st.wa.length = nodes
  ds : gi st.di s = 0
  bs : gi st.by_ s = -1
  pot : ∀ v, v < nodes → gi st.di v < FAR → π v ≤ gi st.di v
  unm : ∀ v, v < nodes → ¬ gi st.di v < FAR → gi st.di v = FAR ∧ gi st.by_ v = -1
  par : ∀ v, v < nodes → v ≠ s → gi st.di v < FAR → ∃ j, j < 2 * N.m ∧ gi st.by_ v = (j : Int) ∧ rto N j = v ∧ 0 < gi room j ∧ gi st.di (rfr N j) < FAR ∧ gi st.di (rfr N j) + cst N costs j ≤ gi st.di v
  pth : ∀ v, v < nodes → gi st.di v < FAR → ∃ L, Pth N (gi st.by_) s v L
  wa01 : ∀ v, v < nodes → gi st.wa v = 0 ∨ gi st.wa v = 1
  wat : ∀ v, v < nodes → v ≠ s → (gi st.wa v = 1 ↔ v ∈ st.todo)
  tn : ∀ v, v ∈ st.todo → v < nodes ∧ gi st.di v < FAR
  nd : st.todo.Nodup
  up : ∀ v, v < nodes → gi st.di v < FAR → gi st.di v ≤ 1000 * ((metc st.di nodes : Int) - 1)
  clo : ∀ u j, u < nodes → gi st.di u < FAR → u ∉ st.todo → done u j → j < 2 * N.m → rfr N j = u → 0 < gi room j → rto N j = s ∨ gi st.di (rto N j) ≤ gi st.di u + cst N costs j
theorem WInv.lo {done : Nat → Nat → Prop} {st : WSt} (h : WInv N costs room s nodes π done st) (hf : WFix N costs room s nodes π) {v : Nat} (hv : v < nodes) : 0 ≤ gi st.di v ∧ gi st.di v ≤ FAR := by
  by_cases e : gi st.di v < FAR
  · have := h.pot v hv e
    have := hf.p0 v hv
    omega
  · have := (h.unm v hv e).1
    rw [this]
    exact ⟨by decide, Int.le_refl _⟩
/-- An arc is taken. -/
theorem way_take (hf : WFix N costs room s nodes π) {done : Nat → Nat → Prop} {st : WSt} (h : WInv N costs room s nodes π done st) {v j : Nat} (hv : v < nodes) (hmv : gi st.di v < FAR) (hvt : v ∉ st.todo) (hj : j < 2 * N.m) (hjv : rfr N j = v)
    (hr : ¬ gi room j = 0) (hd : ¬ gi st.di (rto N j) ≤ gi st.di v + cst N costs j) (hs : ¬ rto N j = s) (wa' : List Int) (todo' : List Nat) (hlw : wa'.length = nodes) (hwa : ∀ x, x < nodes → (gi wa' x = 0 ∨ gi wa' x = 1) ∧ (x ≠ s → (gi wa' x = 1 ↔ x ∈ todo')))
    (htd : ∀ x, x ∈ todo' ↔ x ∈ st.todo ∨ x = rto N j) (hnd : todo'.Nodup) :
    WInv N costs room s nodes π (fun u i => done u i ∨ (u = v ∧ i = j)) ⟨st.by_.set (rto N j) j, st.di.set (rto N j) (gi st.di v + cst N costs j), wa', todo'⟩ ∧
      sm nodes (gi (st.di.set (rto N j) (gi st.di v + cst N costs j))) < sm nodes (gi st.di) := by
  have hrt := (hf.rto hj).1
  have hc := hf.cle hj
  have hroom : 0 < gi room j := by have := hf.room0 j hj; omega
  have hfe := hf.feas j hj hroom
  rw [hjv] at hfe
  have hpv := h.pot v hv hmv
  obtain ⟨b, hb⟩ : ∃ b, rto N j = b := ⟨_, rfl⟩
  obtain ⟨d, hdd⟩ : ∃ d, gi st.di v + cst N costs j = d := ⟨_, rfl⟩
  rw [hb] at hrt hd hs hfe htd ⊢
  rw [hdd] at hd ⊢
  have hvb : v ≠ b := by rintro rfl; omega
  have dv : ∀ x, gi (st.di.set b d) x = if x = b then d else gi st.di x := fun x => gi_set (by rw [h.ld]; exact hrt) _ _
  have bv : ∀ x, gi (st.by_.set b (j : Int)) x = if x = b then (j : Int) else gi st.by_ x := fun x => gi_set (by rw [h.lb]; exact hrt) _ _
  have hup := h.up v hv hmv
  have hmc := metc_le st.di nodes
  have hnn := hf.nn
  have hlob := h.lo hf hrt
  have hdF : d < FAR := by unfold FAR at hmv ⊢; omega
  have hcount : metc (st.di.set b d) nodes = if gi st.di b < FAR then metc st.di nodes else metc st.di nodes + 1 := by
    by_cases e : gi st.di b < FAR
    · rw [if_pos e]
      unfold metc
      congr 1
      refine List.filter_congr fun x _ => ?_
      rw [dv]
      by_cases e2 : x = b
      · rw [if_pos e2, e2]; simp [e, hdF]
      · rw [if_neg e2]
    · rw [if_neg e]
      unfold metc
      refine count_one _ _ b (by simpa using e) (by rw [dv, if_pos rfl]; simpa using hdF) (fun x hx => by rw [dv, if_neg hx]) _ List.nodup_range (by simpa using hrt)
  have hcge : metc st.di nodes ≤ metc (st.di.set b d) nodes := by rw [hcount]; split <;> omega
  have met' : ∀ x, gi st.di x < FAR → gi (st.di.set b d) x < FAR := fun x hx => by rw [dv]; split <;> assumption
  -- the chain of v doesn't pass b
  have keepLow : ∀ x L, Pth N (gi st.by_) s x L → x < nodes → gi st.di x < FAR → gi st.di x - π x < gi st.di b - π b → Pth N (gi (st.by_.set b (j : Int))) s x L := by
    intro x L hp
    induction hp with
    | nil => intro _ _ _; exact .nil
    | cons i L hi1 hi2 hi3 hi4 ih =>
      intro h1 h2 h3
      have hxb : rto N i ≠ b := by intro e; rw [e] at h3; omega
      obtain ⟨i', p1, p2, p3, p4, p5, p6⟩ := h.par (rto N i) h1 hi1 h2
      have : i' = i := by omega
      subst this
      have hfe2 := hf.feas i' hi3 p4
      refine .cons i' L hi1 (by rw [bv, if_neg hxb]; exact hi2) hi3 (ih (hf.rto hi3).2 p5 (by omega))
  obtain ⟨Lv, hLv⟩ := h.pth v hv hmv
  have hnew : Pth N (gi (st.by_.set b (j : Int))) s b (j :: Lv) := by
    have := keepLow v Lv hLv hv hmv (by omega)
    have e : Pth N (gi (st.by_.set b (j : Int))) s (rto N j) (j :: Lv) := .cons j Lv (by rw [hb]; exact hs) (by rw [hb, bv, if_pos rfl]) hj (by rw [hjv]; exact this)
    rwa [hb] at e
  refine ⟨⟨by show (st.by_.set b (j : Int)).length = nodes; rw [List.length_set]; exact h.lb, by show (st.di.set b d).length = nodes; rw [List.length_set]; exact h.ld, hlw, ?_, ?_, ?_, ?_, ?_, ?_, fun x hx => (hwa x hx).1, fun x hx => (hwa x hx).2, ?_, hnd, ?_, ?_⟩, ?_⟩
  · show gi (st.di.set b d) s = 0
    rw [dv, if_neg (fun e => hs e.symm)]; exact h.ds
  · show gi (st.by_.set b (j : Int)) s = -1
    rw [bv, if_neg (fun e => hs e.symm)]; exact h.bs
  · intro x hx hm
    show π x ≤ gi (st.di.set b d) x
    have hm' : gi (st.di.set b d) x < FAR := hm
    rw [dv] at hm' ⊢
    by_cases e : x = b
    · rw [if_pos e, e]; omega
    · rw [if_neg e] at hm' ⊢
      exact h.pot x hx hm'
  · intro x hx hm
    show gi (st.di.set b d) x = FAR ∧ gi (st.by_.set b (j : Int)) x = -1
    have hm' : ¬ gi (st.di.set b d) x < FAR := hm
    rw [dv] at hm' ⊢
    rw [bv]
    by_cases e : x = b
    · rw [if_pos e] at hm'; exact absurd hdF hm'
    · rw [if_neg e] at hm' ⊢
      rw [if_neg e]
      exact h.unm x hx hm'
  · intro x hx hxs hm
    show ∃ i, i < 2 * N.m ∧ gi (st.by_.set b (j : Int)) x = (i : Int) ∧ rto N i = x ∧ 0 < gi room i ∧ gi (st.di.set b d) (rfr N i) < FAR ∧ gi (st.di.set b d) (rfr N i) + cst N costs i ≤ gi (st.di.set b d) x
    have hm' : gi (st.di.set b d) x < FAR := hm
    by_cases e : x = b
    · subst e
      refine ⟨j, hj, by rw [bv, if_pos rfl], hb, hroom, by rw [hjv]; exact met' v hmv, ?_⟩
      rw [hjv, dv, dv, if_pos rfl, if_neg hvb]
      omega
    · rw [dv, if_neg e] at hm'
      obtain ⟨i, p1, p2, p3, p4, p5, p6⟩ := h.par x hx hxs hm'
      refine ⟨i, p1, by rw [bv, if_neg e]; exact p2, p3, p4, met' _ p5, ?_⟩
      rw [dv x, if_neg e, dv]
      split
      · rename_i e2
        rw [e2] at p6
        omega
      · exact p6
  · intro x hx hm
    show ∃ L, Pth N (gi (st.by_.set b (j : Int))) s x L
    have key : ∀ x L, Pth N (gi st.by_) s x L → ∃ L', Pth N (gi (st.by_.set b (j : Int))) s x L' := by
      intro x L hp
      induction hp with
      | nil => exact ⟨_, .nil⟩
      | cons i L hi1 hi2 hi3 hi4 ih =>
        by_cases e : rto N i = b
        · rw [e]; exact ⟨_, hnew⟩
        · obtain ⟨L', hL'⟩ := ih
          exact ⟨_, .cons i L' hi1 (by rw [bv, if_neg e]; exact hi2) hi3 hL'⟩
    by_cases e : x = b
    · rw [e]; exact ⟨_, hnew⟩
    · have hm' : gi (st.di.set b d) x < FAR := hm
      rw [dv, if_neg e] at hm'
      obtain ⟨L, hL⟩ := h.pth x hx hm'
      exact key x L hL
  · intro x hx
    show x < nodes ∧ gi (st.di.set b d) x < FAR
    rcases (htd x).1 hx with hx | hx
    · exact ⟨(h.tn x hx).1, met' x (h.tn x hx).2⟩
    · rw [hx, dv, if_pos rfl]; exact ⟨hrt, hdF⟩
  · intro x hx hm
    show gi (st.di.set b d) x ≤ 1000 * ((metc (st.di.set b d) nodes : Int) - 1)
    have hm' : gi (st.di.set b d) x < FAR := hm
    rw [dv] at hm' ⊢
    by_cases e : x = b
    · rw [if_pos e, hcount]
      by_cases e2 : gi st.di b < FAR
      · rw [if_pos e2]
        have := h.up b hrt e2
        omega
      · rw [if_neg e2]; omega
    · rw [if_neg e] at hm' ⊢
      have := h.up x hx hm'
      omega
  · intro u i hu hm hut hdn hi hiu hri
    show rto N i = s ∨ gi (st.di.set b d) (rto N i) ≤ gi (st.di.set b d) u + cst N costs i
    have hm' : gi (st.di.set b d) u < FAR := hm
    have hut' : u ∉ st.todo ∧ u ≠ b := ⟨fun h => hut ((htd u).2 (.inl h)), fun h => hut ((htd u).2 (.inr h))⟩
    rw [dv u, if_neg hut'.2] at hm' ⊢
    by_cases e : rto N i = b
    · refine .inr ?_
      rw [dv, if_pos e]
      rcases hdn with hdn | ⟨rfl, rfl⟩
      · rcases h.clo u i hu hm' hut'.1 hdn hi hiu hri with h1 | h1
        · exact absurd (e ▸ h1) hs
        · rw [e] at h1; omega
      · omega
    · rw [dv, if_neg e]
      rcases hdn with hdn | ⟨rfl, rfl⟩
      · exact h.clo u i hu hm' hut'.1 hdn hi hiu hri
      · exact absurd hb e
  · rw [sm_set b hrt (gi st.di) (gi (st.di.set b d)) (fun i _ hi => by rw [dv, if_neg hi]), dv, if_pos rfl]
    omega
/-- An arc is looked at. -/
theorem way_step (hf : WFix N costs room s nodes π) {done : Nat → Nat → Prop} {st : WSt} (h : WInv N costs room s nodes π done st) {v j : Nat} (hv : v < nodes) (hmv : gi st.di v < FAR) (hvt : v ∉ st.todo) (hj : j < 2 * N.m) (hjv : rfr N j = v) (hne : rto N j ≠ v) :
    WInv N costs room s nodes π (fun u i => done u i ∨ (u = v ∧ i = j)) (wayStep N costs room s v j st) ∧ gi (wayStep N costs room s v j st).di v = gi st.di v ∧ v ∉ (wayStep N costs room s v j st).todo ∧
      2 * sm nodes (gi (wayStep N costs room s v j st).di) + (wayStep N costs room s v j st).todo.length ≤ 2 * sm nodes (gi st.di) + st.todo.length := by
  have hrt := (hf.rto hj).1
  unfold wayStep
  by_cases hsk : gi room j = 0 ∨ gi st.di (rto N j) ≤ gi st.di v + cst N costs j ∨ rto N j = s
  · rw [if_pos hsk]
    refine ⟨⟨h.lb, h.ld, h.lw, h.ds, h.bs, h.pot, h.unm, h.par, h.pth, h.wa01, h.wat, h.tn, h.nd, h.up, fun u i hu hm hut hdn hi hiu hri => ?_⟩, rfl, hvt, Int.le_refl _⟩
    rcases hdn with hdn | ⟨rfl, rfl⟩
    · exact h.clo u i hu hm hut hdn hi hiu hri
    · rcases hsk with h1 | h1 | h1
      · omega
      · exact .inr h1
      · exact .inl h1
  · rw [if_neg hsk]
    rw [not_or, not_or] at hsk
    obtain ⟨k1, k2, k3⟩ := hsk
    have dv : gi (st.di.set (rto N j) (gi st.di v + cst N costs j)) v = gi st.di v := by rw [gi_set (by rw [h.ld]; exact hrt), if_neg (fun e => hne e.symm)]
    by_cases hw : gi st.wa (rto N j) = 0
    · rw [if_pos hw]
      have hnt : rto N j ∉ st.todo := fun hm => by have := (h.wat _ hrt k3).2 hm; omega
      have wv : ∀ x, gi (st.wa.set (rto N j) 1) x = if x = rto N j then 1 else gi st.wa x := fun x => gi_set (by rw [h.lw]; exact hrt) _ _
      obtain ⟨h1, h2⟩ := way_take hf h hv hmv hvt hj hjv k1 k2 k3 (st.wa.set (rto N j) 1) (st.todo ++ [rto N j]) (by rw [List.length_set]; exact h.lw) (fun x hx => by
        rw [wv, List.mem_append, List.mem_singleton]
        by_cases e : x = rto N j
        · simp [e]
        · rw [if_neg e]
          refine ⟨h.wa01 x hx, fun hxs => (h.wat x hx hxs).trans ?_⟩
          simp [e]) (fun x => by simp) (by
        rw [List.nodup_append]
        exact ⟨h.nd, by simp, fun a ha b hb e => hnt (by simp at hb; rw [← hb, ← e]; exact ha)⟩)
      refine ⟨h1, dv, ?_, ?_⟩
      · show v ∉ st.todo ++ [rto N j]
        simp only [List.mem_append, List.mem_singleton, not_or]
        exact ⟨hvt, fun e => hne e.symm⟩
      · show 2 * sm nodes (gi (st.di.set (rto N j) (gi st.di v + cst N costs j))) + ((st.todo ++ [rto N j]).length : Nat) ≤ _
        rw [List.length_append, List.length_singleton]
        omega
    · rw [if_neg hw]
      have hin : rto N j ∈ st.todo := (h.wat _ hrt k3).1 (by rcases h.wa01 _ hrt with h | h; exact absurd h hw; exact h)
      obtain ⟨h1, h2⟩ := way_take hf h hv hmv hvt hj hjv k1 k2 k3 st.wa st.todo h.lw (fun x hx => ⟨h.wa01 x hx, h.wat x hx⟩) (fun x => ⟨.inl, fun h => h.elim id (fun e => e ▸ hin)⟩) h.nd
      refine ⟨h1, dv, hvt, ?_⟩
      show 2 * sm nodes (gi (st.di.set (rto N j) (gi st.di v + cst N costs j))) + (st.todo.length : Nat) ≤ _
      omega
theorem way_list (hf : WFix N costs room s nodes π) {v : Nat} (hv : v < nodes) (hself : ∀ j, j < 2 * N.m → rto N j ≠ rfr N j) : ∀ (l : List Nat) (done : Nat → Nat → Prop) (st : WSt), (∀ j ∈ l, j < 2 * N.m ∧ rfr N j = v) → WInv N costs room s nodes π done st → gi st.di v < FAR → v ∉ st.todo →
    WInv N costs room s nodes π (fun u i => done u i ∨ (u = v ∧ i ∈ l)) (wayL N costs room s v l st) ∧ 2 * sm nodes (gi (wayL N costs room s v l st).di) + (wayL N costs room s v l st).todo.length ≤ 2 * sm nodes (gi st.di) + st.todo.length := by
  intro l
  induction l with
  | nil =>
    intro done st _ h _ _
    refine ⟨⟨h.lb, h.ld, h.lw, h.ds, h.bs, h.pot, h.unm, h.par, h.pth, h.wa01, h.wat, h.tn, h.nd, h.up, fun u i hu hm hut hdn => h.clo u i hu hm hut (hdn.resolve_right fun h => by cases h.2)⟩, Int.le_refl _⟩
  | cons j l ih =>
    intro done st hl h hmv hvt
    obtain ⟨hj, hjv⟩ := hl j (by simp)
    obtain ⟨h1, h2, h3, h4⟩ := way_step hf h hv hmv hvt hj hjv (by have := hself j hj; rw [hjv] at this; exact this)
    obtain ⟨h5, h6⟩ := ih _ _ (fun i hi => hl i (by simp [hi])) h1 (by rw [h2]; exact hmv) h3
    unfold wayL
    refine ⟨⟨h5.lb, h5.ld, h5.lw, h5.ds, h5.bs, h5.pot, h5.unm, h5.par, h5.pth, h5.wa01, h5.wat, h5.tn, h5.nd, h5.up, fun u i hu hm hut hdn => h5.clo u i hu hm hut ?_⟩, Int.le_trans h6 h4⟩
    rcases hdn with hdn | ⟨e1, e2⟩
    · exact .inl (.inl hdn)
    · rcases List.mem_cons.1 e2 with e2 | e2
      · exact .inl (.inr ⟨e1, e2⟩)
      · exact .inr ⟨e1, e2⟩
/-- What the search ends with. -/
structure WEnd (N : Nw) (costs : Bool) (room : List Int) (s nodes : Nat) (st : WSt) : Prop where
  lb : st.by_.length = nodes
  ds : gi st.di s = 0
  bs : gi st.by_ s = -1
  d0 : ∀ v, v < nodes → gi st.di v < FAR → 0 ≤ gi st.di v ∧ gi st.di v ≤ 200000
  b0 : ∀ v, v < nodes → v ≠ s → (0 ≤ gi st.by_ v ↔ gi st.di v < FAR)
  par : ∀ v, v < nodes → v ≠ s → gi st.di v < FAR → ∃ j, j < 2 * N.m ∧ gi st.by_ v = (j : Int) ∧ rto N j = v ∧ 0 < gi room j ∧ gi st.di (rfr N j) < FAR ∧ gi st.di (rfr N j) + cst N costs j = gi st.di v
  pth : ∀ v, v < nodes → gi st.di v < FAR → ∃ L, Pth N (gi st.by_) s v L
  clo : ∀ j, j < 2 * N.m → 0 < gi room j → gi st.di (rfr N j) < FAR → gi st.di (rto N j) < FAR ∧ gi st.di (rto N j) ≤ gi st.di (rfr N j) + cst N costs j
theorem way_end (hf : WFix N costs room s nodes π) {st : WSt} (h : WInv N costs room s nodes π (fun _ _ => True) st) (ht : st.todo = []) : WEnd N costs room s nodes st := by
  have hclo : ∀ j, j < 2 * N.m → 0 < gi room j → gi st.di (rfr N j) < FAR → gi st.di (rto N j) < FAR ∧ gi st.di (rto N j) ≤ gi st.di (rfr N j) + cst N costs j := by
    intro j hj hr hm
    have hfe := hf.feas j hj hr
    have hp := h.pot _ (hf.rto hj).2 hm
    have hu := h.up _ (hf.rto hj).2 hm
    have hc := hf.cle hj
    have hmc := metc_le st.di nodes
    have hnn := hf.nn
    rcases h.clo _ j (hf.rto hj).2 hm (by rw [ht]; simp) trivial hj rfl hr with h1 | h1
    · rw [h1, h.ds]
      rw [h1, hf.ps] at hfe
      exact ⟨by decide, by omega⟩
    · exact ⟨by unfold FAR at *; omega, h1⟩
  refine ⟨h.lb, h.ds, h.bs, fun v hv hm => ?_, fun v hv hvs => ⟨fun hb => ?_, fun hm => ?_⟩, fun v hv hvs hm => ?_, h.pth, hclo⟩
  · have := h.up v hv hm
    have := h.pot v hv hm
    have := hf.p0 v hv
    have := metc_le st.di nodes
    have := hf.nn
    omega
  · by_cases e : gi st.di v < FAR
    · exact e
    · have := (h.unm v hv e).2
      omega
  · obtain ⟨j, _, h2, _⟩ := h.par v hv hvs hm
    omega
  · obtain ⟨j, p1, p2, p3, p4, p5, p6⟩ := h.par v hv hvs hm
    have := (hclo j p1 p4 p5).2
    rw [p3] at this
    exact ⟨j, p1, p2, p3, p4, p5, by omega⟩
theorem wayQ_out (hf : WFix N costs room s nodes π) (hout : ∀ v j, j ∈ out v ↔ j < 2 * N.m ∧ rfr N j = v) (hself : ∀ j, j < 2 * N.m → rto N j ≠ rfr N j) :
    ∀ (f : Nat) (st : WSt), WInv N costs room s nodes π (fun _ _ => True) st → 2 * sm nodes (gi st.di) + st.todo.length ≤ (f : Int) → ∃ r, wayQ N costs room s out f st = some r ∧ WEnd N costs room s nodes r := by
  intro f
  induction f with
  | zero =>
    intro st h hm
    have h0 : 0 ≤ sm nodes (gi st.di) := sm_nonneg fun v hv => (h.lo hf hv).1
    have ht : st.todo = [] := List.eq_nil_of_length_eq_zero (by omega)
    unfold wayQ
    rw [if_pos ht]
    exact ⟨st, rfl, way_end hf h ht⟩
  | succ f ih =>
    intro st h hm
    unfold wayQ
    cases hT : st.todo with
    | nil => exact ⟨st, rfl, way_end hf h hT⟩
    | cons v T =>
      obtain ⟨hv, hmv⟩ := h.tn v (by rw [hT]; simp)
      have hnd := h.nd
      rw [hT] at hnd
      obtain ⟨n1, n2⟩ := List.nodup_cons.1 hnd
      have wv : ∀ x, gi (st.wa.set v 0) x = if x = v then 0 else gi st.wa x := fun x => gi_set (by rw [h.lw]; exact hv) _ _
      have h1 : WInv N costs room s nodes π (fun u _ => u ≠ v) { st with todo := T, wa := st.wa.set v 0 } := by
        refine ⟨h.lb, h.ld, by show (st.wa.set v 0).length = nodes; rw [List.length_set]; exact h.lw, h.ds, h.bs, h.pot, h.unm, h.par, h.pth, fun x hx => ?_, fun x hx => ?_, fun x hx => h.tn x (by rw [hT]; exact List.mem_cons_of_mem _ hx), n2, h.up, fun u i hu hmu hut hne => h.clo u i hu hmu (by rw [hT]; simp only [List.mem_cons, not_or]; exact ⟨hne, hut⟩) trivial⟩
        · show gi (st.wa.set v 0) x = 0 ∨ gi (st.wa.set v 0) x = 1
          rw [wv]
          split
          · exact .inl rfl
          · exact h.wa01 x hx
        · intro hxs
          show gi (st.wa.set v 0) x = 1 ↔ x ∈ T
          rw [wv]
          by_cases e : x = v
          · rw [if_pos e, e]
            exact ⟨fun h => by omega, fun h => absurd h n1⟩
          · rw [if_neg e]
            refine (h.wat x hx hxs).trans ?_
            rw [hT, List.mem_cons]
            exact ⟨fun h => h.resolve_left e, .inr⟩
      obtain ⟨h2, h3⟩ := way_list hf hv hself (out v) _ _ (fun j hj => (hout v j).1 hj) h1 hmv n1
      refine ih _ ⟨h2.lb, h2.ld, h2.lw, h2.ds, h2.bs, h2.pot, h2.unm, h2.par, h2.pth, h2.wa01, h2.wat, h2.tn, h2.nd, h2.up, fun u i hu hmu hut _ hi hiu => h2.clo u i hu hmu hut ?_ hi hiu⟩ ?_
      · by_cases e : u = v
        · exact .inr ⟨e, (hout v i).2 ⟨hi, by rw [hiu, e]⟩⟩
        · exact .inl e
      · have e1 : ((st.todo.length : Nat) : Int) = (T.length : Int) + 1 := by rw [hT]; simp
        have h3' : 2 * sm nodes (gi (wayL N costs room s v (out v) { st with todo := T, wa := st.wa.set v 0 }).di) + ((wayL N costs room s v (out v) { st with todo := T, wa := st.wa.set v 0 }).todo.length : Int) ≤ 2 * sm nodes (gi st.di) + (T.length : Int) := h3
        omega
/-- The start: only s is met. -/
theorem way_start (hf : WFix N costs room s nodes π) : WInv N costs room s nodes π (fun _ _ => True) ⟨List.replicate nodes (-1), (List.replicate nodes FAR).set s 0, List.replicate nodes 0, [s]⟩ := by
  have hsn := hf.sn
  have rep : ∀ (c : Int) v, v < nodes → gi (List.replicate nodes c) v = c := fun c v hv => by
    rw [gi_get (by simpa using hv)]; simp
  have dv : ∀ v, v < nodes → gi ((List.replicate nodes FAR).set s 0) v = if v = s then 0 else FAR := fun v hv => by
    rw [gi_set (by simpa using hsn), rep _ _ hv]
  have only : ∀ v, v < nodes → gi ((List.replicate nodes FAR).set s 0) v < FAR → v = s := fun v hv h => by
    rw [dv v hv] at h
    by_cases e : v = s
    · exact e
    · rw [if_neg e] at h; omega
  have hm : metc ((List.replicate nodes FAR).set s 0) nodes = 1 := by
    have e : (List.range nodes).filter (fun v => decide (gi ((List.replicate nodes FAR).set s 0) v < FAR)) = (List.range nodes).filter (fun v => decide (v = s)) := List.filter_congr fun v hv => by
      have hn : v < nodes := by simpa using hv
      rw [dv v hn]
      by_cases e : v = s
      · rw [if_pos e]; simp [e]; decide
      · rw [if_neg e]; simp [e]
    have := count_one (fun _ : Nat => false) (fun v => decide (v = s)) s rfl (by simp) (fun x hx => by simp [hx]) (List.range nodes) List.nodup_range (by simpa using hsn)
    unfold metc
    rw [e, this]
    simp
  refine ⟨by simp, by simp, by simp, by rw [dv s hsn, if_pos rfl], rep _ _ hsn, fun v hv h => ?_, fun v hv h => ?_, fun v hv hvs h => absurd (only v hv h) hvs, fun v hv h => ?_, fun v hv => .inl (rep _ _ hv), fun v hv hvs => ?_, fun v hv => ?_, by simp, fun v hv h => ?_, fun u j hu hmu hut => ?_⟩
  · obtain rfl := only v hv h
    rw [dv v hv, if_pos rfl, hf.ps]; exact Int.le_refl _
  · refine ⟨?_, rep _ _ hv⟩
    show gi ((List.replicate nodes FAR).set s 0) v = FAR
    have h' : ¬ gi ((List.replicate nodes FAR).set s 0) v < FAR := h
    rw [dv v hv] at h' ⊢
    by_cases e : v = s
    · rw [if_pos e] at h'; exact absurd (by decide) h'
    · rw [if_neg e]
  · obtain rfl := only v hv h
    exact ⟨_, .nil⟩
  · show gi (List.replicate nodes 0) v = 1 ↔ v ∈ [s]
    rw [rep _ _ hv]
    simp [hvs]
  · obtain rfl : v = s := by simpa using hv
    refine ⟨hsn, ?_⟩
    show gi ((List.replicate nodes FAR).set v 0) v < FAR
    rw [dv v hsn, if_pos rfl]; decide
  · obtain rfl := only v hv h
    show gi ((List.replicate nodes FAR).set v 0) v ≤ 1000 * ((metc ((List.replicate nodes FAR).set v 0) nodes : Int) - 1)
    rw [hm, dv v hv, if_pos rfl]
    decide
  · have : u = s := only u hu hmu
    exact absurd (show u ∈ [s] by simp [this]) hut
end
end Go.Proofs.Ytmekcpbcgelliaa
