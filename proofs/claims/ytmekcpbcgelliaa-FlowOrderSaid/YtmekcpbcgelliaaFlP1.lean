/- Flows: sums, cuts, costs, in plain words. -/
import Derived.Test.YtmekcpbcgelliaaMtPlain
namespace Go.Proofs.Ytmekcpbcgelliaa
/-! ### Sums -/
def sm : Nat → (Nat → Int) → Int
  | 0, _ => 0
  | n + 1, g => sm n g + g n
theorem sm_congr {n : Nat} {g h : Nat → Int} (e : ∀ i, i < n → g i = h i) : sm n g = sm n h := by
  induction n with
  | zero => rfl
  | succ n ih => rw [sm, sm, ih fun i hi => e i (by omega), e n (by omega)]
theorem sm_zero (n : Nat) : sm n (fun _ => 0) = 0 := by
  induction n with
  | zero => rfl
  | succ n ih => rw [sm, ih]; rfl
theorem sm_add (n : Nat) (g h : Nat → Int) : sm n (fun i => g i + h i) = sm n g + sm n h := by
  induction n with
  | zero => rfl
  | succ n ih => simp only [sm, ih]; omega
theorem sm_sub (n : Nat) (g h : Nat → Int) : sm n (fun i => g i - h i) = sm n g - sm n h := by
  induction n with
  | zero => rfl
  | succ n ih => simp only [sm, ih]; omega
theorem sm_neg (n : Nat) (g : Nat → Int) : sm n (fun i => - g i) = - sm n g := by
  induction n with
  | zero => rfl
  | succ n ih => simp only [sm, ih]; omega
theorem sm_mul (n : Nat) (c : Int) (g : Nat → Int) : sm n (fun i => c * g i) = c * sm n g := by
  induction n with
  | zero => simp [sm]
  | succ n ih => simp only [sm, ih, Int.mul_add]
theorem sm_le {n : Nat} {g h : Nat → Int} (e : ∀ i, i < n → g i ≤ h i) : sm n g ≤ sm n h := by
  induction n with
  | zero => exact Int.le_refl _
  | succ n ih =>
    have := ih fun i hi => e i (by omega)
    have := e n (by omega)
    simp only [sm]
    omega
theorem sm_nonneg {n : Nat} {g : Nat → Int} (e : ∀ i, i < n → 0 ≤ g i) : 0 ≤ sm n g := by
  have := sm_le (g := fun _ => 0) e
  rwa [sm_zero] at this
theorem sm_bound {n : Nat} {g : Nat → Int} {c : Int} (e : ∀ i, i < n → g i ≤ c) : sm n g ≤ n * c := by
  induction n with
  | zero => simp [sm]
  | succ n ih =>
    have := ih fun i hi => e i (by omega)
    have := e n (by omega)
    rw [sm, Int.natCast_add, Int.add_mul]
    omega
/-- One place alone. -/
theorem sm_one {n : Nat} (x : Nat) (hx : x < n) (c : Int) : sm n (fun v => if v = x then c else 0) = c := by
  induction n with
  | zero => omega
  | succ n ih =>
    rw [sm]
    by_cases e : n = x
    · rw [if_pos e, sm_congr (h := fun _ => 0) (fun i hi => if_neg (by omega)), sm_zero]; omega
    · rw [if_neg e, ih (by omega)]; omega
theorem sm_none {n : Nat} (x : Nat) (hx : n ≤ x) (c : Int) : sm n (fun v => if v = x then c else 0) = 0 := by
  rw [sm_congr (h := fun _ => 0) (fun i hi => if_neg (by omega)), sm_zero]
theorem sm_set {n : Nat} (x : Nat) (hx : x < n) (g h : Nat → Int) (e : ∀ i, i < n → i ≠ x → h i = g i) : sm n h = sm n g + (h x - g x) := by
  have h1 : sm n h = sm n (fun i => g i + (if i = x then h x - g x else 0)) := sm_congr fun i hi => by
    by_cases e' : i = x
    · subst e'; rw [if_pos rfl]; omega
    · rw [if_neg e', e i hi e']; omega
  rw [h1, sm_add, sm_one x hx]
theorem sm_shift (n : Nat) (g : Nat → Int) : sm (n + 1) g = g 0 + sm n (fun i => g (i + 1)) := by
  induction n with
  | zero => simp [sm]
  | succ n ih => rw [sm, ih, sm]; omega
theorem sm_rev (n : Nat) (g : Nat → Int) : sm n (fun i => g (n - 1 - i)) = sm n g := by
  induction n with
  | zero => rfl
  | succ n ih =>
    rw [sm_shift, sm, ← ih]
    have : sm n (fun i => g (n + 1 - 1 - (i + 1))) = sm n (fun i => g (n - 1 - i)) := sm_congr fun i hi => by
      congr 1; omega
    rw [this]
    show g (n + 1 - 1 - 0) + _ = _
    rw [show n + 1 - 1 - 0 = n by omega]
    omega
theorem sm_split (a b : Nat) (g : Nat → Int) : sm (a + b) g = sm a g + sm b (fun i => g (a + i)) := by
  induction b with
  | zero => simp [sm]
  | succ b ih => rw [← Nat.add_assoc, sm, ih, sm]; omega
/-! ### Networks -/
structure Nw where
  m : Nat
  fr : Nat → Nat
  to : Nat → Nat
  cap : Nat → Int
  cost : Nat → Int
variable {N : Nw} {nodes s t : Nat} {f g : Nat → Int}
/-- What comes into v, less what goes out. -/
def ex (N : Nw) (f : Nat → Int) (v : Nat) : Int := sm N.m fun i => (if N.to i = v then f i else 0) - (if N.fr i = v then f i else 0)
structure IsFlow (N : Nw) (nodes s t : Nat) (f : Nat → Int) : Prop where
  lo : ∀ i, i < N.m → 0 ≤ f i
  hi : ∀ i, i < N.m → f i ≤ N.cap i
  even : ∀ v, v < nodes → v ≠ s → v ≠ t → ex N f v = 0
def costOf (N : Nw) (f : Nat → Int) : Int := sm N.m fun i => f i * N.cost i
/-- The arcs' ends are nodes. -/
def InN (N : Nw) (nodes : Nat) : Prop := ∀ i, i < N.m → N.fr i < nodes ∧ N.to i < nodes
theorem parts (hN : InN N nodes) (f π : Nat → Int) : sm N.m (fun i => f i * (π (N.to i) - π (N.fr i))) = sm nodes (fun v => π v * ex N f v) := by
  have key : ∀ k, k ≤ N.m → sm k (fun i => f i * (π (N.to i) - π (N.fr i))) = sm nodes (fun v => π v * sm k fun i => (if N.to i = v then f i else 0) - (if N.fr i = v then f i else 0)) := by
    intro k
    induction k with
    | zero => intro _; simp [sm, sm_zero]
    | succ k ih =>
      intro hk
      obtain ⟨h1, h2⟩ := hN k (by omega)
      rw [sm, ih (by omega)]
      have e : sm nodes (fun v => π v * sm (k + 1) fun i => (if N.to i = v then f i else 0) - (if N.fr i = v then f i else 0)) =
          sm nodes (fun v => (π v * sm k fun i => (if N.to i = v then f i else 0) - (if N.fr i = v then f i else 0)) + ((if v = N.to k then π (N.to k) * f k else 0) - (if v = N.fr k then π (N.fr k) * f k else 0))) := sm_congr fun v _ => by
        rw [sm, Int.mul_add]
        congr 1
        rw [Int.mul_sub]
        congr 1
        · by_cases e : v = N.to k
          · rw [if_pos e, if_pos e.symm, e]
          · rw [if_neg e, if_neg (fun h => e h.symm), Int.mul_zero]
        · by_cases e : v = N.fr k
          · rw [if_pos e, if_pos e.symm, e]
          · rw [if_neg e, if_neg (fun h => e h.symm), Int.mul_zero]
      rw [e, sm_add, sm_sub, sm_one _ h2, sm_one _ h1, Int.mul_sub, Int.mul_comm (f k), Int.mul_comm (f k)]
  exact key N.m (Nat.le_refl _)
/-- Of a flow only source and sink count. -/
theorem flow_parts (hN : InN N nodes) (hf : IsFlow N nodes s t f) (hs : s < nodes) (ht : t < nodes) (hst : s ≠ t) (π : Nat → Int) :
    sm N.m (fun i => f i * (π (N.to i) - π (N.fr i))) = π s * ex N f s + π t * ex N f t := by
  rw [parts hN]
  have e : sm nodes (fun v => π v * ex N f v) = sm nodes (fun v => (if v = s then π s * ex N f s else 0) + (if v = t then π t * ex N f t else 0)) := sm_congr fun v hv => by
    by_cases e1 : v = s
    · rw [if_pos e1, if_neg (by omega), e1]; omega
    · by_cases e2 : v = t
      · rw [if_neg e1, if_pos e2, e2]; omega
      · rw [if_neg e1, if_neg e2, hf.even v hv e1 e2, Int.mul_zero]; rfl
  rw [e, sm_add, sm_one s hs, sm_one t ht]
theorem flow_ends (hN : InN N nodes) (hf : IsFlow N nodes s t f) (hs : s < nodes) (ht : t < nodes) (hst : s ≠ t) : ex N f t = - ex N f s := by
  have := flow_parts hN hf hs ht hst (fun _ => 1)
  rw [sm_congr (h := fun _ => 0) (fun i _ => by simp), sm_zero] at this
  omega
/-- What crosses a cut. -/
def cutCap (N : Nw) (Z : Nat → Bool) : Int := sm N.m fun i => if Z (N.fr i) = true ∧ Z (N.to i) = false then N.cap i else 0
theorem cut_ge (hN : InN N nodes) (hf : IsFlow N nodes s t f) (hs : s < nodes) (ht : t < nodes) (hst : s ≠ t) (Z : Nat → Bool) (hZs : Z s = true) (hZt : Z t = false) : - ex N f s ≤ cutCap N Z := by
  have h := flow_parts hN hf hs ht hst (fun v => if Z v = true then 1 else 0)
  simp only [hZs, hZt, if_true, Bool.false_eq_true, if_false] at h
  have h2 : - sm N.m (fun i => f i * ((if Z (N.to i) = true then (1 : Int) else 0) - (if Z (N.fr i) = true then 1 else 0))) ≤ cutCap N Z := by
    rw [← sm_neg]
    refine sm_le fun i hi => ?_
    have h1 := hf.lo i hi
    have h2 := hf.hi i hi
    cases hz1 : Z (N.fr i) <;> cases hz2 : Z (N.to i) <;> simp <;> omega
  omega
theorem cut_eq (hN : InN N nodes) (hf : IsFlow N nodes s t f) (hs : s < nodes) (ht : t < nodes) (hst : s ≠ t) (Z : Nat → Bool) (hZs : Z s = true) (hZt : Z t = false)
    (h1 : ∀ i, i < N.m → Z (N.fr i) = true → Z (N.to i) = false → f i = N.cap i) (h2 : ∀ i, i < N.m → Z (N.to i) = true → Z (N.fr i) = false → f i = 0) : - ex N f s = cutCap N Z := by
  have h := flow_parts hN hf hs ht hst (fun v => if Z v = true then 1 else 0)
  simp only [hZs, hZt, if_true, Bool.false_eq_true, if_false] at h
  have h2 : - sm N.m (fun i => f i * ((if Z (N.to i) = true then (1 : Int) else 0) - (if Z (N.fr i) = true then 1 else 0))) = cutCap N Z := by
    rw [← sm_neg]
    refine sm_congr fun i hi => ?_
    have h3 := h1 i hi
    have h4 := h2 i hi
    cases hz1 : Z (N.fr i) <;> cases hz2 : Z (N.to i) <;> simp_all
  omega
/-- The greatest flow has this value. -/
def MaxIs (N : Nw) (nodes s t : Nat) (v : Int) : Prop :=
  (∃ f, IsFlow N nodes s t f ∧ - ex N f s = v) ∧ ∃ Z : Nat → Bool, Z s = true ∧ Z t = false ∧ cutCap N Z ≤ v
theorem MaxIs.uniq {v v' : Int} (hN : InN N nodes) (hs : s < nodes) (ht : t < nodes) (hst : s ≠ t) (h : MaxIs N nodes s t v) (h' : MaxIs N nodes s t v') : v = v' := by
  obtain ⟨⟨f, hf, e⟩, Z, z1, z2, z3⟩ := h
  obtain ⟨⟨f', hf', e'⟩, Z', z1', z2', z3'⟩ := h'
  have := cut_ge hN hf hs ht hst Z' z1' z2'
  have := cut_ge hN hf' hs ht hst Z z1 z2
  omega
/-- No arc with room leads down the potential. -/
def Feas (N : Nw) (f π : Nat → Int) : Prop :=
  ∀ i, i < N.m → (f i < N.cap i → 0 ≤ N.cost i + π (N.fr i) - π (N.to i)) ∧ (0 < f i → N.cost i + π (N.fr i) - π (N.to i) ≤ 0)
theorem feas_least (hN : InN N nodes) (hf : IsFlow N nodes s t f) (hg : IsFlow N nodes s t g) (hs : s < nodes) (ht : t < nodes) (hst : s ≠ t) (hv : ex N f s = ex N g s) {π : Nat → Int} (hp : Feas N f π) : costOf N f ≤ costOf N g := by
  have h1 := flow_parts hN hf hs ht hst π
  have h2 := flow_parts hN hg hs ht hst π
  rw [flow_ends hN hf hs ht hst] at h1
  rw [flow_ends hN hg hs ht hst, ← hv] at h2
  have h3 : costOf N g - costOf N f - (sm N.m (fun i => g i * (π (N.to i) - π (N.fr i))) - sm N.m (fun i => f i * (π (N.to i) - π (N.fr i)))) = sm N.m (fun i => (g i - f i) * (N.cost i + π (N.fr i) - π (N.to i))) := by
    unfold costOf
    rw [← sm_sub, ← sm_sub, ← sm_sub]
    refine sm_congr fun i _ => ?_
    simp only [Int.sub_mul, Int.mul_sub, Int.mul_add]
    omega
  have h4 : 0 ≤ sm N.m (fun i => (g i - f i) * (N.cost i + π (N.fr i) - π (N.to i))) := sm_nonneg fun i hi => by
    obtain ⟨p1, p2⟩ := hp i hi
    have := hg.lo i hi
    have := hg.hi i hi
    by_cases e : f i < g i
    · exact Int.mul_nonneg (by omega) (p1 (by omega))
    · by_cases e2 : g i < f i
      · exact Int.mul_nonneg_of_nonpos_of_nonpos (by omega) (p2 (by omega))
      · rw [show g i - f i = 0 by omega, Int.zero_mul]
        exact Int.le_refl _
  omega
/-- The greatest flow has this value, and the cheapest of these this cost. -/
def CheapIs (N : Nw) (nodes s t : Nat) (v c : Int) : Prop := MaxIs N nodes s t v ∧ ∃ f π, IsFlow N nodes s t f ∧ - ex N f s = v ∧ costOf N f = c ∧ Feas N f π
theorem CheapIs.uniq {v v' c c' : Int} (hN : InN N nodes) (hs : s < nodes) (ht : t < nodes) (hst : s ≠ t) (h : CheapIs N nodes s t v c) (h' : CheapIs N nodes s t v' c') : v = v' ∧ c = c' := by
  have hv := h.1.uniq hN hs ht hst h'.1
  obtain ⟨_, f, π, hf, e, rfl, hp⟩ := h
  obtain ⟨_, f', π', hf', e', rfl, hp'⟩ := h'
  exact ⟨hv, Int.le_antisymm (feas_least hN hf hf' hs ht hst (by omega) hp) (feas_least hN hf' hf hs ht hst (by omega) hp')⟩
/-! ### The same network, otherwise written -/
def Nw.rev (N : Nw) : Nw := ⟨N.m, fun i => N.fr (N.m - 1 - i), fun i => N.to (N.m - 1 - i), fun i => N.cap (N.m - 1 - i), fun i => N.cost (N.m - 1 - i)⟩
theorem ex_rev (N : Nw) (f : Nat → Int) (v : Nat) : ex N.rev (fun i => f (N.m - 1 - i)) v = ex N f v := sm_rev N.m fun i => (if N.to i = v then f i else 0) - (if N.fr i = v then f i else 0)
theorem flow_rev (h : IsFlow N nodes s t f) : IsFlow N.rev nodes s t (fun i => f (N.m - 1 - i)) :=
  ⟨fun i hi => h.lo _ (by have : i < N.m := hi; omega), fun i hi => h.hi _ (by have : i < N.m := hi; omega), fun v hv h1 h2 => by rw [ex_rev]; exact h.even v hv h1 h2⟩
theorem cost_rev (N : Nw) (f : Nat → Int) : costOf N.rev (fun i => f (N.m - 1 - i)) = costOf N f := sm_rev N.m fun i => f i * N.cost i
theorem MaxIs.rev {v : Int} (h : MaxIs N nodes s t v) : MaxIs N.rev nodes s t v := by
  obtain ⟨⟨f, hf, e⟩, Z, z1, z2, z3⟩ := h
  refine ⟨⟨_, flow_rev hf, by rw [ex_rev]; exact e⟩, Z, z1, z2, ?_⟩
  rw [show cutCap N.rev Z = cutCap N Z from sm_rev N.m fun i => if Z (N.fr i) = true ∧ Z (N.to i) = false then N.cap i else 0]
  exact z3
theorem CheapIs.rev {v c : Int} (h : CheapIs N nodes s t v c) : CheapIs N.rev nodes s t v c := by
  obtain ⟨h1, f, π, hf, e, e2, hp⟩ := h
  exact ⟨h1.rev, _, π, flow_rev hf, by rw [ex_rev]; exact e, by rw [cost_rev]; exact e2, fun i hi => hp _ (by have : i < N.m := hi; omega)⟩
def Nw.turn (N : Nw) : Nw := ⟨N.m, N.to, N.fr, N.cap, N.cost⟩
theorem ex_turn (N : Nw) (f : Nat → Int) (v : Nat) : ex N.turn f v = - ex N f v := by
  unfold ex
  rw [← sm_neg]
  exact sm_congr fun i _ => by show (if N.fr i = v then f i else 0) - (if N.to i = v then f i else 0) = _; omega
theorem flow_turn (h : IsFlow N nodes s t f) : IsFlow N.turn nodes t s f := ⟨h.lo, h.hi, fun v hv h1 h2 => by rw [ex_turn, h.even v hv h2 h1]; rfl⟩
theorem MaxIs.turn {v : Int} (hN : InN N nodes) (hs : s < nodes) (ht : t < nodes) (hst : s ≠ t) (h : MaxIs N nodes s t v) : MaxIs N.turn nodes t s v := by
  obtain ⟨⟨f, hf, e⟩, Z, z1, z2, z3⟩ := h
  refine ⟨⟨f, flow_turn hf, by rw [ex_turn, flow_ends hN hf hs ht hst]; omega⟩, fun v => !Z v, by simp [z2], by simp [z1], ?_⟩
  rw [show cutCap N.turn (fun v => !Z v) = cutCap N Z from sm_congr fun i _ => by
    show (if (!Z (N.to i)) = true ∧ (!Z (N.fr i)) = false then N.cap i else 0) = _
    cases Z (N.to i) <;> cases Z (N.fr i) <;> simp]
  exact z3
theorem CheapIs.turn {v c : Int} (hN : InN N nodes) (hs : s < nodes) (ht : t < nodes) (hst : s ≠ t) (h : CheapIs N nodes s t v c) : CheapIs N.turn nodes t s v c := by
  obtain ⟨h1, f, π, hf, e, e2, hp⟩ := h
  refine ⟨h1.turn hN hs ht hst, f, fun v => - π v, flow_turn hf, by rw [ex_turn, flow_ends hN hf hs ht hst]; omega, e2, fun i hi => ?_⟩
  obtain ⟨p1, p2⟩ := hp i hi
  exact ⟨fun h => by have := p1 h; show 0 ≤ N.cost i + - π (N.to i) - - π (N.fr i); omega, fun h => by have := p2 h; show N.cost i + - π (N.to i) - - π (N.fr i) ≤ 0; omega⟩
/-- One arc bears one more. -/
theorem max_more {N' : Nw} {v v' : Int} {x : Nat} (hx : x < N.m) (hm : N'.m = N.m) (hfr : N'.fr = N.fr) (hto : N'.to = N.to) (hcap : ∀ i, i < N.m → i ≠ x → N'.cap i = N.cap i) (hcx : N'.cap x = N.cap x + 1)
    (hN : InN N nodes) (hs : s < nodes) (ht : t < nodes) (hst : s ≠ t) (h : MaxIs N nodes s t v) (h' : MaxIs N' nodes s t v') : v ≤ v' ∧ v' ≤ v + 1 := by
  have hN' : InN N' nodes := by unfold InN; rw [hm, hfr, hto]; exact hN
  have hex : ∀ f v, ex N' f v = ex N f v := fun f v => by unfold ex; rw [hm, hfr, hto]
  obtain ⟨⟨f, hf, e⟩, Z, z1, z2, z3⟩ := h
  obtain ⟨⟨f', hf', e'⟩, Z', z1', z2', z3'⟩ := h'
  have hle : ∀ i, i < N.m → N.cap i ≤ N'.cap i := fun i hi => by
    by_cases e : i = x
    · rw [e, hcx]; omega
    · rw [hcap i hi e]; exact Int.le_refl _
  have hf2 : IsFlow N' nodes s t f := ⟨by rw [hm]; exact hf.lo, by rw [hm]; exact fun i hi => Int.le_trans (hf.hi i hi) (hle i hi), fun v hv h1 h2 => by rw [hex]; exact hf.even v hv h1 h2⟩
  have a1 := cut_ge hN' hf2 hs ht hst Z' z1' z2'
  rw [hex] at a1
  have a2 := cut_ge hN' hf' hs ht hst Z z1 z2
  have a3 : cutCap N' Z ≤ cutCap N Z + 1 := by
    unfold cutCap
    rw [hm, hfr, hto]
    rw [sm_set x hx (fun i => if Z (N.fr i) = true ∧ Z (N.to i) = false then N.cap i else 0) (fun i => if Z (N.fr i) = true ∧ Z (N.to i) = false then N'.cap i else 0) (fun i hi e => by simp only [hcap i hi e])]
    split <;> omega
  omega
end Go.Proofs.Ytmekcpbcgelliaa
