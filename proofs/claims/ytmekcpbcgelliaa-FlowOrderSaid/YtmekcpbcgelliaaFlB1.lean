/- Flows: rounds of relaxing, in plain words: behind as many rounds as there are nodes nothing changes any more. -/
import Derived.Test.YtmekcpbcgelliaaFlP3
namespace Go.Proofs.Ytmekcpbcgelliaa
/-- Arcs that may be relaxed: which are on, from where, to where, at which cost; and what counts as far. -/
structure Rlx where
  J : Nat
  on : Nat → Bool
  u : Nat → Nat
  v : Nat → Nat
  c : Nat → Int
  F : Int
/-- Arc j would lower what is known. -/
def Rlx.can (X : Rlx) (d : List Int) (j : Nat) : Prop := X.on j = true ∧ gi d (X.u j) < X.F ∧ gi d (X.u j) + X.c j < gi d (X.v j)
instance (X : Rlx) (d : List Int) (j : Nat) : Decidable (X.can d j) := by unfold Rlx.can; infer_instance
def Rlx.step (X : Rlx) (d : List Int) (j : Nat) : List Int := if X.can d j then d.set (X.v j) (gi d (X.u j) + X.c j) else d
def Rlx.to (X : Rlx) (d : List Int) : Nat → List Int
  | 0 => d
  | k + 1 => X.step (X.to d k) k
def Rlx.rnd (X : Rlx) (d : List Int) : Nat → List Int
  | 0 => d
  | r + 1 => X.to (X.rnd d r) X.J
/-- Nothing would be lowered. -/
def Rlx.fix (X : Rlx) (d : List Int) : Prop := ∀ j, j < X.J → ¬ X.can d j
section
variable {X : Rlx} {n : Nat}
def Rlx.ends (X : Rlx) (n : Nat) : Prop := ∀ j, j < X.J → X.u j < n ∧ X.v j < n
theorem rlx_len (d : List Int) (j : Nat) : (X.step d j).length = d.length := by unfold Rlx.step; split <;> simp
theorem rlx_to_len (d : List Int) (k : Nat) : (X.to d k).length = d.length := by
  induction k with
  | zero => rfl
  | succ k ih => rw [Rlx.to, rlx_len, ih]
theorem rlx_rnd_len (d : List Int) (r : Nat) : (X.rnd d r).length = d.length := by
  induction r with
  | zero => rfl
  | succ k ih => rw [Rlx.rnd, rlx_to_len, ih]
theorem rlx_gi (hX : X.ends n) {d : List Int} (hd : d.length = n) {j : Nat} (hj : j < X.J) (x : Nat) : gi (X.step d j) x = if X.can d j ∧ x = X.v j then gi d (X.u j) + X.c j else gi d x := by
  unfold Rlx.step
  by_cases h : X.can d j
  · rw [if_pos h, gi_set (by rw [hd]; exact (hX j hj).2)]
    by_cases e : x = X.v j
    · rw [if_pos e, if_pos ⟨h, e⟩]
    · rw [if_neg e, if_neg (fun h => e h.2)]
  · rw [if_neg h, if_neg (fun h' => h h'.1)]
theorem rlx_le (hX : X.ends n) {d : List Int} (hd : d.length = n) {j : Nat} (hj : j < X.J) (x : Nat) : gi (X.step d j) x ≤ gi d x := by
  rw [rlx_gi hX hd hj]
  split
  · rename_i h
    have := h.1.2.2
    rw [h.2]; omega
  · exact Int.le_refl _
theorem rlx_to_le (hX : X.ends n) {d : List Int} (hd : d.length = n) {k : Nat} (hk : k ≤ X.J) (x : Nat) : gi (X.to d k) x ≤ gi d x := by
  induction k with
  | zero => exact Int.le_refl _
  | succ k ih => exact Int.le_trans (rlx_le hX (by rw [rlx_to_len]; exact hd) (by omega) x) (ih (by omega))
theorem rlx_to_le2 (hX : X.ends n) {d : List Int} (hd : d.length = n) {a b : Nat} (hab : a ≤ b) (hk : b ≤ X.J) (x : Nat) : gi (X.to d b) x ≤ gi (X.to d a) x := by
  induction b with
  | zero => obtain rfl : a = 0 := by omega
            exact Int.le_refl _
  | succ b ih =>
    by_cases e : a = b + 1
    · rw [e]; exact Int.le_refl _
    · exact Int.le_trans (rlx_le hX (by rw [rlx_to_len]; exact hd) (by omega) x) (ih (by omega) (by omega))
theorem rlx_rnd_le (hX : X.ends n) {d : List Int} (hd : d.length = n) {a b : Nat} (hab : a ≤ b) (x : Nat) : gi (X.rnd d b) x ≤ gi (X.rnd d a) x := by
  induction b with
  | zero => obtain rfl : a = 0 := by omega
            exact Int.le_refl _
  | succ b ih =>
    by_cases e : a = b + 1
    · rw [e]; exact Int.le_refl _
    · exact Int.le_trans (rlx_to_le hX (by rw [rlx_rnd_len]; exact hd) (Nat.le_refl _) x) (ih (by omega))
/-- A fixed point stays. -/
theorem rlx_fix_to {d : List Int} (h : X.fix d) {k : Nat} (hk : k ≤ X.J) : X.to d k = d := by
  induction k with
  | zero => rfl
  | succ k ih => rw [Rlx.to, ih (by omega), Rlx.step, if_neg (h k (by omega))]
theorem rlx_fix_rnd {d : List Int} (h : X.fix d) (r : Nat) : X.rnd d r = d := by
  induction r with
  | zero => rfl
  | succ k ih => rw [Rlx.rnd, ih, rlx_fix_to h (Nat.le_refl _)]
theorem rlx_fix_later {d : List Int} {a b : Nat} (h : X.fix (X.rnd d a)) (hab : a ≤ b) : X.rnd d b = X.rnd d a := by
  induction b with
  | zero => obtain rfl : a = 0 := by omega
            rfl
  | succ b ih =>
    by_cases e : a = b + 1
    · rw [e]
    · rw [Rlx.rnd, ih (by omega), rlx_fix_to h (Nat.le_refl _)]
/-- Some arc can: the round's sum is lower. -/
theorem rlx_sum (hX : X.ends n) {d : List Int} (hd : d.length = n) (h : ¬ X.fix d) : sm n (gi (X.to d X.J)) < sm n (gi d) := by
  obtain ⟨j, hj⟩ : ∃ j, ¬ (j < X.J → ¬ X.can d j) := by
    apply Classical.byContradiction
    intro h'
    exact h fun j => Classical.byContradiction fun h2 => h' ⟨j, h2⟩
  have hjJ : j < X.J := Classical.byContradiction fun h => hj fun h' => absurd h' h
  have hcan : X.can d j := Classical.byContradiction fun h => hj fun _ => h
  have hlow : gi (X.to d X.J) (X.v j) < gi d (X.v j) := by
    have h1 := rlx_to_le2 hX hd (show j + 1 ≤ X.J from hjJ) (Nat.le_refl _) (X.v j)
    have h2 : gi (X.to d (j + 1)) (X.v j) ≤ gi (X.to d j) (X.u j) + X.c j ∨ X.F ≤ gi (X.to d j) (X.u j) := by
      by_cases hF : gi (X.to d j) (X.u j) < X.F
      · refine .inl ?_
        rw [Rlx.to, rlx_gi hX (by rw [rlx_to_len]; exact hd) hjJ]
        split
        · exact Int.le_refl _
        · rename_i hn
          apply Classical.byContradiction
          intro hlt
          exact hn ⟨⟨hcan.1, hF, by omega⟩, rfl⟩
      · exact .inr (by omega)
    have h3 := rlx_to_le hX hd (show j ≤ X.J by omega) (X.u j)
    have h4 := hcan.2.1
    have h5 := hcan.2.2
    rcases h2 with h2 | h2 <;> omega
  have key : sm n (gi (X.to d X.J)) ≤ sm n (fun x => gi d x + (if x = X.v j then (-1) else 0)) := sm_le fun x hx => by
    by_cases e : x = X.v j
    · simp only [if_pos e]
      rw [e]; omega
    · simp only [if_neg e]
      have := rlx_to_le hX hd (Nat.le_refl X.J) x
      omega
  rw [sm_add, sm_one _ (hX j hjJ).2] at key
  omega
/-- A floor under all that can be known. -/
def Rlx.floor (X : Rlx) (n : Nat) (ρ : Nat → Int) : Prop := ∀ j, j < X.J → X.on j = true → ρ (X.v j) ≤ ρ (X.u j) + X.c j
theorem rlx_step_floor (hX : X.ends n) {ρ : Nat → Int} (hρ : X.floor n ρ) {d : List Int} (hd : d.length = n) {j : Nat} (hj : j < X.J) (h : ∀ x, x < n → ρ x ≤ gi d x) : ∀ x, x < n → ρ x ≤ gi (X.step d j) x := by
  intro x hx
  rw [rlx_gi hX hd hj]
  split
  · rename_i h'
    have := h _ (hX j hj).1
    have := hρ j hj h'.1.1
    rw [h'.2]; omega
  · exact h x hx
theorem rlx_to_floor (hX : X.ends n) {ρ : Nat → Int} (hρ : X.floor n ρ) {d : List Int} (hd : d.length = n) (h : ∀ x, x < n → ρ x ≤ gi d x) {k : Nat} (hk : k ≤ X.J) : ∀ x, x < n → ρ x ≤ gi (X.to d k) x := by
  induction k with
  | zero => exact h
  | succ k ih => exact rlx_step_floor hX hρ (by rw [rlx_to_len]; exact hd) (by omega) (ih (by omega))
theorem rlx_rnd_floor (hX : X.ends n) {ρ : Nat → Int} (hρ : X.floor n ρ) {d : List Int} (hd : d.length = n) (h : ∀ x, x < n → ρ x ≤ gi d x) (r : Nat) : ∀ x, x < n → ρ x ≤ gi (X.rnd d r) x := by
  induction r with
  | zero => exact h
  | succ k ih => exact rlx_to_floor hX hρ (by rw [rlx_rnd_len]; exact hd) ih (Nat.le_refl _)
/-- Some day nothing changes. -/
theorem rlx_some (hX : X.ends n) {ρ : Nat → Int} (hρ : X.floor n ρ) {d : List Int} (hd : d.length = n) (h : ∀ x, x < n → ρ x ≤ gi d x) : ∃ K, X.fix (X.rnd d K) := by
  have key : ∀ (m : Nat) (r : Nat), sm n (gi (X.rnd d r)) ≤ sm n ρ + m → ∃ K, X.fix (X.rnd d K) := by
    intro m
    induction m with
    | zero =>
      intro r hr
      refine ⟨r, Classical.byContradiction fun hf => ?_⟩
      have h1 := rlx_sum hX (by rw [rlx_rnd_len]; exact hd) hf
      have h2 : sm n ρ ≤ sm n (gi (X.rnd d (r + 1))) := sm_le (rlx_rnd_floor hX hρ hd h (r + 1))
      rw [Rlx.rnd] at h2
      omega
    | succ m ih =>
      intro r hr
      by_cases hf : X.fix (X.rnd d r)
      · exact ⟨r, hf⟩
      · have h1 := rlx_sum hX (by rw [rlx_rnd_len]; exact hd) hf
        exact ih (r + 1) (by rw [Rlx.rnd]; omega)
  have h0 : sm n ρ ≤ sm n (gi (X.rnd d 0)) := sm_le (rlx_rnd_floor hX hρ hd h 0)
  exact key (sm n (gi (X.rnd d 0)) - sm n ρ).toNat 0 (by omega)
/-- As low as it will ever be. -/
def lowN (n : Nat) (L d : List Int) : List Nat := (List.range n).filter fun x => decide (gi d x = gi L x)
theorem lowN_le (n : Nat) (L d : List Int) : (lowN n L d).length ≤ n := by
  have := List.length_filter_le (fun x => decide (gi d x = gi L x)) (List.range n)
  rw [List.length_range] at this
  exact this
theorem count_lt {p q : Nat → Bool} (hpq : ∀ x, p x = true → q x = true) : ∀ (l : List Nat), (∃ x ∈ l, q x = true ∧ p x = false) → (l.filter p).length < (l.filter q).length := by
  have hle : ∀ l : List Nat, (l.filter p).length ≤ (l.filter q).length := by
    intro l
    induction l with
    | nil => exact Nat.le_refl _
    | cons a l ih =>
      rw [List.filter_cons, List.filter_cons]
      cases hp : p a with
      | true => rw [hpq a hp]; simpa using ih
      | false => cases q a <;> simp <;> omega
  intro l
  induction l with
  | nil => rintro ⟨x, hx, _⟩; cases hx
  | cons a l ih =>
    rintro ⟨x, hx, hq, hp⟩
    rw [List.filter_cons, List.filter_cons]
    rcases List.mem_cons.1 hx with rfl | hx
    · have := hle l
      rw [hp, hq]
      simp
      omega
    · have := ih ⟨x, hx, hq, hp⟩
      cases hpa : p a with
      | true => rw [hpq a hpa]; simpa using this
      | false => cases q a <;> simp <;> omega
/-- Behind as many rounds as there are nodes nothing changes any more. -/
theorem rlx_done (hX : X.ends n) {ρ : Nat → Int} (hρ : X.floor n ρ) {d : List Int} (hd : d.length = n) (h : ∀ x, x < n → ρ x ≤ gi d x) : X.fix (X.rnd d n) := by
  obtain ⟨K, hK⟩ := rlx_some hX hρ hd h
  apply Classical.byContradiction
  intro hnf
  have hKn : n < K := by
    apply Classical.byContradiction
    intro hle
    rw [rlx_fix_later hK (by omega)] at hnf
    exact hnf hK
  obtain ⟨L, hL⟩ : ∃ L, X.rnd d K = L := ⟨_, rfl⟩
  rw [hL] at hK
  have hlen : ∀ r, (X.rnd d r).length = n := fun r => by rw [rlx_rnd_len]; exact hd
  -- L is a floor wherever it isn't far
  have hfloor : ∀ j, j < X.J → X.on j = true → gi L (X.u j) < X.F → gi L (X.v j) ≤ gi L (X.u j) + X.c j := fun j hj hon hF => by
    apply Classical.byContradiction
    intro h'
    exact hK j hj ⟨hon, hF, by omega⟩
  have stepL : ∀ (d' : List Int) (j : Nat), d'.length = n → j < X.J → (∀ x, gi L x ≤ gi d' x) → ∀ x, gi L x ≤ gi (X.step d' j) x := by
    intro d' j hd' hj hle x
    rw [rlx_gi hX hd' hj]
    split
    · rename_i h'
      have h1 := hle (X.u j)
      have h2 := hfloor j hj h'.1.1 (by have := h'.1.2.1; omega)
      rw [h'.2]; omega
    · exact hle x
  have toL : ∀ (d' : List Int), d'.length = n → (∀ x, gi L x ≤ gi d' x) → ∀ k, k ≤ X.J → ∀ x, gi L x ≤ gi (X.to d' k) x := by
    intro d' hd' hle k
    induction k with
    | zero => intro _; exact hle
    | succ k ih => intro hk; exact stepL _ k (by rw [rlx_to_len]; exact hd') (by omega) (ih (by omega))
  have rndL : ∀ k, k ≤ K → ∀ x, gi L x ≤ gi (X.rnd d k) x := fun k hk x => by rw [← hL]; exact rlx_rnd_le hX hd hk x
  -- one more with each round
  have grow : ∀ k, k < K → ¬ X.fix (X.rnd d k) → (lowN n L (X.rnd d k)).length < (lowN n L (X.rnd d (k + 1))).length := by
    intro k hk hnf
    have hsub : ∀ x, decide (gi (X.rnd d k) x = gi L x) = true → decide (gi (X.rnd d (k + 1)) x = gi L x) = true := fun x hx => by
      rw [decide_eq_true_eq] at hx ⊢
      have h1 : gi (X.rnd d (k + 1)) x ≤ gi (X.rnd d k) x := rlx_rnd_le hX hd (Nat.le_succ k) x
      have h2 := rndL (k + 1) hk x
      omega
    refine count_lt hsub _ ?_
    apply Classical.byContradiction
    intro hno
    have hsame : ∀ x, x < n → gi (X.rnd d (k + 1)) x = gi L x → gi (X.rnd d k) x = gi L x := fun x hx hq => by
      apply Classical.byContradiction
      intro hp
      exact hno ⟨x, List.mem_range.2 hx, by simpa using hq, by simpa using hp⟩
    have hclo : ∀ j, j < X.J → X.on j = true → gi L (X.u j) < X.F → gi (X.rnd d k) (X.u j) = gi L (X.u j) → gi L (X.u j) + X.c j = gi L (X.v j) → gi (X.rnd d k) (X.v j) = gi L (X.v j) := by
      intro j hj hon hF hu hc
      refine hsame _ (hX j hj).2 ?_
      have hlo := rndL (k + 1) hk (X.v j)
      have h1 : gi (X.rnd d (k + 1)) (X.v j) ≤ gi (X.to (X.rnd d k) (j + 1)) (X.v j) := rlx_to_le2 hX (hlen k) (show j + 1 ≤ X.J from hj) (Nat.le_refl _) _
      have h2 := rlx_to_le hX (hlen k) (show j ≤ X.J by omega) (X.u j)
      have h3 := toL _ (hlen k) (rndL k (by omega)) j (by omega) (X.u j)
      have h4 : gi (X.to (X.rnd d k) (j + 1)) (X.v j) ≤ gi L (X.v j) := by
        rw [Rlx.to, rlx_gi hX (by rw [rlx_to_len]; exact hlen k) hj]
        split
        · omega
        · rename_i hn
          apply Classical.byContradiction
          intro hlt
          exact hn ⟨⟨hon, by omega, by omega⟩, rfl⟩
      omega
    have inv : ∀ (d' : List Int), d'.length = n → (∀ x, gi L x ≤ gi d' x) → (∀ x, x < n → gi d' x = gi L x → gi (X.rnd d k) x = gi L x) → ∀ i, i ≤ X.J → ∀ x, x < n → gi (X.to d' i) x = gi L x → gi (X.rnd d k) x = gi L x := by
      intro d' hd' hle hin i
      induction i with
      | zero => intro _; exact hin
      | succ i ih =>
        intro hi x hx hxe
        rw [Rlx.to, rlx_gi hX (by rw [rlx_to_len]; exact hd') (by omega)] at hxe
        split at hxe
        · rename_i hc
          obtain ⟨⟨c1, c2, c3⟩, rfl⟩ := hc
          have hlo := toL d' hd' hle i (by omega) (X.u i)
          have hfl := hfloor i (by omega) c1 (by omega)
          have hue := ih (by omega) _ (hX i (by omega)).1 (by omega)
          exact hclo i (by omega) c1 (by omega) hue (by omega)
        · exact ih (by omega) x hx hxe
    have all : ∀ r, k ≤ r → r ≤ K → ∀ x, x < n → gi (X.rnd d r) x = gi L x → gi (X.rnd d k) x = gi L x := by
      intro r
      induction r with
      | zero =>
        intro h0 _
        obtain rfl : k = 0 := by omega
        exact fun _ _ h => h
      | succ r ih =>
        intro h1 h2
        by_cases e : k = r + 1
        · rw [e]; exact fun _ _ h => h
        · exact inv _ (hlen r) (rndL r (by omega)) (ih (by omega) (by omega)) X.J (Nat.le_refl _)
    have heq : ∀ x, x < n → gi (X.rnd d k) x = gi L x := fun x hx => all K (by omega) (Nat.le_refl _) x hx (by rw [hL])
    refine hnf fun j hj hc => ?_
    obtain ⟨c1, c2, c3⟩ := hc
    rw [heq _ (hX j hj).1] at c2 c3
    rw [heq _ (hX j hj).2] at c3
    exact hK j hj ⟨c1, c2, c3⟩
  have count : ∀ k, k ≤ n → k ≤ (lowN n L (X.rnd d k)).length := by
    intro k
    induction k with
    | zero => intro _; exact Nat.zero_le _
    | succ k ih =>
      intro hk
      have h1 := ih (by omega)
      have h2 := grow k (by omega) (fun hf => hnf (by rw [rlx_fix_later hf (show k ≤ n by omega)]; exact hf))
      omega
  have hg := grow n hKn hnf
  have hc := count n (Nat.le_refl _)
  have := lowN_le n L (X.rnd d (n + 1))
  omega
end
end Go.Proofs.Ytmekcpbcgelliaa
