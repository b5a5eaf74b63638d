/- Matchings: what 'grow' computes, in plain words. -/
import Derived.Test.YtmekcpbcgelliaaMtPlain
namespace Go.Proofs.Ytmekcpbcgelliaa
/-- The number at a place of a row. -/
def gi (l : List Int) (i : Nat) : Int := l.getD i (-1)
theorem gi_get {l : List Int} {i : Nat} (h : i < l.length) : gi l i = l[i] := by
  unfold gi
  rw [List.getD_eq_getElem?_getD, List.getElem?_eq_getElem h]
  rfl
theorem gi_set {l : List Int} {i : Nat} (h : i < l.length) (v : Int) (j : Nat) : gi (l.set i v) j = if j = i then v else gi l j := by
  unfold gi
  rw [List.getD_eq_getElem?_getD, List.getD_eq_getElem?_getD, List.getElem?_set]
  by_cases e : j = i
  · subst e
    rw [if_pos rfl, if_pos rfl, if_pos h]
    rfl
  · rw [if_neg (fun e' => e e'.symm), if_neg e]
structure PSt where
  of : List Int
  wi : List Int
  di : List Int
def PSt.join (s : PSt) (a b : Nat) : PSt := { s with of := s.of.set a b, wi := s.wi.set b a }
def growL (step : Nat → PSt → Option (Bool × PSt)) (a : Nat) : List Nat → PSt → Option (Bool × PSt)
  | [], s => some (false, { s with di := s.di.set a (-2) })
  | b :: bs, s =>
    if gi s.wi b < 0 then some (true, s.join a b)
    else if gi s.di (gi s.wi b).toNat = gi s.di a + 1 then
      match step (gi s.wi b).toNat s with
      | none => none
      | some (true, s') => some (true, s'.join a b)
      | some (false, s') => growL step a bs s'
    else growL step a bs s
/-- 'grow', as deep as f; none: it goes deeper. -/
def growF (near : Nat → List Nat) : Nat → Nat → PSt → Option (Bool × PSt)
  | 0, _, _ => none
  | f + 1, a, s => growL (growF near f) a (near a) s
/-- From here a way along the levels leads to a B that isn't matched. -/
inductive Good (near : Nat → List Nat) (wi di : List Int) : Nat → Prop
  | free (a b : Nat) : b ∈ near a → gi wi b < 0 → Good near wi di a
  | step (a b : Nat) : b ∈ near a → 0 ≤ gi wi b → gi di (gi wi b).toNat = gi di a + 1 → Good near wi di (gi wi b).toNat → Good near wi di a
/-- Nothing is matched anew; who was given up leads nowhere. -/
structure Dead (near : Nat → List Nat) (s0 s : PSt) : Prop where
  of : s.of = s0.of
  wi : s.wi = s0.wi
  len : s.di.length = s0.di.length
  di : ∀ x, gi s.di x = gi s0.di x ∨ (gi s.di x = -2 ∧ ¬ Good near s0.wi s0.di x)
theorem Dead.refl (near : Nat → List Nat) (s : PSt) : Dead near s s := ⟨rfl, rfl, rfl, fun _ => .inl rfl⟩
/-- One more is matched, by way of this A. -/
structure Grown (E : Es) (n m : Nat) (s0 : PSt) (a : Nat) (s : PSt) : Prop where
  lof : s.of.length = s0.of.length
  lwi : s.wi.length = s0.wi.length
  ldi : s.di.length = s0.di.length
  at_ : 0 ≤ gi s.of a
  ne : gi s.of a ≠ gi s0.of a
  fwd : ∀ x, x < n → 0 ≤ gi s.of x → (x, (gi s.of x).toNat) ∈ E ∧ gi s.wi (gi s.of x).toNat = x
  bwd : ∀ b, b < m → 0 ≤ gi s.wi b → (b : Int) = gi s0.of a ∨ ((gi s.wi b).toNat < n ∧ gi s.of (gi s.wi b).toNat = b)
  had : ∀ x, x ≠ a → (0 ≤ gi s.of x ↔ 0 ≤ gi s0.of x)
  keep : ∀ x, x ≠ a → gi s0.di x ≤ gi s0.di a → gi s.of x = gi s0.of x
  keepw : ∀ b, 0 ≤ gi s0.wi b → gi s0.di (gi s0.wi b).toNat ≤ gi s0.di a → gi s.wi b = gi s0.wi b
  lowo : (∀ x, -1 ≤ gi s0.of x) → ∀ x, -1 ≤ gi s.of x
  lo : ∀ x, -2 ≤ gi s.di x
  hi : ∀ N, (∀ x, gi s0.di x < N) → ∀ x, gi s.di x < N
section
variable {E : Es} {near : Nat → List Nat} {n m : Nat}
/-- What holds at a call of 'grow'. -/
structure Gin (E : Es) (near : Nat → List Nat) (n m : Nat) (N : Int) (s : PSt) : Prop where
  pairs : Pairs E n m (gi s.of) (gi s.wi)
  lof : s.of.length = n
  lwi : s.wi.length = m
  ldi : s.di.length = n
  lo : ∀ x, -2 ≤ gi s.di x
  hi : ∀ x, gi s.di x < N
theorem join_free {N : Int} {s0 s : PSt} (hg : Gin E near n m N s0) (hd : Dead near s0 s) (hb : ∀ a b, b ∈ near a → (a, b) ∈ E) (hE : ∀ p ∈ E, p.1 < n ∧ p.2 < m) (hN : 0 ≤ N)
    {a b : Nat} (hn : b ∈ near a) (hf : gi s0.wi b < 0) : Grown E n m s0 a (s.join a b) := by
  obtain ⟨ha, hbm⟩ := hE _ (hb a b hn)
  have l1 : a < s.of.length := by rw [hd.of, hg.lof]; exact ha
  have l2 : b < s.wi.length := by rw [hd.wi, hg.lwi]; exact hbm
  have o : ∀ x, gi (s.join a b).of x = if x = a then (b : Int) else gi s0.of x := fun x => by
    show gi (s.of.set a b) x = _
    rw [gi_set l1, hd.of]
  have wv : ∀ x, gi (s.join a b).wi x = if x = b then (a : Int) else gi s0.wi x := fun x => by
    show gi (s.wi.set b a) x = _
    rw [gi_set l2, hd.wi]
  have nob : ∀ x, x < n → gi s0.of x ≠ (b : Int) := fun x hx e => by
    have := (hg.pairs.fwd x hx (by omega)).2
    rw [e] at this
    simp only [Int.toNat_natCast] at this
    omega
  refine ⟨by simp [PSt.join, hd.of], by simp [PSt.join, hd.wi], hd.len, by rw [o, if_pos rfl]; omega, by rw [o, if_pos rfl]; exact fun e => nob a ha e.symm, ?_, ?_, ?_, ?_, ?_, ?_, ?_, ?_⟩
  · intro x hx h
    rw [o] at h ⊢
    by_cases e : x = a
    · subst e
      rw [if_pos rfl, Int.toNat_natCast, wv, if_pos rfl]
      exact ⟨hb _ _ hn, rfl⟩
    · rw [if_neg e] at h ⊢
      obtain ⟨h1, h2⟩ := hg.pairs.fwd x hx h
      refine ⟨h1, ?_⟩
      rw [wv, if_neg ?_]
      · exact h2
      · intro e2
        exact nob x hx (by omega)
  · intro c hc h
    rw [wv] at h ⊢
    by_cases e : c = b
    · subst e
      rw [if_pos rfl, Int.toNat_natCast, o, if_pos rfl]
      exact .inr ⟨ha, rfl⟩
    · rw [if_neg e] at h ⊢
      obtain ⟨h1, h2⟩ := hg.pairs.bwd c hc h
      by_cases e2 : (gi s0.wi c).toNat = a
      · rw [e2] at h2
        exact .inl h2.symm
      · rw [o, if_neg e2]
        exact .inr ⟨h1, h2⟩
  · intro x hx
    rw [o, if_neg hx]
  · intro x hx _
    rw [o, if_neg hx]
  · intro c hc _
    rw [wv, if_neg ?_]
    rintro rfl
    omega
  · intro h x
    rw [o]
    split
    · omega
    · exact h x
  · intro x
    show -2 ≤ gi s.di x
    rcases hd.di x with h | h
    · rw [h]; exact hg.lo x
    · omega
  · intro K hK x
    show gi s.di x < K
    rcases hd.di x with h | h
    · rw [h]; exact hK x
    · have := hK x
      have := hg.lo x
      omega
theorem join_step {N : Int} {s0 s : PSt} {a b q : Nat} (hg : Gin E near n m N s0) (hb : ∀ a b, b ∈ near a → (a, b) ∈ E) (hE : ∀ p ∈ E, p.1 < n ∧ p.2 < m)
    (hn : b ∈ near a) (hq : gi s0.wi b = (q : Int)) (hlev : gi s0.di q = gi s0.di a + 1) (hw : Grown E n m s0 q s) : Grown E n m s0 a (s.join a b) := by
  obtain ⟨ha, hbm⟩ := hE _ (hb a b hn)
  have hqb := hg.pairs.bwd b hbm (by omega)
  rw [hq, Int.toNat_natCast] at hqb
  obtain ⟨hqn, hob⟩ := hqb
  have hqa : q ≠ a := by rintro rfl; omega
  have l1 : a < s.of.length := by rw [hw.lof, hg.lof]; exact ha
  have l2 : b < s.wi.length := by rw [hw.lwi, hg.lwi]; exact hbm
  have o : ∀ x, gi (s.join a b).of x = if x = a then (b : Int) else gi s.of x := fun x => by
    show gi (s.of.set a b) x = _
    rw [gi_set l1]
  have wv : ∀ x, gi (s.join a b).wi x = if x = b then (a : Int) else gi s.wi x := fun x => by
    show gi (s.wi.set b a) x = _
    rw [gi_set l2]
  have hkb : gi s.wi b = (q : Int) := by rw [hw.keepw b (by omega) (by rw [hq, Int.toNat_natCast]; omega), hq]
  have hka : gi s.of a = gi s0.of a := hw.keep a hqa.symm (by omega)
  have nob : ∀ x, x < n → gi s.of x ≠ (b : Int) := fun x hx e => by
    have h1 := (hw.fwd x hx (by omega)).2
    rw [e, Int.toNat_natCast, hkb] at h1
    have hxq : x = q := by omega
    subst hxq
    exact hw.ne (e.trans hob.symm)
  refine ⟨by simp [PSt.join, hw.lof], by simp [PSt.join, hw.lwi], hw.ldi, by rw [o, if_pos rfl]; omega, ?_, ?_, ?_, ?_, ?_, ?_, ?_, hw.lo, fun K hK => hw.hi K hK⟩
  · rw [o, if_pos rfl]
    intro e
    have h1 := (hg.pairs.fwd a ha (by omega)).2
    rw [← e, Int.toNat_natCast, hq] at h1
    omega
  · intro x hx h
    rw [o] at h ⊢
    by_cases e : x = a
    · subst e
      rw [if_pos rfl, Int.toNat_natCast, wv, if_pos rfl]
      exact ⟨hb _ _ hn, rfl⟩
    · rw [if_neg e] at h ⊢
      obtain ⟨h1, h2⟩ := hw.fwd x hx h
      refine ⟨h1, ?_⟩
      rw [wv, if_neg ?_]
      · exact h2
      · intro e2
        exact nob x hx (by omega)
  · intro c hc h
    rw [wv] at h ⊢
    by_cases e : c = b
    · subst e
      rw [if_pos rfl, Int.toNat_natCast, o, if_pos rfl]
      exact .inr ⟨ha, rfl⟩
    · rw [if_neg e] at h ⊢
      rcases hw.bwd c hc h with h1 | ⟨h1, h2⟩
      · rw [hob] at h1
        omega
      · by_cases e2 : (gi s.wi c).toNat = a
        · rw [e2, hka] at h2
          exact .inl h2.symm
        · rw [o, if_neg e2]
          exact .inr ⟨h1, h2⟩
  · intro x hx
    rw [o, if_neg hx]
    by_cases e : x = q
    · subst e
      have := hw.at_
      rw [hob]
      omega
    · exact hw.had x e
  · intro x hx hl
    rw [o, if_neg hx]
    refine hw.keep x ?_ (by omega)
    rintro rfl
    omega
  · intro c hc hl
    have hcb : c ≠ b := by
      rintro rfl
      rw [hq, Int.toNat_natCast] at hl
      omega
    rw [wv, if_neg hcb]
    exact hw.keepw c hc (by omega)
  · intro h x
    rw [o]
    split
    · omega
    · exact hw.lowo h x
/-- What 'grow' answers. -/
def GrowOut (E : Es) (near : Nat → List Nat) (n m : Nat) (s0 : PSt) (a : Nat) (s : PSt) (r : Bool × PSt) : Prop :=
  (r.1 = false ∧ Dead near s0 r.2 ∧ ¬ Good near s0.wi s0.di a ∧ ∀ x, x ≠ a → gi s0.di x ≤ gi s0.di a → gi r.2.di x = gi s.di x) ∨ (r.1 = true ∧ Grown E n m s0 a r.2)
theorem growF_out {N : Int} (hb : ∀ a b, b ∈ near a → (a, b) ∈ E) (hE : ∀ p ∈ E, p.1 < n ∧ p.2 < m) (hN : 0 ≤ N) {s0 : PSt} (hg : Gin E near n m N s0) :
    ∀ (f a : Nat) (s : PSt), a < n → Dead near s0 s → gi s.di a = gi s0.di a → N ≤ gi s0.di a + f → ∃ r, growF near f a s = some r ∧ GrowOut E near n m s0 a s r := by
  intro f
  induction f with
  | zero => intro a s ha _ _ hf; have := hg.hi a; omega
  | succ f ih =>
    intro a s1 ha hd hsa hf
    have key : ∀ (bs : List Nat) (s : PSt), (∀ b ∈ bs, b ∈ near a) → Dead near s0 s → (∀ x, gi s0.di x ≤ gi s0.di a → gi s.di x = gi s1.di x) →
        (∀ b ∈ near a, b ∈ bs ∨ (0 ≤ gi s0.wi b ∧ (gi s0.di (gi s0.wi b).toNat = gi s0.di a + 1 → ¬ Good near s0.wi s0.di (gi s0.wi b).toNat))) →
        ∃ r, growL (growF near f) a bs s = some r ∧ GrowOut E near n m s0 a s1 r := by
      intro bs
      induction bs with
      | nil =>
        intro s _ hd hlow hall
        have hng : ¬ Good near s0.wi s0.di a := by
          intro h
          cases h with
          | free _ b h1 h2 =>
            rcases hall b h1 with h3 | h3
            · cases h3
            · omega
          | step _ b h1 h2 h4 h5 =>
            rcases hall b h1 with h3 | h3
            · cases h3
            · exact h3.2 h4 h5
        have hal : a < s.di.length := by rw [hd.len, hg.ldi]; exact ha
        refine ⟨_, rfl, .inl ⟨rfl, ⟨hd.of, hd.wi, by simp [hd.len], fun x => ?_⟩, hng, fun x hx hxl => ?_⟩⟩
        · show gi (s.di.set a (-2)) x = gi s0.di x ∨ (gi (s.di.set a (-2)) x = -2 ∧ _)
          rw [gi_set hal]
          by_cases e : x = a
          · subst e
            rw [if_pos rfl]
            exact .inr ⟨rfl, hng⟩
          · rw [if_neg e]
            exact hd.di x
        · show gi (s.di.set a (-2)) x = _
          rw [gi_set hal, if_neg hx]
          exact hlow x hxl
      | cons b bs ihb =>
        intro s hbs hd hlow hall
        have hbn := hbs b (by simp)
        have hsa' : gi s.di a = gi s0.di a := (hlow a (Int.le_refl _)).trans hsa
        have hbs' : ∀ c ∈ bs, c ∈ near a := fun c hc => hbs c (by simp [hc])
        have rest : ∀ s, Dead near s0 s → (∀ x, gi s0.di x ≤ gi s0.di a → gi s.di x = gi s1.di x) → (0 ≤ gi s0.wi b ∧ (gi s0.di (gi s0.wi b).toNat = gi s0.di a + 1 → ¬ Good near s0.wi s0.di (gi s0.wi b).toNat)) → ∃ r, growL (growF near f) a bs s = some r ∧ GrowOut E near n m s0 a s1 r := by
          intro s hd hlow hbad
          refine ihb s hbs' hd hlow fun c hc => ?_
          rcases hall c hc with h | h
          · rcases List.mem_cons.1 h with h | h
            · subst h; exact .inr hbad
            · exact .inl h
          · exact .inr h
        unfold growL
        by_cases hfree : gi s.wi b < 0
        · rw [if_pos hfree]
          rw [hd.wi] at hfree
          exact ⟨_, rfl, .inr ⟨rfl, join_free hg hd hb hE hN hbn hfree⟩⟩
        · rw [if_neg hfree]
          rw [hd.wi] at hfree ⊢
          obtain ⟨q, hq⟩ : ∃ q : Nat, gi s0.wi b = (q : Int) := ⟨(gi s0.wi b).toNat, by omega⟩
          have hqt : (gi s0.wi b).toNat = q := by omega
          rw [hqt]
          rw [hqt] at rest
          have hqn : q < n := by
            have := (hg.pairs.bwd b (hE _ (hb a b hbn)).2 (by omega)).1
            omega
          by_cases hlev : gi s.di q = gi s.di a + 1
          · rw [if_pos hlev]
            rw [hsa'] at hlev
            have hq0 : gi s.di q = gi s0.di q := by
              rcases hd.di q with h | h
              · exact h
              · have := hg.lo a
                omega
            have hlev0 : gi s0.di q = gi s0.di a + 1 := by omega
            obtain ⟨⟨r1, r2⟩, hr, ⟨h1, h2, h3, h4⟩ | ⟨h1, h2⟩⟩ := ih q s hqn hd hq0 (by omega)
            · simp only at h1 h2 h4
              subst h1
              rw [hr]
              refine rest _ h2 (fun x hx => ?_) ⟨by omega, fun _ => h3⟩
              rw [h4 x (by rintro rfl; omega) (by omega)]
              exact hlow x hx
            · simp only at h1 h2
              subst h1
              rw [hr]
              exact ⟨_, rfl, .inr ⟨rfl, join_step hg hb hE hbn hq hlev0 h2⟩⟩
          · rw [if_neg hlev]
            refine rest s hd hlow ⟨by omega, fun h => ?_⟩
            rcases hd.di q with h' | h'
            · exact absurd (by omega) hlev
            · exact h'.2
    exact key (near a) s1 (fun _ h => h) hd (fun _ _ => rfl) fun b h => .inl h
end
end Go.Proofs.Ytmekcpbcgelliaa
