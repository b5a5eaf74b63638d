/- Matchings: the greatest one, in plain words. -/
import Derived.Test.YtppjpledjhinbaaDoorMem
namespace Go.Proofs.YtppjpledjhinbaaDoor
theorem nodup_sub_len {α : Type} [DecidableEq α] : ∀ {a b : List α}, a.Nodup → (∀ x ∈ a, x ∈ b) → a.length ≤ b.length
  | [], _, _, _ => Nat.zero_le _
  | x :: a, b, h, hs => by
    have hx : x ∈ b := hs x (by simp)
    have h1 := List.length_erase_of_mem hx
    have h2 := nodup_sub_len (a := a) (b := b.erase x) (List.nodup_cons.1 h).2 (fun y hy => by
      refine (List.mem_erase_of_ne ?_).2 (hs y (by simp [hy]))
      rintro rfl
      exact (List.nodup_cons.1 h).1 hy)
    have := List.length_pos_of_mem hx
    simp only [List.length_cons]
    omega
theorem nodup_map_on {α β : Type} (f : α → β) : ∀ {l : List α}, l.Nodup → (∀ x ∈ l, ∀ y ∈ l, f x = f y → x = y) → (l.map f).Nodup
  | [], _, _ => by simp
  | x :: l, h, hf => by
    rw [List.map_cons, List.nodup_cons]
    refine ⟨fun hx => ?_, nodup_map_on f (List.nodup_cons.1 h).2 fun a ha b hb => hf a (by simp [ha]) b (by simp [hb])⟩
    obtain ⟨y, hy, e⟩ := List.mem_map.1 hx
    have := hf y (by simp [hy]) x (by simp) e
    subst this
    exact (List.nodup_cons.1 h).1 hy
theorem len_parts {α : Type} (q : α → Bool) : ∀ l : List α, (l.filter q).length + (l.filter (fun x => !q x)).length = l.length
  | [] => rfl
  | x :: l => by
    have := len_parts q l
    cases h : q x <;> simp [h] <;> omega
abbrev Es := List (Nat × Nat)
/-- A matching of k edges. -/
def HasM (E : Es) (k : Nat) : Prop := ∃ M : Es, M.length = k ∧ (∀ p ∈ M, p ∈ E) ∧ (M.map Prod.fst).Nodup ∧ (M.map Prod.snd).Nodup
/-- A cover of at most k nodes. -/
def HasC (E : Es) (k : Nat) : Prop := ∃ A B : List Nat, A.length + B.length ≤ k ∧ ∀ p ∈ E, p.1 ∈ A ∨ p.2 ∈ B
/-- The greatest matching has k edges. -/
def NuIs (E : Es) (k : Nat) : Prop := HasM E k ∧ HasC E k
theorem HasM.le {E : Es} {k c : Nat} (h : HasM E k) (hc : HasC E c) : k ≤ c := by
  obtain ⟨M, rfl, hM, h1, h2⟩ := h
  obtain ⟨A, B, hl, hcov⟩ := hc
  have hp := len_parts (fun p : Nat × Nat => decide (p.1 ∈ A)) M
  have ha : ((M.filter (fun p => decide (p.1 ∈ A))).map Prod.fst).length ≤ A.length := by
    refine nodup_sub_len (h1.sublist (List.filter_sublist.map _)) fun x hx => ?_
    obtain ⟨p, hp, rfl⟩ := List.mem_map.1 hx
    simpa using (List.mem_filter.1 hp).2
  have hb : ((M.filter (fun p => !decide (p.1 ∈ A))).map Prod.snd).length ≤ B.length := by
    refine nodup_sub_len (h2.sublist (List.filter_sublist.map _)) fun x hx => ?_
    obtain ⟨p, hp, rfl⟩ := List.mem_map.1 hx
    have h3 := List.mem_filter.1 hp
    rcases hcov p (hM p h3.1) with h | h
    · simp [h] at h3
    · exact h
  rw [List.length_map] at ha hb
  omega
theorem NuIs.uniq {E : Es} {a b : Nat} (h : NuIs E a) (h' : NuIs E b) : a = b := Nat.le_antisymm (h.1.le h'.2) (h'.1.le h.2)
theorem HasM.sub {E F : Es} {k : Nat} (h : HasM E k) (hs : ∀ p ∈ E, p ∈ F) : HasM F k := by
  obtain ⟨M, h0, h1, h2⟩ := h
  exact ⟨M, h0, fun p hp => hs p (h1 p hp), h2⟩
theorem HasC.sub {E F : Es} {k : Nat} (h : HasC E k) (hs : ∀ p ∈ F, p ∈ E) : HasC F k := by
  obtain ⟨A, B, h0, h1⟩ := h
  exact ⟨A, B, h0, fun p hp => h1 p (hs p hp)⟩
theorem HasC.mono {E : Es} {k k' : Nat} (h : HasC E k) (hk : k ≤ k') : HasC E k' := by
  obtain ⟨A, B, h0, h1⟩ := h
  exact ⟨A, B, by omega, h1⟩
theorem NuIs.same {E F : Es} {k : Nat} (h : NuIs E k) (hs : ∀ p, p ∈ E ↔ p ∈ F) : NuIs F k := ⟨h.1.sub fun p hp => (hs p).1 hp, h.2.sub fun p hp => (hs p).2 hp⟩
theorem nu_more {E : Es} {x : Nat × Nat} {a b : Nat} (h : NuIs E a) (h' : NuIs (E ++ [x]) b) : a ≤ b ∧ b ≤ a + 1 := by
  refine ⟨(h.1.sub fun p hp => by simp [hp]).le h'.2, ?_⟩
  obtain ⟨A, B, h0, h1⟩ := h.2
  refine h'.1.le ⟨x.1 :: A, B, by simp only [List.length_cons]; omega, fun p hp => ?_⟩
  rcases List.mem_append.1 hp with hp | hp
  · rcases h1 p hp with h | h
    · exact .inl (by simp [h])
    · exact .inr h
  · simp only [List.mem_singleton] at hp
    subst hp
    exact .inl (by simp)
theorem nu_le_left {E : Es} {n k : Nat} (hn : ∀ p ∈ E, p.1 < n) (h : NuIs E k) : k ≤ n := by
  have := h.1.le (c := n) ⟨List.range n, [], by simp, fun p hp => .inl (by simpa using hn p hp)⟩
  exact this
theorem nu_le_right {E : Es} {m k : Nat} (hm : ∀ p ∈ E, p.2 < m) (h : NuIs E k) : k ≤ m :=
  h.1.le (c := m) ⟨[], List.range m, by simp, fun p hp => .inr (by simpa using hm p hp)⟩
def turnE (E : Es) : Es := E.map fun p => (p.2, p.1)
theorem HasM.turn {E : Es} {k : Nat} (h : HasM E k) : HasM (turnE E) k := by
  obtain ⟨M, h0, h1, h2, h3⟩ := h
  refine ⟨turnE M, by simpa [turnE] using h0, fun p hp => ?_, by simpa [turnE, Function.comp_def] using h3, by simpa [turnE, Function.comp_def] using h2⟩
  obtain ⟨q, hq, rfl⟩ := List.mem_map.1 hp
  exact List.mem_map.2 ⟨q, h1 q hq, rfl⟩
theorem HasC.turn {E : Es} {k : Nat} (h : HasC E k) : HasC (turnE E) k := by
  obtain ⟨A, B, h0, h1⟩ := h
  refine ⟨B, A, by omega, fun p hp => ?_⟩
  obtain ⟨q, hq, rfl⟩ := List.mem_map.1 hp
  exact (h1 q hq).symm
theorem NuIs.turn {E : Es} {k : Nat} (h : NuIs E k) : NuIs (turnE E) k := ⟨h.1.turn, h.2.turn⟩

/-! ### A pairing -/
/-- of: the B of each A; wi: the A of each B; below 0: none. -/
structure Pairs (E : Es) (n m : Nat) (of wi : Nat → Int) : Prop where
  fwd : ∀ a, a < n → 0 ≤ of a → (a, (of a).toNat) ∈ E ∧ wi (of a).toNat = a
  bwd : ∀ b, b < m → 0 ≤ wi b → (wi b).toNat < n ∧ of (wi b).toNat = b
/-- How many A's are matched. -/
def matched (n : Nat) (of : Nat → Int) : Nat := ((List.range n).filter (fun a => decide (0 ≤ of a))).length
theorem Pairs.hasM {E : Es} {n m : Nat} {of wi : Nat → Int} (h : Pairs E n m of wi) : HasM E (matched n of) := by
  refine ⟨((List.range n).filter (fun a => decide (0 ≤ of a))).map (fun a => (a, (of a).toNat)), by rw [List.length_map]; rfl, fun p hp => ?_, ?_, ?_⟩
  · obtain ⟨a, ha, rfl⟩ := List.mem_map.1 hp
    obtain ⟨h1, h2⟩ := List.mem_filter.1 ha
    exact (h.fwd a (by simpa using h1) (by simpa using h2)).1
  · rw [List.map_map]
    have e : (Prod.fst ∘ fun a => (a, (of a).toNat)) = (id : Nat → Nat) := rfl
    rw [e, List.map_id]
    exact List.nodup_range.sublist List.filter_sublist
  · rw [List.map_map]
    refine nodup_map_on _ (List.nodup_range.sublist List.filter_sublist) fun x hx y hy e => ?_
    obtain ⟨h1, h2⟩ := List.mem_filter.1 hx
    obtain ⟨h3, h4⟩ := List.mem_filter.1 hy
    have e1 := (h.fwd x (by simpa using h1) (by simpa using h2)).2
    have e2 := (h.fwd y (by simpa using h3) (by simpa using h4)).2
    simp only [Function.comp] at e
    rw [e, e2] at e1
    omega
/-- A set that bears all that aren't matched, closed under the ways, shows that the pairing is a greatest one. -/
theorem Pairs.nu {E : Es} {n m : Nat} {of wi : Nat → Int} (h : Pairs E n m of wi) (hE : ∀ p ∈ E, p.1 < n ∧ p.2 < m) (Z : Nat → Bool)
    (h0 : ∀ a, a < n → of a < 0 → Z a = true) (h1 : ∀ p ∈ E, Z p.1 = true → 0 ≤ wi p.2 ∧ Z (wi p.2).toNat = true) : NuIs E (matched n of) := by
  refine ⟨h.hasM, (List.range n).filter (fun a => !Z a), ((List.range n).filter (fun a => Z a && decide (0 ≤ of a))).map (fun a => (of a).toNat), ?_, fun p hp => ?_⟩
  · have e1 := len_parts Z ((List.range n).filter (fun a => decide (0 ≤ of a)))
    rw [List.filter_filter, List.filter_filter] at e1
    have e2 : (List.range n).filter (fun a => !Z a) = (List.range n).filter (fun a => !Z a && decide (0 ≤ of a)) := by
      refine List.filter_congr fun a ha => ?_
      have hn : a < n := by simpa using ha
      cases hz : Z a with
      | true => rfl
      | false =>
        have : ¬ of a < 0 := fun h' => by rw [h0 a hn h'] at hz; cases hz
        simp; omega
    rw [List.length_map, e2]
    unfold matched
    omega
  · obtain ⟨ha, hb⟩ := hE p hp
    cases hz : Z p.1 with
    | false => exact .inl (List.mem_filter.2 ⟨by simpa using ha, by simp [hz]⟩)
    | true =>
      obtain ⟨h2, h3⟩ := h1 p hp hz
      obtain ⟨h4, h5⟩ := h.bwd p.2 hb h2
      refine .inr (List.mem_map.2 ⟨(wi p.2).toNat, List.mem_filter.2 ⟨by simpa using h4, ?_⟩, by rw [h5]; rfl⟩)
      rw [h3, h5]
      simp
end Go.Proofs.YtppjpledjhinbaaDoor
/- Matchings: what 'grow' computes, in plain words. -/
namespace Go.Proofs.YtppjpledjhinbaaDoor
/-- The number at a place of a row. -/
def gi (l : List Int) (i : Nat) : Int := l.getD i (-1)
theorem gi_get {l : List Int} {i : Nat} (h : i < l.length) : gi l i = l[i] := by
  unfold gi
  rw [List.getD_eq_getElem?_getD, List.getElem?_eq_getElem h]
  rfl
theorem gi_set {l : List Int} {i : Nat} (h : i < l.length) (v : Int) (j : Nat) : gi (l.set i v) j = if j = i then v else gi l j := by
  unfold gi
  rw [List.getD_eq_getElem?_getD, List.getD_eq_getElem?_getD, List.getElem?_set]
  by_cases e : j = i
  · subst e
    rw [if_pos rfl, if_pos rfl, if_pos h]
    rfl
  · rw [if_neg (fun e' => e e'.symm), if_neg e]
structure PSt where
  of : List Int
  wi : List Int
  di : List Int
def PSt.join (s : PSt) (a b : Nat) : PSt := { s with of := s.of.set a b, wi := s.wi.set b a }
def growL (step : Nat → PSt → Option (Bool × PSt)) (a : Nat) : List Nat → PSt → Option (Bool × PSt)
  | [], s => some (false, { s with di := s.di.set a (-2) })
  | b :: bs, s =>
    if gi s.wi b < 0 then some (true, s.join a b)
    else if gi s.di (gi s.wi b).toNat = gi s.di a + 1 then
      match step (gi s.wi b).toNat s with
      | none => none
      | some (true, s') => some (true, s'.join a b)
      | some (false, s') => growL step a bs s'
    else growL step a bs s
/-- 'grow', as deep as f; none: it goes deeper. -/
def growF (near : Nat → List Nat) : Nat → Nat → PSt → Option (Bool × PSt)
  | 0, _, _ => none
  | f + 1, a, s => growL (growF near f) a (near a) s
/-- From here a way along the levels leads to a B that isn't matched. -/
inductive Good (near : Nat → List Nat) (wi di : List Int) : Nat → Prop
  | free (a b : Nat) : b ∈ near a → gi wi b < 0 → Good near wi di a
  | step (a b : Nat) : b ∈ near a → 0 ≤ gi wi b → gi di (gi wi b).toNat = gi di a + 1 → Good near wi di (gi wi b).toNat → Good near wi di a
/-- Nothing is matched anew; who was given up leads nowhere. -/
structure Dead (near : Nat → List Nat) (s0 s : PSt) : Prop where
  of : s.of = s0.of
  wi : s.wi = s0.wi
  len : s.di.length = s0.di.length
  di : ∀ x, gi s.di x = gi s0.di x ∨ (gi s.di x = -2 ∧ ¬ Good near s0.wi s0.di x)
theorem Dead.refl (near : Nat → List Nat) (s : PSt) : Dead near s s := ⟨rfl, rfl, rfl, fun _ => .inl rfl⟩
/-- One more is matched, by way of this A. -/
structure Grown (E : Es) (n m : Nat) (s0 : PSt) (a : Nat) (s : PSt) : Prop where
  lof : s.of.length = s0.of.length
  lwi : s.wi.length = s0.wi.length
  ldi : s.di.length = s0.di.length
  at_ : 0 ≤ gi s.of a
  ne : gi s.of a ≠ gi s0.of a
  fwd : ∀ x, x < n → 0 ≤ gi s.of x → (x, (gi s.of x).toNat) ∈ E ∧ gi s.wi (gi s.of x).toNat = x
  bwd : ∀ b, b < m → 0 ≤ gi s.wi b → (b : Int) = gi s0.of a ∨ ((gi s.wi b).toNat < n ∧ gi s.of (gi s.wi b).toNat = b)
  had : ∀ x, x ≠ a → (0 ≤ gi s.of x ↔ 0 ≤ gi s0.of x)
  keep : ∀ x, x ≠ a → gi s0.di x ≤ gi s0.di a → gi s.of x = gi s0.of x
  keepw : ∀ b, 0 ≤ gi s0.wi b → gi s0.di (gi s0.wi b).toNat ≤ gi s0.di a → gi s.wi b = gi s0.wi b
  lowo : (∀ x, -1 ≤ gi s0.of x) → ∀ x, -1 ≤ gi s.of x
  lo : ∀ x, -2 ≤ gi s.di x
  hi : ∀ N, (∀ x, gi s0.di x < N) → ∀ x, gi s.di x < N
section
variable {E : Es} {near : Nat → List Nat} {n m : Nat}
/-- What holds at a call of 'grow'. -/
structure Gin (E : Es) (near : Nat → List Nat) (n m : Nat) (N : Int) (s : PSt) : Prop where
  pairs : Pairs E n m (gi s.of) (gi s.wi)
  lof : s.of.length = n
  lwi : s.wi.length = m
  ldi : s.di.length = n
  lo : ∀ x, -2 ≤ gi s.di x
  hi : ∀ x, gi s.di x < N
theorem join_free {N : Int} {s0 s : PSt} (hg : Gin E near n m N s0) (hd : Dead near s0 s) (hb : ∀ a b, b ∈ near a → (a, b) ∈ E) (hE : ∀ p ∈ E, p.1 < n ∧ p.2 < m) (hN : 0 ≤ N)
    {a b : Nat} (hn : b ∈ near a) (hf : gi s0.wi b < 0) : Grown E n m s0 a (s.join a b) := by
  obtain ⟨ha, hbm⟩ := hE _ (hb a b hn)
  have l1 : a < s.of.length := by rw [hd.of, hg.lof]; exact ha
  have l2 : b < s.wi.length := by rw [hd.wi, hg.lwi]; exact hbm
  have o : ∀ x, gi (s.join a b).of x = if x = a then (b : Int) else gi s0.of x := fun x => by
    show gi (s.of.set a b) x = _
    rw [gi_set l1, hd.of]
  have wv : ∀ x, gi (s.join a b).wi x = if x = b then (a : Int) else gi s0.wi x := fun x => by
    show gi (s.wi.set b a) x = _
    rw [gi_set l2, hd.wi]
  have nob : ∀ x, x < n → gi s0.of x ≠ (b : Int) := fun x hx e => by
    have := (hg.pairs.fwd x hx (by omega)).2
    rw [e] at this
    simp only [Int.toNat_natCast] at this
    omega
  refine ⟨by simp [PSt.join, hd.of], by simp [PSt.join, hd.wi], hd.len, by rw [o, if_pos rfl]; omega, by rw [o, if_pos rfl]; exact fun e => nob a ha e.symm, ?_, ?_, ?_, ?_, ?_, ?_, ?_, ?_⟩
  · intro x hx h
    rw [o] at h ⊢
    by_cases e : x = a
    · subst e
      rw [if_pos rfl, Int.toNat_natCast, wv, if_pos rfl]
      exact ⟨hb _ _ hn, rfl⟩
    · rw [if_neg e] at h ⊢
      obtain ⟨h1, h2⟩ := hg.pairs.fwd x hx h
      refine ⟨h1, ?_⟩
      rw [wv, if_neg ?_]
      · exact h2
      · intro e2
        exact nob x hx (by omega)
  · intro c hc h
    rw [wv] at h ⊢
    by_cases e : c = b
    · subst e
      rw [if_pos rfl, Int.toNat_natCast, o, if_pos rfl]
      exact .inr ⟨ha, rfl⟩
    · rw [if_neg e] at h ⊢
      obtain ⟨h1, h2⟩ := hg.pairs.bwd c hc h
      by_cases e2 : (gi s0.wi c).toNat = a
      · rw [e2] at h2
        exact .inl h2.symm
      · rw [o, if_neg e2]
        exact .inr ⟨h1, h2⟩
  · intro x hx
    rw [o, if_neg hx]
  · intro x hx _
    rw [o, if_neg hx]
  · intro c hc _
    rw [wv, if_neg ?_]
    rintro rfl
    omega
  · intro h x
    rw [o]
    split
    · omega
    · exact h x
  · intro x
    show -2 ≤ gi s.di x
    rcases hd.di x with h | h
    · rw [h]; exact hg.lo x
    · omega
  · intro K hK x
    show gi s.di x < K
    rcases hd.di x with h | h
    · rw [h]; exact hK x
    · have := hK x
      have := hg.lo x
      omega
theorem join_step {N : Int} {s0 s : PSt} {a b q : Nat} (hg : Gin E near n m N s0) (hb : ∀ a b, b ∈ near a → (a, b) ∈ E) (hE : ∀ p ∈ E, p.1 < n ∧ p.2 < m)
    (hn : b ∈ near a) (hq : gi s0.wi b = (q : Int)) (hlev : gi s0.di q = gi s0.di a + 1) (hw : Grown E n m s0 q s) : Grown E n m s0 a (s.join a b) := by
  obtain ⟨ha, hbm⟩ := hE _ (hb a b hn)
  have hqb := hg.pairs.bwd b hbm (by omega)
  rw [hq, Int.toNat_natCast] at hqb
  obtain ⟨hqn, hob⟩ := hqb
  have hqa : q ≠ a := by rintro rfl; omega
  have l1 : a < s.of.length := by rw [hw.lof, hg.lof]; exact ha
  have l2 : b < s.wi.length := by rw [hw.lwi, hg.lwi]; exact hbm
  have o : ∀ x, gi (s.join a b).of x = if x = a then (b : Int) else gi s.of x := fun x => by
    show gi (s.of.set a b) x = _
    rw [gi_set l1]
  have wv : ∀ x, gi (s.join a b).wi x = if x = b then (a : Int) else gi s.wi x := fun x => by
    show gi (s.wi.set b a) x = _
    rw [gi_set l2]
  have hkb : gi s.wi b = (q : Int) := by rw [hw.keepw b (by omega) (by rw [hq, Int.toNat_natCast]; omega), hq]
  have hka : gi s.of a = gi s0.of a := hw.keep a hqa.symm (by omega)
  have nob : ∀ x, x < n → gi s.of x ≠ (b : Int) := fun x hx e => by
    have h1 := (hw.fwd x hx (by omega)).2
    rw [e, Int.toNat_natCast, hkb] at h1
    have hxq : x = q := by omega
    subst hxq
    exact hw.ne (e.trans hob.symm)
  refine ⟨by simp [PSt.join, hw.lof], by simp [PSt.join, hw.lwi], hw.ldi, by rw [o, if_pos rfl]; omega, ?_, ?_, ?_, ?_, ?_, ?_, ?_, hw.lo, fun K hK => hw.hi K hK⟩
  · rw [o, if_pos rfl]
    intro e
    have h1 := (hg.pairs.fwd a ha (by omega)).2
    rw [← e, Int.toNat_natCast, hq] at h1
    omega
  · intro x hx h
    rw [o] at h ⊢
    by_cases e : x = a
    · subst e
      rw [if_pos rfl, Int.toNat_natCast, wv, if_pos rfl]
      exact ⟨hb _ _ hn, rfl⟩
    · rw [if_neg e] at h ⊢
      obtain ⟨h1, h2⟩ := hw.fwd x hx h
      refine ⟨h1, ?_⟩
      rw [wv, if_neg ?_]
      · exact h2
      · intro e2
        exact nob x hx (by omega)
  · intro c hc h
    rw [wv] at h ⊢
    by_cases e : c = b
    · subst e
      rw [if_pos rfl, Int.toNat_natCast, o, if_pos rfl]
      exact .inr ⟨ha, rfl⟩
    · rw [if_neg e] at h ⊢
      rcases hw.bwd c hc h with h1 | ⟨h1, h2⟩
      · rw [hob] at h1
        omega
      · by_cases e2 : (gi s.wi c).toNat = a
        · rw [e2, hka] at h2
          exact .inl h2.symm
        · rw [o, if_neg e2]
          exact .inr ⟨h1, h2⟩
  · intro x hx
    rw [o, if_neg hx]
    by_cases e : x = q
    · subst e
      have := hw.at_
      rw [hob]
      omega
    · exact hw.had x e
  · intro x hx hl
    rw [o, if_neg hx]
    refine hw.keep x ?_ (by omega)
    rintro rfl
    omega
  · intro c hc hl
    have hcb : c ≠ b := by
      rintro rfl
      rw [hq, Int.toNat_natCast] at hl
      omega
    rw [wv, if_neg hcb]
    exact hw.keepw c hc (by omega)
  · intro h x
    rw [o]
    split
    · omega
    · exact hw.lowo h x
/-- What 'grow' answers. -/
def GrowOut (E : Es) (near : Nat → List Nat) (n m : Nat) (s0 : PSt) (a : Nat) (s : PSt) (r : Bool × PSt) : Prop :=
  (r.1 = false ∧ Dead near s0 r.2 ∧ ¬ Good near s0.wi s0.di a ∧ ∀ x, x ≠ a → gi s0.di x ≤ gi s0.di a → gi r.2.di x = gi s.di x) ∨ (r.1 = true ∧ Grown E n m s0 a r.2)
theorem growF_out {N : Int} (hb : ∀ a b, b ∈ near a → (a, b) ∈ E) (hE : ∀ p ∈ E, p.1 < n ∧ p.2 < m) (hN : 0 ≤ N) {s0 : PSt} (hg : Gin E near n m N s0) :
    ∀ (f a : Nat) (s : PSt), a < n → Dead near s0 s → gi s.di a = gi s0.di a → N ≤ gi s0.di a + f → ∃ r, growF near f a s = some r ∧ GrowOut E near n m s0 a s r := by
  intro f
  induction f with
  | zero => intro a s ha _ _ hf; have := hg.hi a; omega
  | succ f ih =>
    intro a s1 ha hd hsa hf
    have key : ∀ (bs : List Nat) (s : PSt), (∀ b ∈ bs, b ∈ near a) → Dead near s0 s → (∀ x, gi s0.di x ≤ gi s0.di a → gi s.di x = gi s1.di x) →
        (∀ b ∈ near a, b ∈ bs ∨ (0 ≤ gi s0.wi b ∧ (gi s0.di (gi s0.wi b).toNat = gi s0.di a + 1 → ¬ Good near s0.wi s0.di (gi s0.wi b).toNat))) →
        ∃ r, growL (growF near f) a bs s = some r ∧ GrowOut E near n m s0 a s1 r := by
      intro bs
      induction bs with
      | nil =>
        intro s _ hd hlow hall
        have hng : ¬ Good near s0.wi s0.di a := by
          intro h
          cases h with
          | free _ b h1 h2 =>
            rcases hall b h1 with h3 | h3
            · cases h3
            · omega
          | step _ b h1 h2 h4 h5 =>
            rcases hall b h1 with h3 | h3
            · cases h3
            · exact h3.2 h4 h5
        have hal : a < s.di.length := by rw [hd.len, hg.ldi]; exact ha
        refine ⟨_, rfl, .inl ⟨rfl, ⟨hd.of, hd.wi, by simp [hd.len], fun x => ?_⟩, hng, fun x hx hxl => ?_⟩⟩
        · show gi (s.di.set a (-2)) x = gi s0.di x ∨ (gi (s.di.set a (-2)) x = -2 ∧ _)
          rw [gi_set hal]
          by_cases e : x = a
          · subst e
            rw [if_pos rfl]
            exact .inr ⟨rfl, hng⟩
          · rw [if_neg e]
            exact hd.di x
        · show gi (s.di.set a (-2)) x = _
          rw [gi_set hal, if_neg hx]
          exact hlow x hxl
      | cons b bs ihb =>
        intro s hbs hd hlow hall
        have hbn := hbs b (by simp)
        have hsa' : gi s.di a = gi s0.di a := (hlow a (Int.le_refl _)).trans hsa
        have hbs' : ∀ c ∈ bs, c ∈ near a := fun c hc => hbs c (by simp [hc])
        have rest : ∀ s, Dead near s0 s → (∀ x, gi s0.di x ≤ gi s0.di a → gi s.di x = gi s1.di x) → (0 ≤ gi s0.wi b ∧ (gi s0.di (gi s0.wi b).toNat = gi s0.di a + 1 → ¬ Good near s0.wi s0.di (gi s0.wi b).toNat)) → ∃ r, growL (growF near f) a bs s = some r ∧ GrowOut E near n m s0 a s1 r := by
          intro s hd hlow hbad
          refine ihb s hbs' hd hlow fun c hc => ?_
          rcases hall c hc with h | h
          · rcases List.mem_cons.1 h with h | h
            · subst h; exact .inr hbad
            · exact .inl h
          · exact .inr h
        unfold growL
        by_cases hfree : gi s.wi b < 0
        · rw [if_pos hfree]
          rw [hd.wi] at hfree
          exact ⟨_, rfl, .inr ⟨rfl, join_free hg hd hb hE hN hbn hfree⟩⟩
        · rw [if_neg hfree]
          rw [hd.wi] at hfree ⊢
          obtain ⟨q, hq⟩ : ∃ q : Nat, gi s0.wi b = (q : Int) := ⟨(gi s0.wi b).toNat, by omega⟩
          have hqt : (gi s0.wi b).toNat = q := by omega
          rw [hqt]
          rw [hqt] at rest
          have hqn : q < n := by
            have := (hg.pairs.bwd b (hE _ (hb a b hbn)).2 (by omega)).1
            omega
          by_cases hlev : gi s.di q = gi s.di a + 1
          · rw [if_pos hlev]
            rw [hsa'] at hlev
            have hq0 : gi s.di q = gi s0.di q := by
              rcases hd.di q with h | h
              · exact h
              · have := hg.lo a
                omega
            have hlev0 : gi s0.di q = gi s0.di a + 1 := by omega
            obtain ⟨⟨r1, r2⟩, hr, ⟨h1, h2, h3, h4⟩ | ⟨h1, h2⟩⟩ := ih q s hqn hd hq0 (by omega)
            · simp only at h1 h2 h4
              subst h1
              rw [hr]
              refine rest _ h2 (fun x hx => ?_) ⟨by omega, fun _ => h3⟩
              rw [h4 x (by rintro rfl; omega) (by omega)]
              exact hlow x hx
            · simp only at h1 h2
              subst h1
              rw [hr]
              exact ⟨_, rfl, .inr ⟨rfl, join_step hg hb hE hbn hq hlev0 h2⟩⟩
          · rw [if_neg hlev]
            refine rest s hd hlow ⟨by omega, fun h => ?_⟩
            rcases hd.di q with h' | h'
            · exact absurd (by omega) hlev
            · exact h'.2
    exact key (near a) s1 (fun _ h => h) hd (fun _ _ => rfl) fun b h => .inl h
end
end Go.Proofs.YtppjpledjhinbaaDoor
/- Matchings: levels, phases and the whole search, in plain words. -/
namespace Go.Proofs.YtppjpledjhinbaaDoor
/-! ### Levels -/
/-- The roots: who isn't matched. -/
def levR (of : List Int) (n : Nat) : Nat → List Nat × List Int
  | 0 => ([], List.replicate n (-1))
  | k + 1 => if gi of k < 0 then ((levR of n k).1 ++ [k], (levR of n k).2.set k 0) else levR of n k
/-- One A's neighbours are looked at. -/
def levB (wi : List Int) (a : Nat) : List Nat → List Nat → List Int → Bool → List Nat × List Int × Bool
  | [], T, di, fo => (T, di, fo)
  | b :: bs, T, di, fo =>
    if gi wi b < 0 then levB wi a bs T di true
    else if gi di (gi wi b).toNat < 0 then levB wi a bs (T ++ [(gi wi b).toNat]) (di.set (gi wi b).toNat (gi di a + 1)) fo
    else levB wi a bs T di fo
def levQ (near : Nat → List Nat) (wi : List Int) : Nat → List Nat → List Int → Bool → Option (List Int × Bool)
  | _, [], di, fo => some (di, fo)
  | 0, _ :: _, _, _ => none
  | f + 1, a :: T, di, fo => levQ near wi f (levB wi a (near a) T di fo).1 (levB wi a (near a) T di fo).2.1 (levB wi a (near a) T di fo).2.2
def levels (near : Nat → List Nat) (n : Nat) (of wi : List Int) : Option (List Int × Bool) :=
  levQ near wi n (levR of n n).1 (levR of n n).2 false
theorem gi_rep (n x : Nat) : gi (List.replicate n (-1)) x = -1 := by
  unfold gi
  rw [List.getD_eq_getElem?_getD, List.getElem?_replicate]
  split <;> rfl
theorem gi_out {l : List Int} {x : Nat} (h : l.length ≤ x) : gi l x = -1 := by
  unfold gi
  rw [List.getD_eq_getElem?_getD, List.getElem?_eq_none h]
  rfl
structure LevR (of : List Int) (n k : Nat) (T : List Nat) (di : List Int) : Prop where
  len : di.length = n
  nd : T.Nodup
  mem : ∀ x, x ∈ T ↔ x < k ∧ gi of x < 0
  at_ : ∀ x, gi di x = if x < k ∧ gi of x < 0 then 0 else -1
theorem levR_is (of : List Int) (n : Nat) : ∀ k, k ≤ n → LevR of n k (levR of n k).1 (levR of n k).2 := by
  intro k
  induction k with
  | zero => intro _; exact ⟨by simp [levR], by simp [levR], by simp [levR], fun x => by simp [levR, gi_rep]⟩
  | succ k ih =>
    intro hk
    obtain ⟨h1, h2, h3, h4⟩ := ih (by omega)
    unfold levR
    by_cases h : gi of k < 0
    · rw [if_pos h]
      refine ⟨by simp [h1], ?_, ?_, ?_⟩
      · rw [List.nodup_append]
        refine ⟨h2, by simp, fun a ha b hb => ?_⟩
        have := (h3 a).1 ha
        simp only [List.mem_singleton] at hb
        omega
      · intro x
        rw [List.mem_append, h3]
        simp only [List.mem_singleton]
        constructor
        · rintro (h5 | rfl)
          · exact ⟨by omega, h5.2⟩
          · exact ⟨by omega, h⟩
        · rintro ⟨h5, h6⟩
          by_cases e : x = k
          · exact .inr e
          · exact .inl ⟨by omega, h6⟩
      · intro x
        show gi ((levR of n k).2.set k 0) x = _
        rw [gi_set (by omega), h4]
        by_cases e : x = k
        · subst e
          rw [if_pos rfl, if_pos ⟨by omega, h⟩]
        · rw [if_neg e]
          by_cases h5 : x < k ∧ gi of x < 0
          · rw [if_pos h5, if_pos ⟨by omega, h5.2⟩]
          · rw [if_neg h5, if_neg (fun h6 => h5 ⟨by omega, h6.2⟩)]
    · rw [if_neg h]
      refine ⟨h1, h2, fun x => ?_, fun x => ?_⟩
      · rw [h3]
        constructor
        · exact fun h5 => ⟨by omega, h5.2⟩
        · rintro ⟨h5, h6⟩
          have : x ≠ k := by rintro rfl; exact h h6
          exact ⟨by omega, h6⟩
      · rw [h4]
        by_cases h5 : x < k ∧ gi of x < 0
        · rw [if_pos h5, if_pos ⟨by omega, h5.2⟩]
        · have h7 : ¬ (x < k + 1 ∧ gi of x < 0) := by
            rintro ⟨h6, h8⟩
            have : x ≠ k := by rintro rfl; exact h h8
            exact h5 ⟨by omega, h8⟩
          rw [if_neg h5, if_neg h7]
/-- P: whose neighbours were looked at; T: who waits; seen: the edges that were looked at. -/
structure Lv (near : Nat → List Nat) (n : Nat) (of wi : List Int) (seen : Nat → Nat → Prop) (P T : List Nat) (di : List Int) (fo : Bool) : Prop where
  len : di.length = n
  nd : (P ++ T).Nodup
  lt : ∀ x ∈ P ++ T, x < n
  on : ∀ x, 0 ≤ gi di x ↔ x ∈ P ++ T
  lo : ∀ x, -1 ≤ gi di x
  idx : ∀ i (h : i < (P ++ T).length), gi di (P ++ T)[i] ≤ i
  root : ∀ a, a < n → gi of a < 0 → a ∈ P ++ T ∧ gi di a = 0
  par : ∀ x ∈ P ++ T, gi of x < 0 ∨ ∃ p ∈ P, ∃ b ∈ near p, gi wi b = (x : Int) ∧ gi di x = gi di p + 1
  clo : ∀ p b, seen p b → (gi wi b < 0 ∧ fo = true) ∨ ∃ q : Nat, gi wi b = (q : Int) ∧ q ∈ P ++ T
  fnd : fo = true → ∃ p ∈ P, ∃ b ∈ near p, gi wi b < 0
section
variable {near : Nat → List Nat} {n : Nat} {of wi : List Int}
theorem levB_lv {a : Nat} {P : List Nat} (ha : a ∈ P) (hwi : ∀ b ∈ near a, 0 ≤ gi wi b → (gi wi b).toNat < n) :
    ∀ (bs T : List Nat) (di : List Int) (fo : Bool) (seen : Nat → Nat → Prop), (∀ b ∈ bs, b ∈ near a) → Lv near n of wi seen P T di fo →
      Lv near n of wi (fun p b => seen p b ∨ (p = a ∧ b ∈ bs)) P (levB wi a bs T di fo).1 (levB wi a bs T di fo).2.1 (levB wi a bs T di fo).2.2 := by
  intro bs
  induction bs with
  | nil =>
    intro T di fo seen _ h
    refine ⟨h.len, h.nd, h.lt, h.on, h.lo, h.idx, h.root, h.par, fun p b hs => ?_, h.fnd⟩
    rcases hs with hs | ⟨_, hs⟩
    · exact h.clo p b hs
    · cases hs
  | cons b bs ih =>
    intro T di fo seen hbs h
    have hb := hbs b (by simp)
    have hbs' : ∀ c ∈ bs, c ∈ near a := fun c hc => hbs c (by simp [hc])
    have step : ∀ (T' : List Nat) (di' : List Int) (fo' : Bool), Lv near n of wi (fun p c => seen p c ∨ (p = a ∧ c = b)) P T' di' fo' →
        Lv near n of wi (fun p c => seen p c ∨ (p = a ∧ c ∈ b :: bs)) P (levB wi a bs T' di' fo').1 (levB wi a bs T' di' fo').2.1 (levB wi a bs T' di' fo').2.2 := by
      intro T' di' fo' h'
      have h2 := ih T' di' fo' _ hbs' h'
      refine ⟨h2.len, h2.nd, h2.lt, h2.on, h2.lo, h2.idx, h2.root, h2.par, fun p c hs => h2.clo p c ?_, h2.fnd⟩
      rcases hs with hs | ⟨rfl, hs⟩
      · exact .inl (.inl hs)
      · rcases List.mem_cons.1 hs with rfl | hs
        · exact .inl (.inr ⟨rfl, rfl⟩)
        · exact .inr ⟨rfl, hs⟩
    unfold levB
    by_cases h1 : gi wi b < 0
    · rw [if_pos h1]
      refine step _ _ _ ⟨h.len, h.nd, h.lt, h.on, h.lo, h.idx, h.root, h.par, fun p c hs => ?_, fun _ => ⟨a, ha, b, hb, h1⟩⟩
      rcases hs with hs | ⟨rfl, rfl⟩
      · rcases h.clo p c hs with ⟨h2, _⟩ | h2
        · exact .inl ⟨h2, rfl⟩
        · exact .inr h2
      · exact .inl ⟨h1, rfl⟩
    · rw [if_neg h1]
      obtain ⟨q, hq⟩ : ∃ q : Nat, gi wi b = (q : Int) := ⟨(gi wi b).toNat, by omega⟩
      have hqt : (gi wi b).toNat = q := by omega
      have hqn : q < n := by have := hwi b hb (by omega); omega
      rw [hqt]
      by_cases h2 : gi di q < 0
      · rw [if_pos h2]
        have hq' : q ∉ P ++ T := fun hm => by have := (h.on q).2 hm; omega
        have hql : q < di.length := by rw [h.len]; exact hqn
        have hda : 0 ≤ gi di a := (h.on a).2 (by simp [ha])
        have hne : ∀ x ∈ P ++ T, x ≠ q := fun x hx e => hq' (e ▸ hx)
        have dv : ∀ x, gi (di.set q (gi di a + 1)) x = if x = q then gi di a + 1 else gi di x := fun x => gi_set hql _ x
        have haT : a ∈ P ++ T := by simp [ha]
        obtain ⟨ia, hia, hia2⟩ := List.getElem_of_mem haT
        refine step _ _ _ ⟨by simp [h.len], ?_, ?_, ?_, ?_, ?_, ?_, ?_, ?_, ?_⟩
        · rw [← List.append_assoc, List.nodup_append]
          refine ⟨h.nd, by simp, fun x hx y hy => ?_⟩
          simp only [List.mem_singleton] at hy
          subst hy
          exact hne x hx
        · intro x hx
          rw [← List.append_assoc, List.mem_append] at hx
          rcases hx with hx | hx
          · exact h.lt x hx
          · simp only [List.mem_singleton] at hx; omega
        · intro x
          rw [dv, ← List.append_assoc, List.mem_append]
          by_cases e : x = q
          · subst e
            simp
            omega
          · rw [if_neg e, h.on x]
            simp [e]
        · intro x
          rw [dv]
          have := h.lo x
          split <;> omega
        · intro i hi
          simp only [← List.append_assoc] at hi ⊢
          rw [List.getElem_append]
          by_cases e : i < (P ++ T).length
          · rw [dif_pos e, dv, if_neg (hne _ (List.getElem_mem e))]
            exact h.idx i e
          · rw [dif_neg e, List.getElem_singleton, dv, if_pos rfl]
            have := h.idx ia hia
            rw [hia2] at this
            omega
        · intro x hx hx2
          obtain ⟨h3, h4⟩ := h.root x hx hx2
          refine ⟨by rw [← List.append_assoc, List.mem_append]; exact .inl h3, ?_⟩
          rw [dv, if_neg (hne x h3)]
          exact h4
        · intro x hx
          rw [← List.append_assoc, List.mem_append] at hx
          rcases hx with hx | hx
          · rcases h.par x hx with h3 | ⟨p, hp, c, hc, h3, h4⟩
            · exact .inl h3
            · refine .inr ⟨p, hp, c, hc, h3, ?_⟩
              rw [dv, dv, if_neg (hne x hx), if_neg (hne p (by simp [hp]))]
              exact h4
          · simp only [List.mem_singleton] at hx
            subst hx
            refine .inr ⟨a, ha, b, hb, hq, ?_⟩
            rw [dv, dv, if_pos rfl, if_neg (hne a haT)]
        · intro p c hs
          have up : ∀ x, x ∈ P ++ T → x ∈ P ++ (T ++ [q]) := fun x hx => by rw [← List.append_assoc, List.mem_append]; exact .inl hx
          rcases hs with hs | ⟨rfl, rfl⟩
          · rcases h.clo p c hs with h3 | ⟨x, h3, h4⟩
            · exact .inl h3
            · exact .inr ⟨x, h3, up x h4⟩
          · exact .inr ⟨q, hq, by simp⟩
        · exact h.fnd
      · rw [if_neg h2]
        refine step _ _ _ ⟨h.len, h.nd, h.lt, h.on, h.lo, h.idx, h.root, h.par, fun p c hs => ?_, h.fnd⟩
        rcases hs with hs | ⟨rfl, rfl⟩
        · exact h.clo p c hs
        · exact .inr ⟨q, hq, (h.on q).1 (by omega)⟩
theorem levQ_lv (hwi : ∀ a b, b ∈ near a → 0 ≤ gi wi b → (gi wi b).toNat < n) :
    ∀ (f : Nat) (P T : List Nat) (di : List Int) (fo : Bool), Lv near n of wi (fun p b => p ∈ P ∧ b ∈ near p) P T di fo → n ≤ f + P.length →
      ∃ r P', levQ near wi f T di fo = some r ∧ Lv near n of wi (fun p b => p ∈ P' ∧ b ∈ near p) P' [] r.1 r.2 := by
  intro f
  induction f with
  | zero =>
    intro P T di fo h hf
    cases T with
    | nil => exact ⟨_, P, by unfold levQ; rfl, h⟩
    | cons a T =>
      have := nodup_sub_len (b := List.range n) h.nd fun x hx => by simpa using h.lt x hx
      simp at this
      omega
  | succ f ih =>
    intro P T di fo h hf
    cases T with
    | nil => exact ⟨_, P, by unfold levQ; rfl, h⟩
    | cons a T =>
      have e : P ++ a :: T = (P ++ [a]) ++ T := by simp
      have h1 : Lv near n of wi (fun p b => p ∈ P ∧ b ∈ near p) (P ++ [a]) T di fo := by
        obtain ⟨g1, g2, g3, g4, g5, g6, g7, g8, g9, g10⟩ := h
        simp only [e] at g2 g3 g4 g6 g7 g8 g9
        refine ⟨g1, g2, g3, g4, g5, g6, g7, fun x hx => ?_, g9, fun hf => ?_⟩
        · rcases g8 x hx with h | ⟨p, hp, h⟩
          · exact .inl h
          · exact .inr ⟨p, by simp [hp], h⟩
        · obtain ⟨p, hp, h⟩ := g10 hf
          exact ⟨p, by simp [hp], h⟩
      have h2 := levB_lv (a := a) (by simp) (hwi a) (near a) T di fo _ (fun _ h => h) h1
      refine ih (P ++ [a]) _ _ _ ⟨h2.len, h2.nd, h2.lt, h2.on, h2.lo, h2.idx, h2.root, h2.par, fun p b hs => h2.clo p b ?_, h2.fnd⟩ (by simp; omega)
      obtain ⟨hp, hb⟩ := hs
      rcases List.mem_append.1 hp with hp | hp
      · exact .inl ⟨hp, hb⟩
      · simp only [List.mem_singleton] at hp
        subst hp
        exact .inr ⟨rfl, hb⟩
/-- What the levels are. -/
structure LevOut (near : Nat → List Nat) (n : Nat) (of wi di : List Int) (fo : Bool) : Prop where
  len : di.length = n
  lo : ∀ x, -1 ≤ gi di x
  hi : ∀ x, gi di x < n
  root : ∀ a, a < n → gi of a < 0 → gi di a = 0
  no : fo = false → ∀ a b, b ∈ near a → 0 ≤ gi di a → 0 ≤ gi wi b ∧ 0 ≤ gi di (gi wi b).toNat
  yes : fo = true → ∃ a, a < n ∧ gi of a < 0 ∧ Good near wi di a
theorem levels_out (hwi : ∀ a b, b ∈ near a → 0 ≤ gi wi b → (gi wi b).toNat < n) : ∃ di fo, levels near n of wi = some (di, fo) ∧ LevOut near n of wi di fo := by
  obtain ⟨h1, h2, h3, h4⟩ := levR_is of n n (Nat.le_refl _)
  have h0 : Lv near n of wi (fun p b => p ∈ ([] : List Nat) ∧ b ∈ near p) [] (levR of n n).1 (levR of n n).2 false := by
    refine ⟨h1, by simpa using h2, fun x hx => ?_, fun x => ?_, fun x => ?_, fun i hi => ?_, fun a ha hu => ?_, fun x hx => ?_, fun p b hs => ?_, fun h => by cases h⟩
    · exact ((h3 x).1 (by simpa using hx)).1
    · rw [h4, List.nil_append, h3]
      split
      · rename_i h; simp [h]
      · rename_i h; simp [h]
    · rw [h4]; split <;> omega
    · rw [h4]; split <;> omega
    · refine ⟨by simpa using (h3 a).2 ⟨ha, hu⟩, ?_⟩
      rw [h4, if_pos ⟨ha, hu⟩]
    · exact .inl ((h3 x).1 (by simpa using hx)).2
    · cases hs.1
  obtain ⟨⟨di, fo⟩, P, hr, h⟩ := levQ_lv hwi n [] _ _ _ h0 (by simp)
  simp only at h
  have hP : ∀ x, x ∈ P ++ [] ↔ x ∈ P := fun x => by simp
  refine ⟨di, fo, hr, h.len, h.lo, fun x => ?_, fun a ha hu => (h.root a ha hu).2, fun hfo a b hb ha => ?_, fun hfo => ?_⟩
  · by_cases hx : 0 ≤ gi di x
    · have hm := (h.on x).1 hx
      obtain ⟨i, hi, e⟩ := List.getElem_of_mem hm
      have h5 := h.idx i hi
      rw [e] at h5
      have := nodup_sub_len (b := List.range n) h.nd fun y hy => by simpa using h.lt y hy
      rw [List.length_range] at this
      omega
    · omega
  · rcases h.clo a b ⟨(hP a).1 ((h.on a).1 ha), hb⟩ with ⟨_, h5⟩ | ⟨q, h5, h6⟩
    · rw [hfo] at h5; cases h5
    · have := (h.on q).2 h6
      have e : (gi wi b).toNat = q := by omega
      rw [e]
      exact ⟨by omega, this⟩
  · obtain ⟨p, hp, b, hb, hf⟩ := h.fnd hfo
    have up : ∀ (k x : Nat), gi di x ≤ k → x ∈ P → Good near wi di x → ∃ a, a < n ∧ gi of a < 0 ∧ Good near wi di a := by
      intro k
      induction k with
      | zero =>
        intro x hk hx hg
        rcases h.par x (by simp [hx]) with h5 | ⟨q, hq, c, hc, h6, h7⟩
        · exact ⟨x, h.lt x (by simp [hx]), h5, hg⟩
        · have := (h.on q).2 (by simp [hq])
          omega
      | succ k ih =>
        intro x hk hx hg
        rcases h.par x (by simp [hx]) with h5 | ⟨q, hq, c, hc, h6, h7⟩
        · exact ⟨x, h.lt x (by simp [hx]), h5, hg⟩
        · refine ih q (by omega) hq (.step q c hc (by omega) ?_ ?_)
          · rw [h6, Int.toNat_natCast]; exact h7
          · rw [h6, Int.toNat_natCast]; exact hg
    exact up (gi di p).toNat p (by omega) hp (.free p b hb hf)
end
/-! ### Phases -/
def phaseF (near : Nat → List Nat) (f : Nat) : List Nat → PSt → Option PSt
  | [], s => some s
  | a :: xa, s =>
    if gi s.of a < 0 then
      match growF near f a s with
      | none => none
      | some r => phaseF near f xa r.2
    else phaseF near f xa s
def solveF (near : Nat → List Nat) (n : Nat) : Nat → PSt → Option PSt
  | 0, _ => none
  | f + 1, s =>
    match levels near n s.of s.wi with
    | none => none
    | some (di, false) => some { s with di := di }
    | some (di, true) =>
      match phaseF near (n + 2) (List.range n) { s with di := di } with
      | none => none
      | some s' => solveF near n f s'
theorem count_one {α : Type} [DecidableEq α] (p q : α → Bool) (a : α) (hp : p a = false) (hq : q a = true) (hx : ∀ x, x ≠ a → p x = q x) :
    ∀ l : List α, l.Nodup → a ∈ l → (l.filter q).length = (l.filter p).length + 1
  | [], _, h => by cases h
  | x :: l, hn, h => by
    obtain ⟨hn1, hn2⟩ := List.nodup_cons.1 hn
    by_cases e : x = a
    · subst e
      have : l.filter q = l.filter p := List.filter_congr fun y hy => (hx y (by rintro rfl; exact hn1 hy)).symm
      simp [hp, hq, this]
    · have h2 := count_one p q a hp hq hx l hn2 (by rcases List.mem_cons.1 h with h | h; exact absurd h.symm e; exact h)
      rw [List.filter_cons, List.filter_cons, hx x e]
      split
      · simp only [List.length_cons, h2]
      · exact h2
section
variable {E : Es} {near : Nat → List Nat} {n m : Nat}
theorem grown_gin {N : Int} {s0 s : PSt} {a : Nat} (hg : Gin E near n m N s0) (h : Grown E n m s0 a s) (ha : a < n) (hu : gi s0.of a < 0) : Gin E near n m N s ∧ matched n (gi s.of) = matched n (gi s0.of) + 1 := by
  refine ⟨⟨⟨h.fwd, fun b hb hw => ?_⟩, h.lof.trans hg.lof, h.lwi.trans hg.lwi, h.ldi.trans hg.ldi, h.lo, h.hi N hg.hi⟩, ?_⟩
  · rcases h.bwd b hb hw with h1 | h1
    · omega
    · exact h1
  · have h1 := h.at_
    unfold matched
    refine count_one _ _ a (by simp; omega) (by simpa using h1) (fun x hx => ?_) _ List.nodup_range (by simpa using ha)
    have := h.had x hx
    by_cases e : 0 ≤ gi s.of x
    · simp [e, this.1 e]
    · have e2 : ¬ 0 ≤ gi s0.of x := fun h' => e (this.2 h')
      simp only [e, e2]
theorem dead_gin {N : Int} {s0 s : PSt} (hN : 0 ≤ N) (hg : Gin E near n m N s0) (h : Dead near s0 s) : Gin E near n m N s := by
  refine ⟨by rw [h.of, h.wi]; exact hg.pairs, by rw [h.of]; exact hg.lof, by rw [h.wi]; exact hg.lwi, h.len.trans hg.ldi, fun x => ?_, fun x => ?_⟩
  · have := hg.lo x
    rcases h.di x with h | h <;> omega
  · have := hg.hi x
    rcases h.di x with h | h <;> omega
theorem phase_any (hb : ∀ a b, b ∈ near a → (a, b) ∈ E) (hE : ∀ p ∈ E, p.1 < n ∧ p.2 < m) :
    ∀ (xa : List Nat) (s : PSt), (∀ a ∈ xa, a < n) → Gin E near n m n s → (∀ x, -1 ≤ gi s.of x) →
      ∃ s', phaseF near (n + 2) xa s = some s' ∧ Gin E near n m n s' ∧ (∀ x, -1 ≤ gi s'.of x) ∧ matched n (gi s.of) ≤ matched n (gi s'.of) := by
  intro xa
  induction xa with
  | nil => intro s _ hg ho; exact ⟨s, rfl, hg, ho, Nat.le_refl _⟩
  | cons a xa ih =>
    intro s has hg ho
    have ha := has a (by simp)
    have has' : ∀ c ∈ xa, c < n := fun c hc => has c (by simp [hc])
    unfold phaseF
    by_cases hu : gi s.of a < 0
    · rw [if_pos hu]
      have hlo := hg.lo a
      obtain ⟨⟨r1, r2⟩, hr, hout⟩ := growF_out hb hE (by omega : (0 : Int) ≤ n) hg (n + 2) a s ha (Dead.refl _ _) rfl (by omega)
      rw [hr]
      rcases hout with ⟨_, h2, _⟩ | ⟨_, h2⟩
      · simp only at h2 ⊢
        obtain ⟨s', e, g, g1, g2⟩ := ih r2 has' (dead_gin (by omega) hg h2) (by rw [h2.of]; exact ho)
        exact ⟨s', e, g, g1, by rw [h2.of] at g2; exact g2⟩
      · simp only at h2 ⊢
        obtain ⟨k1, k2⟩ := grown_gin hg h2 ha hu
        obtain ⟨s', e, g, g1, g2⟩ := ih r2 has' k1 (h2.lowo ho)
        exact ⟨s', e, g, g1, by omega⟩
    · rw [if_neg hu]
      exact ih s has' hg ho
theorem phase_more (hb : ∀ a b, b ∈ near a → (a, b) ∈ E) (hE : ∀ p ∈ E, p.1 < n ∧ p.2 < m) {s0 : PSt} (hg : Gin E near n m n s0) (ho : ∀ x, -1 ≤ gi s0.of x)
    (hroot : ∀ a, a < n → gi s0.of a < 0 → gi s0.di a = 0) (a0 : Nat) (h0 : gi s0.of a0 < 0) (hgood : Good near s0.wi s0.di a0) :
    ∀ (xa : List Nat) (s : PSt), xa.Nodup → a0 ∈ xa → (∀ a ∈ xa, a < n) → Dead near s0 s → (∀ a ∈ xa, gi s0.of a < 0 → gi s.di a = gi s0.di a) →
      ∃ s', phaseF near (n + 2) xa s = some s' ∧ Gin E near n m n s' ∧ (∀ x, -1 ≤ gi s'.of x) ∧ matched n (gi s0.of) + 1 ≤ matched n (gi s'.of) := by
  intro xa
  induction xa with
  | nil => intro s _ h; cases h
  | cons a xa ih =>
    intro s hnd hin has hd hdi
    obtain ⟨hn1, hn2⟩ := List.nodup_cons.1 hnd
    have ha := has a (by simp)
    have has' : ∀ c ∈ xa, c < n := fun c hc => has c (by simp [hc])
    unfold phaseF
    by_cases hu : gi s.of a < 0
    · rw [if_pos hu]
      have hu0 : gi s0.of a < 0 := by rw [← hd.of]; exact hu
      have hlo := hg.lo a
      obtain ⟨⟨r1, r2⟩, hr, hout⟩ := growF_out hb hE (by omega : (0 : Int) ≤ n) hg (n + 2) a s ha hd (hdi a (by simp) hu0) (by omega)
      rw [hr]
      rcases hout with ⟨_, h2, h3, h4⟩ | ⟨_, h2⟩
      · simp only at h2 h4 ⊢
        have hne : a0 ≠ a := by rintro rfl; exact h3 hgood
        refine ih r2 hn2 (by rcases List.mem_cons.1 hin with h | h; exact absurd h hne; exact h) has' h2 fun c hc hcu => ?_
        rw [h4 c (by rintro rfl; exact hn1 hc) (by rw [hroot c (has' c hc) hcu, hroot a ha hu0]; exact Int.le_refl _)]
        exact hdi c (by simp [hc]) hcu
      · simp only at h2 ⊢
        obtain ⟨k1, k2⟩ := grown_gin hg h2 ha hu0
        obtain ⟨s', e, g, g1, g2⟩ := phase_any hb hE xa r2 has' k1 (h2.lowo ho)
        exact ⟨s', e, g, g1, by omega⟩
    · rw [if_neg hu]
      have hne : a0 ≠ a := by rintro rfl; rw [hd.of] at hu; exact hu h0
      exact ih s hn2 (by rcases List.mem_cons.1 hin with h | h; exact absurd h hne; exact h) has' hd fun c hc => hdi c (by simp [hc])
/-- What the search ends with. -/
structure SolveOut (E : Es) (n m : Nat) (s : PSt) : Prop where
  pairs : Pairs E n m (gi s.of) (gi s.wi)
  lof : s.of.length = n
  lwi : s.wi.length = m
  ldi : s.di.length = n
  lowo : ∀ x, -1 ≤ gi s.of x
  free : ∀ a, a < n → gi s.of a < 0 → 0 ≤ gi s.di a
  clo : ∀ p ∈ E, 0 ≤ gi s.di p.1 → 0 ≤ gi s.wi p.2 ∧ 0 ≤ gi s.di (gi s.wi p.2).toNat
theorem SolveOut.nu {s : PSt} (h : SolveOut E n m s) (hE : ∀ p ∈ E, p.1 < n ∧ p.2 < m) : NuIs E (matched n (gi s.of)) :=
  h.pairs.nu hE (fun a => decide (0 ≤ gi s.di a)) (fun a ha hu => by simpa using h.free a ha hu) (fun p hp hz => by simpa using h.clo p hp (by simpa using hz))
theorem solve_out (hb : ∀ a b, b ∈ near a ↔ (a, b) ∈ E) (hE : ∀ p ∈ E, p.1 < n ∧ p.2 < m) :
    ∀ (f : Nat) (s : PSt), Pairs E n m (gi s.of) (gi s.wi) → s.of.length = n → s.wi.length = m → (∀ x, -1 ≤ gi s.of x) → n < f + matched n (gi s.of) →
      ∃ r, solveF near n f s = some r ∧ SolveOut E n m r := by
  intro f
  induction f with
  | zero =>
    intro s _ _ _ _ h
    have : matched n (gi s.of) ≤ n := by
      have := List.length_filter_le (fun a => decide (0 ≤ gi s.of a)) (List.range n)
      rw [List.length_range] at this
      exact this
    omega
  | succ f ih =>
    intro s hp lof lwi ho hf
    obtain ⟨di, fo, hl, hlev⟩ := levels_out (near := near) (n := n) (of := s.of) (wi := s.wi) fun a b hab h => (hp.bwd b (hE _ ((hb a b).1 hab)).2 h).1
    unfold solveF
    rw [hl]
    cases fo with
    | false =>
      refine ⟨_, rfl, hp, lof, lwi, hlev.len, ho, fun a ha hu => ?_, fun p hp hz => hlev.no rfl p.1 p.2 ((hb _ _).2 hp) hz⟩
      rw [hlev.root a ha hu]
      exact Int.le_refl _
    | true =>
      obtain ⟨a0, ha0, hu0, hgood⟩ := hlev.yes rfl
      have hg : Gin E near n m n { s with di := di } := ⟨hp, lof, lwi, hlev.len, fun x => by have := hlev.lo x; show -2 ≤ gi di x; omega, hlev.hi⟩
      obtain ⟨s', e, g, g1, g2⟩ := phase_more (fun a b h => (hb a b).1 h) hE hg ho hlev.root a0 hu0 hgood (List.range n) _ List.nodup_range (by simpa using ha0) (fun a h => by simpa using h) (Dead.refl _ _) (fun _ _ _ => rfl)
      simp only [e]
      have g3 : matched n (gi s.of) + 1 ≤ matched n (gi s'.of) := g2
      exact ih s' g.pairs g.lof g.lwi g1 (by omega)
/-- The start: nobody is matched. -/
theorem pairs_none : Pairs E n m (gi (List.replicate n (-1))) (gi (List.replicate m (-1))) :=
  ⟨fun a _ h => by rw [gi_rep] at h; omega, fun b _ h => by rw [gi_rep] at h; omega⟩
end
end Go.Proofs.YtppjpledjhinbaaDoor
/- Matchings: who is reached from those that aren't matched, in plain words. -/
namespace Go.Proofs.YtppjpledjhinbaaDoor
structure RSt where
  xa : List Int
  bs : List Int
def reachL (wi : List Int) (step : Nat → RSt → Option RSt) : List Nat → RSt → Option RSt
  | [], s => some s
  | b :: l, s =>
    if gi s.bs b = 0 then
      match step (gi wi b).toNat { s with bs := s.bs.set b 1 } with
      | none => none
      | some s' => reachL wi step l s'
    else reachL wi step l s
def reachF (near : Nat → List Nat) (wi : List Int) : Nat → Nat → RSt → Option RSt
  | 0, _, _ => none
  | f + 1, a, s => if 0 < gi s.xa a then some s else reachL wi (reachF near wi f) (near a) { s with xa := s.xa.set a 1 }
def reachAll (near : Nat → List Nat) (wi of : List Int) (f : Nat) : List Nat → RSt → Option RSt
  | [], s => some s
  | a :: l, s =>
    if gi of a < 0 then
      match reachF near wi f a s with
      | none => none
      | some s' => reachAll near wi of f l s'
    else reachAll near wi of f l s
/-- Marks are 0 or 1. -/
def Bits (l : List Int) (n : Nat) : Prop := l.length = n ∧ ∀ x, x < n → gi l x = 0 ∨ gi l x = 1
theorem Bits.set {l : List Int} {n x : Nat} (h : Bits l n) (hx : x < n) : Bits (l.set x 1) n := by
  refine ⟨by rw [List.length_set, h.1], fun y hy => ?_⟩
  rw [gi_set (by rw [h.1]; exact hx)]
  split
  · exact .inr rfl
  · exact h.2 y hy
theorem Bits.one {l : List Int} {n x : Nat} (h : Bits l n) (hx : gi l x = 1) : x < n := by
  by_cases e : x < n
  · exact e
  · rw [gi_out (by rw [h.1]; omega)] at hx
    omega
theorem bits_zero (n : Nat) : Bits (List.replicate n 0) n := by
  refine ⟨by simp, fun x hx => .inl ?_⟩
  rw [gi_get (by simpa using hx)]
  simp
/-- How many aren't marked. -/
def zeros (l : List Int) (n : Nat) : Nat := ((List.range n).filter (fun x => decide (gi l x = 0))).length
theorem filter_len_le {α : Type} (p q : α → Bool) (l : List α) (h : ∀ x ∈ l, p x = true → q x = true) : (l.filter p).length ≤ (l.filter q).length := by
  induction l with
  | nil => simp
  | cons x l ih =>
    have h1 := ih fun y hy => h y (by simp [hy])
    rw [List.filter_cons, List.filter_cons]
    by_cases e : p x = true
    · rw [if_pos e, if_pos (h x (by simp) e)]
      simpa using h1
    · rw [if_neg e]
      split
      · simp only [List.length_cons]; omega
      · exact h1
section
variable {near : Nat → List Nat} {n m : Nat} {of wi : List Int} {Z : Nat → Prop}
/-- From s to s' marks were only set, and what was marked anew is right. -/
structure Ext (near : Nat → List Nat) (n m : Nat) (wi : List Int) (Z R : Nat → Prop) (s s' : RSt) : Prop where
  ba : Bits s'.xa n
  bb : Bits s'.bs m
  ma : ∀ x, gi s.xa x = 1 → gi s'.xa x = 1
  mb : ∀ b, gi s.bs b = 1 → gi s'.bs b = 1
  na : ∀ x, gi s'.xa x = 1 → gi s.xa x = 1 ∨ ((∀ b ∈ near x, gi s'.bs b = 1) ∧ Z x ∧ (R x ∨ ∃ b, gi s'.bs b = 1 ∧ gi wi b = (x : Int)))
  nb : ∀ b, gi s'.bs b = 1 → gi s.bs b = 1 ∨ (0 ≤ gi wi b ∧ gi s'.xa (gi wi b).toNat = 1 ∧ ∃ x, gi s'.xa x = 1 ∧ b ∈ near x)
theorem Ext.refl {s : RSt} {R : Nat → Prop} (h1 : Bits s.xa n) (h2 : Bits s.bs m) : Ext near n m wi Z R s s := ⟨h1, h2, fun _ h => h, fun _ h => h, fun _ h => .inl h, fun _ h => .inl h⟩
theorem Ext.trans {s s' s'' : RSt} {R : Nat → Prop} (h : Ext near n m wi Z R s s') (h' : Ext near n m wi Z R s' s'') : Ext near n m wi Z R s s'' := by
  refine ⟨h'.ba, h'.bb, fun x hx => h'.ma x (h.ma x hx), fun b hb => h'.mb b (h.mb b hb), fun x hx => ?_, fun b hb => ?_⟩
  · rcases h'.na x hx with h1 | h1
    · rcases h.na x h1 with h2 | ⟨h2, h3, h4⟩
      · exact .inl h2
      · refine .inr ⟨fun b hb => h'.mb b (h2 b hb), h3, ?_⟩
        rcases h4 with h4 | ⟨b, h4, h5⟩
        · exact .inl h4
        · exact .inr ⟨b, h'.mb b h4, h5⟩
    · exact .inr h1
  · rcases h'.nb b hb with h1 | h1
    · rcases h.nb b h1 with h2 | ⟨h2, h3, x, h4, h5⟩
      · exact .inl h2
      · exact .inr ⟨h2, h'.ma _ h3, x, h'.ma x h4, h5⟩
    · exact .inr h1
theorem Ext.mono {s s' : RSt} {R R' : Nat → Prop} (h : Ext near n m wi Z R s s') (hR : ∀ x, R x → R' x) : Ext near n m wi Z R' s s' :=
  ⟨h.ba, h.bb, h.ma, h.mb, fun x hx => (h.na x hx).imp id fun h => ⟨h.1, h.2.1, h.2.2.imp (hR x) id⟩, h.nb⟩
theorem Ext.zeros {s s' : RSt} {R : Nat → Prop} (h : Ext near n m wi Z R s s') (hb : Bits s.bs m) : zeros s'.bs m ≤ zeros s.bs m := by
  refine filter_len_le _ _ _ fun x hx h1 => ?_
  have hm : x < m := by simpa using hx
  simp only [decide_eq_true_eq] at h1 ⊢
  rcases hb.2 x hm with h2 | h2
  · exact h2
  · have := h.mb x h2
    omega
theorem zeros_set {l : List Int} {b : Nat} (h : Bits l m) (hb : b < m) (h0 : gi l b = 0) : zeros l m = zeros (l.set b 1) m + 1 := by
  have hv := fun x => gi_set (l := l) (i := b) (by rw [h.1]; exact hb) 1 x
  unfold zeros
  refine count_one _ _ b (by simp [hv]) (by simpa using h0) (fun x hx => by simp [hv, hx]) _ List.nodup_range (by simpa using hb)
theorem reachF_out (hm : ∀ a b, b ∈ near a → b < m) (hZn : ∀ a, Z a → a < n) (hZ : ∀ a b, b ∈ near a → Z a → 0 ≤ gi wi b ∧ Z (gi wi b).toNat) :
    ∀ (f a : Nat) (s : RSt), Z a → Bits s.xa n → Bits s.bs m → zeros s.bs m < f →
      ∃ s', reachF near wi f a s = some s' ∧ Ext near n m wi Z (· = a) s s' ∧ gi s'.xa a = 1 := by
  intro f
  induction f with
  | zero => intro a s _ _ _ h; omega
  | succ f ih =>
    intro a s hza hba hbb hf
    have han := hZn a hza
    unfold reachF
    by_cases h1 : 0 < gi s.xa a
    · rw [if_pos h1]
      refine ⟨s, rfl, .refl hba hbb, ?_⟩
      rcases hba.2 a han with h | h <;> omega
    · rw [if_neg h1]
      have key : ∀ (l : List Nat) (s : RSt), (∀ b ∈ l, b ∈ near a) → Bits s.xa n → Bits s.bs m → gi s.xa a = 1 → zeros s.bs m < f + 1 →
          ∃ s', reachL wi (reachF near wi f) l s = some s' ∧ Ext near n m wi Z (fun _ => False) s s' ∧ ∀ b ∈ l, gi s'.bs b = 1 := by
        intro l
        induction l with
        | nil => intro s _ h1 h2 _ _; exact ⟨s, rfl, .refl h1 h2, fun b hb => by cases hb⟩
        | cons b l ihl =>
          intro s hl h1 h2 h3 h4
          have hb := hl b (by simp)
          have hbm := hm a b hb
          have hl' : ∀ c ∈ l, c ∈ near a := fun c hc => hl c (by simp [hc])
          unfold reachL
          by_cases h0 : gi s.bs b = 0
          · rw [if_pos h0]
            obtain ⟨hw, hzw⟩ := hZ a b hb hza
            have hz := zeros_set h2 hbm h0
            have hv := fun x => gi_set (l := s.bs) (i := b) (by rw [h2.1]; exact hbm) 1 x
            obtain ⟨s1, e1, x1, m1⟩ := ih (gi wi b).toNat { s with bs := s.bs.set b 1 } hzw h1 (h2.set hbm) (by show zeros (s.bs.set b 1) m < f; omega)
            rw [e1]
            have xs : Ext near n m wi Z (fun _ => False) s s1 := by
              refine ⟨x1.ba, x1.bb, x1.ma, fun c hc => x1.mb c ?_, fun x hx => ?_, fun c hc => ?_⟩
              · show gi (s.bs.set b 1) c = 1
                rw [hv]
                split
                · rfl
                · exact hc
              · rcases x1.na x hx with g | ⟨g1, g2, g3⟩
                · exact .inl g
                · refine .inr ⟨g1, g2, .inr ?_⟩
                  rcases g3 with g3 | g3
                  · refine ⟨b, x1.mb b ?_, ?_⟩
                    · show gi (s.bs.set b 1) b = 1
                      rw [hv, if_pos rfl]
                    · have g4 : x = (gi wi b).toNat := g3
                      omega
                  · exact g3
              · rcases x1.nb c hc with g | g
                · have g' : gi (s.bs.set b 1) c = 1 := g
                  rw [hv] at g'
                  by_cases e : c = b
                  · subst e
                    exact .inr ⟨hw, m1, a, x1.ma a h3, hb⟩
                  · rw [if_neg e] at g'
                    exact .inl g'
                · exact .inr g
            have hz1 := xs.zeros h2
            obtain ⟨s2, e2, x2, m2⟩ := ihl s1 hl' x1.ba x1.bb (x1.ma a h3) (by omega)
            refine ⟨s2, e2, xs.trans x2, fun c hc => ?_⟩
            rcases List.mem_cons.1 hc with rfl | hc
            · refine x2.mb c (x1.mb c ?_)
              show gi (s.bs.set c 1) c = 1
              rw [hv, if_pos rfl]
            · exact m2 c hc
          · rw [if_neg h0]
            obtain ⟨s2, e2, x2, m2⟩ := ihl s hl' h1 h2 h3 h4
            refine ⟨s2, e2, x2, fun c hc => ?_⟩
            rcases List.mem_cons.1 hc with rfl | hc
            · refine x2.mb c ?_
              rcases h2.2 c hbm with h | h
              · exact absurd h h0
              · exact h
            · exact m2 c hc
      have hv := fun x => gi_set (l := s.xa) (i := a) (by rw [hba.1]; exact han) 1 x
      obtain ⟨s', e, x, mm⟩ := key (near a) { s with xa := s.xa.set a 1 } (fun _ h => h) (hba.set han) hbb (by show gi (s.xa.set a 1) a = 1; rw [hv, if_pos rfl]) hf
      have ma : gi s'.xa a = 1 := x.ma a (by show gi (s.xa.set a 1) a = 1; rw [hv, if_pos rfl])
      refine ⟨s', e, ⟨x.ba, x.bb, fun y hy => x.ma y ?_, x.mb, fun y hy => ?_, x.nb⟩, ma⟩
      · show gi (s.xa.set a 1) y = 1
        rw [hv]
        split
        · rfl
        · exact hy
      · by_cases ey : y = a
        · subst ey
          exact .inr ⟨mm, hza, .inl rfl⟩
        · rcases x.na y hy with g | ⟨g1, g2, g3⟩
          · have g' : gi (s.xa.set a 1) y = 1 := g
            rw [hv, if_neg ey] at g'
            exact .inl g'
          · refine .inr ⟨g1, g2, ?_⟩
            rcases g3 with g3 | g3
            · cases g3
            · exact .inr g3
theorem reachAll_out (hm : ∀ a b, b ∈ near a → b < m) (hZn : ∀ a, Z a → a < n) (hZ : ∀ a b, b ∈ near a → Z a → 0 ≤ gi wi b ∧ Z (gi wi b).toNat) (hfree : ∀ a, a < n → gi of a < 0 → Z a) (f : Nat) (hfm : m < f) :
    ∀ (l : List Nat) (s : RSt), (∀ a ∈ l, a < n) → Bits s.xa n → Bits s.bs m →
      ∃ s', reachAll near wi of f l s = some s' ∧ Ext near n m wi Z (fun a => gi of a < 0) s s' ∧ (∀ a ∈ l, gi of a < 0 → gi s'.xa a = 1) ∧ ((∀ a ∈ l, 0 ≤ gi of a) → s' = s) := by
  intro l
  induction l with
  | nil => intro s _ h1 h2; exact ⟨s, rfl, .refl h1 h2, (fun a h => by cases h), fun _ => rfl⟩
  | cons a l ih =>
    intro s hl h1 h2
    have ha := hl a (by simp)
    have hl' : ∀ c ∈ l, c < n := fun c hc => hl c (by simp [hc])
    unfold reachAll
    by_cases hu : gi of a < 0
    · rw [if_pos hu]
      have hz : zeros s.bs m ≤ m := by
        have := List.length_filter_le (fun x => decide (gi s.bs x = 0)) (List.range m)
        rw [List.length_range] at this
        exact this
      obtain ⟨s1, e1, x1, m1⟩ := reachF_out hm hZn hZ f a s (hfree a ha hu) h1 h2 (by omega)
      rw [e1]
      obtain ⟨s2, e2, x2, m2, _⟩ := ih s1 hl' x1.ba x1.bb
      refine ⟨s2, e2, (x1.mono (fun x hx => by rw [hx]; exact hu)).trans x2, fun c hc hcu => ?_, fun h => by have := h a (by simp); omega⟩
      rcases List.mem_cons.1 hc with rfl | hc
      · exact x2.ma c m1
      · exact m2 c hc hcu
    · rw [if_neg hu]
      obtain ⟨s2, e2, x2, m2, m3⟩ := ih s hl' h1 h2
      refine ⟨s2, e2, x2, fun c hc hcu => ?_, fun h => m3 fun c hc => h c (by simp [hc])⟩
      rcases List.mem_cons.1 hc with rfl | hc
      · exact absurd hcu hu
      · exact m2 c hc hcu
end
/-- What 'reached' answers. -/
structure ReachOut (E : Es) (n m : Nat) (of wi xa bs : List Int) : Prop where
  ba : Bits xa n
  bb : Bits bs m
  free : ∀ a, a < n → gi of a < 0 → gi xa a = 1
  fwd : ∀ p ∈ E, gi xa p.1 = 1 → gi bs p.2 = 1
  bk : ∀ b, gi bs b = 1 → 0 ≤ gi wi b ∧ gi xa (gi wi b).toNat = 1 ∧ ∃ x, gi xa x = 1 ∧ (x, b) ∈ E
  src : ∀ a, gi xa a = 1 → gi of a < 0 ∨ ∃ b, gi bs b = 1 ∧ gi wi b = (a : Int)
  none : (∀ a, a < n → 0 ≤ gi of a) → ∀ x, gi xa x ≠ 1
theorem reach_out {E : Es} {near : Nat → List Nat} {n m : Nat} {s : PSt} (hb : ∀ a b, b ∈ near a ↔ (a, b) ∈ E) (hE : ∀ p ∈ E, p.1 < n ∧ p.2 < m) (h : SolveOut E n m s) :
    ∃ r, reachAll near s.wi s.of (m + 1) (List.range n) ⟨List.replicate n 0, List.replicate m 0⟩ = some r ∧ ReachOut E n m s.of s.wi r.xa r.bs := by
  obtain ⟨r, e, x, m1, m2⟩ := reachAll_out (near := near) (n := n) (m := m) (of := s.of) (wi := s.wi) (Z := fun a => a < n ∧ 0 ≤ gi s.di a)
    (fun a b h => (hE _ ((hb a b).1 h)).2) (fun a h => h.1)
    (fun a b hab hz => by
      obtain ⟨h1, h2⟩ := h.clo _ ((hb a b).1 hab) hz.2
      exact ⟨h1, (h.pairs.bwd b (hE _ ((hb a b).1 hab)).2 h1).1, h2⟩)
    (fun a ha hu => ⟨ha, h.free a ha hu⟩) (m + 1) (by omega) (List.range n) ⟨List.replicate n 0, List.replicate m 0⟩ (fun a h => by simpa using h) (bits_zero n) (bits_zero m)
  have z : ∀ (k x : Nat), gi (List.replicate k 0) x ≠ 1 := fun k x => by
    unfold gi
    rw [List.getD_eq_getElem?_getD, List.getElem?_replicate]
    split
    · simp
    · simp
  have na : ∀ x', gi r.xa x' = 1 → _ := fun x' hx => (x.na x' hx).resolve_left (z n x')
  have nb : ∀ b, gi r.bs b = 1 → _ := fun b hx => (x.nb b hx).resolve_left (z m b)
  refine ⟨r, e, x.ba, x.bb, fun a ha hu => m1 a (by simpa using ha) hu, fun p hp h1 => (na p.1 h1).1 p.2 ((hb _ _).2 hp), fun b h1 => ?_, fun a h1 => (na a h1).2.2, fun h1 x' hx => ?_⟩
  · obtain ⟨h2, h3, y, h4, h5⟩ := nb b h1
    exact ⟨h2, h3, y, h4, (hb _ _).1 h5⟩
  · have := m2 fun a ha => h1 a (by simpa using ha)
    subst this
    exact z n x' hx
/-- Where a row has a number. -/
def placesN (l : List Int) (v : Int) : List Nat := (List.range l.length).filter (fun x => decide (gi l x = v))
theorem reach_count {E : Es} {n m : Nat} {s : PSt} {xa bs : List Int} (h : SolveOut E n m s) (hE : ∀ p ∈ E, p.1 < n ∧ p.2 < m) (hr : ReachOut E n m s.of s.wi xa bs) :
    (placesN xa 1).length = (n - matched n (gi s.of)) + (placesN bs 1).length ∧ (placesN xa 0).length + (placesN bs 1).length = matched n (gi s.of) := by
  have hm : matched n (gi s.of) ≤ n := by
    have := List.length_filter_le (fun a => decide (0 ≤ gi s.of a)) (List.range n)
    rw [List.length_range] at this
    exact this
  have hU := len_parts (fun a => decide (0 ≤ gi s.of a)) (List.range n)
  rw [List.length_range] at hU
  have hS := len_parts (fun a => decide (0 ≤ gi s.of a)) (placesN xa 1)
  have e1 : (placesN xa 1).filter (fun a => !decide (0 ≤ gi s.of a)) = (List.range n).filter (fun a => !decide (0 ≤ gi s.of a)) := by
    unfold placesN
    rw [hr.ba.1, List.filter_filter]
    refine List.filter_congr fun a ha => ?_
    have hn : a < n := by simpa using ha
    by_cases hu : 0 ≤ gi s.of a
    · simp [hu]
    · simp [hu, hr.free a hn (by omega)]
  have mem1 : ∀ x, x ∈ placesN xa 1 ↔ gi xa x = 1 := fun x => by
    unfold placesN
    rw [hr.ba.1, List.mem_filter]
    simp only [List.mem_range, decide_eq_true_eq]
    exact ⟨fun h => h.2, fun h => ⟨hr.ba.one h, h⟩⟩
  have memb : ∀ x, x ∈ placesN bs 1 ↔ gi bs x = 1 := fun x => by
    unfold placesN
    rw [hr.bb.1, List.mem_filter]
    simp only [List.mem_range, decide_eq_true_eq]
    exact ⟨fun h => h.2, fun h => ⟨hr.bb.one h, h⟩⟩
  have nd1 : (placesN xa 1).Nodup := List.nodup_range.sublist List.filter_sublist
  have ndb : (placesN bs 1).Nodup := List.nodup_range.sublist List.filter_sublist
  have l1 : ((placesN xa 1).filter (fun a => decide (0 ≤ gi s.of a))).length ≤ (placesN bs 1).length := by
    rw [← List.length_map (f := fun a => (gi s.of a).toNat)]
    refine nodup_sub_len (nodup_map_on _ (nd1.sublist List.filter_sublist) fun x hx y hy e => ?_) fun b hb => ?_
    · obtain ⟨h1, h2⟩ := List.mem_filter.1 hx
      obtain ⟨h3, h4⟩ := List.mem_filter.1 hy
      have g1 := (h.pairs.fwd x (hr.ba.one ((mem1 x).1 h1)) (by simpa using h2)).2
      have g2 := (h.pairs.fwd y (hr.ba.one ((mem1 y).1 h3)) (by simpa using h4)).2
      rw [e] at g1
      omega
    · obtain ⟨a, ha, rfl⟩ := List.mem_map.1 hb
      obtain ⟨h1, h2⟩ := List.mem_filter.1 ha
      have h2' : 0 ≤ gi s.of a := by simpa using h2
      rcases hr.src a ((mem1 a).1 h1) with h3 | ⟨b, h3, h4⟩
      · omega
      · have g := (h.pairs.bwd b (hr.bb.one h3) (by omega)).2
        rw [h4, Int.toNat_natCast] at g
        rw [g, Int.toNat_natCast]
        exact (memb b).2 h3
  have l2 : (placesN bs 1).length ≤ ((placesN xa 1).filter (fun a => decide (0 ≤ gi s.of a))).length := by
    rw [← List.length_map (f := fun b => (gi s.wi b).toNat)]
    refine nodup_sub_len (nodup_map_on _ ndb fun x hx y hy e => ?_) fun a ha => ?_
    · have h1 := (memb x).1 hx
      have h2 := (memb y).1 hy
      have g1 := (h.pairs.bwd x (hr.bb.one h1) (hr.bk x h1).1).2
      have g2 := (h.pairs.bwd y (hr.bb.one h2) (hr.bk y h2).1).2
      rw [e] at g1
      omega
    · obtain ⟨b, hb, rfl⟩ := List.mem_map.1 ha
      have h1 := (memb b).1 hb
      obtain ⟨h2, h3, _⟩ := hr.bk b h1
      have g := (h.pairs.bwd b (hr.bb.one h1) h2).2
      refine List.mem_filter.2 ⟨(mem1 _).2 h3, ?_⟩
      rw [decide_eq_true_eq, g]
      omega
  have h01 := len_parts (fun a => decide (gi xa a = 1)) (List.range n)
  rw [List.length_range] at h01
  have e0 : (List.range n).filter (fun a => !decide (gi xa a = 1)) = placesN xa 0 := by
    unfold placesN
    rw [hr.ba.1]
    refine List.filter_congr fun a ha => ?_
    rcases hr.ba.2 a (by simpa using ha) with e | e <;> simp [e]
  have e2 : (List.range n).filter (fun a => decide (gi xa a = 1)) = placesN xa 1 := by unfold placesN; rw [hr.ba.1]
  rw [e0, e2] at h01
  rw [e1] at hS
  have hM : matched n (gi s.of) = ((List.range n).filter (fun a => decide (0 ≤ gi s.of a))).length := rfl
  omega
end Go.Proofs.YtppjpledjhinbaaDoor
/- Matchings: what the reference's search computes, in plain words. -/
namespace Go.Proofs.YtppjpledjhinbaaDoor
structure TSt where
  wi : List Int
  seen : List Bool
def sn (l : List Bool) (b : Nat) : Bool := l.getD b false
theorem sn_set {l : List Bool} {i : Nat} (h : i < l.length) (v : Bool) (j : Nat) : sn (l.set i v) j = if j = i then v else sn l j := by
  unfold sn
  rw [List.getD_eq_getElem?_getD, List.getD_eq_getElem?_getD, List.getElem?_set]
  by_cases e : j = i
  · subst e
    rw [if_pos rfl, if_pos rfl, if_pos h]
    rfl
  · rw [if_neg (fun e' => e e'.symm), if_neg e]
def tryL (step : Nat → TSt → Option (Bool × TSt)) (a : Nat) : List Nat → TSt → Option (Bool × TSt)
  | [], s => some (false, s)
  | b :: l, s =>
    if sn s.seen b = true then tryL step a l s
    else if gi s.wi b < 0 then some (true, ⟨s.wi.set b a, s.seen.set b true⟩)
    else
      match step (gi s.wi b).toNat { s with seen := s.seen.set b true } with
      | none => none
      | some (true, s') => some (true, { s' with wi := s'.wi.set b a })
      | some (false, s') => tryL step a l s'
def tryF (near : Nat → List Nat) : Nat → Nat → TSt → Option (Bool × TSt)
  | 0, _, _ => none
  | f + 1, a, s => tryL (tryF near f) a (near a) s
def unseen (l : List Bool) (m : Nat) : Nat := ((List.range m).filter (fun x => !sn l x)).length
theorem unseen_set {l : List Bool} {m b : Nat} (h : l.length = m) (hb : b < m) (h0 : sn l b = false) : unseen l m = unseen (l.set b true) m + 1 := by
  have hv := fun x => sn_set (l := l) (i := b) (by omega) true x
  unfold unseen
  refine count_one _ _ b (by simp [hv]) (by simp [h0]) (fun x hx => by simp [hv, hx]) _ List.nodup_range (by simpa using hb)
def had (wi : List Int) (m : Nat) : Nat := ((List.range m).filter (fun x => decide (0 ≤ gi wi x))).length
/-- No A has two B's among those that aren't seen. -/
def Inj (wi : List Int) (seen : Nat → Bool) : Prop := ∀ b c, seen b = false → seen c = false → 0 ≤ gi wi b → gi wi b = gi wi c → b = c
section
variable {E : Es} {near : Nat → List Nat} {m : Nat}
/-- What 'try' answers, in vain. -/
structure TryNo (near : Nat → List Nat) (m a : Nat) (s s' : TSt) : Prop where
  wi : s'.wi = s.wi
  ls : s'.seen.length = m
  mono : ∀ b, sn s.seen b = true → sn s'.seen b = true
  here : ∀ b ∈ near a, sn s'.seen b = true
  new : ∀ b, sn s'.seen b = true → sn s.seen b = true ∨ (0 ≤ gi s.wi b ∧ ∀ c ∈ near (gi s.wi b).toNat, sn s'.seen c = true)
/-- .. with success. -/
structure TryYes (E : Es) (m a : Nat) (s s' : TSt) : Prop where
  lw : s'.wi.length = m
  ls : s'.seen.length = m
  keep : ∀ b, sn s.seen b = true → gi s'.wi b = gi s.wi b
  inj : Inj s'.wi (sn s.seen)
  val : ∀ b, sn s.seen b = false → 0 ≤ gi s'.wi b → gi s'.wi b = (a : Int) ∨ ∃ c, sn s.seen c = false ∧ 0 ≤ gi s.wi c ∧ gi s'.wi b = gi s.wi c
  edge : ∀ b, sn s.seen b = false → 0 ≤ gi s'.wi b → ((gi s'.wi b).toNat, b) ∈ E
  one : ∃ c, c < m ∧ gi s.wi c < 0 ∧ 0 ≤ gi s'.wi c ∧ ∀ x, x ≠ c → (0 ≤ gi s'.wi x ↔ 0 ≤ gi s.wi x)
theorem tryF_out (hb : ∀ a b, b ∈ near a ↔ (a, b) ∈ E) (hm : ∀ p ∈ E, p.2 < m) :
    ∀ (f a : Nat) (s : TSt), s.wi.length = m → s.seen.length = m → Inj s.wi (sn s.seen) → (∀ b, sn s.seen b = false → 0 ≤ gi s.wi b → ((gi s.wi b).toNat, b) ∈ E) →
      (∀ b, sn s.seen b = false → gi s.wi b ≠ (a : Int)) → unseen s.seen m < f →
      ∃ r s', tryF near f a s = some (r, s') ∧ ((r = false ∧ TryNo near m a s s') ∨ (r = true ∧ TryYes E m a s s')) := by
  intro f
  induction f with
  | zero => intro a s _ _ _ _ _ h; omega
  | succ f ih =>
    intro a s0 lw ls0 hinj hedge hna hf
    have key : ∀ (l : List Nat) (sd : List Bool), (∀ b ∈ l, b ∈ near a) → sd.length = m → (∀ b, sn s0.seen b = true → sn sd b = true) →
        (∀ b ∈ near a, b ∈ l ∨ sn sd b = true) → (∀ b, sn sd b = true → sn s0.seen b = true ∨ (0 ≤ gi s0.wi b ∧ ∀ c ∈ near (gi s0.wi b).toNat, sn sd c = true)) → unseen sd m < f + 1 →
        ∃ r s', tryL (tryF near f) a l ⟨s0.wi, sd⟩ = some (r, s') ∧ ((r = false ∧ TryNo near m a s0 s') ∨ (r = true ∧ TryYes E m a s0 s')) := by
      intro l
      induction l with
      | nil => intro sd _ hls hmono hhere hnew _; exact ⟨false, _, rfl, .inl ⟨rfl, rfl, hls, hmono, fun b hb => by rcases hhere b hb with h | h; cases h; exact h, hnew⟩⟩
      | cons b l ihl =>
        intro sd hl hls hmono hhere hnew hun
        have hbn := hl b (by simp)
        have hbE := (hb a b).1 hbn
        have hbm : b < m := hm _ hbE
        have hl' : ∀ c ∈ l, c ∈ near a := fun c hc => hl c (by simp [hc])
        unfold tryL
        by_cases hs : sn sd b = true
        · rw [if_pos hs]
          refine ihl sd hl' hls hmono (fun c hc => ?_) hnew hun
          rcases hhere c hc with h | h
          · rcases List.mem_cons.1 h with rfl | h
            · exact .inr hs
            · exact .inl h
          · exact .inr h
        · rw [if_neg hs]
          have hs' : sn sd b = false := by simpa using hs
          have hs0 : sn s0.seen b = false := by
            cases h : sn s0.seen b with
            | true => rw [hmono b h] at hs'; cases hs'
            | false => rfl
          have sv := fun x => sn_set (l := sd) (i := b) (by omega) true x
          have lb : b < s0.wi.length := by omega
          by_cases hw : gi s0.wi b < 0
          · rw [if_pos hw]
            have wv := fun x => gi_set (l := s0.wi) (i := b) lb (a : Int) x
            refine ⟨true, _, rfl, .inr ⟨rfl, by simp [lw], by simp [hls], fun c hc => ?_, fun c d hc hd h0 e => ?_, fun c hc h0 => ?_, fun c hc h0 => ?_, b, hbm, hw, ?_, fun x hx => ?_⟩⟩
            · show gi (s0.wi.set b a) c = _
              rw [wv, if_neg (by rintro rfl; rw [hs0] at hc; cases hc)]
            · have e' : gi (s0.wi.set b a) c = gi (s0.wi.set b a) d := e
              have h0' : 0 ≤ gi (s0.wi.set b a) c := h0
              rw [wv, wv] at e'
              rw [wv] at h0'
              by_cases e1 : c = b
              · by_cases e2 : d = b
                · rw [e1, e2]
                · rw [if_pos e1, if_neg e2] at e'
                  exact absurd e'.symm (hna d hd)
              · by_cases e2 : d = b
                · rw [if_neg e1, if_pos e2] at e'
                  exact absurd e' (hna c hc)
                · rw [if_neg e1, if_neg e2] at e'
                  rw [if_neg e1] at h0'
                  exact hinj c d hc hd h0' e'
            · have h0' : 0 ≤ gi (s0.wi.set b a) c := h0
              show gi (s0.wi.set b a) c = _ ∨ ∃ d, _ ∧ _ ∧ gi (s0.wi.set b a) c = _
              rw [wv] at h0' ⊢
              by_cases e1 : c = b
              · rw [if_pos e1]; exact .inl rfl
              · rw [if_neg e1] at h0' ⊢
                exact .inr ⟨c, hc, h0', rfl⟩
            · have h0' : 0 ≤ gi (s0.wi.set b a) c := h0
              show ((gi (s0.wi.set b a) c).toNat, c) ∈ E
              rw [wv] at h0' ⊢
              by_cases e1 : c = b
              · rw [if_pos e1, e1, Int.toNat_natCast]; exact hbE
              · rw [if_neg e1] at h0' ⊢
                exact hedge c hc h0'
            · show 0 ≤ gi (s0.wi.set b a) b
              rw [wv, if_pos rfl]; omega
            · show 0 ≤ gi (s0.wi.set b a) x ↔ _
              rw [wv, if_neg hx]
          · rw [if_neg hw]
            obtain ⟨q, hq⟩ : ∃ q : Nat, gi s0.wi b = (q : Int) := ⟨(gi s0.wi b).toNat, by omega⟩
            have hqt : (gi s0.wi b).toNat = q := by omega
            have hun2 := unseen_set hls hbm hs'
            have back : ∀ c, sn (sd.set b true) c = false → c ≠ b ∧ sn sd c = false := fun c hc => by
              rw [sv] at hc
              by_cases e : c = b
              · rw [if_pos e] at hc; cases hc
              · rw [if_neg e] at hc; exact ⟨e, hc⟩
            have back0 : ∀ c, sn sd c = false → sn s0.seen c = false := fun c hc => by
              cases h : sn s0.seen c with
              | true => rw [hmono c h] at hc; cases hc
              | false => rfl
            obtain ⟨r, s', he, hout⟩ := ih (gi s0.wi b).toNat ⟨s0.wi, sd.set b true⟩ lw (by simp [hls])
              (fun c d hc hd h0 e => hinj c d (back0 c (back c hc).2) (back0 d (back d hd).2) h0 e)
              (fun c hc h0 => hedge c (back0 c (back c hc).2) h0)
              (fun c hc e => (back c hc).1 (hinj c b (back0 c (back c hc).2) hs0 (by show 0 ≤ gi s0.wi c; rw [show gi s0.wi c = _ from e]; omega) (by rw [show gi s0.wi c = _ from e]; omega)))
              (by show unseen (sd.set b true) m < f; omega)
            simp only
            rw [he]
            rcases hout with ⟨rfl, hno⟩ | ⟨rfl, hyes⟩
            · simp only
              have ew : s'.wi = s0.wi := hno.wi
              have es : s' = ⟨s0.wi, s'.seen⟩ := by rw [← ew]
              rw [es]
              have hmono2 : ∀ c, sn sd c = true → sn s'.seen c = true := fun c hc => hno.mono c (by
                show sn (sd.set b true) c = true
                rw [sv]; split
                · rfl
                · exact hc)
              have hbs : sn s'.seen b = true := hno.mono b (by show sn (sd.set b true) b = true; rw [sv, if_pos rfl])
              refine ihl s'.seen hl' hno.ls (fun c hc => hmono2 c (hmono c hc)) (fun c hc => ?_) (fun c hc => ?_) ?_
              · rcases hhere c hc with h | h
                · rcases List.mem_cons.1 h with rfl | h
                  · exact .inr hbs
                  · exact .inl h
                · exact .inr (hmono2 c h)
              · rcases hno.new c hc with h | h
                · have h' : sn (sd.set b true) c = true := h
                  rw [sv] at h'
                  by_cases e : c = b
                  · subst e
                    exact .inr ⟨by omega, hno.here⟩
                  · rw [if_neg e] at h'
                    rcases hnew c h' with h | ⟨h1, h2⟩
                    · exact .inl h
                    · exact .inr ⟨h1, fun d hd => hmono2 d (h2 d hd)⟩
                · exact .inr h
              · refine Nat.lt_of_le_of_lt (filter_len_le _ _ _ fun x _ hx => ?_) hun
                cases h : sn sd x with
                | true => rw [hmono2 x h] at hx; exact hx
                | false => rfl
            · simp only
              have kq : ∀ c, sn (sd.set b true) c = true → gi s'.wi c = gi s0.wi c := hyes.keep
              have lb' : b < s'.wi.length := by rw [hyes.lw]; exact hbm
              have wv := fun x => gi_set (l := s'.wi) (i := b) lb' (a : Int) x
              have hbt : sn (sd.set b true) b = true := by rw [sv, if_pos rfl]
              -- what the others hold
              have oth : ∀ c, sn s0.seen c = false → c ≠ b → 0 ≤ gi s'.wi c → (sn sd c = true ∧ gi s'.wi c = gi s0.wi c) ∨ (sn sd c = false ∧ (gi s'.wi c = gi s0.wi b ∨ ∃ d, d ≠ b ∧ sn sd d = false ∧ 0 ≤ gi s0.wi d ∧ gi s'.wi c = gi s0.wi d)) := fun c hc hcb h0 => by
                cases h : sn sd c with
                | true => exact .inl ⟨rfl, kq c (by rw [sv, if_neg hcb]; exact h)⟩
                | false =>
                  refine .inr ⟨rfl, ?_⟩
                  rcases hyes.val c (by show sn (sd.set b true) c = false; rw [sv, if_neg hcb]; exact h) h0 with h1 | ⟨d, h1, h2, h3⟩
                  · exact .inl (by rw [h1]; omega)
                  · exact .inr ⟨d, (back d h1).1, (back d h1).2, h2, h3⟩
              have nota : ∀ c, sn s0.seen c = false → c ≠ b → 0 ≤ gi s'.wi c → gi s'.wi c ≠ (a : Int) := fun c hc hcb h0 e => by
                rcases oth c hc hcb h0 with ⟨_, h1⟩ | ⟨_, h1 | ⟨d, _, h2, _, h3⟩⟩
                · exact hna c hc (by rw [← h1]; exact e)
                · exact hna b hs0 (by rw [← h1]; exact e)
                · exact hna d (back0 d h2) (by rw [← h3]; exact e)
              refine ⟨true, _, rfl, .inr ⟨rfl, by simp [hyes.lw], hyes.ls, fun c hc => ?_, fun c d hc hd h0 e => ?_, fun c hc h0 => ?_, fun c hc h0 => ?_, ?_⟩⟩
              · show gi (s'.wi.set b a) c = _
                rw [wv, if_neg (by rintro rfl; rw [hs0] at hc; cases hc)]
                refine kq c ?_
                rw [sv]; split
                · rfl
                · exact hmono c hc
              · have e' : gi (s'.wi.set b a) c = gi (s'.wi.set b a) d := e
                have h0' : 0 ≤ gi (s'.wi.set b a) c := h0
                rw [wv, wv] at e'
                rw [wv] at h0'
                by_cases e1 : c = b
                · by_cases e2 : d = b
                  · rw [e1, e2]
                  · rw [if_pos e1, if_neg e2] at e'
                    exact absurd e'.symm (nota d hd e2 (by rw [← e']; omega))
                · by_cases e2 : d = b
                  · rw [if_neg e1, if_pos e2] at e'
                    exact absurd e' (nota c hc e1 (by rw [e']; omega))
                  · rw [if_neg e1, if_neg e2] at e'
                    rw [if_neg e1] at h0'
                    have cross : ∀ c d, sn s0.seen c = false → sn s0.seen d = false → c ≠ b → d ≠ b → 0 ≤ gi s'.wi c → gi s'.wi c = gi s'.wi d → sn sd c = true → sn sd d = false → c = d := by
                      intro c d hc hd e1 e2 h0 e3 hsc hsd
                      have g1 := kq c (by rw [sv, if_neg e1]; exact hsc)
                      rcases oth d hd e2 (by omega) with ⟨h, _⟩ | ⟨_, h1 | ⟨x, hx1, hx2, hx3, hx4⟩⟩
                      · rw [hsd] at h; cases h
                      · exact absurd (hinj c b hc hs0 (by omega) (by omega)) e1
                      · have := hinj c x hc (back0 x hx2) (by omega) (by omega)
                        subst this
                        rw [hsc] at hx2; cases hx2
                    cases hsc : sn sd c with
                    | true =>
                      cases hsd : sn sd d with
                      | true =>
                        have g1 := kq c (by rw [sv, if_neg e1]; exact hsc)
                        have g2 := kq d (by rw [sv, if_neg e2]; exact hsd)
                        exact hinj c d hc hd (by omega) (by omega)
                      | false => exact cross c d hc hd e1 e2 h0' e' hsc hsd
                    | false =>
                      cases hsd : sn sd d with
                      | true => exact (cross d c hd hc e2 e1 (by omega) e'.symm hsd hsc).symm
                      | false => exact hyes.inj c d (by show sn (sd.set b true) c = false; rw [sv, if_neg e1]; exact hsc) (by show sn (sd.set b true) d = false; rw [sv, if_neg e2]; exact hsd) h0' e'
              · have h0' : 0 ≤ gi (s'.wi.set b a) c := h0
                show gi (s'.wi.set b a) c = _ ∨ ∃ d, _ ∧ _ ∧ gi (s'.wi.set b a) c = _
                rw [wv] at h0' ⊢
                by_cases e1 : c = b
                · rw [if_pos e1]; exact .inl rfl
                · rw [if_neg e1] at h0' ⊢
                  rcases oth c hc e1 h0' with ⟨_, h1⟩ | ⟨_, h1 | ⟨d, _, h2, h3, h4⟩⟩
                  · exact .inr ⟨c, hc, by omega, h1⟩
                  · exact .inr ⟨b, hs0, by omega, h1⟩
                  · exact .inr ⟨d, back0 d h2, h3, h4⟩
              · have h0' : 0 ≤ gi (s'.wi.set b a) c := h0
                show ((gi (s'.wi.set b a) c).toNat, c) ∈ E
                rw [wv] at h0' ⊢
                by_cases e1 : c = b
                · rw [if_pos e1, e1, Int.toNat_natCast]; exact hbE
                · rw [if_neg e1] at h0' ⊢
                  cases hsc : sn sd c with
                  | true =>
                    have g1 := kq c (by rw [sv, if_neg e1]; exact hsc)
                    rw [g1] at h0' ⊢
                    exact hedge c hc h0'
                  | false => exact hyes.edge c (by show sn (sd.set b true) c = false; rw [sv, if_neg e1]; exact hsc) h0'
              · obtain ⟨c, h1, h2, h3, h4⟩ := hyes.one
                have h2' : gi s0.wi c < 0 := h2
                have hcb : c ≠ b := by rintro rfl; omega
                refine ⟨c, h1, h2', ?_, fun x hx => ?_⟩
                · show 0 ≤ gi (s'.wi.set b a) c
                  rw [wv, if_neg hcb]; exact h3
                · show 0 ≤ gi (s'.wi.set b a) x ↔ _
                  rw [wv]
                  by_cases e : x = b
                  · rw [if_pos e, e]; omega
                  · rw [if_neg e]; exact h4 x hx
    exact key (near a) s0.seen (fun _ h => h) ls0 (fun _ h => h) (fun b h => .inl h) (fun b h => .inl h) hf
/-! ### One after the other -/
def sizeF (near : Nat → List Nat) (m : Nat) : List Nat → List Int → Nat → Option (List Int × Nat)
  | [], wi, k => some (wi, k)
  | a :: l, wi, k =>
    match tryF near (m + 1) a ⟨wi, List.replicate m false⟩ with
    | none => none
    | some (true, s) => sizeF near m l s.wi (k + 1)
    | some (false, s) => sizeF near m l s.wi k
def below (E : Es) (a : Nat) : Es := E.filter (fun p => decide (p.1 < a))
theorem mem_below {E : Es} {a : Nat} {p : Nat × Nat} : p ∈ below E a ↔ p ∈ E ∧ p.1 < a := by
  unfold below
  rw [List.mem_filter, decide_eq_true_eq]
structure SzSt (E : Es) (m a : Nat) (wi : List Int) (k : Nat) : Prop where
  lw : wi.length = m
  inj : Inj wi (fun _ => false)
  edge : ∀ b, 0 ≤ gi wi b → ((gi wi b).toNat, b) ∈ below E a
  cnt : had wi m = k
  cov : HasC (below E a) k
theorem sn_rep (m b : Nat) : sn (List.replicate m false) b = false := by
  unfold sn
  rw [List.getD_eq_getElem?_getD, List.getElem?_replicate]
  split <;> rfl
theorem unseen_le (l : List Bool) (m : Nat) : unseen l m ≤ m := by
  have := List.length_filter_le (fun x => !sn l x) (List.range m)
  rw [List.length_range] at this
  exact this
theorem size_step (hb : ∀ a b, b ∈ near a ↔ (a, b) ∈ E) (hm : ∀ p ∈ E, p.2 < m) {a : Nat} {wi : List Int} {k : Nat} (h : SzSt E m a wi k) :
    ∃ r s, tryF near (m + 1) a ⟨wi, List.replicate m false⟩ = some (r, s) ∧ SzSt E m (a + 1) s.wi (if r then k + 1 else k) := by
  have hsn := sn_rep m
  have hEq : ∀ b, 0 ≤ gi wi b → ((gi wi b).toNat, b) ∈ E ∧ (gi wi b).toNat < a := fun b h0 => mem_below.1 (h.edge b h0)
  obtain ⟨r, s, e, ho⟩ := tryF_out hb hm (m + 1) a ⟨wi, List.replicate m false⟩ h.lw (by simp) (fun b c _ _ h0 e => h.inj b c rfl rfl h0 e)
    (fun b _ h0 => (hEq b h0).1) (fun b _ e => by
      have e' : gi wi b = (a : Int) := e
      have := (hEq b (by omega)).2
      omega) (by have := unseen_le (List.replicate m false) m; show unseen (List.replicate m false) m < m + 1; omega)
  refine ⟨r, s, e, ?_⟩
  rcases ho with ⟨rfl, hno⟩ | ⟨rfl, hy⟩
  · have ew : s.wi = wi := hno.wi
    rw [ew]
    refine ⟨h.lw, h.inj, fun b h0 => ?_, h.cnt, ?_⟩
    · have := hEq b h0
      exact mem_below.2 ⟨this.1, by show (gi wi b).toNat < a + 1; omega⟩
    · obtain ⟨A, B, hl, hc⟩ := h.cov
      -- the visited ones
      have hsee : ∀ b, sn s.seen b = true → 0 ≤ gi wi b ∧ ∀ c ∈ near (gi wi b).toNat, sn s.seen c = true := fun b hb => by
        rcases hno.new b hb with h | h
        · have h' : sn (List.replicate m false) b = true := h
          rw [hsn] at h'; cases h'
        · exact h
      let RA : Nat → Bool := fun x => decide (x = a) || (List.range m).any (fun b => sn s.seen b && decide (gi wi b = (x : Int)))
      have hRA : ∀ x, RA x = true ↔ x = a ∨ ∃ b, b < m ∧ sn s.seen b = true ∧ gi wi b = (x : Int) := fun x => by
        simp only [RA, Bool.or_eq_true, decide_eq_true_eq, List.any_eq_true, List.mem_range, Bool.and_eq_true]
      have hRn : ∀ x, RA x = true → ∀ b ∈ near x, sn s.seen b = true := fun x hx b hbx => by
        rcases (hRA x).1 hx with rfl | ⟨c, _, hc1, hc2⟩
        · exact hno.here b hbx
        · have := (hsee c hc1).2
          rw [hc2, Int.toNat_natCast] at this
          exact this b hbx
      let S := (List.range m).filter (fun b => sn s.seen b && !decide (b ∈ B))
      have hS : ∀ b, b ∈ S ↔ b < m ∧ sn s.seen b = true ∧ b ∉ B := fun b => by
        simp [S, List.mem_filter]
      refine ⟨A.filter (fun x => !RA x), B ++ S, ?_, fun p hp => ?_⟩
      · have hA := len_parts RA A
        have hSl : S.length ≤ (A.filter RA).length := by
          rw [← List.length_map (f := fun b => (gi wi b).toNat)]
          refine nodup_sub_len (nodup_map_on _ (List.nodup_range.sublist List.filter_sublist) fun x hx y hy e => ?_) fun q hq => ?_
          · have h1 := (hsee x ((hS x).1 hx).2.1).1
            have h2 := (hsee y ((hS y).1 hy).2.1).1
            exact h.inj x y rfl rfl h1 (by omega)
          · obtain ⟨b, hbS, rfl⟩ := List.mem_map.1 hq
            obtain ⟨h1, h2, h3⟩ := (hS b).1 hbS
            have h4 := (hsee b h2).1
            refine List.mem_filter.2 ⟨?_, (hRA _).2 (.inr ⟨b, h1, h2, by omega⟩)⟩
            rcases hc _ (h.edge b h4) with h5 | h5
            · exact h5
            · exact absurd h5 h3
        simp only [List.length_append]
        show _ ≤ k
        omega
      · obtain ⟨h1, h2⟩ := mem_below.1 hp
        cases hr : RA p.1 with
        | true =>
          have h3 := hRn p.1 hr p.2 ((hb _ _).2 h1)
          refine .inr ?_
          rw [List.mem_append]
          by_cases h4 : p.2 ∈ B
          · exact .inl h4
          · exact .inr ((hS _).2 ⟨hm p h1, h3, h4⟩)
        | false =>
          have hne : p.1 ≠ a := fun h => by rw [(hRA p.1).2 (.inl h)] at hr; cases hr
          rcases hc p (mem_below.2 ⟨h1, by omega⟩) with h3 | h3
          · exact .inl (List.mem_filter.2 ⟨h3, by simp [hr]⟩)
          · exact .inr (by simp [h3])
  · refine ⟨hy.lw, fun b c _ _ h0 e => hy.inj b c (hsn b) (hsn c) h0 e, fun b h0 => ?_, ?_, ?_⟩
    · refine mem_below.2 ⟨hy.edge b (hsn b) h0, ?_⟩
      show (gi s.wi b).toNat < a + 1
      rcases hy.val b (hsn b) h0 with h1 | ⟨c, _, h2, h3⟩
      · omega
      · have h2' : 0 ≤ gi wi c := h2
        have h3' : gi s.wi b = gi wi c := h3
        have := (hEq c h2').2
        omega
    · obtain ⟨c, h1, h2, h3, h4⟩ := hy.one
      have h2' : gi wi c < 0 := h2
      show had s.wi m = k + 1
      rw [← h.cnt]
      unfold had
      refine count_one _ _ c (by simp; omega) (by simpa using h3) (fun x hx => ?_) _ List.nodup_range (by simpa using h1)
      have := h4 x hx
      by_cases e : 0 ≤ gi s.wi x
      · have e2 : 0 ≤ gi wi x := this.1 e
        simp [e, e2]
      · have e2 : ¬ 0 ≤ gi wi x := fun h' => e (this.2 h')
        simp only [e, e2]
    · obtain ⟨A, B, hl, hc⟩ := h.cov
      refine ⟨a :: A, B, by simp only [List.length_cons]; show _ ≤ k + 1; omega, fun p hp => ?_⟩
      obtain ⟨h1, h2⟩ := mem_below.1 hp
      by_cases e : p.1 = a
      · exact .inl (by simp [e])
      · rcases hc p (mem_below.2 ⟨h1, by omega⟩) with h3 | h3
        · exact .inl (by simp [h3])
        · exact .inr h3
theorem size_from (hb : ∀ a b, b ∈ near a ↔ (a, b) ∈ E) (hm : ∀ p ∈ E, p.2 < m) : ∀ (j a : Nat) (wi : List Int) (k : Nat), SzSt E m a wi k →
    ∃ wi' k', sizeF near m (List.range' a j) wi k = some (wi', k') ∧ SzSt E m (a + j) wi' k' := by
  intro j
  induction j with
  | zero => intro a wi k h; exact ⟨wi, k, rfl, h⟩
  | succ j ih =>
    intro a wi k h
    obtain ⟨r, s, e, h1⟩ := size_step hb hm h
    obtain ⟨wi', k', e2, h2⟩ := ih (a + 1) s.wi _ h1
    refine ⟨wi', k', ?_, by rw [show a + (j + 1) = a + 1 + j by omega]; exact h2⟩
    rw [List.range'_succ, sizeF, e]
    cases r <;> exact e2
theorem SzSt.nu {n k : Nat} {wi : List Int} (h : SzSt E m n wi k) (hE : ∀ p ∈ E, p.1 < n) : NuIs E k := by
  have hbl : ∀ p, p ∈ below E n ↔ p ∈ E := fun p => ⟨fun h => (mem_below.1 h).1, fun hp => mem_below.2 ⟨hp, hE p hp⟩⟩
  refine NuIs.same (E := below E n) ⟨?_, h.cov⟩ hbl
  refine ⟨((List.range m).filter (fun x => decide (0 ≤ gi wi x))).map (fun b => ((gi wi b).toNat, b)), by rw [List.length_map]; exact h.cnt, fun p hp => ?_, ?_, ?_⟩
  · obtain ⟨b, hb, rfl⟩ := List.mem_map.1 hp
    exact h.edge b (by simpa using (List.mem_filter.1 hb).2)
  · rw [List.map_map]
    refine nodup_map_on _ (List.nodup_range.sublist List.filter_sublist) fun x hx y hy e => ?_
    have h1 : 0 ≤ gi wi x := by simpa using (List.mem_filter.1 hx).2
    have h2 : 0 ≤ gi wi y := by simpa using (List.mem_filter.1 hy).2
    simp only [Function.comp] at e
    exact h.inj x y rfl rfl h1 (by omega)
  · rw [List.map_map]
    have e : (Prod.snd ∘ fun b => ((gi wi b).toNat, b)) = (id : Nat → Nat) := rfl
    rw [e, List.map_id]
    exact List.nodup_range.sublist List.filter_sublist
theorem sz_start : SzSt E m 0 (List.replicate m (-1)) 0 := by
  refine ⟨by simp, fun b c _ _ h _ => by rw [gi_rep] at h; omega, fun b h => by rw [gi_rep] at h; omega, ?_, [], [], by simp, fun p hp => by have := (mem_below.1 hp).2; omega⟩
  unfold had
  rw [List.length_eq_zero_iff, List.filter_eq_nil_iff]
  intro x _
  simp [gi_rep]
end
end Go.Proofs.YtppjpledjhinbaaDoor
/- Flows: sums, cuts, costs, in plain words. -/
namespace Go.Proofs.YtppjpledjhinbaaDoor
/-! ### Sums -/
def sm : Nat → (Nat → Int) → Int
  | 0, _ => 0
  | n + 1, g => sm n g + g n
theorem sm_congr {n : Nat} {g h : Nat → Int} (e : ∀ i, i < n → g i = h i) : sm n g = sm n h := by
  induction n with
  | zero => rfl
  | succ n ih => rw [sm, sm, ih fun i hi => e i (by omega), e n (by omega)]
theorem sm_zero (n : Nat) : sm n (fun _ => 0) = 0 := by
  induction n with
  | zero => rfl
  | succ n ih => rw [sm, ih]; rfl
theorem sm_add (n : Nat) (g h : Nat → Int) : sm n (fun i => g i + h i) = sm n g + sm n h := by
  induction n with
  | zero => rfl
  | succ n ih => simp only [sm, ih]; omega
theorem sm_sub (n : Nat) (g h : Nat → Int) : sm n (fun i => g i - h i) = sm n g - sm n h := by
  induction n with
  | zero => rfl
  | succ n ih => simp only [sm, ih]; omega
theorem sm_neg (n : Nat) (g : Nat → Int) : sm n (fun i => - g i) = - sm n g := by
  induction n with
  | zero => rfl
  | succ n ih => simp only [sm, ih]; omega
theorem sm_mul (n : Nat) (c : Int) (g : Nat → Int) : sm n (fun i => c * g i) = c * sm n g := by
  induction n with
  | zero => simp [sm]
  | succ n ih => simp only [sm, ih, Int.mul_add]
theorem sm_le {n : Nat} {g h : Nat → Int} (e : ∀ i, i < n → g i ≤ h i) : sm n g ≤ sm n h := by
  induction n with
  | zero => exact Int.le_refl _
  | succ n ih =>
    have := ih fun i hi => e i (by omega)
    have := e n (by omega)
    simp only [sm]
    omega
theorem sm_nonneg {n : Nat} {g : Nat → Int} (e : ∀ i, i < n → 0 ≤ g i) : 0 ≤ sm n g := by
  have := sm_le (g := fun _ => 0) e
  rwa [sm_zero] at this
theorem sm_bound {n : Nat} {g : Nat → Int} {c : Int} (e : ∀ i, i < n → g i ≤ c) : sm n g ≤ n * c := by
  induction n with
  | zero => simp [sm]
  | succ n ih =>
    have := ih fun i hi => e i (by omega)
    have := e n (by omega)
    rw [sm, Int.natCast_add, Int.add_mul]
    omega
/-- One place alone. -/
theorem sm_one {n : Nat} (x : Nat) (hx : x < n) (c : Int) : sm n (fun v => if v = x then c else 0) = c := by
  induction n with
  | zero => omega
  | succ n ih =>
    rw [sm]
    by_cases e : n = x
    · rw [if_pos e, sm_congr (h := fun _ => 0) (fun i hi => if_neg (by omega)), sm_zero]; omega
    · rw [if_neg e, ih (by omega)]; omega
theorem sm_none {n : Nat} (x : Nat) (hx : n ≤ x) (c : Int) : sm n (fun v => if v = x then c else 0) = 0 := by
  rw [sm_congr (h := fun _ => 0) (fun i hi => if_neg (by omega)), sm_zero]
theorem sm_set {n : Nat} (x : Nat) (hx : x < n) (g h : Nat → Int) (e : ∀ i, i < n → i ≠ x → h i = g i) : sm n h = sm n g + (h x - g x) := by
  have h1 : sm n h = sm n (fun i => g i + (if i = x then h x - g x else 0)) := sm_congr fun i hi => by
    by_cases e' : i = x
    · subst e'; rw [if_pos rfl]; omega
    · rw [if_neg e', e i hi e']; omega
  rw [h1, sm_add, sm_one x hx]
theorem sm_shift (n : Nat) (g : Nat → Int) : sm (n + 1) g = g 0 + sm n (fun i => g (i + 1)) := by
  induction n with
  | zero => simp [sm]
  | succ n ih => rw [sm, ih, sm]; omega
theorem sm_rev (n : Nat) (g : Nat → Int) : sm n (fun i => g (n - 1 - i)) = sm n g := by
  induction n with
  | zero => rfl
  | succ n ih =>
    rw [sm_shift, sm, ← ih]
    have : sm n (fun i => g (n + 1 - 1 - (i + 1))) = sm n (fun i => g (n - 1 - i)) := sm_congr fun i hi => by
      congr 1; omega
    rw [this]
    show g (n + 1 - 1 - 0) + _ = _
    rw [show n + 1 - 1 - 0 = n by omega]
    omega
theorem sm_split (a b : Nat) (g : Nat → Int) : sm (a + b) g = sm a g + sm b (fun i => g (a + i)) := by
  induction b with
  | zero => simp [sm]
  | succ b ih => rw [← Nat.add_assoc, sm, ih, sm]; omega
/-! ### Networks -/
structure Nw where
  m : Nat
  fr : Nat → Nat
  to : Nat → Nat
  cap : Nat → Int
  cost : Nat → Int
variable {N : Nw} {nodes s t : Nat} {f g : Nat → Int}
/-- What comes into v, less what goes out. -/
def ex (N : Nw) (f : Nat → Int) (v : Nat) : Int := sm N.m fun i => (if N.to i = v then f i else 0) - (if N.fr i = v then f i else 0)
structure IsFlow (N : Nw) (nodes s t : Nat) (f : Nat → Int) : Prop where
  lo : ∀ i, i < N.m → 0 ≤ f i
  hi : ∀ i, i < N.m → f i ≤ N.cap i
  even : ∀ v, v < nodes → v ≠ s → v ≠ t → ex N f v = 0
def costOf (N : Nw) (f : Nat → Int) : Int := sm N.m fun i => f i * N.cost i
/-- The arcs' ends are nodes. -/
def InN (N : Nw) (nodes : Nat) : Prop := ∀ i, i < N.m → N.fr i < nodes ∧ N.to i < nodes
theorem parts (hN : InN N nodes) (f π : Nat → Int) : sm N.m (fun i => f i * (π (N.to i) - π (N.fr i))) = sm nodes (fun v => π v * ex N f v) := by
  have key : ∀ k, k ≤ N.m → sm k (fun i => f i * (π (N.to i) - π (N.fr i))) = sm nodes (fun v => π v * sm k fun i => (if N.to i = v then f i else 0) - (if N.fr i = v then f i else 0)) := by
    intro k
    induction k with
    | zero => intro _; simp [sm, sm_zero]
    | succ k ih =>
      intro hk
      obtain ⟨h1, h2⟩ := hN k (by omega)
      rw [sm, ih (by omega)]
      have e : sm nodes (fun v => π v * sm (k + 1) fun i => (if N.to i = v then f i else 0) - (if N.fr i = v then f i else 0)) =
          sm nodes (fun v => (π v * sm k fun i => (if N.to i = v then f i else 0) - (if N.fr i = v then f i else 0)) + ((if v = N.to k then π (N.to k) * f k else 0) - (if v = N.fr k then π (N.fr k) * f k else 0))) := sm_congr fun v _ => by
        rw [sm, Int.mul_add]
        congr 1
        rw [Int.mul_sub]
        congr 1
        · by_cases e : v = N.to k
          · rw [if_pos e, if_pos e.symm, e]
          · rw [if_neg e, if_neg (fun h => e h.symm), Int.mul_zero]
        · by_cases e : v = N.fr k
          · rw [if_pos e, if_pos e.symm, e]
          · rw [if_neg e, if_neg (fun h => e h.symm), Int.mul_zero]
      rw [e, sm_add, sm_sub, sm_one _ h2, sm_one _ h1, Int.mul_sub, Int.mul_comm (f k), Int.mul_comm (f k)]
  exact key N.m (Nat.le_refl _)
/-- Of a flow only source and sink count. -/
theorem flow_parts (hN : InN N nodes) (hf : IsFlow N nodes s t f) (hs : s < nodes) (ht : t < nodes) (hst : s ≠ t) (π : Nat → Int) :
    sm N.m (fun i => f i * (π (N.to i) - π (N.fr i))) = π s * ex N f s + π t * ex N f t := by
  rw [parts hN]
  have e : sm nodes (fun v => π v * ex N f v) = sm nodes (fun v => (if v = s then π s * ex N f s else 0) + (if v = t then π t * ex N f t else 0)) := sm_congr fun v hv => by
    by_cases e1 : v = s
    · rw [if_pos e1, if_neg (by omega), e1]; omega
    · by_cases e2 : v = t
      · rw [if_neg e1, if_pos e2, e2]; omega
      · rw [if_neg e1, if_neg e2, hf.even v hv e1 e2, Int.mul_zero]; rfl
  rw [e, sm_add, sm_one s hs, sm_one t ht]
theorem flow_ends (hN : InN N nodes) (hf : IsFlow N nodes s t f) (hs : s < nodes) (ht : t < nodes) (hst : s ≠ t) : ex N f t = - ex N f s := by
  have := flow_parts hN hf hs ht hst (fun _ => 1)
  rw [sm_congr (h := fun _ => 0) (fun i _ => by simp), sm_zero] at this
  omega
/-- What crosses a cut. -/
def cutCap (N : Nw) (Z : Nat → Bool) : Int := sm N.m fun i => if Z (N.fr i) = true ∧ Z (N.to i) = false then N.cap i else 0
theorem cut_ge (hN : InN N nodes) (hf : IsFlow N nodes s t f) (hs : s < nodes) (ht : t < nodes) (hst : s ≠ t) (Z : Nat → Bool) (hZs : Z s = true) (hZt : Z t = false) : - ex N f s ≤ cutCap N Z := by
  have h := flow_parts hN hf hs ht hst (fun v => if Z v = true then 1 else 0)
  simp only [hZs, hZt, if_true, Bool.false_eq_true, if_false] at h
  have h2 : - sm N.m (fun i => f i * ((if Z (N.to i) = true then (1 : Int) else 0) - (if Z (N.fr i) = true then 1 else 0))) ≤ cutCap N Z := by
    rw [← sm_neg]
    refine sm_le fun i hi => ?_
    have h1 := hf.lo i hi
    have h2 := hf.hi i hi
    cases hz1 : Z (N.fr i) <;> cases hz2 : Z (N.to i) <;> simp <;> omega
  omega
theorem cut_eq (hN : InN N nodes) (hf : IsFlow N nodes s t f) (hs : s < nodes) (ht : t < nodes) (hst : s ≠ t) (Z : Nat → Bool) (hZs : Z s = true) (hZt : Z t = false)
    (h1 : ∀ i, i < N.m → Z (N.fr i) = true → Z (N.to i) = false → f i = N.cap i) (h2 : ∀ i, i < N.m → Z (N.to i) = true → Z (N.fr i) = false → f i = 0) : - ex N f s = cutCap N Z := by
  have h := flow_parts hN hf hs ht hst (fun v => if Z v = true then 1 else 0)
  simp only [hZs, hZt, if_true, Bool.false_eq_true, if_false] at h
  have h2 : - sm N.m (fun i => f i * ((if Z (N.to i) = true then (1 : Int) else 0) - (if Z (N.fr i) = true then 1 else 0))) = cutCap N Z := by
    rw [← sm_neg]
    refine sm_congr fun i hi => ?_
    have h3 := h1 i hi
    have h4 := h2 i hi
    cases hz1 : Z (N.fr i) <;> cases hz2 : Z (N.to i) <;> simp_all
  omega
/-- The greatest flow has this value. -/
def MaxIs (N : Nw) (nodes s t : Nat) (v : Int) : Prop :=
  (∃ f, IsFlow N nodes s t f ∧ - ex N f s = v) ∧ ∃ Z : Nat → Bool, Z s = true ∧ Z t = false ∧ cutCap N Z ≤ v
theorem MaxIs.uniq {v v' : Int} (hN : InN N nodes) (hs : s < nodes) (ht : t < nodes) (hst : s ≠ t) (h : MaxIs N nodes s t v) (h' : MaxIs N nodes s t v') : v = v' := by
  obtain ⟨⟨f, hf, e⟩, Z, z1, z2, z3⟩ := h
  obtain ⟨⟨f', hf', e'⟩, Z', z1', z2', z3'⟩ := h'
  have := cut_ge hN hf hs ht hst Z' z1' z2'
  have := cut_ge hN hf' hs ht hst Z z1 z2
  omega
/-- No arc with room leads down the potential. -/
def Feas (N : Nw) (f π : Nat → Int) : Prop :=
  ∀ i, i < N.m → (f i < N.cap i → 0 ≤ N.cost i + π (N.fr i) - π (N.to i)) ∧ (0 < f i → N.cost i + π (N.fr i) - π (N.to i) ≤ 0)
theorem feas_least (hN : InN N nodes) (hf : IsFlow N nodes s t f) (hg : IsFlow N nodes s t g) (hs : s < nodes) (ht : t < nodes) (hst : s ≠ t) (hv : ex N f s = ex N g s) {π : Nat → Int} (hp : Feas N f π) : costOf N f ≤ costOf N g := by
  have h1 := flow_parts hN hf hs ht hst π
  have h2 := flow_parts hN hg hs ht hst π
  rw [flow_ends hN hf hs ht hst] at h1
  rw [flow_ends hN hg hs ht hst, ← hv] at h2
  have h3 : costOf N g - costOf N f - (sm N.m (fun i => g i * (π (N.to i) - π (N.fr i))) - sm N.m (fun i => f i * (π (N.to i) - π (N.fr i)))) = sm N.m (fun i => (g i - f i) * (N.cost i + π (N.fr i) - π (N.to i))) := by
    unfold costOf
    rw [← sm_sub, ← sm_sub, ← sm_sub]
    refine sm_congr fun i _ => ?_
    simp only [Int.sub_mul, Int.mul_sub, Int.mul_add]
    omega
  have h4 : 0 ≤ sm N.m (fun i => (g i - f i) * (N.cost i + π (N.fr i) - π (N.to i))) := sm_nonneg fun i hi => by
    obtain ⟨p1, p2⟩ := hp i hi
    have := hg.lo i hi
    have := hg.hi i hi
    by_cases e : f i < g i
    · exact Int.mul_nonneg (by omega) (p1 (by omega))
    · by_cases e2 : g i < f i
      · exact Int.mul_nonneg_of_nonpos_of_nonpos (by omega) (p2 (by omega))
      · rw [show g i - f i = 0 by omega, Int.zero_mul]
        exact Int.le_refl _
  omega
/-- The greatest flow has this value, and the cheapest of these this cost. -/
def CheapIs (N : Nw) (nodes s t : Nat) (v c : Int) : Prop := MaxIs N nodes s t v ∧ ∃ f π, IsFlow N nodes s t f ∧ - ex N f s = v ∧ costOf N f = c ∧ Feas N f π
theorem CheapIs.uniq {v v' c c' : Int} (hN : InN N nodes) (hs : s < nodes) (ht : t < nodes) (hst : s ≠ t) (h : CheapIs N nodes s t v c) (h' : CheapIs N nodes s t v' c') : v = v' ∧ c = c' := by
  have hv := h.1.uniq hN hs ht hst h'.1
  obtain ⟨_, f, π, hf, e, rfl, hp⟩ := h
  obtain ⟨_, f', π', hf', e', rfl, hp'⟩ := h'
  exact ⟨hv, Int.le_antisymm (feas_least hN hf hf' hs ht hst (by omega) hp) (feas_least hN hf' hf hs ht hst (by omega) hp')⟩
/-! ### The same network, otherwise written -/
def Nw.rev (N : Nw) : Nw := ⟨N.m, fun i => N.fr (N.m - 1 - i), fun i => N.to (N.m - 1 - i), fun i => N.cap (N.m - 1 - i), fun i => N.cost (N.m - 1 - i)⟩
theorem ex_rev (N : Nw) (f : Nat → Int) (v : Nat) : ex N.rev (fun i => f (N.m - 1 - i)) v = ex N f v := sm_rev N.m fun i => (if N.to i = v then f i else 0) - (if N.fr i = v then f i else 0)
theorem flow_rev (h : IsFlow N nodes s t f) : IsFlow N.rev nodes s t (fun i => f (N.m - 1 - i)) :=
  ⟨fun i hi => h.lo _ (by have : i < N.m := hi; omega), fun i hi => h.hi _ (by have : i < N.m := hi; omega), fun v hv h1 h2 => by rw [ex_rev]; exact h.even v hv h1 h2⟩
theorem cost_rev (N : Nw) (f : Nat → Int) : costOf N.rev (fun i => f (N.m - 1 - i)) = costOf N f := sm_rev N.m fun i => f i * N.cost i
theorem MaxIs.rev {v : Int} (h : MaxIs N nodes s t v) : MaxIs N.rev nodes s t v := by
  obtain ⟨⟨f, hf, e⟩, Z, z1, z2, z3⟩ := h
  refine ⟨⟨_, flow_rev hf, by rw [ex_rev]; exact e⟩, Z, z1, z2, ?_⟩
  rw [show cutCap N.rev Z = cutCap N Z from sm_rev N.m fun i => if Z (N.fr i) = true ∧ Z (N.to i) = false then N.cap i else 0]
  exact z3
theorem CheapIs.rev {v c : Int} (h : CheapIs N nodes s t v c) : CheapIs N.rev nodes s t v c := by
  obtain ⟨h1, f, π, hf, e, e2, hp⟩ := h
  exact ⟨h1.rev, _, π, flow_rev hf, by rw [ex_rev]; exact e, by rw [cost_rev]; exact e2, fun i hi => hp _ (by have : i < N.m := hi; omega)⟩
def Nw.turn (N : Nw) : Nw := ⟨N.m, N.to, N.fr, N.cap, N.cost⟩
theorem ex_turn (N : Nw) (f : Nat → Int) (v : Nat) : ex N.turn f v = - ex N f v := by
  unfold ex
  rw [← sm_neg]
  exact sm_congr fun i _ => by show (if N.fr i = v then f i else 0) - (if N.to i = v then f i else 0) = _; omega
theorem flow_turn (h : IsFlow N nodes s t f) : IsFlow N.turn nodes t s f := ⟨h.lo, h.hi, fun v hv h1 h2 => by rw [ex_turn, h.even v hv h2 h1]; rfl⟩
theorem MaxIs.turn {v : Int} (hN : InN N nodes) (hs : s < nodes) (ht : t < nodes) (hst : s ≠ t) (h : MaxIs N nodes s t v) : MaxIs N.turn nodes t s v := by
  obtain ⟨⟨f, hf, e⟩, Z, z1, z2, z3⟩ := h
  refine ⟨⟨f, flow_turn hf, by rw [ex_turn, flow_ends hN hf hs ht hst]; omega⟩, fun v => !Z v, by simp [z2], by simp [z1], ?_⟩
  rw [show cutCap N.turn (fun v => !Z v) = cutCap N Z from sm_congr fun i _ => by
    show (if (!Z (N.to i)) = true ∧ (!Z (N.fr i)) = false then N.cap i else 0) = _
    cases Z (N.to i) <;> cases Z (N.fr i) <;> simp]
  exact z3
theorem CheapIs.turn {v c : Int} (hN : InN N nodes) (hs : s < nodes) (ht : t < nodes) (hst : s ≠ t) (h : CheapIs N nodes s t v c) : CheapIs N.turn nodes t s v c := by
  obtain ⟨h1, f, π, hf, e, e2, hp⟩ := h
  refine ⟨h1.turn hN hs ht hst, f, fun v => - π v, flow_turn hf, by rw [ex_turn, flow_ends hN hf hs ht hst]; omega, e2, fun i hi => ?_⟩
  obtain ⟨p1, p2⟩ := hp i hi
  exact ⟨fun h => by have := p1 h; show 0 ≤ N.cost i + - π (N.to i) - - π (N.fr i); omega, fun h => by have := p2 h; show N.cost i + - π (N.to i) - - π (N.fr i) ≤ 0; omega⟩
/-- One arc bears one more. -/
theorem max_more {N' : Nw} {v v' : Int} {x : Nat} (hx : x < N.m) (hm : N'.m = N.m) (hfr : N'.fr = N.fr) (hto : N'.to = N.to) (hcap : ∀ i, i < N.m → i ≠ x → N'.cap i = N.cap i) (hcx : N'.cap x = N.cap x + 1)
    (hN : InN N nodes) (hs : s < nodes) (ht : t < nodes) (hst : s ≠ t) (h : MaxIs N nodes s t v) (h' : MaxIs N' nodes s t v') : v ≤ v' ∧ v' ≤ v + 1 := by
  have hN' : InN N' nodes := by unfold InN; rw [hm, hfr, hto]; exact hN
  have hex : ∀ f v, ex N' f v = ex N f v := fun f v => by unfold ex; rw [hm, hfr, hto]
  obtain ⟨⟨f, hf, e⟩, Z, z1, z2, z3⟩ := h
  obtain ⟨⟨f', hf', e'⟩, Z', z1', z2', z3'⟩ := h'
  have hle : ∀ i, i < N.m → N.cap i ≤ N'.cap i := fun i hi => by
    by_cases e : i = x
    · rw [e, hcx]; omega
    · rw [hcap i hi e]; exact Int.le_refl _
  have hf2 : IsFlow N' nodes s t f := ⟨by rw [hm]; exact hf.lo, by rw [hm]; exact fun i hi => Int.le_trans (hf.hi i hi) (hle i hi), fun v hv h1 h2 => by rw [hex]; exact hf.even v hv h1 h2⟩
  have a1 := cut_ge hN' hf2 hs ht hst Z' z1' z2'
  rw [hex] at a1
  have a2 := cut_ge hN' hf' hs ht hst Z z1 z2
  have a3 : cutCap N' Z ≤ cutCap N Z + 1 := by
    unfold cutCap
    rw [hm, hfr, hto]
    rw [sm_set x hx (fun i => if Z (N.fr i) = true ∧ Z (N.to i) = false then N.cap i else 0) (fun i => if Z (N.fr i) = true ∧ Z (N.to i) = false then N'.cap i else 0) (fun i hi e => by simp only [hcap i hi e])]
    split <;> omega
  omega
end Go.Proofs.YtppjpledjhinbaaDoor
/- Flows: the search for a cheapest way, in plain words. -/
namespace Go.Proofs.YtppjpledjhinbaaDoor
/-! ### The arcs as they are gone -/
def flip (j : Nat) : Nat := if j % 2 = 0 then j + 1 else j - 1
def rto (N : Nw) (j : Nat) : Nat := if j % 2 = 0 then N.to (j / 2) else N.fr (j / 2)
def rfr (N : Nw) (j : Nat) : Nat := if j % 2 = 0 then N.fr (j / 2) else N.to (j / 2)
def rc (N : Nw) (j : Nat) : Int := if j % 2 = 0 then N.cost (j / 2) else - N.cost (j / 2)
theorem flip_lt {m j : Nat} (h : j < 2 * m) : flip j < 2 * m := by unfold flip; split <;> omega
theorem flip_ne (j : Nat) : flip j ≠ j := by unfold flip; split <;> omega
theorem flip_flip (j : Nat) : flip (flip j) = j := by
  unfold flip
  split
  · rw [if_neg (by omega)]; omega
  · rw [if_pos (by omega)]; omega
theorem rto_flip (N : Nw) (j : Nat) : rto N (flip j) = rfr N j := by
  unfold rto rfr flip
  by_cases h : j % 2 = 0
  · simp only [if_pos h, if_neg (show ¬ (j + 1) % 2 = 0 by omega), show (j + 1) / 2 = j / 2 by omega]
  · simp only [if_neg h, if_pos (show (j - 1) % 2 = 0 by omega), show (j - 1) / 2 = j / 2 by omega]
theorem rfr_flip (N : Nw) (j : Nat) : rfr N (flip j) = rto N j := by
  have := rto_flip N (flip j)
  rw [flip_flip] at this
  exact this.symm
theorem rc_flip (N : Nw) (j : Nat) : rc N (flip j) = - rc N j := by
  unfold rc flip
  by_cases h : j % 2 = 0
  · simp only [if_pos h, if_neg (show ¬ (j + 1) % 2 = 0 by omega), show (j + 1) / 2 = j / 2 by omega]
  · simp only [if_neg h, if_pos (show (j - 1) % 2 = 0 by omega), show (j - 1) / 2 = j / 2 by omega]; omega
/-- With costs, or without. -/
def cst (N : Nw) (costs : Bool) (j : Nat) : Int := if costs = true then rc N j else 0
theorem cst_flip (N : Nw) (costs : Bool) (j : Nat) : cst N costs (flip j) = - cst N costs j := by
  unfold cst
  split
  · exact rc_flip N j
  · rfl
def FAR : Int := 1099511627776
structure WSt where
  by_ : List Int
  di : List Int
  wa : List Int
  todo : List Nat
def wayStep (N : Nw) (costs : Bool) (room : List Int) (s v j : Nat) (st : WSt) : WSt :=
  if gi room j = 0 ∨ gi st.di (rto N j) ≤ gi st.di v + cst N costs j ∨ rto N j = s then st
  else if gi st.wa (rto N j) = 0 then ⟨st.by_.set (rto N j) j, st.di.set (rto N j) (gi st.di v + cst N costs j), st.wa.set (rto N j) 1, st.todo ++ [rto N j]⟩
  else ⟨st.by_.set (rto N j) j, st.di.set (rto N j) (gi st.di v + cst N costs j), st.wa, st.todo⟩
def wayL (N : Nw) (costs : Bool) (room : List Int) (s v : Nat) : List Nat → WSt → WSt
  | [], st => st
  | j :: l, st => wayL N costs room s v l (wayStep N costs room s v j st)
def wayQ (N : Nw) (costs : Bool) (room : List Int) (s : Nat) (out : Nat → List Nat) : Nat → WSt → Option WSt
  | 0, st => if st.todo = [] then some st else none
  | f + 1, st => match st.todo with
    | [] => some st
    | v :: T => wayQ N costs room s out f (wayL N costs room s v (out v) { st with todo := T, wa := st.wa.set v 0 })
/-- Which way v was met. -/
inductive Pth (N : Nw) (by_ : Nat → Int) (s : Nat) : Nat → List Nat → Prop
  | nil : Pth N by_ s s []
  | cons (j : Nat) (L : List Nat) : rto N j ≠ s → by_ (rto N j) = (j : Int) → j < 2 * N.m → Pth N by_ s (rfr N j) L → Pth N by_ s (rto N j) (j :: L)
/-- No arc with room leads down the potential. -/
def RFeas (N : Nw) (costs : Bool) (room : List Int) (π : Nat → Int) : Prop := ∀ j, j < 2 * N.m → 0 < gi room j → 0 ≤ cst N costs j + π (rfr N j) - π (rto N j)
def metc (di : List Int) (nodes : Nat) : Nat := ((List.range nodes).filter (fun v => decide (gi di v < FAR))).length
theorem metc_le (di : List Int) (nodes : Nat) : metc di nodes ≤ nodes := by
  have := List.length_filter_le (fun v => decide (gi di v < FAR)) (List.range nodes)
  rw [List.length_range] at this
  exact this
section
variable {N : Nw} {costs : Bool} {room : List Int} {s nodes : Nat} {π : Nat → Int} {out : Nat → List Nat}
/-- What is fixed while a way is sought. -/
structure WFix (N : Nw) (costs : Bool) (room : List Int) (s nodes : Nat) (π : Nat → Int) : Prop where
  sn : s < nodes
  nn : nodes ≤ 200
  ends : InN N nodes
  feas : RFeas N costs room π
  ps : π s = 0
  p0 : ∀ v, v < nodes → 0 ≤ π v
  room0 : ∀ j, j < 2 * N.m → 0 ≤ gi room j
  c1 : ∀ i, i < N.m → 0 ≤ N.cost i ∧ N.cost i ≤ 1000
theorem WFix.cle (h : WFix N costs room s nodes π) {j : Nat} (hj : j < 2 * N.m) : -1000 ≤ cst N costs j ∧ cst N costs j ≤ 1000 := by
  have := h.c1 (j / 2) (by omega)
  unfold cst rc
  split
  · split <;> omega
  · omega
theorem WFix.rto (h : WFix N costs room s nodes π) {j : Nat} (hj : j < 2 * N.m) : rto N j < nodes ∧ rfr N j < nodes := by
  have := h.ends (j / 2) (by omega)
  unfold Proofs.YtppjpledjhinbaaDoor.rto Proofs.YtppjpledjhinbaaDoor.rfr
  split <;> omega
/-- The search, as it stands. 'done': which arcs of which nodes that don't wait were looked at. -/
structure WInv (N : Nw) (costs : Bool) (room : List Int) (s nodes : Nat) (π : Nat → Int) (done : Nat → Nat → Prop) (st : WSt) : Prop where
  lb : st.by_.length = nodes
  ld : st.di.length = nodes
  lw : st.wa.length = nodes
  ds : gi st.di s = 0
  bs : gi st.by_ s = -1
  pot : ∀ v, v < nodes → gi st.di v < FAR → π v ≤ gi st.di v
  unm : ∀ v, v < nodes → ¬ gi st.di v < FAR → gi st.di v = FAR ∧ gi st.by_ v = -1
  par : ∀ v, v < nodes → v ≠ s → gi st.di v < FAR → ∃ j, j < 2 * N.m ∧ gi st.by_ v = (j : Int) ∧ rto N j = v ∧ 0 < gi room j ∧ gi st.di (rfr N j) < FAR ∧ gi st.di (rfr N j) + cst N costs j ≤ gi st.di v
  pth : ∀ v, v < nodes → gi st.di v < FAR → ∃ L, Pth N (gi st.by_) s v L
  wa01 : ∀ v, v < nodes → gi st.wa v = 0 ∨ gi st.wa v = 1
  wat : ∀ v, v < nodes → v ≠ s → (gi st.wa v = 1 ↔ v ∈ st.todo)
  tn : ∀ v, v ∈ st.todo → v < nodes ∧ gi st.di v < FAR
  nd : st.todo.Nodup
  up : ∀ v, v < nodes → gi st.di v < FAR → gi st.di v ≤ 1000 * ((metc st.di nodes : Int) - 1)
  clo : ∀ u j, u < nodes → gi st.di u < FAR → u ∉ st.todo → done u j → j < 2 * N.m → rfr N j = u → 0 < gi room j → rto N j = s ∨ gi st.di (rto N j) ≤ gi st.di u + cst N costs j
theorem WInv.lo {done : Nat → Nat → Prop} {st : WSt} (h : WInv N costs room s nodes π done st) (hf : WFix N costs room s nodes π) {v : Nat} (hv : v < nodes) : 0 ≤ gi st.di v ∧ gi st.di v ≤ FAR := by
  by_cases e : gi st.di v < FAR
  · have := h.pot v hv e
    have := hf.p0 v hv
    omega
  · have := (h.unm v hv e).1
    rw [this]
    exact ⟨by decide, Int.le_refl _⟩
/-- An arc is taken. -/
theorem way_take (hf : WFix N costs room s nodes π) {done : Nat → Nat → Prop} {st : WSt} (h : WInv N costs room s nodes π done st) {v j : Nat} (hv : v < nodes) (hmv : gi st.di v < FAR) (hvt : v ∉ st.todo) (hj : j < 2 * N.m) (hjv : rfr N j = v)
    (hr : ¬ gi room j = 0) (hd : ¬ gi st.di (rto N j) ≤ gi st.di v + cst N costs j) (hs : ¬ rto N j = s) (wa' : List Int) (todo' : List Nat) (hlw : wa'.length = nodes) (hwa : ∀ x, x < nodes → (gi wa' x = 0 ∨ gi wa' x = 1) ∧ (x ≠ s → (gi wa' x = 1 ↔ x ∈ todo')))
    (htd : ∀ x, x ∈ todo' ↔ x ∈ st.todo ∨ x = rto N j) (hnd : todo'.Nodup) :
    WInv N costs room s nodes π (fun u i => done u i ∨ (u = v ∧ i = j)) ⟨st.by_.set (rto N j) j, st.di.set (rto N j) (gi st.di v + cst N costs j), wa', todo'⟩ ∧
      sm nodes (gi (st.di.set (rto N j) (gi st.di v + cst N costs j))) < sm nodes (gi st.di) := by
  have hrt := (hf.rto hj).1
  have hc := hf.cle hj
  have hroom : 0 < gi room j := by have := hf.room0 j hj; omega
  have hfe := hf.feas j hj hroom
  rw [hjv] at hfe
  have hpv := h.pot v hv hmv
  obtain ⟨b, hb⟩ : ∃ b, rto N j = b := ⟨_, rfl⟩
  obtain ⟨d, hdd⟩ : ∃ d, gi st.di v + cst N costs j = d := ⟨_, rfl⟩
  rw [hb] at hrt hd hs hfe htd ⊢
  rw [hdd] at hd ⊢
  have hvb : v ≠ b := by rintro rfl; omega
  have dv : ∀ x, gi (st.di.set b d) x = if x = b then d else gi st.di x := fun x => gi_set (by rw [h.ld]; exact hrt) _ _
  have bv : ∀ x, gi (st.by_.set b (j : Int)) x = if x = b then (j : Int) else gi st.by_ x := fun x => gi_set (by rw [h.lb]; exact hrt) _ _
  have hup := h.up v hv hmv
  have hmc := metc_le st.di nodes
  have hnn := hf.nn
  have hlob := h.lo hf hrt
  have hdF : d < FAR := by unfold FAR at hmv ⊢; omega
  have hcount : metc (st.di.set b d) nodes = if gi st.di b < FAR then metc st.di nodes else metc st.di nodes + 1 := by
    by_cases e : gi st.di b < FAR
    · rw [if_pos e]
      unfold metc
      congr 1
      refine List.filter_congr fun x _ => ?_
      rw [dv]
      by_cases e2 : x = b
      · rw [if_pos e2, e2]; simp [e, hdF]
      · rw [if_neg e2]
    · rw [if_neg e]
      unfold metc
      refine count_one _ _ b (by simpa using e) (by rw [dv, if_pos rfl]; simpa using hdF) (fun x hx => by rw [dv, if_neg hx]) _ List.nodup_range (by simpa using hrt)
  have hcge : metc st.di nodes ≤ metc (st.di.set b d) nodes := by rw [hcount]; split <;> omega
  have met' : ∀ x, gi st.di x < FAR → gi (st.di.set b d) x < FAR := fun x hx => by rw [dv]; split <;> assumption
  -- the chain of v doesn't pass b
  have keepLow : ∀ x L, Pth N (gi st.by_) s x L → x < nodes → gi st.di x < FAR → gi st.di x - π x < gi st.di b - π b → Pth N (gi (st.by_.set b (j : Int))) s x L := by
    intro x L hp
    induction hp with
    | nil => intro _ _ _; exact .nil
    | cons i L hi1 hi2 hi3 hi4 ih =>
      intro h1 h2 h3
      have hxb : rto N i ≠ b := by intro e; rw [e] at h3; omega
      obtain ⟨i', p1, p2, p3, p4, p5, p6⟩ := h.par (rto N i) h1 hi1 h2
      have : i' = i := by omega
      subst this
      have hfe2 := hf.feas i' hi3 p4
      refine .cons i' L hi1 (by rw [bv, if_neg hxb]; exact hi2) hi3 (ih (hf.rto hi3).2 p5 (by omega))
  obtain ⟨Lv, hLv⟩ := h.pth v hv hmv
  have hnew : Pth N (gi (st.by_.set b (j : Int))) s b (j :: Lv) := by
    have := keepLow v Lv hLv hv hmv (by omega)
    have e : Pth N (gi (st.by_.set b (j : Int))) s (rto N j) (j :: Lv) := .cons j Lv (by rw [hb]; exact hs) (by rw [hb, bv, if_pos rfl]) hj (by rw [hjv]; exact this)
    rwa [hb] at e
  refine ⟨⟨by show (st.by_.set b (j : Int)).length = nodes; rw [List.length_set]; exact h.lb, by show (st.di.set b d).length = nodes; rw [List.length_set]; exact h.ld, hlw, ?_, ?_, ?_, ?_, ?_, ?_, fun x hx => (hwa x hx).1, fun x hx => (hwa x hx).2, ?_, hnd, ?_, ?_⟩, ?_⟩
  · show gi (st.di.set b d) s = 0
    rw [dv, if_neg (fun e => hs e.symm)]; exact h.ds
  · show gi (st.by_.set b (j : Int)) s = -1
    rw [bv, if_neg (fun e => hs e.symm)]; exact h.bs
  · intro x hx hm
    show π x ≤ gi (st.di.set b d) x
    have hm' : gi (st.di.set b d) x < FAR := hm
    rw [dv] at hm' ⊢
    by_cases e : x = b
    · rw [if_pos e, e]; omega
    · rw [if_neg e] at hm' ⊢
      exact h.pot x hx hm'
  · intro x hx hm
    show gi (st.di.set b d) x = FAR ∧ gi (st.by_.set b (j : Int)) x = -1
    have hm' : ¬ gi (st.di.set b d) x < FAR := hm
    rw [dv] at hm' ⊢
    rw [bv]
    by_cases e : x = b
    · rw [if_pos e] at hm'; exact absurd hdF hm'
    · rw [if_neg e] at hm' ⊢
      rw [if_neg e]
      exact h.unm x hx hm'
  · intro x hx hxs hm
    show ∃ i, i < 2 * N.m ∧ gi (st.by_.set b (j : Int)) x = (i : Int) ∧ rto N i = x ∧ 0 < gi room i ∧ gi (st.di.set b d) (rfr N i) < FAR ∧ gi (st.di.set b d) (rfr N i) + cst N costs i ≤ gi (st.di.set b d) x
    have hm' : gi (st.di.set b d) x < FAR := hm
    by_cases e : x = b
    · subst e
      refine ⟨j, hj, by rw [bv, if_pos rfl], hb, hroom, by rw [hjv]; exact met' v hmv, ?_⟩
      rw [hjv, dv, dv, if_pos rfl, if_neg hvb]
      omega
    · rw [dv, if_neg e] at hm'
      obtain ⟨i, p1, p2, p3, p4, p5, p6⟩ := h.par x hx hxs hm'
      refine ⟨i, p1, by rw [bv, if_neg e]; exact p2, p3, p4, met' _ p5, ?_⟩
      rw [dv x, if_neg e, dv]
      split
      · rename_i e2
        rw [e2] at p6
        omega
      · exact p6
  · intro x hx hm
    show ∃ L, Pth N (gi (st.by_.set b (j : Int))) s x L
    have key : ∀ x L, Pth N (gi st.by_) s x L → ∃ L', Pth N (gi (st.by_.set b (j : Int))) s x L' := by
      intro x L hp
      induction hp with
      | nil => exact ⟨_, .nil⟩
      | cons i L hi1 hi2 hi3 hi4 ih =>
        by_cases e : rto N i = b
        · rw [e]; exact ⟨_, hnew⟩
        · obtain ⟨L', hL'⟩ := ih
          exact ⟨_, .cons i L' hi1 (by rw [bv, if_neg e]; exact hi2) hi3 hL'⟩
    by_cases e : x = b
    · rw [e]; exact ⟨_, hnew⟩
    · have hm' : gi (st.di.set b d) x < FAR := hm
      rw [dv, if_neg e] at hm'
      obtain ⟨L, hL⟩ := h.pth x hx hm'
      exact key x L hL
  · intro x hx
    show x < nodes ∧ gi (st.di.set b d) x < FAR
    rcases (htd x).1 hx with hx | hx
    · exact ⟨(h.tn x hx).1, met' x (h.tn x hx).2⟩
    · rw [hx, dv, if_pos rfl]; exact ⟨hrt, hdF⟩
  · intro x hx hm
    show gi (st.di.set b d) x ≤ 1000 * ((metc (st.di.set b d) nodes : Int) - 1)
    have hm' : gi (st.di.set b d) x < FAR := hm
    rw [dv] at hm' ⊢
    by_cases e : x = b
    · rw [if_pos e, hcount]
      by_cases e2 : gi st.di b < FAR
      · rw [if_pos e2]
        have := h.up b hrt e2
        omega
      · rw [if_neg e2]; omega
    · rw [if_neg e] at hm' ⊢
      have := h.up x hx hm'
      omega
  · intro u i hu hm hut hdn hi hiu hri
    show rto N i = s ∨ gi (st.di.set b d) (rto N i) ≤ gi (st.di.set b d) u + cst N costs i
    have hm' : gi (st.di.set b d) u < FAR := hm
    have hut' : u ∉ st.todo ∧ u ≠ b := ⟨fun h => hut ((htd u).2 (.inl h)), fun h => hut ((htd u).2 (.inr h))⟩
    rw [dv u, if_neg hut'.2] at hm' ⊢
    by_cases e : rto N i = b
    · refine .inr ?_
      rw [dv, if_pos e]
      rcases hdn with hdn | ⟨rfl, rfl⟩
      · rcases h.clo u i hu hm' hut'.1 hdn hi hiu hri with h1 | h1
        · exact absurd (e ▸ h1) hs
        · rw [e] at h1; omega
      · omega
    · rw [dv, if_neg e]
      rcases hdn with hdn | ⟨rfl, rfl⟩
      · exact h.clo u i hu hm' hut'.1 hdn hi hiu hri
      · exact absurd hb e
  · rw [sm_set b hrt (gi st.di) (gi (st.di.set b d)) (fun i _ hi => by rw [dv, if_neg hi]), dv, if_pos rfl]
    omega
/-- An arc is looked at. -/
theorem way_step (hf : WFix N costs room s nodes π) {done : Nat → Nat → Prop} {st : WSt} (h : WInv N costs room s nodes π done st) {v j : Nat} (hv : v < nodes) (hmv : gi st.di v < FAR) (hvt : v ∉ st.todo) (hj : j < 2 * N.m) (hjv : rfr N j = v) (hne : rto N j ≠ v) :
    WInv N costs room s nodes π (fun u i => done u i ∨ (u = v ∧ i = j)) (wayStep N costs room s v j st) ∧ gi (wayStep N costs room s v j st).di v = gi st.di v ∧ v ∉ (wayStep N costs room s v j st).todo ∧
      2 * sm nodes (gi (wayStep N costs room s v j st).di) + (wayStep N costs room s v j st).todo.length ≤ 2 * sm nodes (gi st.di) + st.todo.length := by
  have hrt := (hf.rto hj).1
  unfold wayStep
  by_cases hsk : gi room j = 0 ∨ gi st.di (rto N j) ≤ gi st.di v + cst N costs j ∨ rto N j = s
  · rw [if_pos hsk]
    refine ⟨⟨h.lb, h.ld, h.lw, h.ds, h.bs, h.pot, h.unm, h.par, h.pth, h.wa01, h.wat, h.tn, h.nd, h.up, fun u i hu hm hut hdn hi hiu hri => ?_⟩, rfl, hvt, Int.le_refl _⟩
    rcases hdn with hdn | ⟨rfl, rfl⟩
    · exact h.clo u i hu hm hut hdn hi hiu hri
    · rcases hsk with h1 | h1 | h1
      · omega
      · exact .inr h1
      · exact .inl h1
  · rw [if_neg hsk]
    rw [not_or, not_or] at hsk
    obtain ⟨k1, k2, k3⟩ := hsk
    have dv : gi (st.di.set (rto N j) (gi st.di v + cst N costs j)) v = gi st.di v := by rw [gi_set (by rw [h.ld]; exact hrt), if_neg (fun e => hne e.symm)]
    by_cases hw : gi st.wa (rto N j) = 0
    · rw [if_pos hw]
      have hnt : rto N j ∉ st.todo := fun hm => by have := (h.wat _ hrt k3).2 hm; omega
      have wv : ∀ x, gi (st.wa.set (rto N j) 1) x = if x = rto N j then 1 else gi st.wa x := fun x => gi_set (by rw [h.lw]; exact hrt) _ _
      obtain ⟨h1, h2⟩ := way_take hf h hv hmv hvt hj hjv k1 k2 k3 (st.wa.set (rto N j) 1) (st.todo ++ [rto N j]) (by rw [List.length_set]; exact h.lw) (fun x hx => by
        rw [wv, List.mem_append, List.mem_singleton]
        by_cases e : x = rto N j
        · simp [e]
        · rw [if_neg e]
          refine ⟨h.wa01 x hx, fun hxs => (h.wat x hx hxs).trans ?_⟩
          simp [e]) (fun x => by simp) (by
        rw [List.nodup_append]
        exact ⟨h.nd, by simp, fun a ha b hb e => hnt (by simp at hb; rw [← hb, ← e]; exact ha)⟩)
      refine ⟨h1, dv, ?_, ?_⟩
      · show v ∉ st.todo ++ [rto N j]
        simp only [List.mem_append, List.mem_singleton, not_or]
        exact ⟨hvt, fun e => hne e.symm⟩
      · show 2 * sm nodes (gi (st.di.set (rto N j) (gi st.di v + cst N costs j))) + ((st.todo ++ [rto N j]).length : Nat) ≤ _
        rw [List.length_append, List.length_singleton]
        omega
    · rw [if_neg hw]
      have hin : rto N j ∈ st.todo := (h.wat _ hrt k3).1 (by rcases h.wa01 _ hrt with h | h; exact absurd h hw; exact h)
      obtain ⟨h1, h2⟩ := way_take hf h hv hmv hvt hj hjv k1 k2 k3 st.wa st.todo h.lw (fun x hx => ⟨h.wa01 x hx, h.wat x hx⟩) (fun x => ⟨.inl, fun h => h.elim id (fun e => e ▸ hin)⟩) h.nd
      refine ⟨h1, dv, hvt, ?_⟩
      show 2 * sm nodes (gi (st.di.set (rto N j) (gi st.di v + cst N costs j))) + (st.todo.length : Nat) ≤ _
      omega
theorem way_list (hf : WFix N costs room s nodes π) {v : Nat} (hv : v < nodes) (hself : ∀ j, j < 2 * N.m → rto N j ≠ rfr N j) : ∀ (l : List Nat) (done : Nat → Nat → Prop) (st : WSt), (∀ j ∈ l, j < 2 * N.m ∧ rfr N j = v) → WInv N costs room s nodes π done st → gi st.di v < FAR → v ∉ st.todo →
    WInv N costs room s nodes π (fun u i => done u i ∨ (u = v ∧ i ∈ l)) (wayL N costs room s v l st) ∧ 2 * sm nodes (gi (wayL N costs room s v l st).di) + (wayL N costs room s v l st).todo.length ≤ 2 * sm nodes (gi st.di) + st.todo.length := by
  intro l
  induction l with
  | nil =>
    intro done st _ h _ _
    refine ⟨⟨h.lb, h.ld, h.lw, h.ds, h.bs, h.pot, h.unm, h.par, h.pth, h.wa01, h.wat, h.tn, h.nd, h.up, fun u i hu hm hut hdn => h.clo u i hu hm hut (hdn.resolve_right fun h => by cases h.2)⟩, Int.le_refl _⟩
  | cons j l ih =>
    intro done st hl h hmv hvt
    obtain ⟨hj, hjv⟩ := hl j (by simp)
    obtain ⟨h1, h2, h3, h4⟩ := way_step hf h hv hmv hvt hj hjv (by have := hself j hj; rw [hjv] at this; exact this)
    obtain ⟨h5, h6⟩ := ih _ _ (fun i hi => hl i (by simp [hi])) h1 (by rw [h2]; exact hmv) h3
    unfold wayL
    refine ⟨⟨h5.lb, h5.ld, h5.lw, h5.ds, h5.bs, h5.pot, h5.unm, h5.par, h5.pth, h5.wa01, h5.wat, h5.tn, h5.nd, h5.up, fun u i hu hm hut hdn => h5.clo u i hu hm hut ?_⟩, Int.le_trans h6 h4⟩
    rcases hdn with hdn | ⟨e1, e2⟩
    · exact .inl (.inl hdn)
    · rcases List.mem_cons.1 e2 with e2 | e2
      · exact .inl (.inr ⟨e1, e2⟩)
      · exact .inr ⟨e1, e2⟩
/-- What the search ends with. -/
structure WEnd (N : Nw) (costs : Bool) (room : List Int) (s nodes : Nat) (st : WSt) : Prop where
  lb : st.by_.length = nodes
  ds : gi st.di s = 0
  bs : gi st.by_ s = -1
  d0 : ∀ v, v < nodes → gi st.di v < FAR → 0 ≤ gi st.di v ∧ gi st.di v ≤ 200000
  b0 : ∀ v, v < nodes → v ≠ s → (0 ≤ gi st.by_ v ↔ gi st.di v < FAR)
  par : ∀ v, v < nodes → v ≠ s → gi st.di v < FAR → ∃ j, j < 2 * N.m ∧ gi st.by_ v = (j : Int) ∧ rto N j = v ∧ 0 < gi room j ∧ gi st.di (rfr N j) < FAR ∧ gi st.di (rfr N j) + cst N costs j = gi st.di v
  pth : ∀ v, v < nodes → gi st.di v < FAR → ∃ L, Pth N (gi st.by_) s v L
  clo : ∀ j, j < 2 * N.m → 0 < gi room j → gi st.di (rfr N j) < FAR → gi st.di (rto N j) < FAR ∧ gi st.di (rto N j) ≤ gi st.di (rfr N j) + cst N costs j
theorem way_end (hf : WFix N costs room s nodes π) {st : WSt} (h : WInv N costs room s nodes π (fun _ _ => True) st) (ht : st.todo = []) : WEnd N costs room s nodes st := by
  have hclo : ∀ j, j < 2 * N.m → 0 < gi room j → gi st.di (rfr N j) < FAR → gi st.di (rto N j) < FAR ∧ gi st.di (rto N j) ≤ gi st.di (rfr N j) + cst N costs j := by
    intro j hj hr hm
    have hfe := hf.feas j hj hr
    have hp := h.pot _ (hf.rto hj).2 hm
    have hu := h.up _ (hf.rto hj).2 hm
    have hc := hf.cle hj
    have hmc := metc_le st.di nodes
    have hnn := hf.nn
    rcases h.clo _ j (hf.rto hj).2 hm (by rw [ht]; simp) trivial hj rfl hr with h1 | h1
    · rw [h1, h.ds]
      rw [h1, hf.ps] at hfe
      exact ⟨by decide, by omega⟩
    · exact ⟨by unfold FAR at *; omega, h1⟩
  refine ⟨h.lb, h.ds, h.bs, fun v hv hm => ?_, fun v hv hvs => ⟨fun hb => ?_, fun hm => ?_⟩, fun v hv hvs hm => ?_, h.pth, hclo⟩
  · have := h.up v hv hm
    have := h.pot v hv hm
    have := hf.p0 v hv
    have := metc_le st.di nodes
    have := hf.nn
    omega
  · by_cases e : gi st.di v < FAR
    · exact e
    · have := (h.unm v hv e).2
      omega
  · obtain ⟨j, _, h2, _⟩ := h.par v hv hvs hm
    omega
  · obtain ⟨j, p1, p2, p3, p4, p5, p6⟩ := h.par v hv hvs hm
    have := (hclo j p1 p4 p5).2
    rw [p3] at this
    exact ⟨j, p1, p2, p3, p4, p5, by omega⟩
theorem wayQ_out (hf : WFix N costs room s nodes π) (hout : ∀ v j, j ∈ out v ↔ j < 2 * N.m ∧ rfr N j = v) (hself : ∀ j, j < 2 * N.m → rto N j ≠ rfr N j) :
    ∀ (f : Nat) (st : WSt), WInv N costs room s nodes π (fun _ _ => True) st → 2 * sm nodes (gi st.di) + st.todo.length ≤ (f : Int) → ∃ r, wayQ N costs room s out f st = some r ∧ WEnd N costs room s nodes r := by
  intro f
  induction f with
  | zero =>
    intro st h hm
    have h0 : 0 ≤ sm nodes (gi st.di) := sm_nonneg fun v hv => (h.lo hf hv).1
    have ht : st.todo = [] := List.eq_nil_of_length_eq_zero (by omega)
    unfold wayQ
    rw [if_pos ht]
    exact ⟨st, rfl, way_end hf h ht⟩
  | succ f ih =>
    intro st h hm
    unfold wayQ
    cases hT : st.todo with
    | nil => exact ⟨st, rfl, way_end hf h hT⟩
    | cons v T =>
      obtain ⟨hv, hmv⟩ := h.tn v (by rw [hT]; simp)
      have hnd := h.nd
      rw [hT] at hnd
      obtain ⟨n1, n2⟩ := List.nodup_cons.1 hnd
      have wv : ∀ x, gi (st.wa.set v 0) x = if x = v then 0 else gi st.wa x := fun x => gi_set (by rw [h.lw]; exact hv) _ _
      have h1 : WInv N costs room s nodes π (fun u _ => u ≠ v) { st with todo := T, wa := st.wa.set v 0 } := by
        refine ⟨h.lb, h.ld, by show (st.wa.set v 0).length = nodes; rw [List.length_set]; exact h.lw, h.ds, h.bs, h.pot, h.unm, h.par, h.pth, fun x hx => ?_, fun x hx => ?_, fun x hx => h.tn x (by rw [hT]; exact List.mem_cons_of_mem _ hx), n2, h.up, fun u i hu hmu hut hne => h.clo u i hu hmu (by rw [hT]; simp only [List.mem_cons, not_or]; exact ⟨hne, hut⟩) trivial⟩
        · show gi (st.wa.set v 0) x = 0 ∨ gi (st.wa.set v 0) x = 1
          rw [wv]
          split
          · exact .inl rfl
          · exact h.wa01 x hx
        · intro hxs
          show gi (st.wa.set v 0) x = 1 ↔ x ∈ T
          rw [wv]
          by_cases e : x = v
          · rw [if_pos e, e]
            exact ⟨fun h => by omega, fun h => absurd h n1⟩
          · rw [if_neg e]
            refine (h.wat x hx hxs).trans ?_
            rw [hT, List.mem_cons]
            exact ⟨fun h => h.resolve_left e, .inr⟩
      obtain ⟨h2, h3⟩ := way_list hf hv hself (out v) _ _ (fun j hj => (hout v j).1 hj) h1 hmv n1
      refine ih _ ⟨h2.lb, h2.ld, h2.lw, h2.ds, h2.bs, h2.pot, h2.unm, h2.par, h2.pth, h2.wa01, h2.wat, h2.tn, h2.nd, h2.up, fun u i hu hmu hut _ hi hiu => h2.clo u i hu hmu hut ?_ hi hiu⟩ ?_
      · by_cases e : u = v
        · exact .inr ⟨e, (hout v i).2 ⟨hi, by rw [hiu, e]⟩⟩
        · exact .inl e
      · have e1 : ((st.todo.length : Nat) : Int) = (T.length : Int) + 1 := by rw [hT]; simp
        have h3' : 2 * sm nodes (gi (wayL N costs room s v (out v) { st with todo := T, wa := st.wa.set v 0 }).di) + ((wayL N costs room s v (out v) { st with todo := T, wa := st.wa.set v 0 }).todo.length : Int) ≤ 2 * sm nodes (gi st.di) + (T.length : Int) := h3
        omega
/-- The start: only s is met. -/
theorem way_start (hf : WFix N costs room s nodes π) : WInv N costs room s nodes π (fun _ _ => True) ⟨List.replicate nodes (-1), (List.replicate nodes FAR).set s 0, List.replicate nodes 0, [s]⟩ := by
  have hsn := hf.sn
  have rep : ∀ (c : Int) v, v < nodes → gi (List.replicate nodes c) v = c := fun c v hv => by
    rw [gi_get (by simpa using hv)]; simp
  have dv : ∀ v, v < nodes → gi ((List.replicate nodes FAR).set s 0) v = if v = s then 0 else FAR := fun v hv => by
    rw [gi_set (by simpa using hsn), rep _ _ hv]
  have only : ∀ v, v < nodes → gi ((List.replicate nodes FAR).set s 0) v < FAR → v = s := fun v hv h => by
    rw [dv v hv] at h
    by_cases e : v = s
    · exact e
    · rw [if_neg e] at h; omega
  have hm : metc ((List.replicate nodes FAR).set s 0) nodes = 1 := by
    have e : (List.range nodes).filter (fun v => decide (gi ((List.replicate nodes FAR).set s 0) v < FAR)) = (List.range nodes).filter (fun v => decide (v = s)) := List.filter_congr fun v hv => by
      have hn : v < nodes := by simpa using hv
      rw [dv v hn]
      by_cases e : v = s
      · rw [if_pos e]; simp [e]; decide
      · rw [if_neg e]; simp [e]
    have := count_one (fun _ : Nat => false) (fun v => decide (v = s)) s rfl (by simp) (fun x hx => by simp [hx]) (List.range nodes) List.nodup_range (by simpa using hsn)
    unfold metc
    rw [e, this]
    simp
  refine ⟨by simp, by simp, by simp, by rw [dv s hsn, if_pos rfl], rep _ _ hsn, fun v hv h => ?_, fun v hv h => ?_, fun v hv hvs h => absurd (only v hv h) hvs, fun v hv h => ?_, fun v hv => .inl (rep _ _ hv), fun v hv hvs => ?_, fun v hv => ?_, by simp, fun v hv h => ?_, fun u j hu hmu hut => ?_⟩
  · obtain rfl := only v hv h
    rw [dv v hv, if_pos rfl, hf.ps]; exact Int.le_refl _
  · refine ⟨?_, rep _ _ hv⟩
    show gi ((List.replicate nodes FAR).set s 0) v = FAR
    have h' : ¬ gi ((List.replicate nodes FAR).set s 0) v < FAR := h
    rw [dv v hv] at h' ⊢
    by_cases e : v = s
    · rw [if_pos e] at h'; exact absurd (by decide) h'
    · rw [if_neg e]
  · obtain rfl := only v hv h
    exact ⟨_, .nil⟩
  · show gi (List.replicate nodes 0) v = 1 ↔ v ∈ [s]
    rw [rep _ _ hv]
    simp [hvs]
  · obtain rfl : v = s := by simpa using hv
    refine ⟨hsn, ?_⟩
    show gi ((List.replicate nodes FAR).set v 0) v < FAR
    rw [dv v hsn, if_pos rfl]; decide
  · obtain rfl := only v hv h
    show gi ((List.replicate nodes FAR).set v 0) v ≤ 1000 * ((metc ((List.replicate nodes FAR).set v 0) nodes : Int) - 1)
    rw [hm, dv v hv, if_pos rfl]
    decide
  · have : u = s := only u hu hmu
    exact absurd (show u ∈ [s] by simp [this]) hut
end
end Go.Proofs.YtppjpledjhinbaaDoor
/- Flows: sending along a way, in plain words. -/
namespace Go.Proofs.YtppjpledjhinbaaDoor
/-- The rooms of a flow: what is left of each arc, and what it carries. -/
structure RoomOk (N : Nw) (room : List Int) : Prop where
  len : room.length = 2 * N.m
  two : ∀ i, i < N.m → gi room (2 * i) + gi room (2 * i + 1) = N.cap i ∧ 0 ≤ gi room (2 * i) ∧ 0 ≤ gi room (2 * i + 1)
def fl (room : List Int) (i : Nat) : Int := gi room (2 * i + 1)
theorem RoomOk.lo {N : Nw} {room : List Int} (h : RoomOk N room) {j : Nat} (hj : j < 2 * N.m) : 0 ≤ gi room j := by
  have := h.two (j / 2) (by omega)
  rcases Nat.mod_two_eq_zero_or_one j with e | e
  · rw [show 2 * (j / 2) = j by omega] at this; exact this.2.1
  · rw [show 2 * (j / 2) + 1 = j by omega] at this; exact this.2.2
def pushStep (N : Nw) (most : Int) (r : List Int × Int) (j : Nat) : List Int × Int := ((r.1.set j (gi r.1 j - most)).set (flip j) (gi r.1 (flip j) + most), r.2 + most * rc N j)
def mostL (room : List Int) (L : List Nat) (m : Int) : Int := L.foldl (fun m j => min m (gi room j)) m
theorem mostL_le {room : List Int} : ∀ (L : List Nat) (m : Int), mostL room L m ≤ m ∧ ∀ j ∈ L, mostL room L m ≤ gi room j
  | [], m => ⟨Int.le_refl _, fun j h => by cases h⟩
  | i :: L, m => by
    have e : mostL room (i :: L) m = mostL room L (min m (gi room i)) := rfl
    obtain ⟨h1, h2⟩ := mostL_le (room := room) L (min m (gi room i))
    rw [e]
    refine ⟨by omega, fun j hj => ?_⟩
    rcases List.mem_cons.1 hj with rfl | hj
    · omega
    · exact h2 j hj
theorem mostL_pos {room : List Int} : ∀ (L : List Nat) (m : Int), 1 ≤ m → (∀ j ∈ L, 0 < gi room j) → 1 ≤ mostL room L m
  | [], m, h, _ => h
  | i :: L, m, h, hl => by
    have e : mostL room (i :: L) m = mostL room L (min m (gi room i)) := rfl
    rw [e]
    have := hl i (by simp)
    exact mostL_pos L _ (by omega) fun j hj => hl j (by simp [hj])
section
variable {N : Nw} {costs : Bool} {room : List Int} {s t nodes : Nat} {π : Nat → Int}
theorem pth_inv {by_ : Nat → Int} {v : Nat} {L : List Nat} (h : Pth N by_ s v L) : (v = s ∧ L = []) ∨ ∃ j B, L = j :: B ∧ rto N j = v ∧ v ≠ s ∧ by_ v = (j : Int) ∧ j < 2 * N.m ∧ Pth N by_ s (rfr N j) B := by
  cases h with
  | nil => exact .inl ⟨rfl, rfl⟩
  | cons j B h1 h2 h3 h4 => exact .inr ⟨j, B, rfl, rfl, h1, h2, h3, h4⟩
theorem pth_det {by_ : Nat → Int} : ∀ {v : Nat} {L L' : List Nat}, Pth N by_ s v L → Pth N by_ s v L' → L = L' := by
  intro v L L' h
  induction h generalizing L' with
  | nil =>
    intro h'
    rcases pth_inv h' with ⟨_, h⟩ | ⟨_, _, _, _, h, _⟩
    · exact h.symm
    · exact absurd rfl h
  | cons j B h1 h2 h3 h4 ih =>
    intro h'
    rcases pth_inv h' with ⟨h, _⟩ | ⟨j', B', rfl, e2, e3, e4, e5, e6⟩
    · exact absurd h h1
    · have : j' = j := by omega
      subst this
      rw [ih e6]
theorem pth_mem {by_ : Nat → Int} {v : Nat} {L : List Nat} (h : Pth N by_ s v L) : ∀ j ∈ L, ∃ A B, L = A ++ j :: B ∧ Pth N by_ s (rto N j) (j :: B) := by
  induction h with
  | nil => intro j hj; cases hj
  | cons i B h1 h2 h3 h4 ih =>
    intro j hj
    rcases List.mem_cons.1 hj with rfl | hj
    · exact ⟨[], B, rfl, .cons j B h1 h2 h3 h4⟩
    · obtain ⟨A, B', e, hp⟩ := ih j hj
      exact ⟨i :: A, B', by rw [e]; rfl, hp⟩
theorem pth_nodup {by_ : Nat → Int} {v : Nat} {L : List Nat} (h : Pth N by_ s v L) : L.Nodup := by
  induction h with
  | nil => exact List.nodup_nil
  | cons i B h1 h2 h3 h4 ih =>
    refine List.nodup_cons.2 ⟨fun hm => ?_, ih⟩
    obtain ⟨A, B', e, hp⟩ := pth_mem h4 i hm
    have := pth_det (.cons i B h1 h2 h3 h4) hp
    have hl := congrArg List.length this
    rw [e] at hl
    simp at hl
    omega
theorem pth_facts {st : WSt} (hf : WFix N costs room s nodes π) (h : WEnd N costs room s nodes st) {v : Nat} {L : List Nat} (hp : Pth N (gi st.by_) s v L) : v < nodes → gi st.di v < FAR →
    ∀ j ∈ L, j < 2 * N.m ∧ 0 < gi room j ∧ gi st.di (rfr N j) < FAR ∧ gi st.di (rto N j) < FAR ∧ gi st.di (rfr N j) + cst N costs j = gi st.di (rto N j) := by
  induction hp with
  | nil => intro _ _ j hj; cases hj
  | cons i B h1 h2 h3 h4 ih =>
    intro hv hm j hj
    obtain ⟨i', p1, p2, p3, p4, p5, p6⟩ := h.par _ hv h1 hm
    have : i' = i := by omega
    subst this
    rcases List.mem_cons.1 hj with rfl | hj
    · exact ⟨h3, p4, p5, hm, p6⟩
    · exact ih (hf.rto h3).2 p5 j hj
/-- The new potential: how far each node is. -/
def newPot (π : Nat → Int) (di : List Int) (v : Nat) : Int := if gi di v < FAR then gi di v else π v + 200000
theorem newPot_feas {st : WSt} (hf : WFix N costs room s nodes π) (h : WEnd N costs room s nodes st) : RFeas N costs room (newPot π st.di) := by
  intro j hj hr
  obtain ⟨r1, r2⟩ := hf.rto hj
  have hfe := hf.feas j hj hr
  have p1 := hf.p0 (rto N j) r1
  unfold newPot
  by_cases e1 : gi st.di (rfr N j) < FAR
  · obtain ⟨k1, k2⟩ := h.clo j hj hr e1
    rw [if_pos e1, if_pos k1]
    omega
  · rw [if_neg e1]
    by_cases e2 : gi st.di (rto N j) < FAR
    · rw [if_pos e2]
      have := (h.d0 _ r1 e2).2
      omega
    · rw [if_neg e2]
      omega
/-- While it is sent: what holds of the arcs that are left. -/
structure PIn (N : Nw) (costs : Bool) (most : Int) (π : Nat → Int) (L : List Nat) (r : List Int × Int) : Prop where
  ok : RoomOk N r.1
  ge : ∀ j ∈ L, most ≤ gi r.1 j
  lt : ∀ j ∈ L, j < 2 * N.m
  feas : RFeas N costs r.1 π
  tight : ∀ j ∈ L, cst N costs j + π (rfr N j) - π (rto N j) = 0
  paid : r.2 = costOf N (fl r.1)
  nd : L.Nodup
theorem push_gi {r : List Int × Int} {most : Int} {j : Nat} (hl : r.1.length = 2 * N.m) (hj : j < 2 * N.m) (x : Nat) : gi (pushStep N most r j).1 x = if x = flip j then gi r.1 (flip j) + most else if x = j then gi r.1 j - most else gi r.1 x := by
  unfold pushStep
  simp only
  rw [gi_set (by rw [List.length_set, hl]; exact flip_lt hj), gi_set (by rw [hl]; exact hj)]
theorem push_fl {r : List Int × Int} {most : Int} {j : Nat} (hl : r.1.length = 2 * N.m) (hj : j < 2 * N.m) (i : Nat) : fl (pushStep N most r j).1 i = if i = j / 2 then fl r.1 i + (if j % 2 = 0 then most else - most) else fl r.1 i := by
  unfold fl
  rw [push_gi hl hj]
  unfold flip
  by_cases e : j % 2 = 0
  · simp only [if_pos e]
    by_cases e2 : i = j / 2
    · rw [if_pos (by omega), if_pos e2, show j + 1 = 2 * i + 1 by omega]
    · rw [if_neg (by omega), if_neg (by omega), if_neg e2]
  · simp only [if_neg e]
    by_cases e2 : i = j / 2
    · rw [if_neg (by omega), if_pos (by omega), if_pos e2, show j = 2 * i + 1 by omega]; omega
    · rw [if_neg (by omega), if_neg (by omega), if_neg e2]
theorem push_step {most : Int} {r : List Int × Int} {j : Nat} {L : List Nat} (hm : 0 ≤ most) (h : PIn N costs most π (j :: L) r) :
    PIn N costs most π L (pushStep N most r j) ∧ ∀ x, ex N (fl (pushStep N most r j).1) x = ex N (fl r.1) x + ((if rto N j = x then most else 0) - (if rfr N j = x then most else 0)) := by
  have hj := h.lt j (by simp)
  have hge := h.ge j (by simp)
  have hgi := push_gi (most := most) h.ok.len hj
  have hfl := push_fl (most := most) h.ok.len hj
  obtain ⟨n1, n2⟩ := List.nodup_cons.1 h.nd
  have hi : j / 2 < N.m := by omega
  refine ⟨⟨⟨?_, fun i hi => ?_⟩, fun x hx => ?_, fun x hx => h.lt x (by simp [hx]), fun x hx hr => ?_, fun x hx => h.tight x (by simp [hx]), ?_, n2⟩, fun x => ?_⟩
  · unfold pushStep
    simp only [List.length_set]
    exact h.ok.len
  · obtain ⟨t1, t2, t3⟩ := h.ok.two i hi
    rw [hgi, hgi]
    have hlo := h.ok.lo hj
    unfold flip
    by_cases e : j % 2 = 0
    · simp only [if_pos e]
      by_cases e2 : i = j / 2
      · have e3 : j = 2 * i := by omega
        rw [if_neg (by omega), if_pos (by omega), if_pos (by omega), e3]
        rw [e3] at hge hlo
        omega
      · rw [if_neg (by omega), if_neg (by omega), if_neg (by omega), if_neg (by omega)]
        exact ⟨t1, t2, t3⟩
    · simp only [if_neg e]
      by_cases e2 : i = j / 2
      · have e3 : j = 2 * i + 1 := by omega
        rw [if_pos (by omega), if_neg (by omega), if_pos (by omega), show j - 1 = 2 * i by omega, e3]
        rw [e3] at hge hlo
        omega
      · rw [if_neg (by omega), if_neg (by omega), if_neg (by omega), if_neg (by omega)]
        exact ⟨t1, t2, t3⟩
  · have h1 := h.ge x (by simp [hx])
    have hxj : x ≠ j := by rintro rfl; exact n1 hx
    rw [hgi]
    by_cases e : x = flip j
    · rw [if_pos e, ← e]; omega
    · rw [if_neg e, if_neg hxj]; exact h1
  · rw [hgi] at hr
    by_cases e : x = flip j
    · have ht := h.tight j (by simp)
      rw [e, cst_flip, rfr_flip, rto_flip]
      omega
    · rw [if_neg e] at hr
      by_cases e2 : x = j
      · rw [if_pos e2] at hr
        exact h.feas x hx (by rw [e2]; omega)
      · rw [if_neg e2] at hr
        exact h.feas x hx hr
  · show r.2 + most * rc N j = costOf N (fl (pushStep N most r j).1)
    unfold costOf
    rw [sm_set (j / 2) hi (fun i => fl r.1 i * N.cost i) (fun i => fl (pushStep N most r j).1 i * N.cost i) (fun i _ hne => by simp only [hfl, if_neg hne])]
    have e0 : sm N.m (fun i => fl r.1 i * N.cost i) = costOf N (fl r.1) := rfl
    rw [e0, ← h.paid]
    simp only [hfl, if_true]
    unfold rc
    by_cases e : j % 2 = 0
    · simp only [if_pos e, Int.add_mul]; omega
    · simp only [if_neg e, Int.add_mul, Int.neg_mul, Int.mul_neg]; omega
  · unfold ex
    rw [sm_set (j / 2) hi (fun i => (if N.to i = x then fl r.1 i else 0) - (if N.fr i = x then fl r.1 i else 0)) (fun i => (if N.to i = x then fl (pushStep N most r j).1 i else 0) - (if N.fr i = x then fl (pushStep N most r j).1 i else 0)) (fun i _ hne => by simp only [hfl, if_neg hne])]
    congr 1
    simp only [hfl, if_true]
    unfold rto rfr
    by_cases e : j % 2 = 0
    · simp only [if_pos e]
      by_cases a : N.to (j / 2) = x <;> by_cases b : N.fr (j / 2) = x <;> simp [a, b] <;> omega
    · simp only [if_neg e]
      by_cases a : N.to (j / 2) = x <;> by_cases b : N.fr (j / 2) = x <;> simp [a, b] <;> omega
theorem push_all {most : Int} {by_ : Nat → Int} (hm : 0 ≤ most) {v : Nat} {L : List Nat} (hp : Pth N by_ s v L) : ∀ r, PIn N costs most π L r →
    PIn N costs most π [] (L.foldl (pushStep N most) r) ∧ ∀ x, ex N (fl (L.foldl (pushStep N most) r).1) x = ex N (fl r.1) x + ((if v = x then most else 0) - (if s = x then most else 0)) := by
  induction hp with
  | nil => intro r h; exact ⟨h, fun x => by simp⟩
  | cons j B h1 h2 h3 h4 ih =>
    intro r h
    obtain ⟨k1, k2⟩ := push_step hm h
    obtain ⟨k3, k4⟩ := ih _ k1
    refine ⟨k3, fun x => ?_⟩
    have := k4 x
    rw [k2 x] at this
    rw [List.foldl_cons, this]
    omega
/-- A flow, as it is kept. -/
structure FlowSt (N : Nw) (costs : Bool) (nodes s t : Nat) (room : List Int) (value paid : Int) : Prop where
  ok : RoomOk N room
  even : ∀ v, v < nodes → v ≠ s → v ≠ t → ex N (fl room) v = 0
  val : value = - ex N (fl room) s
  paid : paid = costOf N (fl room)
  feas : ∃ π, RFeas N costs room π ∧ π s = 0 ∧ ∀ v, v < nodes → 0 ≤ π v
/-- The network is right. -/
structure NwOk (N : Nw) (nodes s t : Nat) : Prop where
  sn : s < nodes
  tn : t < nodes
  st : s ≠ t
  nn : nodes ≤ 200
  mm : N.m ≤ 4000
  ends : InN N nodes
  self : ∀ i, i < N.m → N.fr i ≠ N.to i
  cap : ∀ i, i < N.m → 0 ≤ N.cap i ∧ N.cap i ≤ 200
  cost : ∀ i, i < N.m → 0 ≤ N.cost i ∧ N.cost i ≤ 1000
  sum : sm N.m (fun i => if N.fr i = s then N.cap i else 0) ≤ 200
theorem FlowSt.isFlow {value paid : Int} (h : FlowSt N costs nodes s t room value paid) : IsFlow N nodes s t (fl room) :=
  ⟨fun i hi => (h.ok.two i hi).2.2, fun i hi => by have := h.ok.two i hi; unfold fl; omega, h.even⟩
theorem FlowSt.bounds {value paid : Int} (h : FlowSt N costs nodes s t room value paid) (hn : NwOk N nodes s t) : value ≤ 200 := by
  have hf := h.isFlow
  have : - ex N (fl room) s ≤ sm N.m (fun i => if N.fr i = s then N.cap i else 0) := by
    unfold ex
    rw [← sm_neg]
    refine sm_le fun i hi => ?_
    have := hf.lo i hi
    have := hf.hi i hi
    have := (hn.cap i hi).1
    by_cases a : N.to i = s <;> by_cases b : N.fr i = s <;> simp [a, b] <;> omega
  have := hn.sum
  have := h.val
  omega
theorem paid_bounds (hn : NwOk N nodes s t) {room : List Int} (ok : RoomOk N room) : 0 ≤ costOf N (fl room) ∧ costOf N (fl room) ≤ 800000000 := by
  have h1 : ∀ i, i < N.m → 0 ≤ fl room i ∧ fl room i ≤ 200 := fun i hi => by
    have := ok.two i hi
    have := hn.cap i hi
    unfold fl
    omega
  refine ⟨sm_nonneg fun i hi => Int.mul_nonneg (h1 i hi).1 (hn.cost i hi).1, ?_⟩
  have h2 : costOf N (fl room) ≤ N.m * 200000 := sm_bound fun i hi => by
    have a := h1 i hi
    have b := hn.cost i hi
    calc fl room i * N.cost i ≤ 200 * N.cost i := Int.mul_le_mul_of_nonneg_right a.2 b.1
      _ ≤ 200 * 1000 := Int.mul_le_mul_of_nonneg_left b.2 (by omega)
      _ = 200000 := rfl
  have := hn.mm
  omega
theorem FlowSt.fix {value paid : Int} (h : FlowSt N costs nodes s t room value paid) (hn : NwOk N nodes s t) : ∃ π, WFix N costs room s nodes π := by
  obtain ⟨π, h1, h2, h3⟩ := h.feas
  exact ⟨π, hn.sn, hn.nn, hn.ends, h1, h2, h3, fun j hj => h.ok.lo hj, hn.cost⟩
theorem NwOk.selfR (hn : NwOk N nodes s t) : ∀ j, j < 2 * N.m → rto N j ≠ rfr N j := fun j hj => by
  have := hn.self (j / 2) (by omega)
  unfold rto rfr
  split
  · exact fun e => this e.symm
  · exact this
/-- What is ready to be sent along the way that was found. -/
theorem FlowSt.ready {value paid : Int} (h : FlowSt N costs nodes s t room value paid) (hn : NwOk N nodes s t) {π : Nat → Int} (hf : WFix N costs room s nodes π) {st : WSt} (hw : WEnd N costs room s nodes st) (hm : gi st.di t < FAR) :
    ∃ L, Pth N (gi st.by_) s t L ∧ PIn N costs (mostL room L 200) (newPot π st.di) L (room, paid) ∧ 1 ≤ mostL room L 200 ∧ mostL room L 200 ≤ 200 := by
  obtain ⟨L, hL⟩ := hw.pth t hn.tn hm
  have hfa := pth_facts hf hw hL hn.tn hm
  obtain ⟨m1, m2⟩ := mostL_le (room := room) L 200
  exact ⟨L, hL, ⟨h.ok, m2, fun j hj => (hfa j hj).1, newPot_feas hf hw, fun j hj => by
    obtain ⟨f1, f2, f3, f4, f5⟩ := hfa j hj
    unfold newPot
    rw [if_pos f3, if_pos f4]
    omega, h.paid, pth_nodup hL⟩, mostL_pos L 200 (by omega) fun j hj => (hfa j hj).2.1, m1⟩
/-- Sent. -/
theorem FlowSt.sent {value paid : Int} (h : FlowSt N costs nodes s t room value paid) (hn : NwOk N nodes s t) {π : Nat → Int} (hf : WFix N costs room s nodes π) {st : WSt} (hw : WEnd N costs room s nodes st) {L : List Nat} {most : Int} (hp : Pth N (gi st.by_) s t L) (hm : 0 ≤ most) (hi : PIn N costs most (newPot π st.di) L (room, paid)) :
    FlowSt N costs nodes s t (L.foldl (pushStep N most) (room, paid)).1 (value + most) (L.foldl (pushStep N most) (room, paid)).2 := by
  obtain ⟨k1, k2⟩ := push_all hm hp _ hi
  refine ⟨k1.ok, fun v hv h1 h2 => ?_, ?_, k1.paid, newPot π st.di, k1.feas, ?_, fun v hv => ?_⟩
  · rw [k2 v, if_neg (fun e => h2 e.symm), if_neg (fun e => h1 e.symm)]
    have := h.even v hv h1 h2
    simp only at this ⊢
    omega
  · rw [k2 s, if_neg (fun e => hn.st e.symm), if_pos rfl]
    have := h.val
    simp only
    omega
  · unfold newPot
    rw [hw.ds]
    exact if_pos (by decide)
  · unfold newPot
    split
    · rename_i e2
      exact (hw.d0 v hv e2).1
    · have := hf.p0 v hv; omega
/-- No way leads to t: the flow is a greatest one. -/
theorem FlowSt.done {value paid : Int} (h : FlowSt N costs nodes s t room value paid) (hn : NwOk N nodes s t) {st : WSt} (hw : WEnd N costs room s nodes st) (hm : ¬ gi st.di t < FAR) :
    cutCap N (fun v => decide (gi st.di v < FAR)) = value ∧ MaxIs N nodes s t value ∧ (costs = true → CheapIs N nodes s t value paid) := by
  have hc : cutCap N (fun v => decide (gi st.di v < FAR)) = value := by
    rw [h.val]
    refine (cut_eq hn.ends h.isFlow hn.sn hn.tn hn.st _ ?_ (by simpa using hm) (fun i hi h1 h2 => ?_) (fun i hi h1 h2 => ?_)).symm
    · simp only [decide_eq_true_eq]; rw [hw.ds]; decide
    · have h3 := h.ok.two i hi
      have e0 : (2 * i) % 2 = 0 := by omega
      have e1 : 2 * i / 2 = i := by omega
      have h4 := hw.clo (2 * i) (by omega)
      unfold rto rfr at h4
      simp only [if_pos e0, e1] at h4
      simp only [decide_eq_true_eq, decide_eq_false_iff_not] at h1 h2
      have : ¬ 0 < gi room (2 * i) := fun h5 => h2 (h4 h5 h1).1
      unfold fl
      omega
    · have h3 := h.ok.two i hi
      have e0 : ¬ (2 * i + 1) % 2 = 0 := by omega
      have e1 : (2 * i + 1) / 2 = i := by omega
      have h4 := hw.clo (2 * i + 1) (by omega)
      unfold rto rfr at h4
      simp only [if_neg e0, e1] at h4
      simp only [decide_eq_true_eq, decide_eq_false_iff_not] at h1 h2
      have : ¬ 0 < gi room (2 * i + 1) := fun h5 => h2 (h4 h5 h1).1
      unfold fl
      omega
  have hmax : MaxIs N nodes s t value := ⟨⟨_, h.isFlow, h.val.symm⟩, _, by simp only [decide_eq_true_eq]; rw [hw.ds]; decide, by simpa using hm, Int.le_of_eq hc⟩
  refine ⟨hc, hmax, fun hcs => ⟨hmax, fl room, ?_⟩⟩
  subst hcs
  obtain ⟨π, hp, _⟩ := h.feas
  refine ⟨π, h.isFlow, h.val.symm, h.paid.symm, fun i hi => ?_⟩
  have h3 := h.ok.two i hi
  have e0 : (2 * i) % 2 = 0 := by omega
  have e1 : 2 * i / 2 = i := by omega
  have f0 : ¬ (2 * i + 1) % 2 = 0 := by omega
  have f1 : (2 * i + 1) / 2 = i := by omega
  have a := hp (2 * i) (by omega)
  have b := hp (2 * i + 1) (by omega)
  unfold cst rc rto rfr at a b
  simp only [if_true, if_pos e0, e1] at a
  simp only [if_true, if_neg f0, f1] at b
  unfold fl
  exact ⟨fun h => a (by omega), fun h => by have := b h; omega⟩
end
end Go.Proofs.YtppjpledjhinbaaDoor
