/- Matchings: the greatest one, in plain words. -/
import Derived.Test.YtmekcpbcgelliaaMem
namespace Go.Proofs.Ytmekcpbcgelliaa
theorem nodup_sub_len {α : Type} [DecidableEq α] : ∀ {a b : List α}, a.Nodup → (∀ x ∈ a, x ∈ b) → a.length ≤ b.length
  | [], _, _, _ => Nat.zero_le _
  | x :: a, b, h, hs => by
    have hx : x ∈ b := hs x (by simp)
    have h1 := List.length_erase_of_mem hx
    have h2 := nodup_sub_len (a := a) (b := b.erase x) (List.nodup_cons.1 h).2 (fun y hy => by
      refine (List.mem_erase_of_ne ?_).2 (hs y (by simp [hy]))
      rintro rfl
      exact (List.nodup_cons.1 h).1 hy)
    have := List.length_pos_of_mem hx
    simp only [List.length_cons]
    omega
theorem nodup_map_on {α β : Type} (f : α → β) : ∀ {l : List α}, l.Nodup → (∀ x ∈ l, ∀ y ∈ l, f x = f y → x = y) → (l.map f).Nodup
  | [], _, _ => by simp
  | x :: l, h, hf => by
    rw [List.map_cons, List.nodup_cons]
    refine ⟨fun hx => ?_, nodup_map_on f (List.nodup_cons.1 h).2 fun a ha b hb => hf a (by simp [ha]) b (by simp [hb])⟩
    obtain ⟨y, hy, e⟩ := List.mem_map.1 hx
    have := hf y (by simp [hy]) x (by simp) e
    subst this
    exact (List.nodup_cons.1 h).1 hy
theorem len_parts {α : Type} (q : α → Bool) : ∀ l : List α, (l.filter q).length + (l.filter (fun x => !q x)).length = l.length
  | [] => rfl
  | x :: l => by
    have := len_parts q l
    cases h : q x <;> simp [h] <;> omega
abbrev Es := List (Nat × Nat)
/-- A matching of k edges. -/
def HasM (E : Es) (k : Nat) : Prop := ∃ M : Es, M.length = k ∧ (∀ p ∈ M, p ∈ E) ∧ (M.map Prod.fst).Nodup ∧ (M.map Prod.snd).Nodup
/-- A cover of at most k nodes. -/
def HasC (E : Es) (k : Nat) : Prop := ∃ A B : List Nat, A.length + B.length ≤ k ∧ ∀ p ∈ E, p.1 ∈ A ∨ p.2 ∈ B
/-- The greatest matching has k edges. -/
def NuIs (E : Es) (k : Nat) : Prop := HasM E k ∧ HasC E k
theorem HasM.le {E : Es} {k c : Nat} (h : HasM E k) (hc : HasC E c) : k ≤ c := by
  obtain ⟨M, rfl, hM, h1, h2⟩ := h
  obtain ⟨A, B, hl, hcov⟩ := hc
  have hp := len_parts (fun p : Nat × Nat => decide (p.1 ∈ A)) M
  have ha : ((M.filter (fun p => decide (p.1 ∈ A))).map Prod.fst).length ≤ A.length := by
    refine nodup_sub_len (h1.sublist (List.filter_sublist.map _)) fun x hx => ?_
    obtain ⟨p, hp, rfl⟩ := List.mem_map.1 hx
    simpa using (List.mem_filter.1 hp).2
  have hb : ((M.filter (fun p => !decide (p.1 ∈ A))).map Prod.snd).length ≤ B.length := by
    refine nodup_sub_len (h2.sublist (List.filter_sublist.map _)) fun x hx => ?_
    obtain ⟨p, hp, rfl⟩ := List.mem_map.1 hx
    have h3 := List.mem_filter.1 hp
    rcases hcov p (hM p h3.1) with h | h
    · simp [h] at h3
    · exact h
  rw [List.length_map] at ha hb
  omega
theorem NuIs.uniq {E : Es} {a b : Nat} (h : NuIs E a) (h' : NuIs E b) : a = b := Nat.le_antisymm (h.1.le h'.2) (h'.1.le h.2)
theorem HasM.sub {E F : Es} {k : Nat} (h : HasM E k) (hs : ∀ p ∈ E, p ∈ F) : HasM F k := by
  obtain ⟨M, h0, h1, h2⟩ := h
  exact ⟨M, h0, fun p hp => hs p (h1 p hp), h2⟩
theorem HasC.sub {E F : Es} {k : Nat} (h : HasC E k) (hs : ∀ p ∈ F, p ∈ E) : HasC F k := by
  obtain ⟨A, B, h0, h1⟩ := h
  exact ⟨A, B, h0, fun p hp => h1 p (hs p hp)⟩
theorem HasC.mono {E : Es} {k k' : Nat} (h : HasC E k) (hk : k ≤ k') : HasC E k' := by
  obtain ⟨A, B, h0, h1⟩ := h
  exact ⟨A, B, by omega, h1⟩
theorem NuIs.same {E F : Es} {k : Nat} (h : NuIs E k) (hs : ∀ p, p ∈ E ↔ p ∈ F) : NuIs F k := ⟨h.1.sub fun p hp => (hs p).1 hp, h.2.sub fun p hp => (hs p).2 hp⟩
theorem nu_more {E : Es} {x : Nat × Nat} {a b : Nat} (h : NuIs E a) (h' : NuIs (E ++ [x]) b) : a ≤ b ∧ b ≤ a + 1 := by
  refine ⟨(h.1.sub fun p hp => by simp [hp]).le h'.2, ?_⟩
  obtain ⟨A, B, h0, h1⟩ := h.2
  refine h'.1.le ⟨x.1 :: A, B, by simp only [List.length_cons]; omega, fun p hp => ?_⟩
  rcases List.mem_append.1 hp with hp | hp
  · rcases h1 p hp with h | h
    · exact .inl (by simp [h])
    · exact .inr h
  · simp only [List.mem_singleton] at hp
    subst hp
    exact .inl (by simp)
theorem nu_le_left {E : Es} {n k : Nat} (hn : ∀ p ∈ E, p.1 < n) (h : NuIs E k) : k ≤ n := by
  have := h.1.le (c := n) ⟨List.range n, [], by simp, fun p hp => .inl (by simpa using hn p hp)⟩
  exact this
theorem nu_le_right {E : Es} {m k : Nat} (hm : ∀ p ∈ E, p.2 < m) (h : NuIs E k) : k ≤ m :=
  h.1.le (c := m) ⟨[], List.range m, by simp, fun p hp => .inr (by simpa using hm p hp)⟩
def turnE (E : Es) : Es := E.map fun p => (p.2, p.1)
theorem HasM.turn {E : Es} {k : Nat} (h : HasM E k) : HasM (turnE E) k := by
  obtain ⟨M, h0, h1, h2, h3⟩ := h
  refine ⟨turnE M, by simpa [turnE] using h0, fun p hp => ?_, by simpa [turnE, Function.comp_def] using h3, by simpa [turnE, Function.comp_def] using h2⟩
  obtain ⟨q, hq, rfl⟩ := List.mem_map.1 hp
  exact List.mem_map.2 ⟨q, h1 q hq, rfl⟩
theorem HasC.turn {E : Es} {k : Nat} (h : HasC E k) : HasC (turnE E) k := by
  obtain ⟨A, B, h0, h1⟩ := h
  refine ⟨B, A, by omega, fun p hp => ?_⟩
  obtain ⟨q, hq, rfl⟩ := List.mem_map.1 hp
  exact (h1 q hq).symm
theorem NuIs.turn {E : Es} {k : Nat} (h : NuIs E k) : NuIs (turnE E) k := ⟨h.1.turn, h.2.turn⟩

/-! ### A pairing -/
/-- of: the B of each A; wi: the A of each B; below 0: none. -/
structure Pairs (E : Es) (n m : Nat) (of wi : Nat → Int) : Prop where
  fwd : ∀ a, a < n → 0 ≤ of a → (a, (of a).toNat) ∈ E ∧ wi (of a).toNat = a
  bwd : ∀ b, b < m → 0 ≤ wi b → (wi b).toNat < n ∧ of (wi b).toNat = b
/-- How many A's are matched. -/
def matched (n : Nat) (of : Nat → Int) : Nat := ((List.range n).filter (fun a => decide (0 ≤ of a))).length
theorem Pairs.hasM {E : Es} {n m : Nat} {of wi : Nat → Int} (h : Pairs E n m of wi) : HasM E (matched n of) := by
  refine ⟨((List.range n).filter (fun a => decide (0 ≤ of a))).map (fun a => (a, (of a).toNat)), by rw [List.length_map]; rfl, fun p hp => ?_, ?_, ?_⟩
  · obtain ⟨a, ha, rfl⟩ := List.mem_map.1 hp
    obtain ⟨h1, h2⟩ := List.mem_filter.1 ha
    exact (h.fwd a (by simpa using h1) (by simpa using h2)).1
  · rw [List.map_map]
    have e : (Prod.fst ∘ fun a => (a, (of a).toNat)) = (id : Nat → Nat) := rfl
    rw [e, List.map_id]
    exact List.nodup_range.sublist List.filter_sublist
  · rw [List.map_map]
    refine nodup_map_on _ (List.nodup_range.sublist List.filter_sublist) fun x hx y hy e => ?_
    obtain ⟨h1, h2⟩ := List.mem_filter.1 hx
    obtain ⟨h3, h4⟩ := List.mem_filter.1 hy
    have e1 := (h.fwd x (by simpa using h1) (by simpa using h2)).2
    have e2 := (h.fwd y (by simpa using h3) (by simpa using h4)).2
    simp only [Function.comp] at e
    rw [e, e2] at e1
    omega
/-- A set that bears all that aren't matched, closed under the ways, shows that the pairing is a greatest one. -/
theorem Pairs.nu {E : Es} {n m : Nat} {of wi : Nat → Int} (h : Pairs E n m of wi) (hE : ∀ p ∈ E, p.1 < n ∧ p.2 < m) (Z : Nat → Bool)
    (h0 : ∀ a, a < n → of a < 0 → Z a = true) (h1 : ∀ p ∈ E, Z p.1 = true → 0 ≤ wi p.2 ∧ Z (wi p.2).toNat = true) : NuIs E (matched n of) := by
  refine ⟨h.hasM, (List.range n).filter (fun a => !Z a), ((List.range n).filter (fun a => Z a && decide (0 ≤ of a))).map (fun a => (of a).toNat), ?_, fun p hp => ?_⟩
  · have e1 := len_parts Z ((List.range n).filter (fun a => decide (0 ≤ of a)))
    rw [List.filter_filter, List.filter_filter] at e1
    have e2 : (List.range n).filter (fun a => !Z a) = (List.range n).filter (fun a => !Z a && decide (0 ≤ of a)) := by
      refine List.filter_congr fun a ha => ?_
      have hn : a < n := by simpa using ha
      cases hz : Z a with
      | true => rfl
      | false =>
        have : ¬ of a < 0 := fun h' => by rw [h0 a hn h'] at hz; cases hz
        simp; omega
    rw [List.length_map, e2]
    unfold matched
    omega
  · obtain ⟨ha, hb⟩ := hE p hp
    cases hz : Z p.1 with
    | false => exact .inl (List.mem_filter.2 ⟨by simpa using ha, by simp [hz]⟩)
    | true =>
      obtain ⟨h2, h3⟩ := h1 p hp hz
      obtain ⟨h4, h5⟩ := h.bwd p.2 hb h2
      refine .inr (List.mem_map.2 ⟨(wi p.2).toNat, List.mem_filter.2 ⟨by simpa using h4, ?_⟩, by rw [h5]; rfl⟩)
      rw [h3, h5]
      simp
end Go.Proofs.Ytmekcpbcgelliaa
