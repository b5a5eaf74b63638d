/- Matchings: levels, phases and the whole search, in plain words. -/
import Derived.Test.YtmekcpbcgelliaaMtGrowP
namespace Go.Proofs.Ytmekcpbcgelliaa
/-! ### Levels -/
/-- The roots: who isn't matched. -/
def levR (of : List Int) (n : Nat) : Nat → List Nat × List Int
  | 0 => ([], List.replicate n (-1))
  | k + 1 => if gi of k < 0 then ((levR of n k).1 ++ [k], (levR of n k).2.set k 0) else levR of n k
/-- One A's neighbours are looked at. -/
def levB (wi : List Int) (a : Nat) : List Nat → List Nat → List Int → Bool → List Nat × List Int × Bool
  | [], T, di, fo => (T, di, fo)
  | b :: bs, T, di, fo =>
    if gi wi b < 0 then levB wi a bs T di true
    else if gi di (gi wi b).toNat < 0 then levB wi a bs (T ++ [(gi wi b).toNat]) (di.set (gi wi b).toNat (gi di a + 1)) fo
    else levB wi a bs T di fo
def levQ (near : Nat → List Nat) (wi : List Int) : Nat → List Nat → List Int → Bool → Option (List Int × Bool)
  | _, [], di, fo => some (di, fo)
  | 0, _ :: _, _, _ => none
  | f + 1, a :: T, di, fo => levQ near wi f (levB wi a (near a) T di fo).1 (levB wi a (near a) T di fo).2.1 (levB wi a (near a) T di fo).2.2
def levels (near : Nat → List Nat) (n : Nat) (of wi : List Int) : Option (List Int × Bool) :=
  levQ near wi n (levR of n n).1 (levR of n n).2 false
theorem gi_rep (n x : Nat) : gi (List.replicate n (-1)) x = -1 := by
  unfold gi
  rw [List.getD_eq_getElem?_getD, List.getElem?_replicate]
  split <;> rfl
theorem gi_out {l : List Int} {x : Nat} (h : l.length ≤ x) : gi l x = -1 := by
  unfold gi
  rw [List.getD_eq_getElem?_getD, List.getElem?_eq_none h]
  rfl
structure LevR (of : List Int) (n k : Nat) (T : List Nat) (di : List Int) : Prop where
  len : di.length = n
  nd : T.Nodup
  mem : ∀ x, x ∈ T ↔ x < k ∧ gi of x < 0
  at_ : ∀ x, gi di x = if x < k ∧ gi of x < 0 then 0 else -1
theorem levR_is (of : List Int) (n : Nat) : ∀ k, k ≤ n → LevR of n k (levR of n k).1 (levR of n k).2 := by
  intro k
  induction k with
  | zero => intro _; exact ⟨by simp [levR], by simp [levR], by simp [levR], fun x => by simp [levR, gi_rep]⟩
  | succ k ih =>
    intro hk
    obtain ⟨h1, h2, h3, h4⟩ := ih (by omega)
    unfold levR
    by_cases h : gi of k < 0
    · rw [if_pos h]
      refine ⟨by simp [h1], ?_, ?_, ?_⟩
      · rw [List.nodup_append]
        refine ⟨h2, by simp, fun a ha b hb => ?_⟩
        have := (h3 a).1 ha
        simp only [List.mem_singleton] at hb
        omega
      · intro x
        rw [List.mem_append, h3]
        simp only [List.mem_singleton]
        constructor
        · rintro (h5 | rfl)
          · exact ⟨by omega, h5.2⟩
          · exact ⟨by omega, h⟩
        · rintro ⟨h5, h6⟩
          by_cases e : x = k
          · exact .inr e
          · exact .inl ⟨by omega, h6⟩
      · intro x
        show gi ((levR of n k).2.set k 0) x = _
        rw [gi_set (by omega), h4]
        by_cases e : x = k
        · subst e
          rw [if_pos rfl, if_pos ⟨by omega, h⟩]
        · rw [if_neg e]
          by_cases h5 : x < k ∧ gi of x < 0
          · rw [if_pos h5, if_pos ⟨by omega, h5.2⟩]
          · rw [if_neg h5, if_neg (fun h6 => h5 ⟨by omega, h6.2⟩)]
    · rw [if_neg h]
      refine ⟨h1, h2, fun x => ?_, fun x => ?_⟩
      · rw [h3]
        constructor
        · exact fun h5 => ⟨by omega, h5.2⟩
        · rintro ⟨h5, h6⟩
          have : x ≠ k := by rintro rfl; exact h h6
          exact ⟨by omega, h6⟩
      · rw [h4]
        by_cases h5 : x < k ∧ gi of x < 0
        · rw [if_pos h5, if_pos ⟨by omega, h5.2⟩]
        · have h7 : ¬ (x < k + 1 ∧ gi of x < 0) := by
            rintro ⟨h6, h8⟩
            have : x ≠ k := by rintro rfl; exact h h8
            exact h5 ⟨by omega, h8⟩
          rw [if_neg h5, if_neg h7]
/-- P: whose neighbours were looked at; T: who waits; seen: the edges that were looked at. -/
structure Lv (near : Nat → List Nat) (n : Nat) (of wi : List Int) (seen : Nat → Nat → Prop) (P T : List Nat) (di : List Int) (fo : Bool) : Prop where
  len : di.length = n
  nd : (P ++ T).Nodup
  lt : ∀ x ∈ P ++ T, x < n
  on : ∀ x, 0 ≤ gi di x ↔ x ∈ P ++ T
  lo : ∀ x, -1 ≤ gi di x
  idx : ∀ i (h : i < (P ++ T).length), gi di (P ++ T)[i] ≤ i
  root : ∀ a, a < n → gi of a < 0 → a ∈ P ++ T ∧ gi di a = 0
  par : ∀ x ∈ P ++ T, gi of x < 0 ∨ ∃ p ∈ P, ∃ b ∈ near p, gi wi b = (x : Int) ∧ gi di x = gi di p + 1
  clo : ∀ p b, seen p b → (gi wi b < 0 ∧ fo = true) ∨ ∃ q : Nat, gi wi b = (q : Int) ∧ q ∈ P ++ T
  fnd : fo = true → ∃ p ∈ P, ∃ b ∈ near p, gi wi b < 0
section
variable {near : Nat → List Nat} {n : Nat} {of wi : List Int}
theorem levB_lv {a : Nat} {P : List Nat} (ha : a ∈ P) (hwi : ∀ b ∈ near a, 0 ≤ gi wi b → (gi wi b).toNat < n) :
    ∀ (bs T : List Nat) (di : List Int) (fo : Bool) (seen : Nat → Nat → Prop), (∀ b ∈ bs, b ∈ near a) → Lv near n of wi seen P T di fo →
      Lv near n of wi (fun p b => seen p b ∨ (p = a ∧ b ∈ bs)) P (levB wi a bs T di fo).1 (levB wi a bs T di fo).2.1 (levB wi a bs T di fo).2.2 := by
  intro bs
  induction bs with
  | nil =>
    intro T di fo seen _ h
    refine ⟨h.len, h.nd, h.lt, h.on, h.lo, h.idx, h.root, h.par, fun p b hs => ?_, h.fnd⟩
    rcases hs with hs | ⟨_, hs⟩
    · exact h.clo p b hs
    · cases hs
  | cons b bs ih =>
    intro T di fo seen hbs h
    have hb := hbs b (by simp)
    have hbs' : ∀ c ∈ bs, c ∈ near a := fun c hc => hbs c (by simp [hc])
    have step : ∀ (T' : List Nat) (di' : List Int) (fo' : Bool), Lv near n of wi (fun p c => seen p c ∨ (p = a ∧ c = b)) P T' di' fo' →
        Lv near n of wi (fun p c => seen p c ∨ (p = a ∧ c ∈ b :: bs)) P (levB wi a bs T' di' fo').1 (levB wi a bs T' di' fo').2.1 (levB wi a bs T' di' fo').2.2 := by
      intro T' di' fo' h'
      have h2 := ih T' di' fo' _ hbs' h'
      refine ⟨h2.len, h2.nd, h2.lt, h2.on, h2.lo, h2.idx, h2.root, h2.par, fun p c hs => h2.clo p c ?_, h2.fnd⟩
      rcases hs with hs | ⟨rfl, hs⟩
      · exact .inl (.inl hs)
      · rcases List.mem_cons.1 hs with rfl | hs
        · exact .inl (.inr ⟨rfl, rfl⟩)
        · exact .inr ⟨rfl, hs⟩
    unfold levB
    by_cases h1 : gi wi b < 0
    · rw [if_pos h1]
      refine step _ _ _ ⟨h.len, h.nd, h.lt, h.on, h.lo, h.idx, h.root, h.par, fun p c hs => ?_, fun _ => ⟨a, ha, b, hb, h1⟩⟩
      rcases hs with hs | ⟨rfl, rfl⟩
      · rcases h.clo p c hs with ⟨h2, _⟩ | h2
        · exact .inl ⟨h2, rfl⟩
        · exact .inr h2
      · exact .inl ⟨h1, rfl⟩
    · rw [if_neg h1]
      obtain ⟨q, hq⟩ : ∃ q : Nat, gi wi b = (q : Int) := ⟨(gi wi b).toNat, by omega⟩
      have hqt : (gi wi b).toNat = q := by omega
      have hqn : q < n := by have := hwi b hb (by omega); omega
      rw [hqt]
      by_cases h2 : gi di q < 0
      · rw [if_pos h2]
        have hq' : q ∉ P ++ T := fun hm => by have := (h.on q).2 hm; omega
        have hql : q < di.length := by rw [h.len]; exact hqn
        have hda : 0 ≤ gi di a := (h.on a).2 (by simp [ha])
        have hne : ∀ x ∈ P ++ T, x ≠ q := fun x hx e => hq' (e ▸ hx)
        have dv : ∀ x, gi (di.set q (gi di a + 1)) x = if x = q then gi di a + 1 else gi di x := fun x => gi_set hql _ x
        have haT : a ∈ P ++ T := by simp [ha]
        obtain ⟨ia, hia, hia2⟩ := List.getElem_of_mem haT
        refine step _ _ _ ⟨by simp [h.len], ?_, ?_, ?_, ?_, ?_, ?_, ?_, ?_, ?_⟩
        · rw [← List.append_assoc, List.nodup_append]
          refine ⟨h.nd, by simp, fun x hx y hy => ?_⟩
          simp only [List.mem_singleton] at hy
          subst hy
          exact hne x hx
        · intro x hx
          rw [← List.append_assoc, List.mem_append] at hx
          rcases hx with hx | hx
          · exact h.lt x hx
          · simp only [List.mem_singleton] at hx; omega
        · intro x
          rw [dv, ← List.append_assoc, List.mem_append]
          by_cases e : x = q
          · subst e
            simp
            omega
          · rw [if_neg e, h.on x]
            simp [e]
        · intro x
          rw [dv]
          have := h.lo x
          split <;> omega
        · intro i hi
          simp only [← List.append_assoc] at hi ⊢
          rw [List.getElem_append]
          by_cases e : i < (P ++ T).length
          · rw [dif_pos e, dv, if_neg (hne _ (List.getElem_mem e))]
            exact h.idx i e
          · rw [dif_neg e, List.getElem_singleton, dv, if_pos rfl]
            have := h.idx ia hia
            rw [hia2] at this
            omega
        · intro x hx hx2
          obtain ⟨h3, h4⟩ := h.root x hx hx2
          refine ⟨by rw [← List.append_assoc, List.mem_append]; exact .inl h3, ?_⟩
          rw [dv, if_neg (hne x h3)]
          exact h4
        · intro x hx
          rw [← List.append_assoc, List.mem_append] at hx
          rcases hx with hx | hx
          · rcases h.par x hx with h3 | ⟨p, hp, c, hc, h3, h4⟩
            · exact .inl h3
            · refine .inr ⟨p, hp, c, hc, h3, ?_⟩
              rw [dv, dv, if_neg (hne x hx), if_neg (hne p (by simp [hp]))]
              exact h4
          · simp only [List.mem_singleton] at hx
            subst hx
            refine .inr ⟨a, ha, b, hb, hq, ?_⟩
            rw [dv, dv, if_pos rfl, if_neg (hne a haT)]
        · intro p c hs
          have up : ∀ x, x ∈ P ++ T → x ∈ P ++ (T ++ [q]) := fun x hx => by rw [← List.append_assoc, List.mem_append]; exact .inl hx
          rcases hs with hs | ⟨rfl, rfl⟩
          · rcases h.clo p c hs with h3 | ⟨x, h3, h4⟩
            · exact .inl h3
            · exact .inr ⟨x, h3, up x h4⟩
          · exact .inr ⟨q, hq, by simp⟩
        · exact h.fnd
      · rw [if_neg h2]
        refine step _ _ _ ⟨h.len, h.nd, h.lt, h.on, h.lo, h.idx, h.root, h.par, fun p c hs => ?_, h.fnd⟩
        rcases hs with hs | ⟨rfl, rfl⟩
        · exact h.clo p c hs
        · exact .inr ⟨q, hq, (h.on q).1 (by omega)⟩
theorem levQ_lv (hwi : ∀ a b, b ∈ near a → 0 ≤ gi wi b → (gi wi b).toNat < n) :
    ∀ (f : Nat) (P T : List Nat) (di : List Int) (fo : Bool), Lv near n of wi (fun p b => p ∈ P ∧ b ∈ near p) P T di fo → n ≤ f + P.length →
      ∃ r P', levQ near wi f T di fo = some r ∧ Lv near n of wi (fun p b => p ∈ P' ∧ b ∈ near p) P' [] r.1 r.2 := by
  intro f
  induction f with
  | zero =>
    intro P T di fo h hf
    cases T with
    | nil => exact ⟨_, P, by unfold levQ; rfl, h⟩
    | cons a T =>
      have := nodup_sub_len (b := List.range n) h.nd fun x hx => by simpa using h.lt x hx
      simp at this
      omega
  | succ f ih =>
    intro P T di fo h hf
    cases T with
    | nil => exact ⟨_, P, by unfold levQ; rfl, h⟩
    | cons a T =>
      have e : P ++ a :: T = (P ++ [a]) ++ T := by simp
      have h1 : Lv near n of wi (fun p b => p ∈ P ∧ b ∈ near p) (P ++ [a]) T di fo := by
        obtain ⟨g1, g2, g3, g4, g5, g6, g7, g8, g9, g10⟩ := h
        simp only [e] at g2 g3 g4 g6 g7 g8 g9
        refine ⟨g1, g2, g3, g4, g5, g6, g7, fun x hx => ?_, g9, fun hf => ?_⟩
        · rcases g8 x hx with h | ⟨p, hp, h⟩
          · exact .inl h
          · exact .inr ⟨p, by simp [hp], h⟩
        · obtain ⟨p, hp, h⟩ := g10 hf
          exact ⟨p, by simp [hp], h⟩
      have h2 := levB_lv (a := a) (by simp) (hwi a) (near a) T di fo _ (fun _ h => h) h1
      refine ih (P ++ [a]) _ _ _ ⟨h2.len, h2.nd, h2.lt, h2.on, h2.lo, h2.idx, h2.root, h2.par, fun p b hs => h2.clo p b ?_, h2.fnd⟩ (by simp; omega)
      obtain ⟨hp, hb⟩ := hs
      rcases List.mem_append.1 hp with hp | hp
      · exact .inl ⟨hp, hb⟩
      · simp only [List.mem_singleton] at hp
        subst hp
        exact .inr ⟨rfl, hb⟩
/-- What the levels are. -/
structure LevOut (near : Nat → List Nat) (n : Nat) (of wi di : List Int) (fo : Bool) : Prop where
  len : di.length = n
  lo : ∀ x, -1 ≤ gi di x
  hi : ∀ x, gi di x < n
  root : ∀ a, a < n → gi of a < 0 → gi di a = 0
  no : fo = false → ∀ a b, b ∈ near a → 0 ≤ gi di a → 0 ≤ gi wi b ∧ 0 ≤ gi di (gi wi b).toNat
  yes : fo = true → ∃ a, a < n ∧ gi of a < 0 ∧ Good near wi di a
theorem levels_out (hwi : ∀ a b, b ∈ near a → 0 ≤ gi wi b → (gi wi b).toNat < n) : ∃ di fo, levels near n of wi = some (di, fo) ∧ LevOut near n of wi di fo := by
  obtain ⟨h1, h2, h3, h4⟩ := levR_is of n n (Nat.le_refl _)
  have h0 : Lv near n of wi (fun p b => p ∈ ([] : List Nat) ∧ b ∈ near p) [] (levR of n n).1 (levR of n n).2 false := by
    refine ⟨h1, by simpa using h2, fun x hx => ?_, fun x => ?_, fun x => ?_, fun i hi => ?_, fun a ha hu => ?_, fun x hx => ?_, fun p b hs => ?_, fun h => by cases h⟩
    · exact ((h3 x).1 (by simpa using hx)).1
    · rw [h4, List.nil_append, h3]
      split
      · rename_i h; simp [h]
      · rename_i h; simp [h]
    · rw [h4]; split <;> omega
    · rw [h4]; split <;> omega
    · refine ⟨by simpa using (h3 a).2 ⟨ha, hu⟩, ?_⟩
      rw [h4, if_pos ⟨ha, hu⟩]
    · exact .inl ((h3 x).1 (by simpa using hx)).2
    · cases hs.1
  obtain ⟨⟨di, fo⟩, P, hr, h⟩ := levQ_lv hwi n [] _ _ _ h0 (by simp)
  simp only at h
  have hP : ∀ x, x ∈ P ++ [] ↔ x ∈ P := fun x => by simp
  refine ⟨di, fo, hr, h.len, h.lo, fun x => ?_, fun a ha hu => (h.root a ha hu).2, fun hfo a b hb ha => ?_, fun hfo => ?_⟩
  · by_cases hx : 0 ≤ gi di x
    · have hm := (h.on x).1 hx
      obtain ⟨i, hi, e⟩ := List.getElem_of_mem hm
      have h5 := h.idx i hi
      rw [e] at h5
      have := nodup_sub_len (b := List.range n) h.nd fun y hy => by simpa using h.lt y hy
      rw [List.length_range] at this
      omega
    · omega
  · rcases h.clo a b ⟨(hP a).1 ((h.on a).1 ha), hb⟩ with ⟨_, h5⟩ | ⟨q, h5, h6⟩
    · rw [hfo] at h5; cases h5
    · have := (h.on q).2 h6
      have e : (gi wi b).toNat = q := by omega
      rw [e]
      exact ⟨by omega, this⟩
  · obtain ⟨p, hp, b, hb, hf⟩ := h.fnd hfo
    have up : ∀ (k x : Nat), gi di x ≤ k → x ∈ P → Good near wi di x → ∃ a, a < n ∧ gi of a < 0 ∧ Good near wi di a := by
      intro k
      induction k with
      | zero =>
        intro x hk hx hg
        rcases h.par x (by simp [hx]) with h5 | ⟨q, hq, c, hc, h6, h7⟩
        · exact ⟨x, h.lt x (by simp [hx]), h5, hg⟩
        · have := (h.on q).2 (by simp [hq])
          omega
      | succ k ih =>
        intro x hk hx hg
        rcases h.par x (by simp [hx]) with h5 | ⟨q, hq, c, hc, h6, h7⟩
        · exact ⟨x, h.lt x (by simp [hx]), h5, hg⟩
        · refine ih q (by omega) hq (.step q c hc (by omega) ?_ ?_)
          · rw [h6, Int.toNat_natCast]; exact h7
          · rw [h6, Int.toNat_natCast]; exact hg
    exact up (gi di p).toNat p (by omega) hp (.free p b hb hf)
end
/-! ### Phases -/
def phaseF (near : Nat → List Nat) (f : Nat) : List Nat → PSt → Option PSt
  | [], s => some s
  | a :: xa, s =>
    if gi s.of a < 0 then
      match growF near f a s with
      | none => none
      | some r => phaseF near f xa r.2
    else phaseF near f xa s
def solveF (near : Nat → List Nat) (n : Nat) : Nat → PSt → Option PSt
  | 0, _ => none
  | f + 1, s =>
    match levels near n s.of s.wi with
    | none => none
    | some (di, false) => some { s with di := di }
    | some (di, true) =>
      match phaseF near (n + 2) (List.range n) { s with di := di } with
      | none => none
      | some s' => solveF near n f s'
theorem count_one {α : Type} [DecidableEq α] (p q : α → Bool) (a : α) (hp : p a = false) (hq : q a = true) (hx : ∀ x, x ≠ a → p x = q x) :
    ∀ l : List α, l.Nodup → a ∈ l → (l.filter q).length = (l.filter p).length + 1
  | [], _, h => by cases h
  | x :: l, hn, h => by
    obtain ⟨hn1, hn2⟩ := List.nodup_cons.1 hn
    by_cases e : x = a
    · subst e
      have : l.filter q = l.filter p := List.filter_congr fun y hy => (hx y (by rintro rfl; exact hn1 hy)).symm
      simp [hp, hq, this]
    · have h2 := count_one p q a hp hq hx l hn2 (by rcases List.mem_cons.1 h with h | h; exact absurd h.symm e; exact h)
      rw [List.filter_cons, List.filter_cons, hx x e]
      split
      · simp only [List.length_cons, h2]
      · exact h2
section
variable {E : Es} {near : Nat → List Nat} {n m : Nat}
theorem grown_gin {N : Int} {s0 s : PSt} {a : Nat} (hg : Gin E near n m N s0) (h : Grown E n m s0 a s) (ha : a < n) (hu : gi s0.of a < 0) : Gin E near n m N s ∧ matched n (gi s.of) = matched n (gi s0.of) + 1 := by
  refine ⟨⟨⟨h.fwd, fun b hb hw => ?_⟩, h.lof.trans hg.lof, h.lwi.trans hg.lwi, h.ldi.trans hg.ldi, h.lo, h.hi N hg.hi⟩, ?_⟩
  · rcases h.bwd b hb hw with h1 | h1
    · omega
    · exact h1
  · have h1 := h.at_
    unfold matched
    refine count_one _ _ a (by simp; omega) (by simpa using h1) (fun x hx => ?_) _ List.nodup_range (by simpa using ha)
    have := h.had x hx
    by_cases e : 0 ≤ gi s.of x
    · simp [e, this.1 e]
    · have e2 : ¬ 0 ≤ gi s0.of x := fun h' => e (this.2 h')
      simp only [e, e2]
theorem dead_gin {N : Int} {s0 s : PSt} (hN : 0 ≤ N) (hg : Gin E near n m N s0) (h : Dead near s0 s) : Gin E near n m N s := by
  refine ⟨by rw [h.of, h.wi]; exact hg.pairs, by rw [h.of]; exact hg.lof, by rw [h.wi]; exact hg.lwi, h.len.trans hg.ldi, fun x => ?_, fun x => ?_⟩
  · have := hg.lo x
    rcases h.di x with h | h <;> omega
  · have := hg.hi x
    rcases h.di x with h | h <;> omega
theorem phase_any (hb : ∀ a b, b ∈ near a → (a, b) ∈ E) (hE : ∀ p ∈ E, p.1 < n ∧ p.2 < m) :
    ∀ (xa : List Nat) (s : PSt), (∀ a ∈ xa, a < n) → Gin E near n m n s → (∀ x, -1 ≤ gi s.of x) →
      ∃ s', phaseF near (n + 2) xa s = some s' ∧ Gin E near n m n s' ∧ (∀ x, -1 ≤ gi s'.of x) ∧ matched n (gi s.of) ≤ matched n (gi s'.of) := by
  intro xa
  induction xa with
  | nil => intro s _ hg ho; exact ⟨s, rfl, hg, ho, Nat.le_refl _⟩
  | cons a xa ih =>
    intro s has hg ho
    have ha := has a (by simp)
    have has' : ∀ c ∈ xa, c < n := fun c hc => has c (by simp [hc])
    unfold phaseF
    by_cases hu : gi s.of a < 0
    · rw [if_pos hu]
      have hlo := hg.lo a
      obtain ⟨⟨r1, r2⟩, hr, hout⟩ := growF_out hb hE (by omega : (0 : Int) ≤ n) hg (n + 2) a s ha (Dead.refl _ _) rfl (by omega)
      rw [hr]
      rcases hout with ⟨_, h2, _⟩ | ⟨_, h2⟩
      · simp only at h2 ⊢
        obtain ⟨s', e, g, g1, g2⟩ := ih r2 has' (dead_gin (by omega) hg h2) (by rw [h2.of]; exact ho)
        exact ⟨s', e, g, g1, by rw [h2.of] at g2; exact g2⟩
      · simp only at h2 ⊢
        obtain ⟨k1, k2⟩ := grown_gin hg h2 ha hu
        obtain ⟨s', e, g, g1, g2⟩ := ih r2 has' k1 (h2.lowo ho)
        exact ⟨s', e, g, g1, by omega⟩
    · rw [if_neg hu]
      exact ih s has' hg ho
theorem phase_more (hb : ∀ a b, b ∈ near a → (a, b) ∈ E) (hE : ∀ p ∈ E, p.1 < n ∧ p.2 < m) {s0 : PSt} (hg : Gin E near n m n s0) (ho : ∀ x, -1 ≤ gi s0.of x)
    (hroot : ∀ a, a < n → gi s0.of a < 0 → gi s0.di a = 0) (a0 : Nat) (h0 : gi s0.of a0 < 0) (hgood : Good near s0.wi s0.di a0) :
    ∀ (xa : List Nat) (s : PSt), xa.Nodup → a0 ∈ xa → (∀ a ∈ xa, a < n) → Dead near s0 s → (∀ a ∈ xa, gi s0.of a < 0 → gi s.di a = gi s0.di a) →
      ∃ s', phaseF near (n + 2) xa s = some s' ∧ Gin E near n m n s' ∧ (∀ x, -1 ≤ gi s'.of x) ∧ matched n (gi s0.of) + 1 ≤ matched n (gi s'.of) := by
  intro xa
  induction xa with
  | nil => intro s _ h; cases h
  | cons a xa ih =>
    intro s hnd hin has hd hdi
    obtain ⟨hn1, hn2⟩ := List.nodup_cons.1 hnd
    have ha := has a (by simp)
    have has' : ∀ c ∈ xa, c < n := fun c hc => has c (by simp [hc])
    unfold phaseF
    by_cases hu : gi s.of a < 0
    · rw [if_pos hu]
      have hu0 : gi s0.of a < 0 := by rw [← hd.of]; exact hu
      have hlo := hg.lo a
      obtain ⟨⟨r1, r2⟩, hr, hout⟩ := growF_out hb hE (by omega : (0 : Int) ≤ n) hg (n + 2) a s ha hd (hdi a (by simp) hu0) (by omega)
      rw [hr]
      rcases hout with ⟨_, h2, h3, h4⟩ | ⟨_, h2⟩
      · simp only at h2 h4 ⊢
        have hne : a0 ≠ a := by rintro rfl; exact h3 hgood
        refine ih r2 hn2 (by rcases List.mem_cons.1 hin with h | h; exact absurd h hne; exact h) has' h2 fun c hc hcu => ?_
        rw [h4 c (by rintro rfl; exact hn1 hc) (by rw [hroot c (has' c hc) hcu, hroot a ha hu0]; exact Int.le_refl _)]
        exact hdi c (by simp [hc]) hcu
      · simp only at h2 ⊢
        obtain ⟨k1, k2⟩ := grown_gin hg h2 ha hu0
        obtain ⟨s', e, g, g1, g2⟩ := phase_any hb hE xa r2 has' k1 (h2.lowo ho)
        exact ⟨s', e, g, g1, by omega⟩
    · rw [if_neg hu]
      have hne : a0 ≠ a := by rintro rfl; rw [hd.of] at hu; exact hu h0
      exact ih s hn2 (by rcases List.mem_cons.1 hin with h | h; exact absurd h hne; exact h) has' hd fun c hc => hdi c (by simp [hc])
/-- What the search ends with. -/
structure SolveOut (E : Es) (n m : Nat) (s : PSt) : Prop where
  pairs : Pairs E n m (gi s.of) (gi s.wi)
  lof : s.of.length = n
  lwi : s.wi.length = m
  ldi : s.di.length = n
  lowo : ∀ x, -1 ≤ gi s.of x
  free : ∀ a, a < n → gi s.of a < 0 → 0 ≤ gi s.di a
  clo : ∀ p ∈ E, 0 ≤ gi s.di p.1 → 0 ≤ gi s.wi p.2 ∧ 0 ≤ gi s.di (gi s.wi p.2).toNat
theorem SolveOut.nu {s : PSt} (h : SolveOut E n m s) (hE : ∀ p ∈ E, p.1 < n ∧ p.2 < m) : NuIs E (matched n (gi s.of)) :=
  h.pairs.nu hE (fun a => decide (0 ≤ gi s.di a)) (fun a ha hu => by simpa using h.free a ha hu) (fun p hp hz => by simpa using h.clo p hp (by simpa using hz))
theorem solve_out (hb : ∀ a b, b ∈ near a ↔ (a, b) ∈ E) (hE : ∀ p ∈ E, p.1 < n ∧ p.2 < m) :
    ∀ (f : Nat) (s : PSt), Pairs E n m (gi s.of) (gi s.wi) → s.of.length = n → s.wi.length = m → (∀ x, -1 ≤ gi s.of x) → n < f + matched n (gi s.of) →
      ∃ r, solveF near n f s = some r ∧ SolveOut E n m r := by
  intro f
  induction f with
  | zero =>
    intro s _ _ _ _ h
    have : matched n (gi s.of) ≤ n := by
      have := List.length_filter_le (fun a => decide (0 ≤ gi s.of a)) (List.range n)
      rw [List.length_range] at this
      exact this
    omega
  | succ f ih =>
    intro s hp lof lwi ho hf
    obtain ⟨di, fo, hl, hlev⟩ := levels_out (near := near) (n := n) (of := s.of) (wi := s.wi) fun a b hab h => (hp.bwd b (hE _ ((hb a b).1 hab)).2 h).1
    unfold solveF
    rw [hl]
    cases fo with
    | false =>
      refine ⟨_, rfl, hp, lof, lwi, hlev.len, ho, fun a ha hu => ?_, fun p hp hz => hlev.no rfl p.1 p.2 ((hb _ _).2 hp) hz⟩
      rw [hlev.root a ha hu]
      exact Int.le_refl _
    | true =>
      obtain ⟨a0, ha0, hu0, hgood⟩ := hlev.yes rfl
      have hg : Gin E near n m n { s with di := di } := ⟨hp, lof, lwi, hlev.len, fun x => by have := hlev.lo x; show -2 ≤ gi di x; omega, hlev.hi⟩
      obtain ⟨s', e, g, g1, g2⟩ := phase_more (fun a b h => (hb a b).1 h) hE hg ho hlev.root a0 hu0 hgood (List.range n) _ List.nodup_range (by simpa using ha0) (fun a h => by simpa using h) (Dead.refl _ _) (fun _ _ _ => rfl)
      simp only [e]
      have g3 : matched n (gi s.of) + 1 ≤ matched n (gi s'.of) := g2
      exact ih s' g.pairs g.lof g.lwi g1 (by omega)
/-- The start: nobody is matched. -/
theorem pairs_none : Pairs E n m (gi (List.replicate n (-1))) (gi (List.replicate m (-1))) :=
  ⟨fun a _ h => by rw [gi_rep] at h; omega, fun b _ h => by rw [gi_rep] at h; omega⟩
end
end Go.Proofs.Ytmekcpbcgelliaa
