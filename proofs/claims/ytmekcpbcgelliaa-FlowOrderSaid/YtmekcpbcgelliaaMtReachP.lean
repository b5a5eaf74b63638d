/- Matchings: who is reached from those that aren't matched, in plain words. -/
import Derived.Test.YtmekcpbcgelliaaMtLevP
namespace Go.Proofs.Ytmekcpbcgelliaa
structure RSt where
  xa : List Int
  bs : List Int
def reachL (wi : List Int) (step : Nat → RSt → Option RSt) : List Nat → RSt → Option RSt
  | [], s => some s
  | b :: l, s =>
    if gi s.bs b = 0 then
      match step (gi wi b).toNat { s with bs := s.bs.set b 1 } with
      | none => none
      | some s' => reachL wi step l s'
    else reachL wi step l s
def reachF (near : Nat → List Nat) (wi : List Int) : Nat → Nat → RSt → Option RSt
  | 0, _, _ => none
  | f + 1, a, s => if 0 < gi s.xa a then some s else reachL wi (reachF near wi f) (near a) { s with xa := s.xa.set a 1 }
def reachAll (near : Nat → List Nat) (wi of : List Int) (f : Nat) : List Nat → RSt → Option RSt
  | [], s => some s
  | a :: l, s =>
    if gi of a < 0 then
      match reachF near wi f a s with
      | none => none
      | some s' => reachAll near wi of f l s'
    else reachAll near wi of f l s
/-- Marks are 0 or 1. -/
def Bits (l : List Int) (n : Nat) : Prop := l.length = n ∧ ∀ x, x < n → gi l x = 0 ∨ gi l x = 1
theorem Bits.set {l : List Int} {n x : Nat} (h : Bits l n) (hx : x < n) : Bits (l.set x 1) n := by
  refine ⟨by rw [List.length_set, h.1], fun y hy => ?_⟩
  rw [gi_set (by rw [h.1]; exact hx)]
  split
  · exact .inr rfl
  · exact h.2 y hy
theorem Bits.one {l : List Int} {n x : Nat} (h : Bits l n) (hx : gi l x = 1) : x < n := by
  by_cases e : x < n
  · exact e
  · rw [gi_out (by rw [h.1]; omega)] at hx
    omega
theorem bits_zero (n : Nat) : Bits (List.replicate n 0) n := by
  refine ⟨by simp, fun x hx => .inl ?_⟩
  rw [gi_get (by simpa using hx)]
  simp
/-- How many aren't marked. -/
def zeros (l : List Int) (n : Nat) : Nat := ((List.range n).filter (fun x => decide (gi l x = 0))).length
theorem filter_len_le {α : Type} (p q : α → Bool) (l : List α) (h : ∀ x ∈ l, p x = true → q x = true) : (l.filter p).length ≤ (l.filter q).length := by
  induction l with
  | nil => simp
  | cons x l ih =>
    have h1 := ih fun y hy => h y (by simp [hy])
    rw [List.filter_cons, List.filter_cons]
    by_cases e : p x = true
    · rw [if_pos e, if_pos (h x (by simp) e)]
      simpa using h1
    · rw [if_neg e]
      split
      · simp only [List.length_cons]; omega
      · exact h1
section
variable {near : Nat → List Nat} {n m : Nat} {of wi : List Int} {Z : Nat → Prop}
/-- From s to s' marks were only set, and what was marked anew is right. -/
structure Ext (near : Nat → List Nat) (n m : Nat) (wi : List Int) (Z R : Nat → Prop) (s s' : RSt) : Prop where
  ba : Bits s'.xa n
  bb : Bits s'.bs m
  ma : ∀ x, gi s.xa x = 1 → gi s'.xa x = 1
  mb : ∀ b, gi s.bs b = 1 → gi s'.bs b = 1
  na : ∀ x, gi s'.xa x = 1 → gi s.xa x = 1 ∨ ((∀ b ∈ near x, gi s'.bs b = 1) ∧ Z x ∧ (R x ∨ ∃ b, gi s'.bs b = 1 ∧ gi wi b = (x : Int)))
  nb : ∀ b, gi s'.bs b = 1 → gi s.bs b = 1 ∨ (0 ≤ gi wi b ∧ gi s'.xa (gi wi b).toNat = 1 ∧ ∃ x, gi s'.xa x = 1 ∧ b ∈ near x)
theorem Ext.refl {s : RSt} {R : Nat → Prop} (h1 : Bits s.xa n) (h2 : Bits s.bs m) : Ext near n m wi Z R s s := ⟨h1, h2, fun _ h => h, fun _ h => h, fun _ h => .inl h, fun _ h => .inl h⟩
theorem Ext.trans {s s' s'' : RSt} {R : Nat → Prop} (h : Ext near n m wi Z R s s') (h' : Ext near n m wi Z R s' s'') : Ext near n m wi Z R s s'' := by
  refine ⟨h'.ba, h'.bb, fun x hx => h'.ma x (h.ma x hx), fun b hb => h'.mb b (h.mb b hb), fun x hx => ?_, fun b hb => ?_⟩
  · rcases h'.na x hx with h1 | h1
    · rcases h.na x h1 with h2 | ⟨h2, h3, h4⟩
      · exact .inl h2
      · refine .inr ⟨fun b hb => h'.mb b (h2 b hb), h3, ?_⟩
        rcases h4 with h4 | ⟨b, h4, h5⟩
        · exact .inl h4
        · exact .inr ⟨b, h'.mb b h4, h5⟩
    · exact .inr h1
  · rcases h'.nb b hb with h1 | h1
    · rcases h.nb b h1 with h2 | ⟨h2, h3, x, h4, h5⟩
      · exact .inl h2
      · exact .inr ⟨h2, h'.ma _ h3, x, h'.ma x h4, h5⟩
    · exact .inr h1
theorem Ext.mono {s s' : RSt} {R R' : Nat → Prop} (h : Ext near n m wi Z R s s') (hR : ∀ x, R x → R' x) : Ext near n m wi Z R' s s' :=
  ⟨h.ba, h.bb, h.ma, h.mb, fun x hx => (h.na x hx).imp id fun h => ⟨h.1, h.2.1, h.2.2.imp (hR x) id⟩, h.nb⟩
theorem Ext.zeros {s s' : RSt} {R : Nat → Prop} (h : Ext near n m wi Z R s s') (hb : Bits s.bs m) : zeros s'.bs m ≤ zeros s.bs m := by
  refine filter_len_le _ _ _ fun x hx h1 => ?_
  have hm : x < m := by simpa using hx
  simp only [decide_eq_true_eq] at h1 ⊢
  rcases hb.2 x hm with h2 | h2
  · exact h2
  · have := h.mb x h2
    omega
theorem zeros_set {l : List Int} {b : Nat} (h : Bits l m) (hb : b < m) (h0 : gi l b = 0) : zeros l m = zeros (l.set b 1) m + 1 := by
  have hv := fun x => gi_set (l := l) (i := b) (by rw [h.1]; exact hb) 1 x
  unfold zeros
  refine count_one _ _ b (by simp [hv]) (by simpa using h0) (fun x hx => by simp [hv, hx]) _ List.nodup_range (by simpa using hb)
theorem reachF_out (hm : ∀ a b, b ∈ near a → b < m) (hZn : ∀ a, Z a → a < n) (hZ : ∀ a b, b ∈ near a → Z a → 0 ≤ gi wi b ∧ Z (gi wi b).toNat) :
    ∀ (f a : Nat) (s : RSt), Z a → Bits s.xa n → Bits s.bs m → zeros s.bs m < f →
      ∃ s', reachF near wi f a s = some s' ∧ Ext near n m wi Z (· = a) s s' ∧ gi s'.xa a = 1 := by
  intro f
  induction f with
  | zero => intro a s _ _ _ h; omega
  | succ f ih =>
    intro a s hza hba hbb hf
    have han := hZn a hza
    unfold reachF
    by_cases h1 : 0 < gi s.xa a
    · rw [if_pos h1]
      refine ⟨s, rfl, .refl hba hbb, ?_⟩
      rcases hba.2 a han with h | h <;> omega
    · rw [if_neg h1]
      have key : ∀ (l : List Nat) (s : RSt), (∀ b ∈ l, b ∈ near a) → Bits s.xa n → Bits s.bs m → gi s.xa a = 1 → zeros s.bs m < f + 1 →
          ∃ s', reachL wi (reachF near wi f) l s = some s' ∧ Ext near n m wi Z (fun _ => False) s s' ∧ ∀ b ∈ l, gi s'.bs b = 1 := by
        intro l
        induction l with
        | nil => intro s _ h1 h2 _ _; exact ⟨s, rfl, .refl h1 h2, fun b hb => by cases hb⟩
        | cons b l ihl =>
          intro s hl h1 h2 h3 h4
          have hb := hl b (by simp)
          have hbm := hm a b hb
          have hl' : ∀ c ∈ l, c ∈ near a := fun c hc => hl c (by simp [hc])
          unfold reachL
          by_cases h0 : gi s.bs b = 0
          · rw [if_pos h0]
            obtain ⟨hw, hzw⟩ := hZ a b hb hza
            have hz := zeros_set h2 hbm h0
            have hv := fun x => gi_set (l := s.bs) (i := b) (by rw [h2.1]; exact hbm) 1 x
            obtain ⟨s1, e1, x1, m1⟩ := ih (gi wi b).toNat { s with bs := s.bs.set b 1 } hzw h1 (h2.set hbm) (by show zeros (s.bs.set b 1) m < f; omega)
            rw [e1]
            have xs : Ext near n m wi Z (fun _ => False) s s1 := by
              refine ⟨x1.ba, x1.bb, x1.ma, fun c hc => x1.mb c ?_, fun x hx => ?_, fun c hc => ?_⟩
              · show gi (s.bs.set b 1) c = 1
                rw [hv]
                split
                · rfl
                · exact hc
              · rcases x1.na x hx with g | ⟨g1, g2, g3⟩
                · exact .inl g
                · refine .inr ⟨g1, g2, .inr ?_⟩
                  rcases g3 with g3 | g3
                  · refine ⟨b, x1.mb b ?_, ?_⟩
                    · show gi (s.bs.set b 1) b = 1
                      rw [hv, if_pos rfl]
                    · have g4 : x = (gi wi b).toNat := g3
                      omega
                  · exact g3
              · rcases x1.nb c hc with g | g
                · have g' : gi (s.bs.set b 1) c = 1 := g
                  rw [hv] at g'
                  by_cases e : c = b
                  · subst e
                    exact .inr ⟨hw, m1, a, x1.ma a h3, hb⟩
                  · rw [if_neg e] at g'
                    exact .inl g'
                · exact .inr g
            have hz1 := xs.zeros h2
            obtain ⟨s2, e2, x2, m2⟩ := ihl s1 hl' x1.ba x1.bb (x1.ma a h3) (by omega)
            refine ⟨s2, e2, xs.trans x2, fun c hc => ?_⟩
            rcases List.mem_cons.1 hc with rfl | hc
            · refine x2.mb c (x1.mb c ?_)
              show gi (s.bs.set c 1) c = 1
              rw [hv, if_pos rfl]
            · exact m2 c hc
          · rw [if_neg h0]
            obtain ⟨s2, e2, x2, m2⟩ := ihl s hl' h1 h2 h3 h4
            refine ⟨s2, e2, x2, fun c hc => ?_⟩
            rcases List.mem_cons.1 hc with rfl | hc
            · refine x2.mb c ?_
              rcases h2.2 c hbm with h | h
              · exact absurd h h0
              · exact h
            · exact m2 c hc
      have hv := fun x => gi_set (l := s.xa) (i := a) (by rw [hba.1]; exact han) 1 x
      obtain ⟨s', e, x, mm⟩ := key (near a) { s with xa := s.xa.set a 1 } (fun _ h => h) (hba.set han) hbb (by show gi (s.xa.set a 1) a = 1; rw [hv, if_pos rfl]) hf
      have ma : gi s'.xa a = 1 := x.ma a (by show gi (s.xa.set a 1) a = 1; rw [hv, if_pos rfl])
      refine ⟨s', e, ⟨x.ba, x.bb, fun y hy => x.ma y ?_, x.mb, fun y hy => ?_, x.nb⟩, ma⟩
      · show gi (s.xa.set a 1) y = 1
        rw [hv]
        split
        · rfl
        · exact hy
      · by_cases ey : y = a
        · subst ey
          exact .inr ⟨mm, hza, .inl rfl⟩
        · rcases x.na y hy with g | ⟨g1, g2, g3⟩
          · have g' : gi (s.xa.set a 1) y = 1 := g
            rw [hv, if_neg ey] at g'
            exact .inl g'
          · refine .inr ⟨g1, g2, ?_⟩
            rcases g3 with g3 | g3
            · cases g3
            · exact .inr g3
theorem reachAll_out (hm : ∀ a b, b ∈ near a → b < m) (hZn : ∀ a, Z a → a < n) (hZ : ∀ a b, b ∈ near a → Z a → 0 ≤ gi wi b ∧ Z (gi wi b).toNat) (hfree : ∀ a, a < n → gi of a < 0 → Z a) (f : Nat) (hfm : m < f) :
    ∀ (l : List Nat) (s : RSt), (∀ a ∈ l, a < n) → Bits s.xa n → Bits s.bs m →
      ∃ s', reachAll near wi of f l s = some s' ∧ Ext near n m wi Z (fun a => gi of a < 0) s s' ∧ (∀ a ∈ l, gi of a < 0 → gi s'.xa a = 1) ∧ ((∀ a ∈ l, 0 ≤ gi of a) → s' = s) := by
  intro l
  induction l with
  | nil => intro s _ h1 h2; exact ⟨s, rfl, .refl h1 h2, (fun a h => by cases h), fun _ => rfl⟩
  | cons a l ih =>
    intro s hl h1 h2
    have ha := hl a (by simp)
    have hl' : ∀ c ∈ l, c < n := fun c hc => hl c (by simp [hc])
    unfold reachAll
    by_cases hu : gi of a < 0
    · rw [if_pos hu]
      have hz : zeros s.bs m ≤ m := by
        have := List.length_filter_le (fun x => decide (gi s.bs x = 0)) (List.range m)
        rw [List.length_range] at this
        exact this
      obtain ⟨s1, e1, x1, m1⟩ := reachF_out hm hZn hZ f a s (hfree a ha hu) h1 h2 (by omega)
      rw [e1]
      obtain ⟨s2, e2, x2, m2, _⟩ := ih s1 hl' x1.ba x1.bb
      refine ⟨s2, e2, (x1.mono (fun x hx => by rw [hx]; exact hu)).trans x2, fun c hc hcu => ?_, fun h => by have := h a (by simp); omega⟩
      rcases List.mem_cons.1 hc with rfl | hc
      · exact x2.ma c m1
      · exact m2 c hc hcu
    · rw [if_neg hu]
      obtain ⟨s2, e2, x2, m2, m3⟩ := ih s hl' h1 h2
      refine ⟨s2, e2, x2, fun c hc hcu => ?_, fun h => m3 fun c hc => h c (by simp [hc])⟩
      rcases List.mem_cons.1 hc with rfl | hc
      · exact absurd hcu hu
      · exact m2 c hc hcu
end
/-- What 'reached' answers. -/
structure ReachOut (E : Es) (n m : Nat) (of wi xa bs : List Int) : Prop where
  ba : Bits xa n
  bb : Bits bs m
  free : ∀ a, a < n → gi of a < 0 → gi xa a = 1
  fwd : ∀ p ∈ E, gi xa p.1 = 1 → gi bs p.2 = 1
  bk : ∀ b, gi bs b = 1 → 0 ≤ gi wi b ∧ gi xa (gi wi b).toNat = 1 ∧ ∃ x, gi xa x = 1 ∧ (x, b) ∈ E
  src : ∀ a, gi xa a = 1 → gi of a < 0 ∨ ∃ b, gi bs b = 1 ∧ gi wi b = (a : Int)
  none : (∀ a, a < n → 0 ≤ gi of a) → ∀ x, gi xa x ≠ 1
theorem reach_out {E : Es} {near : Nat → List Nat} {n m : Nat} {s : PSt} (hb : ∀ a b, b ∈ near a ↔ (a, b) ∈ E) (hE : ∀ p ∈ E, p.1 < n ∧ p.2 < m) (h : SolveOut E n m s) :
    ∃ r, reachAll near s.wi s.of (m + 1) (List.range n) ⟨List.replicate n 0, List.replicate m 0⟩ = some r ∧ ReachOut E n m s.of s.wi r.xa r.bs := by
  obtain ⟨r, e, x, m1, m2⟩ := reachAll_out (near := near) (n := n) (m := m) (of := s.of) (wi := s.wi) (Z := fun a => a < n ∧ 0 ≤ gi s.di a)
    (fun a b h => (hE _ ((hb a b).1 h)).2) (fun a h => h.1)
    (fun a b hab hz => by
      obtain ⟨h1, h2⟩ := h.clo _ ((hb a b).1 hab) hz.2
      exact ⟨h1, (h.pairs.bwd b (hE _ ((hb a b).1 hab)).2 h1).1, h2⟩)
    (fun a ha hu => ⟨ha, h.free a ha hu⟩) (m + 1) (by omega) (List.range n) ⟨List.replicate n 0, List.replicate m 0⟩ (fun a h => by simpa using h) (bits_zero n) (bits_zero m)
  have z : ∀ (k x : Nat), gi (List.replicate k 0) x ≠ 1 := fun k x => by
    unfold gi
    rw [List.getD_eq_getElem?_getD, List.getElem?_replicate]
    split
    · simp
    · simp
  have na : ∀ x', gi r.xa x' = 1 → _ := fun x' hx => (x.na x' hx).resolve_left (z n x')
  have nb : ∀ b, gi r.bs b = 1 → _ := fun b hx => (x.nb b hx).resolve_left (z m b)
  refine ⟨r, e, x.ba, x.bb, fun a ha hu => m1 a (by simpa using ha) hu, fun p hp h1 => (na p.1 h1).1 p.2 ((hb _ _).2 hp), fun b h1 => ?_, fun a h1 => (na a h1).2.2, fun h1 x' hx => ?_⟩
  · obtain ⟨h2, h3, y, h4, h5⟩ := nb b h1
    exact ⟨h2, h3, y, h4, (hb _ _).1 h5⟩
  · have := m2 fun a ha => h1 a (by simpa using ha)
    subst this
    exact z n x' hx
/-- Where a row has a number. -/
def placesN (l : List Int) (v : Int) : List Nat := (List.range l.length).filter (fun x => decide (gi l x = v))
theorem reach_count {E : Es} {n m : Nat} {s : PSt} {xa bs : List Int} (h : SolveOut E n m s) (hE : ∀ p ∈ E, p.1 < n ∧ p.2 < m) (hr : ReachOut E n m s.of s.wi xa bs) :
    (placesN xa 1).length = (n - matched n (gi s.of)) + (placesN bs 1).length ∧ (placesN xa 0).length + (placesN bs 1).length = matched n (gi s.of) := by
  have hm : matched n (gi s.of) ≤ n := by
    have := List.length_filter_le (fun a => decide (0 ≤ gi s.of a)) (List.range n)
    rw [List.length_range] at this
    exact this
  have hU := len_parts (fun a => decide (0 ≤ gi s.of a)) (List.range n)
  rw [List.length_range] at hU
  have hS := len_parts (fun a => decide (0 ≤ gi s.of a)) (placesN xa 1)
  have e1 : (placesN xa 1).filter (fun a => !decide (0 ≤ gi s.of a)) = (List.range n).filter (fun a => !decide (0 ≤ gi s.of a)) := by
    unfold placesN
    rw [hr.ba.1, List.filter_filter]
    refine List.filter_congr fun a ha => ?_
    have hn : a < n := by simpa using ha
    by_cases hu : 0 ≤ gi s.of a
    · simp [hu]
    · simp [hu, hr.free a hn (by omega)]
  have mem1 : ∀ x, x ∈ placesN xa 1 ↔ gi xa x = 1 := fun x => by
    unfold placesN
    rw [hr.ba.1, List.mem_filter]
    simp only [List.mem_range, decide_eq_true_eq]
    exact ⟨fun h => h.2, fun h => ⟨hr.ba.one h, h⟩⟩
  have memb : ∀ x, x ∈ placesN bs 1 ↔ gi bs x = 1 := fun x => by
    unfold placesN
    rw [hr.bb.1, List.mem_filter]
    simp only [List.mem_range, decide_eq_true_eq]
    exact ⟨fun h => h.2, fun h => ⟨hr.bb.one h, h⟩⟩
  have nd1 : (placesN xa 1).Nodup := List.nodup_range.sublist List.filter_sublist
  have ndb : (placesN bs 1).Nodup := List.nodup_range.sublist List.filter_sublist
  have l1 : ((placesN xa 1).filter (fun a => decide (0 ≤ gi s.of a))).length ≤ (placesN bs 1).length := by
    rw [← List.length_map (f := fun a => (gi s.of a).toNat)]
    refine nodup_sub_len (nodup_map_on _ (nd1.sublist List.filter_sublist) fun x hx y hy e => ?_) fun b hb => ?_
    · obtain ⟨h1, h2⟩ := List.mem_filter.1 hx
      obtain ⟨h3, h4⟩ := List.mem_filter.1 hy
      have g1 := (h.pairs.fwd x (hr.ba.one ((mem1 x).1 h1)) (by simpa using h2)).2
      have g2 := (h.pairs.fwd y (hr.ba.one ((mem1 y).1 h3)) (by simpa using h4)).2
      rw [e] at g1
      omega
    · obtain ⟨a, ha, rfl⟩ := List.mem_map.1 hb
      obtain ⟨h1, h2⟩ := List.mem_filter.1 ha
      have h2' : 0 ≤ gi s.of a := by simpa using h2
      rcases hr.src a ((mem1 a).1 h1) with h3 | ⟨b, h3, h4⟩
      · omega
      · have g := (h.pairs.bwd b (hr.bb.one h3) (by omega)).2
        rw [h4, Int.toNat_natCast] at g
        rw [g, Int.toNat_natCast]
        exact (memb b).2 h3
  have l2 : (placesN bs 1).length ≤ ((placesN xa 1).filter (fun a => decide (0 ≤ gi s.of a))).length := by
    rw [← List.length_map (f := fun b => (gi s.wi b).toNat)]
    refine nodup_sub_len (nodup_map_on _ ndb fun x hx y hy e => ?_) fun a ha => ?_
    · have h1 := (memb x).1 hx
      have h2 := (memb y).1 hy
      have g1 := (h.pairs.bwd x (hr.bb.one h1) (hr.bk x h1).1).2
      have g2 := (h.pairs.bwd y (hr.bb.one h2) (hr.bk y h2).1).2
      rw [e] at g1
      omega
    · obtain ⟨b, hb, rfl⟩ := List.mem_map.1 ha
      have h1 := (memb b).1 hb
      obtain ⟨h2, h3, _⟩ := hr.bk b h1
      have g := (h.pairs.bwd b (hr.bb.one h1) h2).2
      refine List.mem_filter.2 ⟨(mem1 _).2 h3, ?_⟩
      rw [decide_eq_true_eq, g]
      omega
  have h01 := len_parts (fun a => decide (gi xa a = 1)) (List.range n)
  rw [List.length_range] at h01
  have e0 : (List.range n).filter (fun a => !decide (gi xa a = 1)) = placesN xa 0 := by
    unfold placesN
    rw [hr.ba.1]
    refine List.filter_congr fun a ha => ?_
    rcases hr.ba.2 a (by simpa using ha) with e | e <;> simp [e]
  have e2 : (List.range n).filter (fun a => decide (gi xa a = 1)) = placesN xa 1 := by unfold placesN; rw [hr.ba.1]
  rw [e0, e2] at h01
  rw [e1] at hS
  have hM : matched n (gi s.of) = ((List.range n).filter (fun a => decide (0 ≤ gi s.of a))).length := rfl
  omega
end Go.Proofs.Ytmekcpbcgelliaa
