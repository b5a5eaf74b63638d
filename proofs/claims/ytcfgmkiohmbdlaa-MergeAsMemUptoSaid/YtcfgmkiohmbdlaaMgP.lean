/- Merging versions, in plain words. -/
import Derived.Test.YtcfgmkiohmbdlaaMmPlain
import Derived.Test.YtcfgmkiohmbdlaaStbP
namespace Go.Proofs.Ytcfgmkiohmbdlaa
def ltE (x y : Ent) : Bool := decide (cmpE x y < 0)
theorem cmpE_refl (x : Ent) : cmpE x x = 0 := cmpE_same rfl rfl
theorem cmpE_eqv {x y z : Ent} (h : cmpE x y = 0) : cmpE x z = cmpE y z := by
  obtain ⟨h1, h2⟩ := cmpE_zero h
  unfold cmpE
  rw [h1, h2]
theorem cmpE_eqv' {x y z : Ent} (h : cmpE x y = 0) : cmpE z x = cmpE z y := by rw [cmpE_swap x z, cmpE_swap y z, cmpE_eqv h]
theorem swoE : Swo ltE := by
  refine ⟨fun x y h => ?_, fun x y z h1 h2 => ?_⟩
  · have := of_decide_eq_true h
    exact decide_eq_false (by rw [cmpE_swap x y]; omega)
  · have h1 := of_decide_eq_false h1
    have h2 := of_decide_eq_false h2
    refine decide_eq_false fun h3 => ?_
    rw [cmpE_swap x y] at h1
    rw [cmpE_swap y z] at h2
    rw [cmpE_swap x z] at h3
    by_cases e1 : cmpE x y = 0
    · rw [cmpE_eqv e1] at h3; omega
    · by_cases e2 : cmpE y z = 0
      · rw [← cmpE_eqv' e2] at h3; omega
      · have := cmpE_trans (show cmpE x y < 0 by omega) (show cmpE y z < 0 by omega)
        omega
theorem eqvE (x y : Ent) : eqvB ltE x y = decide (cmpE x y = 0) := by
  unfold eqvB ltE
  rw [cmpE_swap x y]
  by_cases h : cmpE x y = 0
  · rw [h]; rfl
  · by_cases h1 : cmpE x y < 0
    · rw [decide_eq_true h1, decide_eq_false h]; rfl
    · rw [decide_eq_false h1, decide_eq_false h, decide_eq_true (show - cmpE x y < 0 by omega)]; rfl
/-- The first of those alike. -/
def First (S : List Ent) (x : Ent) : Prop := (S.filter (eqvB ltE x)).head? = some x
/-- The versions merged: in order, of those with one key and number the first. -/
def MergeOf (S L : List Ent) : Prop := L.Pairwise (fun x y => cmpE x y < 0) ∧ ∀ x, x ∈ L ↔ First S x
theorem First.mem {S : List Ent} {x : Ent} (h : First S x) : x ∈ S := (List.mem_filter.1 (List.mem_of_head? h)).1
theorem rises_one {A B : List Ent} (ha : A.Pairwise fun x y => cmpE x y < 0) (hb : B.Pairwise fun x y => cmpE x y < 0) (h : ∀ x, x ∈ A ↔ x ∈ B) : A = B := by
  induction A generalizing B with
  | nil =>
    cases B with
    | nil => rfl
    | cons b B => exact absurd ((h b).2 (by simp)) (by simp)
  | cons a A ih =>
    cases B with
    | nil => exact absurd ((h a).1 (by simp)) (by simp)
    | cons b B =>
      obtain ⟨ha1, ha2⟩ := List.pairwise_cons.1 ha
      obtain ⟨hb1, hb2⟩ := List.pairwise_cons.1 hb
      have hab : a = b := by
        rcases List.mem_cons.1 ((h a).1 (by simp)) with e | e
        · exact e
        · rcases List.mem_cons.1 ((h b).2 (by simp)) with e' | e'
          · exact e'.symm
          · have h1 := hb1 a e
            have h2 := ha1 b e'
            rw [cmpE_swap a b] at h1; omega
      subst hab
      congr 1
      refine ih ha2 hb2 fun x => ?_
      have hne : ∀ y, cmpE a y < 0 → y ≠ a := fun y hy e => by rw [e, cmpE_refl] at hy; omega
      constructor
      · intro hx
        rcases List.mem_cons.1 ((h x).1 (by simp [hx])) with e | e
        · exact absurd e (hne x (ha1 x hx))
        · exact e
      · intro hx
        rcases List.mem_cons.1 ((h x).2 (by simp [hx])) with e | e
        · exact absurd e (hne x (hb1 x hx))
        · exact e
theorem MergeOf.one {S A B : List Ent} (h : MergeOf S A) (h2 : MergeOf S B) : A = B := rises_one h.1 h2.1 fun x => (h.2 x).trans (h2.2 x).symm
/-- Those that differ from the one ahead. -/
def ddp : Ent → List Ent → List Ent
  | _, [] => []
  | p, x :: l => if cmpE x p = 0 then ddp x l else x :: ddp x l
def dd : List Ent → List Ent
  | [] => []
  | x :: l => x :: ddp x l
theorem first_cons {S : List Ent} {x y : Ent} : First (y :: S) x ↔ (y = x) ∨ (cmpE x y ≠ 0 ∧ First S x) := by
  unfold First
  rw [List.filter_cons]
  by_cases h : eqvB ltE x y = true
  · have h0 : cmpE x y = 0 := by rw [eqvE] at h; exact of_decide_eq_true h
    rw [if_pos h, List.head?_cons, Option.some.injEq]
    constructor
    · exact .inl
    · rintro (e | ⟨e, _⟩)
      · exact e
      · exact absurd h0 e
  · have h0 : cmpE x y ≠ 0 := by
      intro e; rw [eqvE, decide_eq_true e] at h; exact h rfl
    rw [if_neg h]
    constructor
    · intro hf; exact .inr ⟨h0, hf⟩
    · rintro (e | ⟨_, hf⟩)
      · subst e; exact absurd (cmpE_refl _) h0
      · exact hf
theorem ddp_mem {S : List Ent} : ∀ {p : Ent}, Srt ltE (p :: S) → ∀ x, (x ∈ ddp p S ↔ cmpE p x ≠ 0 ∧ First S x) := by
  induction S with
  | nil => intro p _ x; simp [ddp, First]
  | cons y S ih =>
    intro p hs x
    obtain ⟨hs1, hs2⟩ := List.pairwise_cons.1 hs
    have ihx := ih hs2 x
    rw [ddp, first_cons]
    by_cases h0 : cmpE y p = 0
    · rw [if_pos h0, ihx]
      have hpy : cmpE p x = cmpE y x := (cmpE_eqv h0).symm
      rw [hpy]
      have hxy : cmpE x y ≠ 0 ↔ cmpE y x ≠ 0 := by rw [cmpE_swap y x]; omega
      constructor
      · rintro ⟨h1, h2⟩; exact ⟨h1, .inr ⟨hxy.2 h1, h2⟩⟩
      · rintro ⟨h1, h2 | ⟨_, h2⟩⟩
        · subst h2; exact absurd (cmpE_refl _) h1
        · exact ⟨h1, h2⟩
    · rw [if_neg h0, List.mem_cons, ihx]
      have hxy : cmpE x y ≠ 0 ↔ cmpE y x ≠ 0 := by rw [cmpE_swap y x]; omega
      constructor
      · rintro (e | ⟨h1, h2⟩)
        · subst e
          refine ⟨fun e => h0 (by rw [cmpE_swap p x]; omega), .inl rfl⟩
        · refine ⟨fun e => ?_, .inr ⟨hxy.2 h1, h2⟩⟩
          have hp := of_decide_eq_false (hs1 y (by simp))
          have hx := of_decide_eq_false ((List.pairwise_cons.1 hs2).1 x h2.mem)
          rw [← cmpE_eqv' (z := y) e] at h1
          have h3 : cmpE x y = cmpE p y := (cmpE_eqv e).symm
          rw [h3] at hx
          have h4 := cmpE_swap y p
          omega
      · rintro ⟨h1, e | ⟨h2, h3⟩⟩
        · exact .inl e.symm
        · exact .inr ⟨hxy.1 h2, h3⟩
theorem ddp_sub (p : Ent) (S : List Ent) : (ddp p S).Sublist S := by
  induction S generalizing p with
  | nil => exact List.Sublist.refl _
  | cons y S ih =>
    rw [ddp]; split
    · exact (ih y).cons y
    · exact (ih y).cons_cons y
theorem ddp_rise {S : List Ent} : ∀ {p : Ent}, Srt ltE (p :: S) → (p :: ddp p S).Pairwise (fun x y => cmpE x y < 0) := by
  induction S with
  | nil => intro p _; simp [ddp]
  | cons y S ih =>
    intro p hs
    obtain ⟨hs1, hs2⟩ := List.pairwise_cons.1 hs
    have ihy := ih hs2
    obtain ⟨iy1, iy2⟩ := List.pairwise_cons.1 ihy
    have hp := of_decide_eq_false (hs1 y (by simp))
    rw [ddp]
    by_cases h0 : cmpE y p = 0
    · rw [if_pos h0]
      exact List.pairwise_cons.2 ⟨fun x hx => by rw [← cmpE_eqv h0]; exact iy1 x hx, iy2⟩
    · rw [if_neg h0]
      have hpy : cmpE p y < 0 := by rw [cmpE_swap y p]; rw [cmpE_swap p y] at hp h0; have := cmpE_swap y p; omega
      exact List.pairwise_cons.2 ⟨fun x hx => by
        rcases List.mem_cons.1 hx with rfl | hx
        · exact hpy
        · exact cmpE_trans hpy (iy1 x hx), ihy⟩
theorem dd_merge {S S' : List Ent} (hs : Srt ltE S') (hb : Stab ltE S S') : MergeOf S (dd S') := by
  have hf : ∀ x, First S x ↔ First S' x := fun x => by unfold First; rw [hb.same x]
  cases S' with
  | nil => exact ⟨List.Pairwise.nil, fun x => by rw [hf]; simp [dd, First]⟩
  | cons p S' =>
    refine ⟨ddp_rise hs, fun x => ?_⟩
    rw [hf, dd, List.mem_cons, first_cons, ddp_mem hs]
    have hxy : cmpE x p ≠ 0 ↔ cmpE p x ≠ 0 := by rw [cmpE_swap p x]; omega
    constructor
    · rintro (e | ⟨h1, h2⟩)
      · exact .inl e.symm
      · exact .inr ⟨hxy.2 h1, h2⟩
    · rintro (e | ⟨h1, h2⟩)
      · exact .inl e.symm
      · exact .inr ⟨hxy.1 h1, h2⟩
end Go.Proofs.Ytcfgmkiohmbdlaa
