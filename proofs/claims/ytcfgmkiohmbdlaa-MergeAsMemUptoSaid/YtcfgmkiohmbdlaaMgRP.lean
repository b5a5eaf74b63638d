/- Merging versions: the reference's insert, in plain words. -/
import Derived.Test.YtcfgmkiohmbdlaaMgP
namespace Go.Proofs.Ytcfgmkiohmbdlaa
theorem eqv_sym (x y : Ent) : eqvB ltE x y = eqvB ltE y x := by
  rw [eqvE, eqvE]
  have := cmpE_swap x y
  by_cases h : cmpE x y = 0
  · rw [decide_eq_true h, decide_eq_true (show cmpE y x = 0 by omega)]
  · rw [decide_eq_false h, decide_eq_false (show ¬ cmpE y x = 0 by omega)]
theorem eqv_cong {x y : Ent} (h : cmpE x y = 0) : eqvB ltE x = eqvB ltE y := by
  funext z
  rw [eqvE, eqvE, cmpE_eqv h]
theorem first_alike {S : List Ent} {z x : Ent} (hz : z ∈ S) (h : cmpE x z = 0) : ∃ y, First S y ∧ cmpE x y = 0 := by
  have hm : z ∈ S.filter (eqvB ltE x) := List.mem_filter.2 ⟨hz, by rw [eqvE]; exact decide_eq_true h⟩
  cases hf : S.filter (eqvB ltE x) with
  | nil => rw [hf] at hm; cases hm
  | cons y t =>
    have hy : y ∈ S.filter (eqvB ltE x) := by rw [hf]; simp
    have hxy : cmpE x y = 0 := by
      have := (List.mem_filter.1 hy).2
      rw [eqvE] at this
      exact of_decide_eq_true this
    refine ⟨y, ?_, hxy⟩
    unfold First
    rw [← eqv_cong hxy, hf]; rfl
theorem first_snoc {S : List Ent} {x y : Ent} : First (S ++ [x]) y ↔ First S y ∨ (y = x ∧ ∀ z ∈ S, cmpE x z ≠ 0) := by
  unfold First
  rw [List.filter_append, List.head?_append]
  constructor
  · intro h
    cases hf : (S.filter (eqvB ltE y)).head? with
    | some z => rw [hf] at h; left; exact h
    | none =>
      rw [hf] at h
      right
      have he : S.filter (eqvB ltE y) = [] := by simpa using hf
      have hx : y = x := by
        have hm := List.mem_of_head? (show ([x].filter (eqvB ltE y)).head? = some y by simpa using h)
        exact List.mem_singleton.1 (List.mem_filter.1 hm).1
      subst hx
      refine ⟨rfl, fun z hz e => ?_⟩
      have : z ∈ S.filter (eqvB ltE y) := List.mem_filter.2 ⟨hz, by rw [eqvE]; exact decide_eq_true e⟩
      rw [he] at this; cases this
  · rintro (h | ⟨rfl, h⟩)
    · rw [h]; rfl
    · have he : S.filter (eqvB ltE y) = [] := List.filter_eq_nil_iff.2 fun z hz hq => by
        rw [eqvE] at hq
        exact h z hz (of_decide_eq_true hq)
      rw [he]
      have : eqvB ltE y y = true := by rw [eqvE]; exact decide_eq_true (cmpE_refl y)
      simp [this]
theorem ins_same {S L : List Ent} {x y : Ent} (h : MergeOf S L) (hy : y ∈ L) (he : cmpE y x = 0) : MergeOf (S ++ [x]) L := by
  refine ⟨h.1, fun z => ?_⟩
  rw [first_snoc, h.2]
  constructor
  · exact .inl
  · rintro (hz | ⟨_, hz⟩)
    · exact hz
    · have := hz y ((h.2 y).1 hy).mem
      rw [cmpE_swap y x] at this; omega
theorem ins_new_at {S L : List Ent} {x : Ent} {p : Nat} (h : MergeOf S L) (hp : p ≤ L.length) (h1 : ∀ y ∈ L.take p, cmpE y x < 0) (h2 : ∀ y ∈ L.drop p, cmpE x y < 0) : MergeOf (S ++ [x]) (L.take p ++ x :: L.drop p) := by
  have hL : L.take p ++ L.drop p = L := List.take_append_drop p L
  have hpw := h.1
  rw [← hL] at hpw
  obtain ⟨a1, a2, a3⟩ := List.pairwise_append.1 hpw
  refine ⟨List.pairwise_append.2 ⟨a1, List.pairwise_cons.2 ⟨h2, a2⟩, fun a ha b hb => ?_⟩, fun z => ?_⟩
  · rcases List.mem_cons.1 hb with rfl | hb
    · exact h1 a ha
    · exact a3 a ha b hb
  · rw [first_snoc, ← h.2]
    have hno : ∀ y ∈ S, cmpE x y ≠ 0 := fun y hy e => by
      obtain ⟨q, hq1, hq2⟩ := first_alike hy e
      have hq := (h.2 q).2 hq1
      rw [← hL] at hq
      rcases List.mem_append.1 hq with hq | hq
      · have := h1 q hq; rw [cmpE_swap x q] at this; omega
      · have := h2 q hq; omega
    conv => rhs; rw [← hL]
    simp only [List.mem_append, List.mem_cons]
    constructor
    · rintro (h | h | h)
      · exact .inl (.inl h)
      · exact .inr ⟨h, hno⟩
      · exact .inl (.inr h)
    · rintro ((h | h) | ⟨h, _⟩)
      · exact .inl h
      · exact .inr (.inr h)
      · exact .inr (.inl h)
/-- Those ahead of the place stand ahead. -/
theorem ahead_of {L : List Ent} {x : Ent} {p : Nat} (h : L.Pairwise fun x y => cmpE x y < 0) (hp : p ≤ L.length) (h0 : ∀ hq : 0 < p, cmpE (L[p - 1]'(by omega)) x < 0) : ∀ y ∈ L.take p, cmpE y x < 0 := by
  intro y hy
  obtain ⟨i, hi, rfl⟩ := List.mem_iff_getElem.1 hy
  have hi' : i < p ∧ i < L.length := by rw [List.length_take] at hi; omega
  rw [List.getElem_take]
  have hl := h0 (by omega)
  by_cases he : i = p - 1
  · subst he; exact hl
  · exact cmpE_trans (List.pairwise_iff_getElem.1 h i (p - 1) hi'.2 (by omega) (by omega)) hl
theorem mergeOf_nil : MergeOf [] [] := ⟨List.Pairwise.nil, fun x => by simp [First]⟩
def cutM (L : List Ent) (x : Ent) : Nat := (L.takeWhile fun y => decide (cmpE y x < 0)).length
theorem cutM_le (L : List Ent) (x : Ent) : cutM L x ≤ L.length := by unfold cutM; exact (List.takeWhile_prefix _).length_le
theorem cutM_take (L : List Ent) (x : Ent) : L.take (cutM L x) = L.takeWhile fun y => decide (cmpE y x < 0) := by
  unfold cutM
  exact (List.prefix_iff_eq_take.1 (List.takeWhile_prefix _)).symm
theorem cutM_drop (L : List Ent) (x : Ent) : L.drop (cutM L x) = L.dropWhile fun y => decide (cmpE y x < 0) := by
  have h := List.takeWhile_append_dropWhile (p := fun y => decide (cmpE y x < 0)) (l := L)
  have h2 := List.take_append_drop (cutM L x) L
  rw [cutM_take] at h2
  exact List.append_cancel_left (h2.trans h.symm)
/-- A version laid in its place, if there is none with its key and number. -/
def insM (L : List Ent) (x : Ent) : List Ent :=
  match L.drop (cutM L x) with
  | [] => L.take (cutM L x) ++ [x]
  | y :: r => if cmpE y x = 0 then L else L.take (cutM L x) ++ x :: y :: r
/-- The merged list, as a function. -/
def mergeL (S : List Ent) : List Ent := S.foldl insM []
theorem insM_of {S L : List Ent} (x : Ent) (h : MergeOf S L) : MergeOf (S ++ [x]) (insM L x) := by
  have h1 : ∀ y ∈ L.take (cutM L x), cmpE y x < 0 := fun y hy => by
    rw [cutM_take] at hy
    exact of_decide_eq_true (List.all_eq_true.1 (List.all_takeWhile (p := fun y => decide (cmpE y x < 0)) (l := L)) y hy)
  unfold insM
  cases hd : L.drop (cutM L x) with
  | nil =>
    have := ins_new_at h (cutM_le L x) h1 (by rw [hd]; intro y hy; cases hy)
    rw [hd] at this
    exact this
  | cons y r =>
    have hy : y ∈ L := List.mem_of_mem_drop (i := cutM L x) (by rw [hd]; simp)
    have hge : ¬ cmpE y x < 0 := by
      have h2 := cutM_drop L x
      rw [hd] at h2
      have h3 := List.head?_dropWhile_not (fun y => decide (cmpE y x < 0)) L
      rw [← h2] at h3
      simpa using h3
    show MergeOf (S ++ [x]) (if cmpE y x = 0 then L else L.take (cutM L x) ++ x :: y :: r)
    by_cases h0 : cmpE y x = 0
    · rw [if_pos h0]; exact ins_same h hy h0
    · rw [if_neg h0]
      have hxy : cmpE x y < 0 := by rw [cmpE_swap y x]; omega
      have hpw := h.1
      rw [← List.take_append_drop (cutM L x) L, hd] at hpw
      obtain ⟨_, a2, _⟩ := List.pairwise_append.1 hpw
      obtain ⟨a3, _⟩ := List.pairwise_cons.1 a2
      have := ins_new_at h (cutM_le L x) h1 (by
        rw [hd]; intro z hz
        rcases List.mem_cons.1 hz with rfl | hz
        · exact hxy
        · exact cmpE_trans hxy (a3 z hz))
      rw [hd] at this
      exact this
theorem foldl_of {L : List Ent} : ∀ (T : List Ent) {S : List Ent}, MergeOf S L → MergeOf (S ++ T) (T.foldl insM L) := by
  intro T
  induction T generalizing L with
  | nil => intro S h; simpa using h
  | cons x T ih =>
    intro S h
    have := ih (insM_of x h)
    simpa using this
theorem mergeL_of (S : List Ent) : MergeOf S (mergeL S) := by simpa [mergeL] using foldl_of S mergeOf_nil
theorem mergeL_sub {S : List Ent} {x : Ent} (h : x ∈ mergeL S) : x ∈ S := (((mergeL_of S).2 x).1 h).mem
theorem insM_len (L : List Ent) (x : Ent) : (insM L x).length ≤ L.length + 1 := by
  have hl := congrArg List.length (List.take_append_drop (cutM L x) L)
  rw [List.length_append] at hl
  unfold insM
  cases hd : L.drop (cutM L x) with
  | nil => rw [hd] at hl; simp at hl ⊢; omega
  | cons y r =>
    rw [hd] at hl
    show (if cmpE y x = 0 then L else L.take (cutM L x) ++ x :: y :: r).length ≤ _
    split
    · omega
    · rw [List.length_append]; simp only [List.length_cons] at hl ⊢; omega
theorem foldl_len : ∀ (T L : List Ent), (T.foldl insM L).length ≤ L.length + T.length := by
  intro T
  induction T with
  | nil => intro L; simp
  | cons x T ih => intro L; have := ih (insM L x); have := insM_len L x; simp only [List.foldl_cons, List.length_cons]; omega
theorem mergeL_len (S : List Ent) : (mergeL S).length ≤ S.length := by have := foldl_len S []; simpa [mergeL] using this
theorem MergeOf.is {S L : List Ent} (h : MergeOf S L) : L = mergeL S := h.one (mergeL_of S)
end Go.Proofs.Ytcfgmkiohmbdlaa
