/- Merging versions and tables in memory, in plain words. -/
import Derived.Test.YtcfgmkiohmbdlaaMgRP
import Derived.Test.YtcfgmkiohmbdlaaMmAddP
namespace Go.Proofs.Ytcfgmkiohmbdlaa
theorem insE_rise {l : List Ent} (x : Ent) (h : l.Pairwise fun x y => cmpE x y < 0) :
    (insE l x).Pairwise (fun x y => cmpE x y < 0) ∧ ∀ y, y ∈ insE l x ↔ y = clean x ∨ (y ∈ l ∧ cmpE y x ≠ 0) := by
  have hle : cutE l x ≤ l.length := by unfold cutE; exact (List.takeWhile_prefix _).length_le
  have htk : l.take (cutE l x) = l.takeWhile fun y => decide (cmpE y x < 0) := (List.prefix_iff_eq_take.1 (List.takeWhile_prefix _)).symm
  have hdr : l.drop (cutE l x) = l.dropWhile fun y => decide (cmpE y x < 0) := by
    have h1 := List.takeWhile_append_dropWhile (p := fun y => decide (cmpE y x < 0)) (l := l)
    have h2 := List.take_append_drop (cutE l x) l
    rw [htk] at h2
    exact List.append_cancel_left (h2.trans h1.symm)
  have hA : ∀ y ∈ l.take (cutE l x), cmpE y x < 0 := fun y hy => by
    rw [htk] at hy
    exact of_decide_eq_true (List.all_eq_true.1 (List.all_takeWhile (p := fun y => decide (cmpE y x < 0)) (l := l)) y hy)
  obtain ⟨A, hAe⟩ : ∃ A, l.take (cutE l x) = A := ⟨_, rfl⟩
  obtain ⟨D, hDe⟩ : ∃ D, l.drop (cutE l x) = D := ⟨_, rfl⟩
  have hl : l = A ++ D := by rw [← hAe, ← hDe, List.take_append_drop]
  have hge : ∀ y r, D = y :: r → ¬ cmpE y x < 0 := fun y r e => by
    have h3 := List.head?_dropWhile_not (fun y => decide (cmpE y x < 0)) l
    rw [← hdr, hDe, e] at h3
    simpa using h3
  rw [hAe] at hA
  rw [hl] at h
  obtain ⟨a1, a2, a3⟩ := List.pairwise_append.1 h
  have shape : ∃ R, insE l x = A ++ clean x :: R ∧ R.Pairwise (fun x y => cmpE x y < 0) ∧ (∀ y ∈ R, cmpE x y < 0) ∧ (∀ y, y ∈ D → y ∈ R ∨ cmpE y x = 0) ∧ (∀ y ∈ R, y ∈ D) := by
    unfold insE
    have hgi : l[cutE l x]? = D.head? := by
      rw [← hDe, List.head?_drop]
    rw [hgi]
    cases hD : D with
    | nil =>
      refine ⟨[], ?_, List.Pairwise.nil, by simp, by simp, by simp⟩
      show l.take (cutE l x) ++ clean x :: l.drop (cutE l x) = _
      rw [hAe, hDe, hD]
    | cons y r =>
      have h0 := hge y r hD
      rw [hD] at a2
      obtain ⟨b1, b2⟩ := List.pairwise_cons.1 a2
      show ∃ R, (if cmpE y x = 0 then _ else _) = _ ∧ _
      by_cases hy : cmpE y x = 0
      · rw [if_pos hy]
        have hd1 : l.drop (cutE l x + 1) = r := by
          rw [← List.drop_drop, hDe, hD]; rfl
        refine ⟨r, by rw [hAe, hd1], b2, fun z hz => ?_, fun z hz => ?_, fun z hz => by simp [hz]⟩
        · rw [← cmpE_eqv hy]; exact b1 z hz
        · rcases List.mem_cons.1 hz with rfl | hz
          · exact .inr hy
          · exact .inl hz
      · rw [if_neg hy]
        have hxy : cmpE x y < 0 := by rw [cmpE_swap y x]; omega
        refine ⟨y :: r, by rw [hAe, hDe, hD], a2, fun z hz => ?_, fun z hz => .inl hz, fun z hz => hz⟩
        rcases List.mem_cons.1 hz with rfl | hz
        · exact hxy
        · exact cmpE_trans hxy (b1 z hz)
  obtain ⟨R, e, r1, r2, r3, r4⟩ := shape
  rw [e]
  refine ⟨List.pairwise_append.2 ⟨a1, List.pairwise_cons.2 ⟨fun z hz => by rw [clean_cmpE]; exact r2 z hz, r1⟩, fun y hy z hz => ?_⟩, fun y => ?_⟩
  · rcases List.mem_cons.1 hz with rfl | hz
    · rw [cmpE_clean]; exact hA y hy
    · exact a3 y hy z (r4 z hz)
  · rw [hl, List.mem_append, List.mem_cons, List.mem_append]
    constructor
    · rintro (h1 | h1 | h1)
      · exact .inr ⟨.inl h1, by have := hA y h1; omega⟩
      · exact .inl h1
      · exact .inr ⟨.inr (r4 y h1), by have := r2 y h1; rw [cmpE_swap x y]; omega⟩
    · rintro (h1 | ⟨h1 | h1, h2⟩)
      · exact .inr (.inl h1)
      · exact .inl h1
      · rcases r3 y h1 with h3 | h3
        · exact .inr (.inr h3)
        · exact absurd h3 h2
theorem first_consM {T : List Ent} {x z : Ent} : First (x :: T) z ↔ z = x ∨ (First T z ∧ cmpE z x ≠ 0) := by
  unfold First
  rw [List.filter_cons, eqvE]
  by_cases h : cmpE z x = 0
  · rw [if_pos (decide_eq_true h)]
    simp only [List.head?_cons]
    constructor
    · intro e
      injection e with e
      exact .inl e.symm
    · rintro (e | ⟨_, e⟩)
      · rw [e]
      · exact absurd h e
  · rw [if_neg (by simpa using h)]
    constructor
    · exact fun e => .inr ⟨e, h⟩
    · rintro (e | ⟨e, _⟩)
      · subst e; exact absurd (cmpE_refl z) h
      · exact e
theorem map_clean_rise {l : List Ent} (h : l.Pairwise fun x y => cmpE x y < 0) : (l.map clean).Pairwise fun x y => cmpE x y < 0 := by
  rw [List.pairwise_map]
  exact h.imp fun h => by rw [clean_cmpE, cmpE_clean]; exact h
/-- What a table in memory holds that took the later ones first. -/
theorem mem_merge : ∀ S : List Ent, S.reverse.foldl insE [] = (mergeL S).map clean := by
  intro S
  induction S with
  | nil => rfl
  | cons x T ih =>
    rw [List.reverse_cons, List.foldl_append, ih]
    show insE ((mergeL T).map clean) x = _
    have hT := mergeL_of T
    have hS := mergeL_of (x :: T)
    obtain ⟨h1, h2⟩ := insE_rise x (map_clean_rise hT.1)
    refine rises_one h1 (map_clean_rise hS.1) fun y => ?_
    rw [h2]
    constructor
    · rintro (rfl | ⟨hy, hn⟩)
      · exact List.mem_map.2 ⟨x, (hS.2 x).2 (first_consM.2 (.inl rfl)), rfl⟩
      · obtain ⟨z, hz, rfl⟩ := List.mem_map.1 hy
        rw [clean_cmpE] at hn
        exact List.mem_map.2 ⟨z, (hS.2 z).2 (first_consM.2 (.inr ⟨(hT.2 z).1 hz, hn⟩)), rfl⟩
    · intro hy
      obtain ⟨z, hz, rfl⟩ := List.mem_map.1 hy
      rcases first_consM.1 ((hS.2 z).1 hz) with rfl | ⟨h3, h4⟩
      · exact .inl rfl
      · exact .inr ⟨List.mem_map.2 ⟨z, (hT.2 z).2 h3, rfl⟩, by rw [clean_cmpE]; exact h4⟩
/-- One more, from behind. -/
theorem rev_drop {l : List Ent} {i : Nat} (hi : i < l.length) (S : List Ent) : (l.drop i ++ S).reverse.foldl insE [] = insE ((l.drop (i + 1) ++ S).reverse.foldl insE []) l[i] := by
  rw [List.drop_eq_getElem_cons hi, List.cons_append, List.reverse_cons, List.foldl_append]
  rfl
theorem sizE_drop {l : List Ent} {i : Nat} (hi : i < l.length) : sizE (l.drop i) = l[i].key.size + l[i].val.size + sizE (l.drop (i + 1)) := by
  rw [List.drop_eq_getElem_cons hi, sizE_cons]
end Go.Proofs.Ytcfgmkiohmbdlaa
