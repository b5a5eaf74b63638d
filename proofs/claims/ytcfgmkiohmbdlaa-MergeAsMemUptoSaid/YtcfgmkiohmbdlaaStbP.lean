/- Stable sorting by merging, in plain words: over any strict weak order. -/
import Derived.Test.YtcfgmkiohmbdlaaMem
namespace Go.Proofs.Ytcfgmkiohmbdlaa
section
variable {α : Type}
/-- A strict weak order. -/
structure Swo (lt : α → α → Bool) : Prop where
  asym : ∀ x y, lt x y = true → lt y x = false
  ntrans : ∀ x y z, lt y x = false → lt z y = false → lt z x = false
variable {lt : α → α → Bool}
def eqvB (lt : α → α → Bool) (x y : α) : Bool := !lt x y && !lt y x
/-- In order. -/
def Srt (lt : α → α → Bool) (l : List α) : Prop := l.Pairwise fun x y => lt y x = false
/-- The same elements, those that are alike in their order. -/
structure Stab (lt : α → α → Bool) (S S' : List α) : Prop where
  perm : S'.Perm S
  same : ∀ x, S'.filter (eqvB lt x) = S.filter (eqvB lt x)
theorem Stab.refl (S : List α) : Stab lt S S := ⟨.refl _, fun _ => rfl⟩
theorem Stab.trans {A B C : List α} (h : Stab lt A B) (h2 : Stab lt B C) : Stab lt A C := ⟨h2.perm.trans h.perm, fun x => (h2.same x).trans (h.same x)⟩
theorem Stab.append {A A' B B' : List α} (h : Stab lt A A') (h2 : Stab lt B B') : Stab lt (A ++ B) (A' ++ B') :=
  ⟨h.perm.append h2.perm, fun x => by rw [List.filter_append, List.filter_append, h.same, h2.same]⟩
theorem Stab.mem {A A' : List α} (h : Stab lt A A') {x : α} : x ∈ A' ↔ x ∈ A := h.perm.mem_iff
theorem Stab.length {A A' : List α} (h : Stab lt A A') : A'.length = A.length := h.perm.length_eq
/-- Two parts exchanged, where all of the second stand ahead of all of the first. -/
theorem Stab.swap (hw : Swo lt) (U V : List α) (h : ∀ u ∈ U, ∀ v ∈ V, lt v u = true) : Stab lt (U ++ V) (V ++ U) := by
  refine ⟨List.perm_append_comm, fun x => ?_⟩
  rw [List.filter_append, List.filter_append]
  have key : U.filter (eqvB lt x) = [] ∨ V.filter (eqvB lt x) = [] := by
    apply Classical.byContradiction
    intro hn
    rw [not_or] at hn
    obtain ⟨u, hu⟩ := List.exists_mem_of_ne_nil _ hn.1
    obtain ⟨v, hv⟩ := List.exists_mem_of_ne_nil _ hn.2
    rw [List.mem_filter] at hu hv
    have h1 := h u hu.1 v hv.1
    have h2 := hu.2
    have h3 := hv.2
    simp only [eqvB, Bool.and_eq_true, Bool.not_eq_true'] at h2 h3
    have := hw.ntrans u x v h2.1 h3.2
    rw [this] at h1
    cases h1
  rcases key with e | e <;> rw [e] <;> simp
theorem srt_append {A B : List α} : Srt lt (A ++ B) ↔ Srt lt A ∧ Srt lt B ∧ ∀ a ∈ A, ∀ b ∈ B, lt b a = false := List.pairwise_append
theorem Srt.left {A B : List α} (h : Srt lt (A ++ B)) : Srt lt A := (srt_append.1 h).1
theorem Srt.right {A B : List α} (h : Srt lt (A ++ B)) : Srt lt B := (srt_append.1 h).2.1
/-- What comes of merging two rows in order. -/
def Merged (lt : α → α → Bool) (U V S : List α) : Prop := Srt lt S ∧ Stab lt (U ++ V) S
/-- Nothing to merge. -/
theorem merged_left (U : List α) (h : Srt lt U) : Merged lt U [] U := ⟨h, by simpa using Stab.refl U⟩
theorem merged_right (V : List α) (h : Srt lt V) : Merged lt [] V V := ⟨h, by simpa using Stab.refl V⟩
/-- One element ahead of a row. -/
theorem merged_one (hw : Swo lt) {u : α} {V1 V2 : List α} (hs : Srt lt (V1 ++ V2)) (h1 : ∀ v ∈ V1, lt v u = true) (h2 : ∀ v ∈ V2, lt v u = false) : Merged lt [u] (V1 ++ V2) (V1 ++ u :: V2) := by
  obtain ⟨s1, s2, s3⟩ := srt_append.1 hs
  refine ⟨srt_append.2 ⟨s1, List.pairwise_cons.2 ⟨h2, s2⟩, fun a ha b hb => ?_⟩, ?_⟩
  · rcases List.mem_cons.1 hb with rfl | hb
    · exact hw.asym _ _ (h1 a ha)
    · exact s3 a ha b hb
  · have h := (Stab.swap hw [u] V1 (fun x hx v hv => by rw [List.mem_singleton.1 hx]; exact h1 v hv)).append (Stab.refl V2)
    simpa using h
/-- One element behind a row. -/
theorem merged_last (hw : Swo lt) {v : α} {U1 U2 : List α} (hs : Srt lt (U1 ++ U2)) (h1 : ∀ u ∈ U1, lt v u = false) (h2 : ∀ u ∈ U2, lt v u = true) : Merged lt (U1 ++ U2) [v] (U1 ++ v :: U2) := by
  obtain ⟨s1, s2, s3⟩ := srt_append.1 hs
  refine ⟨srt_append.2 ⟨s1, List.pairwise_cons.2 ⟨fun u hu => hw.asym _ _ (h2 u hu), s2⟩, fun a ha b hb => ?_⟩, ?_⟩
  · rcases List.mem_cons.1 hb with rfl | hb
    · exact h1 a ha
    · exact s3 a ha b hb
  · have h := (Stab.refl (lt := lt) U1).append (Stab.swap hw U2 [v] (fun x hx y hy => by rw [List.mem_singleton.1 hy]; exact h2 x hx))
    simpa [List.append_assoc] using h
/-- The two rows cut, the middle parts exchanged, the halves merged. -/
theorem merged_cut (hw : Swo lt) {U1 U2 V1 V2 S1 S2 : List α} (hU : Srt lt (U1 ++ U2)) (hV : Srt lt (V1 ++ V2))
    (hx : ∀ u ∈ U1, ∀ v ∈ V2, lt v u = false) (hy : ∀ u ∈ U2, ∀ v ∈ V1, lt v u = true) (m1 : Merged lt U1 V1 S1) (m2 : Merged lt U2 V2 S2) : Merged lt (U1 ++ U2) (V1 ++ V2) (S1 ++ S2) := by
  obtain ⟨u1, u2, u3⟩ := srt_append.1 hU
  obtain ⟨v1, v2, v3⟩ := srt_append.1 hV
  refine ⟨srt_append.2 ⟨m1.1, m2.1, fun a ha b hb => ?_⟩, ?_⟩
  · have ha' := m1.2.mem.1 ha
    have hb' := m2.2.mem.1 hb
    rcases List.mem_append.1 ha' with ha' | ha' <;> rcases List.mem_append.1 hb' with hb' | hb'
    · exact u3 a ha' b hb'
    · exact hx a ha' b hb'
    · exact hw.asym _ _ (hy b hb' a ha')
    · exact v3 a ha' b hb'
  · have h1 : Stab lt (U1 ++ (U2 ++ V1) ++ V2) (U1 ++ (V1 ++ U2) ++ V2) := ((Stab.refl U1).append (Stab.swap hw U2 V1 hy)).append (Stab.refl V2)
    have h2 := m1.2.append m2.2
    have e1 : U1 ++ (U2 ++ V1) ++ V2 = U1 ++ U2 ++ (V1 ++ V2) := by simp
    have e2 : U1 ++ (V1 ++ U2) ++ V2 = U1 ++ V1 ++ (U2 ++ V2) := by simp
    rw [e1, e2] at h1
    exact h1.trans h2
/-- In order, by neighbours: what is asked of the ends. -/
theorem cross_le (hw : Swo lt) {U1 V2 : List α} (hU : Srt lt U1) (hV : Srt lt V2) (h : ∀ u v, U1.getLast? = some u → V2.head? = some v → lt v u = false) : ∀ u ∈ U1, ∀ v ∈ V2, lt v u = false := by
  intro u hu v hv
  obtain ⟨U, z, rfl⟩ : ∃ U z, U1 = U ++ [z] := by
    rcases List.eq_nil_or_concat U1 with rfl | ⟨U, z, rfl⟩
    · cases hu
    · exact ⟨U, z, by simp⟩
  cases V2 with
  | nil => cases hv
  | cons y V =>
    have hzy := h z y (by simp) rfl
    have hzv : lt v z = false := by
      rcases List.mem_cons.1 hv with rfl | hv
      · exact hzy
      · exact hw.ntrans z y v hzy ((List.pairwise_cons.1 hV).1 v hv)
    rcases List.mem_append.1 hu with hu | hu
    · exact hw.ntrans u z v ((srt_append.1 hU).2.2 u hu z (by simp)) hzv
    · rw [List.mem_singleton.1 hu]; exact hzv
theorem Swo.lt_le (hw : Swo lt) {x y z : α} (h1 : lt x y = true) (h2 : lt z y = false) : lt x z = true := by
  cases h : lt x z with
  | true => rfl
  | false =>
    have := hw.ntrans y z x h2 h
    rw [this] at h1; cases h1
theorem Swo.le_lt (hw : Swo lt) {x y z : α} (h1 : lt y x = false) (h2 : lt y z = true) : lt x z = true := by
  cases h : lt x z with
  | true => rfl
  | false =>
    have := hw.ntrans z x y h h1
    rw [this] at h2; cases h2
theorem cross_lt (hw : Swo lt) {U2 V1 : List α} (hU : Srt lt U2) (hV : Srt lt V1) (h : ∀ u v, U2.head? = some u → V1.getLast? = some v → lt v u = true) : ∀ u ∈ U2, ∀ v ∈ V1, lt v u = true := by
  intro u hu v hv
  obtain ⟨V, z, rfl⟩ : ∃ V z, V1 = V ++ [z] := by
    rcases List.eq_nil_or_concat V1 with rfl | ⟨V, z, rfl⟩
    · cases hv
    · exact ⟨V, z, by simp⟩
  cases U2 with
  | nil => cases hu
  | cons y U =>
    have hzy := h y z rfl (by simp)
    have hzu : lt z u = true := by
      rcases List.mem_cons.1 hu with rfl | hu
      · exact hzy
      · exact hw.lt_le hzy ((List.pairwise_cons.1 hU).1 u hu)
    rcases List.mem_append.1 hv with hv | hv
    · exact hw.le_lt ((srt_append.1 hV).2.2 v hv z (by simp)) hzu
    · rw [List.mem_singleton.1 hv]; exact hzu
/-- Neighbours exchanged. -/
theorem stab_two (hw : Swo lt) (A B : List α) (x y : α) (h : lt y x = true) : Stab lt (A ++ x :: y :: B) (A ++ y :: x :: B) := by
  have h1 := ((Stab.refl (lt := lt) A).append (Stab.swap hw [x] [y] (fun u hu v hv => by rw [List.mem_singleton.1 hu, List.mem_singleton.1 hv]; exact h))).append (Stab.refl B)
  simpa using h1
theorem srt_snoc {A : List α} {x : α} : Srt lt (A ++ [x]) ↔ Srt lt A ∧ ∀ a ∈ A, lt x a = false := by
  rw [srt_append]
  constructor
  · rintro ⟨h1, _, h3⟩; exact ⟨h1, fun a ha => h3 a ha x (by simp)⟩
  · rintro ⟨h1, h3⟩; exact ⟨h1, List.pairwise_singleton _ _, fun a ha b hb => by rw [List.mem_singleton.1 hb]; exact h3 a ha⟩
/-- Two stable orders of one list are one. -/
theorem stab_one (hw : Swo lt) : ∀ {S A B : List α}, Srt lt A → Srt lt B → Stab lt S A → Stab lt S B → A = B := by
  intro S A
  induction A generalizing S with
  | nil =>
    intro B _ _ h1 h2
    have := h2.length; have h3 := h1.length
    exact (List.eq_nil_of_length_eq_zero (by simp at h3; omega)).symm
  | cons a A ih =>
    intro B ha hb h1 h2
    cases B with
    | nil =>
      have := h2.length; have h3 := h1.length
      simp at this h3; omega
    | cons b B =>
      obtain ⟨ha1, ha2⟩ := List.pairwise_cons.1 ha
      obtain ⟨hb1, hb2⟩ := List.pairwise_cons.1 hb
      have hir : ∀ x, lt x x = false := fun x => by
        cases h : lt x x with
        | false => rfl
        | true => have := hw.asym x x h; rw [h] at this; cases this
      have hba : lt b a = false := by
        have hm : b ∈ a :: A := h1.mem.2 (h2.mem.1 (by simp))
        rcases List.mem_cons.1 hm with rfl | hm
        · exact hir _
        · exact ha1 b hm
      have hab : lt a b = false := by
        have hm : a ∈ b :: B := h2.mem.2 (h1.mem.1 (by simp))
        rcases List.mem_cons.1 hm with rfl | hm
        · exact hir _
        · exact hb1 a hm
      have hsm : (a :: A).filter (eqvB lt a) = (b :: B).filter (eqvB lt a) := (h1.same a).trans (h2.same a).symm
      rw [List.filter_cons_of_pos (by simp [eqvB, hir]), List.filter_cons_of_pos (by simp [eqvB, hab, hba])] at hsm
      injection hsm with e1 e2
      subst e1
      congr 1
      have hall : Stab lt A B := by
        have hp : (a :: B).Perm (a :: A) := h2.perm.trans h1.perm.symm
        refine ⟨hp.cons_inv, fun x => ?_⟩
        have h3 : (a :: B).filter (eqvB lt x) = (a :: A).filter (eqvB lt x) := (h2.same x).trans (h1.same x).symm
        rw [List.filter_cons, List.filter_cons] at h3
        split at h3
        · injection h3
        · exact h3
      exact ih ha2 hb2 (Stab.refl A) hall
end
end Go.Proofs.Ytcfgmkiohmbdlaa
