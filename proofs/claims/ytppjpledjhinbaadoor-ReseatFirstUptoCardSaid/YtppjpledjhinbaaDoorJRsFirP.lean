/- Those who are seated come together, whoever of them come first alone too (plain). -/
import Derived.Test.YtppjpledjhinbaaDoorJRsMore
namespace Go.Proofs.YtppjpledjhinbaaDoor
open Go.RowKit Go.Lib
def sitZ : MSit := ⟨⟨0, false, false⟩, seatZ⟩
/-- Those of the first i who are seated. -/
noncomputable def aheadR (l : List MRow) (rs : List MSit) (i : Nat) : List MSit := ((List.range i).filter (tkT l rs)).map fun j => rs.getD j sitZ
theorem aheadR_zero (l : List MRow) (rs : List MSit) : aheadR l rs 0 = [] := rfl
theorem getD_at {rs : List MSit} {i : Nat} (h : i < rs.length) : rs.getD i sitZ = rs[i] := by rw [List.getD_eq_getElem?_getD, List.getElem?_eq_getElem h]; rfl
theorem aheadR_next (l : List MRow) (rs : List MSit) {i : Nat} (hi : i < rs.length) : aheadR l rs (i + 1) = if tkT l rs i = true then aheadR l rs i ++ [rs[i]] else aheadR l rs i := by
  unfold aheadR
  rw [List.range_succ, List.filter_append, List.map_append]
  by_cases h : tkT l rs i = true
  · rw [if_pos h]; simp [h, List.getElem?_eq_getElem hi]
  · rw [if_neg h]; simp [h]
theorem aheadR_len (l : List MRow) (rs : List MSit) (i : Nat) : (aheadR l rs i).length ≤ i := by
  unfold aheadR
  rw [List.length_map]
  exact Nat.le_trans (List.length_filter_le _ _) (by simp)
theorem aheadR_mem {l : List MRow} {rs : List MSit} {i : Nat} (hi : i ≤ rs.length) {x : MSit} (h : x ∈ aheadR l rs i) : x ∈ rs := by
  unfold aheadR at h
  obtain ⟨j, hj, rfl⟩ := List.mem_map.1 h
  have := List.mem_range.1 (List.mem_filter.1 hj).1
  rw [getD_at (by omega)]
  exact List.getElem_mem _
/-- A sum over places is at most the sum over all. -/
theorem sm_part (N : Nat) (g : Nat → Int) (h0 : ∀ i, 0 ≤ g i) : ∀ (P : List Nat), P.Nodup → (∀ i ∈ P, i < N) → sm P.length (fun j => g (P.getD j 0)) ≤ sm N fun i => if i ∈ P then g i else 0 := by
  intro P
  induction P with
  | nil => intro _ _; exact sm_nonneg fun i _ => by simp
  | cons x t ih =>
    intro hn hN
    rw [List.nodup_cons] at hn
    rw [List.length_cons, sm_shift]
    have e := ih hn.2 (fun i hi => hN i (by simp [hi]))
    have e1 : (sm t.length fun j => g ((x :: t).getD (j + 1) 0)) = sm t.length fun j => g (t.getD j 0) := sm_congr fun j _ => by simp
    rw [e1]
    have e2 := sm_pick (n := N) x (hN x (by simp)) g
    have e3 : g ((x :: t).getD 0 0) = sm N fun i => if i = x then g i else 0 := by rw [e2]; rfl
    rw [e3]
    have e4 : (sm N fun i => if i ∈ x :: t then g i else 0) = (sm N fun i => if i = x then g i else 0) + sm N fun i => if i ∈ t then g i else 0 := by
      rw [← sm_add]
      refine sm_congr fun i _ => ?_
      by_cases h : i = x
      · subst h; simp [hn.1]
      · simp [h]
    rw [e4]
    omega
/-- Those who are seated can be seated together, however few of them come. -/
theorem places_most (l : List MRow) (rs : List MSit) (hn : rs.length < 100) {P : List Nat} (hp : P.Nodup) (hP : ∀ i ∈ P, i < rs.length ∧ tkT l rs i = true) : seatedM l (P.map fun j => rs.getD j sitZ) = P.length := by
  obtain ⟨σ, hσ⟩ := sits_as l rs
  have hPl : P.length ≤ rs.length := by
    have := List.Nodup.length_le_of_subset (l₂ := List.range rs.length) hp (fun i hi => List.mem_range.2 (hP i hi).1)
    simpa using this
  obtain ⟨Q, hQ⟩ : ∃ Q, (P.map fun j => rs.getD j sitZ) = Q := ⟨_, rfl⟩
  have hQl : Q.length = P.length := by rw [← hQ, List.length_map]
  have hat : ∀ j (h : j < P.length), ∃ h2 : P.getD j 0 < rs.length, Q[j]'(by omega) = rs[P.getD j 0] ∧ tkT l rs (P.getD j 0) = true := fun j h => by
    have e : P.getD j 0 = P[j] := by rw [List.getD_eq_getElem?_getD, List.getElem?_eq_getElem h]; rfl
    have hm := hP P[j] (List.getElem_mem h)
    refine ⟨by rw [e]; exact hm.1, ?_, by rw [e]; exact hm.2⟩
    subst hQ
    rw [List.getElem_map]
    simp only [e]
    exact getD_at hm.1
  rw [hQ]
  have hle : ∀ (f : Nat → Prop) [DecidablePred f], (sm P.length fun j => if f (P.getD j 0) then (1 : Int) else 0) ≤ sm rs.length fun i => if f i then 1 else 0 := fun f _ => by
    refine Int.le_trans (sm_part rs.length (fun i => if f i then (1 : Int) else 0) (fun i => by split <;> omega) P hp (fun i hi => (hP i hi).1)) (sm_le fun i _ => ?_)
    by_cases h : i ∈ P
    · rw [if_pos h]; exact Int.le_refl _
    · rw [if_neg h]; split <;> omega
  have hok : OkA (gP l Q) (gC l) Q.length (gM l) (fun j => σ (P.getD j 0)) := by
    rw [hQl]
    refine ⟨fun j hj hs => ?_, fun b hb => ?_, fun b hb => ?_⟩
    · obtain ⟨h2, e, _⟩ := hat j hj
      rw [(same_who (by omega) h2 (by rw [e]) _).1]
      exact hσ.ok.may _ h2 hs
    · exact Int.le_trans (hle (fun i => σ i = b)) (hσ.ok.room b hb)
    · refine Int.le_trans ?_ (hσ.ok.inf b hb)
      refine Int.le_trans (Int.le_of_eq (sm_congr fun j hj => ?_)) (hle (fun i => σ i = b ∧ (gP l rs i).inf = true))
      obtain ⟨h2, e, _⟩ := hat j hj
      rw [(same_who (by omega) h2 (by rw [e]) b).2]
  have h1 := ((most_all l Q (by omega)).2 _ hok).1
  have h2 := (seatedM_bound l Q (by omega)).2
  have h3 : seatedN Q.length (gM l) (fun j => σ (P.getD j 0)) = P.length := by
    unfold seatedN
    rw [hQl, sm_congr (h := fun _ => 1) (fun j hj => by
      obtain ⟨h2, _, h3⟩ := hat j hj
      exact if_pos ((hσ.tk _ h2).2 h3)), sm_const]
    omega
  omega
theorem ahead_most (l : List MRow) (rs : List MSit) (hn : rs.length < 100) {i : Nat} (hi : i ≤ rs.length) : seatedM l (aheadR l rs i) = (aheadR l rs i).length := by
  have := places_most l rs hn (P := (List.range i).filter (tkT l rs)) (List.Nodup.sublist List.filter_sublist List.nodup_range) (fun j hj => by
    obtain ⟨h1, h2⟩ := List.mem_filter.1 hj
    exact ⟨by have := List.mem_range.1 h1; omega, h2⟩)
  unfold aheadR
  rw [this, List.length_map]
theorem ahead_one (l : List MRow) (rs : List MSit) (hn : rs.length < 100) {i : Nat} (hi : i < rs.length) (ht : tkT l rs i = true) : seatedM l (aheadR l rs i ++ [rs[i]]) = (aheadR l rs i).length + 1 := by
  have h1 := aheadR_next l rs hi
  rw [if_pos ht] at h1
  rw [← h1, ahead_most l rs hn (by omega), h1]
  simp
end Go.Proofs.YtppjpledjhinbaaDoor
