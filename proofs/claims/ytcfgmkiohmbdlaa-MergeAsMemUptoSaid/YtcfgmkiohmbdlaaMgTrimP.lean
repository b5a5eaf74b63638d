/- Merging versions: what is trimmed of a key's versions, in plain words. -/
import Derived.Test.YtcfgmkiohmbdlaaMgGrpP
namespace Go.Proofs.Ytcfgmkiohmbdlaa
/-- What stays when the dead ones at the end go. -/
def cutD : List Ent → List Ent
  | [] => []
  | x :: K => if cutD K = [] then (if x.dead then [] else [x]) else x :: cutD K
theorem cutD_dead {x : Ent} (h : x.dead = true) : ∀ T : List Ent, cutD (T ++ [x]) = cutD T := by
  intro T
  induction T with
  | nil => simp [cutD, h]
  | cons y T ih => simp only [List.cons_append, cutD, ih]
theorem cutD_live {x : Ent} (h : x.dead = false) : ∀ T : List Ent, cutD (T ++ [x]) = T ++ [x] := by
  intro T
  induction T with
  | nil => simp [cutD, h]
  | cons y T ih => simp only [List.cons_append, cutD, ih]; simp
theorem cutD_nil : ∀ {K : List Ent}, cutD K = [] ↔ ∀ x ∈ K, x.dead = true := by
  intro K
  induction K with
  | nil => simp [cutD]
  | cons x K ih =>
    simp only [cutD, List.mem_cons, forall_eq_or_imp]
    by_cases h : cutD K = []
    · rw [if_pos h]
      have h2 := ih.1 h
      cases hx : x.dead with
      | true => simp; exact h2
      | false => simp
    · rw [if_neg h]
      simp only [reduceCtorEq, false_iff, not_and]
      intro _ h2
      exact h (ih.2 h2)
/-- One key's versions, the newest first. -/
def Fall (G : List Ent) : Prop := G.Pairwise fun x y => y.key = x.key ∧ y.seq < x.seq
theorem live_cut : ∀ {K : List Ent}, Fall K → K.filter (liveP K) = cutD K := by
  intro K
  induction K with
  | nil => intro _; rfl
  | cons x K ih =>
    intro h
    obtain ⟨h1, h2⟩ := List.pairwise_cons.1 h
    have hK : K.filter (liveP (x :: K)) = K.filter (liveP K) := List.filter_congr fun y hy => by
      unfold liveP
      rw [List.any_cons]
      have := (h1 y hy).2
      have : decide (x.seq ≤ y.seq) = false := decide_eq_false (by omega)
      simp [this]
    have hx : liveP (x :: K) x = true ↔ ¬ (x.dead = true ∧ cutD K = []) := by
      rw [liveP_iff, cutD_nil]
      constructor
      · rintro ⟨y, hy, _, _, hd⟩ ⟨g1, g2⟩
        rcases List.mem_cons.1 hy with rfl | hy
        · rw [g1] at hd; cases hd
        · rw [g2 y hy] at hd; cases hd
      · intro g
        cases hxd : x.dead with
        | false => exact ⟨x, by simp, rfl, Int.le_refl _, hxd⟩
        | true =>
          by_cases hall : ∀ y ∈ K, y.dead = true
          · exact absurd ⟨hxd, hall⟩ g
          · obtain ⟨y, hy, hd⟩ : ∃ y, ∃ _ : y ∈ K, ¬ y.dead = true := by simpa only [Classical.not_forall] using hall
            exact ⟨y, by simp [hy], (h1 y hy).1, by have := (h1 y hy).2; omega, by simpa using hd⟩
    rw [List.filter_cons, hK, ih h2]
    simp only [cutD]
    by_cases hn : cutD K = []
    · rw [if_pos hn, hn]
      cases hxd : x.dead with
      | true => rw [if_neg (fun hp => hx.1 hp ⟨hxd, hn⟩)]; rfl
      | false => rw [if_pos (hx.2 (by rw [hxd]; simp))]; rfl
    · rw [if_neg hn, if_pos (hx.2 fun hh => hn hh.2)]
def keepG (G : List Ent) (seen : List Int) : List Ent := G.filter (needP G seen)
def trimG (b : Bool) (seen : List Int) (G : List Ent) : List Ent := if b then cutD (keepG G seen) else keepG G seen
theorem newest_part {L G : List Ent} {x : Ent} (hG : G = L.filter fun y => decide (y.key = x.key)) (a : Int) : newestP G a x = newestP L a x := by
  rw [Bool.eq_iff_iff, newestP_iff, newestP_iff]
  constructor
  · intro h y hy h1 h2
    exact h y (by rw [hG, List.mem_filter]; exact ⟨hy, decide_eq_true h1⟩) h1 h2
  · intro h y hy
    rw [hG, List.mem_filter] at hy
    exact h y hy.1
theorem need_part {L G : List Ent} {x : Ent} (hG : G = L.filter fun y => decide (y.key = x.key)) (seen : List Int) : needP G seen x = needP L seen x := by
  unfold needP
  rw [newest_part hG]
  congr 1
  rw [Bool.eq_iff_iff, List.any_eq_true, List.any_eq_true]
  simp only [newest_part hG]
theorem live_part {L G : List Ent} {x : Ent} (seen : List Int) (hG : ∀ y ∈ G, G = L.filter fun z => decide (z.key = y.key)) (hx : x ∈ G) : liveP (keepG G seen) x = liveP (keepL L seen) x := by
  rw [Bool.eq_iff_iff, liveP_iff, liveP_iff]
  constructor
  · rintro ⟨y, hy, h1, h2, h3⟩
    obtain ⟨g1, g2⟩ := List.mem_filter.1 hy
    refine ⟨y, mem_keep.2 ⟨?_, by rw [← need_part (hG y g1)]; exact g2⟩, h1, h2, h3⟩
    rw [hG y g1, List.mem_filter] at g1
    exact g1.1
  · rintro ⟨y, hy, h1, h2, h3⟩
    obtain ⟨g1, g2⟩ := mem_keep.1 hy
    have hyG : y ∈ G := by rw [hG x hx, List.mem_filter]; exact ⟨g1, decide_eq_true h1⟩
    exact ⟨y, List.mem_filter.2 ⟨hyG, by rw [need_part (hG y hyG)]; exact g2⟩, h1, h2, h3⟩
theorem filter_flat (p : Ent → Bool) (Gs : List (List Ent)) : Gs.flatten.filter p = (Gs.map fun G => G.filter p).flatten := by
  induction Gs with
  | nil => rfl
  | cons G Gs ih => simp [ih]
theorem grp_fall {L G : List Ent} (hL : L.Pairwise fun x y => cmpE x y < 0) (hG : ∀ x ∈ G, G = L.filter fun y => decide (y.key = x.key)) : Fall G := by
  cases hc : G with
  | nil => exact List.Pairwise.nil
  | cons x K =>
    have hx : x ∈ G := by rw [hc]; simp
    have hsub : G.Sublist L := by rw [hG x hx]; exact List.filter_sublist
    have hp := hL.sublist hsub
    have hkey : ∀ y ∈ G, y.key = x.key := fun y hy => by rw [hG x hx, List.mem_filter] at hy; exact of_decide_eq_true hy.2
    rw [← hc]
    refine (List.Pairwise.and_mem.1 hp).imp ?_
    rintro y z ⟨hy, hz, h⟩
    have e : z.key = y.key := (hkey z hz).trans (hkey y hy).symm
    refine ⟨e, ?_⟩
    unfold cmpE at h
    rw [if_pos (by rw [e]; exact cb_refl _)] at h
    exact cmpI_lt.1 h
theorem trim_flat {L : List Ent} {Gs : List (List Ent)} (hL : L.Pairwise fun x y => cmpE x y < 0) (h : Grp L Gs) (b : Bool) (seen : List Int) : trimL L b seen = (Gs.map (trimG b seen)).flatten := by
  have hk : ∀ p : Ent → Bool, L.filter p = (Gs.map fun G => G.filter p).flatten := fun p => by rw [← filter_flat, h.1]
  have e1 : ∀ G ∈ Gs, G.filter (needP L seen) = keepG G seen := fun G hG => List.filter_congr fun x hx => (need_part ((h.2 G hG).2 x hx) seen).symm
  unfold trimL
  cases b with
  | false =>
    rw [if_neg (by simp)]
    unfold keepL
    rw [hk]
    congr 1
    exact List.map_congr_left fun G hG => (e1 G hG).trans (by simp [trimG])
  | true =>
    rw [if_pos rfl]
    have e2 : (keepL L seen).filter (liveP (keepL L seen)) = L.filter fun x => needP L seen x && liveP (keepL L seen) x := by
      show (L.filter (needP L seen)).filter _ = _
      rw [List.filter_filter]
      exact List.filter_congr fun x _ => Bool.and_comm _ _
    rw [e2, hk]
    congr 1
    refine List.map_congr_left fun G hG => ?_
    have hf : Fall (keepG G seen) := (grp_fall hL (h.2 G hG).2).sublist List.filter_sublist
    show _ = (if true = true then cutD (keepG G seen) else keepG G seen)
    rw [if_pos rfl, ← live_cut hf]
    show _ = (G.filter (needP G seen)).filter _
    rw [List.filter_filter]
    refine List.filter_congr fun x hx => ?_
    rw [need_part ((h.2 G hG).2 x hx), live_part seen (h.2 G hG).2 hx, Bool.and_comm]
/-- Where it is needed. -/
theorem fall_lt {G : List Ent} (h : Fall G) {i j : Nat} (hij : i < j) (hj : j < G.length) : G[j].key = (G[i]'(by omega)).key ∧ G[j].seq < (G[i]'(by omega)).seq := List.pairwise_iff_getElem.1 h i j (by omega) hj hij
theorem newest_at {G : List Ent} (h : Fall G) {i : Nat} (hi : i < G.length) (a : Int) : (G[i].seq ≤ a ∧ newestP G a G[i] = true) ↔ idxN G a = i := by
  have fi : idxN G a = i ↔ G.findIdx? (fun x => decide (x.seq ≤ a)) = some i := by
    unfold idxN
    cases G.findIdx? (fun x => decide (x.seq ≤ a)) with
    | none => simp
    | some k => simp; omega
  rw [fi, List.findIdx?_eq_some_iff_getElem, newestP_iff]
  constructor
  · rintro ⟨h1, h2⟩
    refine ⟨hi, by simpa using h1, fun j hj => ?_⟩
    obtain ⟨g1, g2⟩ := fall_lt h hj hi
    simp only [decide_eq_true_eq]
    intro h3
    have := h2 _ (List.getElem_mem (by omega : j < G.length)) g1.symm h3
    omega
  · rintro ⟨_, h1, h2⟩
    refine ⟨by simpa using h1, fun y hy hk hs => ?_⟩
    obtain ⟨j, hj, rfl⟩ := List.mem_iff_getElem.1 hy
    rcases Nat.lt_trichotomy j i with hji | hji | hji
    · have := h2 j hji; simp only [decide_eq_true_eq] at this; exact absurd hs this
    · subst hji; exact Int.le_refl _
    · have := (fall_lt h hji hj).2; omega
theorem need_at {G : List Ent} (h : Fall G) (hmax : ∀ x ∈ G, x.seq ≤ 9223372036854775807) (seen : List Int) {i : Nat} (hi : i < G.length) : needP G seen G[i] = true ↔ i = 0 ∨ ∃ n ∈ seen, idxN G n = i := by
  unfold needP
  rw [Bool.or_eq_true, List.any_eq_true]
  have h0 : newestP G 9223372036854775807 G[i] = true ↔ i = 0 := by
    have := newest_at h hi 9223372036854775807
    have hm := hmax _ (List.getElem_mem hi)
    constructor
    · intro hn
      rcases Nat.eq_zero_or_pos i with h1 | h1
      · exact h1
      · have hl := fall_lt h h1 hi
        have := (newestP_iff.1 hn) G[0] (List.getElem_mem _) hl.1.symm (hmax _ (List.getElem_mem _))
        omega
    · rintro rfl
      rw [newestP_iff]
      intro y hy hk hs
      obtain ⟨j, hj, rfl⟩ := List.mem_iff_getElem.1 hy
      rcases Nat.eq_zero_or_pos j with h1 | h1
      · subst h1; exact Int.le_refl _
      · have := (fall_lt h h1 hj).2; omega
  rw [h0]
  constructor
  · rintro (h1 | ⟨n, hn, h1⟩)
    · exact .inl h1
    · rw [Bool.and_eq_true, decide_eq_true_eq] at h1
      exact .inr ⟨n, hn, (newest_at h hi n).1 h1⟩
  · rintro (h1 | ⟨n, hn, h1⟩)
    · exact .inl h1
    · refine .inr ⟨n, hn, ?_⟩
      rw [Bool.and_eq_true, decide_eq_true_eq]
      exact (newest_at h hi n).2 h1
end Go.Proofs.Ytcfgmkiohmbdlaa
