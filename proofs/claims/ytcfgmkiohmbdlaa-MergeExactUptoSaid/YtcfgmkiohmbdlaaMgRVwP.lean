/- Merging versions: the reference's View and Trim, in plain words. -/
import Derived.Test.YtcfgmkiohmbdlaaMgTrimP
namespace Go.Proofs.Ytcfgmkiohmbdlaa
abbrev RiseL (M : List Ent) : Prop := M.Pairwise fun x y => cmpE x y < 0
theorem rise_at {M : List Ent} (h : RiseL M) {i j : Nat} (hij : i < j) (hj : j < M.length) : cmpE (M[i]'(by omega)) M[j] < 0 := List.pairwise_iff_getElem.1 h i j (by omega) hj hij
theorem seq_fall {x y : Ent} (h : cmpE x y < 0) (hk : y.key = x.key) : y.seq < x.seq := by
  unfold cmpE at h
  rw [hk, cb_refl, if_pos rfl] at h
  exact cmpI_lt.1 h
theorem at_less {M : List Ent} (h : RiseL M) {i j : Nat} (hi : i < M.length) (hj : j < M.length) (hk : M[i].key = M[j].key) (hs : M[j].seq < M[i].seq) : i < j := by
  rcases Nat.lt_trichotomy i j with g | g | g
  · exact g
  · subst g; omega
  · have := seq_fall (rise_at h g hi) hk; omega
theorem key_run {M : List Ent} (h : RiseL M) {i j k : Nat} (hij : i ≤ j) (hjk : j ≤ k) (hk : k < M.length) (he : M[k].key = (M[i]'(by omega)).key) : (M[j]'(by omega)).key = (M[i]'(by omega)).key := by
  rcases Nat.lt_or_ge i j with g | g
  · rcases Nat.lt_or_ge j k with g2 | g2
    · exact key_mid (rise_at h g (by omega)) (rise_at h g2 hk) he
    · have : j = k := by omega
      subst this; exact he
  · have : j = i := by omega
    subst this; rfl
/-- What the reference's View knows behind the first k. -/
def VInv (M : List Ent) (a : Int) (k : Nat) (any : Bool) (last : ByteArray) : Prop :=
  (any = false → ∀ j (h : j < M.length), j < k → a < M[j].seq) ∧
  (any = true → ∃ j, ∃ h : j < M.length, j < k ∧ M[j].seq ≤ a ∧ M[j].key = last ∧ ∀ i (hi : i < M.length), j < i → i < k → a < M[i].seq)
theorem vinv_start (M : List Ent) (a : Int) (last : ByteArray) : VInv M a 0 false last := ⟨fun _ _ _ h => by omega, fun h => by cases h⟩
theorem vinv_new {M : List Ent} {a : Int} {k : Nat} {any : Bool} {last : ByteArray} (h : VInv M a k any last) (hk : k < M.length) (hs : a < M[k].seq) : VInv M a (k + 1) any last := by
  refine ⟨fun h0 j hj hjk => ?_, fun h1 => ?_⟩
  · rcases Nat.lt_or_ge j k with g | g
    · exact h.1 h0 j hj g
    · have : j = k := by omega
      subst this; exact hs
  · obtain ⟨j, hj, g1, g2, g3, g4⟩ := h.2 h1
    refine ⟨j, hj, by omega, g2, g3, fun i hi h3 h4 => ?_⟩
    rcases Nat.lt_or_ge i k with g | g
    · exact g4 i hi h3 g
    · have : i = k := by omega
      subst this; exact hs
theorem vinv_next {M : List Ent} {a : Int} {k : Nat} (hk : k < M.length) (hs : M[k].seq ≤ a) : VInv M a (k + 1) true M[k].key :=
  ⟨fun h => (by cases h), fun _ => ⟨k, hk, by omega, hs, rfl, fun i _ h1 h2 => by omega⟩⟩
theorem view_new {M : List Ent} {a : Int} {x : Ent} (hs : a < x.seq) : viewP M a x = false := by
  rw [Bool.eq_false_iff]
  intro h
  have := (viewP_iff.1 h).1
  omega
theorem view_same {M : List Ent} {a : Int} {k : Nat} {last : ByteArray} (hr : RiseL M) (h : VInv M a k true last) (hk : k < M.length) (he : M[k].key = last) : viewP M a M[k] = false := by
  rw [Bool.eq_false_iff]
  intro hv
  obtain ⟨j, hj, g1, g2, g3, _⟩ := h.2 rfl
  have h1 := (viewP_iff.1 hv).2.1 _ (List.getElem_mem hj) (g3.trans he.symm) g2
  have h2 := seq_fall (rise_at hr g1 hk) (he.trans g3.symm)
  omega
theorem view_first {M : List Ent} {a : Int} {k : Nat} {any : Bool} {last : ByteArray} (hr : RiseL M) (h : VInv M a k any last) (hk : k < M.length) (hs : M[k].seq ≤ a) (hn : any = true → ¬ M[k].key = last) : viewP M a M[k] = !M[k].dead := by
  have hnew : ∀ y ∈ M, y.key = M[k].key → y.seq ≤ a → y.seq ≤ M[k].seq := by
    intro y hy hyk hya
    rcases Int.lt_or_le M[k].seq y.seq with hlt | hle
    · obtain ⟨i, hi, rfl⟩ := List.mem_iff_getElem.1 hy
      have hik := at_less hr hi hk hyk hlt
      cases any with
      | false => have := h.1 rfl i hi hik; omega
      | true =>
        obtain ⟨j, hj, g1, g2, g3, g4⟩ := h.2 rfl
        have hij : i ≤ j := by
          rcases Nat.lt_or_ge j i with g | g
          · have := g4 i hi g hik; omega
          · exact g
        exact absurd ((hyk.symm.trans (key_run hr hij (by omega) hk hyk.symm).symm).trans g3) (hn rfl)
    · exact hle
  cases hd : M[k].dead with
  | true =>
    have h0 : viewP M a M[k] = false := Bool.eq_false_iff.2 fun hv => by
      have := (viewP_iff.1 hv).2.2
      rw [hd] at this; cases this
    rw [h0]; rfl
  | false => exact (viewP_iff.2 ⟨hs, hnew, hd⟩)
theorem filter_step {p : Ent → Bool} {M : List Ent} {k : Nat} (hk : k < M.length) : (M.take (k + 1)).filter p = (M.take k).filter p ++ (if p M[k] then [M[k]] else []) := by
  rw [List.take_succ_eq_append_getElem hk, List.filter_append]
  congr 1
  cases h : p M[k] <;> simp [h]
/-- Is it needed: the version ahead tells. -/
theorem newest_ref {L : List Ent} (hr : RiseL L) {i : Nat} (hi : i < L.length) {a : Int} (ha : L[i].seq ≤ a) : newestP L a L[i] = true ↔ (i = 0 ∨ (L[i - 1]'(by omega)).key ≠ L[i].key ∨ a < (L[i - 1]'(by omega)).seq) := by
  rw [newestP_iff]
  constructor
  · intro h
    by_cases h0 : i = 0
    · exact .inl h0
    by_cases hk : (L[i - 1]'(by omega)).key = L[i].key
    · right; right
      rcases Int.lt_or_le a (L[i - 1]'(by omega)).seq with g | g
      · exact g
      · have h1 := h _ (List.getElem_mem (by omega : i - 1 < L.length)) hk g
        have h2 := seq_fall (rise_at hr (by omega : i - 1 < i) hi) hk.symm
        omega
    · exact .inr (.inl hk)
  · intro h y hy hyk hya
    rcases Int.lt_or_le L[i].seq y.seq with hlt | hle
    · obtain ⟨j, hj, rfl⟩ := List.mem_iff_getElem.1 hy
      have hji := at_less hr hj hi hyk hlt
      have hkr := key_run hr (i := j) (j := i - 1) (k := i) (by omega) (by omega) hi hyk.symm
      rcases h with h | h | h
      · omega
      · exact absurd (hkr.trans hyk) h
      · rcases Nat.lt_or_ge j (i - 1) with g | g
        · have := seq_fall (rise_at hr g (by omega)) hkr
          omega
        · have : j = i - 1 := by omega
          subst this; omega
    · exact hle
theorem need_ref {L : List Ent} (hr : RiseL L) (hmax : ∀ x ∈ L, x.seq ≤ 9223372036854775807) (seen : List Int) {i : Nat} (hi : i < L.length) :
    needP L seen L[i] = true ↔ (i = 0 ∨ (L[i - 1]'(by omega)).key ≠ L[i].key) ∨ ∃ n ∈ seen, L[i].seq ≤ n ∧ n < (L[i - 1]'(by omega)).seq := by
  have h0 : needP L seen L[i] = true ↔ newestP L 9223372036854775807 L[i] = true ∨ ∃ n ∈ seen, L[i].seq ≤ n ∧ newestP L n L[i] = true := by
    unfold needP
    rw [Bool.or_eq_true, List.any_eq_true]
    simp only [Bool.and_eq_true, decide_eq_true_eq]
  rw [h0, newest_ref hr hi (hmax _ (List.getElem_mem hi))]
  have hm := hmax _ (List.getElem_mem (by omega : i - 1 < L.length))
  constructor
  · rintro ((h | h | h) | ⟨n, hn, h1, h2⟩)
    · exact .inl (.inl h)
    · exact .inl (.inr h)
    · omega
    · rcases (newest_ref hr hi h1).1 h2 with h | h | h
      · exact .inl (.inl h)
      · exact .inl (.inr h)
      · exact .inr ⟨n, hn, h1, h⟩
  · rintro ((h | h) | ⟨n, hn, h1, h2⟩)
    · exact .inl (.inl h)
    · exact .inl (.inr (.inl h))
    · exact .inr ⟨n, hn, h1, (newest_ref hr hi h1).2 (.inr (.inr h2))⟩
/-- Is there a live one behind: the version behind tells. -/
theorem live_end {K : List Ent} (hr : RiseL K) {i : Nat} (hi : i < K.length) (h : ∀ h1 : i + 1 < K.length, K[i + 1].key ≠ K[i].key) : liveP K K[i] = !K[i].dead := by
  rw [Bool.eq_iff_iff, liveP_iff, Bool.not_eq_true']
  constructor
  · rintro ⟨y, hy, h1, h2, h3⟩
    obtain ⟨j, hj, rfl⟩ := List.mem_iff_getElem.1 hy
    rcases Nat.lt_trichotomy i j with g | g | g
    · exact absurd (key_run hr (i := i) (j := i + 1) (k := j) (by omega) (by omega) hj h1) (h (by omega))
    · subst g; exact h3
    · have := seq_fall (rise_at hr g hi) h1.symm
      omega
  · intro hd
    exact ⟨K[i], List.getElem_mem hi, rfl, Int.le_refl _, hd⟩
theorem live_step {K : List Ent} (hr : RiseL K) {i : Nat} (hi : i + 1 < K.length) (h : K[i + 1].key = (K[i]'(by omega)).key) : liveP K (K[i]'(by omega)) = (liveP K K[i + 1] || !(K[i]'(by omega)).dead) := by
  rw [Bool.eq_iff_iff, liveP_iff, Bool.or_eq_true, liveP_iff, Bool.not_eq_true']
  constructor
  · rintro ⟨y, hy, h1, h2, h3⟩
    obtain ⟨j, hj, rfl⟩ := List.mem_iff_getElem.1 hy
    rcases Nat.lt_trichotomy i j with g | g | g
    · left
      refine ⟨_, hy, h1.trans h.symm, ?_, h3⟩
      rcases Nat.lt_or_ge (i + 1) j with g2 | g2
      · have := seq_fall (rise_at hr g2 hj) (h1.trans h.symm)
        omega
      · have : j = i + 1 := by omega
        subst this; exact Int.le_refl _
    · subst g; exact .inr h3
    · have := seq_fall (rise_at hr g (by omega)) h1.symm
      omega
  · rintro (⟨y, hy, h1, h2, h3⟩ | h1)
    · have := seq_fall (rise_at hr (by omega : i < i + 1) hi) h
      exact ⟨y, hy, h1.trans h, by omega, h3⟩
    · exact ⟨_, List.getElem_mem (by omega), rfl, Int.le_refl _, h1⟩
theorem drop_filter {p : Ent → Bool} {K : List Ent} {i : Nat} (hi : i < K.length) : (K.drop i).filter p = (if p K[i] then [K[i]] else []) ++ (K.drop (i + 1)).filter p := by
  rw [List.drop_eq_getElem_cons hi, List.filter_cons]
  split <;> simp
end Go.Proofs.Ytcfgmkiohmbdlaa
