/- Merging versions: what is seen, and what is trimmed, in plain words. -/
import Derived.Test.YtcfgmkiohmbdlaaMgRP
namespace Go.Proofs.Ytcfgmkiohmbdlaa
/-- No version of this key, up to this number, is newer. -/
def newestP (L : List Ent) (a : Int) (x : Ent) : Bool := L.all fun y => !(decide (y.key = x.key) && decide (y.seq ≤ a)) || decide (y.seq ≤ x.seq)
theorem newestP_iff {L : List Ent} {a : Int} {x : Ent} : newestP L a x = true ↔ ∀ y ∈ L, y.key = x.key → y.seq ≤ a → y.seq ≤ x.seq := by
  unfold newestP
  rw [List.all_eq_true]
  constructor
  · intro h y hy h1 h2
    have := h y hy
    simp only [decide_eq_true h1, decide_eq_true h2, Bool.and_self, Bool.not_true, Bool.false_or, decide_eq_true_eq] at this
    exact this
  · intro h y hy
    by_cases h1 : y.key = x.key
    · by_cases h2 : y.seq ≤ a
      · simp [h1, h2, h y hy h1 h2]
      · simp [h2]
    · simp [h1]
/-- What is seen at a number. -/
def viewP (L : List Ent) (a : Int) (x : Ent) : Bool := decide (x.seq ≤ a) && newestP L a x && !x.dead
def viewL (L : List Ent) (a : Int) : List Ent := L.filter (viewP L a)
theorem viewP_iff {L : List Ent} {a : Int} {x : Ent} : viewP L a x = true ↔ x.seq ≤ a ∧ (∀ y ∈ L, y.key = x.key → y.seq ≤ a → y.seq ≤ x.seq) ∧ x.dead = false := by
  unfold viewP
  rw [Bool.and_eq_true, Bool.and_eq_true, newestP_iff, decide_eq_true_eq, Bool.not_eq_true', and_assoc]
/-- What can't be left out. -/
def needP (L : List Ent) (seen : List Int) (x : Ent) : Bool := newestP L 9223372036854775807 x || seen.any fun n => decide (x.seq ≤ n) && newestP L n x
theorem needP_iff {L : List Ent} {seen : List Int} {x : Ent} : needP L seen x = true ↔ (∀ y ∈ L, y.key = x.key → y.seq ≤ 9223372036854775807 → y.seq ≤ x.seq) ∨ ∃ n ∈ seen, x.seq ≤ n ∧ ∀ y ∈ L, y.key = x.key → y.seq ≤ n → y.seq ≤ x.seq := by
  unfold needP
  rw [Bool.or_eq_true, newestP_iff, List.any_eq_true]
  simp only [Bool.and_eq_true, decide_eq_true_eq, newestP_iff]
def keepL (L : List Ent) (seen : List Int) : List Ent := L.filter (needP L seen)
/-- Is there a live one of this key, at it or older? -/
def liveP (K : List Ent) (x : Ent) : Bool := K.any fun y => decide (y.key = x.key) && decide (y.seq ≤ x.seq) && !y.dead
theorem liveP_iff {K : List Ent} {x : Ent} : liveP K x = true ↔ ∃ y ∈ K, y.key = x.key ∧ y.seq ≤ x.seq ∧ y.dead = false := by
  unfold liveP
  rw [List.any_eq_true]
  simp only [Bool.and_eq_true, decide_eq_true_eq, Bool.not_eq_true', and_assoc]
def trimL (L : List Ent) (bottom : Bool) (seen : List Int) : List Ent := if bottom then (keepL L seen).filter (liveP (keepL L seen)) else keepL L seen
theorem trim_sub (L : List Ent) (b : Bool) (seen : List Int) : (trimL L b seen).Sublist L := by
  unfold trimL keepL
  split
  · exact (List.filter_sublist).trans List.filter_sublist
  · exact List.filter_sublist
theorem mem_keep {L : List Ent} {seen : List Int} {x : Ent} : x ∈ keepL L seen ↔ x ∈ L ∧ needP L seen x = true := List.mem_filter
theorem mem_trim {L : List Ent} {b : Bool} {seen : List Int} {x : Ent} : x ∈ trimL L b seen ↔ x ∈ L ∧ needP L seen x = true ∧ (b = true → liveP (keepL L seen) x = true) := by
  unfold trimL
  cases b with
  | true => rw [if_pos rfl, List.mem_filter, mem_keep]; simp [and_assoc]
  | false => rw [if_neg (by simp), mem_keep]; simp
/-- Filters that agree. -/
theorem filter_sub {L t : List Ent} {p q : Ent → Bool} (ht : ∃ r, t = L.filter r) (h : ∀ x ∈ L, (x ∈ t ∧ q x = true) ↔ p x = true) : t.filter q = L.filter p := by
  obtain ⟨r, rfl⟩ := ht
  rw [List.filter_filter]
  refine List.filter_congr fun x hx => ?_
  have := h x hx
  rw [List.mem_filter] at this
  rw [Bool.eq_iff_iff, Bool.and_eq_true]
  constructor
  · rintro ⟨h1, h2⟩; exact this.1 ⟨⟨hx, h2⟩, h1⟩
  · intro h1
    obtain ⟨⟨_, h3⟩, h4⟩ := this.2 h1
    exact ⟨h4, h3⟩
theorem trim_filter (L : List Ent) (b : Bool) (seen : List Int) : ∃ r, trimL L b seen = L.filter r := by
  unfold trimL keepL
  split
  · exact ⟨_, List.filter_filter ..⟩
  · exact ⟨_, rfl⟩
/-- The newest up to a number is there. -/
theorem newest_there (a : Int) : ∀ (L : List Ent) (x : Ent), x ∈ L → x.seq ≤ a → ∃ y ∈ L, y.key = x.key ∧ y.seq ≤ a ∧ x.seq ≤ y.seq ∧ ∀ z ∈ L, z.key = x.key → z.seq ≤ a → z.seq ≤ y.seq := by
  intro L
  induction L with
  | nil => intro x hx; cases hx
  | cons w L ih =>
    intro x hx h
    by_cases hex : ∃ x' ∈ L, x'.key = x.key ∧ x'.seq ≤ a ∧ x.seq ≤ x'.seq
    · obtain ⟨x', h1, h2, h3, h4⟩ := hex
      obtain ⟨y, g1, g2, g3, g4, g5⟩ := ih x' h1 h3
      by_cases hw : w.key = x.key ∧ w.seq ≤ a ∧ y.seq < w.seq
      · exact ⟨w, by simp, hw.1, hw.2.1, by omega, fun z hz z1 z2 => by
          rcases List.mem_cons.1 hz with rfl | hz
          · exact Int.le_refl _
          · have := g5 z hz (by rw [z1, h2]) z2; omega⟩
      · exact ⟨y, by simp [g1], by rw [g2, h2], g3, by omega, fun z hz z1 z2 => by
          rcases List.mem_cons.1 hz with rfl | hz
          · rcases Int.lt_or_le y.seq z.seq with h5 | h5
            · exact absurd ⟨z1, z2, h5⟩ hw
            · exact h5
          · exact g5 z hz (by rw [z1, h2]) z2⟩
    · have hwx : w = x := by
        rcases List.mem_cons.1 hx with e | e
        · exact e.symm
        · exact absurd ⟨x, e, rfl, h, Int.le_refl _⟩ hex
      subst hwx
      exact ⟨w, by simp, rfl, h, Int.le_refl _, fun z hz z1 z2 => by
        rcases List.mem_cons.1 hz with rfl | hz
        · exact Int.le_refl _
        · rcases Int.lt_or_le w.seq z.seq with h5 | h5
          · exact absurd ⟨z, hz, z1, z2, by omega⟩ hex
          · exact h5⟩
/-- What was trimmed shows the same. -/
theorem view_trim (L : List Ent) (b : Bool) (seen : List Int) (a : Int) (ha : a ∈ seen ∨ ∀ y ∈ L, y.seq ≤ a) (hmax : ∀ y ∈ L, y.seq ≤ 9223372036854775807) : viewL (trimL L b seen) a = viewL L a := by
  unfold viewL
  refine filter_sub (trim_filter L b seen) fun x hx => ?_
  rw [viewP_iff, viewP_iff, mem_trim]
  have hneed : ∀ y ∈ L, y.seq ≤ a → (∀ z ∈ L, z.key = y.key → z.seq ≤ a → z.seq ≤ y.seq) → needP L seen y = true := fun y hy h1 h2 => by
    rw [needP_iff]
    rcases ha with ha | ha
    · exact .inr ⟨a, ha, h1, h2⟩
    · exact .inl fun z hz z1 _ => h2 z hz z1 (ha z hz)
  constructor
  · rintro ⟨⟨_, h1, h2⟩, h3, h4, h5⟩
    refine ⟨h3, fun y hy y1 y2 => ?_, h5⟩
    obtain ⟨z, z1, z2, z3, z4, z5⟩ := newest_there a L y hy y2
    have hzn := hneed z z1 z3 (fun u hu u1 u2 => z5 u hu (u1.trans z2) u2)
    rcases Int.lt_or_le x.seq z.seq with hlt | hle
    · have hzt : z ∈ trimL L b seen := mem_trim.2 ⟨z1, hzn, fun _ => liveP_iff.2 ⟨x, mem_keep.2 ⟨hx, h1⟩, by rw [z2, y1], by omega, h5⟩⟩
      have := h4 z hzt (by rw [z2, y1]) z3
      omega
    · omega
  · rintro ⟨h1, h2, h3⟩
    have hn := hneed x hx h1 h2
    refine ⟨⟨hx, hn, fun _ => liveP_iff.2 ⟨x, mem_keep.2 ⟨hx, hn⟩, rfl, Int.le_refl _, h3⟩⟩, h1, fun y hy => h2 y (mem_trim.1 hy).1, h3⟩
/-- Trimmed again it stays. -/
theorem trim_trim (L : List Ent) (b : Bool) (seen : List Int) : trimL (trimL L b seen) b seen = trimL L b seen := by
  have hk : keepL (trimL L b seen) seen = trimL L b seen := by
    unfold keepL
    rw [List.filter_eq_self]
    intro x hx
    obtain ⟨h1, h2, _⟩ := mem_trim.1 hx
    rw [needP_iff] at h2 ⊢
    rcases h2 with h2 | ⟨n, hn, h3, h4⟩
    · exact .inl fun y hy => h2 y (mem_trim.1 hy).1
    · exact .inr ⟨n, hn, h3, fun y hy => h4 y (mem_trim.1 hy).1⟩
  show (if b = true then (keepL (trimL L b seen) seen).filter (liveP (keepL (trimL L b seen) seen)) else keepL (trimL L b seen) seen) = _
  rw [hk]
  split
  · rename_i hb
    rw [List.filter_eq_self]
    intro x hx
    obtain ⟨_, _, h3⟩ := mem_trim.1 hx
    obtain ⟨y, y1, y2, y3, y4⟩ := liveP_iff.1 (h3 hb)
    exact liveP_iff.2 ⟨y, mem_trim.2 ⟨(mem_keep.1 y1).1, (mem_keep.1 y1).2, fun _ => liveP_iff.2 ⟨y, y1, rfl, Int.le_refl _, y4⟩⟩, y2, y3, y4⟩
  · rfl
/-- A list in order is what it merges to. -/
theorem mergeL_rise {L : List Ent} (h : L.Pairwise fun x y => cmpE x y < 0) : mergeL L = L := by
  refine (MergeOf.is ⟨h, fun x => ⟨fun hx => ?_, fun hx => hx.mem⟩⟩).symm
  obtain ⟨y, hy, he⟩ := first_alike hx (cmpE_refl x)
  have hyL := hy.mem
  obtain ⟨i, hi, rfl⟩ := List.mem_iff_getElem.1 hx
  obtain ⟨j, hj, rfl⟩ := List.mem_iff_getElem.1 hyL
  rcases Nat.lt_trichotomy i j with hij | hij | hij
  · have := List.pairwise_iff_getElem.1 h i j hi hj hij; omega
  · subst hij; exact hy
  · have := List.pairwise_iff_getElem.1 h j i hj hi hij
    rw [cmpE_swap L[i] L[j]] at this; omega
theorem rise_merge (S : List Ent) : (mergeL S).Pairwise fun x y => cmpE x y < 0 := (mergeL_of S).1
theorem rise_trim {L : List Ent} (h : L.Pairwise fun x y => cmpE x y < 0) (b : Bool) (seen : List Int) : (trimL L b seen).Pairwise fun x y => cmpE x y < 0 := h.sublist (trim_sub L b seen)
/-- A part merged ahead. -/
theorem first_part {S T : List Ent} {x : Ent} : First (mergeL S ++ T) x ↔ First (S ++ T) x := by
  unfold First
  rw [List.filter_append, List.filter_append, List.head?_append, List.head?_append]
  have h : ∀ x, ((mergeL S).filter (eqvB ltE x)).head? = (S.filter (eqvB ltE x)).head? := fun x => by
    have h1 := (mergeL_of (mergeL S)).2
    cases hf : (S.filter (eqvB ltE x)).head? with
    | none =>
      have he : S.filter (eqvB ltE x) = [] := by simpa using hf
      have : (mergeL S).filter (eqvB ltE x) = [] := by
        rw [List.filter_eq_nil_iff] at he ⊢
        exact fun y hy => he y (mergeL_sub hy)
      rw [this]; rfl
    | some y =>
      have hm := List.mem_of_head? hf
      have hxy : cmpE x y = 0 := by
        have := (List.mem_filter.1 hm).2
        rw [eqvE] at this
        exact of_decide_eq_true this
      have hfy : First S y := by unfold First; rw [← eqv_cong hxy]; exact hf
      have hyL := ((mergeL_of S).2 y).2 hfy
      have hr := mergeL_rise (rise_merge S)
      have h2 := ((mergeL_of (mergeL S)).2 y).1 (by rw [hr]; exact hyL)
      unfold First at h2
      rw [eqv_cong hxy]; exact h2
  rw [h]
theorem merge_part (S T : List Ent) : mergeL (mergeL S ++ T) = mergeL (S ++ T) :=
  MergeOf.is ⟨(mergeL_of _).1, fun x => by rw [(mergeL_of (mergeL S ++ T)).2, first_part]⟩
theorem first_part2 {S T : List Ent} {x : Ent} : First (T ++ mergeL S) x ↔ First (T ++ S) x := by
  have h : ((mergeL S).filter (eqvB ltE x)).head? = (S.filter (eqvB ltE x)).head? := by
    have := @first_part S [] x
    simp only [List.append_nil] at this
    unfold First at this
    cases h1 : ((mergeL S).filter (eqvB ltE x)).head? with
    | none =>
      cases h2 : (S.filter (eqvB ltE x)).head? with
      | none => rfl
      | some y =>
        have hm := List.mem_of_head? h2
        have he : (mergeL S).filter (eqvB ltE x) = [] := by simpa using h1
        have hxy : cmpE x y = 0 := by
          have := (List.mem_filter.1 hm).2
          rw [eqvE] at this
          exact of_decide_eq_true this
        have hyL := ((mergeL_of S).2 y).2 (by unfold First; rw [← eqv_cong hxy]; exact h2)
        rw [List.filter_eq_nil_iff] at he
        exact absurd (by rw [eqvE]; exact decide_eq_true hxy) (he y hyL)
    | some y =>
      have hm := List.mem_of_head? h1
      have hxy : cmpE x y = 0 := by
        have := (List.mem_filter.1 hm).2
        rw [eqvE] at this
        exact of_decide_eq_true this
      have h3 := ((mergeL_of S).2 y).1 (List.mem_filter.1 hm).1
      unfold First at h3
      rw [eqv_cong hxy]; exact h3.symm
  unfold First
  rw [List.filter_append, List.filter_append, List.head?_append, List.head?_append, h]
theorem merge_part2 (S T : List Ent) : mergeL (T ++ mergeL S) = mergeL (T ++ S) :=
  MergeOf.is ⟨(mergeL_of _).1, fun x => by rw [(mergeL_of (T ++ mergeL S)).2, first_part2]⟩
theorem merge_twice (S : List Ent) : mergeL (S ++ S) = mergeL S :=
  MergeOf.is ⟨(mergeL_of _).1, fun x => by
    rw [(mergeL_of (S ++ S)).2]
    unfold First
    rw [List.filter_append, List.head?_append]
    cases (S.filter (eqvB ltE x)).head? <;> rfl⟩
end Go.Proofs.Ytcfgmkiohmbdlaa
