/- Seating, the plain law: two of one block, or alike, exchange their seats. -/
import Derived.Test.YtddiabpjmnmllaaDoorFtPl
namespace Go.Proofs.YtddiabpjmnmllaaDoor
open Go.RowKit Go.Lib
theorem spotsB_bk (r : MRow) : ∀ (l : List UInt8) (b : Int) (x : MSpot), x ∈ spotsB r l b → b ≤ x.blk ∧ x.blk ≤ b + dotsN l ∧ x.cab = r.cab ∧ x.exit = r.exit ∧ x.seat.num = r.num := by
  intro l
  induction l with
  | nil => intro b x h; simp [spotsB] at h
  | cons c t ih =>
    intro b x h
    simp only [spotsB, dotsN] at h ⊢
    split at h
    · rename_i hc
      rw [if_pos hc]
      have := ih (b + 1) x h
      refine ⟨by omega, by omega, this.2.2⟩
    · rename_i hc
      rw [if_neg hc]
      rcases List.mem_cons.1 h with rfl | h
      · refine ⟨Int.le_refl _, ?_, rfl, rfl, rfl⟩
        simp only [spotOf]; omega
      · exact ih b x h
theorem spotsAll_bk : ∀ (l : List MRow) (b : Int), (∀ x ∈ spotsAll l b, b ≤ x.blk) ∧ ∀ x ∈ spotsAll l b, ∀ y ∈ spotsAll l b, x.blk = y.blk → x.cab = y.cab ∧ x.exit = y.exit ∧ x.seat.num = y.seat.num := by
  intro l
  induction l with
  | nil => intro b; simp [spotsAll]
  | cons r t ih =>
    intro b
    obtain ⟨h1, h2⟩ := ih (b + dotsN r.seats.data.toList + 1)
    simp only [spotsAll]
    refine ⟨fun x hx => ?_, fun x hx y hy e => ?_⟩
    · rcases List.mem_append.1 hx with hx | hx
      · exact (spotsB_bk r _ _ _ hx).1
      · have := h1 x hx; omega
    · rcases List.mem_append.1 hx with hx | hx <;> rcases List.mem_append.1 hy with hy | hy
      · have a := spotsB_bk r _ _ _ hx
        have b := spotsB_bk r _ _ _ hy
        exact ⟨a.2.2.1.trans b.2.2.1.symm, a.2.2.2.1.trans b.2.2.2.1.symm, a.2.2.2.2.trans b.2.2.2.2.symm⟩
      · have a := spotsB_bk r _ _ _ hx
        have b := h1 y hy
        omega
      · have a := spotsB_bk r _ _ _ hy
        have b := h1 x hx
        omega
      · exact h2 x hx y hy e
theorem spots_bk (l : List MRow) : ∀ x ∈ spotsL l, ∀ y ∈ spotsL l, x.blk = y.blk → x.cab = y.cab ∧ x.exit = y.exit ∧ x.seat.num = y.seat.num := by
  unfold spotsL
  split
  · exact (spotsAll_bk l 0).2
  · intro x hx; cases hx
theorem oneE_zero (x : MWho) (s : MSpot) : oneE x s = 0 ↔ s.blocked = false ∧ x.cab = s.cab ∧ (s.exit = true → x.fit = true ∧ x.inf = false) := by
  unfold oneE
  by_cases hb : s.blocked = true
  · rw [if_pos hb]; simp [hb]
  · rw [if_neg hb]
    have hb' : s.blocked = false := by simpa using hb
    by_cases hc : x.cab ≠ s.cab ∨ s.exit = true ∧ (x.fit = false ∨ x.inf = true)
    · rw [if_pos hc]
      refine ⟨fun h => absurd h (by decide), fun ⟨_, h2, h3⟩ => ?_⟩
      rcases hc with hc | ⟨hc, hd⟩
      · exact absurd h2 hc
      · obtain ⟨h4, h5⟩ := h3 hc
        rcases hd with hd | hd
        · rw [h4] at hd; cases hd
        · rw [h5] at hd; cases hd
    · rw [if_neg hc]
      refine ⟨fun _ => ⟨hb', Classical.byContradiction fun h => hc (.inl h), fun he => ⟨?_, ?_⟩⟩, fun _ => rfl⟩
      · cases hf : x.fit with
        | true => rfl
        | false => exact absurd (.inr ⟨he, .inl hf⟩) hc
      · cases hf : x.inf with
        | false => rfl
        | true => exact absurd (.inr ⟨he, .inr hf⟩) hc
theorem spotAt_mem {L : List MSpot} {q : MSeat} (h : (findS L q).isSome = true) : spotAt L q ∈ L ∧ (spotAt L q).seat = q := by
  obtain ⟨s, hs⟩ := Option.isSome_iff_exists.1 h
  unfold spotAt
  rw [hs]
  exact findS_some hs
/-- The other's place. -/
def exch (a b i : Nat) : Nat := if i = a then b else if i = b then a else i
theorem exch_lt {a b i n : Nat} (ha : a < n) (hb : b < n) (hi : i < n) : exch a b i < n := by unfold exch; split <;> (try split) <;> assumption
theorem exch_ne {a b i j : Nat} (h : i ≠ j) : exch a b i ≠ exch a b j := by
  intro e
  unfold exch at e
  split at e <;> split at e <;> (try split at e) <;> (try split at e) <;> omega
/-- Seats a and b exchanged. -/
def turnL (l : List MSit) (a b : Nat) (ha : a < l.length) (hb : b < l.length) : List MSit := (l.set a ⟨l[a].who, l[b].seat⟩).set b ⟨l[b].who, l[a].seat⟩
theorem turnL_len (l : List MSit) (a b : Nat) (ha : a < l.length) (hb : b < l.length) : (turnL l a b ha hb).length = l.length := by simp [turnL]
theorem turnL_get (l : List MSit) (a b : Nat) (ha : a < l.length) (hb : b < l.length) (i : Nat) (hi : i < l.length) : (turnL l a b ha hb)[i]'(by rw [turnL_len]; exact hi) = ⟨l[i].who, (l[exch a b i]'(exch_lt ha hb hi)).seat⟩ := by
  unfold turnL
  simp only [List.getElem_set, exch]
  by_cases h1 : b = i
  · subst h1
    simp only [if_true]
    by_cases h2 : b = a
    · subst h2; simp
    · simp [h2]
  · simp only [if_neg h1]
    by_cases h2 : a = i
    · subst h2; simp
    · simp only [if_neg h2, if_neg (Ne.symm h1), if_neg (Ne.symm h2)]
theorem turn_well {rows : List MRow} {l : List MSit} (h : wellB (spotsL rows) l) (a b : Nat) (ha : a < l.length) (hb : b < l.length) (hab : blkOf (spotsL rows) l[a].seat = blkOf (spotsL rows) l[b].seat ∨ l[a].who = l[b].who) : wellB (spotsL rows) (turnL l a b ha hb) := by
  have hp : ∀ i j (hi : i < l.length) (hj : j < l.length), i ≠ j → besideB (spotsL rows) l[i] l[j] := by
    intro i j hi hj hne
    rcases Nat.lt_or_gt_of_ne hne with hlt | hlt
    · exact List.pairwise_iff_getElem.1 h.2 i j hi hj hlt
    · exact besideB_symm (List.pairwise_iff_getElem.1 h.2 j i hj hi hlt)
  have hblk : blkOf (spotsL rows) l[a].seat = blkOf (spotsL rows) l[b].seat → ∀ i (hi : i < l.length), blkOf (spotsL rows) (l[exch a b i]'(exch_lt ha hb hi)).seat = blkOf (spotsL rows) l[i].seat := by
    intro e i hi
    by_cases h1 : i = a
    · subst h1; simp only [exch, if_true]; exact e.symm
    · by_cases h2 : i = b
      · subst h2; simp only [exch, if_neg h1, if_true]; exact e
      · simp only [exch, if_neg h1, if_neg h2]
  have hwho : l[a].who = l[b].who → ∀ i (hi : i < l.length), (l[exch a b i]'(exch_lt ha hb hi)).who = l[i].who := by
    intro e i hi
    by_cases h1 : i = a
    · subst h1; simp only [exch, if_true]; exact e.symm
    · by_cases h2 : i = b
      · subst h2; simp only [exch, if_neg h1, if_true]; exact e
      · simp only [exch, if_neg h1, if_neg h2]
  refine ⟨fun x hx => ?_, List.pairwise_iff_getElem.2 fun i j hi hj hlt => ?_⟩
  · obtain ⟨i, hi, rfl⟩ := List.getElem_of_mem hx
    rw [turnL_len] at hi
    rw [turnL_get l a b ha hb i hi]
    have he := exch_lt ha hb hi
    rcases hab with e | e
    · have h1 := h.1 l[i] (List.getElem_mem hi)
      have h2 := h.1 (l[exch a b i]) (List.getElem_mem he)
      obtain ⟨m1, _⟩ := spotAt_mem h1.1
      obtain ⟨m2, _⟩ := spotAt_mem h2.1
      obtain ⟨c1, c2, _⟩ := spots_bk rows _ m1 _ m2 (hblk e i hi).symm
      have o1 := (oneE_zero _ _).1 h1.2
      have o2 := (oneE_zero _ _).1 h2.2
      exact ⟨h2.1, (oneE_zero _ _).2 ⟨o2.1, o1.2.1.trans c1, fun hx => o1.2.2 (c2.trans hx)⟩⟩
    · rw [← hwho e i hi]
      exact h.1 _ (List.getElem_mem he)
  · rw [turnL_len] at hi hj
    rw [turnL_get l a b ha hb i hi, turnL_get l a b ha hb j hj]
    have hi' := exch_lt ha hb hi
    have hj' := exch_lt ha hb hj
    have hs := hp _ _ hi' hj' (exch_ne (a := a) (b := b) (Nat.ne_of_lt hlt))
    refine ⟨hs.1, fun ⟨i1, i2, e2⟩ => ?_⟩
    rcases hab with e | e
    · rw [hblk e i hi, hblk e j hj] at e2
      exact (hp i j hi hj (Nat.ne_of_lt hlt)).2 ⟨i1, i2, e2⟩
    · rw [← hwho e i hi] at i1
      rw [← hwho e j hj] at i2
      exact hs.2 ⟨i1, i2, e2⟩
/-- The law. -/
theorem order_law {rows : List MRow} {l : List MSit} (h : allE rows l = 0) : allE rows l.reverse = 0 ∧ (∀ a, allE rows (l.take a ++ l.drop (a + 1)) = 0) ∧
    ∀ a b (ha : a < l.length) (hb : b < l.length), (blkOf (spotsL rows) l[a].seat = blkOf (spotsL rows) l[b].seat ∨ l[a].who = l[b].who) → allE rows (turnL l a b ha hb) = 0 := by
  obtain ⟨hc, hw⟩ := (allE_zero _ _).1 h
  refine ⟨(allE_zero _ _).2 ⟨hc, well_perm hw (List.reverse_perm l).symm⟩, fun a => (allE_zero _ _).2 ⟨hc, well_sub hw ?_⟩, fun a b ha hb hab => (allE_zero _ _).2 ⟨hc, turn_well hw a b ha hb hab⟩⟩
  rw [← List.eraseIdx_eq_take_drop_succ]
  exact List.eraseIdx_sublist l a
theorem ne_of_turn {rows : List MRow} : allE rows [] = if checkL rows = true then 0 else 13 := by
  unfold allE; split <;> rfl
end Go.Proofs.YtddiabpjmnmllaaDoor
