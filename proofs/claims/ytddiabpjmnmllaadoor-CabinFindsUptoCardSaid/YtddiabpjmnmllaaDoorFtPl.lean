/- Seating, the plain laws: well seated lists, whatever their order. -/
import Derived.Test.YtddiabpjmnmllaaDoorFtP
namespace Go.Proofs.YtddiabpjmnmllaaDoor
open Go.RowKit Go.Lib
/-- Two who may sit beside one another. -/
def besideB (L : List MSpot) (x y : MSit) : Prop := x.seat ≠ y.seat ∧ ¬ (x.who.inf = true ∧ y.who.inf = true ∧ blkOf L x.seat = blkOf L y.seat)
/-- One who may sit there. -/
def aloneB (L : List MSpot) (x : MSit) : Prop := (findS L x.seat).isSome = true ∧ oneE x.who (spotAt L x.seat) = 0
theorem besideB_symm {L : List MSpot} {x y : MSit} (h : besideB L x y) : besideB L y x := ⟨fun e => h.1 e.symm, fun e => h.2 ⟨e.2.1, e.1, e.2.2.symm⟩⟩
theorem mayE_zero (L : List MSpot) (B : List MSit) (x : MSit) : mayE L B x = 0 ↔ aloneB L x ∧ ∀ y ∈ B, besideB L y x := by
  unfold mayE aloneB
  cases hf : (findS L x.seat).isSome with
  | false => simp
  | true =>
    simp only [Bool.true_eq_false, if_false, true_and]
    by_cases h1 : oneE x.who (spotAt L x.seat) = 0
    · rw [if_neg (by simpa using h1)]
      have ht : 0 < takenN B x.seat ↔ ∃ y ∈ B, y.seat = x.seat := by
        unfold takenN; rw [List.countP_pos_iff]; simp
      have hi : 1 ≤ infN L B (blkOf L x.seat) ↔ ∃ y ∈ B, y.who.inf = true ∧ blkOf L y.seat = blkOf L x.seat := by
        unfold infN; rw [show (1 ≤ _) = (0 < _) from rfl, List.countP_pos_iff]; simp
      by_cases h2 : 0 < takenN B x.seat
      · rw [if_pos h2]
        obtain ⟨y, hy, e⟩ := ht.1 h2
        exact ⟨fun h => absurd h (by decide), fun h => absurd e (h.2 y hy).1⟩
      · rw [if_neg h2]
        by_cases h3 : x.who.inf = true ∧ 1 ≤ infN L B (blkOf L x.seat)
        · rw [if_pos h3]
          obtain ⟨y, hy, e1, e2⟩ := hi.1 h3.2
          exact ⟨fun h => absurd h (by decide), fun h => absurd ⟨e1, h3.1, e2⟩ (h.2 y hy).2⟩
        · rw [if_neg h3]
          refine ⟨fun _ => ⟨h1, fun y hy => ⟨fun e => h2 (ht.2 ⟨y, hy, e⟩), fun e => h3 ⟨e.2.1, hi.2 ⟨y, hy, e.1, e.2.2⟩⟩⟩⟩, fun _ => rfl⟩
    · rw [if_pos (by simpa using h1)]
      exact ⟨fun h => absurd h h1, fun h => absurd h.1 h1⟩
theorem sitE_zero (L : List MSpot) : ∀ (l B : List MSit), sitE L B l = 0 ↔ (∀ x ∈ l, aloneB L x) ∧ (∀ y ∈ B, ∀ x ∈ l, besideB L y x) ∧ l.Pairwise (besideB L) := by
  intro l
  induction l with
  | nil => intro B; simp [sitE]
  | cons x t ih =>
    intro B
    simp only [sitE]
    by_cases h : mayE L B x = 0
    · rw [if_neg (by simpa using h), ih]
      have hm := (mayE_zero L B x).1 h
      constructor
      · rintro ⟨h1, h2, h3⟩
        refine ⟨?_, ?_, List.pairwise_cons.2 ⟨fun y hy => h2 x (by simp) y hy, h3⟩⟩
        · intro y hy
          rcases List.mem_cons.1 hy with rfl | hy
          · exact hm.1
          · exact h1 y hy
        · intro y hy z hz
          rcases List.mem_cons.1 hz with rfl | hz
          · exact hm.2 y hy
          · exact h2 y (by simp [hy]) z hz
      · rintro ⟨h1, h2, h3⟩
        rw [List.pairwise_cons] at h3
        refine ⟨fun y hy => h1 y (by simp [hy]), fun y hy z hz => ?_, h3.2⟩
        rcases List.mem_append.1 hy with hy | hy
        · exact h2 y hy z (by simp [hz])
        · obtain rfl : y = x := by simpa using hy
          exact h3.1 z hz
    · rw [if_pos (by simpa using h)]
      refine ⟨fun h' => absurd h' h, fun ⟨h1, h2, _⟩ => absurd ((mayE_zero L B x).2 ⟨h1 x (by simp), fun y hy => h2 y hy x (by simp)⟩) h⟩
/-- Well seated. -/
def wellB (L : List MSpot) (l : List MSit) : Prop := (∀ x ∈ l, aloneB L x) ∧ l.Pairwise (besideB L)
theorem sitE_well (L : List MSpot) (l : List MSit) : sitE L [] l = 0 ↔ wellB L l := by
  rw [sitE_zero]; unfold wellB; simp
theorem allE_zero (rows : List MRow) (l : List MSit) : allE rows l = 0 ↔ checkL rows = true ∧ wellB (spotsL rows) l := by
  unfold allE
  cases h : checkL rows with
  | false => simp
  | true => simp [sitE_well]
theorem well_perm {L : List MSpot} {l l' : List MSit} (h : wellB L l) (hp : l.Perm l') : wellB L l' :=
  ⟨fun x hx => h.1 x (hp.mem_iff.2 hx), (hp.pairwise_iff (fun h => besideB_symm h)).1 h.2⟩
theorem well_sub {L : List MSpot} {l l' : List MSit} (h : wellB L l) (hs : l'.Sublist l) : wellB L l' :=
  ⟨fun x hx => h.1 x (hs.subset hx), h.2.sublist hs⟩
theorem filter_imp {α : Type} {p q : α → Bool} (h : ∀ x, p x = true → q x = true) : ∀ l : List α, (l.filter p).Sublist (l.filter q) := by
  intro l
  induction l with
  | nil => simp
  | cons x t ih =>
    rw [List.filter_cons, List.filter_cons]
    by_cases hp : p x = true
    · rw [if_pos hp, if_pos (h x hp)]; exact ih.cons_cons x
    · rw [if_neg hp]
      split
      · exact ih.cons x
      · exact ih
/-- Who sits down never makes a seat free. -/
theorem free_less (rows : List MRow) (x : MWho) {q q' : List MSit} (h : sitE (spotsL rows) [] q = 0) (hs : q'.Sublist q) : (freeL rows x q).Sublist (freeL rows x q') := by
  unfold freeL
  by_cases hc : checkL rows = true
  · rw [if_pos ⟨hc, h⟩, if_pos ⟨hc, (sitE_well _ _).2 (well_sub ((sitE_well _ _).1 h) hs)⟩]
    refine List.Sublist.map _ ?_
    refine filter_imp (fun s hs' => ?_) _
    simp only [decide_eq_true_eq, mayE_zero] at hs' ⊢
    exact ⟨hs'.1, fun y hy => hs'.2 y (hs.subset hy)⟩
  · rw [if_neg (fun h => hc h.1)]; simp
/-- What is free is just where one could sit. -/
theorem free_mem {rows : List MRow} {x : MWho} {q : List MSit} {s : MSeat} (h : s ∈ freeL rows x q) : allE rows (q ++ [⟨x, s⟩]) = 0 := by
  unfold freeL at h
  split at h
  · rename_i hc
    obtain ⟨sp, hsp, rfl⟩ := List.mem_map.1 h
    have hm := (List.mem_filter.1 hsp).2
    simp only [decide_eq_true_eq, mayE_zero] at hm
    rw [allE_zero]
    have hw := (sitE_well _ _).1 hc.2
    refine ⟨hc.1, fun y hy => ?_, List.pairwise_append.2 ⟨hw.2, by simp, fun y hy z hz => ?_⟩⟩
    · rcases List.mem_append.1 hy with hy | hy
      · exact hw.1 y hy
      · obtain rfl : y = ⟨x, sp.seat⟩ := by simpa using hy
        exact hm.1
    · obtain rfl : z = ⟨x, sp.seat⟩ := by simpa using hz
      exact hm.2 y hy
  · cases h
end Go.Proofs.YtddiabpjmnmllaaDoor
