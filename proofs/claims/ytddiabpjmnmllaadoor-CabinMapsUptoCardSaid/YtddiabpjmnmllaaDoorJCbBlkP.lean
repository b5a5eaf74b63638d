/- Seating, the plain laws: well seated lists, whatever their order. -/
import Derived.Test.YtddiabpjmnmllaaDoorJFtOne
namespace Go.Proofs.YtddiabpjmnmllaaDoor
open Go.RowKit Go.Lib
/-- Two who may sit beside one another. -/
def besideB (L : List MSpot) (x y : MSit) : Prop := x.seat ≠ y.seat ∧ ¬ (x.who.inf = true ∧ y.who.inf = true ∧ blkOf L x.seat = blkOf L y.seat)
/-- One who may sit there. -/
def aloneB (L : List MSpot) (x : MSit) : Prop := (findS L x.seat).isSome = true ∧ oneE x.who (spotAt L x.seat) = 0
theorem besideB_symm {L : List MSpot} {x y : MSit} (h : besideB L x y) : besideB L y x := ⟨fun e => h.1 e.symm, fun e => h.2 ⟨e.2.1, e.1, e.2.2.symm⟩⟩
theorem mayE_zero (L : List MSpot) (B : List MSit) (x : MSit) : mayE L B x = 0 ↔ aloneB L x ∧ ∀ y ∈ B, besideB L y x := by
  unfold mayE aloneB
  cases hf : (findS L x.seat).isSome with
  | false => simp
  | true =>
    simp only [Bool.true_eq_false, if_false, true_and]
    by_cases h1 : oneE x.who (spotAt L x.seat) = 0
    · rw [if_neg (by simpa using h1)]
      have ht : 0 < takenN B x.seat ↔ ∃ y ∈ B, y.seat = x.seat := by
        unfold takenN; rw [List.countP_pos_iff]; simp
      have hi : 1 ≤ infN L B (blkOf L x.seat) ↔ ∃ y ∈ B, y.who.inf = true ∧ blkOf L y.seat = blkOf L x.seat := by
        unfold infN; rw [show (1 ≤ _) = (0 < _) from rfl, List.countP_pos_iff]; simp
      by_cases h2 : 0 < takenN B x.seat
      · rw [if_pos h2]
        obtain ⟨y, hy, e⟩ := ht.1 h2
        exact ⟨fun h => absurd h (by decide), fun h => absurd e (h.2 y hy).1⟩
      · rw [if_neg h2]
        by_cases h3 : x.who.inf = true ∧ 1 ≤ infN L B (blkOf L x.seat)
        · rw [if_pos h3]
          obtain ⟨y, hy, e1, e2⟩ := hi.1 h3.2
          exact ⟨fun h => absurd h (by decide), fun h => absurd ⟨e1, h3.1, e2⟩ (h.2 y hy).2⟩
        · rw [if_neg h3]
          refine ⟨fun _ => ⟨h1, fun y hy => ⟨fun e => h2 (ht.2 ⟨y, hy, e⟩), fun e => h3 ⟨e.2.1, hi.2 ⟨y, hy, e.1, e.2.2⟩⟩⟩⟩, fun _ => rfl⟩
    · rw [if_pos (by simpa using h1)]
      exact ⟨fun h => absurd h h1, fun h => absurd h.1 h1⟩
theorem sitE_zero (L : List MSpot) : ∀ (l B : List MSit), sitE L B l = 0 ↔ (∀ x ∈ l, aloneB L x) ∧ (∀ y ∈ B, ∀ x ∈ l, besideB L y x) ∧ l.Pairwise (besideB L) := by
  intro l
  induction l with
  | nil => intro B; simp [sitE]
  | cons x t ih =>
    intro B
    simp only [sitE]
    by_cases h : mayE L B x = 0
    · rw [if_neg (by simpa using h), ih]
      have hm := (mayE_zero L B x).1 h
      constructor
      · rintro ⟨h1, h2, h3⟩
        refine ⟨?_, ?_, List.pairwise_cons.2 ⟨fun y hy => h2 x (by simp) y hy, h3⟩⟩
        · intro y hy
          rcases List.mem_cons.1 hy with rfl | hy
          · exact hm.1
          · exact h1 y hy
        · intro y hy z hz
          rcases List.mem_cons.1 hz with rfl | hz
          · exact hm.2 y hy
          · exact h2 y (by simp [hy]) z hz
      · rintro ⟨h1, h2, h3⟩
        rw [List.pairwise_cons] at h3
        refine ⟨fun y hy => h1 y (by simp [hy]), fun y hy z hz => ?_, h3.2⟩
        rcases List.mem_append.1 hy with hy | hy
        · exact h2 y hy z (by simp [hz])
        · obtain rfl : y = x := by simpa using hy
          exact h3.1 z hz
    · rw [if_pos (by simpa using h)]
      refine ⟨fun h' => absurd h' h, fun ⟨h1, h2, _⟩ => absurd ((mayE_zero L B x).2 ⟨h1 x (by simp), fun y hy => h2 y hy x (by simp)⟩) h⟩
/-- Well seated. -/
def wellB (L : List MSpot) (l : List MSit) : Prop := (∀ x ∈ l, aloneB L x) ∧ l.Pairwise (besideB L)
theorem sitE_well (L : List MSpot) (l : List MSit) : sitE L [] l = 0 ↔ wellB L l := by
  rw [sitE_zero]; unfold wellB; simp
theorem allE_zero (rows : List MRow) (l : List MSit) : allE rows l = 0 ↔ checkL rows = true ∧ wellB (spotsL rows) l := by
  unfold allE
  cases h : checkL rows with
  | false => simp
  | true => simp [sitE_well]
theorem well_perm {L : List MSpot} {l l' : List MSit} (h : wellB L l) (hp : l.Perm l') : wellB L l' :=
  ⟨fun x hx => h.1 x (hp.mem_iff.2 hx), (hp.pairwise_iff (fun h => besideB_symm h)).1 h.2⟩
theorem well_sub {L : List MSpot} {l l' : List MSit} (h : wellB L l) (hs : l'.Sublist l) : wellB L l' :=
  ⟨fun x hx => h.1 x (hs.subset hx), h.2.sublist hs⟩
theorem filter_imp {α : Type} {p q : α → Bool} (h : ∀ x, p x = true → q x = true) : ∀ l : List α, (l.filter p).Sublist (l.filter q) := by
  intro l
  induction l with
  | nil => simp
  | cons x t ih =>
    rw [List.filter_cons, List.filter_cons]
    by_cases hp : p x = true
    · rw [if_pos hp, if_pos (h x hp)]; exact ih.cons_cons x
    · rw [if_neg hp]
      split
      · exact ih.cons x
      · exact ih
/-- Who sits down never makes a seat free. -/
theorem free_less (rows : List MRow) (x : MWho) {q q' : List MSit} (h : sitE (spotsL rows) [] q = 0) (hs : q'.Sublist q) : (freeL rows x q).Sublist (freeL rows x q') := by
  unfold freeL
  by_cases hc : checkL rows = true
  · rw [if_pos ⟨hc, h⟩, if_pos ⟨hc, (sitE_well _ _).2 (well_sub ((sitE_well _ _).1 h) hs)⟩]
    refine List.Sublist.map _ ?_
    refine filter_imp (fun s hs' => ?_) _
    simp only [decide_eq_true_eq, mayE_zero] at hs' ⊢
    exact ⟨hs'.1, fun y hy => hs'.2 y (hs.subset hy)⟩
  · rw [if_neg (fun h => hc h.1)]; simp
/-- What is free is just where one could sit. -/
theorem free_mem {rows : List MRow} {x : MWho} {q : List MSit} {s : MSeat} (h : s ∈ freeL rows x q) : allE rows (q ++ [⟨x, s⟩]) = 0 := by
  unfold freeL at h
  split at h
  · rename_i hc
    obtain ⟨sp, hsp, rfl⟩ := List.mem_map.1 h
    have hm := (List.mem_filter.1 hsp).2
    simp only [decide_eq_true_eq, mayE_zero] at hm
    rw [allE_zero]
    have hw := (sitE_well _ _).1 hc.2
    refine ⟨hc.1, fun y hy => ?_, List.pairwise_append.2 ⟨hw.2, by simp, fun y hy z hz => ?_⟩⟩
    · rcases List.mem_append.1 hy with hy | hy
      · exact hw.1 y hy
      · obtain rfl : y = ⟨x, sp.seat⟩ := by simpa using hy
        exact hm.1
    · obtain rfl : z = ⟨x, sp.seat⟩ := by simpa using hz
      exact hm.2 y hy
  · cases h
end Go.Proofs.YtddiabpjmnmllaaDoor
/- Seating, the plain law: two of one block, or alike, exchange their seats. -/
namespace Go.Proofs.YtddiabpjmnmllaaDoor
open Go.RowKit Go.Lib
theorem spotsB_bk (r : MRow) : ∀ (l : List UInt8) (b : Int) (x : MSpot), x ∈ spotsB r l b → b ≤ x.blk ∧ x.blk ≤ b + dotsN l ∧ x.cab = r.cab ∧ x.exit = r.exit ∧ x.seat.num = r.num := by
  intro l
  induction l with
  | nil => intro b x h; simp [spotsB] at h
  | cons c t ih =>
    intro b x h
    simp only [spotsB, dotsN] at h ⊢
    split at h
    · rename_i hc
      rw [if_pos hc]
      have := ih (b + 1) x h
      refine ⟨by omega, by omega, this.2.2⟩
    · rename_i hc
      rw [if_neg hc]
      rcases List.mem_cons.1 h with rfl | h
      · refine ⟨Int.le_refl _, ?_, rfl, rfl, rfl⟩
        simp only [spotOf]; omega
      · exact ih b x h
theorem spotsAll_bk : ∀ (l : List MRow) (b : Int), (∀ x ∈ spotsAll l b, b ≤ x.blk) ∧ ∀ x ∈ spotsAll l b, ∀ y ∈ spotsAll l b, x.blk = y.blk → x.cab = y.cab ∧ x.exit = y.exit ∧ x.seat.num = y.seat.num := by
  intro l
  induction l with
  | nil => intro b; simp [spotsAll]
  | cons r t ih =>
    intro b
    obtain ⟨h1, h2⟩ := ih (b + dotsN r.seats.data.toList + 1)
    simp only [spotsAll]
    refine ⟨fun x hx => ?_, fun x hx y hy e => ?_⟩
    · rcases List.mem_append.1 hx with hx | hx
      · exact (spotsB_bk r _ _ _ hx).1
      · have := h1 x hx; omega
    · rcases List.mem_append.1 hx with hx | hx <;> rcases List.mem_append.1 hy with hy | hy
      · have a := spotsB_bk r _ _ _ hx
        have b := spotsB_bk r _ _ _ hy
        exact ⟨a.2.2.1.trans b.2.2.1.symm, a.2.2.2.1.trans b.2.2.2.1.symm, a.2.2.2.2.trans b.2.2.2.2.symm⟩
      · have a := spotsB_bk r _ _ _ hx
        have b := h1 y hy
        omega
      · have a := spotsB_bk r _ _ _ hy
        have b := h1 x hx
        omega
      · exact h2 x hx y hy e
theorem spots_bk (l : List MRow) : ∀ x ∈ spotsL l, ∀ y ∈ spotsL l, x.blk = y.blk → x.cab = y.cab ∧ x.exit = y.exit ∧ x.seat.num = y.seat.num := by
  unfold spotsL
  split
  · exact (spotsAll_bk l 0).2
  · intro x hx; cases hx
theorem oneE_zero (x : MWho) (s : MSpot) : oneE x s = 0 ↔ s.blocked = false ∧ x.cab = s.cab ∧ (s.exit = true → x.fit = true ∧ x.inf = false) := by
  unfold oneE
  by_cases hb : s.blocked = true
  · rw [if_pos hb]; simp [hb]
  · rw [if_neg hb]
    have hb' : s.blocked = false := by simpa using hb
    by_cases hc : x.cab ≠ s.cab ∨ s.exit = true ∧ (x.fit = false ∨ x.inf = true)
    · rw [if_pos hc]
      refine ⟨fun h => absurd h (by decide), fun ⟨_, h2, h3⟩ => ?_⟩
      rcases hc with hc | ⟨hc, hd⟩
      · exact absurd h2 hc
      · obtain ⟨h4, h5⟩ := h3 hc
        rcases hd with hd | hd
        · rw [h4] at hd; cases hd
        · rw [h5] at hd; cases hd
    · rw [if_neg hc]
      refine ⟨fun _ => ⟨hb', Classical.byContradiction fun h => hc (.inl h), fun he => ⟨?_, ?_⟩⟩, fun _ => rfl⟩
      · cases hf : x.fit with
        | true => rfl
        | false => exact absurd (.inr ⟨he, .inl hf⟩) hc
      · cases hf : x.inf with
        | false => rfl
        | true => exact absurd (.inr ⟨he, .inr hf⟩) hc
theorem spotAt_mem {L : List MSpot} {q : MSeat} (h : (findS L q).isSome = true) : spotAt L q ∈ L ∧ (spotAt L q).seat = q := by
  obtain ⟨s, hs⟩ := Option.isSome_iff_exists.1 h
  unfold spotAt
  rw [hs]
  exact findS_some hs
/-- The other's place. -/
def exch (a b i : Nat) : Nat := if i = a then b else if i = b then a else i
theorem exch_lt {a b i n : Nat} (ha : a < n) (hb : b < n) (hi : i < n) : exch a b i < n := by unfold exch; split <;> (try split) <;> assumption
theorem exch_ne {a b i j : Nat} (h : i ≠ j) : exch a b i ≠ exch a b j := by
  intro e
  unfold exch at e
  split at e <;> split at e <;> (try split at e) <;> (try split at e) <;> omega
/-- Seats a and b exchanged. -/
def turnL (l : List MSit) (a b : Nat) (ha : a < l.length) (hb : b < l.length) : List MSit := (l.set a ⟨l[a].who, l[b].seat⟩).set b ⟨l[b].who, l[a].seat⟩
theorem turnL_len (l : List MSit) (a b : Nat) (ha : a < l.length) (hb : b < l.length) : (turnL l a b ha hb).length = l.length := by simp [turnL]
theorem turnL_get (l : List MSit) (a b : Nat) (ha : a < l.length) (hb : b < l.length) (i : Nat) (hi : i < l.length) : (turnL l a b ha hb)[i]'(by rw [turnL_len]; exact hi) = ⟨l[i].who, (l[exch a b i]'(exch_lt ha hb hi)).seat⟩ := by
  unfold turnL
  simp only [List.getElem_set, exch]
  by_cases h1 : b = i
  · subst h1
    simp only [if_true]
    by_cases h2 : b = a
    · subst h2; simp
    · simp [h2]
  · simp only [if_neg h1]
    by_cases h2 : a = i
    · subst h2; simp
    · simp only [if_neg h2, if_neg (Ne.symm h1), if_neg (Ne.symm h2)]
theorem turn_well {rows : List MRow} {l : List MSit} (h : wellB (spotsL rows) l) (a b : Nat) (ha : a < l.length) (hb : b < l.length) (hab : blkOf (spotsL rows) l[a].seat = blkOf (spotsL rows) l[b].seat ∨ l[a].who = l[b].who) : wellB (spotsL rows) (turnL l a b ha hb) := by
  have hp : ∀ i j (hi : i < l.length) (hj : j < l.length), i ≠ j → besideB (spotsL rows) l[i] l[j] := by
    intro i j hi hj hne
    rcases Nat.lt_or_gt_of_ne hne with hlt | hlt
    · exact List.pairwise_iff_getElem.1 h.2 i j hi hj hlt
    · exact besideB_symm (List.pairwise_iff_getElem.1 h.2 j i hj hi hlt)
  have hblk : blkOf (spotsL rows) l[a].seat = blkOf (spotsL rows) l[b].seat → ∀ i (hi : i < l.length), blkOf (spotsL rows) (l[exch a b i]'(exch_lt ha hb hi)).seat = blkOf (spotsL rows) l[i].seat := by
    intro e i hi
    by_cases h1 : i = a
    · subst h1; simp only [exch, if_true]; exact e.symm
    · by_cases h2 : i = b
      · subst h2; simp only [exch, if_neg h1, if_true]; exact e
      · simp only [exch, if_neg h1, if_neg h2]
  have hwho : l[a].who = l[b].who → ∀ i (hi : i < l.length), (l[exch a b i]'(exch_lt ha hb hi)).who = l[i].who := by
    intro e i hi
    by_cases h1 : i = a
    · subst h1; simp only [exch, if_true]; exact e.symm
    · by_cases h2 : i = b
      · subst h2; simp only [exch, if_neg h1, if_true]; exact e
      · simp only [exch, if_neg h1, if_neg h2]
  refine ⟨fun x hx => ?_, List.pairwise_iff_getElem.2 fun i j hi hj hlt => ?_⟩
  · obtain ⟨i, hi, rfl⟩ := List.getElem_of_mem hx
    rw [turnL_len] at hi
    rw [turnL_get l a b ha hb i hi]
    have he := exch_lt ha hb hi
    rcases hab with e | e
    · have h1 := h.1 l[i] (List.getElem_mem hi)
      have h2 := h.1 (l[exch a b i]) (List.getElem_mem he)
      obtain ⟨m1, _⟩ := spotAt_mem h1.1
      obtain ⟨m2, _⟩ := spotAt_mem h2.1
      obtain ⟨c1, c2, _⟩ := spots_bk rows _ m1 _ m2 (hblk e i hi).symm
      have o1 := (oneE_zero _ _).1 h1.2
      have o2 := (oneE_zero _ _).1 h2.2
      exact ⟨h2.1, (oneE_zero _ _).2 ⟨o2.1, o1.2.1.trans c1, fun hx => o1.2.2 (c2.trans hx)⟩⟩
    · rw [← hwho e i hi]
      exact h.1 _ (List.getElem_mem he)
  · rw [turnL_len] at hi hj
    rw [turnL_get l a b ha hb i hi, turnL_get l a b ha hb j hj]
    have hi' := exch_lt ha hb hi
    have hj' := exch_lt ha hb hj
    have hs := hp _ _ hi' hj' (exch_ne (a := a) (b := b) (Nat.ne_of_lt hlt))
    refine ⟨hs.1, fun ⟨i1, i2, e2⟩ => ?_⟩
    rcases hab with e | e
    · rw [hblk e i hi, hblk e j hj] at e2
      exact (hp i j hi hj (Nat.ne_of_lt hlt)).2 ⟨i1, i2, e2⟩
    · rw [← hwho e i hi] at i1
      rw [← hwho e j hj] at i2
      exact hs.2 ⟨i1, i2, e2⟩
/-- The law. -/
theorem order_law {rows : List MRow} {l : List MSit} (h : allE rows l = 0) : allE rows l.reverse = 0 ∧ (∀ a, allE rows (l.take a ++ l.drop (a + 1)) = 0) ∧
    ∀ a b (ha : a < l.length) (hb : b < l.length), (blkOf (spotsL rows) l[a].seat = blkOf (spotsL rows) l[b].seat ∨ l[a].who = l[b].who) → allE rows (turnL l a b ha hb) = 0 := by
  obtain ⟨hc, hw⟩ := (allE_zero _ _).1 h
  refine ⟨(allE_zero _ _).2 ⟨hc, well_perm hw (List.reverse_perm l).symm⟩, fun a => (allE_zero _ _).2 ⟨hc, well_sub hw ?_⟩, fun a b ha hb hab => (allE_zero _ _).2 ⟨hc, turn_well hw a b ha hb hab⟩⟩
  rw [← List.eraseIdx_eq_take_drop_succ]
  exact List.eraseIdx_sublist l a
theorem ne_of_turn {rows : List MRow} : allE rows [] = if checkL rows = true then 0 else 13 := by
  unfold allE; split <;> rfl
end Go.Proofs.YtddiabpjmnmllaaDoor
/- Cabins: blocks, in plain words. -/
namespace Go.Proofs.YtddiabpjmnmllaaDoor
open Go.RowKit Go.Lib
structure MBlk where
  cab : Int
  row : Int
  exit : Bool
  seats : List MSeat
/-- One spot more. -/
def addSeat (out : List MBlk) (x : MSpot) : List MBlk := if x.blocked = true then out else out.modify x.blk.toNat fun b => { b with seats := b.seats ++ [x.seat] }
def newBlk (out : List MBlk) (x : MSpot) : List MBlk := if x.blk = (out.length : Int) then out ++ [⟨x.cab, x.seat.num, x.exit, []⟩] else out
def stepB (out : List MBlk) (x : MSpot) : List MBlk := addSeat (newBlk out x) x
def blocksOf (L : List MSpot) : List MBlk := L.foldl stepB []
theorem blocksOf_snoc (L : List MSpot) (x : MSpot) : blocksOf (L ++ [x]) = stepB (blocksOf L) x := by unfold blocksOf; rw [foldl_snoc]
/-- Blocks come one behind the other. -/
def blkGo : Int → List MSpot → Prop
  | _, [] => True
  | last, x :: t => (x.blk = last ∨ x.blk = last + 1) ∧ blkGo x.blk t
theorem blkGo_spotsB (r : MRow) (rest : List MSpot) : ∀ (l : List UInt8) (dot : Bool) (n : Nat) (last : UInt8) (b : Int), seatsGo dot n last l = true → blkGo (b + dotsN l) rest → blkGo (if dot = true then b - 1 else b) (spotsB r l b ++ rest) := by
  intro l
  induction l with
  | nil =>
    intro dot n last b h hr
    simp only [seatsGo, Bool.and_eq_true, Bool.not_eq_true'] at h
    rw [h.1]
    simpa [spotsB, dotsN] using hr
  | cons c t ih =>
    intro dot n last b h hr
    simp only [seatsGo] at h
    simp only [dotsN] at hr
    simp only [spotsB]
    split at h
    · rename_i hc
      rw [if_pos hc] at hr ⊢
      split at h
      · cases h
      · rename_i hd
        have := ih true n last (b + 1) h (by rw [show b + 1 + (dotsN t : Int) = b + ((dotsN t + 1 : Nat) : Int) by omega]; exact hr)
        rw [if_neg hd]
        rwa [if_pos rfl, show b + 1 - 1 = b by omega] at this
    · rename_i hc
      rw [if_neg hc] at hr ⊢
      split at h
      · cases h
      · have := ih false (n + 1) _ b h hr
        rw [List.cons_append]
        refine ⟨?_, by simpa [spotOf] using this⟩
        simp only [spotOf]
        cases dot <;> simp
theorem blkGo_all : ∀ (l : List MRow) (last : Int) (b : Int), checkGo last l = true → blkGo (b - 1) (spotsAll l b) := by
  intro l
  induction l with
  | nil => intro _ _ _; trivial
  | cons r t ih =>
    intro last b h
    simp only [checkGo, rowOk, Bool.and_eq_true, decide_eq_true_eq] at h
    obtain ⟨⟨_, h3⟩, h4⟩ := h
    simp only [spotsAll]
    have h5 := ih r.num (b + dotsN r.seats.data.toList + 1) h4
    have := blkGo_spotsB r (spotsAll t (b + dotsN r.seats.data.toList + 1)) r.seats.data.toList true 0 0 b h3 (by rwa [show b + (dotsN r.seats.data.toList : Int) + 1 - 1 = b + dotsN r.seats.data.toList by omega] at h5)
    rwa [if_pos rfl] at this
theorem spots_go (l : List MRow) : blkGo (-1) (spotsL l) ∧ ∀ x ∈ spotsL l, 0 ≤ x.blk := by
  unfold spotsL
  split
  · rename_i h
    unfold checkL at h
    simp only [Bool.and_eq_true] at h
    refine ⟨by have := blkGo_all l 0 0 h.2; simpa using this, fun x hx => (spotsAll_bk l 0).1 x hx⟩
  · exact ⟨trivial, fun x hx => by cases hx⟩
theorem go_at : ∀ (L : List MSpot) (last : Int) (j : Nat) (h : j + 1 < L.length), blkGo last L → L[j + 1].blk = L[j].blk ∨ L[j + 1].blk = L[j].blk + 1 := by
  intro L
  induction L with
  | nil => intro _ _ h; simp at h
  | cons x t ih =>
    intro last j h hg
    cases j with
    | zero =>
      cases t with
      | nil => simp at h
      | cons y t => exact hg.2.1
    | succ j =>
      have := ih x.blk j (by simpa using h) hg.2
      simpa using this
/-- What the blocks of a list are. -/
structure BlksAt (L : List MSpot) (out : List MBlk) : Prop where
  len : ∀ x ∈ L, x.blk < (out.length : Int)
  seats : ∀ b (h : b < out.length), (out[b]).seats = (L.filter fun x => decide (x.blk = (b : Int)) && !x.blocked).map (·.seat)
  is : ∀ b (h : b < out.length), ∃ x ∈ L, x.blk = (b : Int) ∧ (out[b]).cab = x.cab ∧ (out[b]).exit = x.exit ∧ (out[b]).row = x.seat.num
theorem blks_step {L : List MSpot} {out : List MBlk} (h : BlksAt L out) {x : MSpot} (h0 : 0 ≤ x.blk) (hx : x.blk < (out.length : Int) ∨ x.blk = (out.length : Int)) : BlksAt (L ++ [x]) (stepB out x) ∧ (stepB out x).length = (newBlk out x).length := by
  obtain ⟨b0, hb0⟩ : ∃ b0 : Nat, x.blk = (b0 : Int) := ⟨x.blk.toNat, by omega⟩
  have hnew : BlksAt L out → (∀ y ∈ L ++ [x], y.blk < ((newBlk out x).length : Int)) ∧ (∀ b (h : b < (newBlk out x).length), ((newBlk out x)[b]).seats = (L.filter fun x => decide (x.blk = (b : Int)) && !x.blocked).map (·.seat)) ∧ (∀ b (h : b < (newBlk out x).length), ∃ y ∈ L ++ [x], y.blk = (b : Int) ∧ ((newBlk out x)[b]).cab = y.cab ∧ ((newBlk out x)[b]).exit = y.exit ∧ ((newBlk out x)[b]).row = y.seat.num) := by
    intro h
    unfold newBlk
    by_cases e : x.blk = (out.length : Int)
    · simp only [e, if_true]
      refine ⟨fun y hy => ?_, fun b hb => ?_, fun b hb => ?_⟩
      · rw [List.length_append]
        rcases List.mem_append.1 hy with hy | hy
        · have := h.len y hy; simp; omega
        · obtain rfl : y = x := by simpa using hy
          simp; omega
      · by_cases hb2 : b < out.length
        · rw [List.getElem_append_left hb2]; exact h.seats b hb2
        · have : b = out.length := by simp at hb; omega
          subst this
          rw [List.getElem_append_right (Nat.le_refl _)]
          simp only [Nat.sub_self, List.getElem_cons_zero]
          rw [List.filter_eq_nil_iff.2]
          · rfl
          · intro y hy
            have := h.len y hy
            have hne : ¬ y.blk = (out.length : Int) := by omega
            simp [hne]
      · by_cases hb2 : b < out.length
        · rw [List.getElem_append_left hb2]
          obtain ⟨y, hy, hh⟩ := h.is b hb2
          exact ⟨y, List.mem_append_left _ hy, hh⟩
        · have : b = out.length := by simp at hb; omega
          subst this
          rw [List.getElem_append_right (Nat.le_refl _)]
          exact ⟨x, by simp, e, by simp, by simp, by simp⟩
    · simp only [e, if_false]
      refine ⟨fun y hy => ?_, h.seats, fun b hb => ?_⟩
      · rcases List.mem_append.1 hy with hy | hy
        · exact h.len y hy
        · obtain rfl : y = x := by simpa using hy
          omega
      · obtain ⟨y, hy, hh⟩ := h.is b hb
        exact ⟨y, List.mem_append_left _ hy, hh⟩
  obtain ⟨n1, n2, n3⟩ := hnew h
  have hlen : (stepB out x).length = (newBlk out x).length := by
    unfold stepB addSeat
    split
    · rfl
    · simp
  refine ⟨⟨fun y hy => by rw [hlen]; exact n1 y hy, fun b hb => ?_, fun b hb => ?_⟩, hlen⟩
  · have hb' : b < (newBlk out x).length := by rw [← hlen]; exact hb
    rw [List.filter_append, List.map_append, ← n2 b hb']
    unfold stepB addSeat
    by_cases hk : x.blocked = true
    · simp [hk]
    · have hk' : x.blocked = false := by simpa using hk
      simp only [hk', Bool.false_eq_true, if_false]
      rw [List.getElem_modify]
      by_cases e : x.blk.toNat = b
      · have e2 : x.blk = (b : Int) := by omega
        simp [e2, hk']
      · have e2 : ¬ x.blk = (b : Int) := by omega
        rw [if_neg e]
        simp [e2]
  · have hb' : b < (newBlk out x).length := by rw [← hlen]; exact hb
    obtain ⟨y, hy, hh⟩ := n3 b hb'
    refine ⟨y, hy, ?_⟩
    unfold stepB addSeat
    split
    · exact hh
    · rw [List.getElem_modify]
      split <;> exact hh
theorem blks_all : ∀ (L : List MSpot) (j : Nat), j ≤ L.length → blkGo (-1) L → (∀ x ∈ L, 0 ≤ x.blk) → BlksAt (L.take j) (blocksOf (L.take j)) ∧ (0 < j → ∃ h : j - 1 < L.length, ((blocksOf (L.take j)).length : Int) = L[j - 1].blk + 1) := by
  intro L j
  induction j with
  | zero => intro _ _ _; exact ⟨⟨by simp, fun b h => by simp [blocksOf] at h, fun b h => by simp [blocksOf] at h⟩, fun h => absurd h (by omega)⟩
  | succ j ih =>
    intro hj hg h0
    have hjl : j < L.length := by omega
    obtain ⟨h1, h2⟩ := ih (by omega) hg h0
    have hx0 := h0 L[j] (List.getElem_mem hjl)
    rw [List.take_succ_eq_append_getElem hjl, blocksOf_snoc]
    have hx : L[j].blk < ((blocksOf (L.take j)).length : Int) ∨ L[j].blk = ((blocksOf (L.take j)).length : Int) := by
      by_cases hj0 : j = 0
      · subst hj0
        cases L with
        | nil => simp at hjl
        | cons x t =>
          have := hg.1
          simp only [List.getElem_cons_zero] at hx0 ⊢
          right
          simp [blocksOf]
          omega
      · obtain ⟨hh, he⟩ := h2 (by omega)
        have := go_at L (-1) (j - 1) (by omega) hg
        simp only [show j - 1 + 1 = j by omega] at this
        omega
    obtain ⟨a, b⟩ := blks_step h1 hx0 hx
    refine ⟨a, fun _ => ⟨by simpa using hjl, ?_⟩⟩
    simp only [Nat.add_sub_cancel]
    rw [b]
    unfold newBlk
    by_cases e : L[j].blk = ((blocksOf (L.take j)).length : Int)
    · rw [if_pos e, List.length_append]; simp; omega
    · rw [if_neg e]
      by_cases hj0 : j = 0
      · subst hj0
        have := hx0
        simp [blocksOf] at e hx ⊢
        omega
      · obtain ⟨hh, he⟩ := h2 (by omega)
        have := go_at L (-1) (j - 1) (by omega) hg
        simp only [show j - 1 + 1 = j by omega] at this
        omega
/-- The blocks of a map. -/
theorem blks_map (l : List MRow) : BlksAt (spotsL l) (blocksOf (spotsL l)) := by
  obtain ⟨h1, h2⟩ := spots_go l
  have := (blks_all (spotsL l) (spotsL l).length (Nat.le_refl _) h1 h2).1
  rwa [List.take_length] at this
theorem blk_next (l : List MRow) (j : Nat) (hj : j < (spotsL l).length) : 0 ≤ (spotsL l)[j].blk ∧ ((spotsL l)[j].blk < ((blocksOf ((spotsL l).take j)).length : Int) ∨ (spotsL l)[j].blk = ((blocksOf ((spotsL l).take j)).length : Int)) := by
  obtain ⟨h1, h2⟩ := spots_go l
  obtain ⟨a, b⟩ := blks_all (spotsL l) j (by omega) h1 h2
  have hx0 := h2 _ (List.getElem_mem hj)
  refine ⟨hx0, ?_⟩
  by_cases hj0 : j = 0
  · subst hj0
    obtain ⟨c, d⟩ := blks_all (spotsL l) 1 (by omega) h1 h2
    obtain ⟨hh, he⟩ := d (by omega)
    have hlen : ((blocksOf ((spotsL l).take 1)).length : Int) ≤ 1 := by
      cases hL : spotsL l with
      | nil => rw [hL] at hj; simp at hj
      | cons x t =>
        simp only [List.take_succ_cons, List.take_zero, blocksOf, List.foldl_cons, List.foldl_nil, stepB, addSeat, newBlk]
        split <;> split <;> simp
    simp only [Nat.sub_self] at he
    right
    simp [blocksOf]
    omega
  · obtain ⟨hh, he⟩ := b (by omega)
    have := go_at (spotsL l) (-1) (j - 1) (by omega) h1
    simp only [show j - 1 + 1 = j by omega] at this
    omega
end Go.Proofs.YtddiabpjmnmllaaDoor
