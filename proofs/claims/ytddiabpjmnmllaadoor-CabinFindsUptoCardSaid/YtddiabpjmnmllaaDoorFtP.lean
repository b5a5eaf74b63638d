/- Seating, in plain words: who may sit where. -/
import Derived.Test.YtddiabpjmnmllaaDoorCbSpP
namespace Go.Proofs.YtddiabpjmnmllaaDoor
open Go.RowKit Go.Lib
deriving instance DecidableEq for MSeat
deriving instance DecidableEq for MSpot
structure MWho where
  cab : Int
  fit : Bool
  inf : Bool
deriving instance DecidableEq for MWho
structure MSit where
  who : MWho
  seat : MSeat
deriving instance DecidableEq for MSit
def sitC (x : MSit) : List Value := [.int .i64 x.who.cab, .bool x.who.fit, .bool x.who.inf, .int .i64 x.seat.num, .int .u8 (x.seat.ltr.toNat : Int)]
theorem sitC_len (x : MSit) : (sitC x).length = 5 := rfl
theorem sitC_cell (x : MSit) : ∀ u ∈ sitC x, u.oneCell' = true := by
  intro u hu
  simp [sitC] at hu
  rcases hu with rfl | rfl | rfl | rfl | rfl <;> rfl
/-- What a seat that came in may hold. -/
def MSeat.fits (s : MSeat) : Prop := -9223372036854775808 ≤ s.num ∧ s.num ≤ 9223372036854775807
def seatV (s : MSeat) : Value := .agg #[.int .i64 s.num, .int .u8 (s.ltr.toNat : Int)]
def spotV (s : MSpot) : Value := .agg #[.int .i64 s.seat.num, .int .u8 (s.seat.ltr.toNat : Int), .int .i64 s.cab, .int .i64 s.zone, .int .i64 s.blk, .bool s.exit, .bool s.blocked]
def spotZ : MSpot := ⟨⟨0, 0⟩, 0, 0, 0, false, false⟩
theorem seatInj : ∀ x y : MSeat, seatV x = seatV y → x = y := by
  rintro ⟨a, b⟩ ⟨c, d⟩ h
  unfold seatV at h
  injection h with h
  have a0 := congrArg (fun a => a[0]?) h
  have a1 := congrArg (fun a => a[1]?) h
  simp at a0 a1
  rw [a0, UInt8.toNat_inj.1 (by omega : b.toNat = d.toNat)]
def oneE (x : MWho) (s : MSpot) : Int := if s.blocked = true then 15 else if x.cab ≠ s.cab ∨ (s.exit = true ∧ (x.fit = false ∨ x.inf = true)) then 16 else 0
def findS (L : List MSpot) (q : MSeat) : Option MSpot := L.find? (fun x => decide (x.seat = q))
def spotAt (L : List MSpot) (q : MSeat) : MSpot := (findS L q).getD spotZ
def blkOf (L : List MSpot) (q : MSeat) : Int := (spotAt L q).blk
def takenN (l : List MSit) (q : MSeat) : Nat := l.countP (fun y => decide (y.seat = q))
def infN (L : List MSpot) (l : List MSit) (b : Int) : Nat := l.countP (fun y => y.who.inf && decide (blkOf L y.seat = b))
def mayE (L : List MSpot) (before : List MSit) (x : MSit) : Int :=
  if (findS L x.seat).isSome = false then 14 else if oneE x.who (spotAt L x.seat) ≠ 0 then oneE x.who (spotAt L x.seat) else if 0 < takenN before x.seat then 17 else if x.who.inf = true ∧ 1 ≤ infN L before (blkOf L x.seat) then 18 else 0
def sitE (L : List MSpot) : List MSit → List MSit → Int
  | _, [] => 0
  | before, x :: t => if mayE L before x ≠ 0 then mayE L before x else sitE L (before ++ [x]) t
def allE (rows : List MRow) (l : List MSit) : Int := if checkL rows then sitE (spotsL rows) [] l else 13
def freeL (rows : List MRow) (x : MWho) (l : List MSit) : List MSeat :=
  if checkL rows = true ∧ sitE (spotsL rows) [] l = 0 then ((spotsL rows).filter (fun s => decide (mayE (spotsL rows) l ⟨x, s.seat⟩ = 0))).map (·.seat) else []
theorem takenN_snoc (l : List MSit) (x : MSit) (q : MSeat) : takenN (l ++ [x]) q = if q = x.seat then takenN l q + 1 else takenN l q := by
  unfold takenN
  rw [List.countP_append, List.countP_singleton]
  by_cases h : q = x.seat
  · rw [if_pos h, if_pos (by simp [h])]
  · rw [if_neg h, if_neg (by simpa using fun e => h e.symm)]; rfl
theorem infN_snoc (L : List MSpot) (l : List MSit) (x : MSit) (b : Int) : infN L (l ++ [x]) b = if x.who.inf = true ∧ b = blkOf L x.seat then infN L l b + 1 else infN L l b := by
  unfold infN
  rw [List.countP_append, List.countP_singleton]
  by_cases h : x.who.inf = true ∧ b = blkOf L x.seat
  · rw [if_pos h, if_pos (by simp [h.1, h.2])]
  · rw [if_neg h, if_neg (by
      simp only [Bool.and_eq_true, decide_eq_true_eq]
      exact fun e => h ⟨e.1, e.2.symm⟩)]; rfl
theorem takenN_le (l : List MSit) (q : MSeat) : takenN l q ≤ l.length := List.countP_le_length
theorem infN_le (L : List MSpot) (l : List MSit) (b : Int) : infN L l b ≤ l.length := List.countP_le_length
theorem findS_some {L : List MSpot} {q : MSeat} {s : MSpot} (h : findS L q = some s) : s ∈ L ∧ s.seat = q := by
  unfold findS at h
  exact ⟨List.mem_of_find?_eq_some h, by simpa using List.find?_some h⟩
theorem findS_isSome {L : List MSpot} {q : MSeat} : (findS L q).isSome = true ↔ q ∈ L.map (·.seat) := by
  unfold findS
  rw [List.find?_isSome]
  simp
/-- Seats rise within a row .. -/
theorem spotsB_rise (r : MRow) : ∀ (l : List UInt8) (dot : Bool) (n : Nat) (last : UInt8) (b : Int), seatsGo dot n last l = true →
    (spotsB r l b).Pairwise (fun x y => x.seat ≠ y.seat) ∧ ∀ x ∈ spotsB r l b, x.seat.num = r.num ∧ last.toNat < x.seat.ltr.toNat := by
  intro l
  induction l with
  | nil => intro _ _ _ _ _; simp [spotsB]
  | cons c t ih =>
    intro dot n last b h
    simp only [seatsGo] at h
    simp only [spotsB]
    split at h
    · rename_i h46
      rw [if_pos h46]
      split at h
      · cases h
      · exact ih _ _ _ _ h
    · rename_i h46
      rw [if_neg h46]
      split at h
      · cases h
      · rename_i hg
        obtain ⟨h1, h2⟩ := ih _ _ _ b h
        have hlt : last.toNat < (greatB c).toNat := Nat.lt_of_not_le fun h => hg (.inr h)
        refine ⟨List.pairwise_cons.2 ⟨fun y hy e => ?_, h1⟩, fun x hx => ?_⟩
        · have := (h2 y hy).2
          rw [← e] at this
          exact Nat.lt_irrefl _ this
        · rcases List.mem_cons.1 hx with rfl | hx
          · exact ⟨rfl, hlt⟩
          · exact ⟨(h2 x hx).1, Nat.lt_trans hlt (h2 x hx).2⟩
/-- .. and from row to row. -/
theorem spotsAll_rise : ∀ (l : List MRow) (last : Int) (b : Int), checkGo last l = true → (spotsAll l b).Pairwise (fun x y => x.seat ≠ y.seat) ∧ ∀ x ∈ spotsAll l b, last < x.seat.num ∧ x.seat.num ≤ 99 := by
  intro l
  induction l with
  | nil => intro _ _ _; simp [spotsAll]
  | cons r t ih =>
    intro last b h
    simp only [checkGo, rowOk, Bool.and_eq_true, decide_eq_true_eq] at h
    obtain ⟨⟨⟨⟨h1, h2⟩, _⟩, h3⟩, h4⟩ := h
    obtain ⟨a1, a2⟩ := spotsB_rise r _ _ _ _ b h3
    obtain ⟨b1, b2⟩ := ih r.num (b + dotsN r.seats.data.toList + 1) h4
    simp only [spotsAll]
    refine ⟨List.pairwise_append.2 ⟨a1, b1, fun x hx y hy e => ?_⟩, fun x hx => ?_⟩
    · have := (a2 x hx).1
      have := (b2 y hy).1
      rw [← e] at this
      omega
    · rcases List.mem_append.1 hx with hx | hx
      · have := (a2 x hx).1; omega
      · have := b2 x hx; omega
theorem spots_distinct (l : List MRow) : (spotsL l).Pairwise (fun x y => x.seat ≠ y.seat) ∧ ∀ x ∈ spotsL l, 0 < x.seat.num ∧ x.seat.num ≤ 99 := by
  unfold spotsL
  split
  · rename_i h
    unfold checkL at h
    simp only [Bool.and_eq_true] at h
    exact spotsAll_rise l 0 0 h.2
  · simp
/-- One spot more. -/
theorem spotAt_snoc {L : List MSpot} {s : MSpot} (h : ∀ x ∈ L, x.seat ≠ s.seat) (q : MSeat) : spotAt (L ++ [s]) q = (if q = s.seat then s else spotAt L q) ∧ (findS (L ++ [s]) q).isSome = (if q = s.seat then true else (findS L q).isSome) := by
  have hn : findS L s.seat = none := by
    unfold findS
    rw [List.find?_eq_none]
    intro x hx
    simpa using h x hx
  have e : findS (L ++ [s]) q = (findS L q).or (if s.seat = q then some s else none) := by
    unfold findS
    rw [List.find?_append]
    by_cases hq : s.seat = q <;> simp [hq]
  unfold spotAt
  rw [e]
  by_cases hq : q = s.seat
  · subst hq
    rw [hn]
    simp
  · rw [if_neg (fun e => hq e.symm), if_neg hq, if_neg hq]
    simp
end Go.Proofs.YtddiabpjmnmllaaDoor
