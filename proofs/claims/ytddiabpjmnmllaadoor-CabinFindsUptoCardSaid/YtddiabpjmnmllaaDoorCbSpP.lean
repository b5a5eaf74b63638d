/- Cabins: seats and spots, in plain words. -/
import Derived.Test.YtddiabpjmnmllaaDoorCbRow
namespace Go.Proofs.YtddiabpjmnmllaaDoor
open Go.RowKit Go.Lib
structure MSeat where
  num : Int
  ltr : UInt8
structure MSpot where
  seat : MSeat
  cab : Int
  zone : Int
  blk : Int
  exit : Bool
  blocked : Bool
def seatC (s : MSeat) : List Value := [.int .i64 s.num, .int .u8 (s.ltr.toNat : Int)]
def spotC (s : MSpot) : List Value := [.int .i64 s.seat.num, .int .u8 (s.seat.ltr.toNat : Int), .int .i64 s.cab, .int .i64 s.zone, .int .i64 s.blk, .bool s.exit, .bool s.blocked]
theorem seatC_len (s : MSeat) : (seatC s).length = 2 := rfl
theorem spotC_len (s : MSpot) : (spotC s).length = 7 := rfl
theorem seatC_cell (s : MSeat) : ∀ u ∈ seatC s, u.oneCell' = true := by intro u hu; simp [seatC] at hu; rcases hu with rfl | rfl <;> rfl
theorem spotC_cell (s : MSpot) : ∀ u ∈ spotC s, u.oneCell' = true := by
  intro u hu
  simp [spotC] at hu
  rcases hu with rfl | rfl | rfl | rfl | rfl | rfl | rfl <;> rfl
/-- The spot of a letter. -/
def spotOf (r : MRow) (c : UInt8) (b : Int) : MSpot := ⟨⟨r.num, greatB c⟩, r.cab, r.zone, b, r.exit, decide (greatB c ≠ c)⟩
/-- The spots of a row's letters, from block b on. -/
def spotsB (r : MRow) : List UInt8 → Int → List MSpot
  | [], _ => []
  | c :: t, b => if c = 46 then spotsB r t (b + 1) else spotOf r c b :: spotsB r t b
def dotsN : List UInt8 → Nat
  | [] => 0
  | c :: t => if c = 46 then dotsN t + 1 else dotsN t
def spotsAll : List MRow → Int → List MSpot
  | [], _ => []
  | r :: rs, b => spotsB r r.seats.data.toList b ++ spotsAll rs (b + dotsN r.seats.data.toList + 1)
def spotsL (l : List MRow) : List MSpot := if checkL l then spotsAll l 0 else []
/-- How many spots: at most six a row. -/
theorem dots_le : ∀ l : List UInt8, dotsN l ≤ l.length := by
  intro l
  induction l with
  | nil => simp [dotsN]
  | cons c t ih => simp only [dotsN, List.length_cons]; split <;> omega
theorem spotsB_len : ∀ (r : MRow) (l : List UInt8) (b : Int), (spotsB r l b).length + dotsN l = l.length := by
  intro r l
  induction l with
  | nil => intro b; simp [spotsB, dotsN]
  | cons c t ih =>
    intro b
    simp only [spotsB, dotsN]
    split
    · have := ih (b + 1); simp only [List.length_cons]; omega
    · have := ih b; simp only [List.length_cons]; omega
theorem seats_count : ∀ (l : List UInt8) (dot : Bool) (n : Nat) (last : UInt8), seatsGo dot n last l = true → n + (l.length - dotsN l) ≤ 6 ∧ dotsN l + (if dot then 1 else 0) ≤ l.length - dotsN l := by
  intro l
  induction l with
  | nil =>
    intro dot n last h
    simp only [seatsGo, Bool.and_eq_true, Bool.not_eq_true', decide_eq_true_eq] at h
    obtain ⟨rfl, h⟩ := h
    simp [dotsN]; omega
  | cons c t ih =>
    intro dot n last h
    have hd := dots_le t
    simp only [seatsGo] at h
    simp only [dotsN, List.length_cons]
    split at h
    · rename_i h46
      split at h
      · cases h
      · rename_i hdot
        have := ih _ _ _ h
        rw [if_pos h46]
        simp only [if_true] at this
        rw [if_neg hdot]
        omega
    · rename_i h46
      split at h
      · cases h
      · have := ih _ _ _ h
        rw [if_neg h46]
        simp only [Bool.false_eq_true, if_false] at this
        split <;> omega
/-- A right row is short: at most eleven signs. -/
theorem seats_short {s : ByteArray} (h : seatsOk s = true) : s.data.toList.length ≤ 11 ∧ dotsN s.data.toList ≤ 5 := by
  have := seats_count _ _ _ _ h
  have hd := dots_le s.data.toList
  simp only [if_true] at this
  omega
theorem check_rows : ∀ (l : List MRow) (last : Int), checkGo last l = true → ∀ r ∈ l, seatsOk r.seats = true ∧ 1 ≤ r.cab ∧ r.cab ≤ 3 ∧ last < r.num ∧ r.num ≤ 99 := by
  intro l
  induction l with
  | nil => intro _ _ r hr; cases hr
  | cons x t ih =>
    intro last h r hr
    simp only [checkGo, rowOk, Bool.and_eq_true, decide_eq_true_eq] at h
    rcases List.mem_cons.1 hr with rfl | hr
    · exact ⟨h.1.2, h.1.1.1.2.1, h.1.1.1.2.2, h.1.1.1.1.1, h.1.1.1.1.2⟩
    · have := ih _ h.2 r hr
      exact ⟨this.1, this.2.1, this.2.2.1, by omega, this.2.2.2.2⟩
theorem letter_ok : ∀ (l : List UInt8) (dot : Bool) (n : Nat) (last : UInt8), seatsGo dot n last l = true → ∀ c ∈ l, c ≠ 46 → greatB c ≠ 0 := by
  intro l
  induction l with
  | nil => intro _ _ _ _ c hc; cases hc
  | cons d t ih =>
    intro dot n last h c hc h46
    simp only [seatsGo] at h
    split at h
    · rename_i hd
      split at h
      · cases h
      · rcases List.mem_cons.1 hc with rfl | hc
        · exact absurd hd h46
        · exact ih _ _ _ h c hc h46
    · split at h
      · cases h
      · rename_i hg
        rcases List.mem_cons.1 hc with rfl | hc
        · exact fun h => hg (.inl h)
        · exact ih _ _ _ h c hc h46
end Go.Proofs.YtddiabpjmnmllaaDoor
