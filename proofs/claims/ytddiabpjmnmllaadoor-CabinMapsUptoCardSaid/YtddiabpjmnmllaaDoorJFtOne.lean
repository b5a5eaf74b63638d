/- Cabins: rows; both Checks, walked. -/
import Derived.Test.YtddiabpjmnmllaaDoorJCbChk
namespace Go.Proofs.YtddiabpjmnmllaaDoor
open Go.RowKit Go.Lib
/-- A row of a map. -/
structure MRow where
  num : Int
  cab : Int
  zone : Int
  exit : Bool
  seats : ByteArray
def rowC (r : MRow) : List Value := [.int .i64 r.num, .int .i64 r.cab, .int .i64 r.zone, .bool r.exit, .string r.seats]
theorem rowC_len (r : MRow) : (rowC r).length = 5 := rfl
/-- What a row that came in may hold. -/
def MRow.fits (r : MRow) : Prop := (-9223372036854775808 ≤ r.num ∧ r.num ≤ 9223372036854775807) ∧ r.seats.size ≤ 1048576
def rowOk (last : Int) (r : MRow) : Bool := decide (last < r.num ∧ r.num ≤ 99) && decide (1 ≤ r.cab ∧ r.cab ≤ 3) && decide (0 ≤ r.zone ∧ r.zone ≤ 3) && seatsOk r.seats
def checkGo : Int → List MRow → Bool
  | _, [] => true
  | last, r :: t => rowOk last r && checkGo r.num t
def checkL (l : List MRow) : Bool := decide (1 ≤ l.length ∧ l.length ≤ 6) && checkGo 0 l
def errC (l : List MRow) : Int := if checkL l then 0 else 13
def lastNum (l : List MRow) (k : Nat) : Int := if k = 0 then 0 else (l[k - 1]?.map (·.num)).getD 0
theorem lastNum_succ {l : List MRow} {k : Nat} (hk : k < l.length) : lastNum l (k + 1) = l[k].num := by
  unfold lastNum
  rw [if_neg (by omega), Nat.add_sub_cancel, List.getElem?_eq_getElem hk]
  rfl
theorem rowOk_iff {last : Int} {r : MRow} : rowOk last r = (((decide (last < r.num ∧ r.num ≤ 99) && decide (1 ≤ r.cab ∧ r.cab ≤ 3)) && decide (0 ≤ r.zone ∧ r.zone ≤ 3)) && seatsOk r.seats) := rfl
set_option maxHeartbeats 4000000 in
set_option maxRecDepth 20000 in
theorem rcheck_any (w : World) (A : Option Addr) (n c : Nat) (l : List MRow) (hr : Rd w w.heap.size 5 A n (catv rowC l)) (hf : ∀ r ∈ l, r.fits) :
    Calls Tryd.prog 22 #[.slice A n c] w fun e w' => e = .returned (.int .i64 (errC l)) ∧ Below w.heap.size w w' := by
  have HL := Lib.hid (rd_catlen rowC_len (by decide) hr)
  have HR := Lib.hid hr
  have HF := Lib.hid hf
  obtain ⟨E, hE⟩ : ∃ E, errC l = E := ⟨_, rfl⟩
  have HE := Lib.hid hE
  rw [hE]
  clear hr hf hE
  go_enter Tryd.func22, Tryd.ntmps22
  have bad : checkL l = false → E = 13 := fun h => by rw [← HE.out]; unfold errC; rw [h]; rfl
  have HBAD := Lib.hid bad
  clear bad
  by_cases h1 : n < 1
  · have y1 : decide ((n : Int) < 1) = true := decide_eq_true (by omega)
    have HX : Hid (E = 13) := Lib.hid (HBAD.out (by unfold checkL; rw [decide_eq_false (by rw [← HL.out]; omega)]; rfl))
    go_wp2
    go_ret
    exact ⟨ret_int HX.out.symm, Below.refl _ _⟩
  have y1 : decide ((n : Int) < 1) = false := decide_eq_false (by omega)
  by_cases h6 : 6 < n
  · have y2 : decide ((n : Int) > 6) = true := decide_eq_true (by omega)
    have HX : Hid (E = 13) := Lib.hid (HBAD.out (by unfold checkL; rw [decide_eq_false (by rw [← HL.out]; omega)]; rfl))
    go_wp2
    go_ret
    exact ⟨ret_int HX.out.symm, Below.refl _ _⟩
  have y2 : decide ((n : Int) > 6) = false := decide_eq_false (by omega)
  have hcl : checkL l = checkGo 0 l := by unfold checkL; rw [decide_eq_true (by rw [← HL.out]; omega), Bool.true_and]
  have HCL := Lib.hid hcl
  clear hcl
  go_wp2
  go_loopw [3, 16] (fun lv i wx => ∃ k : Nat, k ≤ n ∧ i = .int .i64 (k : Int) ∧ lv = .int .i64 (lastNum l k) ∧ Hid (checkL l = checkGo (lastNum l k) (l.drop k)) ∧ Hid (Below w.heap.size w wx)) (fun _ i _ => n - (intOf i).toNat)
  case atStart => exact ⟨0, Nat.zero_le _, rfl, by unfold lastNum; rw [if_pos rfl], Lib.hid (by unfold lastNum; rw [if_pos rfl]; exact HCL.out), Lib.hid (Below.refl _ _)⟩
  case round =>
    obtain ⟨k, hk, rfl, rfl, hG, hW⟩ := hrel
    by_cases hlt : k < n
    · obtain ⟨b, off, rfl, hb, hs, hcc⟩ := (HR.out.below hW.out).elem rowC_len (by decide) hlt
      have hG2 := hG.out
      rw [List.drop_eq_getElem_cons hs, checkGo] at hG2
      have hln := lastNum_succ hs
      have hfit := HF.out l[k] (List.getElem_mem hs)
      obtain ⟨r, hr⟩ : ∃ r, l[k] = r := ⟨_, rfl⟩
      rw [hr] at hcc hG2 hln hfit
      obtain ⟨r1, r2, r3, r4, r5⟩ := r
      have c0 := hcc 0 _ rfl
      have c1 := hcc 1 _ rfl
      have c2 := hcc 2 _ rfl
      have c3 := hcc 3 _ rfl
      have c4 := hcc 4 _ rfl
      rw [Nat.add_zero] at c0
      rw [rowOk_iff] at hG2
      simp only at hG2 hln
      have hseat := rseats_any r5
      obtain ⟨sb, hsb⟩ : ∃ sb, seatsOk r5 = sb := ⟨_, rfl⟩
      obtain ⟨last, hla⟩ : ∃ last, lastNum l k = last := ⟨_, rfl⟩
      rw [hsb, hla] at hG2
      rw [hsb] at hseat
      rw [hla]
      have HG2 := Lib.hid hG2
      have HLN := Lib.hid hln
      have HST := Lib.hid (fun W => hseat W hfit.2)
      have hws := hW.out.size
      have hb2 : Below wr.heap.size wr (wr.alloc (.cells #[.int .i64 r1, .int .i64 r2, .int .i64 r3, .bool r4, .string r5] 41)) := (Below.refl _ _).alloc (Nat.le_refl _) _
      have HW2 := Lib.hid (hW.out.trans (hb2.mono hws))
      clear hcc hG2 hln hfit hr hsb hla hseat hb2 hG hW
      have fin : ∀ x : Bool, (rowOk last ⟨r1, r2, r3, r4, r5⟩ = x) → True := fun _ _ => trivial
      clear fin
      by_cases q1 : r1 ≤ last
      · have s1 : decide (r1 ≤ last) = true := decide_eq_true q1
        have HX : Hid (E = 13) := Lib.hid (HBAD.out (by rw [HG2.out, decide_eq_false (by omega)]; simp))
        go_wp2
        go_ret
        exact ⟨ret_int HX.out.symm, HW2.out⟩
      have s1 : decide (r1 ≤ last) = false := decide_eq_false q1
      by_cases q2 : 99 < r1
      · have s2 : decide (r1 > 99) = true := decide_eq_true q2
        have HX : Hid (E = 13) := Lib.hid (HBAD.out (by rw [HG2.out, decide_eq_false (by omega)]; simp))
        go_wp2
        go_ret
        exact ⟨ret_int HX.out.symm, HW2.out⟩
      have s2 : decide (r1 > 99) = false := decide_eq_false q2
      have e1 : decide (last < r1 ∧ r1 ≤ 99) = true := decide_eq_true (by omega)
      rw [e1, Bool.true_and] at HG2
      clear e1 q1 q2
      by_cases q3 : r2 < 1
      · have s3 : decide (r2 < 1) = true := decide_eq_true q3
        have HX : Hid (E = 13) := Lib.hid (HBAD.out (by rw [HG2.out, decide_eq_false (by omega)]; simp))
        go_wp2
        go_ret
        exact ⟨ret_int HX.out.symm, HW2.out⟩
      have s3 : decide (r2 < 1) = false := decide_eq_false q3
      by_cases q4 : 3 < r2
      · have s4 : decide (r2 > 3) = true := decide_eq_true q4
        have HX : Hid (E = 13) := Lib.hid (HBAD.out (by rw [HG2.out, decide_eq_false (by omega)]; simp))
        go_wp2
        go_ret
        exact ⟨ret_int HX.out.symm, HW2.out⟩
      have s4 : decide (r2 > 3) = false := decide_eq_false q4
      have e1 : decide (1 ≤ r2 ∧ r2 ≤ 3) = true := decide_eq_true (by omega)
      rw [e1, Bool.true_and] at HG2
      clear e1 q3 q4
      by_cases q5 : r3 < 0
      · have s5 : decide (r3 < 0) = true := decide_eq_true q5
        have HX : Hid (E = 13) := Lib.hid (HBAD.out (by rw [HG2.out, decide_eq_false (by omega)]; simp))
        go_wp2
        go_ret
        exact ⟨ret_int HX.out.symm, HW2.out⟩
      have s5 : decide (r3 < 0) = false := decide_eq_false q5
      by_cases q6 : 4 ≤ r3
      · have s6 : decide (r3 ≥ 4) = true := decide_eq_true q6
        have HX : Hid (E = 13) := Lib.hid (HBAD.out (by rw [HG2.out, decide_eq_false (by omega)]; simp))
        go_wp2
        go_ret
        exact ⟨ret_int HX.out.symm, HW2.out⟩
      have s6 : decide (r3 ≥ 4) = false := decide_eq_false q6
      have e1 : decide (0 ≤ r3 ∧ r3 ≤ 3) = true := decide_eq_true (by omega)
      rw [e1, Bool.true_and] at HG2
      clear e1 q5 q6
      go_wp2_with fail
      refine (HST.out _).mono ?_
      rintro e w2 ⟨rfl, rfl⟩
      cases sb with
      | false =>
        have HX : Hid (E = 13) := Lib.hid (HBAD.out (by rw [HG2.out]; simp))
        go_wp2
        go_ret
        exact ⟨ret_int HX.out.symm, HW2.out⟩
      | true =>
        have HG3 : Hid (checkL l = checkGo (lastNum l (k + 1)) (l.drop (k + 1))) := Lib.hid (by rw [HG2.out, HLN.out, Bool.true_and])
        have HLN2 : Hid (r1 = lastNum l (k + 1)) := Lib.hid HLN.out.symm
        clear HG2 HLN HST
        go_wp2
        go_roundw
        case rel => exact ⟨k + 1, by omega, by go_num, by rw [HLN2.out], HG3, HW2⟩
        case measure => simp [intOf]; omega
    · have hG2 := hG.out
      rw [List.drop_eq_nil_of_le (by rw [← HL.out]; omega), checkGo] at hG2
      have HX : Hid (E = 0) := Lib.hid (by rw [← HE.out]; unfold errC; rw [hG2]; rfl)
      have hz : ¬ (k : Int) < (n : Int) := by omega
      clear hG2 hG
      go_wp2
      go_ret
      exact ⟨ret_int HX.out.symm, hW.out⟩
end Go.Proofs.YtddiabpjmnmllaaDoor
/- Cabins: seats and spots, in plain words. -/
namespace Go.Proofs.YtddiabpjmnmllaaDoor
open Go.RowKit Go.Lib
structure MSeat where
  num : Int
  ltr : UInt8
structure MSpot where
  seat : MSeat
  cab : Int
  zone : Int
  blk : Int
  exit : Bool
  blocked : Bool
def seatC (s : MSeat) : List Value := [.int .i64 s.num, .int .u8 (s.ltr.toNat : Int)]
def spotC (s : MSpot) : List Value := [.int .i64 s.seat.num, .int .u8 (s.seat.ltr.toNat : Int), .int .i64 s.cab, .int .i64 s.zone, .int .i64 s.blk, .bool s.exit, .bool s.blocked]
theorem seatC_len (s : MSeat) : (seatC s).length = 2 := rfl
theorem spotC_len (s : MSpot) : (spotC s).length = 7 := rfl
theorem seatC_cell (s : MSeat) : ∀ u ∈ seatC s, u.oneCell' = true := by intro u hu; simp [seatC] at hu; rcases hu with rfl | rfl <;> rfl
theorem spotC_cell (s : MSpot) : ∀ u ∈ spotC s, u.oneCell' = true := by
  intro u hu
  simp [spotC] at hu
  rcases hu with rfl | rfl | rfl | rfl | rfl | rfl | rfl <;> rfl
/-- The spot of a letter. -/
def spotOf (r : MRow) (c : UInt8) (b : Int) : MSpot := ⟨⟨r.num, greatB c⟩, r.cab, r.zone, b, r.exit, decide (greatB c ≠ c)⟩
/-- The spots of a row's letters, from block b on. -/
def spotsB (r : MRow) : List UInt8 → Int → List MSpot
  | [], _ => []
  | c :: t, b => if c = 46 then spotsB r t (b + 1) else spotOf r c b :: spotsB r t b
def dotsN : List UInt8 → Nat
  | [] => 0
  | c :: t => if c = 46 then dotsN t + 1 else dotsN t
def spotsAll : List MRow → Int → List MSpot
  | [], _ => []
  | r :: rs, b => spotsB r r.seats.data.toList b ++ spotsAll rs (b + dotsN r.seats.data.toList + 1)
def spotsL (l : List MRow) : List MSpot := if checkL l then spotsAll l 0 else []
/-- How many spots: at most six a row. -/
theorem dots_le : ∀ l : List UInt8, dotsN l ≤ l.length := by
  intro l
  induction l with
  | nil => simp [dotsN]
  | cons c t ih => simp only [dotsN, List.length_cons]; split <;> omega
theorem spotsB_len : ∀ (r : MRow) (l : List UInt8) (b : Int), (spotsB r l b).length + dotsN l = l.length := by
  intro r l
  induction l with
  | nil => intro b; simp [spotsB, dotsN]
  | cons c t ih =>
    intro b
    simp only [spotsB, dotsN]
    split
    · have := ih (b + 1); simp only [List.length_cons]; omega
    · have := ih b; simp only [List.length_cons]; omega
theorem seats_count : ∀ (l : List UInt8) (dot : Bool) (n : Nat) (last : UInt8), seatsGo dot n last l = true → n + (l.length - dotsN l) ≤ 6 ∧ dotsN l + (if dot then 1 else 0) ≤ l.length - dotsN l := by
  intro l
  induction l with
  | nil =>
    intro dot n last h
    simp only [seatsGo, Bool.and_eq_true, Bool.not_eq_true', decide_eq_true_eq] at h
    obtain ⟨rfl, h⟩ := h
    simp [dotsN]; omega
  | cons c t ih =>
    intro dot n last h
    have hd := dots_le t
    simp only [seatsGo] at h
    simp only [dotsN, List.length_cons]
    split at h
    · rename_i h46
      split at h
      · cases h
      · rename_i hdot
        have := ih _ _ _ h
        rw [if_pos h46]
        simp only [if_true] at this
        rw [if_neg hdot]
        omega
    · rename_i h46
      split at h
      · cases h
      · have := ih _ _ _ h
        rw [if_neg h46]
        simp only [Bool.false_eq_true, if_false] at this
        split <;> omega
/-- A right row is short: at most eleven signs. -/
theorem seats_short {s : ByteArray} (h : seatsOk s = true) : s.data.toList.length ≤ 11 ∧ dotsN s.data.toList ≤ 5 := by
  have := seats_count _ _ _ _ h
  have hd := dots_le s.data.toList
  simp only [if_true] at this
  omega
theorem check_rows : ∀ (l : List MRow) (last : Int), checkGo last l = true → ∀ r ∈ l, seatsOk r.seats = true ∧ 1 ≤ r.cab ∧ r.cab ≤ 3 ∧ last < r.num ∧ r.num ≤ 99 := by
  intro l
  induction l with
  | nil => intro _ _ r hr; cases hr
  | cons x t ih =>
    intro last h r hr
    simp only [checkGo, rowOk, Bool.and_eq_true, decide_eq_true_eq] at h
    rcases List.mem_cons.1 hr with rfl | hr
    · exact ⟨h.1.2, h.1.1.1.2.1, h.1.1.1.2.2, h.1.1.1.1.1, h.1.1.1.1.2⟩
    · have := ih _ h.2 r hr
      exact ⟨this.1, this.2.1, this.2.2.1, by omega, this.2.2.2.2⟩
theorem letter_ok : ∀ (l : List UInt8) (dot : Bool) (n : Nat) (last : UInt8), seatsGo dot n last l = true → ∀ c ∈ l, c ≠ 46 → greatB c ≠ 0 := by
  intro l
  induction l with
  | nil => intro _ _ _ _ c hc; cases hc
  | cons d t ih =>
    intro dot n last h c hc h46
    simp only [seatsGo] at h
    split at h
    · rename_i hd
      split at h
      · cases h
      · rcases List.mem_cons.1 hc with rfl | hc
        · exact absurd hd h46
        · exact ih _ _ _ h c hc h46
    · split at h
      · cases h
      · rename_i hg
        rcases List.mem_cons.1 hc with rfl | hc
        · exact fun h => hg (.inl h)
        · exact ih _ _ _ h c hc h46
end Go.Proofs.YtddiabpjmnmllaaDoor
/- Seating, in plain words: who may sit where. -/
namespace Go.Proofs.YtddiabpjmnmllaaDoor
open Go.RowKit Go.Lib
deriving instance DecidableEq for MSeat
deriving instance DecidableEq for MSpot
structure MWho where
  cab : Int
  fit : Bool
  inf : Bool
deriving instance DecidableEq for MWho
structure MSit where
  who : MWho
  seat : MSeat
deriving instance DecidableEq for MSit
def sitC (x : MSit) : List Value := [.int .i64 x.who.cab, .bool x.who.fit, .bool x.who.inf, .int .i64 x.seat.num, .int .u8 (x.seat.ltr.toNat : Int)]
theorem sitC_len (x : MSit) : (sitC x).length = 5 := rfl
theorem sitC_cell (x : MSit) : ∀ u ∈ sitC x, u.oneCell' = true := by
  intro u hu
  simp [sitC] at hu
  rcases hu with rfl | rfl | rfl | rfl | rfl <;> rfl
/-- What a seat that came in may hold. -/
def MSeat.fits (s : MSeat) : Prop := -9223372036854775808 ≤ s.num ∧ s.num ≤ 9223372036854775807
def seatV (s : MSeat) : Value := .agg #[.int .i64 s.num, .int .u8 (s.ltr.toNat : Int)]
def spotV (s : MSpot) : Value := .agg #[.int .i64 s.seat.num, .int .u8 (s.seat.ltr.toNat : Int), .int .i64 s.cab, .int .i64 s.zone, .int .i64 s.blk, .bool s.exit, .bool s.blocked]
def spotZ : MSpot := ⟨⟨0, 0⟩, 0, 0, 0, false, false⟩
theorem seatInj : ∀ x y : MSeat, seatV x = seatV y → x = y := by
  rintro ⟨a, b⟩ ⟨c, d⟩ h
  unfold seatV at h
  injection h with h
  have a0 := congrArg (fun a => a[0]?) h
  have a1 := congrArg (fun a => a[1]?) h
  simp at a0 a1
  rw [a0, UInt8.toNat_inj.1 (by omega : b.toNat = d.toNat)]
def oneE (x : MWho) (s : MSpot) : Int := if s.blocked = true then 15 else if x.cab ≠ s.cab ∨ (s.exit = true ∧ (x.fit = false ∨ x.inf = true)) then 16 else 0
def findS (L : List MSpot) (q : MSeat) : Option MSpot := L.find? (fun x => decide (x.seat = q))
def spotAt (L : List MSpot) (q : MSeat) : MSpot := (findS L q).getD spotZ
def blkOf (L : List MSpot) (q : MSeat) : Int := (spotAt L q).blk
def takenN (l : List MSit) (q : MSeat) : Nat := l.countP (fun y => decide (y.seat = q))
def infN (L : List MSpot) (l : List MSit) (b : Int) : Nat := l.countP (fun y => y.who.inf && decide (blkOf L y.seat = b))
def mayE (L : List MSpot) (before : List MSit) (x : MSit) : Int :=
  if (findS L x.seat).isSome = false then 14 else if oneE x.who (spotAt L x.seat) ≠ 0 then oneE x.who (spotAt L x.seat) else if 0 < takenN before x.seat then 17 else if x.who.inf = true ∧ 1 ≤ infN L before (blkOf L x.seat) then 18 else 0
def sitE (L : List MSpot) : List MSit → List MSit → Int
  | _, [] => 0
  | before, x :: t => if mayE L before x ≠ 0 then mayE L before x else sitE L (before ++ [x]) t
def allE (rows : List MRow) (l : List MSit) : Int := if checkL rows then sitE (spotsL rows) [] l else 13
def freeL (rows : List MRow) (x : MWho) (l : List MSit) : List MSeat :=
  if checkL rows = true ∧ sitE (spotsL rows) [] l = 0 then ((spotsL rows).filter (fun s => decide (mayE (spotsL rows) l ⟨x, s.seat⟩ = 0))).map (·.seat) else []
theorem takenN_snoc (l : List MSit) (x : MSit) (q : MSeat) : takenN (l ++ [x]) q = if q = x.seat then takenN l q + 1 else takenN l q := by
  unfold takenN
  rw [List.countP_append, List.countP_singleton]
  by_cases h : q = x.seat
  · rw [if_pos h, if_pos (by simp [h])]
  · rw [if_neg h, if_neg (by simpa using fun e => h e.symm)]; rfl
theorem infN_snoc (L : List MSpot) (l : List MSit) (x : MSit) (b : Int) : infN L (l ++ [x]) b = if x.who.inf = true ∧ b = blkOf L x.seat then infN L l b + 1 else infN L l b := by
  unfold infN
  rw [List.countP_append, List.countP_singleton]
  by_cases h : x.who.inf = true ∧ b = blkOf L x.seat
  · rw [if_pos h, if_pos (by simp [h.1, h.2])]
  · rw [if_neg h, if_neg (by
      simp only [Bool.and_eq_true, decide_eq_true_eq]
      exact fun e => h ⟨e.1, e.2.symm⟩)]; rfl
theorem takenN_le (l : List MSit) (q : MSeat) : takenN l q ≤ l.length := List.countP_le_length
theorem infN_le (L : List MSpot) (l : List MSit) (b : Int) : infN L l b ≤ l.length := List.countP_le_length
theorem findS_some {L : List MSpot} {q : MSeat} {s : MSpot} (h : findS L q = some s) : s ∈ L ∧ s.seat = q := by
  unfold findS at h
  exact ⟨List.mem_of_find?_eq_some h, by simpa using List.find?_some h⟩
theorem findS_isSome {L : List MSpot} {q : MSeat} : (findS L q).isSome = true ↔ q ∈ L.map (·.seat) := by
  unfold findS
  rw [List.find?_isSome]
  simp
/-- Seats rise within a row .. -/
theorem spotsB_rise (r : MRow) : ∀ (l : List UInt8) (dot : Bool) (n : Nat) (last : UInt8) (b : Int), seatsGo dot n last l = true →
    (spotsB r l b).Pairwise (fun x y => x.seat ≠ y.seat) ∧ ∀ x ∈ spotsB r l b, x.seat.num = r.num ∧ last.toNat < x.seat.ltr.toNat := by
  intro l
  induction l with
  | nil => intro _ _ _ _ _; simp [spotsB]
  | cons c t ih =>
    intro dot n last b h
    simp only [seatsGo] at h
    simp only [spotsB]
    split at h
    · rename_i h46
      rw [if_pos h46]
      split at h
      · cases h
      · exact ih _ _ _ _ h
    · rename_i h46
      rw [if_neg h46]
      split at h
      · cases h
      · rename_i hg
        obtain ⟨h1, h2⟩ := ih _ _ _ b h
        have hlt : last.toNat < (greatB c).toNat := Nat.lt_of_not_le fun h => hg (.inr h)
        refine ⟨List.pairwise_cons.2 ⟨fun y hy e => ?_, h1⟩, fun x hx => ?_⟩
        · have := (h2 y hy).2
          rw [← e] at this
          exact Nat.lt_irrefl _ this
        · rcases List.mem_cons.1 hx with rfl | hx
          · exact ⟨rfl, hlt⟩
          · exact ⟨(h2 x hx).1, Nat.lt_trans hlt (h2 x hx).2⟩
/-- .. and from row to row. -/
theorem spotsAll_rise : ∀ (l : List MRow) (last : Int) (b : Int), checkGo last l = true → (spotsAll l b).Pairwise (fun x y => x.seat ≠ y.seat) ∧ ∀ x ∈ spotsAll l b, last < x.seat.num ∧ x.seat.num ≤ 99 := by
  intro l
  induction l with
  | nil => intro _ _ _; simp [spotsAll]
  | cons r t ih =>
    intro last b h
    simp only [checkGo, rowOk, Bool.and_eq_true, decide_eq_true_eq] at h
    obtain ⟨⟨⟨⟨h1, h2⟩, _⟩, h3⟩, h4⟩ := h
    obtain ⟨a1, a2⟩ := spotsB_rise r _ _ _ _ b h3
    obtain ⟨b1, b2⟩ := ih r.num (b + dotsN r.seats.data.toList + 1) h4
    simp only [spotsAll]
    refine ⟨List.pairwise_append.2 ⟨a1, b1, fun x hx y hy e => ?_⟩, fun x hx => ?_⟩
    · have := (a2 x hx).1
      have := (b2 y hy).1
      rw [← e] at this
      omega
    · rcases List.mem_append.1 hx with hx | hx
      · have := (a2 x hx).1; omega
      · have := b2 x hx; omega
theorem spots_distinct (l : List MRow) : (spotsL l).Pairwise (fun x y => x.seat ≠ y.seat) ∧ ∀ x ∈ spotsL l, 0 < x.seat.num ∧ x.seat.num ≤ 99 := by
  unfold spotsL
  split
  · rename_i h
    unfold checkL at h
    simp only [Bool.and_eq_true] at h
    exact spotsAll_rise l 0 0 h.2
  · simp
/-- One spot more. -/
theorem spotAt_snoc {L : List MSpot} {s : MSpot} (h : ∀ x ∈ L, x.seat ≠ s.seat) (q : MSeat) : spotAt (L ++ [s]) q = (if q = s.seat then s else spotAt L q) ∧ (findS (L ++ [s]) q).isSome = (if q = s.seat then true else (findS L q).isSome) := by
  have hn : findS L s.seat = none := by
    unfold findS
    rw [List.find?_eq_none]
    intro x hx
    simpa using h x hx
  have e : findS (L ++ [s]) q = (findS L q).or (if s.seat = q then some s else none) := by
    unfold findS
    rw [List.find?_append]
    by_cases hq : s.seat = q <;> simp [hq]
  unfold spotAt
  rw [e]
  by_cases hq : q = s.seat
  · subst hq
    rw [hn]
    simp
  · rw [if_neg (fun e => hq e.symm), if_neg hq, if_neg hq]
    simp
end Go.Proofs.YtddiabpjmnmllaaDoor
/- Seating: who fits a spot, walked. -/
namespace Go.Proofs.YtddiabpjmnmllaaDoor
open Go.RowKit Go.Lib
def whoV (x : MWho) : Value := .agg #[.int .i64 x.cab, .bool x.fit, .bool x.inf]
set_option maxHeartbeats 4000000 in
set_option maxRecDepth 20000 in
theorem one_any (w : World) (x : MWho) (s : MSpot) : Calls Tryd.prog 15 #[whoV x, spotV s] w fun e w' => e = .returned (.int .i64 (oneE x s)) ∧ Below w.heap.size w w' := by
  obtain ⟨cab, fit, inf⟩ := x
  obtain ⟨⟨num, ltr⟩, sc, sz, sb, se, sk⟩ := s
  unfold whoV spotV oneE
  simp only
  go_enter Tryd.func15, Tryd.ntmps15
  cases sk with
  | true =>
    go_wp2
    go_ret
    exact ⟨rfl, ((Below.refl _ w).alloc (Nat.le_refl _) _).alloc (by simp) _⟩
  | false =>
    by_cases hc : cab = sc
    · subst hc
      cases se <;> cases fit <;> cases inf <;> (go_wp2; go_ret; exact ⟨by simp, ((Below.refl _ w).alloc (Nat.le_refl _) _).alloc (by simp) _⟩)
    · have hd : (cab != sc) = true := by simpa using hc
      go_wp2
      go_ret
      exact ⟨by simp, ((Below.refl _ w).alloc (Nat.le_refl _) _).alloc (by simp) _⟩
set_option maxHeartbeats 4000000 in
set_option maxRecDepth 20000 in
theorem rone_any (w : World) (x : MWho) (s : MSpot) : Calls Tryd.prog 16 #[whoV x, spotV s] w fun e w' => e = .returned (.int .i64 (oneE x s)) ∧ Below w.heap.size w w' := by
  obtain ⟨cab, fit, inf⟩ := x
  obtain ⟨⟨num, ltr⟩, sc, sz, sb, se, sk⟩ := s
  unfold whoV spotV oneE
  simp only
  go_enter Tryd.func16, Tryd.ntmps16
  cases sk with
  | true =>
    go_wp2
    go_ret
    exact ⟨rfl, ((Below.refl _ w).alloc (Nat.le_refl _) _).alloc (by simp) _⟩
  | false =>
    by_cases hc : cab = sc
    · subst hc
      cases se <;> cases fit <;> cases inf <;> (go_wp2; go_ret; exact ⟨by simp, ((Below.refl _ w).alloc (Nat.le_refl _) _).alloc (by simp) _⟩)
    · have hd : (cab != sc) = true := by simpa using hc
      go_wp2
      go_ret
      exact ⟨by simp, ((Below.refl _ w).alloc (Nat.le_refl _) _).alloc (by simp) _⟩
end Go.Proofs.YtddiabpjmnmllaaDoor
