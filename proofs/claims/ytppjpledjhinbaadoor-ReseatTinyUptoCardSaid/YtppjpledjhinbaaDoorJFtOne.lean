/- Cabins: rows; both Checks, walked. -/
import Derived.Test.YtppjpledjhinbaaDoorJCbChk
namespace Go.Proofs.YtppjpledjhinbaaDoor
open Go.RowKit Go.Lib
/-- A row of a map. -/
structure MRow where
  num : Int
  cab : Int
  zone : Int
  exit : Bool
  seats : ByteArray
def rowC (r : MRow) : List Value := [.int .i64 r.num, .int .i64 r.cab, .int .i64 r.zone, .bool r.exit, .string r.seats]
theorem rowC_len (r : MRow) : (rowC r).length = 5 := rfl
/-- What a row that came in may hold. -/
def MRow.fits (r : MRow) : Prop := (-9223372036854775808 ≤ r.num ∧ r.num ≤ 9223372036854775807) ∧ r.seats.size ≤ 1048576
def rowOk (last : Int) (r : MRow) : Bool := decide (last < r.num ∧ r.num ≤ 99) && decide (1 ≤ r.cab ∧ r.cab ≤ 3) && decide (0 ≤ r.zone ∧ r.zone ≤ 3) && seatsOk r.seats
def checkGo : Int → List MRow → Bool
  | _, [] => true
  | last, r :: t => rowOk last r && checkGo r.num t
def checkL (l : List MRow) : Bool := decide (1 ≤ l.length ∧ l.length ≤ 6) && checkGo 0 l
def errC (l : List MRow) : Int := if checkL l then 0 else 13
def lastNum (l : List MRow) (k : Nat) : Int := if k = 0 then 0 else (l[k - 1]?.map (·.num)).getD 0
theorem lastNum_succ {l : List MRow} {k : Nat} (hk : k < l.length) : lastNum l (k + 1) = l[k].num := by
  unfold lastNum
  rw [if_neg (by omega), Nat.add_sub_cancel, List.getElem?_eq_getElem hk]
  rfl
theorem rowOk_iff {last : Int} {r : MRow} : rowOk last r = (((decide (last < r.num ∧ r.num ≤ 99) && decide (1 ≤ r.cab ∧ r.cab ≤ 3)) && decide (0 ≤ r.zone ∧ r.zone ≤ 3)) && seatsOk r.seats) := rfl
set_option maxHeartbeats 4000000 in
set_option maxRecDepth 20000 in
theorem rcheck_any (w : World) (A : Option Addr) (n c : Nat) (l : List MRow) (hr : Rd w w.heap.size 5 A n (catv rowC l)) (hf : ∀ r ∈ l, r.fits) :
    Calls Tryd.prog 19 #[.slice A n c] w fun e w' => e = .returned (.int .i64 (errC l)) ∧ Below w.heap.size w w' := by
  have HL := Lib.hid (rd_catlen rowC_len (by decide) hr)
  have HR := Lib.hid hr
  have HF := Lib.hid hf
  obtain ⟨E, hE⟩ : ∃ E, errC l = E := ⟨_, rfl⟩
  have HE := Lib.hid hE
  rw [hE]
  clear hr hf hE
  go_enter Tryd.func19, Tryd.ntmps19
  have bad : checkL l = false → E = 13 := fun h => by rw [← HE.out]; unfold errC; rw [h]; rfl
  have HBAD := Lib.hid bad
  clear bad
  by_cases h1 : n < 1
  · have y1 : decide ((n : Int) < 1) = true := decide_eq_true (by omega)
    have HX : Hid (E = 13) := Lib.hid (HBAD.out (by unfold checkL; rw [decide_eq_false (by rw [← HL.out]; omega)]; rfl))
    go_wp2
    go_ret
    exact ⟨ret_int HX.out.symm, Below.refl _ _⟩
  have y1 : decide ((n : Int) < 1) = false := decide_eq_false (by omega)
  by_cases h6 : 6 < n
  · have y2 : decide ((n : Int) > 6) = true := decide_eq_true (by omega)
    have HX : Hid (E = 13) := Lib.hid (HBAD.out (by unfold checkL; rw [decide_eq_false (by rw [← HL.out]; omega)]; rfl))
    go_wp2
    go_ret
    exact ⟨ret_int HX.out.symm, Below.refl _ _⟩
  have y2 : decide ((n : Int) > 6) = false := decide_eq_false (by omega)
  have hcl : checkL l = checkGo 0 l := by unfold checkL; rw [decide_eq_true (by rw [← HL.out]; omega), Bool.true_and]
  have HCL := Lib.hid hcl
  clear hcl
  go_wp2
  go_loopw [3, 16] (fun lv i wx => ∃ k : Nat, k ≤ n ∧ i = .int .i64 (k : Int) ∧ lv = .int .i64 (lastNum l k) ∧ Hid (checkL l = checkGo (lastNum l k) (l.drop k)) ∧ Hid (Below w.heap.size w wx)) (fun _ i _ => n - (intOf i).toNat)
  case atStart => exact ⟨0, Nat.zero_le _, rfl, by unfold lastNum; rw [if_pos rfl], Lib.hid (by unfold lastNum; rw [if_pos rfl]; exact HCL.out), Lib.hid (Below.refl _ _)⟩
  case round =>
    obtain ⟨k, hk, rfl, rfl, hG, hW⟩ := hrel
    by_cases hlt : k < n
    · obtain ⟨b, off, rfl, hb, hs, hcc⟩ := (HR.out.below hW.out).elem rowC_len (by decide) hlt
      have hG2 := hG.out
      rw [List.drop_eq_getElem_cons hs, checkGo] at hG2
      have hln := lastNum_succ hs
      have hfit := HF.out l[k] (List.getElem_mem hs)
      obtain ⟨r, hr⟩ : ∃ r, l[k] = r := ⟨_, rfl⟩
      rw [hr] at hcc hG2 hln hfit
      obtain ⟨r1, r2, r3, r4, r5⟩ := r
      have c0 := hcc 0 _ rfl
      have c1 := hcc 1 _ rfl
      have c2 := hcc 2 _ rfl
      have c3 := hcc 3 _ rfl
      have c4 := hcc 4 _ rfl
      rw [Nat.add_zero] at c0
      rw [rowOk_iff] at hG2
      simp only at hG2 hln
      have hseat := rseats_any r5
      obtain ⟨sb, hsb⟩ : ∃ sb, seatsOk r5 = sb := ⟨_, rfl⟩
      obtain ⟨last, hla⟩ : ∃ last, lastNum l k = last := ⟨_, rfl⟩
      rw [hsb, hla] at hG2
      rw [hsb] at hseat
      rw [hla]
      have HG2 := Lib.hid hG2
      have HLN := Lib.hid hln
      have HST := Lib.hid (fun W => hseat W hfit.2)
      have hws := hW.out.size
      have hb2 : Below wr.heap.size wr (wr.alloc (.cells #[.int .i64 r1, .int .i64 r2, .int .i64 r3, .bool r4, .string r5] 72)) := (Below.refl _ _).alloc (Nat.le_refl _) _
      have HW2 := Lib.hid (hW.out.trans (hb2.mono hws))
      clear hcc hG2 hln hfit hr hsb hla hseat hb2 hG hW
      have fin : ∀ x : Bool, (rowOk last ⟨r1, r2, r3, r4, r5⟩ = x) → True := fun _ _ => trivial
      clear fin
      by_cases q1 : r1 ≤ last
      · have s1 : decide (r1 ≤ last) = true := decide_eq_true q1
        have HX : Hid (E = 13) := Lib.hid (HBAD.out (by rw [HG2.out, decide_eq_false (by omega)]; simp))
        go_wp2
        go_ret
        exact ⟨ret_int HX.out.symm, HW2.out⟩
      have s1 : decide (r1 ≤ last) = false := decide_eq_false q1
      by_cases q2 : 99 < r1
      · have s2 : decide (r1 > 99) = true := decide_eq_true q2
        have HX : Hid (E = 13) := Lib.hid (HBAD.out (by rw [HG2.out, decide_eq_false (by omega)]; simp))
        go_wp2
        go_ret
        exact ⟨ret_int HX.out.symm, HW2.out⟩
      have s2 : decide (r1 > 99) = false := decide_eq_false q2
      have e1 : decide (last < r1 ∧ r1 ≤ 99) = true := decide_eq_true (by omega)
      rw [e1, Bool.true_and] at HG2
      clear e1 q1 q2
      by_cases q3 : r2 < 1
      · have s3 : decide (r2 < 1) = true := decide_eq_true q3
        have HX : Hid (E = 13) := Lib.hid (HBAD.out (by rw [HG2.out, decide_eq_false (by omega)]; simp))
        go_wp2
        go_ret
        exact ⟨ret_int HX.out.symm, HW2.out⟩
      have s3 : decide (r2 < 1) = false := decide_eq_false q3
      by_cases q4 : 3 < r2
      · have s4 : decide (r2 > 3) = true := decide_eq_true q4
        have HX : Hid (E = 13) := Lib.hid (HBAD.out (by rw [HG2.out, decide_eq_false (by omega)]; simp))
        go_wp2
        go_ret
        exact ⟨ret_int HX.out.symm, HW2.out⟩
      have s4 : decide (r2 > 3) = false := decide_eq_false q4
      have e1 : decide (1 ≤ r2 ∧ r2 ≤ 3) = true := decide_eq_true (by omega)
      rw [e1, Bool.true_and] at HG2
      clear e1 q3 q4
      by_cases q5 : r3 < 0
      · have s5 : decide (r3 < 0) = true := decide_eq_true q5
        have HX : Hid (E = 13) := Lib.hid (HBAD.out (by rw [HG2.out, decide_eq_false (by omega)]; simp))
        go_wp2
        go_ret
        exact ⟨ret_int HX.out.symm, HW2.out⟩
      have s5 : decide (r3 < 0) = false := decide_eq_false q5
      by_cases q6 : 4 ≤ r3
      · have s6 : decide (r3 ≥ 4) = true := decide_eq_true q6
        have HX : Hid (E = 13) := Lib.hid (HBAD.out (by rw [HG2.out, decide_eq_false (by omega)]; simp))
        go_wp2
        go_ret
        exact ⟨ret_int HX.out.symm, HW2.out⟩
      have s6 : decide (r3 ≥ 4) = false := decide_eq_false q6
      have e1 : decide (0 ≤ r3 ∧ r3 ≤ 3) = true := decide_eq_true (by omega)
      rw [e1, Bool.true_and] at HG2
      clear e1 q5 q6
      go_wp2_with fail
      refine (HST.out _).mono ?_
      rintro e w2 ⟨rfl, rfl⟩
      cases sb with
      | false =>
        have HX : Hid (E = 13) := Lib.hid (HBAD.out (by rw [HG2.out]; simp))
        go_wp2
        go_ret
        exact ⟨ret_int HX.out.symm, HW2.out⟩
      | true =>
        have HG3 : Hid (checkL l = checkGo (lastNum l (k + 1)) (l.drop (k + 1))) := Lib.hid (by rw [HG2.out, HLN.out, Bool.true_and])
        have HLN2 : Hid (r1 = lastNum l (k + 1)) := Lib.hid HLN.out.symm
        clear HG2 HLN HST
        go_wp2
        go_roundw
        case rel => exact ⟨k + 1, by omega, by go_num, by rw [HLN2.out], HG3, HW2⟩
        case measure => simp [intOf]; omega
    · have hG2 := hG.out
      rw [List.drop_eq_nil_of_le (by rw [← HL.out]; omega), checkGo] at hG2
      have HX : Hid (E = 0) := Lib.hid (by rw [← HE.out]; unfold errC; rw [hG2]; rfl)
      have hz : ¬ (k : Int) < (n : Int) := by omega
      clear hG2 hG
      go_wp2
      go_ret
      exact ⟨ret_int HX.out.symm, hW.out⟩
end Go.Proofs.YtppjpledjhinbaaDoor
/- Cabins: seats and spots, in plain words. -/
namespace Go.Proofs.YtppjpledjhinbaaDoor
open Go.RowKit Go.Lib
structure MSeat where
  num : Int
  ltr : UInt8
structure MSpot where
  seat : MSeat
  cab : Int
  zone : Int
  blk : Int
  exit : Bool
  blocked : Bool
def seatC (s : MSeat) : List Value := [.int .i64 s.num, .int .u8 (s.ltr.toNat : Int)]
def spotC (s : MSpot) : List Value := [.int .i64 s.seat.num, .int .u8 (s.seat.ltr.toNat : Int), .int .i64 s.cab, .int .i64 s.zone, .int .i64 s.blk, .bool s.exit, .bool s.blocked]
theorem seatC_len (s : MSeat) : (seatC s).length = 2 := rfl
theorem spotC_len (s : MSpot) : (spotC s).length = 7 := rfl
theorem seatC_cell (s : MSeat) : ∀ u ∈ seatC s, u.oneCell' = true := by intro u hu; simp [seatC] at hu; rcases hu with rfl | rfl <;> rfl
theorem spotC_cell (s : MSpot) : ∀ u ∈ spotC s, u.oneCell' = true := by
  intro u hu
  simp [spotC] at hu
  rcases hu with rfl | rfl | rfl | rfl | rfl | rfl | rfl <;> rfl
/-- The spot of a letter. -/
def spotOf (r : MRow) (c : UInt8) (b : Int) : MSpot := ⟨⟨r.num, greatB c⟩, r.cab, r.zone, b, r.exit, decide (greatB c ≠ c)⟩
/-- The spots of a row's letters, from block b on. -/
def spotsB (r : MRow) : List UInt8 → Int → List MSpot
  | [], _ => []
  | c :: t, b => if c = 46 then spotsB r t (b + 1) else spotOf r c b :: spotsB r t b
def dotsN : List UInt8 → Nat
  | [] => 0
  | c :: t => if c = 46 then dotsN t + 1 else dotsN t
def spotsAll : List MRow → Int → List MSpot
  | [], _ => []
  | r :: rs, b => spotsB r r.seats.data.toList b ++ spotsAll rs (b + dotsN r.seats.data.toList + 1)
def spotsL (l : List MRow) : List MSpot := if checkL l then spotsAll l 0 else []
/-- How many spots: at most six a row. -/
theorem dots_le : ∀ l : List UInt8, dotsN l ≤ l.length := by
  intro l
  induction l with
  | nil => simp [dotsN]
  | cons c t ih => simp only [dotsN, List.length_cons]; split <;> omega
theorem spotsB_len : ∀ (r : MRow) (l : List UInt8) (b : Int), (spotsB r l b).length + dotsN l = l.length := by
  intro r l
  induction l with
  | nil => intro b; simp [spotsB, dotsN]
  | cons c t ih =>
    intro b
    simp only [spotsB, dotsN]
    split
    · have := ih (b + 1); simp only [List.length_cons]; omega
    · have := ih b; simp only [List.length_cons]; omega
theorem seats_count : ∀ (l : List UInt8) (dot : Bool) (n : Nat) (last : UInt8), seatsGo dot n last l = true → n + (l.length - dotsN l) ≤ 6 ∧ dotsN l + (if dot then 1 else 0) ≤ l.length - dotsN l := by
  intro l
  induction l with
  | nil =>
    intro dot n last h
    simp only [seatsGo, Bool.and_eq_true, Bool.not_eq_true', decide_eq_true_eq] at h
    obtain ⟨rfl, h⟩ := h
    simp [dotsN]; omega
  | cons c t ih =>
    intro dot n last h
    have hd := dots_le t
    simp only [seatsGo] at h
    simp only [dotsN, List.length_cons]
    split at h
    · rename_i h46
      split at h
      · cases h
      · rename_i hdot
        have := ih _ _ _ h
        rw [if_pos h46]
        simp only [if_true] at this
        rw [if_neg hdot]
        omega
    · rename_i h46
      split at h
      · cases h
      · have := ih _ _ _ h
        rw [if_neg h46]
        simp only [Bool.false_eq_true, if_false] at this
        split <;> omega
/-- A right row is short: at most eleven signs. -/
theorem seats_short {s : ByteArray} (h : seatsOk s = true) : s.data.toList.length ≤ 11 ∧ dotsN s.data.toList ≤ 5 := by
  have := seats_count _ _ _ _ h
  have hd := dots_le s.data.toList
  simp only [if_true] at this
  omega
theorem check_rows : ∀ (l : List MRow) (last : Int), checkGo last l = true → ∀ r ∈ l, seatsOk r.seats = true ∧ 1 ≤ r.cab ∧ r.cab ≤ 3 ∧ last < r.num ∧ r.num ≤ 99 := by
  intro l
  induction l with
  | nil => intro _ _ r hr; cases hr
  | cons x t ih =>
    intro last h r hr
    simp only [checkGo, rowOk, Bool.and_eq_true, decide_eq_true_eq] at h
    rcases List.mem_cons.1 hr with rfl | hr
    · exact ⟨h.1.2, h.1.1.1.2.1, h.1.1.1.2.2, h.1.1.1.1.1, h.1.1.1.1.2⟩
    · have := ih _ h.2 r hr
      exact ⟨this.1, this.2.1, this.2.2.1, by omega, this.2.2.2.2⟩
theorem letter_ok : ∀ (l : List UInt8) (dot : Bool) (n : Nat) (last : UInt8), seatsGo dot n last l = true → ∀ c ∈ l, c ≠ 46 → greatB c ≠ 0 := by
  intro l
  induction l with
  | nil => intro _ _ _ _ c hc; cases hc
  | cons d t ih =>
    intro dot n last h c hc h46
    simp only [seatsGo] at h
    split at h
    · rename_i hd
      split at h
      · cases h
      · rcases List.mem_cons.1 hc with rfl | hc
        · exact absurd hd h46
        · exact ih _ _ _ h c hc h46
    · split at h
      · cases h
      · rename_i hg
        rcases List.mem_cons.1 hc with rfl | hc
        · exact fun h => hg (.inl h)
        · exact ih _ _ _ h c hc h46
end Go.Proofs.YtppjpledjhinbaaDoor
/- Seating, in plain words: who may sit where. -/
namespace Go.Proofs.YtppjpledjhinbaaDoor
open Go.RowKit Go.Lib
deriving instance DecidableEq for MSeat
deriving instance DecidableEq for MSpot
structure MWho where
  cab : Int
  fit : Bool
  inf : Bool
deriving instance DecidableEq for MWho
structure MSit where
  who : MWho
  seat : MSeat
deriving instance DecidableEq for MSit
def sitC (x : MSit) : List Value := [.int .i64 x.who.cab, .bool x.who.fit, .bool x.who.inf, .int .i64 x.seat.num, .int .u8 (x.seat.ltr.toNat : Int)]
theorem sitC_len (x : MSit) : (sitC x).length = 5 := rfl
theorem sitC_cell (x : MSit) : ∀ u ∈ sitC x, u.oneCell' = true := by
  intro u hu
  simp [sitC] at hu
  rcases hu with rfl | rfl | rfl | rfl | rfl <;> rfl
/-- What a seat that came in may hold. -/
def MSeat.fits (s : MSeat) : Prop := -9223372036854775808 ≤ s.num ∧ s.num ≤ 9223372036854775807
def seatV (s : MSeat) : Value := .agg #[.int .i64 s.num, .int .u8 (s.ltr.toNat : Int)]
def spotV (s : MSpot) : Value := .agg #[.int .i64 s.seat.num, .int .u8 (s.seat.ltr.toNat : Int), .int .i64 s.cab, .int .i64 s.zone, .int .i64 s.blk, .bool s.exit, .bool s.blocked]
def spotZ : MSpot := ⟨⟨0, 0⟩, 0, 0, 0, false, false⟩
theorem seatInj : ∀ x y : MSeat, seatV x = seatV y → x = y := by
  rintro ⟨a, b⟩ ⟨c, d⟩ h
  unfold seatV at h
  injection h with h
  have a0 := congrArg (fun a => a[0]?) h
  have a1 := congrArg (fun a => a[1]?) h
  simp at a0 a1
  rw [a0, UInt8.toNat_inj.1 (by omega : b.toNat = d.toNat)]
def oneE (x : MWho) (s : MSpot) : Int := if s.blocked = true then 15 else if x.cab ≠ s.cab ∨ (s.exit = true ∧ (x.fit = false ∨ x.inf = true)) then 16 else 0
def findS (L : List MSpot) (q : MSeat) : Option MSpot := L.find? (fun x => decide (x.seat = q))
def spotAt (L : List MSpot) (q : MSeat) : MSpot := (findS L q).getD spotZ
def blkOf (L : List MSpot) (q : MSeat) : Int := (spotAt L q).blk
def takenN (l : List MSit) (q : MSeat) : Nat := l.countP (fun y => decide (y.seat = q))
def infN (L : List MSpot) (l : List MSit) (b : Int) : Nat := l.countP (fun y => y.who.inf && decide (blkOf L y.seat = b))
def mayE (L : List MSpot) (before : List MSit) (x : MSit) : Int :=
  if (findS L x.seat).isSome = false then 14 else if oneE x.who (spotAt L x.seat) ≠ 0 then oneE x.who (spotAt L x.seat) else if 0 < takenN before x.seat then 17 else if x.who.inf = true ∧ 1 ≤ infN L before (blkOf L x.seat) then 18 else 0
def sitE (L : List MSpot) : List MSit → List MSit → Int
  | _, [] => 0
  | before, x :: t => if mayE L before x ≠ 0 then mayE L before x else sitE L (before ++ [x]) t
def allE (rows : List MRow) (l : List MSit) : Int := if checkL rows then sitE (spotsL rows) [] l else 13
def freeL (rows : List MRow) (x : MWho) (l : List MSit) : List MSeat :=
  if checkL rows = true ∧ sitE (spotsL rows) [] l = 0 then ((spotsL rows).filter (fun s => decide (mayE (spotsL rows) l ⟨x, s.seat⟩ = 0))).map (·.seat) else []
theorem takenN_snoc (l : List MSit) (x : MSit) (q : MSeat) : takenN (l ++ [x]) q = if q = x.seat then takenN l q + 1 else takenN l q := by
  unfold takenN
  rw [List.countP_append, List.countP_singleton]
  by_cases h : q = x.seat
  · rw [if_pos h, if_pos (by simp [h])]
  · rw [if_neg h, if_neg (by simpa using fun e => h e.symm)]; rfl
theorem infN_snoc (L : List MSpot) (l : List MSit) (x : MSit) (b : Int) : infN L (l ++ [x]) b = if x.who.inf = true ∧ b = blkOf L x.seat then infN L l b + 1 else infN L l b := by
  unfold infN
  rw [List.countP_append, List.countP_singleton]
  by_cases h : x.who.inf = true ∧ b = blkOf L x.seat
  · rw [if_pos h, if_pos (by simp [h.1, h.2])]
  · rw [if_neg h, if_neg (by
      simp only [Bool.and_eq_true, decide_eq_true_eq]
      exact fun e => h ⟨e.1, e.2.symm⟩)]; rfl
theorem takenN_le (l : List MSit) (q : MSeat) : takenN l q ≤ l.length := List.countP_le_length
theorem infN_le (L : List MSpot) (l : List MSit) (b : Int) : infN L l b ≤ l.length := List.countP_le_length
theorem findS_some {L : List MSpot} {q : MSeat} {s : MSpot} (h : findS L q = some s) : s ∈ L ∧ s.seat = q := by
  unfold findS at h
  exact ⟨List.mem_of_find?_eq_some h, by simpa using List.find?_some h⟩
theorem findS_isSome {L : List MSpot} {q : MSeat} : (findS L q).isSome = true ↔ q ∈ L.map (·.seat) := by
  unfold findS
  rw [List.find?_isSome]
  simp
/-- Seats rise within a row .. -/
theorem spotsB_rise (r : MRow) : ∀ (l : List UInt8) (dot : Bool) (n : Nat) (last : UInt8) (b : Int), seatsGo dot n last l = true →
    (spotsB r l b).Pairwise (fun x y => x.seat ≠ y.seat) ∧ ∀ x ∈ spotsB r l b, x.seat.num = r.num ∧ last.toNat < x.seat.ltr.toNat := by
  intro l
  induction l with
  | nil => intro _ _ _ _ _; simp [spotsB]
  | cons c t ih =>
    intro dot n last b h
    simp only [seatsGo] at h
    simp only [spotsB]
    split at h
    · rename_i h46
      rw [if_pos h46]
      split at h
      · cases h
      · exact ih _ _ _ _ h
    · rename_i h46
      rw [if_neg h46]
      split at h
      · cases h
      · rename_i hg
        obtain ⟨h1, h2⟩ := ih _ _ _ b h
        have hlt : last.toNat < (greatB c).toNat := Nat.lt_of_not_le fun h => hg (.inr h)
        refine ⟨List.pairwise_cons.2 ⟨fun y hy e => ?_, h1⟩, fun x hx => ?_⟩
        · have := (h2 y hy).2
          rw [← e] at this
          exact Nat.lt_irrefl _ this
        · rcases List.mem_cons.1 hx with rfl | hx
          · exact ⟨rfl, hlt⟩
          · exact ⟨(h2 x hx).1, Nat.lt_trans hlt (h2 x hx).2⟩
/-- .. and from row to row. -/
theorem spotsAll_rise : ∀ (l : List MRow) (last : Int) (b : Int), checkGo last l = true → (spotsAll l b).Pairwise (fun x y => x.seat ≠ y.seat) ∧ ∀ x ∈ spotsAll l b, last < x.seat.num ∧ x.seat.num ≤ 99 := by
  intro l
  induction l with
  | nil => intro _ _ _; simp [spotsAll]
  | cons r t ih =>
    intro last b h
    simp only [checkGo, rowOk, Bool.and_eq_true, decide_eq_true_eq] at h
    obtain ⟨⟨⟨⟨h1, h2⟩, _⟩, h3⟩, h4⟩ := h
    obtain ⟨a1, a2⟩ := spotsB_rise r _ _ _ _ b h3
    obtain ⟨b1, b2⟩ := ih r.num (b + dotsN r.seats.data.toList + 1) h4
    simp only [spotsAll]
    refine ⟨List.pairwise_append.2 ⟨a1, b1, fun x hx y hy e => ?_⟩, fun x hx => ?_⟩
    · have := (a2 x hx).1
      have := (b2 y hy).1
      rw [← e] at this
      omega
    · rcases List.mem_append.1 hx with hx | hx
      · have := (a2 x hx).1; omega
      · have := b2 x hx; omega
theorem spots_distinct (l : List MRow) : (spotsL l).Pairwise (fun x y => x.seat ≠ y.seat) ∧ ∀ x ∈ spotsL l, 0 < x.seat.num ∧ x.seat.num ≤ 99 := by
  unfold spotsL
  split
  · rename_i h
    unfold checkL at h
    simp only [Bool.and_eq_true] at h
    exact spotsAll_rise l 0 0 h.2
  · simp
/-- One spot more. -/
theorem spotAt_snoc {L : List MSpot} {s : MSpot} (h : ∀ x ∈ L, x.seat ≠ s.seat) (q : MSeat) : spotAt (L ++ [s]) q = (if q = s.seat then s else spotAt L q) ∧ (findS (L ++ [s]) q).isSome = (if q = s.seat then true else (findS L q).isSome) := by
  have hn : findS L s.seat = none := by
    unfold findS
    rw [List.find?_eq_none]
    intro x hx
    simpa using h x hx
  have e : findS (L ++ [s]) q = (findS L q).or (if s.seat = q then some s else none) := by
    unfold findS
    rw [List.find?_append]
    by_cases hq : s.seat = q <;> simp [hq]
  unfold spotAt
  rw [e]
  by_cases hq : q = s.seat
  · subst hq
    rw [hn]
    simp
  · rw [if_neg (fun e => hq e.symm), if_neg hq, if_neg hq]
    simp
end Go.Proofs.YtppjpledjhinbaaDoor
/- Seating, the plain laws: well seated lists, whatever their order. -/
namespace Go.Proofs.YtppjpledjhinbaaDoor
open Go.RowKit Go.Lib
/-- Two who may sit beside one another. -/
def besideB (L : List MSpot) (x y : MSit) : Prop := x.seat ≠ y.seat ∧ ¬ (x.who.inf = true ∧ y.who.inf = true ∧ blkOf L x.seat = blkOf L y.seat)
/-- One who may sit there. -/
def aloneB (L : List MSpot) (x : MSit) : Prop := (findS L x.seat).isSome = true ∧ oneE x.who (spotAt L x.seat) = 0
theorem besideB_symm {L : List MSpot} {x y : MSit} (h : besideB L x y) : besideB L y x := ⟨fun e => h.1 e.symm, fun e => h.2 ⟨e.2.1, e.1, e.2.2.symm⟩⟩
theorem mayE_zero (L : List MSpot) (B : List MSit) (x : MSit) : mayE L B x = 0 ↔ aloneB L x ∧ ∀ y ∈ B, besideB L y x := by
  unfold mayE aloneB
  cases hf : (findS L x.seat).isSome with
  | false => simp
  | true =>
    simp only [Bool.true_eq_false, if_false, true_and]
    by_cases h1 : oneE x.who (spotAt L x.seat) = 0
    · rw [if_neg (by simpa using h1)]
      have ht : 0 < takenN B x.seat ↔ ∃ y ∈ B, y.seat = x.seat := by
        unfold takenN; rw [List.countP_pos_iff]; simp
      have hi : 1 ≤ infN L B (blkOf L x.seat) ↔ ∃ y ∈ B, y.who.inf = true ∧ blkOf L y.seat = blkOf L x.seat := by
        unfold infN; rw [show (1 ≤ _) = (0 < _) from rfl, List.countP_pos_iff]; simp
      by_cases h2 : 0 < takenN B x.seat
      · rw [if_pos h2]
        obtain ⟨y, hy, e⟩ := ht.1 h2
        exact ⟨fun h => absurd h (by decide), fun h => absurd e (h.2 y hy).1⟩
      · rw [if_neg h2]
        by_cases h3 : x.who.inf = true ∧ 1 ≤ infN L B (blkOf L x.seat)
        · rw [if_pos h3]
          obtain ⟨y, hy, e1, e2⟩ := hi.1 h3.2
          exact ⟨fun h => absurd h (by decide), fun h => absurd ⟨e1, h3.1, e2⟩ (h.2 y hy).2⟩
        · rw [if_neg h3]
          refine ⟨fun _ => ⟨h1, fun y hy => ⟨fun e => h2 (ht.2 ⟨y, hy, e⟩), fun e => h3 ⟨e.2.1, hi.2 ⟨y, hy, e.1, e.2.2⟩⟩⟩⟩, fun _ => rfl⟩
    · rw [if_pos (by simpa using h1)]
      exact ⟨fun h => absurd h h1, fun h => absurd h.1 h1⟩
theorem sitE_zero (L : List MSpot) : ∀ (l B : List MSit), sitE L B l = 0 ↔ (∀ x ∈ l, aloneB L x) ∧ (∀ y ∈ B, ∀ x ∈ l, besideB L y x) ∧ l.Pairwise (besideB L) := by
  intro l
  induction l with
  | nil => intro B; simp [sitE]
  | cons x t ih =>
    intro B
    simp only [sitE]
    by_cases h : mayE L B x = 0
    · rw [if_neg (by simpa using h), ih]
      have hm := (mayE_zero L B x).1 h
      constructor
      · rintro ⟨h1, h2, h3⟩
        refine ⟨?_, ?_, List.pairwise_cons.2 ⟨fun y hy => h2 x (by simp) y hy, h3⟩⟩
        · intro y hy
          rcases List.mem_cons.1 hy with rfl | hy
          · exact hm.1
          · exact h1 y hy
        · intro y hy z hz
          rcases List.mem_cons.1 hz with rfl | hz
          · exact hm.2 y hy
          · exact h2 y (by simp [hy]) z hz
      · rintro ⟨h1, h2, h3⟩
        rw [List.pairwise_cons] at h3
        refine ⟨fun y hy => h1 y (by simp [hy]), fun y hy z hz => ?_, h3.2⟩
        rcases List.mem_append.1 hy with hy | hy
        · exact h2 y hy z (by simp [hz])
        · obtain rfl : y = x := by simpa using hy
          exact h3.1 z hz
    · rw [if_pos (by simpa using h)]
      refine ⟨fun h' => absurd h' h, fun ⟨h1, h2, _⟩ => absurd ((mayE_zero L B x).2 ⟨h1 x (by simp), fun y hy => h2 y hy x (by simp)⟩) h⟩
/-- Well seated. -/
def wellB (L : List MSpot) (l : List MSit) : Prop := (∀ x ∈ l, aloneB L x) ∧ l.Pairwise (besideB L)
theorem sitE_well (L : List MSpot) (l : List MSit) : sitE L [] l = 0 ↔ wellB L l := by
  rw [sitE_zero]; unfold wellB; simp
theorem allE_zero (rows : List MRow) (l : List MSit) : allE rows l = 0 ↔ checkL rows = true ∧ wellB (spotsL rows) l := by
  unfold allE
  cases h : checkL rows with
  | false => simp
  | true => simp [sitE_well]
theorem well_perm {L : List MSpot} {l l' : List MSit} (h : wellB L l) (hp : l.Perm l') : wellB L l' :=
  ⟨fun x hx => h.1 x (hp.mem_iff.2 hx), (hp.pairwise_iff (fun h => besideB_symm h)).1 h.2⟩
theorem well_sub {L : List MSpot} {l l' : List MSit} (h : wellB L l) (hs : l'.Sublist l) : wellB L l' :=
  ⟨fun x hx => h.1 x (hs.subset hx), h.2.sublist hs⟩
theorem filter_imp {α : Type} {p q : α → Bool} (h : ∀ x, p x = true → q x = true) : ∀ l : List α, (l.filter p).Sublist (l.filter q) := by
  intro l
  induction l with
  | nil => simp
  | cons x t ih =>
    rw [List.filter_cons, List.filter_cons]
    by_cases hp : p x = true
    · rw [if_pos hp, if_pos (h x hp)]; exact ih.cons_cons x
    · rw [if_neg hp]
      split
      · exact ih.cons x
      · exact ih
/-- Who sits down never makes a seat free. -/
theorem free_less (rows : List MRow) (x : MWho) {q q' : List MSit} (h : sitE (spotsL rows) [] q = 0) (hs : q'.Sublist q) : (freeL rows x q).Sublist (freeL rows x q') := by
  unfold freeL
  by_cases hc : checkL rows = true
  · rw [if_pos ⟨hc, h⟩, if_pos ⟨hc, (sitE_well _ _).2 (well_sub ((sitE_well _ _).1 h) hs)⟩]
    refine List.Sublist.map _ ?_
    refine filter_imp (fun s hs' => ?_) _
    simp only [decide_eq_true_eq, mayE_zero] at hs' ⊢
    exact ⟨hs'.1, fun y hy => hs'.2 y (hs.subset hy)⟩
  · rw [if_neg (fun h => hc h.1)]; simp
/-- What is free is just where one could sit. -/
theorem free_mem {rows : List MRow} {x : MWho} {q : List MSit} {s : MSeat} (h : s ∈ freeL rows x q) : allE rows (q ++ [⟨x, s⟩]) = 0 := by
  unfold freeL at h
  split at h
  · rename_i hc
    obtain ⟨sp, hsp, rfl⟩ := List.mem_map.1 h
    have hm := (List.mem_filter.1 hsp).2
    simp only [decide_eq_true_eq, mayE_zero] at hm
    rw [allE_zero]
    have hw := (sitE_well _ _).1 hc.2
    refine ⟨hc.1, fun y hy => ?_, List.pairwise_append.2 ⟨hw.2, by simp, fun y hy z hz => ?_⟩⟩
    · rcases List.mem_append.1 hy with hy | hy
      · exact hw.1 y hy
      · obtain rfl : y = ⟨x, sp.seat⟩ := by simpa using hy
        exact hm.1
    · obtain rfl : z = ⟨x, sp.seat⟩ := by simpa using hz
      exact hm.2 y hy
  · cases h
end Go.Proofs.YtppjpledjhinbaaDoor
/- Seating, the plain law: two of one block, or alike, exchange their seats. -/
namespace Go.Proofs.YtppjpledjhinbaaDoor
open Go.RowKit Go.Lib
theorem spotsB_bk (r : MRow) : ∀ (l : List UInt8) (b : Int) (x : MSpot), x ∈ spotsB r l b → b ≤ x.blk ∧ x.blk ≤ b + dotsN l ∧ x.cab = r.cab ∧ x.exit = r.exit ∧ x.seat.num = r.num := by
  intro l
  induction l with
  | nil => intro b x h; simp [spotsB] at h
  | cons c t ih =>
    intro b x h
    simp only [spotsB, dotsN] at h ⊢
    split at h
    · rename_i hc
      rw [if_pos hc]
      have := ih (b + 1) x h
      refine ⟨by omega, by omega, this.2.2⟩
    · rename_i hc
      rw [if_neg hc]
      rcases List.mem_cons.1 h with rfl | h
      · refine ⟨Int.le_refl _, ?_, rfl, rfl, rfl⟩
        simp only [spotOf]; omega
      · exact ih b x h
theorem spotsAll_bk : ∀ (l : List MRow) (b : Int), (∀ x ∈ spotsAll l b, b ≤ x.blk) ∧ ∀ x ∈ spotsAll l b, ∀ y ∈ spotsAll l b, x.blk = y.blk → x.cab = y.cab ∧ x.exit = y.exit ∧ x.seat.num = y.seat.num := by
  intro l
  induction l with
  | nil => intro b; simp [spotsAll]
  | cons r t ih =>
    intro b
    obtain ⟨h1, h2⟩ := ih (b + dotsN r.seats.data.toList + 1)
    simp only [spotsAll]
    refine ⟨fun x hx => ?_, fun x hx y hy e => ?_⟩
    · rcases List.mem_append.1 hx with hx | hx
      · exact (spotsB_bk r _ _ _ hx).1
      · have := h1 x hx; omega
    · rcases List.mem_append.1 hx with hx | hx <;> rcases List.mem_append.1 hy with hy | hy
      · have a := spotsB_bk r _ _ _ hx
        have b := spotsB_bk r _ _ _ hy
        exact ⟨a.2.2.1.trans b.2.2.1.symm, a.2.2.2.1.trans b.2.2.2.1.symm, a.2.2.2.2.trans b.2.2.2.2.symm⟩
      · have a := spotsB_bk r _ _ _ hx
        have b := h1 y hy
        omega
      · have a := spotsB_bk r _ _ _ hy
        have b := h1 x hx
        omega
      · exact h2 x hx y hy e
theorem spots_bk (l : List MRow) : ∀ x ∈ spotsL l, ∀ y ∈ spotsL l, x.blk = y.blk → x.cab = y.cab ∧ x.exit = y.exit ∧ x.seat.num = y.seat.num := by
  unfold spotsL
  split
  · exact (spotsAll_bk l 0).2
  · intro x hx; cases hx
theorem oneE_zero (x : MWho) (s : MSpot) : oneE x s = 0 ↔ s.blocked = false ∧ x.cab = s.cab ∧ (s.exit = true → x.fit = true ∧ x.inf = false) := by
  unfold oneE
  by_cases hb : s.blocked = true
  · rw [if_pos hb]; simp [hb]
  · rw [if_neg hb]
    have hb' : s.blocked = false := by simpa using hb
    by_cases hc : x.cab ≠ s.cab ∨ s.exit = true ∧ (x.fit = false ∨ x.inf = true)
    · rw [if_pos hc]
      refine ⟨fun h => absurd h (by decide), fun ⟨_, h2, h3⟩ => ?_⟩
      rcases hc with hc | ⟨hc, hd⟩
      · exact absurd h2 hc
      · obtain ⟨h4, h5⟩ := h3 hc
        rcases hd with hd | hd
        · rw [h4] at hd; cases hd
        · rw [h5] at hd; cases hd
    · rw [if_neg hc]
      refine ⟨fun _ => ⟨hb', Classical.byContradiction fun h => hc (.inl h), fun he => ⟨?_, ?_⟩⟩, fun _ => rfl⟩
      · cases hf : x.fit with
        | true => rfl
        | false => exact absurd (.inr ⟨he, .inl hf⟩) hc
      · cases hf : x.inf with
        | false => rfl
        | true => exact absurd (.inr ⟨he, .inr hf⟩) hc
theorem spotAt_mem {L : List MSpot} {q : MSeat} (h : (findS L q).isSome = true) : spotAt L q ∈ L ∧ (spotAt L q).seat = q := by
  obtain ⟨s, hs⟩ := Option.isSome_iff_exists.1 h
  unfold spotAt
  rw [hs]
  exact findS_some hs
/-- The other's place. -/
def exch (a b i : Nat) : Nat := if i = a then b else if i = b then a else i
theorem exch_lt {a b i n : Nat} (ha : a < n) (hb : b < n) (hi : i < n) : exch a b i < n := by unfold exch; split <;> (try split) <;> assumption
theorem exch_ne {a b i j : Nat} (h : i ≠ j) : exch a b i ≠ exch a b j := by
  intro e
  unfold exch at e
  split at e <;> split at e <;> (try split at e) <;> (try split at e) <;> omega
/-- Seats a and b exchanged. -/
def turnL (l : List MSit) (a b : Nat) (ha : a < l.length) (hb : b < l.length) : List MSit := (l.set a ⟨l[a].who, l[b].seat⟩).set b ⟨l[b].who, l[a].seat⟩
theorem turnL_len (l : List MSit) (a b : Nat) (ha : a < l.length) (hb : b < l.length) : (turnL l a b ha hb).length = l.length := by simp [turnL]
theorem turnL_get (l : List MSit) (a b : Nat) (ha : a < l.length) (hb : b < l.length) (i : Nat) (hi : i < l.length) : (turnL l a b ha hb)[i]'(by rw [turnL_len]; exact hi) = ⟨l[i].who, (l[exch a b i]'(exch_lt ha hb hi)).seat⟩ := by
  unfold turnL
  simp only [List.getElem_set, exch]
  by_cases h1 : b = i
  · subst h1
    simp only [if_true]
    by_cases h2 : b = a
    · subst h2; simp
    · simp [h2]
  · simp only [if_neg h1]
    by_cases h2 : a = i
    · subst h2; simp
    · simp only [if_neg h2, if_neg (Ne.symm h1), if_neg (Ne.symm h2)]
theorem turn_well {rows : List MRow} {l : List MSit} (h : wellB (spotsL rows) l) (a b : Nat) (ha : a < l.length) (hb : b < l.length) (hab : blkOf (spotsL rows) l[a].seat = blkOf (spotsL rows) l[b].seat ∨ l[a].who = l[b].who) : wellB (spotsL rows) (turnL l a b ha hb) := by
  have hp : ∀ i j (hi : i < l.length) (hj : j < l.length), i ≠ j → besideB (spotsL rows) l[i] l[j] := by
    intro i j hi hj hne
    rcases Nat.lt_or_gt_of_ne hne with hlt | hlt
    · exact List.pairwise_iff_getElem.1 h.2 i j hi hj hlt
    · exact besideB_symm (List.pairwise_iff_getElem.1 h.2 j i hj hi hlt)
  have hblk : blkOf (spotsL rows) l[a].seat = blkOf (spotsL rows) l[b].seat → ∀ i (hi : i < l.length), blkOf (spotsL rows) (l[exch a b i]'(exch_lt ha hb hi)).seat = blkOf (spotsL rows) l[i].seat := by
    intro e i hi
    by_cases h1 : i = a
    · subst h1; simp only [exch, if_true]; exact e.symm
    · by_cases h2 : i = b
      · subst h2; simp only [exch, if_neg h1, if_true]; exact e
      · simp only [exch, if_neg h1, if_neg h2]
  have hwho : l[a].who = l[b].who → ∀ i (hi : i < l.length), (l[exch a b i]'(exch_lt ha hb hi)).who = l[i].who := by
    intro e i hi
    by_cases h1 : i = a
    · subst h1; simp only [exch, if_true]; exact e.symm
    · by_cases h2 : i = b
      · subst h2; simp only [exch, if_neg h1, if_true]; exact e
      · simp only [exch, if_neg h1, if_neg h2]
  refine ⟨fun x hx => ?_, List.pairwise_iff_getElem.2 fun i j hi hj hlt => ?_⟩
  · obtain ⟨i, hi, rfl⟩ := List.getElem_of_mem hx
    rw [turnL_len] at hi
    rw [turnL_get l a b ha hb i hi]
    have he := exch_lt ha hb hi
    rcases hab with e | e
    · have h1 := h.1 l[i] (List.getElem_mem hi)
      have h2 := h.1 (l[exch a b i]) (List.getElem_mem he)
      obtain ⟨m1, _⟩ := spotAt_mem h1.1
      obtain ⟨m2, _⟩ := spotAt_mem h2.1
      obtain ⟨c1, c2, _⟩ := spots_bk rows _ m1 _ m2 (hblk e i hi).symm
      have o1 := (oneE_zero _ _).1 h1.2
      have o2 := (oneE_zero _ _).1 h2.2
      exact ⟨h2.1, (oneE_zero _ _).2 ⟨o2.1, o1.2.1.trans c1, fun hx => o1.2.2 (c2.trans hx)⟩⟩
    · rw [← hwho e i hi]
      exact h.1 _ (List.getElem_mem he)
  · rw [turnL_len] at hi hj
    rw [turnL_get l a b ha hb i hi, turnL_get l a b ha hb j hj]
    have hi' := exch_lt ha hb hi
    have hj' := exch_lt ha hb hj
    have hs := hp _ _ hi' hj' (exch_ne (a := a) (b := b) (Nat.ne_of_lt hlt))
    refine ⟨hs.1, fun ⟨i1, i2, e2⟩ => ?_⟩
    rcases hab with e | e
    · rw [hblk e i hi, hblk e j hj] at e2
      exact (hp i j hi hj (Nat.ne_of_lt hlt)).2 ⟨i1, i2, e2⟩
    · rw [← hwho e i hi] at i1
      rw [← hwho e j hj] at i2
      exact hs.2 ⟨i1, i2, e2⟩
/-- The law. -/
theorem order_law {rows : List MRow} {l : List MSit} (h : allE rows l = 0) : allE rows l.reverse = 0 ∧ (∀ a, allE rows (l.take a ++ l.drop (a + 1)) = 0) ∧
    ∀ a b (ha : a < l.length) (hb : b < l.length), (blkOf (spotsL rows) l[a].seat = blkOf (spotsL rows) l[b].seat ∨ l[a].who = l[b].who) → allE rows (turnL l a b ha hb) = 0 := by
  obtain ⟨hc, hw⟩ := (allE_zero _ _).1 h
  refine ⟨(allE_zero _ _).2 ⟨hc, well_perm hw (List.reverse_perm l).symm⟩, fun a => (allE_zero _ _).2 ⟨hc, well_sub hw ?_⟩, fun a b ha hb hab => (allE_zero _ _).2 ⟨hc, turn_well hw a b ha hb hab⟩⟩
  rw [← List.eraseIdx_eq_take_drop_succ]
  exact List.eraseIdx_sublist l a
theorem ne_of_turn {rows : List MRow} : allE rows [] = if checkL rows = true then 0 else 13 := by
  unfold allE; split <;> rfl
end Go.Proofs.YtppjpledjhinbaaDoor
/- Cabins: blocks, in plain words. -/
namespace Go.Proofs.YtppjpledjhinbaaDoor
open Go.RowKit Go.Lib
structure MBlk where
  cab : Int
  row : Int
  exit : Bool
  seats : List MSeat
/-- One spot more. -/
def addSeat (out : List MBlk) (x : MSpot) : List MBlk := if x.blocked = true then out else out.modify x.blk.toNat fun b => { b with seats := b.seats ++ [x.seat] }
def newBlk (out : List MBlk) (x : MSpot) : List MBlk := if x.blk = (out.length : Int) then out ++ [⟨x.cab, x.seat.num, x.exit, []⟩] else out
def stepB (out : List MBlk) (x : MSpot) : List MBlk := addSeat (newBlk out x) x
def blocksOf (L : List MSpot) : List MBlk := L.foldl stepB []
theorem blocksOf_snoc (L : List MSpot) (x : MSpot) : blocksOf (L ++ [x]) = stepB (blocksOf L) x := by unfold blocksOf; rw [foldl_snoc]
/-- Blocks come one behind the other. -/
def blkGo : Int → List MSpot → Prop
  | _, [] => True
  | last, x :: t => (x.blk = last ∨ x.blk = last + 1) ∧ blkGo x.blk t
theorem blkGo_spotsB (r : MRow) (rest : List MSpot) : ∀ (l : List UInt8) (dot : Bool) (n : Nat) (last : UInt8) (b : Int), seatsGo dot n last l = true → blkGo (b + dotsN l) rest → blkGo (if dot = true then b - 1 else b) (spotsB r l b ++ rest) := by
  intro l
  induction l with
  | nil =>
    intro dot n last b h hr
    simp only [seatsGo, Bool.and_eq_true, Bool.not_eq_true'] at h
    rw [h.1]
    simpa [spotsB, dotsN] using hr
  | cons c t ih =>
    intro dot n last b h hr
    simp only [seatsGo] at h
    simp only [dotsN] at hr
    simp only [spotsB]
    split at h
    · rename_i hc
      rw [if_pos hc] at hr ⊢
      split at h
      · cases h
      · rename_i hd
        have := ih true n last (b + 1) h (by rw [show b + 1 + (dotsN t : Int) = b + ((dotsN t + 1 : Nat) : Int) by omega]; exact hr)
        rw [if_neg hd]
        rwa [if_pos rfl, show b + 1 - 1 = b by omega] at this
    · rename_i hc
      rw [if_neg hc] at hr ⊢
      split at h
      · cases h
      · have := ih false (n + 1) _ b h hr
        rw [List.cons_append]
        refine ⟨?_, by simpa [spotOf] using this⟩
        simp only [spotOf]
        cases dot <;> simp
theorem blkGo_all : ∀ (l : List MRow) (last : Int) (b : Int), checkGo last l = true → blkGo (b - 1) (spotsAll l b) := by
  intro l
  induction l with
  | nil => intro _ _ _; trivial
  | cons r t ih =>
    intro last b h
    simp only [checkGo, rowOk, Bool.and_eq_true, decide_eq_true_eq] at h
    obtain ⟨⟨_, h3⟩, h4⟩ := h
    simp only [spotsAll]
    have h5 := ih r.num (b + dotsN r.seats.data.toList + 1) h4
    have := blkGo_spotsB r (spotsAll t (b + dotsN r.seats.data.toList + 1)) r.seats.data.toList true 0 0 b h3 (by rwa [show b + (dotsN r.seats.data.toList : Int) + 1 - 1 = b + dotsN r.seats.data.toList by omega] at h5)
    rwa [if_pos rfl] at this
theorem spots_go (l : List MRow) : blkGo (-1) (spotsL l) ∧ ∀ x ∈ spotsL l, 0 ≤ x.blk := by
  unfold spotsL
  split
  · rename_i h
    unfold checkL at h
    simp only [Bool.and_eq_true] at h
    refine ⟨by have := blkGo_all l 0 0 h.2; simpa using this, fun x hx => (spotsAll_bk l 0).1 x hx⟩
  · exact ⟨trivial, fun x hx => by cases hx⟩
theorem go_at : ∀ (L : List MSpot) (last : Int) (j : Nat) (h : j + 1 < L.length), blkGo last L → L[j + 1].blk = L[j].blk ∨ L[j + 1].blk = L[j].blk + 1 := by
  intro L
  induction L with
  | nil => intro _ _ h; simp at h
  | cons x t ih =>
    intro last j h hg
    cases j with
    | zero =>
      cases t with
      | nil => simp at h
      | cons y t => exact hg.2.1
    | succ j =>
      have := ih x.blk j (by simpa using h) hg.2
      simpa using this
/-- What the blocks of a list are. -/
structure BlksAt (L : List MSpot) (out : List MBlk) : Prop where
  len : ∀ x ∈ L, x.blk < (out.length : Int)
  seats : ∀ b (h : b < out.length), (out[b]).seats = (L.filter fun x => decide (x.blk = (b : Int)) && !x.blocked).map (·.seat)
  is : ∀ b (h : b < out.length), ∃ x ∈ L, x.blk = (b : Int) ∧ (out[b]).cab = x.cab ∧ (out[b]).exit = x.exit ∧ (out[b]).row = x.seat.num
theorem blks_step {L : List MSpot} {out : List MBlk} (h : BlksAt L out) {x : MSpot} (h0 : 0 ≤ x.blk) (hx : x.blk < (out.length : Int) ∨ x.blk = (out.length : Int)) : BlksAt (L ++ [x]) (stepB out x) ∧ (stepB out x).length = (newBlk out x).length := by
  obtain ⟨b0, hb0⟩ : ∃ b0 : Nat, x.blk = (b0 : Int) := ⟨x.blk.toNat, by omega⟩
  have hnew : BlksAt L out → (∀ y ∈ L ++ [x], y.blk < ((newBlk out x).length : Int)) ∧ (∀ b (h : b < (newBlk out x).length), ((newBlk out x)[b]).seats = (L.filter fun x => decide (x.blk = (b : Int)) && !x.blocked).map (·.seat)) ∧ (∀ b (h : b < (newBlk out x).length), ∃ y ∈ L ++ [x], y.blk = (b : Int) ∧ ((newBlk out x)[b]).cab = y.cab ∧ ((newBlk out x)[b]).exit = y.exit ∧ ((newBlk out x)[b]).row = y.seat.num) := by
    intro h
    unfold newBlk
    by_cases e : x.blk = (out.length : Int)
    · simp only [e, if_true]
      refine ⟨fun y hy => ?_, fun b hb => ?_, fun b hb => ?_⟩
      · rw [List.length_append]
        rcases List.mem_append.1 hy with hy | hy
        · have := h.len y hy; simp; omega
        · obtain rfl : y = x := by simpa using hy
          simp; omega
      · by_cases hb2 : b < out.length
        · rw [List.getElem_append_left hb2]; exact h.seats b hb2
        · have : b = out.length := by simp at hb; omega
          subst this
          rw [List.getElem_append_right (Nat.le_refl _)]
          simp only [Nat.sub_self, List.getElem_cons_zero]
          rw [List.filter_eq_nil_iff.2]
          · rfl
          · intro y hy
            have := h.len y hy
            have hne : ¬ y.blk = (out.length : Int) := by omega
            simp [hne]
      · by_cases hb2 : b < out.length
        · rw [List.getElem_append_left hb2]
          obtain ⟨y, hy, hh⟩ := h.is b hb2
          exact ⟨y, List.mem_append_left _ hy, hh⟩
        · have : b = out.length := by simp at hb; omega
          subst this
          rw [List.getElem_append_right (Nat.le_refl _)]
          exact ⟨x, by simp, e, by simp, by simp, by simp⟩
    · simp only [e, if_false]
      refine ⟨fun y hy => ?_, h.seats, fun b hb => ?_⟩
      · rcases List.mem_append.1 hy with hy | hy
        · exact h.len y hy
        · obtain rfl : y = x := by simpa using hy
          omega
      · obtain ⟨y, hy, hh⟩ := h.is b hb
        exact ⟨y, List.mem_append_left _ hy, hh⟩
  obtain ⟨n1, n2, n3⟩ := hnew h
  have hlen : (stepB out x).length = (newBlk out x).length := by
    unfold stepB addSeat
    split
    · rfl
    · simp
  refine ⟨⟨fun y hy => by rw [hlen]; exact n1 y hy, fun b hb => ?_, fun b hb => ?_⟩, hlen⟩
  · have hb' : b < (newBlk out x).length := by rw [← hlen]; exact hb
    rw [List.filter_append, List.map_append, ← n2 b hb']
    unfold stepB addSeat
    by_cases hk : x.blocked = true
    · simp [hk]
    · have hk' : x.blocked = false := by simpa using hk
      simp only [hk', Bool.false_eq_true, if_false]
      rw [List.getElem_modify]
      by_cases e : x.blk.toNat = b
      · have e2 : x.blk = (b : Int) := by omega
        simp [e2, hk']
      · have e2 : ¬ x.blk = (b : Int) := by omega
        rw [if_neg e]
        simp [e2]
  · have hb' : b < (newBlk out x).length := by rw [← hlen]; exact hb
    obtain ⟨y, hy, hh⟩ := n3 b hb'
    refine ⟨y, hy, ?_⟩
    unfold stepB addSeat
    split
    · exact hh
    · rw [List.getElem_modify]
      split <;> exact hh
theorem blks_all : ∀ (L : List MSpot) (j : Nat), j ≤ L.length → blkGo (-1) L → (∀ x ∈ L, 0 ≤ x.blk) → BlksAt (L.take j) (blocksOf (L.take j)) ∧ (0 < j → ∃ h : j - 1 < L.length, ((blocksOf (L.take j)).length : Int) = L[j - 1].blk + 1) := by
  intro L j
  induction j with
  | zero => intro _ _ _; exact ⟨⟨by simp, fun b h => by simp [blocksOf] at h, fun b h => by simp [blocksOf] at h⟩, fun h => absurd h (by omega)⟩
  | succ j ih =>
    intro hj hg h0
    have hjl : j < L.length := by omega
    obtain ⟨h1, h2⟩ := ih (by omega) hg h0
    have hx0 := h0 L[j] (List.getElem_mem hjl)
    rw [List.take_succ_eq_append_getElem hjl, blocksOf_snoc]
    have hx : L[j].blk < ((blocksOf (L.take j)).length : Int) ∨ L[j].blk = ((blocksOf (L.take j)).length : Int) := by
      by_cases hj0 : j = 0
      · subst hj0
        cases L with
        | nil => simp at hjl
        | cons x t =>
          have := hg.1
          simp only [List.getElem_cons_zero] at hx0 ⊢
          right
          simp [blocksOf]
          omega
      · obtain ⟨hh, he⟩ := h2 (by omega)
        have := go_at L (-1) (j - 1) (by omega) hg
        simp only [show j - 1 + 1 = j by omega] at this
        omega
    obtain ⟨a, b⟩ := blks_step h1 hx0 hx
    refine ⟨a, fun _ => ⟨by simpa using hjl, ?_⟩⟩
    simp only [Nat.add_sub_cancel]
    rw [b]
    unfold newBlk
    by_cases e : L[j].blk = ((blocksOf (L.take j)).length : Int)
    · rw [if_pos e, List.length_append]; simp; omega
    · rw [if_neg e]
      by_cases hj0 : j = 0
      · subst hj0
        have := hx0
        simp [blocksOf] at e hx ⊢
        omega
      · obtain ⟨hh, he⟩ := h2 (by omega)
        have := go_at L (-1) (j - 1) (by omega) hg
        simp only [show j - 1 + 1 = j by omega] at this
        omega
/-- The blocks of a map. -/
theorem blks_map (l : List MRow) : BlksAt (spotsL l) (blocksOf (spotsL l)) := by
  obtain ⟨h1, h2⟩ := spots_go l
  have := (blks_all (spotsL l) (spotsL l).length (Nat.le_refl _) h1 h2).1
  rwa [List.take_length] at this
theorem blk_next (l : List MRow) (j : Nat) (hj : j < (spotsL l).length) : 0 ≤ (spotsL l)[j].blk ∧ ((spotsL l)[j].blk < ((blocksOf ((spotsL l).take j)).length : Int) ∨ (spotsL l)[j].blk = ((blocksOf ((spotsL l).take j)).length : Int)) := by
  obtain ⟨h1, h2⟩ := spots_go l
  obtain ⟨a, b⟩ := blks_all (spotsL l) j (by omega) h1 h2
  have hx0 := h2 _ (List.getElem_mem hj)
  refine ⟨hx0, ?_⟩
  by_cases hj0 : j = 0
  · subst hj0
    obtain ⟨c, d⟩ := blks_all (spotsL l) 1 (by omega) h1 h2
    obtain ⟨hh, he⟩ := d (by omega)
    have hlen : ((blocksOf ((spotsL l).take 1)).length : Int) ≤ 1 := by
      cases hL : spotsL l with
      | nil => rw [hL] at hj; simp at hj
      | cons x t =>
        simp only [List.take_succ_cons, List.take_zero, blocksOf, List.foldl_cons, List.foldl_nil, stepB, addSeat, newBlk]
        split <;> split <;> simp
    simp only [Nat.sub_self] at he
    right
    simp [blocksOf]
    omega
  · obtain ⟨hh, he⟩ := b (by omega)
    have := go_at (spotsL l) (-1) (j - 1) (by omega) h1
    simp only [show j - 1 + 1 = j by omega] at this
    omega
end Go.Proofs.YtppjpledjhinbaaDoor
/- Seating: who fits a spot, walked. -/
namespace Go.Proofs.YtppjpledjhinbaaDoor
open Go.RowKit Go.Lib
def whoV (x : MWho) : Value := .agg #[.int .i64 x.cab, .bool x.fit, .bool x.inf]
set_option maxHeartbeats 4000000 in
set_option maxRecDepth 20000 in
theorem one_any (w : World) (x : MWho) (s : MSpot) : Calls Tryd.prog 52 #[whoV x, spotV s] w fun e w' => e = .returned (.int .i64 (oneE x s)) ∧ Below w.heap.size w w' := by
  obtain ⟨cab, fit, inf⟩ := x
  obtain ⟨⟨num, ltr⟩, sc, sz, sb, se, sk⟩ := s
  unfold whoV spotV oneE
  simp only
  go_enter Tryd.func52, Tryd.ntmps52
  cases sk with
  | true =>
    go_wp2
    go_ret
    exact ⟨rfl, ((Below.refl _ w).alloc (Nat.le_refl _) _).alloc (by simp) _⟩
  | false =>
    by_cases hc : cab = sc
    · subst hc
      cases se <;> cases fit <;> cases inf <;> (go_wp2; go_ret; exact ⟨by simp, ((Below.refl _ w).alloc (Nat.le_refl _) _).alloc (by simp) _⟩)
    · have hd : (cab != sc) = true := by simpa using hc
      go_wp2
      go_ret
      exact ⟨by simp, ((Below.refl _ w).alloc (Nat.le_refl _) _).alloc (by simp) _⟩
set_option maxHeartbeats 4000000 in
set_option maxRecDepth 20000 in
theorem rone_any (w : World) (x : MWho) (s : MSpot) : Calls Tryd.prog 57 #[whoV x, spotV s] w fun e w' => e = .returned (.int .i64 (oneE x s)) ∧ Below w.heap.size w w' := by
  obtain ⟨cab, fit, inf⟩ := x
  obtain ⟨⟨num, ltr⟩, sc, sz, sb, se, sk⟩ := s
  unfold whoV spotV oneE
  simp only
  go_enter Tryd.func57, Tryd.ntmps57
  cases sk with
  | true =>
    go_wp2
    go_ret
    exact ⟨rfl, ((Below.refl _ w).alloc (Nat.le_refl _) _).alloc (by simp) _⟩
  | false =>
    by_cases hc : cab = sc
    · subst hc
      cases se <;> cases fit <;> cases inf <;> (go_wp2; go_ret; exact ⟨by simp, ((Below.refl _ w).alloc (Nat.le_refl _) _).alloc (by simp) _⟩)
    · have hd : (cab != sc) = true := by simpa using hc
      go_wp2
      go_ret
      exact ⟨by simp, ((Below.refl _ w).alloc (Nat.le_refl _) _).alloc (by simp) _⟩
end Go.Proofs.YtppjpledjhinbaaDoor
