/- Cabins: rows; both Checks, walked. -/
import Derived.Test.YtddiabpjmnmllaaDoorCbChk
namespace Go.Proofs.YtddiabpjmnmllaaDoor
open Go.RowKit Go.Lib
/-- A row of a map. -/
structure MRow where
  num : Int
  cab : Int
  zone : Int
  exit : Bool
  seats : ByteArray
def rowC (r : MRow) : List Value := [.int .i64 r.num, .int .i64 r.cab, .int .i64 r.zone, .bool r.exit, .string r.seats]
theorem rowC_len (r : MRow) : (rowC r).length = 5 := rfl
/-- What a row that came in may hold. -/
def MRow.fits (r : MRow) : Prop := (-9223372036854775808 ≤ r.num ∧ r.num ≤ 9223372036854775807) ∧ r.seats.size ≤ 1048576
def rowOk (last : Int) (r : MRow) : Bool := decide (last < r.num ∧ r.num ≤ 99) && decide (1 ≤ r.cab ∧ r.cab ≤ 3) && decide (0 ≤ r.zone ∧ r.zone ≤ 3) && seatsOk r.seats
def checkGo : Int → List MRow → Bool
  | _, [] => true
  | last, r :: t => rowOk last r && checkGo r.num t
def checkL (l : List MRow) : Bool := decide (1 ≤ l.length ∧ l.length ≤ 6) && checkGo 0 l
def errC (l : List MRow) : Int := if checkL l then 0 else 13
def lastNum (l : List MRow) (k : Nat) : Int := if k = 0 then 0 else (l[k - 1]?.map (·.num)).getD 0
theorem lastNum_succ {l : List MRow} {k : Nat} (hk : k < l.length) : lastNum l (k + 1) = l[k].num := by
  unfold lastNum
  rw [if_neg (by omega), Nat.add_sub_cancel, List.getElem?_eq_getElem hk]
  rfl
theorem rowOk_iff {last : Int} {r : MRow} : rowOk last r = (((decide (last < r.num ∧ r.num ≤ 99) && decide (1 ≤ r.cab ∧ r.cab ≤ 3)) && decide (0 ≤ r.zone ∧ r.zone ≤ 3)) && seatsOk r.seats) := rfl
set_option maxHeartbeats 4000000 in
set_option maxRecDepth 20000 in
theorem rcheck_any (w : World) (A : Option Addr) (n c : Nat) (l : List MRow) (hr : Rd w w.heap.size 5 A n (catv rowC l)) (hf : ∀ r ∈ l, r.fits) :
    Calls Tryd.prog 22 #[.slice A n c] w fun e w' => e = .returned (.int .i64 (errC l)) ∧ Below w.heap.size w w' := by
  have HL := Lib.hid (rd_catlen rowC_len (by decide) hr)
  have HR := Lib.hid hr
  have HF := Lib.hid hf
  obtain ⟨E, hE⟩ : ∃ E, errC l = E := ⟨_, rfl⟩
  have HE := Lib.hid hE
  rw [hE]
  clear hr hf hE
  go_enter Tryd.func22, Tryd.ntmps22
  have bad : checkL l = false → E = 13 := fun h => by rw [← HE.out]; unfold errC; rw [h]; rfl
  have HBAD := Lib.hid bad
  clear bad
  by_cases h1 : n < 1
  · have y1 : decide ((n : Int) < 1) = true := decide_eq_true (by omega)
    have HX : Hid (E = 13) := Lib.hid (HBAD.out (by unfold checkL; rw [decide_eq_false (by rw [← HL.out]; omega)]; rfl))
    go_wp2
    go_ret
    exact ⟨ret_int HX.out.symm, Below.refl _ _⟩
  have y1 : decide ((n : Int) < 1) = false := decide_eq_false (by omega)
  by_cases h6 : 6 < n
  · have y2 : decide ((n : Int) > 6) = true := decide_eq_true (by omega)
    have HX : Hid (E = 13) := Lib.hid (HBAD.out (by unfold checkL; rw [decide_eq_false (by rw [← HL.out]; omega)]; rfl))
    go_wp2
    go_ret
    exact ⟨ret_int HX.out.symm, Below.refl _ _⟩
  have y2 : decide ((n : Int) > 6) = false := decide_eq_false (by omega)
  have hcl : checkL l = checkGo 0 l := by unfold checkL; rw [decide_eq_true (by rw [← HL.out]; omega), Bool.true_and]
  have HCL := Lib.hid hcl
  clear hcl
  go_wp2
  go_loopw [3, 16] (fun lv i wx => ∃ k : Nat, k ≤ n ∧ i = .int .i64 (k : Int) ∧ lv = .int .i64 (lastNum l k) ∧ Hid (checkL l = checkGo (lastNum l k) (l.drop k)) ∧ Hid (Below w.heap.size w wx)) (fun _ i _ => n - (intOf i).toNat)
  case atStart => exact ⟨0, Nat.zero_le _, rfl, by unfold lastNum; rw [if_pos rfl], Lib.hid (by unfold lastNum; rw [if_pos rfl]; exact HCL.out), Lib.hid (Below.refl _ _)⟩
  case round =>
    obtain ⟨k, hk, rfl, rfl, hG, hW⟩ := hrel
    by_cases hlt : k < n
    · obtain ⟨b, off, rfl, hb, hs, hcc⟩ := (HR.out.below hW.out).elem rowC_len (by decide) hlt
      have hG2 := hG.out
      rw [List.drop_eq_getElem_cons hs, checkGo] at hG2
      have hln := lastNum_succ hs
      have hfit := HF.out l[k] (List.getElem_mem hs)
      obtain ⟨r, hr⟩ : ∃ r, l[k] = r := ⟨_, rfl⟩
      rw [hr] at hcc hG2 hln hfit
      obtain ⟨r1, r2, r3, r4, r5⟩ := r
      have c0 := hcc 0 _ rfl
      have c1 := hcc 1 _ rfl
      have c2 := hcc 2 _ rfl
      have c3 := hcc 3 _ rfl
      have c4 := hcc 4 _ rfl
      rw [Nat.add_zero] at c0
      rw [rowOk_iff] at hG2
      simp only at hG2 hln
      have hseat := rseats_any r5
      obtain ⟨sb, hsb⟩ : ∃ sb, seatsOk r5 = sb := ⟨_, rfl⟩
      obtain ⟨last, hla⟩ : ∃ last, lastNum l k = last := ⟨_, rfl⟩
      rw [hsb, hla] at hG2
      rw [hsb] at hseat
      rw [hla]
      have HG2 := Lib.hid hG2
      have HLN := Lib.hid hln
      have HST := Lib.hid (fun W => hseat W hfit.2)
      have hws := hW.out.size
      have hb2 : Below wr.heap.size wr (wr.alloc (.cells #[.int .i64 r1, .int .i64 r2, .int .i64 r3, .bool r4, .string r5] 41)) := (Below.refl _ _).alloc (Nat.le_refl _) _
      have HW2 := Lib.hid (hW.out.trans (hb2.mono hws))
      clear hcc hG2 hln hfit hr hsb hla hseat hb2 hG hW
      have fin : ∀ x : Bool, (rowOk last ⟨r1, r2, r3, r4, r5⟩ = x) → True := fun _ _ => trivial
      clear fin
      by_cases q1 : r1 ≤ last
      · have s1 : decide (r1 ≤ last) = true := decide_eq_true q1
        have HX : Hid (E = 13) := Lib.hid (HBAD.out (by rw [HG2.out, decide_eq_false (by omega)]; simp))
        go_wp2
        go_ret
        exact ⟨ret_int HX.out.symm, HW2.out⟩
      have s1 : decide (r1 ≤ last) = false := decide_eq_false q1
      by_cases q2 : 99 < r1
      · have s2 : decide (r1 > 99) = true := decide_eq_true q2
        have HX : Hid (E = 13) := Lib.hid (HBAD.out (by rw [HG2.out, decide_eq_false (by omega)]; simp))
        go_wp2
        go_ret
        exact ⟨ret_int HX.out.symm, HW2.out⟩
      have s2 : decide (r1 > 99) = false := decide_eq_false q2
      have e1 : decide (last < r1 ∧ r1 ≤ 99) = true := decide_eq_true (by omega)
      rw [e1, Bool.true_and] at HG2
      clear e1 q1 q2
      by_cases q3 : r2 < 1
      · have s3 : decide (r2 < 1) = true := decide_eq_true q3
        have HX : Hid (E = 13) := Lib.hid (HBAD.out (by rw [HG2.out, decide_eq_false (by omega)]; simp))
        go_wp2
        go_ret
        exact ⟨ret_int HX.out.symm, HW2.out⟩
      have s3 : decide (r2 < 1) = false := decide_eq_false q3
      by_cases q4 : 3 < r2
      · have s4 : decide (r2 > 3) = true := decide_eq_true q4
        have HX : Hid (E = 13) := Lib.hid (HBAD.out (by rw [HG2.out, decide_eq_false (by omega)]; simp))
        go_wp2
        go_ret
        exact ⟨ret_int HX.out.symm, HW2.out⟩
      have s4 : decide (r2 > 3) = false := decide_eq_false q4
      have e1 : decide (1 ≤ r2 ∧ r2 ≤ 3) = true := decide_eq_true (by omega)
      rw [e1, Bool.true_and] at HG2
      clear e1 q3 q4
      by_cases q5 : r3 < 0
      · have s5 : decide (r3 < 0) = true := decide_eq_true q5
        have HX : Hid (E = 13) := Lib.hid (HBAD.out (by rw [HG2.out, decide_eq_false (by omega)]; simp))
        go_wp2
        go_ret
        exact ⟨ret_int HX.out.symm, HW2.out⟩
      have s5 : decide (r3 < 0) = false := decide_eq_false q5
      by_cases q6 : 4 ≤ r3
      · have s6 : decide (r3 ≥ 4) = true := decide_eq_true q6
        have HX : Hid (E = 13) := Lib.hid (HBAD.out (by rw [HG2.out, decide_eq_false (by omega)]; simp))
        go_wp2
        go_ret
        exact ⟨ret_int HX.out.symm, HW2.out⟩
      have s6 : decide (r3 ≥ 4) = false := decide_eq_false q6
      have e1 : decide (0 ≤ r3 ∧ r3 ≤ 3) = true := decide_eq_true (by omega)
      rw [e1, Bool.true_and] at HG2
      clear e1 q5 q6
      go_wp2_with fail
      refine (HST.out _).mono ?_
      rintro e w2 ⟨rfl, rfl⟩
      cases sb with
      | false =>
        have HX : Hid (E = 13) := Lib.hid (HBAD.out (by rw [HG2.out]; simp))
        go_wp2
        go_ret
        exact ⟨ret_int HX.out.symm, HW2.out⟩
      | true =>
        have HG3 : Hid (checkL l = checkGo (lastNum l (k + 1)) (l.drop (k + 1))) := Lib.hid (by rw [HG2.out, HLN.out, Bool.true_and])
        have HLN2 : Hid (r1 = lastNum l (k + 1)) := Lib.hid HLN.out.symm
        clear HG2 HLN HST
        go_wp2
        go_roundw
        case rel => exact ⟨k + 1, by omega, by go_num, by rw [HLN2.out], HG3, HW2⟩
        case measure => simp [intOf]; omega
    · have hG2 := hG.out
      rw [List.drop_eq_nil_of_le (by rw [← HL.out]; omega), checkGo] at hG2
      have HX : Hid (E = 0) := Lib.hid (by rw [← HE.out]; unfold errC; rw [hG2]; rfl)
      have hz : ¬ (k : Int) < (n : Int) := by omega
      clear hG2 hG
      go_wp2
      go_ret
      exact ⟨ret_int HX.out.symm, hW.out⟩
end Go.Proofs.YtddiabpjmnmllaaDoor
