/- Keys: a number and a text, written. -/
import Derived.Test.YtaphfjomlignhaaDoorOrBld
import Derived.Test.YtaphfjomlignhaaDoorOrRep
import Derived.Test.YtaphfjomlignhaaDoorOrP
import Derived.Deep.RegionHeld3
import Derived.Lib.SplitLaws
namespace Go.Proofs.YtaphfjomlignhaaDoor
open Go.RowKit Go.Shelf
/-- The eight bytes of a number, the highest ahead. -/
def be8 (u : Nat) : List UInt8 := (List.range 8).map fun k => UInt8.ofNat (u / 2 ^ (56 - 8 * k))
def upN (n : Int) : Nat := (n + 9223372036854775808).toNat
def numK (n : Int) : List UInt8 := 1 :: be8 (upN n)
def textK (s : List UInt8) : List UInt8 := 2 :: (esc s ++ [0, 0])
theorem be8_len (u : Nat) : (be8 u).length = 8 := by simp [be8]
theorem be8_take (u k : Nat) (h : k < 8) : (be8 u).take (k + 1) = (be8 u).take k ++ [UInt8.ofNat (u / 2 ^ (56 - 8 * k))] := by
  rw [List.take_succ_eq_append_getElem (by rw [be8_len]; exact h)]
  simp [be8]
theorem xor_top (a : Nat) (h : a < 18446744073709551616) : a ^^^ 9223372036854775808 = (a + 9223372036854775808) % 18446744073709551616 := by
  have hd : (a ^^^ 2 ^ 63) / 2 ^ 63 = (a / 2 ^ 63) ^^^ (2 ^ 63 / 2 ^ 63) := Nat.xor_div_two_pow
  have hm : (a ^^^ 2 ^ 63) % 2 ^ 63 = (a % 2 ^ 63) ^^^ (2 ^ 63 % 2 ^ 63) := Nat.xor_mod_two_pow
  rw [Nat.mod_self, Nat.xor_zero] at hm
  rw [Nat.div_self (by decide)] at hd
  have hq : a / 2 ^ 63 = 0 ∨ a / 2 ^ 63 = 1 := by omega
  rcases hq with hq | hq
  · rw [hq] at hd
    have : (0 ^^^ 1 : Nat) = 1 := rfl
    rw [this] at hd
    rw [show (9223372036854775808 : Nat) = 2 ^ 63 from rfl]
    omega
  · rw [hq] at hd
    have : (1 ^^^ 1 : Nat) = 0 := rfl
    rw [this] at hd
    rw [show (9223372036854775808 : Nat) = 2 ^ 63 from rfl]
    omega
theorem up_xor (n : Int) (h0 : -9223372036854775808 ≤ n) (h1 : n ≤ 9223372036854775807) : bits BinOp.xor IntKind.u64 (IntKind.u64.wrap n) 9223372036854775808 = ((upN n : Nat) : Int) := by
  obtain ⟨a, ha⟩ : ∃ a : Nat, a = (n % 18446744073709551616).toNat := ⟨_, rfl⟩
  have hw : IntKind.u64.wrap n = (a : Int) := by rw [IntKind.wrap_u64]; omega
  rw [hw, show (9223372036854775808 : Int) = ((9223372036854775808 : Nat) : Int) from rfl, bits_xor_u64_nat _ _ (by omega) (by omega), xor_top a (by omega)]
  unfold upN
  omega
theorem up_lt (n : Int) (h1 : n ≤ 9223372036854775807) : upN n < 18446744073709551616 := by unfold upN; omega
set_option maxHeartbeats 1000000 in
set_option maxRecDepth 20000 in
theorem bnum_any (B b : Nat) (l : List UInt8) (n : Int) (w : World) (h : Bld B b l w) (hn : -9223372036854775808 ≤ n ∧ n ≤ 9223372036854775807) (hlen : l.length + 9 ≤ 140737488355328) (hBw : B ≤ w.heap.size) :
    Calls Tryd.prog 21 #[.pointer (some ⟨b, 0, none⟩), .int .i64 n] w fun e w' => e = .returned (.tuple #[]) ∧ (Bld B b (l ++ numK n) w' ∧ Below B w w') := by
  have hx := up_xor n hn.1 hn.2
  have hu := up_lt n hn.2
  obtain ⟨u, hU⟩ : ∃ u, upN n = u := ⟨_, rfl⟩
  rw [hU] at hx hu
  have HU := Lib.hid hU
  have HH := Lib.hid h
  clear hU h
  go_enter Tryd.func21, Tryd.ntmps21
  go_wp2_with fail
  refine (bbyte_any B b l 1 _ HH.out (by omega) hBw).mono ?_
  rintro e w1 ⟨rfl, h1, hb1⟩
  have H1 := Lib.hid h1
  clear h1
  go_wp2
  go_loopw [5] (fun s wx => ∃ k : Nat, k ≤ 8 ∧ s = .int .i64 (56 - 8 * (k : Int)) ∧ Hid (Bld B b (l ++ 1 :: (be8 u).take k) wx) ∧ Hid (Below B w wx)) (fun s _ => (intOf s + 8).toNat)
  case atStart => exact ⟨0, Nat.zero_le _, rfl, by simpa using H1, Lib.hid hb1⟩
  case round =>
    obtain ⟨k, hk, rfl, hB, hW⟩ := hrel
    by_cases hk8 : k < 8
    · have hT := Lib.hid (be8_take u k hk8)
      have hle : (l ++ 1 :: (be8 u).take k).length + 1 ≤ 140737488355328 := by simp [be8_len]; omega
      have hsz := hBw
      have hsw := hW.out.size
      have hc := bbyte_any B b (l ++ 1 :: (be8 u).take k) (UInt8.ofNat (u / 2 ^ (56 - 8 * k))) wr hB.out hle (by omega)
      have HC := Lib.hid hc
      clear hc
      have hv : ((u : Int) / 2 ^ (56 - 8 * k) % 256) = (((UInt8.ofNat (u / 2 ^ (56 - 8 * k))).toNat : Nat) : Int) := by
        rw [UInt8.toNat_ofNat']; simp
      have HV := Lib.hid hv
      clear hv
      go_wp2_with fail
      rw [HV.out]
      refine HC.out.mono ?_
      rintro e w2 ⟨rfl, hB2, hb2⟩
      have HB2 : Hid (Bld B b (l ++ 1 :: (be8 u).take (k + 1)) w2) := Lib.hid (by rw [hT.out]; simpa using hB2)
      have HW2 : Hid (Below B w w2) := Lib.hid (hW.out.trans hb2)
      clear hB2 hb2 hT HC HV
      go_wp2
      go_roundw
      case rel => exact ⟨k + 1, by omega, by go_num, HB2, HW2⟩
      case measure => simp [intOf]; omega
    · obtain rfl : k = 8 := by omega
      go_wp2
      refine bodyPost_end (results_none rfl _ _ _) rfl ?_
      have hf : (be8 u).take 8 = be8 u := List.take_of_length_le (by rw [be8_len]; omega)
      refine ⟨rfl, ?_, hW.out⟩
      have := hB.out
      rw [hf, ← HU.out] at this
      exact this
theorem count_le (s : ByteArray) (o : ByteArray) (h : 1 ≤ o.size) : Lib.countB s o ≤ s.size := Lib.countB_le o h s.size s (Nat.le_refl _)
theorem rep_esc (w : World) (s : ByteArray) (m : Int) (hm : w.cell? ⟨0, 0, none⟩ = some (.int .i64 m)) (hs : s.size ≤ 1048576) :
    Calls Tryd.prog 37 #[.string s, .string ⟨#[0]⟩, .string ⟨#[0, 255]⟩] w fun e w' => e = .returned (.string ⟨(esc s.data.toList).toArray⟩) ∧ Below w.heap.size w w' := by
  have := Tryd.strings_ReplaceAll s ⟨#[0]⟩ ⟨#[0, 255]⟩ m w (by omega) hm (by decide) (by have := count_le s ⟨#[0]⟩ (by decide); show _ + _ * 2 ≤ _; omega)
  have e : Lib.replaceAll s.data.toList (⟨#[0]⟩ : ByteArray).data.toList (⟨#[0, 255]⟩ : ByteArray).data.toList = esc s.data.toList := replace_esc _
  rw [e] at this
  exact this
theorem below_drew1 {B : Nat} {w w1 : World} (h : Below B w w1) : Below B w w1.drew := ⟨h.os, h.tape, h.output, h.size, h.block⟩
theorem esc_len (l : List UInt8) : (esc l).length ≤ 2 * l.length := by
  induction l with
  | nil => simp [esc]
  | cons b l ih => rw [esc_cons, List.length_append, List.length_cons]; split <;> simp <;> omega
set_option maxHeartbeats 1000000 in
set_option maxRecDepth 20000 in
theorem btext_any (B b : Nat) (l : List UInt8) (s : ByteArray) (w : World) (m : Int) (hm : w.cell? ⟨0, 0, none⟩ = some (.int .i64 m)) (hg : 0 < B) (h : Bld B b l w) (hs : s.size ≤ 1048576) (hlen : l.length + 3000000 ≤ 140737488355328) (hBw : B ≤ w.heap.size) :
    Calls Tryd.prog 22 #[.pointer (some ⟨b, 0, none⟩), .string s] w fun e w' => e = .returned (.tuple #[]) ∧ (Bld B b (l ++ textK s.data.toList) w' ∧ Below B w w') := by
  have hel := esc_len s.data.toList
  have hsl : s.data.toList.length = s.size := by simp
  obtain ⟨R, hR⟩ : ∃ R : ByteArray, (⟨(esc s.data.toList).toArray⟩ : ByteArray) = R := ⟨_, rfl⟩
  have hRd : R.data.toList = esc s.data.toList := by rw [← hR]
  have hRs : R.size ≤ 2097152 := by
    have h1 : R.data.toList.length = R.size := by simp
    rw [hRd] at h1
    omega
  have HRd := Lib.hid hRd
  have HH := Lib.hid h
  have HM := Lib.hid hm
  have HRE : Hid (∀ W, W.cell? ⟨0, 0, none⟩ = some (.int .i64 m) → Calls Tryd.prog 37 #[.string s, .string ⟨#[0]⟩, .string ⟨#[0, 255]⟩] W fun e w' => e = .returned (.string R) ∧ Below W.heap.size W w') :=
    Lib.hid fun W hW => by rw [← hR]; exact rep_esc W s m hW hs
  clear hR hRd hel hsl h hm
  go_enter Tryd.func22, Tryd.ntmps22
  go_wp2_with fail
  refine (bbyte_any B b l 2 _ HH.out (by omega) hBw).mono ?_
  rintro e w1 ⟨rfl, h1, hb1⟩
  have H1 := Lib.hid h1
  have HB1 := Lib.hid hb1
  have hgs : 0 < w1.heap.size := by have := hb1.size; omega
  have HM1 := Lib.hid ((hb1.cell (p := ⟨0, 0, none⟩) hg).trans HM.out)
  have hsz1 := hb1.size
  clear h1 hb1
  go_wp2
  have HK : Hid (∀ W, Below w1.heap.size w1 W → W.cell? ⟨0, 0, none⟩ = some (.int .i64 m)) := Lib.hid fun W hW => (hW.cell (p := ⟨0, 0, none⟩) hgs).trans HM1.out
  have HWS : Hid (∀ W, Below B w W → Bld B b (l ++ [2]) W → Calls Tryd.prog 36 #[.pointer (some ⟨b, 0, none⟩), .string R] W fun e w' => e = .returned (.tuple #[.int .i64 R.size, .nilIface]) ∧ (Bld B b (l ++ [2] ++ R.data.toList) w' ∧ Below B w w')) :=
    Lib.hid fun W hW hBW => (bwrite_any B b (l ++ [2]) R W hBW (by simp; omega) (by have := hW.size; omega)).mono fun e w' h => ⟨h.1, h.2.1, hW.trans h.2.2⟩
  have HR : Hid (∀ W, Below w1.heap.size w1 W → Calls Tryd.prog 37 #[.string s, .string ⟨#[0]⟩, .string ⟨#[0, 255]⟩] W fun e w' => e = .returned (.string R) ∧ (Below B w w' ∧ Bld B b (l ++ [2]) w')) :=
    Lib.hid fun W hW => (HRE.out W (HK.out W hW)).mono fun e w' h => ⟨h.1, (HB1.out.trans (hW.mono (by omega))).trans (h.2.mono (by have := hW.size; omega)), isB_below H1.out (hW.trans (h.2.mono hW.size))⟩
  have S0 : Below B w w1 := HB1.out
  have S1 : Below w1.heap.size w1 w1.drew := below_drew1 (Below.refl _ _)
  have S2 : Below w1.heap.size w1 w1 := Below.refl _ _
  clear HRE HM1 HK H1 HM HH
  go_region_held3 (fun w' => Below B w w') (first | assumption | exact below_drew1 (by assumption)) (first
    | (go_at_call 37; refine (HR.out _ (by assumption)).mono ?_; rintro e w2 ⟨rfl, hS2, hB2⟩)
    | (go_at_call 36; refine (HWS.out _ (by assumption) (by assumption)).mono ?_; rintro e w3 ⟨rfl, hB3, hb3⟩))
  have HB3 := Lib.hid hB3
  have HW3 := Lib.hid hb3
  clear hB3 hb3
  go_wp2_with fail
  have hw3 := HW3.out.size
  have hRl : R.data.toList.length = R.size := by simp
  have hll : (l ++ [2] ++ R.data.toList).length + 2 ≤ 140737488355328 := by
    simp only [List.length_append, List.length_cons, List.length_nil, hRl]; omega
  refine (bwrite_any B b (l ++ [2] ++ R.data.toList) ⟨#[0, 0]⟩ _ HB3.out hll (by omega)).mono ?_
  rintro e w4 ⟨rfl, hB4, hb4⟩
  have HB4 := Lib.hid hB4
  have HW4 := Lib.hid (HW3.out.trans hb4)
  clear hB4 hb4
  go_wp2
  refine bodyPost_end (results_none rfl _ _ _) rfl ?_
  refine ⟨rfl, ?_, HW4.out⟩
  have h4 := HB4.out
  rw [HRd.out] at h4
  simpa [textK] using h4
end Go.Proofs.YtaphfjomlignhaaDoor
