/- Pack, plain: a number's, a whole number's, a text's bytes. No program here. -/
import Derived.Test.YtanieolnaiihmaaMem
import Derived.Lib.Zigzag
namespace Go.Proofs.Ytanieolnaiihmaa
open Go.RowKit

def numB (n : Nat) : List UInt8 := if n < 128 then [UInt8.ofNat n] else UInt8.ofNat (n % 128 + 128) :: numB (n / 128)
termination_by n
decreasing_by omega
theorem numB_small {n : Nat} (h : n < 128) : numB n = [UInt8.ofNat n] := by rw [numB, if_pos h]
theorem numB_big {n : Nat} (h : ¬ n < 128) : numB n = UInt8.ofNat (n % 128 + 128) :: numB (n / 128) := by rw [numB, if_neg h]
theorem numB_pos (n : Nat) : 0 < (numB n).length := by
  by_cases h : n < 128
  · rw [numB_small h]; simp
  · rw [numB_big h]; simp
theorem numB_len (k : Nat) : ∀ n, n < 128 ^ (k + 1) → (numB n).length ≤ k + 1 := by
  induction k with
  | zero => intro n h; rw [numB_small (by simpa using h)]; simp
  | succ k ih =>
    intro n h
    by_cases hn : n < 128
    · rw [numB_small hn]; simp
    · rw [numB_big hn, List.length_cons]
      have := ih (n / 128) (by rw [Nat.div_lt_iff_lt_mul (by omega)]; rw [Nat.pow_succ] at h; exact h)
      omega
theorem numB_len10 (n : Nat) (h : n < 18446744073709551616) : (numB n).length ≤ 10 := numB_len 9 n (by omega)
/-- A whole number as a number. -/
def fold (x : Int) : Nat := if 0 ≤ x then (2 * x).toNat else (-2 * x - 1).toNat
def intB (x : Int) : List UInt8 := numB (fold x)
theorem fold_lt {x : Int} (h0 : -9223372036854775808 ≤ x) (h1 : x ≤ 9223372036854775807) : fold x < 18446744073709551616 := by unfold fold; split <;> omega
theorem intB_len (x : Int) (h0 : -9223372036854775808 ≤ x) (h1 : x ≤ 9223372036854775807) : (intB x).length ≤ 10 := numB_len10 _ (fold_lt h0 h1)
def textB (s : List UInt8) : List UInt8 := numB s.length ++ s
def numsB (l : List Nat) : List UInt8 := l.flatMap numB
def intsB (l : List Int) : List UInt8 := l.flatMap intB
def textsB (l : List ByteArray) : List UInt8 := l.flatMap fun s => textB s.data.toList
theorem numsB_snoc (l : List Nat) (n : Nat) : numsB (l ++ [n]) = numsB l ++ numB n := by simp [numsB]
theorem intsB_snoc (l : List Int) (n : Int) : intsB (l ++ [n]) = intsB l ++ intB n := by simp [intsB]
theorem textsB_snoc (l : List ByteArray) (s : ByteArray) : textsB (l ++ [s]) = textsB l ++ textB s.data.toList := by simp [textsB]
theorem numsB_len (l : List Nat) (h : ∀ n ∈ l, n < 18446744073709551616) : (numsB l).length ≤ 10 * l.length := by
  induction l with
  | nil => simp [numsB]
  | cons n l ih =>
    have h1 := numB_len10 n (h n (by simp))
    have h2 := ih (fun m hm => h m (by simp [hm]))
    simp only [numsB, List.flatMap_cons, List.length_append, List.length_cons] at *
    omega
/-- The walk's own words for the step of a number. -/
theorem low7 (n : Nat) : bits BinOp.or IntKind.u8 (IntKind.u8.wrap (n : Int)) 128 = (((UInt8.ofNat (n % 128 + 128)).toNat : Nat) : Int) := by
  have e1 : IntKind.u8.wrap (n : Int) = ((n % 256 : Nat) : Int) := by rw [IntKind.wrap_u8']; omega
  have e2 := u8_or_nat (n % 256) 128 (by omega) (by omega)
  rw [show ((128 : Nat) : Int) = 128 from rfl] at e2
  rw [e1, e2, UInt8.toNat_ofNat', Nat.mod_eq_of_lt (show n % 128 + 128 < 2 ^ 8 by omega)]
  have h : n % 256 ||| 128 = n % 128 + 128 := by
    have h1 : n % 256 = n % 256 / 128 * 128 + n % 128 := by omega
    have h2 : n % 256 / 128 = 0 ∨ n % 256 / 128 = 1 := by omega
    rcases h2 with h2 | h2
    · have h3 : n % 256 = n % 128 := by omega
      rw [h3, Nat.or_comm]
      have := nat_join 7 128 (n % 128) (by omega) (by omega)
      rw [this]; omega
    · have h3 : n % 256 = 128 ||| n % 128 := by
        have := nat_join 7 128 (n % 128) (by omega) (by omega)
        rw [this]; omega
      rw [h3, Nat.or_comm 128 (n % 128), Nat.or_assoc, Nat.or_self, Nat.or_comm]
      have := nat_join 7 128 (n % 128) (by omega) (by omega)
      rw [this]; omega
  rw [h]
end Go.Proofs.Ytanieolnaiihmaa
