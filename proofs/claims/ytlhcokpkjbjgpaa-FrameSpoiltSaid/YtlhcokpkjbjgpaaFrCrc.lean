/- Frames: the checksum, step by step, as plain numbers. -/
import Derived.Test.YtlhcokpkjbjgpaaRow
namespace Go.Proofs.Ytlhcokpkjbjgpaa
open Go.RowKit

def poly : Nat := 3988292384
def cstep (r : Nat) : Nat := if r % 2 = 1 then (r / 2) ^^^ poly else r / 2
def citer : Nat → Nat → Nat
  | 0, r => r
  | k + 1, r => cstep (citer k r)
def cbyte (r : Nat) (b : UInt8) : Nat := citer 8 (r ^^^ b.toNat)
def creg : Nat := 4294967295
def crc (l : List UInt8) : Nat := l.foldl cbyte creg
def sumB (l : List UInt8) : Nat := 4294967295 - crc l
theorem crc_snoc (l : List UInt8) (b : UInt8) : crc (l ++ [b]) = cbyte (crc l) b := foldl_snoc cbyte creg l b
theorem xor_lt {a b : Nat} (ha : a < 4294967296) (hb : b < 4294967296) : a ^^^ b < 4294967296 := Nat.xor_lt_two_pow (n := 32) ha hb
theorem cstep_lt {r : Nat} (h : r < 4294967296) : cstep r < 4294967296 := by
  unfold cstep
  split
  · exact xor_lt (by omega) (by unfold poly; omega)
  · omega
theorem citer_lt {r : Nat} (h : r < 4294967296) : ∀ k, citer k r < 4294967296
  | 0 => h
  | k + 1 => cstep_lt (citer_lt h k)
theorem cbyte_lt {r : Nat} (b : UInt8) (h : r < 4294967296) : cbyte r b < 4294967296 := citer_lt (xor_lt h (by have := b.toNat_lt; omega)) 8
theorem foldl_cbyte_lt (l : List UInt8) : ∀ r, r < 4294967296 → l.foldl cbyte r < 4294967296 := by
  induction l with
  | nil => intro r h; exact h
  | cons a l ih => intro r h; exact ih _ (cbyte_lt a h)
theorem crc_lt (l : List UInt8) : crc l < 4294967296 := foldl_cbyte_lt l _ (by unfold creg; omega)
theorem sumB_lt (l : List UInt8) : sumB l < 4294967296 := by unfold sumB; omega

/-! ### The walk's own words -/
theorem ofInt32 (a : Nat) (ha : a < 4294967296) : (BitVec.ofInt 32 (a : Int)).toNat = a := by
  rw [BitVec.ofInt_natCast, BitVec.toNat_ofNat]; exact Nat.mod_eq_of_lt (by omega)
theorem bits_xor_u32_nat (a b : Nat) (ha : a < 4294967296) (hb : b < 4294967296) : bits .xor .u32 (a : Int) (b : Int) = ((a ^^^ b : Nat) : Int) := by
  have hx : a ^^^ b < 4294967296 := xor_lt ha hb
  show IntKind.u32.wrap ((BitVec.ofInt 32 (a : Int) ^^^ BitVec.ofInt 32 (b : Int)).toNat : Int) = _
  rw [BitVec.toNat_xor, ofInt32 a ha, ofInt32 b hb, IntKind.wrap_u32]
  omega
theorem bits_and_u32_nat' (a b : Nat) (ha : a < 4294967296) (hb : b < 4294967296) : bits .and .u32 (a : Int) (b : Int) = ((a &&& b : Nat) : Int) := by
  have hx : a &&& b < 4294967296 := Nat.and_lt_two_pow (n := 32) a hb
  show IntKind.u32.wrap ((BitVec.ofInt 32 (a : Int) &&& BitVec.ofInt 32 (b : Int)).toNat : Int) = _
  rw [BitVec.toNat_and, ofInt32 a ha, ofInt32 b hb, IntKind.wrap_u32]
  omega
theorem bits_or_u32_nat (a b : Nat) (ha : a < 4294967296) (hb : b < 4294967296) : bits .or .u32 (a : Int) (b : Int) = ((a ||| b : Nat) : Int) := by
  have hx : a ||| b < 4294967296 := Nat.or_lt_two_pow (n := 32) ha hb
  show IntKind.u32.wrap ((BitVec.ofInt 32 (a : Int) ||| BitVec.ofInt 32 (b : Int)).toNat : Int) = _
  rw [BitVec.toNat_or, ofInt32 a ha, ofInt32 b hb, IntKind.wrap_u32]
  omega
theorem bits_not_u32 (a : Nat) (ha : a < 4294967296) : IntKind.u32.wrap (-1 - (a : Int)) = ((4294967295 - a : Nat) : Int) := by
  rw [IntKind.wrap_u32]; omega
/-- One step of frame.Sum. -/
theorem step_words (r : Nat) (hr : r < 4294967296) :
    bits BinOp.xor IntKind.u32 ((r : Int) / 2) (bits BinOp.and IntKind.u32 3988292384 (IntKind.u32.wrap (-(bits BinOp.and IntKind.u32 (r : Int) 1)))) = (cstep r : Int) := by
  have h1 : bits BinOp.and IntKind.u32 (r : Int) 1 = ((r % 2 : Nat) : Int) := by
    rw [show (1 : Int) = ((1 : Nat) : Int) from rfl, bits_and_u32_nat' r 1 hr (by omega), Nat.and_one_is_mod]
  rw [h1]
  have h2 : ((r : Int) / 2) = ((r / 2 : Nat) : Int) := by omega
  rw [h2]
  unfold cstep
  rcases Nat.mod_two_eq_zero_or_one r with h | h
  · rw [h, if_neg (by omega), show IntKind.u32.wrap (-((0 : Nat) : Int)) = ((0 : Nat) : Int) from rfl, show (3988292384 : Int) = ((poly : Nat) : Int) from rfl, bits_and_u32_nat' poly 0 (by unfold poly; omega) (by omega), Nat.and_zero,
      bits_xor_u32_nat _ _ (by omega) (by omega), Nat.xor_zero]
  · rw [h, if_pos rfl, show IntKind.u32.wrap (-((1 : Nat) : Int)) = ((4294967295 : Nat) : Int) from rfl, show (3988292384 : Int) = ((poly : Nat) : Int) from rfl, bits_and_u32_nat' poly 4294967295 (by unfold poly; omega) (by omega),
      show poly &&& 4294967295 = poly from rfl, bits_xor_u32_nat _ _ (by omega) (by unfold poly; omega)]
end Go.Proofs.Ytlhcokpkjbjgpaa
