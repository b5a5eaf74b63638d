/- Frames: the checksum, step by step, as plain numbers. -/
import Derived.Test.YtanieolnaiihmaaRow
namespace Go.Proofs.Ytanieolnaiihmaa
open Go.RowKit

def poly : Nat := 3988292384
def cstep (r : Nat) : Nat := if r % 2 = 1 then (r / 2) ^^^ poly else r / 2
def citer : Nat → Nat → Nat
  | 0, r => r
  | k + 1, r => cstep (citer k r)
def cbyte (r : Nat) (b : UInt8) : Nat := citer 8 (r ^^^ b.toNat)
def creg : Nat := 4294967295
def crc (l : List UInt8) : Nat := l.foldl cbyte creg
def sumB (l : List UInt8) : Nat := 4294967295 - crc l
theorem crc_snoc (l : List UInt8) (b : UInt8) : crc (l ++ [b]) = cbyte (crc l) b := foldl_snoc cbyte creg l b
theorem xor_lt {a b : Nat} (ha : a < 4294967296) (hb : b < 4294967296) : a ^^^ b < 4294967296 := Nat.xor_lt_two_pow (n := 32) ha hb
theorem cstep_lt {r : Nat} (h : r < 4294967296) : cstep r < 4294967296 := by
  unfold cstep
  split
  · exact xor_lt (by omega) (by unfold poly; omega)
  · omega
theorem citer_lt {r : Nat} (h : r < 4294967296) : ∀ k, citer k r < 4294967296
  | 0 => h
  | k + 1 => cstep_lt (citer_lt h k)
theorem cbyte_lt {r : Nat} (b : UInt8) (h : r < 4294967296) : cbyte r b < 4294967296 := citer_lt (xor_lt h (by have := b.toNat_lt; omega)) 8
theorem foldl_cbyte_lt (l : List UInt8) : ∀ r, r < 4294967296 → l.foldl cbyte r < 4294967296 := by
  induction l with
  | nil => intro r h; exact h
  | cons a l ih => intro r h; exact ih _ (cbyte_lt a h)
theorem crc_lt (l : List UInt8) : crc l < 4294967296 := foldl_cbyte_lt l _ (by unfold creg; omega)
theorem sumB_lt (l : List UInt8) : sumB l < 4294967296 := by unfold sumB; omega

/-! ### The walk's own words -/
theorem ofInt32 (a : Nat) (ha : a < 4294967296) : (BitVec.ofInt 32 (a : Int)).toNat = a := by
  rw [BitVec.ofInt_natCast, BitVec.toNat_ofNat]; exact Nat.mod_eq_of_lt (by omega)
theorem bits_xor_u32_nat (a b : Nat) (ha : a < 4294967296) (hb : b < 4294967296) : bits .xor .u32 (a : Int) (b : Int) = ((a ^^^ b : Nat) : Int) := by
  have hx : a ^^^ b < 4294967296 := xor_lt ha hb
  show IntKind.u32.wrap ((BitVec.ofInt 32 (a : Int) ^^^ BitVec.ofInt 32 (b : Int)).toNat : Int) = _
  rw [BitVec.toNat_xor, ofInt32 a ha, ofInt32 b hb, IntKind.wrap_u32]
  omega
theorem bits_and_u32_nat' (a b : Nat) (ha : a < 4294967296) (hb : b < 4294967296) : bits .and .u32 (a : Int) (b : Int) = ((a &&& b : Nat) : Int) := by
  have hx : a &&& b < 4294967296 := Nat.and_lt_two_pow (n := 32) a hb
  show IntKind.u32.wrap ((BitVec.ofInt 32 (a : Int) &&& BitVec.ofInt 32 (b : Int)).toNat : Int) = _
  rw [BitVec.toNat_and, ofInt32 a ha, ofInt32 b hb, IntKind.wrap_u32]
  omega
theorem bits_or_u32_nat (a b : Nat) (ha : a < 4294967296) (hb : b < 4294967296) : bits .or .u32 (a : Int) (b : Int) = ((a ||| b : Nat) : Int) := by
  have hx : a ||| b < 4294967296 := Nat.or_lt_two_pow (n := 32) ha hb
  show IntKind.u32.wrap ((BitVec.ofInt 32 (a : Int) ||| BitVec.ofInt 32 (b : Int)).toNat : Int) = _
  rw [BitVec.toNat_or, ofInt32 a ha, ofInt32 b hb, IntKind.wrap_u32]
  omega
theorem bits_not_u32 (a : Nat) (ha : a < 4294967296) : IntKind.u32.wrap (-1 - (a : Int)) = ((4294967295 - a : Nat) : Int) := by
  rw [IntKind.wrap_u32]; omega
/-- One step of frame.Sum. -/
theorem step_words (r : Nat) (hr : r < 4294967296) :
    bits BinOp.xor IntKind.u32 ((r : Int) / 2) (bits BinOp.and IntKind.u32 3988292384 (IntKind.u32.wrap (-(bits BinOp.and IntKind.u32 (r : Int) 1)))) = (cstep r : Int) := by
  have h1 : bits BinOp.and IntKind.u32 (r : Int) 1 = ((r % 2 : Nat) : Int) := by
    rw [show (1 : Int) = ((1 : Nat) : Int) from rfl, bits_and_u32_nat' r 1 hr (by omega), Nat.and_one_is_mod]
  rw [h1]
  have h2 : ((r : Int) / 2) = ((r / 2 : Nat) : Int) := by omega
  rw [h2]
  unfold cstep
  rcases Nat.mod_two_eq_zero_or_one r with h | h
  · rw [h, if_neg (by omega), show IntKind.u32.wrap (-((0 : Nat) : Int)) = ((0 : Nat) : Int) from rfl, show (3988292384 : Int) = ((poly : Nat) : Int) from rfl, bits_and_u32_nat' poly 0 (by unfold poly; omega) (by omega), Nat.and_zero,
      bits_xor_u32_nat _ _ (by omega) (by omega), Nat.xor_zero]
  · rw [h, if_pos rfl, show IntKind.u32.wrap (-((1 : Nat) : Int)) = ((4294967295 : Nat) : Int) from rfl, show (3988292384 : Int) = ((poly : Nat) : Int) from rfl, bits_and_u32_nat' poly 4294967295 (by unfold poly; omega) (by omega),
      show poly &&& 4294967295 = poly from rfl, bits_xor_u32_nat _ _ (by omega) (by unfold poly; omega)]
end Go.Proofs.Ytanieolnaiihmaa
/- Frames: frame.Sum, walked. -/
namespace Go.Proofs.Ytanieolnaiihmaa
open Go.RowKit

def catB (l : List ByteArray) : List UInt8 := l.flatMap fun s => s.data.toList
theorem crc_take (p : List UInt8) (x : ByteArray) (j : Nat) (h : j < x.size) : crc (p ++ x.data.toList.take (j + 1)) = citer 8 (crc (p ++ x.data.toList.take j) ^^^ (x[j]).toNat) := by
  have h1 : x.data.toList.take (j + 1) = x.data.toList.take j ++ [x[j]] := by
    rw [List.take_succ_eq_append_getElem (by simpa using h)]; rfl
  rw [h1, ← List.append_assoc, crc_snoc]; rfl
theorem start_raw (R b : Nat) (hR : R < 4294967296) : Value.int .u32 (bits BinOp.xor IntKind.u32 (R : Int) ((b : Int) % 4294967296)) = Value.int .u32 ((R ^^^ (b % 4294967296) : Nat) : Int) := by
  rw [show ((b : Int) % 4294967296) = ((b % 4294967296 : Nat) : Int) by omega, bits_xor_u32_nat R _ hR (Nat.mod_lt _ (by omega))]
theorem step_raw (C : Nat) (h : C < 4294967296) : bits BinOp.xor IntKind.u32 ((C : Int) / 2) (bits BinOp.and IntKind.u32 3988292384 (-bits BinOp.and IntKind.u32 (C : Int) 1 % 4294967296)) = (cstep C : Int) := by
  have := step_words C h
  rwa [IntKind.wrap_u32] at this
theorem xor_ones (a : Nat) (h : a < 4294967296) : 4294967295 ^^^ a = 4294967295 - a := by
  have h1 : (BitVec.allOnes 32 ^^^ BitVec.ofNat 32 a).toNat = (~~~ (BitVec.ofNat 32 a)).toNat := by rw [BitVec.allOnes_xor]
  rw [BitVec.toNat_xor, BitVec.toNat_not, BitVec.toNat_ofNat, Nat.mod_eq_of_lt (by omega), BitVec.toNat_allOnes] at h1
  exact h1
theorem ones_raw (a : Nat) (h : a < 4294967296) : bits BinOp.xor IntKind.u32 IntKind.u32.max (a : Int) = ((4294967295 - a : Nat) : Int) := by
  rw [show IntKind.u32.max = ((4294967295 : Nat) : Int) from rfl, bits_xor_u32_nat _ _ (by omega) h, xor_ones a h]
set_option maxHeartbeats 1000000 in
set_option maxRecDepth 20000 in
theorem fsum_any (w : World) (A : Option Addr) (n c : Nat) (l : List ByteArray) (hr : Rd w w.heap.size 1 A n (strv l)) (hn : n ≤ 17592186044416) (hls : ∀ s ∈ l, s.size ≤ 140737488351232) :
    Calls Try.prog 74 #[.slice A n c] w fun e w' => e = .returned (.int .u32 (sumB (catB l) : Int)) ∧ w' = w := by
  have hlen := Lib.hid (show l.length = n by have := hr.len; rw [strv_length] at this; omega)
  go_enter Try.func74, Try.ntmps74
  go_wp2
  go_loop [3, 9] (fun r i => ∃ k : Nat, k ≤ n ∧ i = .int .i64 k ∧ r = .int .u32 (crc (catB (l.take k)) : Int)) (fun _ i => n - (intOf i).toNat)
  case atStart => exact ⟨0, Nat.zero_le _, rfl, rfl⟩
  case round =>
    obtain ⟨k, hk, rfl, rfl⟩ := hrel
    by_cases hlt : k < n
    · obtain ⟨ad, rfl, hab, hs, hc⟩ := hr.str hlt
      have HT := Lib.hid (show catB (l.take (k + 1)) = catB (l.take k) ++ l[k].data.toList by rw [List.take_succ_eq_append_getElem hs]; unfold catB; rw [List.flatMap_append, List.flatMap_cons, List.flatMap_nil, List.append_nil])
      have hlsk := hls _ (List.getElem_mem hs)
      obtain ⟨x, hx⟩ : ∃ x, x = l[k] := ⟨_, rfl⟩
      rw [← hx] at HT hc hlsk
      clear hx
      obtain ⟨p, hp⟩ : ∃ p, p = catB (l.take k) := ⟨_, rfl⟩
      rw [← hp] at HT ⊢
      clear hp
      go_wp2
      go_loop [3, 15] (fun r i => ∃ j : Nat, j ≤ x.size ∧ i = .int .i64 j ∧ r = .int .u32 (crc (p ++ x.data.toList.take j) : Int)) (fun _ i => x.size - (intOf i).toNat)
      case atStart => exact ⟨0, Nat.zero_le _, rfl, by simp⟩
      case round =>
        obtain ⟨j, hj, rfl, rfl⟩ := hrel
        by_cases hjlt : j < x.size
        · go_wp2
          have hb := (x[j]).toNat_lt
          have hR := crc_lt (p ++ x.data.toList.take j)
          have hT2 := Lib.hid (crc_take p x j hjlt)
          generalize crc (p ++ x.data.toList.take j) = R at *
          go_loop [3, 24] (fun r i => ∃ m : Nat, m ≤ 8 ∧ i = .int .i64 m ∧ r = .int .u32 (citer m (R ^^^ (x[j]).toNat) : Int)) (fun _ i => 8 - (intOf i).toNat)
          case atStart => exact ⟨0, Nat.zero_le _, rfl, by rw [start_raw R _ hR, Nat.mod_eq_of_lt (by omega)]; rfl⟩
          case round =>
            obtain ⟨m, hm, rfl, rfl⟩ := hrel
            have hcl := citer_lt (xor_lt hR (by omega : (x[j]).toNat < 4294967296)) m
            by_cases hm8 : m < 8
            · obtain ⟨C, hC⟩ : ∃ C, C = citer m (R ^^^ (x[j]).toNat) := ⟨_, rfl⟩
              rw [← hC] at hcl ⊢
              have HC := Lib.hid hC
              clear hC
              go_wp2
              go_round
              case rel => exact ⟨m + 1, by omega, by go_num, by rw [step_raw C hcl, citer, ← HC.out]⟩
              case measure => simp [intOf]; omega
            · obtain rfl : m = 8 := by omega
              rw [← hT2.out]
              go_wp2
              go_round
              case rel => exact ⟨j + 1, by omega, by go_num, rfl⟩
              case measure => simp [intOf]; omega
        · obtain rfl : j = x.size := by omega
          have hT3 : p ++ x.data.toList.take x.size = catB (l.take (k + 1)) := by rw [HT.out, List.take_of_length_le (by simp)]
          rw [hT3]
          clear hT3
          go_wp2
          go_round
          case rel => exact ⟨k + 1, by omega, by go_num, rfl⟩
          case measure => simp [intOf]; omega
    · obtain rfl : k = n := by omega
      rw [← hlen.out, List.take_length]
      have hx := ones_raw _ (crc_lt (catB l))
      go_wp2
      go_ret
      exact ⟨rfl, rfl⟩
end Go.Proofs.Ytanieolnaiihmaa
