/- Bloom: the two hash functions compute the same number of a key. -/
import Derived.Test.YtmjkebokedaldaaMem
namespace Go.Proofs.Ytmjkebokedaldaa
open Go.RowKit

def hstep (h : Nat) (b : UInt8) : Nat := ((h ^^^ b.toNat) * 1099511628211) % 18446744073709551616
def hbase : Nat := 14695981039346656037
def hsh (l : List UInt8) : Nat := l.foldl hstep hbase
theorem hsh_snoc (l : List UInt8) (b : UInt8) : hsh (l ++ [b]) = hstep (hsh l) b := foldl_snoc hstep hbase l b
theorem hstep_lt (h : Nat) (b : UInt8) : hstep h b < 18446744073709551616 := by unfold hstep; exact Nat.mod_lt _ (by decide)
theorem foldl_hstep_lt (l : List UInt8) : ∀ h, h < 18446744073709551616 → l.foldl hstep h < 18446744073709551616 := by
  induction l with
  | nil => intro h hh; exact hh
  | cons a l ih => intro h _; exact ih _ (hstep_lt _ _)
theorem hsh_lt (l : List UInt8) : hsh l < 18446744073709551616 := foldl_hstep_lt l _ (by unfold hbase; omega)
/-- One round, in the walk's own words. -/
theorem hash_round (h : Nat) (b : UInt8) (hh : h < 18446744073709551616) :
    IntKind.u64.wrap (bits BinOp.xor IntKind.u64 (h : Int) (IntKind.u64.wrap (b.toNat : Int)) * 1099511628211) = (hstep h b : Int) := by
  have hb := b.toNat_lt
  rw [IntWalk.u64_in (b.toNat : Int) (by omega), bits_xor_u64_nat h b.toNat hh (by omega), IntKind.wrap_u64]
  unfold hstep
  rw [Int.natCast_emod, Int.natCast_mul]
  rfl

set_option maxHeartbeats 400000 in
theorem hash_any (s : ByteArray) (w : World) (hs : s.size ≤ maxLen) :
    Calls Try.prog 16 #[.string s] w fun e w' => e = .returned (.int .u64 (hsh s.data.toList)) ∧ w = w' := by
  unfold maxLen at hs
  go_enter Try.func16, Try.ntmps16
  go_wp2
  go_loop [3, 4, 7] (fun h i j => ∃ k : Nat, k ≤ s.size ∧ j = .int .i64 k ∧ h = .int .u64 (hsh (s.data.toList.take k))) (fun _ _ j => s.size - (intOf j).toNat)
  case atStart => exact ⟨0, Nat.zero_le _, rfl, rfl⟩
  case round =>
    obtain ⟨k, hk, rfl, rfl⟩ := hrel
    by_cases hlt : k < s.size
    · have HS := Lib.hid (hash_round (hsh (s.data.toList.take k)) s[k] (hsh_lt _))
      have HT : Hid (hsh (s.data.toList.take (k + 1)) = hstep (hsh (s.data.toList.take k)) s[k]) := by rw [take_snoc s k hlt, hsh_snoc]; rfl
      go_wp2
      go_round
      case rel => exact ⟨k + 1, by omega, by go_num, by rw [HS.out, HT.out]⟩
      case measure => simp [intOf]; omega
    · go_wp2
      go_ret
      exact ⟨ret_int (by rw [List.take_of_length_le (by simp; omega)]), rfl⟩

set_option maxHeartbeats 400000 in
theorem rhash_any (s : ByteArray) (w : World) (hs : s.size ≤ maxLen) :
    Calls Try.prog 17 #[.string s] w fun e w' => e = .returned (.int .u64 (hsh s.data.toList)) ∧ w = w' := by
  unfold maxLen at hs
  go_enter Try.func17, Try.ntmps17
  go_wp2
  go_loop [3, 4] (fun h j => ∃ k : Nat, k ≤ s.size ∧ j = .int .i64 k ∧ h = .int .u64 (hsh (s.data.toList.take k))) (fun _ j => s.size - (intOf j).toNat)
  case atStart => exact ⟨0, Nat.zero_le _, rfl, rfl⟩
  case round =>
    obtain ⟨k, hk, rfl, rfl⟩ := hrel
    by_cases hlt : k < s.size
    · have HS := Lib.hid (hash_round (hsh (s.data.toList.take k)) s[k] (hsh_lt _))
      have HT : Hid (hsh (s.data.toList.take (k + 1)) = hstep (hsh (s.data.toList.take k)) s[k]) := by rw [take_snoc s k hlt, hsh_snoc]; rfl
      go_wp2
      go_round
      case rel => exact ⟨k + 1, by omega, by go_num, by rw [HS.out, HT.out]⟩
      case measure => simp [intOf]; omega
    · go_wp2
      go_ret
      exact ⟨ret_int (by rw [List.take_of_length_le (by simp; omega)]), rfl⟩
end Go.Proofs.Ytmjkebokedaldaa
