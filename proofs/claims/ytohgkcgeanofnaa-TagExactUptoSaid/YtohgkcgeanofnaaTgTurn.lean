/- Digests: a word turned right, walked. -/
import Derived.Test.YtohgkcgeanofnaaRow
namespace Go.Proofs.Ytohgkcgeanofnaa
open Go.RowKit
/-- The word x turned right by n bits. -/
def rotr (n x : Nat) : Nat := x / 2 ^ n + x % 2 ^ n * 2 ^ (32 - n)
theorem rotr_lt {n x : Nat} (hn : n ≤ 32) (hx : x < 4294967296) : rotr n x < 4294967296 := by
  unfold rotr
  have h1 : x / 2 ^ n < 2 ^ (32 - n) := by
    rw [Nat.div_lt_iff_lt_mul (Nat.two_pow_pos n), ← Nat.pow_add, Nat.sub_add_cancel hn]
    exact hx
  have h2 : x % 2 ^ n < 2 ^ n := Nat.mod_lt _ (Nat.two_pow_pos n)
  have h3 : x % 2 ^ n * 2 ^ (32 - n) ≤ (2 ^ n - 1) * 2 ^ (32 - n) := Nat.mul_le_mul_right _ (by omega)
  have h4 : (2 ^ n - 1) * 2 ^ (32 - n) + 2 ^ (32 - n) = 2 ^ 32 := by
    rw [← Nat.succ_mul, Nat.succ_eq_add_one, Nat.sub_add_cancel (Nat.two_pow_pos n), ← Nat.pow_add, Nat.add_sub_cancel' hn]
  have h5 : (2 : Nat) ^ 32 = 4294967296 := rfl
  omega
theorem rotr_or {n x : Nat} (hn : n ≤ 32) (hx : x < 4294967296) : (x * 2 ^ (32 - n)) % 4294967296 ||| x / 2 ^ n = rotr n x := by
  have h1 : x / 2 ^ n < 2 ^ (32 - n) := by
    rw [Nat.div_lt_iff_lt_mul (Nat.two_pow_pos n), ← Nat.pow_add, Nat.sub_add_cancel hn]
    exact hx
  have h2 : (x * 2 ^ (32 - n)) % 4294967296 = x % 2 ^ n * 2 ^ (32 - n) := by
    have h5 : (4294967296 : Nat) = 2 ^ n * 2 ^ (32 - n) := by rw [← Nat.pow_add, Nat.add_sub_cancel' hn]
    rw [h5, Nat.mul_mod_mul_right]
  rw [h2, rotr, Nat.mul_comm, ← Nat.two_pow_add_eq_or_of_lt h1, Nat.add_comm]
theorem and31 {n : Nat} (h0 : 0 < n) (hn : n < 32) : bits BinOp.and IntKind.u64 (IntKind.u64.wrap (-(n : Int))) 31 = ((32 - n : Nat) : Int) := by
  have h : ∀ k : Fin 32, 0 < k.val → bits BinOp.and IntKind.u64 (IntKind.u64.wrap (-(k.val : Int))) 31 = ((32 - k.val : Nat) : Int) := by decide +kernel
  exact h ⟨n, hn⟩ h0
theorem rot_fin {n : Nat} {x : Nat} (hn : n ≤ 32) (hx : x < 4294967296) : bits BinOp.or IntKind.u32 ((x : Int) * 2 ^ (32 - n) % 4294967296) ((x : Int) / 2 ^ n) = (rotr n x : Int) := by
  have e1 : (x : Int) * 2 ^ (32 - n) % 4294967296 = ((x * 2 ^ (32 - n) % 4294967296 : Nat) : Int) := by simp
  have e2 : (x : Int) / 2 ^ n = ((x / 2 ^ n : Nat) : Int) := by simp
  have h1 : x * 2 ^ (32 - n) % 4294967296 < 2 ^ 32 := Nat.mod_lt _ (by decide)
  have h2 : x / 2 ^ n < 2 ^ 32 := Nat.lt_of_le_of_lt (Nat.div_le_self _ _) hx
  rw [e1, e2, ← rotr_or hn hx]
  exact (bits_nat .u32 32 (by decide) (fun z h0 h1 => by rw [IntKind.wrap_u32]; omega) _ _ h1 h2).2
set_option maxHeartbeats 400000 in
theorem rot_any (w : World) (x n : Nat) (z : Int) (hx : x < 4294967296) (h0 : 0 < n) (hn : n < 32) (hz : z = -(n : Int)) :
    Calls Try.prog 30 #[.int .u32 (x : Int), .int .i64 z] w fun e w' => e = .returned (.int .u32 (rotr n x : Int)) ∧ w = w' := by
  subst hz
  have hs := and31 h0 hn
  have hd : (((32 - n : Nat) : Int)).toNat = 32 - n := by omega
  have hp : ¬ (((32 - n : Nat) : Int) < 0) := by omega
  have hs2 : IntKind.u64.wrap (32 - ((32 - n : Nat) : Int)) = (n : Int) := by rw [IntKind.wrap_u64]; omega
  have hp2 : ¬ ((n : Int) < 0) := by omega
  go_enter Try.func30, Try.ntmps30
  go_wp2
  go_ret
  exact ⟨ret_int (rot_fin (by omega) hx), rfl⟩
set_option maxHeartbeats 400000 in
theorem turn_any (w : World) (x n : Nat) (z : Int) (hx : x < 4294967296) (h0 : 0 < n) (hn : n < 32) (hz : z = (n : Int)) :
    Calls Try.prog 28 #[.int .u32 (x : Int), .int .i64 z] w fun e w' => e = .returned (.int .u32 (rotr n x : Int)) ∧ w = w' := by
  subst hz
  go_enter Try.func28, Try.ntmps28
  go_wp2_with fail
  refine (rot_any _ x n _ hx h0 hn (by go_num)).mono ?_
  rintro e w1 ⟨rfl, rfl⟩
  go_wp2
  go_ret
  exact ⟨rfl, rfl⟩
end Go.Proofs.Ytohgkcgeanofnaa
