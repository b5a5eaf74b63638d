/- Digests: the reference's turn, shift and k, walked. -/
import Derived.Test.YtohgkcgeanofnaaTgSum
namespace Go.Proofs.Ytohgkcgeanofnaa
open Go.RowKit
theorem rotr_zero (x : Nat) : rotr 0 x = x := by
  unfold rotr
  rw [Nat.pow_zero, Nat.div_one, Nat.mod_one, Nat.zero_mul, Nat.add_zero]
theorem rotr_succ {n x : Nat} (hn : n < 32) (hx : x < 4294967296) : rotr (n + 1) x = rotr n x / 2 + rotr n x % 2 * 2147483648 := by
  unfold rotr
  obtain ⟨M, hM⟩ : ∃ M, M = 2 ^ (31 - n) := ⟨_, rfl⟩
  obtain ⟨P, hP⟩ : ∃ P, P = 2 ^ n := ⟨_, rfl⟩
  have e1 : 2 ^ (32 - n) = 2 * M := by rw [hM, show 32 - n = 31 - n + 1 by omega, Nat.pow_succ, Nat.mul_comm]
  have e2 : 2 ^ (32 - (n + 1)) = M := by rw [hM, show 32 - (n + 1) = 31 - n by omega]
  have e3 : P * M = 2147483648 := by rw [hP, hM, ← Nat.pow_add, show n + (31 - n) = 31 by omega]
  rw [e1, e2, Nat.pow_succ, ← hP, ← Nat.div_div_eq_div_mul]
  obtain ⟨a, ha⟩ : ∃ a, a = x / P := ⟨_, rfl⟩
  obtain ⟨b, hb⟩ : ∃ b, b = x % P := ⟨_, rfl⟩
  have e4 : x % (P * 2) = b + P * (a % 2) := by rw [ha, hb, Nat.mod_mul]
  rw [e4, ← ha, ← hb]
  have e5 : (b + P * (a % 2)) * M = b * M + a % 2 * 2147483648 := by
    rw [Nat.add_mul, Nat.mul_right_comm, e3, Nat.mul_comm 2147483648]
  have e6 : b * (2 * M) = 2 * (b * M) := by rw [Nat.mul_left_comm]
  rw [e5, e6]
  omega
set_option maxHeartbeats 400000 in
theorem rturn_any (w : World) (x n : Nat) (z : Int) (hx : x < 4294967296) (hn : n ≤ 32) (hz : z = (n : Int)) :
    Calls Try.prog 24 #[.int .u32 (x : Int), .int .i64 z] w fun e w' => e = .returned (.int .u32 (rotr n x : Int)) ∧ w' = w := by
  subst hz
  go_enter Try.func24, Try.ntmps24
  go_wp2
  go_loop [0, 5, 6] (fun v i _ => ∃ j : Nat, j ≤ n ∧ i = .int .i64 j ∧ v = .int .u32 (rotr j x : Int)) (fun _ i _ => n - (intOf i).toNat)
  case atStart => exact ⟨0, Nat.zero_le _, rfl, by rw [rotr_zero]⟩
  case round =>
    obtain ⟨j, hj, rfl, rfl⟩ := hrel
    have hl := rotr_lt (n := j) (x := x) (by omega) hx
    by_cases hlt : j < n
    · have hs := rotr_succ (n := j) (x := x) (by omega) hx
      obtain ⟨y, hy⟩ : ∃ y, y = rotr j x := ⟨_, rfl⟩
      rw [← hy] at hl hs ⊢
      clear hy
      go_wp2
      have e : (y : Int) / 2 + (y : Int) % 2 * 2147483648 = ((y / 2 + y % 2 * 2147483648 : Nat) : Int) := by omega
      rw [e, ← hs]
      refine ⟨⟨j + 1, by omega, by go_num, rfl⟩, ?_⟩
      simp [intOf]; omega
    · obtain rfl : j = n := by omega
      go_wp2
      go_ret
      exact ⟨rfl, rfl⟩
set_option maxHeartbeats 400000 in
theorem rshift_any (w : World) (x n : Nat) (z : Int) (hx : x < 4294967296) (hn : n ≤ 32) (hz : z = (n : Int)) :
    Calls Try.prog 26 #[.int .u32 (x : Int), .int .i64 z] w fun e w' => e = .returned (.int .u32 ((x / 2 ^ n : Nat) : Int)) ∧ w' = w := by
  subst hz
  go_enter Try.func26, Try.ntmps26
  go_wp2
  go_loop [0, 5] (fun v i => ∃ j : Nat, j ≤ n ∧ i = .int .i64 j ∧ v = .int .u32 ((x / 2 ^ j : Nat) : Int)) (fun _ i => n - (intOf i).toNat)
  case atStart => exact ⟨0, Nat.zero_le _, rfl, by rw [Nat.pow_zero, Nat.div_one]⟩
  case round =>
    obtain ⟨j, hj, rfl, rfl⟩ := hrel
    by_cases hlt : j < n
    · have hs : x / 2 ^ (j + 1) = x / 2 ^ j / 2 := by rw [Nat.pow_succ, Nat.div_div_eq_div_mul]
      obtain ⟨y, hy⟩ : ∃ y, y = x / 2 ^ j := ⟨_, rfl⟩
      rw [← hy] at hs ⊢
      have hyl : y < 4294967296 := by rw [hy]; exact Nat.lt_of_le_of_lt (Nat.div_le_self _ _) hx
      clear hy
      go_wp2
      have e : (y : Int) / 2 = ((y / 2 : Nat) : Int) := by omega
      rw [e, ← hs]
      refine ⟨⟨j + 1, by omega, by go_num, rfl⟩, ?_⟩
      simp [intOf]; omega
    · obtain rfl : j = n := by omega
      go_wp2
      go_ret
      exact ⟨rfl, rfl⟩
set_option maxHeartbeats 8000000 in
set_option maxRecDepth 20000 in
theorem rk_any (w : World) (k : Nat) (hk : k < 64) : Calls Try.prog 25 #[.int .i64 (k : Int)] w fun e w' => e = .returned (.int .u32 ((Kt.getD k 0 : Nat) : Int)) ∧ Below w.heap.size w w' := by
  have hg : (w.alloc (.cells (List.replicate 64 (Value.int .u32 0)).toArray 41)).heap[w.heap.size]? = some (.cells (List.replicate 64 (Value.int .u32 0)).toArray 41 (0, 0)) := heap_alloc_new _ _
  have hrow : RowU ((w.alloc (.cells (List.replicate 64 (Value.int .u32 0)).toArray 41)).setRow w.heap.size (u32v Kt).toArray) w.heap.size 41 Kt := setRow_heap _ _ _ _ _ _ hg
  have hc := hrow.cell k (by rw [Kt_length]; exact hk)
  have hb := below_setRow ((Below.refl w.heap.size w).alloc (Nat.le_refl _) (.cells (List.replicate 64 (Value.int .u32 0)).toArray 41)) (Nat.le_refl _) (u32v Kt).toArray
  have m4 : (k : Int) < 64 := by omega
  obtain ⟨y, hy⟩ : ∃ y, y = Kt.getD k 0 := ⟨_, rfl⟩
  rw [← hy] at hc ⊢
  clear hrow hy
  simp only [List.replicate_succ, List.replicate_zero] at hc hb
  go_enter Try.func25, Try.ntmps25
  go_wp2_with (first
    | refine wpList_buildTo rfl 41 _ rfl (some 4) rfl (u32v Kt).toArray (by kernel_rfl) ?_
    | refine wpList_store_rowTo rfl 41 (.tmp 3) (.tmp 4) rfl rfl w.heap.size (u32v Kt).toArray rfl rfl 41 _ hg rfl rfl kt_one ?_)
  go_ret
  exact ⟨rfl, hb⟩
end Go.Proofs.Ytohgkcgeanofnaa
