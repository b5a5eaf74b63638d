/- Bloom: May, as the code asks it. -/
import Derived.Test.YtanieolnaiihmaaJBlProbe
namespace Go.Proofs.Ytanieolnaiihmaa
open Go.RowKit

set_option maxRecDepth 20000 in
theorem idx0 (a b c d : Int) (w : World) : (Instr.index 79 (.agg #[.int .i64 a, .int .i64 b, .int .i64 c, .int .i64 d]) (.int .i64 0)).run Try.prog w = .ok (.int .i64 a) w := by kernel_rfl
set_option maxRecDepth 20000 in
theorem idx1 (a b c d : Int) (w : World) : (Instr.index 79 (.agg #[.int .i64 a, .int .i64 b, .int .i64 c, .int .i64 d]) (.int .i64 1)).run Try.prog w = .ok (.int .i64 b) w := by kernel_rfl
set_option maxRecDepth 20000 in
theorem idx2 (a b c d : Int) (w : World) : (Instr.index 79 (.agg #[.int .i64 a, .int .i64 b, .int .i64 c, .int .i64 d]) (.int .i64 2)).run Try.prog w = .ok (.int .i64 c) w := by kernel_rfl
set_option maxRecDepth 20000 in
theorem idx3 (a b c d : Int) (w : World) : (Instr.index 79 (.agg #[.int .i64 a, .int .i64 b, .int .i64 c, .int .i64 d]) (.int .i64 3)).run Try.prog w = .ok (.int .i64 d) w := by kernel_rfl
set_option maxRecDepth 20000 in
theorem idx4 (q : Nat → Nat) (k : Nat) (hk : k < 4) (w : World) : (Instr.index 79 (.agg #[.int .i64 (q 0), .int .i64 (q 1), .int .i64 (q 2), .int .i64 (q 3)]) (.int .i64 (k : Int))).run Try.prog w = .ok (.int .i64 (q k)) w := by
  rcases (show k = 0 ∨ k = 1 ∨ k = 2 ∨ k = 3 by omega) with rfl | rfl | rfl | rfl
  · exact idx0 _ _ _ _ w
  · exact idx1 _ _ _ _ w
  · exact idx2 _ _ _ _ w
  · exact idx3 _ _ _ _ w

theorem and7 (p : Nat) (hp : p ≤ 9223372036854775807) : bits BinOp.and IntKind.i64 (p : Int) 7 = ((p % 8 : Nat) : Int) := by
  have e : (BitVec.ofInt 64 (p : Int) &&& BitVec.ofInt 64 7).toNat = p % 8 := by
    rw [BitVec.toNat_and, BitVec.ofInt_natCast, BitVec.toNat_ofNat, Nat.mod_eq_of_lt (by omega)]
    exact nat_mask3 p
  show IntKind.i64.wrap ((BitVec.ofInt 64 (p : Int) &&& BitVec.ofInt 64 7).toNat : Int) = _
  rw [e]
  exact IntWalk.i64_in _ (by omega)
theorem and1_test (x r : Nat) (hx : x < 256) : (bits BinOp.and IntKind.u8 ((x : Int) / 2 ^ r) 1 == 0) = !(hv x r % 2 == 1) := by
  have e2 : ((x : Int) / 2 ^ r) = ((hv x r : Nat) : Int) := by unfold hv; rw [Int.natCast_ediv, Int.natCast_pow]; rfl
  have h3 := hv_le x r
  have e3 := u8_and_nat (hv x r) 1 (by omega) (by omega)
  rw [nat_mask1] at e3
  rw [e2, show (1 : Int) = ((1 : Nat) : Int) from rfl, e3]
  have h4 : hv x r % 2 = 0 ∨ hv x r % 2 = 1 := by omega
  rcases h4 with h4 | h4 <;> rw [h4] <;> rfl

set_option maxRecDepth 20000 in
set_option maxHeartbeats 400000 in
theorem may_any (f key : ByteArray) (w : World) (hf : f.size ≤ 140737488351232) (hk : key.size ≤ maxLen) :
    Calls Try.prog 14 #[.string f, .string key] w fun e w' => e = .returned (.bool (may f.data.toList key.data.toList)) ∧ Below w.heap.size w w' := by
  by_cases h0 : f.size = 0
  · have h1 := empty_of_size h0
    have H0 := Lib.hid (show may f.data.toList key.data.toList = false by rw [← ByteArray.toList_eq f, h1, may_nil])
    clear h0
    go_enter Try.func14, Try.ntmps14
    go_wp2
    go_ret
    exact ⟨ret_bool (by rw [H0.out]), Below.refl _ _⟩
  · have h1 := isEmpty_of_size h0
    have hl := Lib.hid (show f.data.toList.length = f.size by simp)
    have hy := Lib.hid (@may_yes f.data.toList key.data.toList (by rw [hl.out]; exact h0))
    have hno := Lib.hid (may_no f.data.toList key.data.toList)
    have hh := hsh_lt key.data.toList
    have hpos : 0 < f.size := by omega
    have hlt := fun i => prb_lt (hsh key.data.toList) i (8 * f.size) (by omega)
    clear h0
    go_enter Try.func14, Try.ntmps14
    go_wp2_with (go_at_call 41; refine (probes_any key _ _ hk (by omega) (by omega)).mono ?_; rintro e w' ⟨rfl, hb⟩)
    rw [show (8 * (f.size : Int)).toNat = 8 * f.size by omega]
    generalize hq : (fun i => prb (hsh key.data.toList) i (8 * f.size)) = q at *
    have hq' : ∀ i, prb (hsh key.data.toList) i (8 * f.size) = q i := fun i => congrFun hq i
    rw [hq' 0, hq' 1, hq' 2, hq' 3]
    have HQ := Lib.hid hq'
    clear hq hq'
    go_loop [6, 14] (fun u i => ∃ k : Nat, k ≤ 4 ∧ i = .int .i64 k ∧ Hid (∀ j, j < k → fbit f.data.toList (q j) = true)) (fun _ i => 4 - (intOf i).toNat)
    case atStart => exact ⟨0, Nat.zero_le _, rfl, fun j hj => absurd hj (Nat.not_lt_zero _)⟩
    case round =>
      obtain ⟨k, hk4, rfl, hall⟩ := hrel
      by_cases h4 : k < 4
      · have hix := idx4 q k h4
        have hp : q k < 8 * f.size := by rw [← HQ.out]; exact hlt k
        clear hlt
        obtain ⟨r, hr⟩ : ∃ r, r = q k % 8 := ⟨_, rfl⟩
        have hr8 : r < 8 := by omega
        have ha : bits BinOp.and IntKind.i64 (q k : Int) 7 = (r : Int) := by rw [hr]; exact and7 _ (by omega)
        have hqs : q k / 8 < f.size := by omega
        have hbit : fbit f.data.toList (q k) = (hv f[q k / 8].toNat r % 2 == 1) := by unfold fbit; rw [getD_data f _ hqs, hr]
        have ht := and1_test f[q k / 8].toNat r f[q k / 8].toNat_lt
        rw [← hbit] at ht
        have HR := Lib.hid hr
        clear hr hbit
        cases hfb : fbit f.data.toList (q k)
        all_goals
          simp only [hfb, Bool.not_false, Bool.not_true] at ht
          have HF := Lib.hid hfb
          clear hfb
        · go_wp2
          go_ret
          exact ⟨ret_bool (by rw [hno.out k h4 (by rw [hl.out, HQ.out]; exact HF.out)]), hb⟩
        · go_wp2
          go_round
          case rel =>
            refine ⟨k + 1, by omega, by go_num, ?_⟩
            intro j hj
            by_cases h : j < k
            · exact hall j h
            · obtain rfl : j = k := by omega
              exact HF.out
          case measure => simp [intOf]; omega
      · obtain rfl : k = 4 := by omega
        go_wp2
        go_ret
        exact ⟨ret_bool (by rw [hy.out (fun i hi => by rw [hl.out, HQ.out]; exact hall i hi)]), hb⟩
end Go.Proofs.Ytanieolnaiihmaa
