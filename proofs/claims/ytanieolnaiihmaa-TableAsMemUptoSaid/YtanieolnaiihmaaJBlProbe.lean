/- Bloom: the two hash functions compute the same number of a key. -/
import Derived.Test.YtanieolnaiihmaaMem
namespace Go.Proofs.Ytanieolnaiihmaa
open Go.RowKit

def hstep (h : Nat) (b : UInt8) : Nat := ((h ^^^ b.toNat) * 1099511628211) % 18446744073709551616
def hbase : Nat := 14695981039346656037
def hsh (l : List UInt8) : Nat := l.foldl hstep hbase
theorem hsh_snoc (l : List UInt8) (b : UInt8) : hsh (l ++ [b]) = hstep (hsh l) b := foldl_snoc hstep hbase l b
theorem hstep_lt (h : Nat) (b : UInt8) : hstep h b < 18446744073709551616 := by unfold hstep; exact Nat.mod_lt _ (by decide)
theorem foldl_hstep_lt (l : List UInt8) : ∀ h, h < 18446744073709551616 → l.foldl hstep h < 18446744073709551616 := by
  induction l with
  | nil => intro h hh; exact hh
  | cons a l ih => intro h _; exact ih _ (hstep_lt _ _)
theorem hsh_lt (l : List UInt8) : hsh l < 18446744073709551616 := foldl_hstep_lt l _ (by unfold hbase; omega)
/-- One round, in the walk's own words. -/
theorem hash_round (h : Nat) (b : UInt8) (hh : h < 18446744073709551616) :
    IntKind.u64.wrap (bits BinOp.xor IntKind.u64 (h : Int) (IntKind.u64.wrap (b.toNat : Int)) * 1099511628211) = (hstep h b : Int) := by
  have hb := b.toNat_lt
  rw [IntWalk.u64_in (b.toNat : Int) (by omega), bits_xor_u64_nat h b.toNat hh (by omega), IntKind.wrap_u64]
  unfold hstep
  rw [Int.natCast_emod, Int.natCast_mul]
  rfl

set_option maxHeartbeats 400000 in
theorem hash_any (s : ByteArray) (w : World) (hs : s.size ≤ maxLen) :
    Calls Try.prog 12 #[.string s] w fun e w' => e = .returned (.int .u64 (hsh s.data.toList)) ∧ w = w' := by
  unfold maxLen at hs
  go_enter Try.func12, Try.ntmps12
  go_wp2
  go_loop [3, 4, 7] (fun h i j => ∃ k : Nat, k ≤ s.size ∧ j = .int .i64 k ∧ h = .int .u64 (hsh (s.data.toList.take k))) (fun _ _ j => s.size - (intOf j).toNat)
  case atStart => exact ⟨0, Nat.zero_le _, rfl, rfl⟩
  case round =>
    obtain ⟨k, hk, rfl, rfl⟩ := hrel
    by_cases hlt : k < s.size
    · have HS := Lib.hid (hash_round (hsh (s.data.toList.take k)) s[k] (hsh_lt _))
      have HT : Hid (hsh (s.data.toList.take (k + 1)) = hstep (hsh (s.data.toList.take k)) s[k]) := by rw [take_snoc s k hlt, hsh_snoc]; rfl
      go_wp2
      go_round
      case rel => exact ⟨k + 1, by omega, by go_num, by rw [HS.out, HT.out]⟩
      case measure => simp [intOf]; omega
    · go_wp2
      go_ret
      exact ⟨ret_int (by rw [List.take_of_length_le (by simp; omega)]), rfl⟩

set_option maxHeartbeats 400000 in
theorem rhash_any (s : ByteArray) (w : World) (hs : s.size ≤ maxLen) :
    Calls Try.prog 13 #[.string s] w fun e w' => e = .returned (.int .u64 (hsh s.data.toList)) ∧ w = w' := by
  unfold maxLen at hs
  go_enter Try.func13, Try.ntmps13
  go_wp2
  go_loop [3, 4] (fun h j => ∃ k : Nat, k ≤ s.size ∧ j = .int .i64 k ∧ h = .int .u64 (hsh (s.data.toList.take k))) (fun _ j => s.size - (intOf j).toNat)
  case atStart => exact ⟨0, Nat.zero_le _, rfl, rfl⟩
  case round =>
    obtain ⟨k, hk, rfl, rfl⟩ := hrel
    by_cases hlt : k < s.size
    · have HS := Lib.hid (hash_round (hsh (s.data.toList.take k)) s[k] (hsh_lt _))
      have HT : Hid (hsh (s.data.toList.take (k + 1)) = hstep (hsh (s.data.toList.take k)) s[k]) := by rw [take_snoc s k hlt, hsh_snoc]; rfl
      go_wp2
      go_round
      case rel => exact ⟨k + 1, by omega, by go_num, by rw [HS.out, HT.out]⟩
      case measure => simp [intOf]; omega
    · go_wp2
      go_ret
      exact ⟨ret_int (by rw [List.take_of_length_le (by simp; omega)]), rfl⟩
end Go.Proofs.Ytanieolnaiihmaa
/- Bloom: the probes, and the question May. -/
namespace Go.Proofs.Ytanieolnaiihmaa
open Go.RowKit

/-- The step of the probes: the upper half, made odd. -/
def podd (h : Nat) : Nat := if h / 4294967296 % 2 = 0 then h / 4294967296 + 1 else h / 4294967296
def prb (h i m : Nat) : Nat := (h % 4294967296 + i * podd h) % m
theorem podd_even (h : Nat) (e : ((h : Int) / 4294967296 % 2 == 0) = true) : ((h : Int) / 4294967296 + 1) = (podd h : Int) := by
  unfold podd
  have e' : (h : Int) / 4294967296 % 2 = 0 := by simpa using e
  rw [if_pos (by omega)]; omega
theorem podd_odd (h : Nat) (e : ((h : Int) / 4294967296 % 2 == 0) = false) : ((h : Int) / 4294967296) = (podd h : Int) := by
  unfold podd
  have e' : ¬ (h : Int) / 4294967296 % 2 = 0 := by simpa using e
  rw [if_neg (by omega)]; omega
theorem podd_le (h : Nat) (hh : h < 18446744073709551616) : podd h ≤ 4294967296 := by unfold podd; split <;> omega
theorem prb_num (h : Nat) (i m : Int) (hh : h < 18446744073709551616) (hi0 : 0 ≤ i) (hi : i < 4) (hm0 : 1 ≤ m) (hm : m ≤ 9223372036854775807) :
    wrap64 ((IntKind.u64.wrap ((h : Int) % 4294967296 + IntKind.u64.wrap (i * (podd h : Int)))).tmod m) = (prb h i.toNat m.toNat : Int) := by
  obtain ⟨j, rfl⟩ := Int.eq_ofNat_of_zero_le hi0
  obtain ⟨n, rfl⟩ := Int.eq_ofNat_of_zero_le (show 0 ≤ m by omega)
  have hp := podd_le h hh
  have hj : j = 0 ∨ j = 1 ∨ j = 2 ∨ j = 3 := by omega
  have h1 : j * podd h ≤ 12884901888 := by rcases hj with rfl | rfl | rfl | rfl <;> omega
  have e1 : (j : Int) * (podd h : Int) = ((j * podd h : Nat) : Int) := by rw [Int.natCast_mul]
  generalize hq : j * podd h = q at *
  have e0 : IntKind.u64.wrap ((q : Nat) : Int) = (q : Int) := IntWalk.u64_in _ (by omega)
  rw [e1, e0, IntWalk.u64_in _ (by omega)]
  have e2 : ((h : Int) % 4294967296 + (q : Int)) = ((h % 4294967296 + q : Nat) : Int) := by omega
  rw [e2, Int.tmod_eq_emod_of_nonneg (by omega)]
  have e3 : (((h % 4294967296 + q : Nat) : Int)) % (n : Int) = ((prb h j n : Nat) : Int) := by unfold prb; rw [hq, Int.natCast_emod]
  rw [e3]
  have h4 : prb h j n < n := Nat.mod_lt _ (by omega)
  rw [IntWalk.wrap64_in _ (by omega)]
  simp
theorem prb_lt (h i m : Nat) (hm : 1 ≤ m) : prb h i m < m := Nat.mod_lt _ (by omega)
theorem low_and (h : Nat) (hh : h < 18446744073709551616) : bits BinOp.and IntKind.u64 (h : Int) 4294967295 = (h : Int) % 4294967296 := by
  have := bits_and_u64_nat h 4294967295 hh (by decide)
  rw [show ((4294967295 : Nat) : Int) = 4294967295 from rfl] at this
  rw [this, nat_mask32]; omega
theorem high_or (h : Nat) (hh : h < 18446744073709551616) : bits BinOp.or IntKind.u64 ((h : Int) / 4294967296) 1 = (podd h : Int) := by
  have := bits_or_u64_nat (h / 4294967296) 1 (by omega) (by decide)
  rw [show ((1 : Nat) : Int) = 1 from rfl] at this
  rw [show ((h : Int) / 4294967296) = ((h / 4294967296 : Nat) : Int) by omega, this]
  unfold podd
  have hx : h / 4294967296 ||| 1 = if h / 4294967296 % 2 = 0 then h / 4294967296 + 1 else h / 4294967296 := by
    split
    · exact nat_join 1 _ 1 (by omega) (by omega)
    · rename_i hn
      apply Nat.eq_of_testBit_eq
      intro j
      rw [Nat.testBit_or]
      cases j with
      | zero => simp; omega
      | succ j => simp [Nat.testBit_succ]
  rw [hx]

/-- A number halved k times. -/
def hv (x k : Nat) : Nat := x / 2 ^ k
theorem hv_zero (x : Nat) : hv x 0 = x := by simp [hv]
theorem hv_succ (x k : Nat) : ((hv x k : Nat) : Int) / 2 = ((hv x (k + 1) : Nat) : Int) := by
  unfold hv; rw [Nat.pow_succ, ← Nat.div_div_eq_div_mul]; omega
theorem hv_le (x k : Nat) : hv x k ≤ x := Nat.div_le_self _ _

set_option maxRecDepth 20000 in
set_option maxHeartbeats 400000 in
theorem rprobe_any (h : Nat) (i m : Int) (w : World) (hh : h < 18446744073709551616) (hi0 : 0 ≤ i) (hi : i < 4) (hm0 : 1 ≤ m) (hm : m ≤ 9223372036854775807) :
    Calls Try.prog 42 #[.int .u64 h, .int .i64 i, .int .i64 m] w fun e w' => e = .returned (.int .i64 (prb h i.toNat m.toNat)) ∧ w = w' := by
  have hx := Lib.hid (prb_num h i m hh hi0 hi hm0 hm)
  have h1 := Lib.hid (podd_even h)
  have h2 := Lib.hid (podd_odd h)
  go_enter Try.func42, Try.ntmps42
  go_wp2
  · have e : ((h : Int) / 4294967296 % 2 == 0) = true := by assumption
    go_ret
    exact ⟨ret_int (by rw [h1.out e, hx.out]), rfl⟩
  · have e : ((h : Int) / 4294967296 % 2 == 0) = false := by assumption
    go_ret
    exact ⟨ret_int (by rw [h2.out e, hx.out]), rfl⟩

set_option maxRecDepth 20000 in
set_option maxHeartbeats 400000 in
theorem probes_any (s : ByteArray) (m : Int) (w : World) (hs : s.size ≤ maxLen) (hm0 : 1 ≤ m) (hm : m ≤ 9223372036854775807) :
    Calls Try.prog 41 #[.string s, .int .i64 m] w fun e w' => e = .returned (.agg #[.int .i64 (prb (hsh s.data.toList) 0 m.toNat), .int .i64 (prb (hsh s.data.toList) 1 m.toNat), .int .i64 (prb (hsh s.data.toList) 2 m.toNat), .int .i64 (prb (hsh s.data.toList) 3 m.toNat)]) ∧ Below w.heap.size w w' := by
  have hh := hsh_lt s.data.toList
  have e1 := low_and _ hh
  have e2 := high_or _ hh
  have p0 : wrap64 ((hsh s.data.toList : Int) % 4294967296 % m) = (prb (hsh s.data.toList) 0 m.toNat : Int) := by
    have := prb_num _ 0 m hh (by omega) (by omega) hm0 hm
    rw [show (0 : Int) * (podd (hsh s.data.toList) : Int) = 0 by omega, show IntKind.u64.wrap 0 = 0 from rfl, IntWalk.u64_in _ (by omega), Int.tmod_eq_emod_of_nonneg (by omega)] at this
    simpa using this
  have p1 := prb_num _ 1 m hh (by omega) (by omega) hm0 hm
  rw [Int.one_mul] at p1
  have p2 := prb_num _ 2 m hh (by omega) (by omega) hm0 hm
  have p3 := prb_num _ 3 m hh (by omega) (by omega) hm0 hm
  go_enter Try.func41, Try.ntmps41
  go_wp2_with (go_at_call 12; refine (hash_any s _ hs).mono ?_; rintro e w' ⟨rfl, rfl⟩)
  refine wp_loop_rounds 5 ?_
  rw [rounds_succ]; go_wp2
  rw [rounds_succ]; go_wp2
  rw [rounds_succ]; go_wp2
  rw [rounds_succ]; go_wp2
  rw [rounds_succ]; go_wp2
  refine bodyPost_ret (v := .agg #[.int .i64 (prb (hsh s.data.toList) 0 m.toNat), .int .i64 (prb (hsh s.data.toList) 1 m.toNat), .int .i64 (prb (hsh s.data.toList) 2 m.toNat), .int .i64 (prb (hsh s.data.toList) 3 m.toNat)]) (by simp [results, Try.results41, go_sem]) rfl ⟨rfl, ?_⟩
  refine ((Below.refl _ _).alloc (Nat.le_refl _) _).alloc ?_ _
  simp


/-- A bit of a filter. -/
def fbit (l : List UInt8) (p : Nat) : Bool := hv (l.getD (p / 8) 0).toNat (p % 8) % 2 == 1
theorem beq_cast2 (x : Nat) : ((x : Int) % 2 == 1) = (x % 2 == 1) := by rw [Bool.eq_iff_iff, beq_iff_eq, beq_iff_eq]; omega
set_option maxRecDepth 20000 in
set_option maxHeartbeats 400000 in
theorem bit_any (s : ByteArray) (j : Nat) (w : World) (hs : s.size ≤ maxLen) (hp : j / 8 < s.size) :
    Calls Try.prog 43 #[.string s, .int .i64 (j : Int)] w fun e w' => e = .returned (.bool (fbit s.data.toList j)) ∧ w = w' := by
  have hfin := Lib.hid (show fbit s.data.toList j = (hv s[j / 8].toNat (j % 8) % 2 == 1) by unfold fbit; rw [getD_data s _ hp])
  unfold maxLen at hs
  go_enter Try.func43, Try.ntmps43
  go_wp2
  go_loop [5, 6] (fun x i => ∃ k : Nat, k ≤ j % 8 ∧ i = .int .i64 k ∧ x = .int .u8 (hv s[j / 8].toNat k : Int)) (fun _ i => j % 8 - (intOf i).toNat)
  case atStart => exact ⟨0, Nat.zero_le _, rfl, by rw [hv_zero]⟩
  case round =>
    obtain ⟨k, hk, rfl, rfl⟩ := hrel
    have hb : hv s[j / 8].toNat k < 256 := Nat.lt_of_le_of_lt (hv_le _ _) s[j / 8].toNat_lt
    by_cases hlt : k < j % 8
    · have hx := Lib.hid (hv_succ (s[j / 8].toNat) k)
      go_wp2
      go_round
      case rel => exact ⟨k + 1, by omega, by go_num, by rw [hx.out]⟩
      case measure => simp [intOf]; omega
    · obtain rfl : k = j % 8 := by omega
      go_wp2
      go_ret
      exact ⟨ret_bool (by rw [hfin.out]; exact beq_cast2 _), rfl⟩

def may (f key : List UInt8) : Bool := if f = [] then false else (List.range 4).all fun i => fbit f (prb (hsh key) i (8 * f.length))
theorem may_nil (key : List UInt8) : may [] key = false := by simp [may]
theorem may_yes {f key : List UInt8} (h0 : f.length ≠ 0) (h : ∀ i, i < 4 → fbit f (prb (hsh key) i (8 * f.length)) = true) : may f key = true := by
  unfold may
  rw [if_neg (fun e => h0 (by rw [e]; rfl)), List.all_eq_true]
  intro i hi; exact h i (by simpa using hi)
theorem may_no (f key : List UInt8) (i : Nat) (hi : i < 4) (h : fbit f (prb (hsh key) i (8 * f.length)) = false) : may f key = false := by
  unfold may
  split
  · rfl
  · rw [List.all_eq_false]; exact ⟨i, by simpa using hi, by simp [h]⟩

set_option maxRecDepth 20000 in
set_option maxHeartbeats 400000 in
theorem rmay_any (f key : ByteArray) (w : World) (hf : f.size ≤ 140737488351232) (hk : key.size ≤ maxLen) :
    Calls Try.prog 15 #[.string f, .string key] w fun e w' => e = .returned (.bool (may f.data.toList key.data.toList)) ∧ w = w' := by
  by_cases h0 : f.size = 0
  · have h1 := empty_of_size h0
    have H0 := Lib.hid (show may f.data.toList key.data.toList = false by rw [← ByteArray.toList_eq f, h1, may_nil])
    clear h0
    go_enter Try.func15, Try.ntmps15
    go_wp2
    go_ret
    exact ⟨ret_bool (by rw [H0.out]), rfl⟩
  · have h1 := isEmpty_of_size h0
    have hl := Lib.hid (show f.data.toList.length = f.size by simp)
    have hy := Lib.hid (@may_yes f.data.toList key.data.toList (by rw [hl.out]; exact h0))
    have hno := Lib.hid (may_no f.data.toList key.data.toList)
    have hh := hsh_lt key.data.toList
    have hpos : 0 < f.size := by omega
    have hfm : f.size ≤ maxLen := by unfold maxLen; omega
    clear h0
    go_enter Try.func15, Try.ntmps15
    go_wp2_with (go_at_call 13; refine (rhash_any key _ hk).mono ?_; rintro e w' ⟨rfl, rfl⟩)
    go_loop [6] (fun i => ∃ k : Nat, k ≤ 4 ∧ i = .int .i64 k ∧ Hid (∀ j, j < k → fbit f.data.toList (prb (hsh key.data.toList) j (8 * f.size)) = true)) (fun i => 4 - (intOf i).toNat)
    case atStart => exact ⟨0, Nat.zero_le _, rfl, fun j hj => absurd hj (Nat.not_lt_zero _)⟩
    case round =>
      obtain ⟨k, hk4, rfl, hall⟩ := hrel
      by_cases hlt : k < 4
      · have hp := prb_lt (hsh key.data.toList) k (8 * f.size) (by omega)
        go_wp2_with (first | (go_at_call 42; refine (rprobe_any _ _ _ _ hh (by omega) (by omega) (by omega) (by omega)).mono ?_; rintro e w' ⟨rfl, rfl⟩) | (go_at_call 43; refine (bit_any f _ _ hfm (by omega)).mono ?_; rintro e w' ⟨rfl, rfl⟩))
        · go_ret
          exact ⟨ret_bool (by rw [hno.out k hlt (by rw [hl.out]; simp_all)]), rfl⟩
        · go_round
          case rel =>
            refine ⟨k + 1, by omega, by go_num, ?_⟩
            intro j hj
            by_cases h : j < k
            · exact hall j h
            · obtain rfl : j = k := by omega
              simp_all
          case measure => simp [intOf]; omega
      · obtain rfl : k = 4 := by omega
        go_wp2
        go_ret
        exact ⟨ret_bool (by rw [hy.out (fun i hi => by rw [hl.out]; exact hall i hi)]), rfl⟩
end Go.Proofs.Ytanieolnaiihmaa
