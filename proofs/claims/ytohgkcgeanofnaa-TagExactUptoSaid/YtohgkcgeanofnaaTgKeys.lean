/- Digests: TagKeys, walked. -/
import Derived.Test.YtohgkcgeanofnaaTgLives
namespace Go.Proofs.Ytohgkcgeanofnaa
open Go.RowKit
theorem one_str (w : World) (s : ByteArray) : Rd (w.alloc (.cells #[.string s] 9)) (w.alloc (.cells #[.string s] 9)).heap.size 1 (some ⟨w.heap.size, 0, none⟩) 1 (strv [s]) := by
  have h1 := Rd.new (w := w) (size := 1) (n := 1) #[.string s] 9 rfl
  exact h1.mono (by simp)
theorem allB_one (s : ByteArray) : allB [s] = s.data.toList := by simp [allB]
/-- The digest of one text. -/
theorem sum1_any (w : World) (s : ByteArray) (hs : s.size ≤ 140737488351232) :
    Calls Try.prog 7 #[.slice (some ⟨w.heap.size, 0, none⟩) 1 1] (w.alloc (.cells #[.string s] 9)) fun e w' => e = .returned (.string ⟨(sumB s.data.toList).toArray⟩) ∧ Below w.heap.size w w' := by
  refine (sum_any _ _ 1 1 [s] (one_str w s) (by decide) (fun p hp => by rw [List.mem_singleton] at hp; rw [hp]; exact hs)).mono ?_
  rintro e w' ⟨rfl, hb⟩
  rw [allB_one]
  exact ⟨rfl, ((Below.refl _ _).alloc (Nat.le_refl _) _).trans (hb.mono (by simp))⟩
/-- The keyed digest of one text. -/
theorem mac1_any (w : World) (key s : ByteArray) (hk : key.size ≤ 140737488351232) (hs : s.size ≤ 140737488351232) :
    Calls Try.prog 9 #[.string key, .slice (some ⟨w.heap.size, 0, none⟩) 1 1] (w.alloc (.cells #[.string s] 9)) fun e w' => e = .returned (.string ⟨(macB key.data.toList s.data.toList).toArray⟩) ∧ Below w.heap.size w w' := by
  refine (mac_any _ key _ 1 1 [s] (one_str w s) (by decide) hk (fun p hp => by rw [List.mem_singleton] at hp; rw [hp]; exact hs)).mono ?_
  rintro e w' ⟨rfl, hb⟩
  rw [allB_one]
  exact ⟨rfl, ((Below.refl _ _).alloc (Nat.le_refl _) _).trans (hb.mono (by simp))⟩
theorem rem_nat (a : Int) (m : Nat) (h : 0 < m) (hm : m ≤ 1048576) : ∃ k : Nat, k < m ∧ wrap64 ((IntKind.u64.wrap a).tmod (m : Int)) = (k : Int) := by
  have h0 : 0 ≤ IntKind.u64.wrap a := by rw [IntKind.wrap_u64]; exact Int.emod_nonneg _ (by decide)
  have h1 := Int.emod_lt_of_pos (IntKind.u64.wrap a) (show (0 : Int) < (m : Int) by omega)
  have h2 := Int.emod_nonneg (IntKind.u64.wrap a) (show (m : Int) ≠ 0 by omega)
  rw [Int.tmod_eq_emod_of_nonneg h0]
  refine ⟨(IntKind.u64.wrap a % (m : Int)).toNat, by omega, ?_⟩
  rw [Int.toNat_of_nonneg h2]
  generalize IntKind.u64.wrap a % (m : Int) = z at h1 h2
  unfold wrap64
  omega
set_option maxHeartbeats 4000000 in
set_option maxRecDepth 20000 in
theorem keys_any (w : World) (key text : ByteArray) (more : Int) (hk : key.size ≤ 140737488351232) (ht : text.size ≤ 140737488351232) :
    Calls Try.prog 5 #[.string key, .string text, .int .i64 more] w fun e w' => e = .returned (.bool true) ∧ Below w.heap.size w w' := by
  obtain ⟨i0, hi0, hz0, hz1, hz2⟩ := info_parts u8_info
  have hkl : key.data.toList.length = key.size := by simp
  go_enter Try.func5, Try.ntmps5
  go_wp2_with fail
  refine (lives_any w).mono ?_
  rintro e w1 ⟨rfl, hb1⟩
  by_cases h64 : 64 < key.size
  · have h64' : (64 : Int) < key.size := by omega
    go_wp2_with fail
    refine (mac1_any w1 key text (by omega) (by omega)).mono ?_
    rintro e w2 ⟨rfl, hb2⟩
    go_wp2_with fail
    refine (sum1_any w2 key (by omega)).mono ?_
    rintro e w3 ⟨rfl, hb3⟩
    go_wp2_with fail
    refine (mac1_any w3 _ text (by show (sumB _).toArray.size ≤ _; rw [List.size_toArray, sumB_length]; decide) (by omega)).mono ?_
    rintro e w4 ⟨rfl, hb4⟩
    have hm : macB (⟨(sumB key.data.toList).toArray⟩ : ByteArray).data.toList text.data.toList = macB key.data.toList text.data.toList := mac_sum _ _ (by omega)
    rw [hm]
    go_wp2
    go_ret
    exact ⟨rfl, bel (bel (bel hb1 hb2) hb3) hb4⟩
  · have hcv := fun w s => run_bytes_of_string (P := Try.prog) w 9 29 5 s Try.underlying9 Try.underlying29 Try.underlying5
    have h64' : ¬ ((64 : Int) < key.size) := by omega
    obtain ⟨n, hn, hrem⟩ := rem_nat more (65 - key.size) (by omega) (by omega)
    rw [show ((65 - key.size : Nat) : Int) = 65 - (key.size : Int) by omega] at hrem
    go_wp2
    have hO := OwnB.made w1 key 5 (by unfold maxLen; omega)
    have hB := below_drew1 (hb1.alloc hb1.size (.cells (bytesRow key (grownCap w1 key.size 0 5)) 5 ((bytesRow key (grownCap w1 key.size 0 5)).size, (bytesRow key (grownCap w1 key.size 0 5)).size + 1)))
    clear hcv
    generalize hc1 : grownCap w1 key.size 0 5 = cap at *
    clear hc1
    change OwnB (w1.alloc (.cells (bytesRow key cap) 5 ((bytesRow key cap).size, (bytesRow key cap).size + 1))).drew w1.heap.size 5 _ _ at hO
    generalize (w1.alloc (.cells (bytesRow key cap) 5 ((bytesRow key cap).size, (bytesRow key cap).size + 1))).drew = w2 at hO hB ⊢
    rw [show decide ((64 : Int) < key.size) = false from decide_eq_false (by omega)]
    rw [hrem]
    go_loopw [7, 9] (fun v i wx => ∃ j : Nat, j ≤ n ∧ i = .int .i64 j ∧ OwnB wx w.heap.size 5 v (key.data.toList ++ List.replicate j 0) ∧ Below w.heap.size w wx) (fun _ i _ => n - (intOf i).toNat)
    case atStart => exact ⟨0, Nat.zero_le _, rfl, by rw [List.replicate_zero, List.append_nil]; exact hO.mono hb1.size, hB⟩
    case round =>
      clear hO hB
      obtain ⟨j, hj, rfl, how, hB⟩ := hrel
      obtain ⟨L, hL⟩ : ∃ L, L = key.data.toList ++ List.replicate j 0 := ⟨_, rfl⟩
      rw [← hL] at how
      have hLl : L.length = key.size + j := by rw [hL, List.length_append, List.length_replicate, hkl]
      obtain ⟨A7, c7, rfl⟩ := how.shape
      have HL := Lib.hid hL
      have HLL := Lib.hid hLl
      have HOW := Lib.hid how
      have HB := Lib.hid hB
      have hBw := hB.size
      clear hL hLl
      by_cases hlt : j < n
      · have m4 : (j : Int) < n := by omega
        clear how hB
        go_wp2_with (at_builtin; refine wpList_bpush wr rfl (.tmp 41) (.tmp 42) 29 rfl w.heap.size 5 i0 Try.underlying29 hi0 hz0 hz1 hz2 _ L [0] _ 1 1 rfl rfl rfl (by exact HOW.out) rfl ?c2 ?c3 ?_)
        case c2 => rw [HLL.out]; omega
        case c3 => exact hBw
        intro v' w3 ho3 hu3 _
        have ho4 : OwnB w3 w.heap.size 5 v' (key.data.toList ++ List.replicate (j + 1) 0) := by
          rw [List.replicate_succ', ← List.append_assoc, ← HL.out]
          exact ho3
        have hB4 := below_ownB HB.out hBw HOW.out (Nat.le_refl _) hu3
        clear ho3 hu3
        go_wp2
        refine ⟨⟨j + 1, by omega, by go_num, ho4, hB4⟩, ?_⟩
        simp [intOf]; omega
      · obtain rfl : j = n := by omega
        have hst := how.str (P := Try.prog) (src := 29) (dst := 9) Try.underlying29 Try.underlying5 Try.underlying9
        clear how
        go_wp2_with fail
        refine (mac1_any wr ⟨L.toArray⟩ text (by show L.toArray.size ≤ _; rw [List.size_toArray, HLL.out]; omega) (by omega)).mono ?_
        rintro e w3 ⟨rfl, hb3⟩
        go_wp2_with fail
        refine (mac1_any w3 key text (by omega) (by omega)).mono ?_
        rintro e w4 ⟨rfl, hb4⟩
        have hm : macB (⟨L.toArray⟩ : ByteArray).data.toList text.data.toList = macB key.data.toList text.data.toList := by
          show macB L text.data.toList = _
          rw [HL.out]
          exact mac_zeros _ _ _ (by omega)
        rw [hm]
        go_wp2
        go_ret
        exact ⟨rfl, bel (bel HB.out hb3) hb4⟩
end Go.Proofs.Ytohgkcgeanofnaa
