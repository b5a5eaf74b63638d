/- Pack: the law PackUnlike, walked. -/
import Derived.Test.YtmjkebokedaldaaPkLives
namespace Go.Proofs.Ytmjkebokedaldaa
open Go.RowKit

theorem numB_eq_iff (a b : Nat) (ha : a < 18446744073709551616) (hb : b < 18446744073709551616) : numB a = numB b ↔ a = b := by
  constructor
  · intro h
    have h1 := rdNum_numB a [] ha
    have h2 := rdNum_numB b [] hb
    rw [h] at h1
    rw [h1] at h2
    injection h2
  · intro h; rw [h]
theorem rdNum_cut (a n : Nat) (ha : a < 18446744073709551616) (hn : n < (numB a).length) : rdNum ((numB a).take n) = (0, 1, (numB a).take n) := by
  cases h : numR 0 0 ((numB a).take n) with
  | none => exact rdNum_no h
  | some q =>
    obtain ⟨m, r⟩ := q
    obtain ⟨h1, hm⟩ := numR0_some h
    have h2 : numB a = numB m ++ (r ++ (numB a).drop n) := by rw [← List.append_assoc, ← h1, List.take_append_drop]
    have h3 := rdNum_numB a [] ha
    have h4 := rdNum_numB m (r ++ (numB a).drop n) hm
    rw [← h2] at h4
    rw [List.append_nil, h4] at h3
    injection h3 with _ h5
    injection h5 with _ h6
    have := congrArg List.length h6
    simp at this
    omega
theorem nums_one (w : World) (a : Nat) (ha : a < 18446744073709551616) : Calls Try.prog 28 #[.slice (some ⟨w.heap.size, 0, none⟩) 1 1] (w.alloc (.cells #[.int .u64 (a : Int)] 27)) fun e w' => e = .returned (.string ⟨(numB a).toArray⟩) ∧ Below w.heap.size w w' := by
  have h1 : numsB [a] = numB a := by simp [numsB]
  have := nums_any (w.alloc (.cells #[.int .u64 (a : Int)] 27)) (some ⟨w.heap.size, 0, none⟩) 1 1 [a]
    (by simpa [u64v] using Rd.new (w := w) (size := 1) (n := 1) #[.int .u64 (a : Int)] 27 rfl) (by rw [h1]; have := numB_len10 a ha; omega) (by simpa using ha) (by omega)
  rw [h1] at this
  exact this.mono fun e w' ⟨he, hb⟩ => ⟨he, ((Below.refl _ _).alloc (Nat.le_refl _) _).trans (hb.mono (by simp))⟩
theorem rdnum_g (w : World) (g : Nat) (s : ByteArray) (l : List UInt8) (n e : Nat) (r : List UInt8) (hl : s.data.toList = l) (hrd : rdNum l = (n, e, r)) (h : Rdr w 83 g s) (hs : s.size ≤ 140737488351232) :
    Calls Try.prog 37 #[.pointer (some ⟨g, 0, none⟩)] w fun e' w' => e' = .returned (.tuple #[.int .u64 (n : Int), .int .i64 (e : Int)]) ∧ Took w 83 g r w' :=
  rdnum_f w g s n e r (by rw [hl]; exact hrd) h hs
theorem read_new (w : World) (s : ByteArray) : Calls Try.prog 36 #[.string s] w fun e w' => e = .returned (.pointer (some ⟨w.heap.size, 0, none⟩)) ∧ Rdr w' 83 w.heap.size s ∧ Below w.heap.size w w' ∧ w.heap.size < w'.heap.size :=
  (read_any w s).mono fun e w' ⟨he, hw⟩ => ⟨he, by rw [hw]; exact Rdr.new w _ s, by rw [hw]; exact (Below.refl _ _).alloc (Nat.le_refl _) _, by rw [hw]; simp⟩
theorem below_took {B : Nat} {w0 w w' : World} {T : TypeId} {g : Nat} {r : List UInt8} (hb : Below B w0 w) (hB : B ≤ w.heap.size) (hg : B ≤ g) (h : Took w T g r w') : Below B w0 w' := by
  obtain ⟨s', _, _, hu⟩ := h
  exact hb.trans (hu.below (fun k hk e => by omega) hB)

set_option maxHeartbeats 1000000 in
set_option maxRecDepth 20000 in
theorem unlike_any (w : World) (a b : Nat) (ha : a < 18446744073709551616) (hb : b < 18446744073709551616) :
    Calls Try.prog 8 #[.int .u64 (a : Int), .int .u64 (b : Int)] w fun e w' => e = .returned (.bool true) ∧ Below w.heap.size w w' := by
  obtain ⟨x, hx⟩ : ∃ x : ByteArray, x = ⟨(numB a).toArray⟩ := ⟨_, rfl⟩
  obtain ⟨y, hy⟩ : ∃ y : ByteArray, y = ⟨(numB b).toArray⟩ := ⟨_, rfl⟩
  have hxl : x.data.toList = numB a := by rw [hx]
  have hyl : y.data.toList = numB b := by rw [hy]
  have hxs : x.size = (numB a).length := by rw [hx]; rfl
  have hys : y.size = (numB b).length := by rw [hy]; rfl
  have hx1 : 1 ≤ x.size := by rw [hxs]; exact numB_pos a
  have hx10 : x.size ≤ 10 := by rw [hxs]; exact numB_len10 a ha
  have hy10 : y.size ≤ 10 := by rw [hys]; exact numB_len10 b hb
  have hxe : x.toList = numB a := by rw [ByteArray.toList_eq, hxl]
  have hye : y.toList = numB b := by rw [ByteArray.toList_eq, hyl]
  have HX := Lib.hid hx
  have HY := Lib.hid hy
  have HXL := Lib.hid hxl
  have HYL := Lib.hid hyl
  have HXS := Lib.hid hxs
  have hcmp : (x.toList == y.toList) = ((a : Int) == (b : Int)) := by
    rw [hxe, hye, Bool.eq_iff_iff, beq_iff_eq, beq_iff_eq, numB_eq_iff a b ha hb]
    omega
  clear hx hy hxl hyl hxs hys hxe hye
  go_enter Try.func8, Try.ntmps8
  go_wp2_with fail
  refine (plives_any _).mono ?_
  rintro e w1 ⟨rfl, hb1⟩
  go_wp2_with fail
  refine (nums_one _ a ha).mono ?_
  rintro e w2 ⟨rfl, hb2⟩
  rw [← HX.out]
  go_wp2_with fail
  refine (nums_one _ b hb).mono ?_
  rintro e w3 ⟨rfl, hb3⟩
  rw [← HY.out]
  have hb13 := bel (bel hb1 hb2) hb3
  clear hb1 hb2 hb3
  go_wp2
  go_loopw [7] (fun i wx => ∃ k : Nat, k ≤ x.size ∧ i = .int .i64 k ∧ Below w.heap.size w wx) (fun i _ => x.size - (intOf i).toNat)
  case atStart => exact ⟨0, Nat.zero_le _, rfl, hb13⟩
  case round =>
    obtain ⟨k, hk, rfl, hbx⟩ := hrel
    by_cases hlt : k < x.size
    · have hcut := Lib.hid (rdNum_cut a k ha (by rw [← HXS.out]; exact hlt))
      have hel : (x.extract 0 k).data.toList = (numB a).take k := by rw [← HXL.out]; simp [ByteArray.data_extract]
      have hes : (x.extract 0 k).size = k := by simp; omega
      have HEL := Lib.hid hel
      clear hel
      go_wp2_with fail
      refine (read_new _ _).mono ?_
      rintro e w4 ⟨rfl, hr4, hb4, hz4⟩
      go_wp2_with fail
      refine (rdnum_g _ _ _ _ 0 1 _ HEL.out hcut.out hr4 (by rw [hes]; omega)).mono ?_
      rintro e w5 ⟨rfl, ht5⟩
      have hb5 : Below w.heap.size w w5 := below_took (bel hbx hb4) (Nat.le_trans hbx.size hb4.size) hbx.size ht5
      obtain ⟨s5, hs5, hr5, hu5⟩ := ht5
      have hs5k : s5.size = k := by
        have h1 : s5.size = s5.data.toList.length := by simp
        rw [h1, hs5, List.length_take, ← HXS.out]; omega
      clear hs5 hu5 hr4 hb4 hbx
      go_wp2_with fail
      refine (left_any _ _ _ hr5).mono ?_
      rintro e w6 ⟨rfl, rfl⟩
      rw [hs5k]
      go_wp2
      go_roundw
      case rel => exact ⟨k + 1, by omega, by go_num, hb5⟩
      case measure => simp [intOf]; omega
    · have hap : x ++ y = ⟨(numB a ++ numB b).toArray⟩ := by
        have := append_str (numB a) y
        rw [HYL.out] at this
        rw [HX.out]; exact this
      obtain ⟨z, hz⟩ : ∃ z : ByteArray, z = x ++ y := ⟨_, rfl⟩
      have hzl : z.data.toList = numB a ++ numB b := by rw [hz, hap]
      have hzs : z.size ≤ 20 := by
        have h1 : z.size = z.data.toList.length := by simp
        rw [h1, hzl, List.length_append]
        have := numB_len10 a ha
        have := numB_len10 b hb
        omega
      have HZL := Lib.hid hzl
      have hzz : x ++ y = z := hz.symm
      clear hz hzl hap
      go_wp2_with fail
      refine (read_new _ z).mono ?_
      rintro e w4 ⟨rfl, hr4, hb4, hz4⟩
      go_wp2_with fail
      refine (rdnum_g _ _ _ _ a 0 (numB b) HZL.out (rdNum_numB a _ ha) hr4 (by omega)).mono ?_
      rintro e w5 ⟨rfl, ht5⟩
      have hb5 : Below w.heap.size w w5 := below_took (bel hbx hb4) (Nat.le_trans hbx.size hb4.size) hbx.size ht5
      obtain ⟨s5, hs5, hr5, hu5⟩ := ht5
      have hs5k : s5.size ≤ 10 := by
        have h1 : s5.size = s5.data.toList.length := by simp
        rw [h1, hs5]; exact numB_len10 b hb
      have HS5 := Lib.hid hs5
      clear hs5 hu5 hr4 hb4
      go_wp2_with fail
      refine (rdnum_g _ _ _ (numB b ++ []) b 0 [] (by rw [HS5.out, List.append_nil]) (rdNum_numB b [] hb) hr5 (by omega)).mono ?_
      rintro e w6 ⟨rfl, ht6⟩
      have hb6 : Below w.heap.size w w6 := below_took hb5 hb5.size hbx.size ht6
      obtain ⟨s6, hs6, hr6, hu6⟩ := ht6
      have hs6k : (s6.size == 0) = true := by
        have h1 : s6.size = s6.data.toList.length := by simp
        rw [h1, hs6]; rfl
      clear hs6 hu6 hr5 hb5
      go_wp2_with fail
      refine (done_any _ _ _ hr6).mono ?_
      rintro e w7 ⟨rfl, rfl⟩
      rw [hs6k]
      go_wp2
      go_ret
      exact ⟨rfl, hb6⟩
end Go.Proofs.Ytmjkebokedaldaa
