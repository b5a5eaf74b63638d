/- Stable sorting: slices.swapRangeCmpFunc, walked. -/
import Derived.Test.YtcfgmkiohmbdlaaERow
import Derived.Deep.RegionHeld3
import Derived.Lib.Hide
namespace Go.Proofs.Ytcfgmkiohmbdlaa
open Go.RowKit
set_option maxHeartbeats 4000000 in
set_option maxRecDepth 20000 in
theorem swapR_any (w0 W : World) (g c N a b n : Nat) (F : Value) (A X B Y C : List Ent) (h : ERow w0 W g (A ++ X ++ B ++ Y ++ C)) (hN : N = (A ++ X ++ B ++ Y ++ C).length) (ha : a = A.length) (hb : b = A.length + X.length + B.length) (hX : n = X.length) (hY : n = Y.length) (hbig : N ≤ 1099511627776) :
    Calls Try.prog 135 #[.slice (some ⟨g, 0, none⟩) N c, .int .i64 a, .int .i64 b, .int .i64 n, F] W fun e w' => e = .returned (.tuple #[]) ∧ ERow w0 w' g (A ++ Y ++ B ++ X ++ C) := by
  have hl : a + n ≤ N ∧ b + n ≤ N ∧ a + n ≤ b := by rw [hN]; simp only [List.length_append]; omega
  obtain ⟨hl1, hl2, hl3⟩ := hl
  have HN := Lib.hid hN
  have HA := Lib.hid ha
  have HB := Lib.hid hb
  have HX := Lib.hid hX
  have HY := Lib.hid hY
  have H0 := Lib.hid h
  clear hN ha hb hX hY h
  go_enter Try.func135, Try.ntmps135
  go_wp2
  go_loopw [10] (fun i wx => ∃ k : Nat, k ≤ n ∧ i = .int .i64 k ∧ Hid (ERow w0 wx g (A ++ (Y.take k ++ X.drop k) ++ B ++ (X.take k ++ Y.drop k) ++ C))) (fun i _ => n - (intOf i).toNat)
  case atStart => exact ⟨0, Nat.zero_le _, rfl, Lib.hid (by simpa using H0.out)⟩
  case round =>
    obtain ⟨k, hk, rfl, hR⟩ := hrel
    by_cases hlt : k < n
    · have hkx : k < X.length := by rw [← HX.out]; exact hlt
      have hky : k < Y.length := by rw [← HY.out]; exact hlt
      have e1 : A ++ (Y.take k ++ X.drop k) ++ B ++ (X.take k ++ Y.drop k) ++ C = (A ++ Y.take k) ++ X[k] :: ((X.drop (k + 1) ++ B ++ X.take k) ++ Y[k] :: (Y.drop (k + 1) ++ C)) := by
        rw [List.drop_eq_getElem_cons hkx, List.drop_eq_getElem_cons hky]; simp only [List.append_assoc, List.cons_append, List.nil_append]
      have e2 : A ++ (Y.take (k + 1) ++ X.drop (k + 1)) ++ B ++ (X.take (k + 1) ++ Y.drop (k + 1)) ++ C = (A ++ Y.take k) ++ Y[k] :: ((X.drop (k + 1) ++ B ++ X.take k) ++ X[k] :: (Y.drop (k + 1) ++ C)) := by
        rw [List.take_succ_eq_append_getElem hkx, List.take_succ_eq_append_getElem hky]; simp only [List.append_assoc, List.cons_append, List.nil_append]
      have hR2 := hR.out
      rw [e1] at hR2
      have HE2 := Lib.hid e2
      obtain ⟨x, hx⟩ : ∃ x, X[k] = x := ⟨_, rfl⟩
      obtain ⟨y, hy⟩ : ∃ y, Y[k] = y := ⟨_, rfl⟩
      rw [hx, hy] at hR2 HE2
      have hi : a + k = (A ++ Y.take k).length := by rw [HA.out, List.length_append, List.length_take]; omega
      have hj : b + k = (A ++ Y.take k).length + 1 + (X.drop (k + 1) ++ B ++ X.take k).length := by
        have := HX.out
        rw [HB.out]; simp only [List.length_append, List.length_take, List.length_drop]; omega
      have hci := hR2.at_ hi
      have hR3 : ERow w0 wr g ((A ++ Y.take k ++ x :: (X.drop (k + 1) ++ B ++ X.take k)) ++ y :: (Y.drop (k + 1) ++ C)) := by simpa using hR2
      have hcj := hR3.at_ (i := b + k) (by rw [hj]; simp; omega)
      have hfr := hR2.free
      have HSW := Lib.hid (hR2.swap hi hj).drew
      obtain ⟨x1, x2, x3, x4⟩ := x
      obtain ⟨y1, y2, y3, y4⟩ := y
      obtain ⟨p1, p2, p3, p4⟩ := hci
      obtain ⟨q1, q2, q3, q4⟩ := hcj
      have o1 : ((a : Int) + (k : Int)).toNat = a + k := by omega
      have o2 : ((b : Int) + (k : Int)).toNat = b + k := by omega
      have f1 := hfr ((a + k) * 4)
      have f2 := hfr ((a + k) * 4 + 1)
      have f3 := hfr ((a + k) * 4 + 2)
      have f4 := hfr ((a + k) * 4 + 3)
      have f5 := hfr ((b + k) * 4)
      have f6 := hfr ((b + k) * 4 + 1)
      have f7 := hfr ((b + k) * 4 + 2)
      have f8 := hfr ((b + k) * 4 + 3)
      have hne : a + k ≠ b + k := by omega
      clear hR hR2 hR3 hx hy e1 e2 hi hj hfr hkx hky
      go_wp2
      go_region
      go_wp2
      go_roundw
      case rel => exact ⟨k + 1, by omega, by go_num, Lib.hid (by rw [HE2.out]; exact HSW.out)⟩
      case measure => simp [intOf]; omega
    · obtain rfl : k = n := by omega
      have hE : ERow w0 wr g (A ++ Y ++ B ++ X ++ C) := by
        have h1 := hR.out
        have h2 : Y.take k = Y := List.take_of_length_le (by rw [← HY.out]; exact Nat.le_refl _)
        have h3 : X.take k = X := List.take_of_length_le (by rw [← HX.out]; exact Nat.le_refl _)
        have h4 : Y.drop k = [] := List.drop_of_length_le (by rw [← HY.out]; exact Nat.le_refl _)
        have h5 : X.drop k = [] := List.drop_of_length_le (by rw [← HX.out]; exact Nat.le_refl _)
        rw [h2, h3, h4, h5, List.append_nil, List.append_nil] at h1
        exact h1
      have HE := Lib.hid hE
      clear hE hR
      go_wp2
      refine bodyPost_end (results_none rfl _ _ _) rfl ?_
      exact ⟨rfl, HE.out⟩
end Go.Proofs.Ytcfgmkiohmbdlaa
