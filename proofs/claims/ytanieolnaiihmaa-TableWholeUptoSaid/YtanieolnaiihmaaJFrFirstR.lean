/- Frames: the reference's First, walked. -/
import Derived.Test.YtanieolnaiihmaaJFrFirst
namespace Go.Proofs.Ytanieolnaiihmaa
open Go.RowKit

def bef (l : List UInt8) (i : Nat) : Nat := (l.take i).foldl (fun n b => 256 * n + b.toNat) 0
theorem bef_succ (l : List UInt8) (i : Nat) (h : i < l.length) : bef l (i + 1) = 256 * bef l i + l[i].toNat := by
  unfold bef; rw [List.take_succ_eq_append_getElem h, List.foldl_append]; rfl
theorem bef_lt (l : List UInt8) : ∀ i, bef l i < 256 ^ i
  | 0 => by simp [bef]
  | i + 1 => by
    by_cases h : i < l.length
    · rw [bef_succ l i h, Nat.pow_succ]
      have := bef_lt l i
      have := l[i].toNat_lt
      omega
    · have h1 : bef l (i + 1) = bef l i := by unfold bef; rw [List.take_of_length_le (by omega), List.take_of_length_le (by omega)]
      rw [h1, Nat.pow_succ]
      have := bef_lt l i
      omega
theorem bef_4 (l : List UInt8) : bef l 4 = be4 l := rfl
theorem fourB_inj {a b : Nat} (ha : a < 4294967296) (hb : b < 4294967296) (h : fourB a = fourB b) : a = b := by
  have h1 := be4_fourB a ha []
  have h2 := be4_fourB b hb []
  rw [h] at h1
  exact h1.symm.trans h2
theorem frame_eq (l : List UInt8) (h : be4 l + 8 ≤ l.length) : frameB ((l.drop 8).take (be4 l)) = l.take (8 + be4 l) ↔ sumB (l.take 4 ++ (l.drop 8).take (be4 l)) = be4 (l.drop 4) := by
  have hq : ((l.drop 8).take (be4 l)).length = be4 l := by rw [List.length_take, List.length_drop]; omega
  have hs : l.take (8 + be4 l) = l.take 4 ++ (l.drop 4).take 4 ++ (l.drop 8).take (be4 l) := by
    rw [show 8 + be4 l = 4 + (4 + be4 l) by omega, List.take_add, List.take_add, List.drop_drop, List.append_assoc]
  have h4 := four_take l (by omega)
  have h5 := four_take (l.drop 4) (by rw [List.length_drop]; omega)
  unfold frameB
  rw [hq, h4, hs, List.append_cancel_right_eq, List.append_cancel_left_eq, ← h5]
  exact ⟨fun e => fourB_inj (sumB_lt _) (be4_lt _) e, fun e => by rw [e]⟩
theorem cmp_eq (s : ByteArray) (k n : Nat) (l : List UInt8) (hl : l = s.data.toList.drop k) (hn : n = be4 l) (h : n + 8 ≤ l.length) :
    (!frameB (List.take n (List.drop (k + 8) s.data.toList)) == (s.extract k ((k : Int) + 8 + (n : Int)).toNat).toList) = false ↔ sumB (l.take 4 ++ (l.drop 8).take (be4 l)) = be4 (l.drop 4) := by
  subst hn
  rw [← frame_eq l h, ByteArray.toList_eq, ext_list, show ((k : Int) + 8 + ((be4 l : Nat) : Int)).toNat - k = 8 + be4 l by omega, ← hl, ← List.drop_drop, ← hl]
  simp
theorem first_retR {l : List UInt8} {a : Int} {k n : Nat} {p : ByteArray} {q m : List UInt8} (h1 : firstR l a = firstAt l k) (h2 : firstAt l k = (q, ((k + 8 + be4 m : Nat) : Int), 0)) (hp : p.data.toList = q) (hn : n = be4 m) :
    Ending.returned (.tuple #[.string p, .int .i64 ((k : Int) + 8 + (n : Int)), .int .i64 0]) = .returned (.tuple #[.string ⟨(firstR l a).1.toArray⟩, .int .i64 (firstR l a).2.1, .int .i64 ((firstR l a).2.2 : Int)]) := by
  rw [h1, h2, ← hp, hn]
  rfl
set_option maxRecDepth 20000 in
set_option maxHeartbeats 4000000 in
theorem rfirst_any (w : World) (s : ByteArray) (a : Int) (hs : s.size ≤ 140737488355328) (ha0 : -9223372036854775808 ≤ a) (ha1 : a ≤ 9223372036854775807) :
    Calls Try.prog 84 #[.string s, .int .i64 a] w fun e w' => e = .returned (.tuple #[.string ⟨(firstR s.data.toList a).1.toArray⟩, .int .i64 (firstR s.data.toList a).2.1, .int .i64 ((firstR s.data.toList a).2.2 : Int)]) ∧ Below w.heap.size w w' := by
  have hsl : s.data.toList.length = s.size := by simp
  go_enter Try.func84, Try.ntmps84
  by_cases hn : a < 0
  · have hno := first_out (l := s.data.toList) (.inl hn)
    have b0 : decide (a < 0) = true := decide_eq_true hn
    go_wp2
    go_ret3
    exact ⟨by first | rfl | (rw [hno]; rfl), Below.refl _ _⟩
  · have b0 : decide (a < 0) = false := decide_eq_false hn
    by_cases hg : (s.size : Int) - 8 < a
    · have hno := first_out (l := s.data.toList) (a := a) (.inr (by omega))
      by_cases hg2 : (s.size : Int) < a
      · have b1 : decide ((s.size : Int) < a) = true := decide_eq_true hg2
        go_wp2
        go_ret3
        exact ⟨by first | rfl | (rw [hno]; rfl), Below.refl _ _⟩
      · have b1 : decide ((s.size : Int) < a) = false := decide_eq_false hg2
        have b2 : decide ((s.size : Int) - a < 8) = true := decide_eq_true (by omega)
        go_wp2
        go_ret3
        exact ⟨by first | rfl | (rw [hno]; rfl), Below.refl _ _⟩
    · obtain ⟨k, rfl⟩ : ∃ k : Nat, a = (k : Int) := ⟨a.toNat, by omega⟩
      have hk : k + 8 ≤ s.size := by omega
      have hF := Lib.hid (first_in (l := s.data.toList) (k := k) (by omega))
      have b1 : decide ((s.size : Int) < (k : Int)) = false := decide_eq_false (by omega)
      have b2 : decide ((s.size : Int) - (k : Int) < 8) = false := decide_eq_false (by omega)
      obtain ⟨l, hl⟩ : ∃ l, l = s.data.toList.drop k := ⟨_, rfl⟩
      have hll : l.length = s.size - k := by rw [hl]; simp
      have hget : ∀ (i : Nat) (hi : k + i < s.size) (h2 : i < l.length), s[k + i] = l[i] := fun i hi h2 => by
        subst hl
        simp
        rfl
      have HL := Lib.hid hl
      clear hl
      go_wp2
      go_loop [7, 8] (fun n i => ∃ j : Nat, j ≤ 4 ∧ i = .int .i64 j ∧ n = .int .i64 (bef l j : Int)) (fun _ i => 4 - (intOf i).toNat)
      case atStart => exact ⟨0, Nat.zero_le _, rfl, rfl⟩
      case round =>
        obtain ⟨j, hj, rfl, rfl⟩ := hrel
        have hbf := bef_lt l j
        have hp4 : 256 ^ j ≤ 256 ^ 4 := Nat.pow_le_pow_right (by omega) hj
        generalize 256 ^ j = Z at *
        by_cases hj4 : j < 4
        · have hsu := bef_succ l j (by omega)
          have hgj := hget j (by omega) (by omega)
          rw [← hgj] at hsu
          have hlt : k + j < s.size := by omega
          have hb := (s[k + j]).toNat_lt
          have HSU := Lib.hid hsu
          clear hsu hgj hget
          generalize bef l j = n at *
          go_wp2
          go_round
          case rel => exact ⟨j + 1, by omega, by go_num, congrArg (Value.int .i64) (by rw [HSU.out]; omega)⟩
          case measure => simp [intOf]; omega
        · obtain rfl : j = 4 := by omega
          rw [bef_4] at hbf ⊢
          clear hget
          have hn32 := be4_lt l
          by_cases hbig : 65536 < be4 l ∨ l.length < be4 l + 8
          · have hno := Lib.hid (at_big HL.out.symm hbig)
            generalize be4 l = n at *
            by_cases hb6 : 65536 < n
            · have b3 : decide ((65536 : Int) < (n : Int)) = true := decide_eq_true (by omega)
              go_wp2
              go_ret3
              exact ⟨by rw [hF.out, hno.out]; rfl, Below.refl _ _⟩
            · have b3 : decide ((65536 : Int) < (n : Int)) = false := decide_eq_false (by omega)
              have b4 : decide ((s.size : Int) - (k : Int) - 8 < (n : Int)) = true := decide_eq_true (by omega)
              go_wp2
              go_ret3
              exact ⟨by rw [hF.out, hno.out]; rfl, Below.refl _ _⟩
          · have HOK := Lib.hid (at_ok HL.out.symm hbig)
            have HBAD := Lib.hid (at_bad (l := s.data.toList) (k := k) HL.out.symm)
            have b3 : decide ((65536 : Int) < (be4 l : Int)) = false := decide_eq_false (by omega)
            have b4 : decide ((s.size : Int) - (k : Int) - 8 < (be4 l : Int)) = false := decide_eq_false (by omega)
            obtain ⟨n, hnn⟩ : ∃ n, n = be4 l := ⟨_, rfl⟩
            rw [← hnn] at b3 b4 hbig hbf ⊢
            have HNN := Lib.hid hnn
            clear hnn
            have hps : (s.extract (k + 8) (k + 8 + n)).size ≤ 65536 := by
              have : (s.extract (k + 8) (k + 8 + n)).size = n := by simp; omega
              omega
            have f1 : k + 8 + n ≤ s.size := by omega
            have f2 : (k : Int) + 8 + (n : Int) ≤ (s.size : Int) := by omega
            have f3 : (k : Int) ≤ (k : Int) + 8 + (n : Int) := by omega
            have f4 : k ≤ k + 8 + n := by omega
            have f5 : (0 : Int) ≤ (k : Int) + 8 + (n : Int) := by omega
            have g1 : IntKind.i64.wrap ((k : Int) + 8) = (k : Int) + 8 := by rw [IntKind.wrap_i64]; omega
            have g2 : IntKind.i64.wrap ((k : Int) + 8 + (n : Int)) = ((k + 8 + n : Nat) : Int) := by rw [IntKind.wrap_i64]; omega
            have hce := Lib.hid (cmp_eq s k n l HL.out HNN.out (by omega))
            have HQ : Hid ((s.extract (k + 8) (k + 8 + n)).data.toList = (l.drop 8).take (be4 l)) := by
              rw [ext_list, Nat.add_sub_cancel_left, HL.out, List.drop_drop, ← HL.out, HNN.out]; rfl
            clear hll hbf hp4 hj hn32
            go_wp2
            go_region_with (go_at_call 83; refine (rframe_any _ (s.extract (k + 8) (k + 8 + n)) hps).mono ?_; rintro e w2 ⟨rfl, hb2⟩)
            all_goals go_wp2
            all_goals rename_i hcmp
            all_goals go_ret3
            all_goals first | exact ⟨by rw [hF.out, HBAD.out (fun e => by rw [(hce.out).2 e] at hcmp; cases hcmp)]; rfl, hb2.os, hb2.tape, hb2.output, hb2.size, hb2.block⟩ | exact ⟨first_retR hF.out (HOK.out ((hce.out).1 (by simpa using hcmp))) HQ.out HNN.out, hb2.os, hb2.tape, hb2.output, hb2.size, hb2.block⟩
end Go.Proofs.Ytanieolnaiihmaa
