/- Pack's reference, as other chapters use it. -/
import Derived.Test.YtanieolnaiihmaaBkWr
namespace Go.Proofs.Ytanieolnaiihmaa
open Go.RowKit

theorem low7r (n : Nat) : (n : Int) % 128 + 128 = (((UInt8.ofNat (n % 128 + 128)).toNat : Nat) : Int) := by
  rw [UInt8.toNat_ofNat', Nat.mod_eq_of_lt (show n % 128 + 128 < 2 ^ 8 by omega)]
  omega
theorem bytv_of {z : Int} {b : UInt8} (h : z = (b.toNat : Int)) : bytv [b] = [Value.int .u8 z] := by rw [h]; rfl
theorem byte_small (n : Nat) (h : n < 128) : (n : Int) = (((UInt8.ofNat n).toNat : Nat) : Int) := by
  rw [UInt8.toNat_ofNat', Nat.mod_eq_of_lt (by omega)]
set_option maxHeartbeats 1000000 in
set_option maxRecDepth 20000 in
theorem rnum_any (w : World) (x : Nat) (hx : x < 18446744073709551616) :
    Calls Try.prog 54 #[.int .u64 (x : Int)] w fun e w' => e = .returned (.string ⟨(numB x).toArray⟩) ∧ Below w.heap.size w w' := by
  obtain ⟨i0, hi0, hz0, hz1, hz2⟩ := info_parts u8_info
  have hl10 := numB_len10 x hx
  go_enter Try.func54, Try.ntmps54
  go_wp2
  go_loopw [0, 3] (fun q v wx => ∃ cur : Nat, ∃ pre : List UInt8, q = .int .u64 (cur : Int) ∧ cur < 18446744073709551616 ∧ Hid (numB x = pre ++ numB cur) ∧ wx.ownsRow w.heap.size 5 1 v pre.length (bytv pre) ∧ Below w.heap.size w wx) (fun q _ _ => (intOf q).toNat)
  case atStart => exact ⟨x, [], rfl, hx, rfl, World.ownsRow_nil _ _ _ _, Below.refl _ _⟩
  case round =>
    obtain ⟨cur, pre, rfl, hc64, hpre, hown, hbx⟩ := hrel
    have hlen2 : pre.length + 1 ≤ 10 := by
      have h1 : (numB x).length = pre.length + (numB cur).length := by rw [hpre.out, List.length_append]
      have h2 := numB_pos cur
      omega
    by_cases hsm : cur < 128
    · have HS := Lib.hid (numB_small hsm)
      have hz := Lib.hid (byte_small cur hsm)
      go_wp2_with (at_builtin; refine wpList_push rfl _ _ 38 rfl w.heap.size 5 i0 (.int .u8 0) 1 1 Try.underlying38 hi0 hz0 hz1 hz2 rfl (by decide) _ _ _ #[.int .u8 (cur : Int)] rfl (by exact hown) rfl rfl ?c1 ?c2 ?c3 ?c4 ?_)
      case c1 => first | rfl | (intro u hu; simp at hu; subst hu; rfl)
      case c2 => omega
      case c3 => unfold maxLen; omega
      case c4 => exact hbx.size
      intro v2 w2 hown2 hu2 hat2
      have hb2 : Below w.heap.size w w2 := hbx.trans (hu2.below (fun k hk e => by have := (hown.lt k e).1; omega) hbx.size)
      have hown3 : w2.ownsRow w.heap.size 5 1 v2 (numB x).length (bytv (numB x)) := by
        rw [hpre.out, HS.out, List.length_append, bytv_append, bytv_of hz.out]
        exact hown2
      have hcv := conv_own (P := Try.prog) (src := 38) (dst := 9) Try.underlying38 Try.underlying5 Try.underlying9 hown3
      clear hown2 hown hu2 hat2
      go_wp2
      go_ret
      exact ⟨rfl, hb2⟩
    · have HS := Lib.hid (numB_big hsm)
      have hz := Lib.hid (low7r cur)
      go_wp2_with (at_builtin; refine wpList_push rfl (.tmp 6) (.tmp 11) 38 rfl w.heap.size 5 i0 (.int .u8 0) 1 1 Try.underlying38 hi0 hz0 hz1 hz2 rfl (by decide) _ _ _ _ rfl (by exact hown) rfl rfl ?c5 ?c6 ?c7 ?c8 ?_)
      case c5 => first | rfl | (intro u hu; simp at hu; subst hu; rfl)
      case c6 => omega
      case c7 => unfold maxLen; omega
      case c8 => exact hbx.size
      intro v2 w2 hown2 hu2 hat2
      have hb2 : Below w.heap.size w w2 := hbx.trans (hu2.below (fun k hk e => by have := (hown.lt k e).1; omega) hbx.size)
      have hown3 : w2.ownsRow w.heap.size 5 1 v2 (pre ++ [UInt8.ofNat (cur % 128 + 128)]).length (bytv (pre ++ [UInt8.ofNat (cur % 128 + 128)])) := by
        rw [List.length_append, bytv_append, bytv_of hz.out]
        exact hown2
      have hp3 : Hid (numB x = (pre ++ [UInt8.ofNat (cur % 128 + 128)]) ++ numB (cur / 128)) := by rw [hpre.out, HS.out]; simp [Hid]
      clear hown2 hown hu2 hat2
      go_wp2
      go_roundw
      case rel => exact ⟨cur / 128, _, by go_num, by omega, hp3, hown3, hb2⟩
      case measure => simp [intOf]; omega
set_option maxHeartbeats 400000 in
theorem fold_any (w : World) (x : Int) (h0 : -9223372036854775808 ≤ x) (h1 : x ≤ 9223372036854775807) :
    Calls Try.prog 101 #[.int .i64 x] w fun e w' => e = .returned (.int .u64 ((fold x : Nat) : Int)) ∧ w = w' := by
  by_cases h : 0 ≤ x
  · go_enter Try.func101, Try.ntmps101
    go_wp2
    go_ret
    exact ⟨ret_int (by unfold fold; rw [if_pos h]; omega), rfl⟩
  · go_enter Try.func101, Try.ntmps101
    go_wp2
    go_ret
    exact ⟨ret_int (by unfold fold; rw [if_neg (by omega)]; omega), rfl⟩
set_option maxHeartbeats 400000 in
theorem rint_any (w : World) (x : Int) (h0 : -9223372036854775808 ≤ x) (h1 : x ≤ 9223372036854775807) :
    Calls Try.prog 82 #[.int .i64 x] w fun e w' => e = .returned (.string ⟨(intB x).toArray⟩) ∧ Below w.heap.size w w' := by
  have hf := fold_lt h0 h1
  go_enter Try.func82, Try.ntmps82
  go_wp2_with fail
  refine (fold_any _ x h0 h1).mono ?_
  rintro e w' ⟨rfl, rfl⟩
  go_wp2_with fail
  refine (rnum_any _ _ hf).mono ?_
  rintro e w' ⟨rfl, hb⟩
  go_wp2
  go_ret
  exact ⟨rfl, hb⟩
theorem append_str (l : List UInt8) (s : ByteArray) : (⟨l.toArray⟩ : ByteArray) ++ s = ⟨(l ++ s.data.toList).toArray⟩ := by
  apply ByteArray.ext
  simp
set_option maxHeartbeats 400000 in
theorem rtext_any (w : World) (s : ByteArray) (hs : s.size ≤ 140737488351232) :
    Calls Try.prog 56 #[.string s] w fun e w' => e = .returned (.string ⟨(textB s.data.toList).toArray⟩) ∧ Below w.heap.size w w' := by
  have hl10 := numB_len10 s.size (by omega)
  have hap := append_str (numB s.size) s
  have hfin := Lib.hid (show textB s.data.toList = numB s.size ++ s.data.toList by rw [textB]; simp)
  go_enter Try.func56, Try.ntmps56
  go_wp2_with fail
  refine (rnum_any _ s.size (by omega)).mono ?_
  rintro e w' ⟨rfl, hb⟩
  go_wp2
  go_ret
  exact ⟨ret_str (by rw [hfin.out]), hb⟩
end Go.Proofs.Ytanieolnaiihmaa
