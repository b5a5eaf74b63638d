/- Keys: the reference's Split, walked. -/
import Derived.Test.YtaphfjomlignhaaDoorOrPart
import Derived.Test.YtaphfjomlignhaaDoorOrRKey
import Derived.Test.YtaphfjomlignhaaDoorOrBack
import Derived.Test.YtaphfjomlignhaaDoorOrEnds
namespace Go.Proofs.YtaphfjomlignhaaDoor
open Go.RowKit
set_option maxHeartbeats 4000000 in
set_option maxRecDepth 20000 in
theorem rsplit_any (w : World) (s : ByteArray) (hs : s.size ≤ 1048576) :
    Calls Tryd.prog 18 #[.string s] w fun e w' => ∃ v ps e', e = .returned (.tuple #[v, .int .i64 ((e' : Nat) : Int)]) ∧ SplitAns s.data.toList ps e' ∧ w'.ownsRow w.heap.size 31 3 v ps.length (ptv ps) ∧ Below w.heap.size w w' := by
  obtain ⟨i0, hi0, hz0, hz1, hz2⟩ := info_parts pt_info
  have HSL := Lib.hid (show s.data.toList.length = s.size by simp)
  go_enter Tryd.func18, Tryd.ntmps18
  go_wp2
  go_loopw [4, 5] (fun v i wx => ∃ (p : Nat) (ps : List Pt), i = .int .i64 p ∧ Hid (RSt s.data.toList ps p) ∧ Hid (wx.ownsRow w.heap.size 31 3 v ps.length (ptv ps)) ∧ Hid (Below w.heap.size w wx)) (fun _ i _ => s.size - (intOf i).toNat)
  case atStart => exact ⟨0, [], rfl, Lib.hid (rst_start _), Lib.hid (World.ownsRow_nil _ _ _ _), Lib.hid (Below.refl _ _)⟩
  case round =>
    obtain ⟨p, ps, rfl, HS, HO, HW⟩ := hrel
    have hsz := HW.out.size
    by_cases hlt : p < s.size
    · have hpl : p < s.data.toList.length := by rw [HSL.out]; exact hlt
      have hpsl : ps.length ≤ 1048576 := by have := HS.out.2.2.2.2.1; rw [HSL.out] at this; omega
      go_wp2_with fail
      refine (rpart_any _ s p (by omega) hlt).mono ?_
      rintro e w1 ⟨x, q, rfl, ha, hb1⟩
      have hq := ha.2.2.1
      have HS2 := Lib.hid (rst_step HS.out hpl ha)
      have HB1 := Lib.hid (HW.out.trans (hb1.mono hsz))
      have HO1 := Lib.hid (own_below HO.out hb1)
      have hs1 : w.heap.size ≤ w1.heap.size := HB1.out.size
      obtain ⟨K, N, T⟩ := x
      clear ha hb1
      have hO2 : (w1.alloc (.cells #[.int .i64 K, .int .i64 N, .string T] 31)).ownsRow w.heap.size 31 3 u4 ps.length (ptv ps) := own_below HO1.out ((Below.refl _ _).alloc (Nat.le_refl _) _)
      have hB2 : Below w.heap.size w (w1.alloc (.cells #[.int .i64 K, .int .i64 N, .string T] 31)) := HB1.out.alloc hs1 _
      have HO2 := Lib.hid hO2
      have HB2 := Lib.hid hB2
      clear hO2 hB2
      go_upto_region 5 with (fail)
      have hrow := heap_alloc_new w1 (.cells #[.int .i64 K, .int .i64 N, .string T] 31)
      obtain ⟨X, hX⟩ : ∃ X, w1.alloc (.cells #[.int .i64 K, .int .i64 N, .string T] 31) = X := ⟨_, rfl⟩
      rw [hX] at hrow HO2 HB2
      rw [hX]
      have c0 : X.cell? ⟨w1.heap.size, 0, none⟩ = some (.int .i64 K) := by rw [cell_of_row _ _ 0 _ _ _ hrow]; rfl
      have c1 : X.cell? ⟨w1.heap.size, 1, none⟩ = some (.int .i64 N) := by rw [cell_of_row _ _ 1 _ _ _ hrow]; rfl
      have c2 : X.cell? ⟨w1.heap.size, 2, none⟩ = some (.string T) := by rw [cell_of_row _ _ 2 _ _ _ hrow]; rfl
      have hs2 := HB2.out.size
      clear hX hrow
      go_wp2_with (at_builtin; refine wpList_push (w := X) rfl (.tmp 20) (.tmp 22) 27 rfl w.heap.size 31 i0 _ 3 32 Tryd.underlying27 hi0 hz0 hz1 hz2 rfl (by decide) _ ps.length (ptv ps) #[.int .i64 K, .int .i64 N, .string T] rfl (by exact HO2.out) rfl rfl ?c1 ?c2 ?c3 ?c4 ?_)
      case c1 => first | exact ⟨rfl, rfl, rfl⟩ | exact ⟨rfl, rfl⟩ | rfl | (intro u hu; simp at hu; rcases hu with rfl | rfl | rfl <;> rfl)
      case c2 => omega
      case c3 => unfold maxLen; omega
      case c4 => exact hs2
      intro v3 w3 hown3 hu3 hat3
      have HO3 : Hid (w3.ownsRow w.heap.size 31 3 v3 (ps ++ [(⟨K, N, T⟩ : Pt)]).length (ptv (ps ++ [(⟨K, N, T⟩ : Pt)]))) := Lib.hid (by
        rw [ptv_append, ptv_one, List.length_append]
        exact hown3)
      have HW3 : Hid (Below w.heap.size w w3) := Lib.hid (below_row HB2.out HB2.out.size HO2.out (Nat.le_refl _) hu3)
      clear hown3 hu3 hat3 c0 c1 c2
      go_wp2
      go_roundw
      case rel => exact ⟨q, ps ++ [⟨K, N, T⟩], rfl, HS2, HO3, HW3⟩
      case measure => simp [intOf]; omega
    · obtain ⟨A, c, hv⟩ := own_shape HO.out
      subst hv
      obtain ⟨r1, r2, r3, r4, r5, r6, r7, r8⟩ := HS.out
      rw [HSL.out] at r3 r5 r7
      have hend := rst_end HS.out (by rw [HSL.out]; omega)
      have hkey := rkey_any wr A ps.length c ps (Rd.own HO.out) (by omega) (fun x hx => ⟨r2 x hx, by have := r3 x hx; omega⟩) (by omega)
      rw [keyR_ok r1] at hkey
      have HKEY := Lib.hid hkey
      clear hkey r1 r2 r3 r6 r8
      obtain ⟨Y, hY⟩ : ∃ Y : ByteArray, (⟨(bytesK ps).toArray⟩ : ByteArray) = Y := ⟨_, rfl⟩
      have hYd : Y.data.toList = bytesK ps := by rw [← hY]
      rw [hY] at HKEY
      rw [← hYd] at hend
      have HE := Lib.hid hend
      clear hY hYd hend
      go_wp2_with fail
      refine HKEY.out.mono ?_
      rintro e w1 ⟨rfl, hb1⟩
      have HB1 := Lib.hid (HW.out.trans (hb1.mono hsz))
      have HO1 := Lib.hid (own_below HO.out hb1)
      clear hb1 HKEY
      rcases HE.out with ⟨hy, ha⟩ | ⟨hy, ha⟩
      · obtain rfl : Y = s := by apply ByteArray.ext; apply Array.ext'; exact hy
        have HA := Lib.hid ha
        clear hy ha HE
        go_wp2
        go_ret2
        exact ⟨_, ps, 0, rfl, HA.out, HO1.out, HB1.out⟩
      · have hne : (Y.toList == s.toList) = false := beq_ba (fun e => hy (by rw [e]))
        have HA := Lib.hid ha
        clear hy ha HE
        go_wp2
        go_ret2
        exact ⟨_, [], 3, rfl, HA.out, World.ownsRow_nil _ _ _ _, HB1.out⟩
end Go.Proofs.YtaphfjomlignhaaDoor
