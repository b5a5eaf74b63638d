/- Keys: Int and Text, walked. -/
import Derived.Test.YtaphfjomlignhaaDoorOrPt
import Derived.Test.YtaphfjomlignhaaDoorNums
import Derived.Laws.MakeOwn
namespace Go.Proofs.YtaphfjomlignhaaDoor
open Go.RowKit
theorem pt_info : (Tryd.prog.info? 31).map (fun i => (i.zero, i.size, i.bytes)) = some (some (.agg #[.int .i64 0, .int .i64 0, .string ⟨#[]⟩]), 3, 32) := by kernel_rfl
def ipt (n : Int) : Pt := ⟨1, n, ⟨#[]⟩⟩
def tpt (s : ByteArray) : Pt := ⟨2, 0, s⟩
theorem below_of_upd {B : Nat} {w0 w w' : World} (hb : Below B w0 w) (hu : w.grownBy w' none) (hB : B ≤ w.heap.size) : Below B w0 w' := hb.trans (⟨hu.os, hu.tape, hu.output, hu.size, fun k hk => hu.block k (by omega) (by simp)⟩)
set_option maxHeartbeats 1000000 in
set_option maxRecDepth 20000 in
theorem ints_any (w : World) (A : Option Addr) (n c : Nat) (l : List Int) (hr : Rd w w.heap.size 1 A n (i64v l)) (hn : n ≤ 1048576) :
    Calls Tryd.prog 12 #[.slice A n c] w fun e w' => ∃ v, e = .returned v ∧ w'.ownsRow w.heap.size 31 3 v (l.map ipt).length (ptv (l.map ipt)) ∧ Below w.heap.size w w' := by
  obtain ⟨i0, hi0, hz0, hz1, hz2⟩ := info_parts pt_info
  have hlen : l.length = n := by have := hr.len; rw [i64v_length] at this; omega
  have HLEN := Lib.hid hlen
  have HR := Lib.hid hr
  obtain ⟨w2, hrun, hown, hgr⟩ := run_make_own (P := Tryd.prog) w w.heap.size 27 31 i0 _ 3 Tryd.underlying27 hi0 hz0 hz1 .i64 .i64 n (by rw [hz2]; omega) (by unfold maxLen; omega) (Nat.le_refl _)
  have HO := Lib.hid hown
  have HB := Lib.hid (below_of_upd (Below.refl _ _) hgr (Nat.le_refl _))
  clear hlen hr hown hgr
  go_enter Tryd.func12, Tryd.ntmps12
  go_wp2
  clear hrun
  go_loopw [3, 11] (fun v i wx => ∃ k : Nat, k ≤ n ∧ i = .int .i64 k ∧ Hid (wx.ownsRow w.heap.size 31 3 v ((l.take k).map ipt).length (ptv ((l.take k).map ipt))) ∧ Hid (Below w.heap.size w wx)) (fun _ i _ => n - (intOf i).toNat)
  case atStart => exact ⟨0, Nat.zero_le _, rfl, by simpa [ptv] using HO, HB⟩
  case round =>
    obtain ⟨k, hk, rfl, hO, hW⟩ := hrel
    by_cases hlt : k < n
    · obtain ⟨ad, rfl, hab, hs, hc⟩ := (HR.out.below hW.out).i64 hlt
      have hT : (l.take (k + 1)).map ipt = (l.take k).map ipt ++ [ipt l[k]] := by rw [List.take_succ_eq_append_getElem hs, List.map_append]; rfl
      have HT := Lib.hid hT
      have hlt2 : ((l.take k).map ipt).length ≤ 1048576 := by simp; omega
      obtain ⟨x, hx⟩ : ∃ x, l[k] = x := ⟨_, rfl⟩
      rw [hx] at hc
      rw [hx] at HT
      have hsz := hW.out.size
      obtain ⟨os, hos⟩ : ∃ os, (l.take k).map ipt = os := ⟨_, rfl⟩
      rw [hos] at hO hlt2 HT
      clear hx hT hos
      go_wp2_with (at_builtin; refine wpList_push rfl (.tmp 15) (.tmp 18) 27 rfl w.heap.size 31 i0 _ 3 32 Tryd.underlying27 hi0 hz0 hz1 hz2 rfl (by decide) _ os.length (ptv os) #[.int .i64 1, .int .i64 x, .string ⟨#[]⟩] rfl (by exact hO.out) rfl rfl ?c1 ?c2 ?c3 ?c4 ?_)
      case c1 => first | exact ⟨rfl, rfl, rfl⟩ | (intro u hu; simp at hu; rcases hu with rfl | rfl | rfl <;> rfl)
      case c2 => omega
      case c3 => unfold maxLen; omega
      case c4 => omega
      intro v3 w3 hown3 hu3 hat3
      have HO3 : Hid (w3.ownsRow w.heap.size 31 3 v3 ((l.take (k + 1)).map ipt).length (ptv ((l.take (k + 1)).map ipt))) := Lib.hid (by
        rw [HT.out, ptv_append, ptv_one, List.length_append]
        exact hown3)
      have HW3 : Hid (Below w.heap.size w w3) := Lib.hid (below_row hW.out hW.out.size hO.out (Nat.le_refl _) hu3)
      clear hown3 hu3 hat3 hO hW
      go_wp2
      go_roundw
      case rel => exact ⟨k + 1, by omega, by go_num, HO3, HW3⟩
      case measure => simp [intOf]; omega
    · obtain rfl : k = n := by omega
      have HO3 : Hid (wr.ownsRow w.heap.size 31 3 u3 (l.map ipt).length (ptv (l.map ipt))) := Lib.hid (by have := hO.out; rwa [← HLEN.out, List.take_length] at this)
      go_wp2
      go_ret
      exact ⟨_, rfl, HO3.out, hW.out⟩
set_option maxHeartbeats 1000000 in
set_option maxRecDepth 20000 in
theorem texts_any (w : World) (A : Option Addr) (n c : Nat) (l : List ByteArray) (hr : Rd w w.heap.size 1 A n (strv l)) (hn : n ≤ 1048576) :
    Calls Tryd.prog 13 #[.slice A n c] w fun e w' => ∃ v, e = .returned v ∧ w'.ownsRow w.heap.size 31 3 v (l.map tpt).length (ptv (l.map tpt)) ∧ Below w.heap.size w w' := by
  obtain ⟨i0, hi0, hz0, hz1, hz2⟩ := info_parts pt_info
  have hlen : l.length = n := by have := hr.len; rw [strv_length] at this; omega
  have HLEN := Lib.hid hlen
  have HR := Lib.hid hr
  obtain ⟨w2, hrun, hown, hgr⟩ := run_make_own (P := Tryd.prog) w w.heap.size 27 31 i0 _ 3 Tryd.underlying27 hi0 hz0 hz1 .i64 .i64 n (by rw [hz2]; omega) (by unfold maxLen; omega) (Nat.le_refl _)
  have HO := Lib.hid hown
  have HB := Lib.hid (below_of_upd (Below.refl _ _) hgr (Nat.le_refl _))
  clear hlen hr hown hgr
  go_enter Tryd.func13, Tryd.ntmps13
  go_wp2
  clear hrun
  go_loopw [3, 11] (fun v i wx => ∃ k : Nat, k ≤ n ∧ i = .int .i64 k ∧ Hid (wx.ownsRow w.heap.size 31 3 v ((l.take k).map tpt).length (ptv ((l.take k).map tpt))) ∧ Hid (Below w.heap.size w wx)) (fun _ i _ => n - (intOf i).toNat)
  case atStart => exact ⟨0, Nat.zero_le _, rfl, by simpa [ptv] using HO, HB⟩
  case round =>
    obtain ⟨k, hk, rfl, hO, hW⟩ := hrel
    by_cases hlt : k < n
    · obtain ⟨ad, rfl, hab, hs, hc⟩ := (HR.out.below hW.out).str hlt
      have hT : (l.take (k + 1)).map tpt = (l.take k).map tpt ++ [tpt l[k]] := by rw [List.take_succ_eq_append_getElem hs, List.map_append]; rfl
      have HT := Lib.hid hT
      have hlt2 : ((l.take k).map tpt).length ≤ 1048576 := by simp; omega
      obtain ⟨x, hx⟩ : ∃ x, l[k] = x := ⟨_, rfl⟩
      rw [hx] at hc
      rw [hx] at HT
      have hsz := hW.out.size
      obtain ⟨os, hos⟩ : ∃ os, (l.take k).map tpt = os := ⟨_, rfl⟩
      rw [hos] at hO hlt2 HT
      clear hx hT hos
      go_wp2_with (at_builtin; refine wpList_push rfl (.tmp 15) (.tmp 18) 27 rfl w.heap.size 31 i0 _ 3 32 Tryd.underlying27 hi0 hz0 hz1 hz2 rfl (by decide) _ os.length (ptv os) #[.int .i64 2, .int .i64 0, .string x] rfl (by exact hO.out) rfl rfl ?c1 ?c2 ?c3 ?c4 ?_)
      case c1 => first | exact ⟨rfl, rfl, rfl⟩ | (intro u hu; simp at hu; rcases hu with rfl | rfl | rfl <;> rfl)
      case c2 => omega
      case c3 => unfold maxLen; omega
      case c4 => omega
      intro v3 w3 hown3 hu3 hat3
      have HO3 : Hid (w3.ownsRow w.heap.size 31 3 v3 ((l.take (k + 1)).map tpt).length (ptv ((l.take (k + 1)).map tpt))) := Lib.hid (by
        rw [HT.out, ptv_append, ptv_one, List.length_append]
        exact hown3)
      have HW3 : Hid (Below w.heap.size w w3) := Lib.hid (below_row hW.out hW.out.size hO.out (Nat.le_refl _) hu3)
      clear hown3 hu3 hat3 hO hW
      go_wp2
      go_roundw
      case rel => exact ⟨k + 1, by omega, by go_num, HO3, HW3⟩
      case measure => simp [intOf]; omega
    · obtain rfl : k = n := by omega
      have HO3 : Hid (wr.ownsRow w.heap.size 31 3 u3 (l.map tpt).length (ptv (l.map tpt))) := Lib.hid (by have := hO.out; rwa [← HLEN.out, List.take_length] at this)
      go_wp2
      go_ret
      exact ⟨_, rfl, HO3.out, hW.out⟩
end Go.Proofs.YtaphfjomlignhaaDoor
