/- Keys: the law OrderKeys, walked. -/
import Derived.Test.YtaphfjomlignhaaDoorOrRSpl
import Derived.Test.YtaphfjomlignhaaDoorOrRanges
namespace Go.Proofs.YtaphfjomlignhaaDoor
open Go.RowKit
theorem splitAns_one {l : List UInt8} {ps qs : List Pt} {e f : Nat} (h : SplitAns l ps e) (h' : SplitAns l qs f) : qs = ps ∧ f = e := by
  rcases h with ⟨rfl, a1, a2, a3, _, _⟩ | ⟨rfl, rfl, a⟩
  · rcases h' with ⟨rfl, b1, b2, b3, _, _⟩ | ⟨rfl, rfl, b⟩
    · exact ⟨bytesK_inj a1 b1 a2 b2 (by rw [← a3, ← b3]), rfl⟩
    · exact absurd a3 (b ps a1 a2)
  · rcases h' with ⟨rfl, b1, b2, b3, _, _⟩ | ⟨rfl, rfl, b⟩
    · exact absurd b3 (a qs b1 b2)
    · exact ⟨rfl, rfl⟩
theorem splitAns_len {l : List UInt8} {ps : List Pt} {e : Nat} (h : SplitAns l ps e) : ps.length ≤ l.length := by
  rcases h with ⟨_, _, _, _, _, h⟩ | ⟨_, rfl, _⟩
  · exact h
  · simp
theorem rd_snoc {w : World} {B size n : Nat} {A : Option Addr} {xs ys : List Value} (h : Rd w B size A (n + 1) (xs ++ ys)) (hx : xs.length = n * size) : Rd w B size A n xs := by
  have := h.take n (Nat.le_succ _)
  rwa [← hx, List.take_left] at this
set_option maxHeartbeats 4000000 in
set_option maxRecDepth 20000 in
theorem keys_any (w : World) (A : Option Addr) (n c : Nat) (l : List Pt) (s : ByteArray) (m : Int) (hm : MaxAt w m) (hr : Rd w w.heap.size 3 A n (ptv l)) (hn : n ≤ 1048576)
    (hok : okL l) (hl : (bytesK l).length ≤ 67108864) (hs : s.size ≤ 1048576) :
    Calls Tryd.prog 5 #[.slice A n c, .string s] w fun e w' => e = .returned (.bool true) ∧ Below w.heap.size w w' := by
  obtain ⟨i0, hi0, hz0, hz1, hz2⟩ := info_parts pt_info
  have HNL := Lib.hid (rd_ptlen hr)
  have HR := Lib.hid hr
  have HO := Lib.hid hok
  have hkey := fun (W : World) (A : Option Addr) (c : Nat) (hm : MaxAt W m) (h : Rd W W.heap.size 3 A n (ptv l)) => key_any W A n c l m hm.1 hm.2 h (by omega) hok (by omega)
  have hrkey := fun (W : World) (h : Rd W W.heap.size 3 A n (ptv l)) => rkey_any W A n c l h (by omega) hok (by omega)
  obtain ⟨X, hX⟩ : ∃ X : ByteArray, (⟨(keyR l).1.toArray⟩ : ByteArray) = X := ⟨_, rfl⟩
  obtain ⟨E, hE⟩ : ∃ E : Int, ((keyR l).2 : Int) = E := ⟨_, rfl⟩
  rw [hX, hE] at hkey hrkey
  have HK := Lib.hid hkey
  have HRK := Lib.hid hrkey
  clear hkey hrkey hX hE hr hok
  go_enter Tryd.func5, Tryd.ntmps5
  go_wp2_with fail
  refine (olives_any _ m hm).mono ?_
  rintro e0 w1 ⟨rfl, hb1⟩
  have HB1 := Lib.hid hb1
  have HM1 := Lib.hid (hm.below hb1)
  clear hb1 hm
  have hS1 := HB1.out.size
  have t4 := own_nothing w1 31 3
  have t5 := (HR.out.below HB1.out).below ((below_alloc w1 (.cells #[] 31)).mono hS1)
  have t6 := ptv_cell l
  go_wp2_with (at_builtin; refine wpList_app rfl (.tmp 14) (.tmp 15) 27 rfl w1.heap.size 31 i0 _ 3 32 Tryd.underlying27 hi0 hz0 hz1 hz2 rfl (by omega) _ 0 [] w.heap.size A n c (ptv l) rfl t4 rfl t5 t6 ?e1 ?e2 ?e3 ?_)
  case e1 => omega
  case e2 => unfold maxLen; omega
  case e3 => simp
  intro v4 w4 ho4 hu4 _
  clear t4 t5 t6
  have hb4 : Below w1.heap.size w1 w4 := (below_alloc w1 (.cells #[] 31)).trans (hu4.below (fun k hk e => by simp [Value.ownBlock] at e; omega) (by simp))
  have HO4 := Lib.hid ho4
  have HB4 := Lib.hid hb4
  have hB4 : w1.heap.size ≤ w4.heap.size := hb4.size
  clear ho4 hu4 hb4
  go_wp2_with (at_builtin; refine wpList_push rfl (.tmp 16) (.tmp 18) 27 rfl w1.heap.size 31 i0 _ 3 32 Tryd.underlying27 hi0 hz0 hz1 hz2 rfl (by omega) _ n (ptv l) #[.int .i64 (-7), .int .i64 0, .string ⟨#[]⟩] rfl (by exact HO4.out) rfl rfl (by simp [Value.oneCell']) ?f1 ?f2 ?f3 ?_)
  case f1 => omega
  case f2 => unfold maxLen; omega
  all_goals try (exact hB4)
  intro v5 w5 ho5 hu5 _
  obtain ⟨go, co, rfl, hob, hol, hoc, _⟩ := own_form ho5 (by omega)
  have hb5 : Below w1.heap.size w1 w5 := HB4.out.trans (hu5.below (fun k hk e => by have := (HO4.out.lt k e).1; omega) hB4)
  have HB5 := Lib.hid (HB1.out.trans (hb5.mono hS1))
  have HM5 := Lib.hid (HM1.out.below hb5)
  have hell : (ptv l).length = n * 3 := by rw [ptv_length, ← HNL.out]
  have HRO := Lib.hid (rd_snoc (Rd.own ho5) hell)
  have hc7 : w5.cell? ⟨go, n * 3, none⟩ = some (.int .i64 (-7)) := by
    have h := ho5.cells (g := go) rfl (n * 3) (.int .i64 (-7)) (by rw [List.getElem?_append_right (by omega), hell]; simp)
    rwa [add_zero_off] at h
  have HC7 := Lib.hid hc7
  have hos : w.heap.size ≤ w5.heap.size := HB5.out.size
  clear ho5 hu5 hb5 HO4 HB4 hB4 HM1 HB1 hell hc7
  have hnco : n ≤ co := by omega
  go_wp2_with fail
  refine (HK.out w5 _ co HM5.out HRO.out).mono ?_
  rintro e6 w6 ⟨rfl, hb6⟩
  have HB6 := Lib.hid (HB5.out.trans (hb6.mono hos))
  have HM6 := Lib.hid (HM5.out.below hb6)
  have HRO6 := Lib.hid (HRO.out.below hb6)
  have HC6 := Lib.hid ((hb6.cell (p := ⟨go, n * 3, none⟩) hol).trans HC7.out)
  have hs6 := hb6.size
  clear hb6 HB5 HM5 HRO HC7
  go_wp2_with fail
  refine (HRK.out w6 ((HR.out.below HB6.out).mono HB6.out.size)).mono ?_
  rintro e7 w7 ⟨rfl, hb7⟩
  have HB7 := Lib.hid (HB6.out.trans (hb7.mono HB6.out.size))
  have HM7 := Lib.hid (HM6.out.below hb7)
  have HRO7 := Lib.hid (HRO6.out.keep fun p hp => hb7.cell (by omega))
  have HC7 := Lib.hid ((hb7.cell (p := ⟨go, n * 3, none⟩) (show go < _ by omega)).trans HC6.out)
  have hs7 := hb7.size
  clear hb7 HB6 HM6 HRO6 HC6 HK HRK
  go_wp2_with fail
  refine (same_yes _ A n co c w5.heap.size w.heap.size l w7 (by unfold maxLen; omega) HRO7.out (HR.out.below HB7.out)).mono ?_
  rintro e8 w8 ⟨rfl, hb8⟩
  have HB8 := Lib.hid (HB7.out.trans (hb8.mono HB7.out.size))
  have HM8 := Lib.hid (HM7.out.below hb8)
  have hC8 := (hb8.cell (p := ⟨go, n * 3, none⟩) (show go < _ by omega)).trans HC7.out
  clear hb8 HB7 HM7 HRO7 HC7
  go_wp2_with fail
  refine (split_any w8 s (by omega)).mono ?_
  rintro e9 w9 ⟨v, ps, e', rfl, ha, ho, hb9⟩
  have HB9 := Lib.hid (HB8.out.trans (hb9.mono HB8.out.size))
  have hs9 := hb9.size
  have HA := Lib.hid ha
  have hpl := splitAns_len ha
  have HO9 := Lib.hid ho
  clear ha ho hb9 HB8 HM8 hC8
  go_wp2_with fail
  refine (rsplit_any w9 s hs).mono ?_
  rintro e10 w10 ⟨v', qs, f', rfl, ha, ho, hb10⟩
  obtain ⟨rfl, rfl⟩ := splitAns_one HA.out ha
  have HB10 := Lib.hid (HB9.out.trans (hb10.mono HB9.out.size))
  obtain ⟨Ax, cx, hvx⟩ := own_shape HO9.out
  obtain ⟨Ay, cy, hvy⟩ := own_shape ho
  subst hvx
  subst hvy
  have hsl : s.data.toList.length = s.size := by simp
  have HRX := Lib.hid ((Rd.own HO9.out).below hb10)
  have HRY := Lib.hid (Rd.own ho)
  have hll : qs.length ≤ 1048576 := by omega
  obtain ⟨N, hN⟩ : ∃ N, qs.length = N := ⟨_, rfl⟩
  rw [hN] at HRX HRY hll
  rw [hN]
  have HSAME := Lib.hid (same_yes Ax Ay N cx cy w9.heap.size w10.heap.size qs w10 (by unfold maxLen; omega) HRX.out HRY.out)
  clear ha ho hb10 HA HO9 HRX HRY hN hpl hsl
  go_wp2_with fail
  refine HSAME.out.mono ?_
  rintro e11 w11 ⟨rfl, hb11⟩
  have HB11 := Lib.hid (HB10.out.trans (hb11.mono HB10.out.size))
  clear hb11 HSAME
  go_wp2
  go_ret
  exact ⟨rfl, HB11.out⟩
end Go.Proofs.YtaphfjomlignhaaDoor
