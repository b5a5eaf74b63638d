/- Flows: flows, walked. -/
import Derived.Test.YtmekcpbcgelliaaFlSolve
namespace Go.Proofs.Ytmekcpbcgelliaa
open Go.RowKit
/-- 'make([]int, 0, n)'. -/
theorem mkcap (w : World) (n : Nat) (hn : n ≤ 1048576) : (Instr.makeSlice 39 (.int .i64 0) (.int .i64 n)).run Try.prog w = .ok (.slice (some ⟨w.heap.size, 0, none⟩) 0 n) (w.alloc (.cells (Array.replicate n (Value.int .i64 0)) 3)) := by
  obtain ⟨i0, hi0, hz0, hz1, hz2⟩ := info_parts int_info
  have h := run_makeSlice (P := Try.prog) w 39 3 i0 (.int .i64 0) Try.underlying39 hi0 hz0 .i64 .i64 0 n (by omega) (by omega) (by rw [hz1]; omega) (by rw [hz2]; omega) (by omega)
  rw [hz1, Int.toNat_natCast, Nat.mul_one] at h
  have e : (madeCells (Value.int IntKind.i64 0).cells n).toList = _ := toList_madeCells_one _ n
  have e2 : madeCells (Value.int IntKind.i64 0).cells n = Array.replicate n (Value.int .i64 0) := Array.ext' (by rw [e]; simp)
  rw [h, e2]
  rfl
theorem made_own (w : World) (n : Nat) (hn : n ≤ 1048576) : (w.alloc (.cells (Array.replicate n (Value.int .i64 0)) 3)).ownsRow w.heap.size 3 1 (.slice (some ⟨w.heap.size, 0, none⟩) 0 n) 0 [] :=
  ⟨rfl, .inr ⟨w.heap.size, n, _, rfl, Nat.le_refl _, heap_alloc_new w _, Nat.zero_le _, by unfold maxLen; omega, by simp, by simp⟩⟩
/-- What the arcs carry. -/
def flL (N : Nw) (room : List Int) : List Int := (List.range N.m).map (fl room)
def flTo (room : List Int) (k : Nat) : List Int := (List.range k).map (fl room)
theorem flTo_succ (room : List Int) (k : Nat) : flTo room (k + 1) = flTo room k ++ [fl room k] := by simp [flTo, List.range_succ]
theorem flTo_len (room : List Int) (k : Nat) : (flTo room k).length = k := by simp [flTo]
set_option maxHeartbeats 4000000 in
set_option maxRecDepth 20000 in
theorem flows_any (w : World) (F : Nat → Prop) (P N R : Nat) (av : Value) (nodes s t : Nat) (value paid : Int) (nw : Nw) (rows : List (List Nat)) (room : List Int) (hA : NetA w F P N R av nodes s t value paid nw rows room) (hm : nw.m ≤ 4000) :
    Calls Try.prog 23 #[.pointer (some ⟨P, 0, none⟩)] w fun e w' => ∃ v, e = .returned v ∧ w'.ownsRow w.heap.size 3 1 v nw.m ((flL nw room).map (Value.int .i64)) ∧ Below w.heap.size w w' := by
  obtain ⟨A, c, rfl⟩ : ∃ A c, av = .slice A (2 * nw.m) c := by
    rcases hA.shp with ⟨h0, c, h⟩ | ⟨c, h⟩
    · exact ⟨none, c, by rw [h, h0]⟩
    · exact ⟨_, c, h⟩
  obtain ⟨m, hmm⟩ : ∃ m, m = nw.m := ⟨_, rfl⟩
  have c0 := hA.c0
  have hmk := mkcap w m (by omega)
  have hown := made_own w m (by omega)
  have hplt := hA.plt
  have HA := Lib.hid hA
  have HM := Lib.hid hmm
  obtain ⟨M, hM⟩ : ∃ M, M = 2 * m := ⟨_, rfl⟩
  rw [← hmm, ← hM] at c0
  have HMM := Lib.hid hM
  have hdv : ((M : Int) / 2) = (m : Int) := by omega
  have hMl : M ≤ 8000 := by omega
  clear hA hmm hM
  go_enter Try.func23, Try.ntmps23
  obtain ⟨i0, hi0, hz0, hz1, hz2⟩ := info_parts int_info
  have hb0 : Below w.heap.size w (w.alloc (.cells (Array.replicate m (Value.int .i64 0)) 3)) := (Below.refl w.heap.size w).alloc (Nat.le_refl _) _
  have HOWN := Lib.hid hown
  have HB0 := Lib.hid hb0
  clear hown hb0
  go_wp2
  go_loopw [3, 4] (fun v i wx => ∃ k : Nat, k ≤ m ∧ i = .int .i64 ((2 * k + 1 : Nat) : Int) ∧ Hid (wx.ownsRow w.heap.size 3 1 v k ((flTo room k).map (Value.int .i64))) ∧ Hid (Below w.heap.size w wx)) (fun _ i _ => 2 * m + 1 - (intOf i).toNat)
  case atStart => exact ⟨0, Nat.zero_le _, rfl, HOWN, HB0⟩
  case round =>
    clear HOWN HB0 c0 hmk
    obtain ⟨k, hk, rfl, ho, hb⟩ := hrel
    have hA := HA.out.below hb.out (fun j hj => HA.out.flt j hj) hplt (fun h => (HA.out.arcs h).lt)
    have c0 := hA.c0
    rw [← HM.out, ← HMM.out] at c0
    by_cases hlt : k < m
    · obtain ⟨ca, hca⟩ := HA.out.some (by rw [← HM.out]; omega)
      injection hca with hca1 _ hca3
      subst hca1
      subst hca3
      have hM2 := HMM.out
      have hM3 := HM.out
      have a1 := (hA.arcs (by omega)).c1 (j := 2 * k + 1) (by omega)
      have e0 : gi room (2 * k + 1) = fl room k := rfl
      rw [e0] at a1
      have hl1 : 2 * k + 1 < M := by omega
      have hwz : IntKind.i64.wrap (((2 * k + 1 : Nat) : Int) + 2) = ((2 * (k + 1) + 1 : Nat) : Int) := by
        rw [IntWalk.i64_in _ (by omega)]; omega
      have hou := ho.out
      have hz := hb.out.size
      have HFS := Lib.hid (flTo_succ room k)
      clear hA ho e0 hM2 hM3
      generalize fl room k = y at a1 HFS
      obtain ⟨i, hi⟩ : ∃ i, 2 * k + 1 = i := ⟨_, rfl⟩
      have HI := Lib.hid hi
      rw [hi] at a1 hl1 hwz
      rw [hi]
      clear hi
      go_wp2_with (at_builtin; refine wpList_push rfl (.tmp 21) (.tmp 30) 39 rfl w.heap.size 3 i0 (.int .i64 0) 1 8 Try.underlying39 hi0 hz0 hz1 hz2 rfl (by decide) _ k _ #[.int .i64 y] rfl (by exact hou) rfl rfl (by simp [Value.oneCell']) ?c1 ?c2 ?c3 ?_)
      case c1 => omega
      case c2 => unfold maxLen; omega
      intro v1 w1 ho1 hu1 hr1
      have HO1 : Hid (w1.ownsRow w.heap.size 3 1 v1 (k + 1) ((flTo room (k + 1)).map (Value.int .i64))) := Lib.hid (by
        rw [HFS.out, List.map_append]
        exact ho1)
      have HB1 := Lib.hid (below_row hb.out hz hou (Nat.le_refl _) hu1)
      clear ho1 hu1 hr1 hou hb a1
      go_wp2
      go_roundw
      case rel => exact ⟨k + 1, by omega, rfl, HO1, HB1⟩
      case measure =>
        have := HI.out
        simp only [intOf]
        omega
    · obtain rfl : k = m := by omega
      have hfin := ho.out
      have hM2 := HMM.out
      have HR : Hid (wr.ownsRow w.heap.size 3 1 u3 nw.m ((flL nw room).map (Value.int .i64))) := Lib.hid (by
        unfold flL
        rw [← HM.out]
        exact hfin)
      clear hA ho hfin
      go_wp2
      go_ret
      exact ⟨_, rfl, HR.out, hb.out⟩
end Go.Proofs.Ytmekcpbcgelliaa
