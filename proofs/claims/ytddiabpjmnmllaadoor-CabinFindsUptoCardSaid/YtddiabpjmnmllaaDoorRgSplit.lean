/- strings.SplitSeq at ".": the pieces are handed over one by one. -/
import Derived.Test.YtddiabpjmnmllaaDoorRgLaw
import Derived.Test.YtddiabpjmnmllaaDoorCbPc
import Derived.Test.YtddiabpjmnmllaaDoorCbShelf
import Derived.Shelf.Abstract
import Derived.WalkKit
import Derived.OwnWalkIn
import Derived.TacticsInMore
import Derived.LoopNIn
import Derived.LoopIn
namespace Go.Proofs.YtddiabpjmnmllaaDoor
open Go.RowKit Go.Lib
attribute [local go_sem] Oper.semAt_some
/-- How much of the text is left. -/
def strLeft (w : World) (b : Nat) : Nat := match w.cell? ⟨b, 0, none⟩ with
  | some (.string R) => R.size
  | _ => 0
theorem strLeft_eq {w : World} {b : Nat} {R : ByteArray} (h : w.cell? ⟨b, 0, none⟩ = some (.string R)) : strLeft w b = R.size := by unfold strLeft; rw [h]
/-- What a round keeps: the iterator's three boxes. -/
def KeepB (H : Nat) (W W' : World) : Prop := W.heap.size ≤ W'.heap.size ∧ ∀ k, H ≤ k → k < H + 3 → k < W.heap.size → W'.heap[k]? = W.heap[k]?
theorem KeepB.trans {H : Nat} {A B C : World} (h : KeepB H A B) (h2 : KeepB H B C) : KeepB H A C :=
  ⟨Nat.le_trans h.1 h2.1, fun k k1 k2 k3 => (h2.2 k k1 k2 (Nat.lt_of_lt_of_le k3 h.1)).trans (h.2 k k1 k2 k3)⟩
theorem KeepB.refl (H : Nat) (A : World) : KeepB H A A := ⟨Nat.le_refl _, fun _ _ _ _ => rfl⟩
theorem KeepB.upd {H : Nat} {S : Nat → Prop} {A B : World} (h : Upd S A B) (hs : ∀ k, H ≤ k → k < H + 3 → ¬ S k) : KeepB H A B := ⟨h.size, fun k k1 k2 k3 => h.block k k3 (hs k k1 k2)⟩
theorem KeepB.alloc (H : Nat) (W : World) (o : Obj) : KeepB H W (W.alloc o) := ⟨by simp, fun k _ _ k3 => Below.heap_alloc W o k k3⟩
theorem KeepB.putObj {H : Nat} (W : World) (l : Nat) (o : Obj) (hl : H + 3 ≤ l) : KeepB H W (W.putObj l o) := ⟨by simp [World.putObj], fun k _ k2 _ => World.putObj_heap_other (by omega)⟩
theorem index_dot (R : ByteArray) : indexByte R.data.toList 46 = indexB R ⟨#[46]⟩ := (index_one _ _).symm
set_option maxRecDepth 100000 in
set_option maxHeartbeats 4000000 in
theorem split_hands (n : Nat) (hn : 1 ≤ n) (w : World) (H : Nat) (s : ByteArray) (hs : s.size ≤ 1048576) (b0 : w.heap[H]? = some (.cells #[.string s] 9 (0, 0))) (b1 : w.heap[H + 1]? = some (.cells #[.string ⟨#[46]⟩] 9 (0, 0))) (b2 : w.heap[H + 2]? = some (.cells #[.int .i64 0] 3 (0, 0))) :
    Hands Fence.wide n Tryd.prog 71 #[.pointer (some ⟨H + 1, 0, none⟩), .pointer (some ⟨H, 0, none⟩), .pointer (some ⟨H + 2, 0, none⟩)]
      (fun j => .string ((splitB ⟨#[46]⟩ 0 (countB s ⟨#[46]⟩) s).getD j ⟨#[]⟩)) (countB s ⟨#[46]⟩ + 1) H (KeepB H) w := by
  intro l J hJc hY W hW hJ0
  obtain ⟨Z, hZ⟩ : ∃ Z, splitB ⟨#[46]⟩ 0 (countB s ⟨#[46]⟩) s = Z := ⟨_, rfl⟩
  obtain ⟨N, hN⟩ : ∃ N, countB s ⟨#[46]⟩ = N := ⟨_, rfl⟩
  rw [hN] at hZ
  rw [hN, hZ] at hY
  rw [hN]
  have hl0 := (Array.getElem?_eq_some_iff.1 b0).1
  have hl1 := (Array.getElem?_eq_some_iff.1 b1).1
  have hl2 := (Array.getElem?_eq_some_iff.1 b2).1
  have B0 := Lib.hid ((hW.2 H (Nat.le_refl _) (by omega) hl0).trans b0)
  have B1 := Lib.hid ((hW.2 (H + 1) (by omega) (by omega) hl1).trans b1)
  have B2 := Lib.hid ((hW.2 (H + 2) (by omega) (by omega) hl2).trans b2)
  have HY := Lib.hid hY
  have HJC := Lib.hid hJc
  have HJ0 := Lib.hid hJ0
  have HZ := Lib.hid hZ
  have HN := Lib.hid hN
  clear hY hJc hJ0 hZ hN b0 b1 b2 hl0 hl1 hl2 hW
  refine callsIn_of_wp Tryd.func71 rfl trivial ?_ rfl
  simp only [Tryd.ntmps71, List.size_toArray, List.length_cons, List.length_nil, Nat.reduceAdd, Nat.reduceSub, Array.replicate_succ, Array.replicate_zero, List.push_toArray, List.append_toArray, List.nil_append, List.cons_append]
  have y1 : W.cell? ⟨H + 1, 0, none⟩ = some (.string ⟨#[46]⟩) := by rw [cell_of_row _ _ 0 _ _ _ B1.out]; rfl
  gi_wp2
  gi_loopw [7] (fun _ wr => ∃ (j q : Nat) (R : ByteArray), j + q = N ∧ R.size ≤ 1048576 ∧ Hid (Z.drop j = splitB ⟨#[46]⟩ 0 q R) ∧ Hid (countB R ⟨#[46]⟩ = q) ∧ Hid (wr.heap[H]? = some (.cells #[.string R] 9 (0, 0))) ∧ Hid (wr.heap[H + 1]? = some (.cells #[.string ⟨#[46]⟩] 9 (0, 0))) ∧ Hid (wr.heap[H + 2]? = some (.cells #[.int .i64 0] 3 (0, 0))) ∧ Hid (J j wr)) (fun _ wr => strLeft wr H)
  case atStart => exact ⟨0, N, s, by omega, hs, Lib.hid (by rw [List.drop_zero]; exact HZ.out.symm), HN, B0, B1, B2, HJ0⟩
  case round =>
    clear B0 B1 B2 HJ0 y1
    obtain ⟨j, q, R, hjq, hRs, hD, hC, b0, b1, b2, hJ⟩ := hrel
    have y0 : wr.cell? ⟨H, 0, none⟩ = some (.string R) := by rw [cell_of_row _ _ 0 _ _ _ b0.out]; rfl
    have y1 : wr.cell? ⟨H + 1, 0, none⟩ = some (.string ⟨#[46]⟩) := by rw [cell_of_row _ _ 0 _ _ _ b1.out]; rfl
    have y2 : wr.cell? ⟨H + 2, 0, none⟩ = some (.int .i64 0) := by rw [cell_of_row _ _ 0 _ _ _ b2.out]; rfl
    have hix := Tryd.strings_Index_one R 46 wr
    rw [index_dot] at hix
    rcases indexB_cases R ⟨#[46]⟩ with hm | ⟨i, hi, hroom⟩
    · rw [hm] at hix
      have hq0 : q = 0 := by rw [← hC.out]; exact countB_miss R _ hm
      subst hq0
      have hget : Z.getD j ⟨#[]⟩ = R := by
        have h9 := hD.out
        rw [splitB_zero] at h9
        have h10 := congrArg (fun l => l[0]?) h9
        simp only [List.getElem?_drop, Nat.add_zero, List.getElem?_cons_zero] at h10
        rw [List.getD_eq_getElem?_getD, h10]; rfl
      have hJN : j = N := by omega
      have hR := HY.out j wr hJ.out (by omega)
      rw [hget] at hR
      subst hJN
      have HIX := Lib.hid hix
      obtain ⟨fn, tmps, assign, body, hy, hRR⟩ := hR
      have HRR := Lib.hid hRR
      clear hm hix hget hRR hD hC
      gi_wp2_with (refine ⟨trivial, ?_⟩; gi_at_call 73; refine (callsIn_wide.2 HIX.out).mono ?_; rintro e w2 ⟨rfl, rfl⟩)
      refine HRR.out.mono ?_
      rintro e w3 ⟨rfl, hJ3, hk3⟩
      gi_wp2
      go_end0
      exact ⟨⟨_, rfl⟩, hJ3⟩
    · rw [hi] at hix
      have hcc := countB_hit R ⟨#[46]⟩ i (by decide) hi
      rw [hC.out] at hcc
      obtain ⟨p, rfl⟩ : ∃ p, q = p + 1 := ⟨q - 1, by omega⟩
      have hsp := splitB_hit ⟨#[46]⟩ 0 p R i hi
      rw [← hD.out] at hsp
      have hone : (⟨#[46]⟩ : ByteArray).size = 1 := rfl
      rw [hone] at hsp hroom hcc
      rw [Nat.add_zero] at hsp
      have hget : Z.getD j ⟨#[]⟩ = R.extract 0 i := by
        have h10 := congrArg (fun l => l[0]?) hsp
        simp only [List.getElem?_drop, Nat.add_zero, List.getElem?_cons_zero] at h10
        rw [List.getD_eq_getElem?_getD, h10]; rfl
      have hnext : Z.drop (j + 1) = splitB ⟨#[46]⟩ 0 p (R.extract (i + 1) R.size) := by
        have h10 := congrArg List.tail hsp
        rw [List.tail_drop, List.tail_cons] at h10
        exact h10
      have hcn : countB (R.extract (i + 1) R.size) ⟨#[46]⟩ = p := by omega
      have hR := HY.out j wr hJ.out (by omega)
      rw [hget] at hR
      have HNX := Lib.hid hnext
      have HCN := Lib.hid hcn
      have HIX := Lib.hid hix
      obtain ⟨fn, tmps, assign, body, hy, hRR⟩ := hR
      have HRR := Lib.hid hRR
      have i1 : (0 : Int) ≤ (i : Int) := by omega
      have i2 : (i : Int) ≤ (R.size : Int) := by omega
      have hwi : IntKind.i64.wrap ((i : Int) + 1) = (i : Int) + 1 := IntWalk.i64_in _ (by omega)
      have hwj : IntKind.i64.wrap (i : Int) = (i : Int) := IntWalk.i64_in _ (by omega)
      have hRle : i + 1 ≤ R.size := hroom
      clear hi hix hget hRR hD hC hsp hone hroom hcc hnext hcn
      gi_wp2_with (refine ⟨trivial, ?_⟩; gi_at_call 73; refine (callsIn_wide.2 HIX.out).mono ?_; rintro e w2 ⟨rfl, rfl⟩)
      refine HRR.out.mono ?_
      rintro e w3 ⟨rfl, hJ3, hk3⟩
      have hh0 := (Array.getElem?_eq_some_iff.1 b0.out).1
      have hh1 := (Array.getElem?_eq_some_iff.1 b1.out).1
      have hh2 := (Array.getElem?_eq_some_iff.1 b2.out).1
      have B0 := Lib.hid ((hk3.2 H (Nat.le_refl _) (by omega) hh0).trans b0.out)
      have B1 := Lib.hid ((hk3.2 (H + 1) (by omega) (by omega) hh1).trans b1.out)
      have B2 := Lib.hid ((hk3.2 (H + 2) (by omega) (by omega) hh2).trans b2.out)
      have z0 : w3.cell? ⟨H, 0, none⟩ = some (.string R) := by rw [cell_of_row _ _ 0 _ _ _ B0.out]; rfl
      have z1 : w3.cell? ⟨H + 1, 0, none⟩ = some (.string ⟨#[46]⟩) := by rw [cell_of_row _ _ 0 _ _ _ B1.out]; rfl
      have z2 : w3.frozen? ⟨H, 0, none⟩ = false := frozen_of_row _ _ _ _ _ B0.out
      have HJ3 := Lib.hid (HJC.out _ w3 (.string (R.extract (i + 1) R.size)) hJ3)
      have c0 : (w3.setCell ⟨H, 0, none⟩ (.string (R.extract (i + 1) R.size))).heap[H]? = some (.cells #[.string (R.extract (i + 1) R.size)] 9 (0, 0)) := by
        rw [heap_setCell_same w3 H 0 _ _ _ B0.out]; rfl
      have hupd := Upd.setCell (S := fun q => q = H) (Upd.refl _ w3) ⟨H, 0, none⟩ rfl (.string (R.extract (i + 1) R.size))
      have C0 := Lib.hid c0
      have C1 := Lib.hid ((hupd.block (H + 1) (Array.getElem?_eq_some_iff.1 B1.out).1 (by simp)).trans B1.out)
      have C2 := Lib.hid ((hupd.block (H + 2) (Array.getElem?_eq_some_iff.1 B2.out).1 (by simp)).trans B2.out)
      have hl1 : strLeft (w3.setCell ⟨H, 0, none⟩ (.string (R.extract (i + 1) R.size))) H = R.size - (i + 1) := by
        rw [strLeft_eq (R := R.extract (i + 1) R.size) (by rw [cell_of_row _ _ 0 _ _ _ c0]; rfl), ByteArray.size_extract]; omega
      have hl2 := strLeft_eq y0
      have hes : (R.extract (i + 1) R.size).size ≤ 1048576 := by rw [ByteArray.size_extract]; omega
      have HL1 := Lib.hid hl1
      have HL2 := Lib.hid hl2
      clear hJ3 hk3 hh0 hh1 hh2 b0 b1 b2 y0 y1 y2 c0 hupd hl1 hl2 B0 B1 B2
      gi_wp2
      go_roundw
      case rel => exact ⟨j + 1, p, R.extract (i + 1) R.size, by omega, hes, HNX, HCN, C0, C1, C2, HJ3⟩
      case measure => rw [HL1.out, HL2.out]; omega
end Go.Proofs.YtddiabpjmnmllaaDoor
