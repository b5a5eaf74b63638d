/- Digests: the reference's Sum, walked. -/
import Derived.Test.YtohgkcgeanofnaaTgRFill
import Derived.Deep.RegionHeld3
namespace Go.Proofs.Ytohgkcgeanofnaa
open Go.RowKit
theorem blk_is (H : List Nat) (b : List UInt8) : addv H (rnds (wds b 64) H 64) = blk H b := rfl
theorem vix8 (w : World) (v0 v1 v2 v3 v4 v5 v6 v7 j : Nat) (hj : j < 8) :
    (Instr.index 38 (.agg #[.int .u32 (v0 : Int), .int .u32 (v1 : Int), .int .u32 (v2 : Int), .int .u32 (v3 : Int), .int .u32 (v4 : Int), .int .u32 (v5 : Int), .int .u32 (v6 : Int), .int .u32 (v7 : Int)]) (.int .i64 (j : Int))).run Try.prog w =
      .ok (.int .u32 (([v0, v1, v2, v3, v4, v5, v6, v7].getD j 0 : Nat) : Int)) w := by
  obtain rfl | rfl | rfl | rfl | rfl | rfl | rfl | rfl : j = 0 ∨ j = 1 ∨ j = 2 ∨ j = 3 ∨ j = 4 ∨ j = 5 ∨ j = 6 ∨ j = 7 := by omega
  all_goals rfl
theorem h0_one : (u32v H0).toArray.all (·.oneCell') = true := by decide +kernel
set_option maxHeartbeats 4000000 in
set_option maxRecDepth 20000 in
theorem rsum_any (w : World) (s : ByteArray) (hs : s.size ≤ 35184372088832) :
    Calls Try.prog 8 #[.string s] w fun e w' => e = .returned (.string ⟨(sumB s.data.toList).toArray⟩) ∧ Below w.heap.size w w' := by
  obtain ⟨i0, hi0, hz0, hz1, hz2⟩ := info_parts u8_info
  have hpl : s.data.toList.length = s.size := by simp
  have hrow : RowU (w.alloc (.cells (u32v H0).toArray 38)) w.heap.size 38 H0 := heap_alloc_new _ _
  have hB : Below w.heap.size w (w.alloc (.cells (u32v H0).toArray 38)) := (Below.refl _ _).alloc (Nat.le_refl _) _
  go_enter Try.func8, Try.ntmps8
  go_wp2_with fail
  refine (rfill_any (w.alloc (.cells (u32v H0).toArray 38)) s hs).mono ?_
  rintro e w1 ⟨v, rfl, ho, hb1⟩
  obtain ⟨F, hF⟩ : ∃ F, F = s.data.toList ++ tailB s.size (8 * s.size % 18446744073709551616) := ⟨_, rfl⟩
  rw [← hF] at ho
  have hFl : F.length = s.size + 9 + zer s.size := by rw [hF, tailB, List.length_append, List.length_append, List.length_append, List.length_replicate, be8_length, hpl]; show s.size + (1 + zer s.size + 8) = _; omega
  have hF64 : F.length % 64 = 0 := by rw [hFl]; unfold zer; omega
  have hFs : F.length ≤ 70368744177664 := by rw [hFl]; unfold zer; omega
  obtain ⟨Af, cf, rfl⟩ := ho.shape
  have q1 : RowU w1 w.heap.size 38 H0 := (hb1.block _ (by simp)).trans hrow
  have hB1 : Below w.heap.size w w1 := hB.trans (hb1.mono (by simp))
  have hbl : w.heap.size + 1 ≤ w1.heap.size := by have := hb1.size; simpa using this
  have HF := Lib.hid hF
  have HO := Lib.hid (show OwnB w1 (w.heap.size + 1) 5 (.slice Af F.length cf) F by simpa using ho)
  clear hrow hB hF ho hb1
  go_wp2
  go_loopw [5] (fun iv wx => ∃ k : Nat, 64 * k ≤ F.length ∧ iv = .int .i64 (64 * (k : Int)) ∧ (∃ H, H.length = 8 ∧ (∀ x ∈ H, x < 4294967296) ∧ RowU wx w.heap.size 38 H ∧ fed H (F.drop (64 * k)) = fed H0 F) ∧ Upd (fun q => q = w.heap.size) w1 wx) (fun iv _ => F.length - (intOf iv).toNat)
  case atStart => exact ⟨0, Nat.zero_le _, rfl, ⟨H0, rfl, H0_lt, q1, rfl⟩, Upd.refl _ _⟩
  case round =>
    clear q1
    obtain ⟨k, hk, rfl, ⟨H, hH, hHl, q1, hfed⟩, hux⟩ := hrel
    by_cases hlt : 64 * k < F.length
    · have hk64 : 64 * k + 64 ≤ F.length := by omega
      obtain ⟨a0, a1, a2, a3, a4, a5, a6, a7, rfl⟩ := list8 H hH
      have c0 : wr.cell? ⟨w.heap.size, 0, none⟩ = some (.int .u32 (a0 : Int)) := q1.cell 0 (by simp)
      have c1 : wr.cell? ⟨w.heap.size, 1, none⟩ = some (.int .u32 (a1 : Int)) := q1.cell 1 (by simp)
      have c2 : wr.cell? ⟨w.heap.size, 2, none⟩ = some (.int .u32 (a2 : Int)) := q1.cell 2 (by simp)
      have c3 : wr.cell? ⟨w.heap.size, 3, none⟩ = some (.int .u32 (a3 : Int)) := q1.cell 3 (by simp)
      have c4 : wr.cell? ⟨w.heap.size, 4, none⟩ = some (.int .u32 (a4 : Int)) := q1.cell 4 (by simp)
      have c5 : wr.cell? ⟨w.heap.size, 5, none⟩ = some (.int .u32 (a5 : Int)) := q1.cell 5 (by simp)
      have c6 : wr.cell? ⟨w.heap.size, 6, none⟩ = some (.int .u32 (a6 : Int)) := q1.cell 6 (by simp)
      have c7 : wr.cell? ⟨w.heap.size, 7, none⟩ = some (.int .u32 (a7 : Int)) := q1.cell 7 (by simp)
      have ho2 : OwnB wr (w.heap.size + 1) 5 (.slice Af F.length cf) F := HO.out.upd hux (fun q hq e => by have := (HO.out.lt q hq).1; omega)
      obtain ⟨g, off, rfl, hcf⟩ : ∃ g off, Af = some ⟨g, off, none⟩ ∧ F.length ≤ cf := by
        rcases ho2 with ⟨hv, e⟩ | ⟨g, off, cap, cur, fz, e, _, _, _, h9, _⟩
        · rw [e] at hlt; exact absurd hlt (Nat.not_lt_zero _)
        · injection e with e1 e2 e3
          exact ⟨g, off, e1, by rw [e3]; exact h9⟩
      have hrb : Rd wr wr.heap.size 1 (some ⟨g, off + 64 * k, none⟩) 64 (bytv ((F.drop (64 * k)).take 64)) := by
        refine ⟨by rw [bytv_length, List.length_take, List.length_drop]; omega, fun _ => ?_⟩
        obtain ⟨ad, e1, h1, h2⟩ := (ho2.rd.2).at_ (by omega)
        injection e1 with e1
        subst e1
        refine ⟨_, rfl, h1, fun q u hu => ?_⟩
        have h3 := h2 (64 * k + q) u (by
          have hq : q < 64 := by
            have := (List.getElem?_eq_some_iff.1 hu).1
            rw [bytv_length, List.length_take] at this
            omega
          unfold bytv at hu ⊢
          rw [List.getElem?_map, List.getElem?_take, if_pos hq, List.getElem?_drop] at hu
          rw [List.getElem?_map]
          exact hu)
        rw [add_flat0] at h3 ⊢
        rw [Nat.add_assoc]
        exact h3
      have hq0 := hux.size
      have Q1 := Lib.hid q1
      have HFD := Lib.hid hfed
      have HRB := Lib.hid hrb
      have HUX := Lib.hid hux
      have n1 : (64 * (k : Int)).toNat = 64 * k := by omega
      have n2 : (64 * (k : Int) + 64).toNat = 64 * k + 64 := by omega
      have l1 : 0 ≤ 64 * (k : Int) := by omega
      have l2 : 64 * (k : Int) ≤ 64 * (k : Int) + 64 := by omega
      have l3 : 64 * (k : Int) + 64 ≤ cf := by omega
      have l4 : 64 * (k : Int) < F.length := by omega
      have ne1 : ¬ cf = 64 * k := by omega
      have o1 : IntKind.i64.wrap (64 * (k : Int) + 64) = 64 * (k : Int) + 64 := IntWalk.i64_in _ (by omega)
      clear q1 hfed hrb hux ho2
      obtain ⟨bb, hbb⟩ : ∃ bb, bb = (F.drop (64 * k)).take 64 := ⟨_, rfl⟩
      rw [← hbb] at HRB
      have hnl := blk_length [a0, a1, a2, a3, a4, a5, a6, a7] bb rfl
      have hnlt := blk_lt [a0, a1, a2, a3, a4, a5, a6, a7] bb
      obtain ⟨b0, b1, b2, b3, b4, b5, b6, b7, hn8⟩ := list8 _ hnl
      have hlw : w.heap.size < wr.heap.size := by omega
      have HS : Hid (∀ W', Below wr.heap.size wr W' → Below wr.heap.size wr W' ∧ W'.cell? ⟨w.heap.size, 0, none⟩ = some (.int .u32 (a0 : Int)) ∧ W'.cell? ⟨w.heap.size, 1, none⟩ = some (.int .u32 (a1 : Int)) ∧ W'.cell? ⟨w.heap.size, 2, none⟩ = some (.int .u32 (a2 : Int)) ∧ W'.cell? ⟨w.heap.size, 3, none⟩ = some (.int .u32 (a3 : Int)) ∧ W'.cell? ⟨w.heap.size, 4, none⟩ = some (.int .u32 (a4 : Int)) ∧ W'.cell? ⟨w.heap.size, 5, none⟩ = some (.int .u32 (a5 : Int)) ∧ W'.cell? ⟨w.heap.size, 6, none⟩ = some (.int .u32 (a6 : Int)) ∧ W'.cell? ⟨w.heap.size, 7, none⟩ = some (.int .u32 (a7 : Int)) ∧ W'.frozen? ⟨w.heap.size, 0, none⟩ = false ∧ W'.frozen? ⟨w.heap.size, 1, none⟩ = false ∧ W'.frozen? ⟨w.heap.size, 2, none⟩ = false ∧ W'.frozen? ⟨w.heap.size, 3, none⟩ = false ∧ W'.frozen? ⟨w.heap.size, 4, none⟩ = false ∧ W'.frozen? ⟨w.heap.size, 5, none⟩ = false ∧ W'.frozen? ⟨w.heap.size, 6, none⟩ = false ∧ W'.frozen? ⟨w.heap.size, 7, none⟩ = false) := Lib.hid fun W' hW' => ⟨hW', (hW'.cell (p := ⟨w.heap.size, 0, none⟩) hlw).trans c0, (hW'.cell (p := ⟨w.heap.size, 1, none⟩) hlw).trans c1, (hW'.cell (p := ⟨w.heap.size, 2, none⟩) hlw).trans c2, (hW'.cell (p := ⟨w.heap.size, 3, none⟩) hlw).trans c3, (hW'.cell (p := ⟨w.heap.size, 4, none⟩) hlw).trans c4, (hW'.cell (p := ⟨w.heap.size, 5, none⟩) hlw).trans c5, (hW'.cell (p := ⟨w.heap.size, 6, none⟩) hlw).trans c6, (hW'.cell (p := ⟨w.heap.size, 7, none⟩) hlw).trans c7, frozen_of_row _ _ 0 _ _ ((hW'.block _ hlw).trans Q1.out), frozen_of_row _ _ 1 _ _ ((hW'.block _ hlw).trans Q1.out), frozen_of_row _ _ 2 _ _ ((hW'.block _ hlw).trans Q1.out), frozen_of_row _ _ 3 _ _ ((hW'.block _ hlw).trans Q1.out), frozen_of_row _ _ 4 _ _ ((hW'.block _ hlw).trans Q1.out), frozen_of_row _ _ 5 _ _ ((hW'.block _ hlw).trans Q1.out), frozen_of_row _ _ 6 _ _ ((hW'.block _ hlw).trans Q1.out), frozen_of_row _ _ 7 _ _ ((hW'.block _ hlw).trans Q1.out)⟩
      have HWD : Hid (∀ W', Below wr.heap.size wr W' → Calls Try.prog 18 #[.slice (some ⟨g, off + 64 * k, none⟩) 64 (cf - 64 * k)] W' (fun e w' => e = .returned (.agg (u32v (wds bb 64)).toArray) ∧ Below wr.heap.size wr w')) := Lib.hid fun W' hW' =>
        (rwords_any W' g (off + 64 * k) (cf - 64 * k) bb ((HRB.out.below hW').mono hW'.size)).mono fun e w' h => ⟨h.1, hW'.trans (h.2.mono hW'.size)⟩
      have HST : Hid (∀ W', Below wr.heap.size wr W' → Calls Try.prog 17 #[.agg #[.int .u32 (a0 : Int), .int .u32 (a1 : Int), .int .u32 (a2 : Int), .int .u32 (a3 : Int), .int .u32 (a4 : Int), .int .u32 (a5 : Int), .int .u32 (a6 : Int), .int .u32 (a7 : Int)], .agg (u32v (wds bb 64)).toArray] W' (fun e w' => e = .returned (.agg #[.int .u32 (b0 : Int), .int .u32 (b1 : Int), .int .u32 (b2 : Int), .int .u32 (b3 : Int), .int .u32 (b4 : Int), .int .u32 (b5 : Int), .int .u32 (b6 : Int), .int .u32 (b7 : Int)]) ∧ Below wr.heap.size wr w')) := Lib.hid fun W' hW' =>
        (rstep_any W' [a0, a1, a2, a3, a4, a5, a6, a7] (wds bb 64) rfl hHl (wds_length _ _) (wds_lt _ _)).mono fun e w' h => ⟨by rw [h.1, blk_is, hn8]; rfl, hW'.trans (h.2.mono hW'.size)⟩
      have HN8 := Lib.hid hn8
      have HBB := Lib.hid hbb
      have HNL := Lib.hid hnlt
      clear hnl hnlt hn8 hbb
      have hbW0 : Below wr.heap.size wr wr := Below.refl _ _
      have hbW1 : Below wr.heap.size wr wr.drew := below_drew1 hbW0
      go_wp2
      have SD := HS.out _ hbW1
      obtain ⟨_, s0, s1, s2, s3, s4, s5, s6, s7, t0, t1, t2, t3, t4, t5, t6, t7⟩ := SD
      first
        | go_region_with (first
          | (go_at_call 18; refine (HWD.out _ (by assumption)).mono ?_; rintro e w2 ⟨rfl, hb2⟩; obtain ⟨_, d0, d1, d2, d3, d4, d5, d6, d7, g0, g1, g2, g3, g4, g5, g6, g7⟩ := HS.out _ hb2)
          | (go_at_call 17; refine (HST.out _ (by assumption)).mono ?_; rintro e w3 ⟨rfl, hb3⟩; obtain ⟨_, p0, p1, p2, p3, p4, p5, p6, p7, q0, q1, q2, q3, q4, q5, q6, q7⟩ := HS.out _ hb3))
        | fail
      all_goals
        go_wp2
        have q3 : RowU w3 w.heap.size 38 [a0, a1, a2, a3, a4, a5, a6, a7] := (hb3.block _ hlw).trans Q1.out
        have p1 : RowU ((((((((w3.setCell ⟨w.heap.size, 0, none⟩ (.int .u32 (b0 : Int))).setCell ⟨w.heap.size, 1, none⟩ (.int .u32 (b1 : Int))).setCell ⟨w.heap.size, 2, none⟩ (.int .u32 (b2 : Int))).setCell ⟨w.heap.size, 3, none⟩ (.int .u32 (b3 : Int))).setCell ⟨w.heap.size, 4, none⟩ (.int .u32 (b4 : Int))).setCell ⟨w.heap.size, 5, none⟩ (.int .u32 (b5 : Int))).setCell ⟨w.heap.size, 6, none⟩ (.int .u32 (b6 : Int))).setCell ⟨w.heap.size, 7, none⟩ (.int .u32 (b7 : Int))) w.heap.size 38 [b0, b1, b2, b3, b4, b5, b6, b7] := ((((((((q3.set 0 b0).set 1 b1).set 2 b2).set 3 b3).set 4 b4).set 5 b5).set 6 b6).set 7 b7)
        have hux2 : Upd (fun q => q = w.heap.size) w1 ((((((((w3.setCell ⟨w.heap.size, 0, none⟩ (.int .u32 (b0 : Int))).setCell ⟨w.heap.size, 1, none⟩ (.int .u32 (b1 : Int))).setCell ⟨w.heap.size, 2, none⟩ (.int .u32 (b2 : Int))).setCell ⟨w.heap.size, 3, none⟩ (.int .u32 (b3 : Int))).setCell ⟨w.heap.size, 4, none⟩ (.int .u32 (b4 : Int))).setCell ⟨w.heap.size, 5, none⟩ (.int .u32 (b5 : Int))).setCell ⟨w.heap.size, 6, none⟩ (.int .u32 (b6 : Int))).setCell ⟨w.heap.size, 7, none⟩ (.int .u32 (b7 : Int))) := ((((((((((HUX.out.trans (Upd.of_below (S := fun q => q = w.heap.size) hb3) (fun _ _ h => h))).setCell ⟨w.heap.size, 0, none⟩ rfl _).setCell ⟨w.heap.size, 1, none⟩ rfl _).setCell ⟨w.heap.size, 2, none⟩ rfl _).setCell ⟨w.heap.size, 3, none⟩ rfl _).setCell ⟨w.heap.size, 4, none⟩ rfl _).setCell ⟨w.heap.size, 5, none⟩ rfl _).setCell ⟨w.heap.size, 6, none⟩ rfl _).setCell ⟨w.heap.size, 7, none⟩ rfl _)
        refine ⟨⟨k + 1, by omega, by rw [show 64 * (k : Int) + 64 = 64 * ((k + 1 : Nat) : Int) by omega], ⟨[b0, b1, b2, b3, b4, b5, b6, b7], rfl, by rw [← HN8.out]; exact HNL.out, p1, ?_⟩, hux2⟩, ?_⟩
        · rw [← HFD.out, fed_big (l := F.drop (64 * k)) (by rw [List.length_drop]; omega), ← HBB.out, HN8.out, List.drop_drop]
          congr 2
        · simp [intOf]; omega
    · have hke : 64 * k = F.length := by omega
      rw [hke, List.drop_of_length_le (Nat.le_refl _), fed_small (by decide)] at hfed
      have hHe : H = (fed H0 F).1 := by rw [← hfed]
      have hsum : outB H = sumB s.data.toList := by
        rw [hHe, HF.out, sumB_whole _ (by omega), hpl]
      have HSUM := Lib.hid hsum
      clear hfed hHe hsum
      obtain ⟨a0, a1, a2, a3, a4, a5, a6, a7, rfl⟩ := list8 H hH
      have c0 : wr.cell? ⟨w.heap.size, 0, none⟩ = some (.int .u32 (a0 : Int)) := q1.cell 0 (by simp)
      have c1 : wr.cell? ⟨w.heap.size, 1, none⟩ = some (.int .u32 (a1 : Int)) := q1.cell 1 (by simp)
      have c2 : wr.cell? ⟨w.heap.size, 2, none⟩ = some (.int .u32 (a2 : Int)) := q1.cell 2 (by simp)
      have c3 : wr.cell? ⟨w.heap.size, 3, none⟩ = some (.int .u32 (a3 : Int)) := q1.cell 3 (by simp)
      have c4 : wr.cell? ⟨w.heap.size, 4, none⟩ = some (.int .u32 (a4 : Int)) := q1.cell 4 (by simp)
      have c5 : wr.cell? ⟨w.heap.size, 5, none⟩ = some (.int .u32 (a5 : Int)) := q1.cell 5 (by simp)
      have c6 : wr.cell? ⟨w.heap.size, 6, none⟩ = some (.int .u32 (a6 : Int)) := q1.cell 6 (by simp)
      have c7 : wr.cell? ⟨w.heap.size, 7, none⟩ = some (.int .u32 (a7 : Int)) := q1.cell 7 (by simp)
      have hBx : Below w.heap.size w wr := hB1.trans (hux.below (fun q hq e => by omega) (by omega))
      have hxs := hux.size
      clear q1 hux
      have l4 : ¬ (64 * (k : Int) < F.length) := by omega
      go_wp2
      clear c0 c1 c2 c3 c4 c5 c6 c7
      go_loopw [6, 8, 27] (fun v5 _ i wx => ∃ j : Nat, j ≤ 8 ∧ i = .int .i64 j ∧ OwnB wx w.heap.size 5 v5 (outB ([a0, a1, a2, a3, a4, a5, a6, a7].take j)) ∧ Below w.heap.size w wx) (fun _ _ i _ => 8 - (intOf i).toNat)
      case atStart => exact ⟨0, by omega, rfl, .inl ⟨rfl, rfl⟩, hBx⟩
      case round =>
        clear hBx
        obtain ⟨j, hj, rfl, how, hB⟩ := hrel
        have HB := Lib.hid hB
        have hBw : w.heap.size ≤ wr.heap.size := hB.size
        clear hB
        obtain ⟨L, hL⟩ : ∃ L, L = outB ([a0, a1, a2, a3, a4, a5, a6, a7].take j) := ⟨_, rfl⟩
        rw [← hL] at how
        obtain ⟨A5, c5, rfl⟩ := how.shape
        have HL := Lib.hid hL
        by_cases hlt : j < 8
        · have hix := vix8 wr a0 a1 a2 a3 a4 a5 a6 a7 j hlt
          obtain ⟨y, hy⟩ : ∃ y, y = [a0, a1, a2, a3, a4, a5, a6, a7].getD j 0 := ⟨_, rfl⟩
          rw [← hy] at hix
          have hlo : L.length = 4 * j := by
            rw [hL, outB_length, List.length_take]
            show 4 * min j 8 = _
            omega
          have hyl : y < 4294967296 := by rw [hy]; exact getD_lt hHl _
          have HY := Lib.hid hy
          have HOW := Lib.hid how
          have HLO := Lib.hid hlo
          clear hy how hlo hL
          have m4 : (j : Int) < 8 := by omega
          go_wp2_with (at_builtin; refine wpList_bpush wr rfl (.tmp 30) (.tmp 45) 29 rfl w.heap.size 5 i0 Try.underlying29 hi0 hz0 hz1 hz2 _ L (wb y) _ 4 4 ?c1 rfl rfl (by exact HOW.out) rfl ?c2 ?c3 ?_)
          case c1 => first | exact wb_cells y hyl | (trace_state; sorry)
          case c2 => rw [HLO.out]; omega
          case c3 => exact hBw
          intro v' w2 ho2 hu2 _
          have hB4 := below_ownB HB.out hBw HOW.out (Nat.le_refl _) hu2
          go_wp2
          refine ⟨⟨j + 1, by omega, by go_num, ?_, hB4⟩, ?_⟩
          · rw [take_more _ j (by simpa using hlt), outB_snoc, ← HL.out, ← HY.out]
            exact ho2
          · simp [intOf]; omega
        · obtain rfl : j = 8 := by omega
          have hcv := how.str (P := Try.prog) (src := 29) (dst := 9) Try.underlying29 Try.underlying5 Try.underlying9
          have h9 : L = sumB s.data.toList := by
            rw [← HSUM.out]
            exact HL.out
          have H9 := Lib.hid h9
          clear hL how h9
          go_wp2
          go_ret
          exact ⟨by rw [← H9.out]; rfl, HB.out⟩
end Go.Proofs.Ytohgkcgeanofnaa
