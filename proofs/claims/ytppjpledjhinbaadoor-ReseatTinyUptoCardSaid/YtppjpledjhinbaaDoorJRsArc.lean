/- Seekers in memory: what they may, what they cost. -/
import Derived.Test.YtppjpledjhinbaaDoorJRbM
import Derived.Test.YtppjpledjhinbaaDoorJGtP
import Derived.Deep.RegionHeld3
namespace Go.Proofs.YtppjpledjhinbaaDoor
open Go.RowKit Go.Lib
/-- A rider (its old seat: r.seat), what was decided of it, its own block. -/
structure MSkr where
  r : MSit
  must : Bool
  no : Bool
  blk : Int
  own : Int
def skrC (x : MSkr) : List Value := [.int .i64 x.r.who.cab, .bool x.r.who.fit, .bool x.r.who.inf, .int .i64 x.r.seat.num, .int .u8 (x.r.seat.ltr.toNat : Int), .bool x.must, .bool x.no, .int .i64 x.blk, .int .i64 x.own]
theorem skrC_len (x : MSkr) : (skrC x).length = 9 := rfl
theorem skrC_cell (x : MSkr) : ∀ u ∈ skrC x, u.oneCell' = true := by
  intro u hu
  simp [skrC] at hu
  rcases hu with rfl | rfl | rfl | rfl | rfl | rfl | rfl | rfl | rfl <;> rfl
def blkSpot (y : MBlk) : MSpot := ⟨⟨0, 0⟩, y.cab, 0, 0, y.exit, false⟩
def fitB (x : MWho) (y : MBlk) : Bool := decide (oneE x (blkSpot y) = 0)
def kOf (B : List MBlk) (x : MSkr) : Skr := ⟨x.r.who.inf, fun b => ((B[b]?).map (fitB x.r.who)).getD false, x.own, x.must, x.no, x.blk⟩
def capsOf (B : List MBlk) (b : Nat) : Nat := ((B[b]?).map fun y => y.seats.length).getD 0
def kZ : Skr := ⟨false, fun _ => false, -1, false, false, -1⟩
def kN (B : List MBlk) (ks : List MSkr) (i : Nat) : Skr := ((ks[i]?).map (kOf B)).getD kZ
theorem kOf_may {B : List MBlk} {x : MSkr} {b : Nat} {y : MBlk} (h : B[b]? = some y) : (kOf B x).may b = (!x.no && (decide (x.blk < 0) || decide (x.blk = (b : Int))) && fitB x.r.who y) := by
  unfold Skr.may kOf
  simp only [h, Option.map_some, Option.getD_some]
/-- A seeker's cells lie at g, from o on. -/
def SkrAt (w : World) (g o : Nat) (x : MSkr) : Prop := ∀ j u, (skrC x)[j]? = some u → w.cell? ⟨g, o + j, none⟩ = some u
theorem SkrAt.below {w w' : World} {g o : Nat} {x : MSkr} (h : SkrAt w g o x) (hg : g < w.heap.size) (hb : Below w.heap.size w w') : SkrAt w' g o x := fun j u hu => (hb.cell (p := ⟨g, o + j, none⟩) hg).trans (h j u hu)
set_option maxHeartbeats 4000000 in
set_option maxRecDepth 20000 in
theorem smay_any (w : World) (g o : Nat) (x : MSkr) (b : Nat) (y : MBlk) (sv : Value) (h : SkrAt w g o x) (hg : g < w.heap.size) :
    Calls Tryd.prog 73 #[.pointer (some ⟨g, o, none⟩), .int .i64 (b : Int), .agg #[.int .i64 y.cab, .int .i64 y.row, .bool y.exit, sv]] w fun e w' => e = .returned (.bool (!x.no && (decide (x.blk < 0) || decide (x.blk = (b : Int))) && fitB x.r.who y)) ∧ Below w.heap.size w w' := by
  have hbA := (Below.refl w.heap.size w).alloc (Nat.le_refl _) (.cells #[.int .i64 y.cab, .int .i64 y.row, .bool y.exit, sv] 94)
  have hA := h.below hg hbA
  obtain ⟨⟨⟨cab, fit, inf⟩, old⟩, must, no, blk, own⟩ := x
  have c0 := hA 0 (.int .i64 cab) rfl
  have c1 := hA 1 (.bool fit) rfl
  have c2 := hA 2 (.bool inf) rfl
  have c6 := hA 6 (.bool no) rfl
  have c7 := hA 7 (.int .i64 blk) rfl
  have hb0 := heap_alloc_new w (.cells #[.int .i64 y.cab, .int .i64 y.row, .bool y.exit, sv] 94)
  simp only [Nat.add_zero] at c0
  have HOE := Lib.hid (fun W => one_any W ⟨cab, fit, inf⟩ (blkSpot y))
  clear h hA
  go_enter Tryd.func73, Tryd.ntmps73
  cases no with
  | true =>
    go_wp2
    go_ret
    exact ⟨ret_bool (by simp), hbA⟩
  | false =>
    by_cases hbk : blk < 0 ∨ blk = (b : Int)
    · have HR : Hid ((!false && (decide (blk < 0) || decide (blk = (b : Int))) && fitB ⟨cab, fit, inf⟩ y) = fitB ⟨cab, fit, inf⟩ y) := Lib.hid (by
        rcases hbk with h | h
        · simp [h]
        · simp [h])
      obtain ⟨E, hE⟩ : ∃ E, oneE ⟨cab, fit, inf⟩ (blkSpot y) = E := ⟨_, rfl⟩
      have HF : Hid (fitB ⟨cab, fit, inf⟩ y = decide (E = 0)) := Lib.hid (by unfold fitB; rw [hE])
      rw [hE] at HOE
      have b0 : (w.alloc (.cells #[.int .i64 y.cab, .int .i64 y.row, .bool y.exit, sv] 94)).cell? ⟨w.heap.size, 0, none⟩ = some (.int .i64 y.cab) := by rw [cell_of_row _ _ 0 _ _ _ hb0]; rfl
      have b2 : (w.alloc (.cells #[.int .i64 y.cab, .int .i64 y.row, .bool y.exit, sv] 94)).cell? ⟨w.heap.size, 2, none⟩ = some (.bool y.exit) := by rw [cell_of_row _ _ 2 _ _ _ hb0]; rfl
      have hgA : g < (w.alloc (.cells #[.int .i64 y.cab, .int .i64 y.row, .bool y.exit, sv] 94)).heap.size := by simp; omega
      have hwA : w.heap.size < (w.alloc (.cells #[.int .i64 y.cab, .int .i64 y.row, .bool y.exit, sv] 94)).heap.size := by simp
      clear hb0
      rcases hbk with hlt | heq
      · have hge : decide ((0 : Int) ≤ blk) = false := decide_eq_false (by omega)
        go_upto_region 1 with (fail)
        obtain ⟨wA, hwA'⟩ : ∃ W, w.alloc (.cells #[.int .i64 y.cab, .int .i64 y.row, .bool y.exit, sv] 94) = W := ⟨_, rfl⟩
        rw [hwA'] at hbA c0 c1 c2 c6 c7 b0 b2 hgA hwA ⊢
        clear hwA'
        have hb1 := Below.refl wA.heap.size wA
        have MK : Hid (∀ W, Below wA.heap.size wA W → Below wA.heap.size wA W ∧ (W.cell? ⟨g, o, none⟩ = some (.int .i64 cab) ∧ W.cell? ⟨g, o + 1, none⟩ = some (.bool fit) ∧ W.cell? ⟨g, o + 2, none⟩ = some (.bool inf)) ∧ W.cell? ⟨w.heap.size, 0, none⟩ = some (.int .i64 y.cab) ∧ W.cell? ⟨w.heap.size, 2, none⟩ = some (.bool y.exit)) := Lib.hid (fun W hW => ⟨hW, ⟨(hW.cell (p := ⟨g, o, none⟩) hgA).trans c0, (hW.cell (p := ⟨g, o + 1, none⟩) hgA).trans c1, (hW.cell (p := ⟨g, o + 2, none⟩) hgA).trans c2⟩, (hW.cell (p := ⟨w.heap.size, 0, none⟩) hwA).trans b0, (hW.cell (p := ⟨w.heap.size, 2, none⟩) hwA).trans b2⟩)
        go_wp2
        go_region_held3 (fun W => Below wA.heap.size wA W ∧ (W.cell? ⟨g, o, none⟩ = some (.int .i64 cab) ∧ W.cell? ⟨g, o + 1, none⟩ = some (.bool fit) ∧ W.cell? ⟨g, o + 2, none⟩ = some (.bool inf)) ∧ W.cell? ⟨w.heap.size, 0, none⟩ = some (.int .i64 y.cab) ∧ W.cell? ⟨w.heap.size, 2, none⟩ = some (.bool y.exit)) (first | exact MK.out _ (by assumption) | exact MK.out _ (Below.drew hb1)) (first
          | (go_at_call 52; refine (HOE.out _).mono ?_; rintro e w2 ⟨rfl, hb2⟩; have hS2 : Below wA.heap.size wA w2 := (And.left (by assumption) : Below wA.heap.size wA _).trans (hb2.mono (And.left (by assumption) : Below wA.heap.size wA _).size)))
        all_goals go_wp2
        all_goals go_ret
        all_goals exact ⟨ret_bool (by (first | rw [HR.out, HF.out] | rw [HF.out]); first | rfl | (by_cases h : E = 0 <;> simp [h])), hbA.trans (hS2.mono hbA.size)⟩
      · subst heq
        have hge : decide ((0 : Int) ≤ (b : Int)) = true := decide_eq_true (by omega)
        go_upto_region 1 with (fail)
        obtain ⟨wA, hwA'⟩ : ∃ W, w.alloc (.cells #[.int .i64 y.cab, .int .i64 y.row, .bool y.exit, sv] 94) = W := ⟨_, rfl⟩
        rw [hwA'] at hbA c0 c1 c2 c6 c7 b0 b2 hgA hwA ⊢
        clear hwA'
        have hb1 := Below.refl wA.heap.size wA
        have MK : Hid (∀ W, Below wA.heap.size wA W → Below wA.heap.size wA W ∧ (W.cell? ⟨g, o, none⟩ = some (.int .i64 cab) ∧ W.cell? ⟨g, o + 1, none⟩ = some (.bool fit) ∧ W.cell? ⟨g, o + 2, none⟩ = some (.bool inf)) ∧ W.cell? ⟨w.heap.size, 0, none⟩ = some (.int .i64 y.cab) ∧ W.cell? ⟨w.heap.size, 2, none⟩ = some (.bool y.exit)) := Lib.hid (fun W hW => ⟨hW, ⟨(hW.cell (p := ⟨g, o, none⟩) hgA).trans c0, (hW.cell (p := ⟨g, o + 1, none⟩) hgA).trans c1, (hW.cell (p := ⟨g, o + 2, none⟩) hgA).trans c2⟩, (hW.cell (p := ⟨w.heap.size, 0, none⟩) hwA).trans b0, (hW.cell (p := ⟨w.heap.size, 2, none⟩) hwA).trans b2⟩)
        go_wp2
        go_region_held3 (fun W => Below wA.heap.size wA W ∧ (W.cell? ⟨g, o, none⟩ = some (.int .i64 cab) ∧ W.cell? ⟨g, o + 1, none⟩ = some (.bool fit) ∧ W.cell? ⟨g, o + 2, none⟩ = some (.bool inf)) ∧ W.cell? ⟨w.heap.size, 0, none⟩ = some (.int .i64 y.cab) ∧ W.cell? ⟨w.heap.size, 2, none⟩ = some (.bool y.exit)) (first | exact MK.out _ (by assumption) | exact MK.out _ (Below.drew hb1)) (first
          | (go_at_call 52; refine (HOE.out _).mono ?_; rintro e w2 ⟨rfl, hb2⟩; have hS2 : Below wA.heap.size wA w2 := (And.left (by assumption) : Below wA.heap.size wA _).trans (hb2.mono (And.left (by assumption) : Below wA.heap.size wA _).size)))
        all_goals go_wp2
        all_goals go_ret
        all_goals exact ⟨ret_bool (by (first | rw [HR.out, HF.out] | rw [HF.out]); first | rfl | (by_cases h : E = 0 <;> simp [h])), hbA.trans (hS2.mono hbA.size)⟩
    · have hn1 : decide (blk < 0) = false := decide_eq_false (fun h => hbk (.inl h))
      have hn2 : decide (blk = (b : Int)) = false := decide_eq_false (fun h => hbk (.inr h))
      have HR : Hid ((!false && (decide (blk < 0) || decide (blk = (b : Int))) && fitB ⟨cab, fit, inf⟩ y) = false) := Lib.hid (by rw [hn1, hn2]; rfl)
      have hge : decide ((0 : Int) ≤ blk) = true := decide_eq_true (by simp at hn1; exact hn1)
      have hne : (blk != (b : Int)) = true := by simpa using hn2
      clear hn1 hn2 hbk
      go_wp2
      go_ret
      exact ⟨ret_bool (by rw [HR.out]), hbA⟩
end Go.Proofs.YtppjpledjhinbaaDoor
/- Seekers: price, and one arc more. -/
namespace Go.Proofs.YtppjpledjhinbaaDoor
open Go.RowKit Go.Lib
set_option maxRecDepth 20000 in
theorem arc_info : (Tryd.prog.info? 132).map (fun i => (i.zero, i.size, i.bytes)) = some (some (.agg #[.int .i64 0, .int .i64 0, .int .i64 0, .int .i64 0]), 4, 32) := by kernel_rfl
theorem own_typed {w : World} {base size n : Nat} {e : TypeId} {v : Value} {xs : List Value} (h : w.ownsRow base e size v n xs) {g : Nat} (hg : v.ownBlock = some g) : ∃ cs, w.heap[g]? = some (.cells cs e (0, 0)) := by
  rcases h.2 with ⟨h1, _⟩ | ⟨g', cap, cur, h1, _, h2, _⟩
  · rw [h1] at hg; cases hg
  · rw [h1] at hg
    simp only [Value.ownBlock, Option.some.injEq] at hg
    subst hg
    exact ⟨cur, h2⟩
set_option maxRecDepth 20000 in
theorem sprice_any (w : World) (g o : Nat) (x : MSkr) (h : SkrAt w g o x) :
    Calls Tryd.prog 72 #[.pointer (some ⟨g, o, none⟩)] w fun e w' => e = .returned (.int .i64 (if x.must = true then 900 else 100)) ∧ w' = w := by
  obtain ⟨r, must, no, blk, own⟩ := x
  have c5 := h 5 (.bool must) rfl
  clear h
  go_enter Tryd.func72, Tryd.ntmps72
  cases must with
  | true =>
    go_wp2
    go_ret
    exact ⟨rfl, rfl⟩
  | false =>
    go_wp2
    go_ret
    exact ⟨rfl, rfl⟩
/-- The arcs so far: LB: where the list lies. -/
structure ASt (w0 W : World) (LB : Nat) (v : Value) (L : List Ar) : Prop where
  box : W.heap[LB]? = some (.cells #[v] 127 (0, 0))
  own : W.ownsRow w0.heap.size 132 4 v L.length (arv L)
  bel : Below w0.heap.size w0 W
  lo : w0.heap.size ≤ LB
section
variable {w0 W W' : World} {LB : Nat} {v v' : Value} {L : List Ar}
theorem ASt.below (h : ASt w0 W LB v L) (hb : Below W.heap.size W W') : ASt w0 W' LB v L :=
  ⟨box_keep h.box (Upd.of_below (S := fun _ => False) hb) id, own_below h.own hb, h.bel.trans (hb.mono h.bel.size), h.lo⟩
theorem ASt.apart (h : ASt w0 W LB v L) : v.ownBlock ≠ some LB := fun e => by
  obtain ⟨cs, h2⟩ := own_typed h.own e
  rw [h.box] at h2
  simp at h2
end
set_option maxHeartbeats 4000000 in
set_option maxRecDepth 20000 in
theorem add_any (w0 W : World) (LB : Nat) (v : Value) (L : List Ar) (f t m c : Int) (h : ASt w0 W LB v L) (hn : L.length ≤ 100000) :
    Calls Tryd.prog 71 #[.int .i64 f, .int .i64 t, .int .i64 m, .int .i64 c, .pointer (some ⟨LB, 0, none⟩)] W fun e W' => e = .returned (.tuple #[]) ∧ ∃ v', ASt w0 W' LB v' (L ++ [(f, t, m, c)]) := by
  obtain ⟨i0, hi0, hz0, hz1, hz2⟩ := info_parts arc_info
  have c0 : W.cell? ⟨LB, 0, none⟩ = some v := by rw [cell_of_row _ _ 0 _ _ _ h.box]; rfl
  have HA := Lib.hid h
  go_enter Tryd.func71, Tryd.ntmps71
  clear h
  go_wp2_with (at_builtin; refine wpList_push rfl (.tmp 9) (.tmp 15) 127 rfl w0.heap.size 132 i0 _ 4 32 Tryd.underlying127 hi0 hz0 hz1 hz2 rfl (by omega) v L.length (arv L) #[.int .i64 f, .int .i64 t, .int .i64 m, .int .i64 c] rfl (by exact HA.out.own) rfl rfl (by simp [Value.oneCell']) ?k1 ?k2 ?k3 ?_)
  case k1 => omega
  case k2 => unfold maxLen; omega
  case k3 => exact HA.out.bel.size
  intro v2 w2 ho2 hu2 hat2
  obtain ⟨A2, c2, rfl⟩ := own_shape ho2
  have hbx : w2.heap[LB]? = some (.cells #[v] 127 (0, 0)) := box_keep HA.out.box hu2 HA.out.apart
  have hfz : w2.frozen? ⟨LB, 0, none⟩ = false := frozen_of_row _ _ _ _ _ hbx
  have hc2 : w2.cell? ⟨LB, 0, none⟩ = some v := by rw [cell_of_row _ _ 0 _ _ _ hbx]; rfl
  have hne : (Value.slice A2 (L.length + 1) c2).ownBlock ≠ some LB := fun e => by
    obtain ⟨cs, h2⟩ := own_typed ho2 e
    rw [hbx] at h2
    simp at h2
  have hs : Upd (fun k => k = LB) w2 (w2.setCell ⟨LB, 0, none⟩ (.slice A2 (L.length + 1) c2)) := (Upd.refl (fun k => k = LB) w2).setCell ⟨LB, 0, none⟩ rfl _
  have HN : Hid (ASt w0 (w2.setCell ⟨LB, 0, none⟩ (.slice A2 (L.length + 1) c2)) LB (.slice A2 (L.length + 1) c2) (L ++ [(f, t, m, c)])) := Lib.hid ⟨by
      have := heap_setCell_same w2 LB 0 _ _ (.slice A2 (L.length + 1) c2) hbx
      simpa using this, by
      rw [arv_append, arv_one, List.length_append]
      exact own_upd ho2 hs (fun k e e2 => hne (by rw [e, e2])), by
      refine HA.out.bel.trans ((hu2.below (fun q hq e => by have := (HA.out.own.lt q e).1; omega) HA.out.bel.size).trans (hs.below (fun k hk e => by have := HA.out.lo; omega) (Nat.le_trans HA.out.bel.size hu2.size))), HA.out.lo⟩
  clear ho2 hu2 hat2 hbx hs c0
  go_wp2

  refine bodyPost_end (results_none rfl _ _ _) rfl ?_
  exact ⟨rfl, _, HN.out⟩
end Go.Proofs.YtppjpledjhinbaaDoor
