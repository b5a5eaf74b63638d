/- Flows: newNet, walked. -/
import Derived.Test.YtppjpledjhinbaaDoorJFlMem
import Derived.Deep.RegionHeld3
import Derived.Deep.CutBlock
import Derived.Deep.DeepCutAuto
import Derived.Test.YtppjpledjhinbaaDoorJVMap
namespace Go.Proofs.YtppjpledjhinbaaDoor
open Go.RowKit
def BIs (r : Bool) (P : Prop) : Prop := r = true ↔ P
theorem btw (w : World) (n lo hi : Int) (r : Bool) (h : BIs r (lo ≤ n ∧ n ≤ hi)) : Calls Tryd.prog 93 #[.int .i64 n, .int .i64 lo, .int .i64 hi] w fun e w' => e = .returned (.bool r) ∧ w = w' := by
  cases r with
  | true =>
    obtain ⟨h1, h2⟩ := h.1 rfl
    clear h
    go_enter Tryd.func93, Tryd.ntmps93
    go_wp2
    go_ret
    exact ⟨rfl, rfl⟩
  | false =>
    have hn : ¬ (lo ≤ n ∧ n ≤ hi) := fun h' => by have := h.2 h'; cases this
    clear h
    by_cases h1 : lo ≤ n
    · have h2 : ¬ n ≤ hi := fun h2 => hn ⟨h1, h2⟩
      clear hn
      go_enter Tryd.func93, Tryd.ntmps93
      go_wp2
      go_ret
      exact ⟨rfl, rfl⟩
    · clear hn
      go_enter Tryd.func93, Tryd.ntmps93
      go_wp2
      go_ret
      exact ⟨rfl, rfl⟩
theorem bis_t {P : Prop} (h : P) : BIs true P := ⟨fun _ => h, fun _ => rfl⟩
theorem bis_f {P : Prop} (h : ¬ P) : BIs false P := ⟨(fun h => by cases h), fun h' => absurd h' h⟩
theorem net_info : (Tryd.prog.info? 171).map (fun i => (i.zero, i.size, i.bytes)) = some (some (.agg #[.int .i64 0, .int .i64 0, .int .i64 0]), 3, 24) := by kernel_rfl
set_option maxHeartbeats 4000000 in
set_option maxRecDepth 20000 in
/-- Sizes that aren't right. -/
theorem newn_size (w : World) (nodes s t : Int) (A : Option Addr) (k c : Nat) (hs : ¬ ((2 ≤ nodes ∧ nodes ≤ 200) ∧ (0 ≤ s ∧ s < nodes) ∧ (0 ≤ t ∧ t < nodes) ∧ s ≠ t ∧ k ≤ 4000)) :
    Calls Tryd.prog 80 #[.int .i64 nodes, .int .i64 s, .int .i64 t, .slice A k c] w fun e w' => e = .returned (.tuple #[.pointer none, .int .i64 19]) ∧ w = w' := by
  by_cases h1 : 2 ≤ nodes ∧ nodes ≤ 200
  · have x1 : IntKind.i64.wrap (nodes - 1) = nodes - 1 := IntWalk.i64_in _ (by omega)
    by_cases h2 : 0 ≤ s ∧ s ≤ nodes - 1
    · by_cases h3 : 0 ≤ t ∧ t ≤ nodes - 1
      · have h4 : s = t ∨ (s ≠ t ∧ 4000 < k) := by
          by_cases e : s = t
          · exact .inl e
          · exact .inr ⟨e, by
              by_cases e2 : 4000 < k
              · exact e2
              · exact absurd ⟨h1, ⟨h2.1, by omega⟩, ⟨h3.1, by omega⟩, e, by omega⟩ hs⟩
        have C1 := Lib.hid (btw w nodes 2 200 true (bis_t h1))
        have C2 := Lib.hid (btw w s 0 (nodes - 1) true (bis_t h2))
        have C3 := Lib.hid (btw w t 0 (nodes - 1) true (bis_t h3))
        clear hs h1 h2 h3
        rcases h4 with rfl | ⟨h4, h5⟩
        all_goals
          go_enter Tryd.func80, Tryd.ntmps80
          go_wp2_with fail
          refine C1.out.mono ?_
          rintro e w1 ⟨rfl, rfl⟩
          go_wp2_with fail
          refine C2.out.mono ?_
          rintro e w2 ⟨rfl, rfl⟩
          go_wp2_with fail
          refine C3.out.mono ?_
          rintro e w3 ⟨rfl, rfl⟩
          go_wp2
          go_ret2
          exact ⟨rfl, rfl⟩
      · have C1 := Lib.hid (btw w nodes 2 200 true (bis_t h1))
        have C2 := Lib.hid (btw w s 0 (nodes - 1) true (bis_t h2))
        have C3 := Lib.hid (btw w t 0 (nodes - 1) false (bis_f h3))
        clear hs h1 h2 h3
        go_enter Tryd.func80, Tryd.ntmps80
        go_wp2_with fail
        refine C1.out.mono ?_
        rintro e w1 ⟨rfl, rfl⟩
        go_wp2_with fail
        refine C2.out.mono ?_
        rintro e w2 ⟨rfl, rfl⟩
        go_wp2_with fail
        refine C3.out.mono ?_
        rintro e w3 ⟨rfl, rfl⟩
        go_wp2
        go_ret2
        exact ⟨rfl, rfl⟩
    · have C1 := Lib.hid (btw w nodes 2 200 true (bis_t h1))
      have C2 := Lib.hid (btw w s 0 (nodes - 1) false (bis_f h2))
      clear hs h1 h2
      go_enter Tryd.func80, Tryd.ntmps80
      go_wp2_with fail
      refine C1.out.mono ?_
      rintro e w1 ⟨rfl, rfl⟩
      go_wp2_with fail
      refine C2.out.mono ?_
      rintro e w2 ⟨rfl, rfl⟩
      go_wp2
      go_ret2
      exact ⟨rfl, rfl⟩
  · have C1 := Lib.hid (btw w nodes 2 200 false (bis_f h1))
    clear hs h1
    go_enter Tryd.func80, Tryd.ntmps80
    go_wp2_with fail
    refine C1.out.mono ?_
    rintro e w1 ⟨rfl, rfl⟩
    go_wp2
    go_ret2
    exact ⟨rfl, rfl⟩
end Go.Proofs.YtppjpledjhinbaaDoor
/- Flows: newNet of sizes that are right, walked. -/
namespace Go.Proofs.YtppjpledjhinbaaDoor
open Go.RowKit
/-- The network, as it is built. -/
structure NetB (w0 wx : World) (nodes s t : Nat) (N : Nw) (rows : List (List Nat)) (q : Nat) (vs : List Value) (av : Value) : Prop where
  blk : wx.heap[w0.heap.size + 1]? = some (.cells #[av, .slice (some ⟨w0.heap.size, 0, none⟩) nodes nodes, .int .i64 s, .int .i64 t, .int .i64 0, .int .i64 0] 152 (0, 0))
  nrs : Nears wx w0.heap.size rows vs
  rl : rows.length = nodes
  own : wx.ownsRow (w0.heap.size + 2) 171 3 av q (arcv N (room0 N) q)
  bel : Below w0.heap.size w0 wx
section
variable {w0 wx w' : World} {nodes s t q : Nat} {N : Nw} {rows : List (List Nat)} {vs : List Value} {av : Value}
theorem NetB.plt (h : NetB w0 wx nodes s t N rows q vs av) : w0.heap.size + 1 < wx.heap.size := (Array.getElem?_eq_some_iff.1 h.blk).1
theorem NetB.noP (h : NetB w0 wx nodes s t N rows q vs av) : ¬ RowB w0.heap.size vs (w0.heap.size + 1) := h.nrs.other h.blk (by decide) (by decide)
theorem NetB.noA (h : NetB w0 wx nodes s t N rows q vs av) {g : Nat} (hg : av.ownBlock = some g) : ¬ RowB w0.heap.size vs g ∧ w0.heap.size + 2 ≤ g ∧ g < wx.heap.size := by
  obtain ⟨cur, hc⟩ := own_elem h.own hg
  exact ⟨h.nrs.other hc (by decide) (by decide), h.own.lt g hg⟩
theorem NetB.rowLt (h : NetB w0 wx nodes s t N rows q vs av) {g : Nat} (hg : RowB w0.heap.size vs g) : w0.heap.size ≤ g ∧ g < wx.heap.size := by
  rcases hg with rfl | ⟨i, v, hv, hk⟩
  · exact ⟨Nat.le_refl _, h.nrs.lt⟩
  · have := h.nrs.blt hv hk
    omega
theorem NetB.upd (h : NetB w0 wx nodes s t N rows q vs av) (hu : Upd (fun _ => False) wx w') : NetB w0 w' nodes s t N rows q vs av :=
  ⟨(hu.block _ h.plt (fun h => h)).trans h.blk, h.nrs.updB hu (fun _ _ h => h), h.rl, own_upd h.own hu (fun _ _ h => h), h.bel.trans (hu.below (fun _ _ h => h) h.bel.size)⟩
theorem NetB.c0 (h : NetB w0 wx nodes s t N rows q vs av) : wx.cell? ⟨w0.heap.size + 1, 0, none⟩ = some av := by rw [cell_of_row _ _ 0 _ _ _ h.blk]; rfl
theorem NetB.c1 (h : NetB w0 wx nodes s t N rows q vs av) : wx.cell? ⟨w0.heap.size + 1, 1, none⟩ = some (.slice (some ⟨w0.heap.size, 0, none⟩) nodes nodes) := by rw [cell_of_row _ _ 1 _ _ _ h.blk]; rfl
theorem NetB.row (h : NetB w0 wx nodes s t N rows q vs av) {v : Nat} (hv : v < nodes) : ∃ A c, vs[v]? = some (.slice A (nearOf rows v).length c) ∧ rows[v]? = some (nearOf rows v) ∧ wx.cell? ⟨w0.heap.size, v, none⟩ = some (.slice A (nearOf rows v).length c) ∧ wx.frozen? ⟨w0.heap.size, v, none⟩ = false ∧
    wx.ownsRow (w0.heap.size + 1) 3 1 (.slice A (nearOf rows v).length c) (nearOf rows v).length (natv (nearOf rows v)) := by
  have hvl : v < vs.length := by rw [h.nrs.len, h.rl]; exact hv
  have hr : rows[v]? = some (nearOf rows v) := by
    unfold nearOf
    rw [List.getD_eq_getElem?_getD, List.getElem?_eq_getElem (by rw [h.rl]; exact hv)]
    rfl
  have ho := h.nrs.own v vs[v] _ (List.getElem?_eq_getElem hvl) hr
  have hc := h.nrs.cell hvl
  obtain ⟨A, c, e⟩ := own_shape ho
  rw [e] at ho hc
  exact ⟨A, c, by rw [List.getElem?_eq_getElem hvl, e], hr, hc, frozen_of_row _ _ _ _ _ h.nrs.blk, ho⟩
/-- 'out[v] = append(out[v], j)'. -/
theorem NetB.pushRow (h : NetB w0 wx nodes s t N rows q vs av) {v j : Nat} {u u' : Value} (hv : vs[v]? = some u) (hr : rows[v]? = some (nearOf rows v)) (ho : w'.ownsRow (w0.heap.size + 1) 3 1 u' ((nearOf rows v).length + 1) (natv (nearOf rows v) ++ [.int .i64 (j : Int)]))
    (hu : Upd (fun k => u.ownBlock = some k) wx w') (hat : RowAt wx u u') : NetB w0 (w'.setCell ⟨w0.heap.size, v, none⟩ u') nodes s t N (pushR rows v j) q (vs.set v u') av := by
  have hrow : ∀ k, u.ownBlock = some k → RowB w0.heap.size vs k := fun k hk => .inr ⟨v, u, hv, hk⟩
  have hn := h.nrs.push (l' := nearOf rows v ++ [j]) hv hr (by rw [List.length_append, natv_append]; exact ho) hu hat
  have hu2 : Upd (fun k => k = w0.heap.size) w' (w'.setCell ⟨w0.heap.size, v, none⟩ u') := (Upd.refl (fun k => k = w0.heap.size) w').setCell ⟨w0.heap.size, v, none⟩ rfl u'
  have hu3 : Upd (fun k => RowB w0.heap.size vs k) wx (w'.setCell ⟨w0.heap.size, v, none⟩ u') := (hu.mono fun k _ hk => hrow k hk).trans hu2 (fun k _ e => .inl e)
  refine ⟨(hu3.block _ h.plt h.noP).trans h.blk, hn, by rw [pushR_len]; exact h.rl, own_upd h.own hu3 (fun k hk hr => (h.noA hk).1 hr), h.bel.trans (hu3.below (fun k hk hr => by have := (h.rowLt hr).1; omega) h.bel.size)⟩
/-- 'n.arcs = append(n.arcs, .., ..)'. -/
theorem NetB.pushArcs (h : NetB w0 wx nodes s t N rows q vs av) {av' : Value} (ho : w'.ownsRow (w0.heap.size + 2) 171 3 av' (q + 2) (arcv N (room0 N) (q + 2))) (hu : Upd (fun k => av.ownBlock = some k) wx w') :
    NetB w0 (w'.setCell ⟨w0.heap.size + 1, 0, none⟩ av') nodes s t N rows (q + 2) vs av' := by
  have hu2 : Upd (fun k => k = w0.heap.size + 1) w' (w'.setCell ⟨w0.heap.size + 1, 0, none⟩ av') := (Upd.refl (fun k => k = w0.heap.size + 1) w').setCell ⟨w0.heap.size + 1, 0, none⟩ rfl av'
  have hb := (hu.block _ h.plt (fun e => by have := (h.noA e).2.1; omega)).trans h.blk
  have hu3 : Upd (fun k => av.ownBlock = some k ∨ k = w0.heap.size + 1) wx (w'.setCell ⟨w0.heap.size + 1, 0, none⟩ av') := (hu.mono fun k _ hk => .inl hk).trans hu2 (fun k _ e => .inr e)
  have hset := heap_setCell_same w' _ 0 _ _ av' hb
  refine ⟨hset, h.nrs.updB hu3 (fun k hk e => ?_), h.rl, own_upd ho hu2 (fun k hk e => by have := (ho.lt k hk).1; omega), h.bel.trans (hu3.below (fun k hk e => ?_) h.bel.size)⟩
  · rcases e with e | e
    · exact (h.noA e).1 hk
    · exact h.noP (e ▸ hk)
  · rcases e with e | e
    · have := (h.noA e).2.1; omega
    · omega
end
end Go.Proofs.YtppjpledjhinbaaDoor
