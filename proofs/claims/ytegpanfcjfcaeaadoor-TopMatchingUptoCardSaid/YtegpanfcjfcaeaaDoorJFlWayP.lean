/- Matchings: the reference's search, walked. -/
import Derived.Test.YtegpanfcjfcaeaaDoorJFlMem
import Derived.Deep.RegionWith
import Derived.StillTailTactics
import Derived.BigRegion
import Derived.Deep.CutBlock
import Derived.Deep.DeepCutAuto
import Derived.Test.YtegpanfcjfcaeaaDoorJFlNew2
import Derived.Test.YtegpanfcjfcaeaaDoorJFlP3
namespace Go.Proofs.YtegpanfcjfcaeaaDoor
open Go.RowKit
/-- Block g is just this row of marks. -/
def Bls (w : World) (g : Nat) (l : List Bool) : Prop := w.heap[g]? = some (.cells (l.map Value.bool).toArray 4 (0, 0))
section
variable {w w' : World} {g : Nat} {l : List Bool}
theorem Bls.lt (h : Bls w g l) : g < w.heap.size := (Array.getElem?_eq_some_iff.1 h).1
theorem Bls.cell (h : Bls w g l) {k : Nat} (hk : k < l.length) : w.cell? ⟨g, k, none⟩ = some (.bool (sn l k)) := by
  rw [cell_of_row w g k _ _ _ h]
  unfold sn
  rw [List.getD_eq_getElem?_getD, List.getElem?_eq_getElem hk]
  simp [hk]
theorem Bls.free (h : Bls w g l) (k : Nat) : w.frozen? ⟨g, k, none⟩ = false := frozen_of_row w g k _ _ h
theorem Bls.set (h : Bls w g l) (k : Nat) (v : Bool) : Bls (w.setCell ⟨g, k, none⟩ (.bool v)) g (l.set k v) := by
  have := heap_setCell_same w g k _ _ (.bool v) h
  unfold Bls
  rw [this]
  congr 2
  apply Array.ext'
  simp [List.map_set]
theorem Bls.upd {S : Nat → Prop} (h : Bls w g l) (hu : Upd S w w') (hs : ¬ S g) : Bls w' g l := (hu.block g h.lt hs).trans h
end
theorem bool_info : (Tryd.prog.info? 4).map (fun i => (i.zero, i.size, i.bytes)) = some (some (.bool false), 1, 1) := by kernel_rfl
/-- 'make([]bool, n)'. -/
theorem mkbls (w : World) (n : Nat) (hn : n ≤ 1048576) : (Instr.makeSlice 129 (.int .i64 n) (.int .i64 n)).run Tryd.prog w = .ok (.slice (some ⟨w.heap.size, 0, none⟩) n n) (w.alloc (.cells (Array.replicate n (Value.bool false)) 4)) := by
  obtain ⟨i0, hi0, hz0, hz1, hz2⟩ := info_parts bool_info
  have h := run_makeSlice (P := Tryd.prog) w 129 4 i0 (.bool false) Tryd.underlying129 hi0 hz0 .i64 .i64 n n (by omega) (by omega) (by rw [hz1]; omega) (by rw [hz2]; omega) (by omega)
  rw [hz1, Int.toNat_natCast, Nat.mul_one] at h
  have e : (madeCells (Value.bool false).cells n).toList = _ := toList_madeCells_one _ n
  have e2 : madeCells (Value.bool false).cells n = Array.replicate n (Value.bool false) := Array.ext' (by rw [e]; simp)
  rw [h, e2]
theorem made_bls (w : World) (n : Nat) : Bls (w.alloc (.cells (Array.replicate n (Value.bool false)) 4)) w.heap.size (List.replicate n false) := by
  have := heap_alloc_new w (.cells (Array.replicate n (Value.bool false)) 4)
  unfold Bls
  rw [this]
  congr 2
  apply Array.ext'
  simp
/-- The rows of neighbours, to be read, in blocks of F. -/
structure NearF (w : World) (F : Nat → Prop) (N : Nat) (rows : List (List Nat)) : Prop where
  at_ : F N
  row : ∀ (a : Nat) (l : List Nat), rows[a]? = some l → ∃ A c, w.cell? ⟨N, a, none⟩ = some (.slice A l.length c) ∧ ∀ (k : Nat) (h : k < l.length), ∃ g, A = some ⟨g, 0, none⟩ ∧ F g ∧ w.cell? ⟨g, k, none⟩ = some (.int .i64 (l[k] : Int))
theorem NearF.keep {w w' : World} {F : Nat → Prop} {N : Nat} {rows : List (List Nat)} (h : NearF w F N rows) (hk : ∀ p : Addr, F p.block → w'.cell? p = w.cell? p) : NearF w' F N rows :=
  ⟨h.at_, fun a l hl => by
    obtain ⟨A, c, h1, h2⟩ := h.row a l hl
    exact ⟨A, c, (hk _ h.at_).trans h1, fun k hkl => by
      obtain ⟨g, e, hg, h3⟩ := h2 k hkl
      exact ⟨g, e, hg, (hk _ hg).trans h3⟩⟩⟩
theorem Nears.readF {w : World} {N : Nat} {rows : List (List Nat)} {vs : List Value} (h : Nears w N rows vs) : NearF w (fun k => N ≤ k ∧ k < w.heap.size) N rows :=
  ⟨⟨Nat.le_refl _, h.lt⟩, fun a l hl => by
    have ha : a < vs.length := by rw [h.len]; exact (List.getElem?_eq_some_iff.1 hl).1
    have ho := h.own a vs[a] l (List.getElem?_eq_getElem ha) hl
    have hc := h.cell ha
    obtain ⟨A, c, hv⟩ := own_shape ho
    rw [hv] at hc ho
    refine ⟨A, c, hc, fun k hk => ?_⟩
    obtain ⟨g, cap, e, hgN, hg, _⟩ := own_form ho (by omega)
    injection e with e _ _
    subst e
    have h1 := ho.cells (g := g) rfl k _ (natv_get l k hk)
    rw [add_zero_off] at h1
    exact ⟨g, rfl, ⟨by omega, hg⟩, h1⟩⟩
section
variable {w w' : World} {F : Nat → Prop} {P N W Z n m : Nat} {rows : List (List Nat)} {wi : List Int} {seen : List Bool} {S : Nat → Prop}
end
def TryS (W Z k : Nat) : Prop := k = W ∨ k = Z
def TryEnd (rows : List (List Nat)) (f a b : Nat) (l : List Nat) (r : Bool × TSt) (bb : Bool) (s2 : TSt) : Prop :=
  (bb = true ∧ r = (true, { s2 with wi := s2.wi.set b a })) ∨ (bb = false ∧ tryL (tryF (nearOf rows) f) a l s2 = some r)
end Go.Proofs.YtegpanfcjfcaeaaDoor
/- Flows: the network in memory, as it is used. -/
namespace Go.Proofs.YtegpanfcjfcaeaaDoor
open Go.RowKit
/-- The network's block P; N: the rows of arcs, in blocks of F; R: the arcs. -/
structure NetA (w : World) (F : Nat → Prop) (P N R : Nat) (av : Value) (nodes s t : Nat) (value paid : Int) (nw : Nw) (rows : List (List Nat)) (room : List Int) : Prop where
  blk : w.heap[P]? = some (.cells #[av, .slice (some ⟨N, 0, none⟩) nodes nodes, .int .i64 s, .int .i64 t, .int .i64 value, .int .i64 paid] 167 (0, 0))
  nr : NearF w F N rows
  arcs : 0 < nw.m → ArcsAt w R nw room
  shp : (nw.m = 0 ∧ ∃ c, av = .slice none 0 c) ∨ ∃ c, av = .slice (some ⟨R, 0, none⟩) (2 * nw.m) c
  flt : ∀ k, F k → k < w.heap.size
  fP : ¬ F P
  fR : ¬ F R
  rP : R ≠ P
  len : room.length = 2 * nw.m
  rl : rows.length = nodes
section
variable {w w' : World} {F : Nat → Prop} {P N R : Nat} {av : Value} {nodes s t : Nat} {value paid : Int} {nw : Nw} {rows : List (List Nat)} {room : List Int} {S : Nat → Prop}
theorem NetA.plt (h : NetA w F P N R av nodes s t value paid nw rows room) : P < w.heap.size := (Array.getElem?_eq_some_iff.1 h.blk).1
theorem NetA.upd (h : NetA w F P N R av nodes s t value paid nw rows room) (hu : Upd S w w') (h0 : ∀ k, F k → ¬ S k) (hP : ¬ S P) (hR : 0 < nw.m → ¬ S R) : NetA w' F P N R av nodes s t value paid nw rows room :=
  ⟨(hu.block P h.plt hP).trans h.blk, h.nr.keep fun p hp => hu.cell (h.flt _ hp) (h0 _ hp), fun hm => (h.arcs hm).upd hu (hR hm), h.shp, fun k hk => Nat.lt_of_lt_of_le (h.flt k hk) hu.size, h.fP, h.fR, h.rP, h.len, h.rl⟩
theorem NetA.below {B : Nat} (h : NetA w F P N R av nodes s t value paid nw rows room) (hb : Below B w w') (h0 : ∀ k, F k → k < B) (hP : P < B) (hR : 0 < nw.m → R < B) : NetA w' F P N R av nodes s t value paid nw rows room :=
  h.upd (S := fun k => ¬ k < B) ⟨hb.os, hb.tape, hb.output, hb.size, fun k _ hn => hb.block k (by omega)⟩ (fun k hk hn => hn (h0 k hk)) (fun hn => hn hP) (fun hm hn => hn (hR hm))
theorem NetA.drew (h : NetA w F P N R av nodes s t value paid nw rows room) : NetA w.drew F P N R av nodes s t value paid nw rows room :=
  h.upd (S := fun _ => False) ((Upd.refl _ w).drewN 1) (fun _ _ h => h) (fun h => h) (fun _ h => h)
theorem NetA.c0 (h : NetA w F P N R av nodes s t value paid nw rows room) : w.cell? ⟨P, 0, none⟩ = some av := by rw [cell_of_row w P 0 _ _ _ h.blk]; rfl
theorem NetA.c1 (h : NetA w F P N R av nodes s t value paid nw rows room) : w.cell? ⟨P, 1, none⟩ = some (.slice (some ⟨N, 0, none⟩) nodes nodes) := by rw [cell_of_row w P 1 _ _ _ h.blk]; rfl
theorem NetA.c2 (h : NetA w F P N R av nodes s t value paid nw rows room) : w.cell? ⟨P, 2, none⟩ = some (.int .i64 s) := by rw [cell_of_row w P 2 _ _ _ h.blk]; rfl
theorem NetA.c3 (h : NetA w F P N R av nodes s t value paid nw rows room) : w.cell? ⟨P, 3, none⟩ = some (.int .i64 t) := by rw [cell_of_row w P 3 _ _ _ h.blk]; rfl
theorem NetA.c4 (h : NetA w F P N R av nodes s t value paid nw rows room) : w.cell? ⟨P, 4, none⟩ = some (.int .i64 value) := by rw [cell_of_row w P 4 _ _ _ h.blk]; rfl
theorem NetA.c5 (h : NetA w F P N R av nodes s t value paid nw rows room) : w.cell? ⟨P, 5, none⟩ = some (.int .i64 paid) := by rw [cell_of_row w P 5 _ _ _ h.blk]; rfl
theorem NetA.free (h : NetA w F P N R av nodes s t value paid nw rows room) (i : Nat) : w.frozen? ⟨P, i, none⟩ = false := frozen_of_row w P i _ _ h.blk
theorem NetA.row (h : NetA w F P N R av nodes s t value paid nw rows room) {a : Nat} (ha : a < nodes) :
    ∃ A c, w.cell? ⟨N, a, none⟩ = some (.slice A (nearOf rows a).length c) ∧ ∀ (k : Nat) (hk : k < (nearOf rows a).length), ∃ g, A = some ⟨g, 0, none⟩ ∧ F g ∧ w.cell? ⟨g, k, none⟩ = some (.int .i64 ((nearOf rows a)[k] : Int)) :=
  h.nr.row a _ (by
    have : a < rows.length := by rw [h.rl]; exact ha
    unfold nearOf
    rw [List.getD_eq_getElem?_getD, List.getElem?_eq_getElem this]
    rfl)
theorem NetA.some (h : NetA w F P N R av nodes s t value paid nw rows room) (hm : 0 < nw.m) : ∃ c, av = .slice (some ⟨R, 0, none⟩) (2 * nw.m) c := by
  rcases h.shp with ⟨h0, _⟩ | h1
  · omega
  · exact h1
/-- An arc's room is set. -/
theorem NetA.setRoom (h : NetA w F P N R av nodes s t value paid nw rows room) {j : Nat} (hj : j < 2 * nw.m) (v : Int) : NetA (w.setCell ⟨R, j * 3 + 1, none⟩ (.int .i64 v)) F P N R av nodes s t value paid nw rows (room.set j v) := by
  have hu : Upd (fun k => k = R) w (w.setCell ⟨R, j * 3 + 1, none⟩ (.int .i64 v)) := (Upd.refl (fun k => k = R) w).setCell ⟨R, j * 3 + 1, none⟩ rfl _
  exact ⟨(hu.block P h.plt (fun e => h.rP e.symm)).trans h.blk, h.nr.keep fun p hp => hu.cell (h.flt _ hp) (fun e => h.fR (e ▸ hp)), fun hm => (h.arcs hm).set hj v, h.shp, fun k hk => Nat.lt_of_lt_of_le (h.flt k hk) hu.size, h.fP, h.fR, h.rP, by rw [List.length_set]; exact h.len, h.rl⟩
theorem NetA.setV (h : NetA w F P N R av nodes s t value paid nw rows room) (v : Int) : NetA (w.setCell ⟨P, 4, none⟩ (.int .i64 v)) F P N R av nodes s t v paid nw rows room := by
  have hu : Upd (fun k => k = P) w (w.setCell ⟨P, 4, none⟩ (.int .i64 v)) := (Upd.refl (fun k => k = P) w).setCell ⟨P, 4, none⟩ rfl _
  exact ⟨heap_setCell_same w P 4 _ _ _ h.blk, h.nr.keep fun p hp => hu.cell (h.flt _ hp) (fun e => h.fP (e ▸ hp)), fun hm => (h.arcs hm).upd hu h.rP, h.shp, fun k hk => Nat.lt_of_lt_of_le (h.flt k hk) hu.size, h.fP, h.fR, h.rP, h.len, h.rl⟩
theorem NetA.setPd (h : NetA w F P N R av nodes s t value paid nw rows room) (v : Int) : NetA (w.setCell ⟨P, 5, none⟩ (.int .i64 v)) F P N R av nodes s t value v nw rows room := by
  have hu : Upd (fun k => k = P) w (w.setCell ⟨P, 5, none⟩ (.int .i64 v)) := (Upd.refl (fun k => k = P) w).setCell ⟨P, 5, none⟩ rfl _
  exact ⟨heap_setCell_same w P 5 _ _ _ h.blk, h.nr.keep fun p hp => hu.cell (h.flt _ hp) (fun e => h.fP (e ▸ hp)), fun hm => (h.arcs hm).upd hu h.rP, h.shp, fun k hk => Nat.lt_of_lt_of_le (h.flt k hk) hu.size, h.fP, h.fR, h.rP, h.len, h.rl⟩
end
theorem Nears.readS {w : World} {N : Nat} {rows : List (List Nat)} {vs : List Value} (h : Nears w N rows vs) : NearF w (RowB N vs) N rows :=
  ⟨.inl rfl, fun a l hl => by
    have ha : a < vs.length := by rw [h.len]; exact (List.getElem?_eq_some_iff.1 hl).1
    have ho := h.own a vs[a] l (List.getElem?_eq_getElem ha) hl
    have hc := h.cell ha
    obtain ⟨A, c, hv⟩ := own_shape ho
    refine ⟨A, c, by rw [hc, hv], fun k hk => ?_⟩
    have hva : vs[a]? = Option.some (Value.slice A l.length c) := by rw [List.getElem?_eq_getElem ha, hv]
    rw [hv] at ho
    obtain ⟨g, cap, e, _, hg, _⟩ := own_form ho (by omega)
    injection e with e _ _
    subst e
    have h1 := ho.cells (g := g) rfl k _ (natv_get l k hk)
    rw [add_zero_off] at h1
    exact ⟨g, rfl, .inr ⟨a, _, hva, rfl⟩, h1⟩⟩
/-- The rooms at the start, as a row. -/
def rooms0 (N : Nw) : List Int := (List.range (2 * N.m)).map (room0 N)
theorem rooms0_gi (N : Nw) {j : Nat} (hj : j < 2 * N.m) : gi (rooms0 N) j = room0 N j := by
  rw [gi_get (by simpa [rooms0] using hj)]
  simp [rooms0]
theorem rooms0_ok {N : Nw} (hc : ∀ i, i < N.m → 0 ≤ N.cap i) : RoomOk N (rooms0 N) := by
  refine ⟨by simp [rooms0], fun i hi => ?_⟩
  rw [rooms0_gi N (by omega), rooms0_gi N (by omega)]
  have := hc i hi
  unfold room0
  rw [if_pos (by omega), if_neg (by omega), show 2 * i / 2 = i by omega]
  omega
theorem FlowSt.start {N : Nw} {nodes s t : Nat} (costs : Bool) (hn : NwOk N nodes s t) : FlowSt N costs nodes s t (rooms0 N) 0 0 := by
  have hfl : ∀ i, i < N.m → fl (rooms0 N) i = 0 := fun i hi => by
    unfold fl
    rw [rooms0_gi N (by omega)]
    unfold room0
    rw [if_neg (by omega)]
  have hex : ∀ v, ex N (fl (rooms0 N)) v = 0 := fun v => by
    unfold ex
    rw [sm_congr (h := fun _ => 0) (fun i hi => by rw [hfl i hi]; simp), sm_zero]
  refine ⟨rooms0_ok fun i hi => (hn.cap i hi).1, fun v _ _ _ => hex v, by rw [hex]; rfl, ?_, fun _ => 0, fun j hj hr => ?_, rfl, fun _ _ => Int.le_refl _⟩
  · unfold costOf
    rw [sm_congr (h := fun _ => 0) (fun i hi => by rw [hfl i hi]; simp), sm_zero]
  · rw [rooms0_gi N hj] at hr
    have hc := (hn.cost (j / 2) (by omega)).1
    unfold room0 at hr
    unfold cst rc
    split at hr
    · rename_i e
      rw [if_pos e]
      simp only
      split <;> omega
    · omega
/-- The network that newNet has made. -/
theorem NetB.toA {w0 w : World} {nodes s t : Nat} {nw : Nw} {rows : List (List Nat)} {vs : List Value} {av : Value} (h : NetB w0 w nodes s t nw rows (2 * nw.m) vs av) :
    ∃ R, NetA w (RowB w0.heap.size vs) (w0.heap.size + 1) w0.heap.size R av nodes s t 0 0 nw rows (rooms0 nw) ∧ (∀ k, RowB w0.heap.size vs k → w0.heap.size ≤ k) ∧ (0 < nw.m → w0.heap.size ≤ R) := by
  have hlen : (rooms0 nw).length = 2 * nw.m := by simp [rooms0]
  have hfl : ∀ k, RowB w0.heap.size vs k → k < w.heap.size := fun k hk => (h.rowLt hk).2
  have hlo : ∀ k, RowB w0.heap.size vs k → w0.heap.size ≤ k := fun k hk => (h.rowLt hk).1
  by_cases hm : 0 < nw.m
  · have ho := h.own
    rcases ho.2 with ⟨_, h0⟩ | ⟨g, cap, cur, hv, hb, hg, hnc, hmx, hsz, htk⟩
    · exact absurd h0 (by omega)
    · have hob : av.ownBlock = some g := by rw [hv]; rfl
      obtain ⟨n1, n2, n3⟩ := h.noA hob
      refine ⟨g, ⟨h.blk, h.nrs.readS, fun _ => ⟨⟨cur, hg, fun j hj => ?_⟩, hlen⟩, .inr ⟨cap, hv⟩, hfl, h.noP, n1, by omega, hlen, h.rl⟩, hlo, fun _ => by omega⟩
      have key : ∀ i, i < 3 → cur[3 * j + i]? = [Value.int .i64 (rto nw j : Nat), .int .i64 (room0 nw j), .int .i64 (rc nw j)][i]? := fun i hi => by
        have e := arcv_get nw (room0 nw) (2 * nw.m) j i hj hi
        rw [← htk, List.getElem?_take, if_pos (by omega), Array.getElem?_toList] at e
        exact e
      refine ⟨key 0 (by omega), ?_, key 2 (by omega)⟩
      rw [key 1 (by omega), rooms0_gi nw hj]
      rfl
  · obtain ⟨A, c, rfl⟩ := own_shape h.own
    have hm0 : nw.m = 0 := by omega
    rcases h.own.2 with ⟨h1, _⟩ | ⟨g, cap, cur, hv, hb, hg, _⟩
    · injection h1 with h1 h2 h3
      refine ⟨w.heap.size, ⟨h.blk, h.nrs.readS, fun hm' => absurd hm' hm, .inl ⟨hm0, c, by rw [h1, hm0]⟩, hfl, h.noP, fun hk => Nat.lt_irrefl _ (hfl _ hk), by have := h.plt; omega, hlen, h.rl⟩, hlo, fun hm' => absurd hm' hm⟩
    · have hob : (Value.slice A (2 * nw.m) c).ownBlock = Option.some g := by rw [hv]; rfl
      obtain ⟨n1, n2, n3⟩ := h.noA hob
      exact ⟨g, ⟨h.blk, h.nrs.readS, fun hm' => absurd hm' hm, .inr ⟨cap, hv⟩, hfl, h.noP, n1, by omega, hlen, h.rl⟩, hlo, fun hm' => absurd hm' hm⟩
end Go.Proofs.YtegpanfcjfcaeaaDoor
/- Flows: the search, step by step, in plain words. -/
namespace Go.Proofs.YtegpanfcjfcaeaaDoor
section
variable {N : Nw} {costs : Bool} {room : List Int} {s nodes : Nat} {π : Nat → Int} {st : WSt}
theorem WInv.weak {done done' : Nat → Nat → Prop} (h : WInv N costs room s nodes π done st) (hd : ∀ u i, done' u i → done u i) : WInv N costs room s nodes π done' st :=
  ⟨h.lb, h.ld, h.lw, h.ds, h.bs, h.pot, h.unm, h.par, h.pth, h.wa01, h.wat, h.tn, h.nd, h.up, fun u j hu hm hut hdn => h.clo u j hu hm hut (hd u j hdn)⟩
theorem way_pop (h : WInv N costs room s nodes π (fun _ _ => True) st) {v : Nat} {T : List Nat} (hT : st.todo = v :: T) :
    v < nodes ∧ gi st.di v < FAR ∧ v ∉ T ∧ WInv N costs room s nodes π (fun u _ => u ≠ v) ⟨st.by_, st.di, st.wa.set v 0, T⟩ := by
  obtain ⟨hv, hmv⟩ := h.tn v (by rw [hT]; simp)
  have hnd := h.nd
  rw [hT] at hnd
  obtain ⟨n1, n2⟩ := List.nodup_cons.1 hnd
  have wv : ∀ x, gi (st.wa.set v 0) x = if x = v then 0 else gi st.wa x := fun x => gi_set (by rw [h.lw]; exact hv) _ _
  refine ⟨hv, hmv, n1, h.lb, h.ld, by show (st.wa.set v 0).length = nodes; rw [List.length_set]; exact h.lw, h.ds, h.bs, h.pot, h.unm, h.par, h.pth, fun x hx => ?_, fun x hx => ?_, fun x hx => h.tn x (by rw [hT]; exact List.mem_cons_of_mem _ hx), n2, h.up, fun u i hu hmu hut hne => h.clo u i hu hmu (by rw [hT]; simp only [List.mem_cons, not_or]; exact ⟨hne, hut⟩) trivial⟩
  · show gi (st.wa.set v 0) x = 0 ∨ gi (st.wa.set v 0) x = 1
    rw [wv]
    split
    · exact .inl rfl
    · exact h.wa01 x hx
  · intro hxs
    show gi (st.wa.set v 0) x = 1 ↔ x ∈ T
    rw [wv]
    by_cases e : x = v
    · rw [if_pos e, e]
      exact ⟨fun h => by omega, fun h => absurd h n1⟩
    · rw [if_neg e]
      refine (h.wat x hx hxs).trans ?_
      rw [hT, List.mem_cons]
      exact ⟨fun h => h.resolve_left e, .inr⟩
theorem WInv.count {done : Nat → Nat → Prop} (h : WInv N costs room s nodes π done st) : st.todo.length ≤ nodes := by
  have := nodup_sub_len (b := List.range nodes) h.nd fun x hx => by simpa using (h.tn x hx).1
  rwa [List.length_range] at this
/-- Numbers laid one by one. -/
def repC (c : Int) (k n : Nat) : List Int := List.replicate k c ++ List.replicate (n - k) 0
theorem repC_len {c : Int} {k n : Nat} (h : k ≤ n) : (repC c k n).length = n := by simp [repC]; omega
theorem repC_zero (c : Int) (n : Nat) : repC c 0 n = List.replicate n 0 := by simp [repC]
theorem repC_full (c : Int) (n : Nat) : repC c n n = List.replicate n c := by simp [repC]
theorem repC_set {c : Int} {k n : Nat} (h : k < n) : (repC c k n).set k c = repC c (k + 1) n := by
  unfold repC
  apply List.ext_getElem
  · simp; omega
  · intro i h1 h2
    rw [List.getElem_set]
    simp only [List.getElem_append, List.length_replicate, List.getElem_replicate]
    split
    · subst_vars
      simp
    · rename_i hne
      by_cases e : i < k
      · rw [dif_pos e, dif_pos (by omega)]
      · rw [dif_neg e, dif_neg (by omega)]
end
end Go.Proofs.YtegpanfcjfcaeaaDoor
