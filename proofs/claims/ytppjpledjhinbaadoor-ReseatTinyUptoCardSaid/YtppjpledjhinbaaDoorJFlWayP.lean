/- Matchings: the reference's search, walked. -/
import Derived.Test.YtppjpledjhinbaaDoorJFlMem
import Derived.Deep.RegionWith
import Derived.StillTailTactics
import Derived.BigRegion
import Derived.Deep.CutBlock
import Derived.Deep.DeepCutAuto
import Derived.Test.YtppjpledjhinbaaDoorJFlNew2
import Derived.Test.YtppjpledjhinbaaDoorJFlP3
namespace Go.Proofs.YtppjpledjhinbaaDoor
open Go.RowKit
/-- Block g is just this row of marks. -/
def Bls (w : World) (g : Nat) (l : List Bool) : Prop := w.heap[g]? = some (.cells (l.map Value.bool).toArray 4 (0, 0))
section
variable {w w' : World} {g : Nat} {l : List Bool}
theorem Bls.lt (h : Bls w g l) : g < w.heap.size := (Array.getElem?_eq_some_iff.1 h).1
theorem Bls.cell (h : Bls w g l) {k : Nat} (hk : k < l.length) : w.cell? ⟨g, k, none⟩ = some (.bool (sn l k)) := by
  rw [cell_of_row w g k _ _ _ h]
  unfold sn
  rw [List.getD_eq_getElem?_getD, List.getElem?_eq_getElem hk]
  simp [hk]
theorem Bls.free (h : Bls w g l) (k : Nat) : w.frozen? ⟨g, k, none⟩ = false := frozen_of_row w g k _ _ h
theorem Bls.set (h : Bls w g l) (k : Nat) (v : Bool) : Bls (w.setCell ⟨g, k, none⟩ (.bool v)) g (l.set k v) := by
  have := heap_setCell_same w g k _ _ (.bool v) h
  unfold Bls
  rw [this]
  congr 2
  apply Array.ext'
  simp [List.map_set]
theorem Bls.upd {S : Nat → Prop} (h : Bls w g l) (hu : Upd S w w') (hs : ¬ S g) : Bls w' g l := (hu.block g h.lt hs).trans h
end
theorem bool_info : (Tryd.prog.info? 4).map (fun i => (i.zero, i.size, i.bytes)) = some (some (.bool false), 1, 1) := by kernel_rfl
/-- 'make([]bool, n)'. -/
theorem mkbls (w : World) (n : Nat) (hn : n ≤ 1048576) : (Instr.makeSlice 116 (.int .i64 n) (.int .i64 n)).run Tryd.prog w = .ok (.slice (some ⟨w.heap.size, 0, none⟩) n n) (w.alloc (.cells (Array.replicate n (Value.bool false)) 4)) := by
  obtain ⟨i0, hi0, hz0, hz1, hz2⟩ := info_parts bool_info
  have h := run_makeSlice (P := Tryd.prog) w 116 4 i0 (.bool false) Tryd.underlying116 hi0 hz0 .i64 .i64 n n (by omega) (by omega) (by rw [hz1]; omega) (by rw [hz2]; omega) (by omega)
  rw [hz1, Int.toNat_natCast, Nat.mul_one] at h
  have e : (madeCells (Value.bool false).cells n).toList = _ := toList_madeCells_one _ n
  have e2 : madeCells (Value.bool false).cells n = Array.replicate n (Value.bool false) := Array.ext' (by rw [e]; simp)
  rw [h, e2]
theorem made_bls (w : World) (n : Nat) : Bls (w.alloc (.cells (Array.replicate n (Value.bool false)) 4)) w.heap.size (List.replicate n false) := by
  have := heap_alloc_new w (.cells (Array.replicate n (Value.bool false)) 4)
  unfold Bls
  rw [this]
  congr 2
  apply Array.ext'
  simp
/-- The rows of neighbours, to be read, in blocks of F. -/
structure NearF (w : World) (F : Nat → Prop) (N : Nat) (rows : List (List Nat)) : Prop where
  at_ : F N
  row : ∀ (a : Nat) (l : List Nat), rows[a]? = some l → ∃ A c, w.cell? ⟨N, a, none⟩ = some (.slice A l.length c) ∧ ∀ (k : Nat) (h : k < l.length), ∃ g, A = some ⟨g, 0, none⟩ ∧ F g ∧ w.cell? ⟨g, k, none⟩ = some (.int .i64 (l[k] : Int))
theorem NearF.keep {w w' : World} {F : Nat → Prop} {N : Nat} {rows : List (List Nat)} (h : NearF w F N rows) (hk : ∀ p : Addr, F p.block → w'.cell? p = w.cell? p) : NearF w' F N rows :=
  ⟨h.at_, fun a l hl => by
    obtain ⟨A, c, h1, h2⟩ := h.row a l hl
    exact ⟨A, c, (hk _ h.at_).trans h1, fun k hkl => by
      obtain ⟨g, e, hg, h3⟩ := h2 k hkl
      exact ⟨g, e, hg, (hk _ hg).trans h3⟩⟩⟩
theorem Nears.readF {w : World} {N : Nat} {rows : List (List Nat)} {vs : List Value} (h : Nears w N rows vs) : NearF w (fun k => N ≤ k ∧ k < w.heap.size) N rows :=
  ⟨⟨Nat.le_refl _, h.lt⟩, fun a l hl => by
    have ha : a < vs.length := by rw [h.len]; exact (List.getElem?_eq_some_iff.1 hl).1
    have ho := h.own a vs[a] l (List.getElem?_eq_getElem ha) hl
    have hc := h.cell ha
    obtain ⟨A, c, hv⟩ := own_shape ho
    rw [hv] at hc ho
    refine ⟨A, c, hc, fun k hk => ?_⟩
    obtain ⟨g, cap, e, hgN, hg, _⟩ := own_form ho (by omega)
    injection e with e _ _
    subst e
    have h1 := ho.cells (g := g) rfl k _ (natv_get l k hk)
    rw [add_zero_off] at h1
    exact ⟨g, rfl, ⟨by omega, hg⟩, h1⟩⟩
section
variable {w w' : World} {F : Nat → Prop} {P N W Z n m : Nat} {rows : List (List Nat)} {wi : List Int} {seen : List Bool} {S : Nat → Prop}
end
def TryS (W Z k : Nat) : Prop := k = W ∨ k = Z
def TryEnd (rows : List (List Nat)) (f a b : Nat) (l : List Nat) (r : Bool × TSt) (bb : Bool) (s2 : TSt) : Prop :=
  (bb = true ∧ r = (true, { s2 with wi := s2.wi.set b a })) ∨ (bb = false ∧ tryL (tryF (nearOf rows) f) a l s2 = some r)
end Go.Proofs.YtppjpledjhinbaaDoor
/- Flows: the network in memory, as it is used. -/
namespace Go.Proofs.YtppjpledjhinbaaDoor
open Go.RowKit
/-- The network's block P; N: the rows of arcs, in blocks of F; R: the arcs. -/
structure NetA (w : World) (F : Nat → Prop) (P N R : Nat) (av : Value) (nodes s t : Nat) (value paid : Int) (nw : Nw) (rows : List (List Nat)) (room : List Int) : Prop where
  blk : w.heap[P]? = some (.cells #[av, .slice (some ⟨N, 0, none⟩) nodes nodes, .int .i64 s, .int .i64 t, .int .i64 value, .int .i64 paid] 152 (0, 0))
  nr : NearF w F N rows
  arcs : 0 < nw.m → ArcsAt w R nw room
  shp : (nw.m = 0 ∧ ∃ c, av = .slice none 0 c) ∨ ∃ c, av = .slice (some ⟨R, 0, none⟩) (2 * nw.m) c
  flt : ∀ k, F k → k < w.heap.size
  fP : ¬ F P
  fR : ¬ F R
  rP : R ≠ P
  len : room.length = 2 * nw.m
  rl : rows.length = nodes
section
variable {w w' : World} {F : Nat → Prop} {P N R : Nat} {av : Value} {nodes s t : Nat} {value paid : Int} {nw : Nw} {rows : List (List Nat)} {room : List Int} {S : Nat → Prop}
theorem NetA.plt (h : NetA w F P N R av nodes s t value paid nw rows room) : P < w.heap.size := (Array.getElem?_eq_some_iff.1 h.blk).1
theorem NetA.upd (h : NetA w F P N R av nodes s t value paid nw rows room) (hu : Upd S w w') (h0 : ∀ k, F k → ¬ S k) (hP : ¬ S P) (hR : 0 < nw.m → ¬ S R) : NetA w' F P N R av nodes s t value paid nw rows room :=
  ⟨(hu.block P h.plt hP).trans h.blk, h.nr.keep fun p hp => hu.cell (h.flt _ hp) (h0 _ hp), fun hm => (h.arcs hm).upd hu (hR hm), h.shp, fun k hk => Nat.lt_of_lt_of_le (h.flt k hk) hu.size, h.fP, h.fR, h.rP, h.len, h.rl⟩
theorem NetA.below {B : Nat} (h : NetA w F P N R av nodes s t value paid nw rows room) (hb : Below B w w') (h0 : ∀ k, F k → k < B) (hP : P < B) (hR : 0 < nw.m → R < B) : NetA w' F P N R av nodes s t value paid nw rows room :=
  h.upd (S := fun k => ¬ k < B) ⟨hb.os, hb.tape, hb.output, hb.size, fun k _ hn => hb.block k (by omega)⟩ (fun k hk hn => hn (h0 k hk)) (fun hn => hn hP) (fun hm hn => hn (hR hm))
theorem NetA.drew (h : NetA w F P N R av nodes s t value paid nw rows room) : NetA w.drew F P N R av nodes s t value paid nw rows room :=
  h.upd (S := fun _ => False) ((Upd.refl _ w).drewN 1) (fun _ _ h => h) (fun h => h) (fun _ h => h)
theorem NetA.c0 (h : NetA w F P N R av nodes s t value paid nw rows room) : w.cell? ⟨P, 0, none⟩ = some av := by rw [cell_of_row w P 0 _ _ _ h.blk]; rfl
theorem NetA.c1 (h : NetA w F P N R av nodes s t value paid nw rows room) : w.cell? ⟨P, 1, none⟩ = some (.slice (some ⟨N, 0, none⟩) nodes nodes) := by rw [cell_of_row w P 1 _ _ _ h.blk]; rfl
theorem NetA.c2 (h : NetA w F P N R av nodes s t value paid nw rows room) : w.cell? ⟨P, 2, none⟩ = some (.int .i64 s) := by rw [cell_of_row w P 2 _ _ _ h.blk]; rfl
theorem NetA.c3 (h : NetA w F P N R av nodes s t value paid nw rows room) : w.cell? ⟨P, 3, none⟩ = some (.int .i64 t) := by rw [cell_of_row w P 3 _ _ _ h.blk]; rfl
theorem NetA.c4 (h : NetA w F P N R av nodes s t value paid nw rows room) : w.cell? ⟨P, 4, none⟩ = some (.int .i64 value) := by rw [cell_of_row w P 4 _ _ _ h.blk]; rfl
theorem NetA.c5 (h : NetA w F P N R av nodes s t value paid nw rows room) : w.cell? ⟨P, 5, none⟩ = some (.int .i64 paid) := by rw [cell_of_row w P 5 _ _ _ h.blk]; rfl
theorem NetA.free (h : NetA w F P N R av nodes s t value paid nw rows room) (i : Nat) : w.frozen? ⟨P, i, none⟩ = false := frozen_of_row w P i _ _ h.blk
theorem NetA.row (h : NetA w F P N R av nodes s t value paid nw rows room) {a : Nat} (ha : a < nodes) :
    ∃ A c, w.cell? ⟨N, a, none⟩ = some (.slice A (nearOf rows a).length c) ∧ ∀ (k : Nat) (hk : k < (nearOf rows a).length), ∃ g, A = some ⟨g, 0, none⟩ ∧ F g ∧ w.cell? ⟨g, k, none⟩ = some (.int .i64 ((nearOf rows a)[k] : Int)) :=
  h.nr.row a _ (by
    have : a < rows.length := by rw [h.rl]; exact ha
    unfold nearOf
    rw [List.getD_eq_getElem?_getD, List.getElem?_eq_getElem this]
    rfl)
theorem NetA.some (h : NetA w F P N R av nodes s t value paid nw rows room) (hm : 0 < nw.m) : ∃ c, av = .slice (some ⟨R, 0, none⟩) (2 * nw.m) c := by
  rcases h.shp with ⟨h0, _⟩ | h1
  · omega
  · exact h1
/-- An arc's room is set. -/
theorem NetA.setRoom (h : NetA w F P N R av nodes s t value paid nw rows room) {j : Nat} (hj : j < 2 * nw.m) (v : Int) : NetA (w.setCell ⟨R, j * 3 + 1, none⟩ (.int .i64 v)) F P N R av nodes s t value paid nw rows (room.set j v) := by
  have hu : Upd (fun k => k = R) w (w.setCell ⟨R, j * 3 + 1, none⟩ (.int .i64 v)) := (Upd.refl (fun k => k = R) w).setCell ⟨R, j * 3 + 1, none⟩ rfl _
  exact ⟨(hu.block P h.plt (fun e => h.rP e.symm)).trans h.blk, h.nr.keep fun p hp => hu.cell (h.flt _ hp) (fun e => h.fR (e ▸ hp)), fun hm => (h.arcs hm).set hj v, h.shp, fun k hk => Nat.lt_of_lt_of_le (h.flt k hk) hu.size, h.fP, h.fR, h.rP, by rw [List.length_set]; exact h.len, h.rl⟩
theorem NetA.setV (h : NetA w F P N R av nodes s t value paid nw rows room) (v : Int) : NetA (w.setCell ⟨P, 4, none⟩ (.int .i64 v)) F P N R av nodes s t v paid nw rows room := by
  have hu : Upd (fun k => k = P) w (w.setCell ⟨P, 4, none⟩ (.int .i64 v)) := (Upd.refl (fun k => k = P) w).setCell ⟨P, 4, none⟩ rfl _
  exact ⟨heap_setCell_same w P 4 _ _ _ h.blk, h.nr.keep fun p hp => hu.cell (h.flt _ hp) (fun e => h.fP (e ▸ hp)), fun hm => (h.arcs hm).upd hu h.rP, h.shp, fun k hk => Nat.lt_of_lt_of_le (h.flt k hk) hu.size, h.fP, h.fR, h.rP, h.len, h.rl⟩
theorem NetA.setPd (h : NetA w F P N R av nodes s t value paid nw rows room) (v : Int) : NetA (w.setCell ⟨P, 5, none⟩ (.int .i64 v)) F P N R av nodes s t value v nw rows room := by
  have hu : Upd (fun k => k = P) w (w.setCell ⟨P, 5, none⟩ (.int .i64 v)) := (Upd.refl (fun k => k = P) w).setCell ⟨P, 5, none⟩ rfl _
  exact ⟨heap_setCell_same w P 5 _ _ _ h.blk, h.nr.keep fun p hp => hu.cell (h.flt _ hp) (fun e => h.fP (e ▸ hp)), fun hm => (h.arcs hm).upd hu h.rP, h.shp, fun k hk => Nat.lt_of_lt_of_le (h.flt k hk) hu.size, h.fP, h.fR, h.rP, h.len, h.rl⟩
end
theorem Nears.readS {w : World} {N : Nat} {rows : List (List Nat)} {vs : List Value} (h : Nears w N rows vs) : NearF w (RowB N vs) N rows :=
  ⟨.inl rfl, fun a l hl => by
    have ha : a < vs.length := by rw [h.len]; exact (List.getElem?_eq_some_iff.1 hl).1
    have ho := h.own a vs[a] l (List.getElem?_eq_getElem ha) hl
    have hc := h.cell ha
    obtain ⟨A, c, hv⟩ := own_shape ho
    refine ⟨A, c, by rw [hc, hv], fun k hk => ?_⟩
    have hva : vs[a]? = Option.some (Value.slice A l.length c) := by rw [List.getElem?_eq_getElem ha, hv]
    rw [hv] at ho
    obtain ⟨g, cap, e, _, hg, _⟩ := own_form ho (by omega)
    injection e with e _ _
    subst e
    have h1 := ho.cells (g := g) rfl k _ (natv_get l k hk)
    rw [add_zero_off] at h1
    exact ⟨g, rfl, .inr ⟨a, _, hva, rfl⟩, h1⟩⟩
/-- The rooms at the start, as a row. -/
def rooms0 (N : Nw) : List Int := (List.range (2 * N.m)).map (room0 N)
theorem rooms0_gi (N : Nw) {j : Nat} (hj : j < 2 * N.m) : gi (rooms0 N) j = room0 N j := by
  rw [gi_get (by simpa [rooms0] using hj)]
  simp [rooms0]
theorem rooms0_ok {N : Nw} (hc : ∀ i, i < N.m → 0 ≤ N.cap i) : RoomOk N (rooms0 N) := by
  refine ⟨by simp [rooms0], fun i hi => ?_⟩
  rw [rooms0_gi N (by omega), rooms0_gi N (by omega)]
  have := hc i hi
  unfold room0
  rw [if_pos (by omega), if_neg (by omega), show 2 * i / 2 = i by omega]
  omega
theorem FlowSt.start {N : Nw} {nodes s t : Nat} (costs : Bool) (hn : NwOk N nodes s t) : FlowSt N costs nodes s t (rooms0 N) 0 0 := by
  have hfl : ∀ i, i < N.m → fl (rooms0 N) i = 0 := fun i hi => by
    unfold fl
    rw [rooms0_gi N (by omega)]
    unfold room0
    rw [if_neg (by omega)]
  have hex : ∀ v, ex N (fl (rooms0 N)) v = 0 := fun v => by
    unfold ex
    rw [sm_congr (h := fun _ => 0) (fun i hi => by rw [hfl i hi]; simp), sm_zero]
  refine ⟨rooms0_ok fun i hi => (hn.cap i hi).1, fun v _ _ _ => hex v, by rw [hex]; rfl, ?_, fun _ => 0, fun j hj hr => ?_, rfl, fun _ _ => Int.le_refl _⟩
  · unfold costOf
    rw [sm_congr (h := fun _ => 0) (fun i hi => by rw [hfl i hi]; simp), sm_zero]
  · rw [rooms0_gi N hj] at hr
    have hc := (hn.cost (j / 2) (by omega)).1
    unfold room0 at hr
    unfold cst rc
    split at hr
    · rename_i e
      rw [if_pos e]
      simp only
      split <;> omega
    · omega
/-- The network that newNet has made. -/
theorem NetB.toA {w0 w : World} {nodes s t : Nat} {nw : Nw} {rows : List (List Nat)} {vs : List Value} {av : Value} (h : NetB w0 w nodes s t nw rows (2 * nw.m) vs av) :
    ∃ R, NetA w (RowB w0.heap.size vs) (w0.heap.size + 1) w0.heap.size R av nodes s t 0 0 nw rows (rooms0 nw) ∧ (∀ k, RowB w0.heap.size vs k → w0.heap.size ≤ k) ∧ (0 < nw.m → w0.heap.size ≤ R) := by
  have hlen : (rooms0 nw).length = 2 * nw.m := by simp [rooms0]
  have hfl : ∀ k, RowB w0.heap.size vs k → k < w.heap.size := fun k hk => (h.rowLt hk).2
  have hlo : ∀ k, RowB w0.heap.size vs k → w0.heap.size ≤ k := fun k hk => (h.rowLt hk).1
  by_cases hm : 0 < nw.m
  · have ho := h.own
    rcases ho.2 with ⟨_, h0⟩ | ⟨g, cap, cur, hv, hb, hg, hnc, hmx, hsz, htk⟩
    · exact absurd h0 (by omega)
    · have hob : av.ownBlock = some g := by rw [hv]; rfl
      obtain ⟨n1, n2, n3⟩ := h.noA hob
      refine ⟨g, ⟨h.blk, h.nrs.readS, fun _ => ⟨⟨cur, hg, fun j hj => ?_⟩, hlen⟩, .inr ⟨cap, hv⟩, hfl, h.noP, n1, by omega, hlen, h.rl⟩, hlo, fun _ => by omega⟩
      have key : ∀ i, i < 3 → cur[3 * j + i]? = [Value.int .i64 (rto nw j : Nat), .int .i64 (room0 nw j), .int .i64 (rc nw j)][i]? := fun i hi => by
        have e := arcv_get nw (room0 nw) (2 * nw.m) j i hj hi
        rw [← htk, List.getElem?_take, if_pos (by omega), Array.getElem?_toList] at e
        exact e
      refine ⟨key 0 (by omega), ?_, key 2 (by omega)⟩
      rw [key 1 (by omega), rooms0_gi nw hj]
      rfl
  · obtain ⟨A, c, rfl⟩ := own_shape h.own
    have hm0 : nw.m = 0 := by omega
    rcases h.own.2 with ⟨h1, _⟩ | ⟨g, cap, cur, hv, hb, hg, _⟩
    · injection h1 with h1 h2 h3
      refine ⟨w.heap.size, ⟨h.blk, h.nrs.readS, fun hm' => absurd hm' hm, .inl ⟨hm0, c, by rw [h1, hm0]⟩, hfl, h.noP, fun hk => Nat.lt_irrefl _ (hfl _ hk), by have := h.plt; omega, hlen, h.rl⟩, hlo, fun hm' => absurd hm' hm⟩
    · have hob : (Value.slice A (2 * nw.m) c).ownBlock = Option.some g := by rw [hv]; rfl
      obtain ⟨n1, n2, n3⟩ := h.noA hob
      exact ⟨g, ⟨h.blk, h.nrs.readS, fun hm' => absurd hm' hm, .inr ⟨cap, hv⟩, hfl, h.noP, n1, by omega, hlen, h.rl⟩, hlo, fun hm' => absurd hm' hm⟩
end Go.Proofs.YtppjpledjhinbaaDoor
/- Matchings: a queue of numbers, of the call's own: 'q = q[1:]', 'q = append(q, x)'. -/
namespace Go.Proofs.YtppjpledjhinbaaDoor
open Go.RowKit
/-- The slice value v owns the numbers T, from some place of its row on. -/
def OwnQ (w : World) (base : Nat) (v : Value) (T : List Nat) : Prop :=
  (v = .slice none 0 0 ∧ T = []) ∨
  ∃ g off cap cur, v = .slice (some ⟨g, off, none⟩) T.length cap ∧ base ≤ g ∧ w.heap[g]? = some (.cells cur 3 (0, 0)) ∧ T.length ≤ cap ∧ cap ≤ maxLen ∧ off + cap ≤ cur.size ∧ (cur.toList.drop off).take T.length = natv T
section
variable {w w' : World} {base : Nat} {v : Value} {T : List Nat}
theorem OwnQ.nil : OwnQ w base (.slice none 0 0) [] := .inl ⟨rfl, rfl⟩
theorem OwnQ.lt (h : OwnQ w base v T) : ∀ k, v.ownBlock = some k → base ≤ k ∧ k < w.heap.size := by
  intro k hk
  rcases h with ⟨rfl, _⟩ | ⟨g, off, cap, cur, rfl, hb, hg, _⟩
  · simp [Value.ownBlock] at hk
  · simp [Value.ownBlock] at hk
    subst hk
    exact ⟨hb, (Array.getElem?_eq_some_iff.1 hg).1⟩
theorem OwnQ.upd {S : Nat → Prop} (h : OwnQ w base v T) (hu : Upd S w w') (hs : ∀ k, v.ownBlock = some k → ¬ S k) : OwnQ w' base v T := by
  rcases h with hn | ⟨g, off, cap, cur, rfl, hb, hg, rest⟩
  · exact .inl hn
  · exact .inr ⟨g, off, cap, cur, rfl, hb, (hu.block g (Array.getElem?_eq_some_iff.1 hg).1 (hs g rfl)).trans hg, rest⟩
theorem OwnQ.shape (h : OwnQ w base v T) : ∃ A c, v = .slice A T.length c := by
  rcases h with ⟨rfl, rfl⟩ | ⟨g, off, cap, cur, rfl, _⟩
  · exact ⟨_, _, rfl⟩
  · exact ⟨_, _, rfl⟩
theorem OwnQ.holds {g off n c : Nat} (h : OwnQ w base (.slice (some ⟨g, off, none⟩) n c) T) : ∀ j u, (natv T)[j]? = some u → w.cell? ⟨g, off + j, none⟩ = some u := by
  rcases h with ⟨hv, _⟩ | ⟨g', off', cap, cur, hv, hb, hg, h1, h2, h3, h4⟩
  · cases hv
  · injection hv with e1 e2 e3
    injection e1 with e1
    injection e1 with e1 e4
    subst e1; subst e4
    intro j u hu
    have hlt : j < (natv T).length := (List.getElem?_eq_some_iff.1 hu).1
    rw [cell_of_row w g (off + j) cur _ _ hg]
    rw [← h4, List.getElem?_take, if_pos (by rw [natv_length] at hlt; exact hlt), List.getElem?_drop] at hu
    simpa using hu
/-- The first one, and what is left. -/
theorem OwnQ.head {A : Option Addr} {n c a : Nat} (h : OwnQ w base (.slice A n c) (a :: T)) :
    ∃ g off, A = some ⟨g, off, none⟩ ∧ n = T.length + 1 ∧ 1 ≤ c ∧ w.cell? ⟨g, off, none⟩ = some (.int .i64 (a : Int)) ∧ base ≤ g ∧ g < w.heap.size ∧
      (c = 1 → OwnQ w base (.slice (some ⟨g, off, none⟩) T.length 0) T) ∧ OwnQ w base (.slice (some ⟨g, off + 1, none⟩) T.length (c - 1)) T := by
  have h0 := h
  rcases h with ⟨_, hv⟩ | ⟨g, off, cap, cur, hv, hb, hg, h1, h2, h3, h4⟩
  · cases hv
  · injection hv with e1 e2 e3
    subst e1; subst e2; subst e3
    have hc := h0.holds 0 (.int .i64 (a : Int)) (by simp [natv])
    simp only [List.length_cons] at h1
    refine ⟨g, off, rfl, by simp, by omega, hc, hb, (Array.getElem?_eq_some_iff.1 hg).1, fun e => ?_, ?_⟩
    · subst e
      have hT : T = [] := List.eq_nil_of_length_eq_zero (by omega)
      subst hT
      exact .inr ⟨g, off, 0, cur, rfl, hb, hg, Nat.le_refl _, Nat.zero_le _, by omega, by simp [natv]⟩
    · refine .inr ⟨g, off + 1, c - 1, cur, rfl, hb, hg, by omega, by omega, by omega, ?_⟩
      rw [← List.drop_drop]
      have e : (cur.toList.drop off).take (T.length + 1) = natv (a :: T) := h4
      have e2 := congrArg (List.drop 1) e
      rw [List.drop_take] at e2
      simpa [natv] using e2
end
theorem piece_set {l : List Value} {off n : Nat} (v : Value) (h : off + n < l.length) : ((l.set (off + n) v).drop off).take (n + 1) = (l.drop off).take n ++ [v] := by
  apply List.ext_getElem?
  intro j
  rw [List.getElem?_take, List.getElem?_drop, List.getElem?_set, List.getElem?_append, List.length_take, List.length_drop, List.getElem?_take, List.getElem?_drop]
  have hm : min n (l.length - off) = n := by omega
  rw [hm]
  by_cases h1 : j < n
  · rw [if_pos (by omega), if_neg (by omega), if_pos h1, if_pos h1]
  · rw [if_neg h1]
    by_cases h2 : j = n
    · subst h2
      rw [if_pos (by omega), if_pos rfl, if_pos h, Nat.sub_self]
      rfl
    · rw [if_neg (by omega), List.getElem?_eq_none (by simp; omega)]
/-- 'append(q, b)' runs. -/
theorem pushQ_run (W : World) (v : Value) (T : List Nat) (b base : Nat) (h : OwnQ W base v T) (hbase : base ≤ W.heap.size) (hl : T.length + 1 ≤ 1048576) :
    ∃ v' w', (Builtin.append_ #[61, 61] 61 #[v, .slice (some ⟨W.heap.size, 0, none⟩) 1 1]).run Tryd.prog (W.alloc (.cells #[.int .i64 (b : Int)] 3)) = .ok v' w' ∧
      OwnQ w' base v' (T ++ [b]) ∧ Upd (fun k => v.ownBlock = some k) W w' := by
  obtain ⟨i0, hi0, hz0, hz1, hz2⟩ := info_parts int_info
  have hnew : ∀ j u, [Value.int .i64 (b : Int)][j]? = some u → (W.alloc (.cells #[.int .i64 (b : Int)] 3)).cell? ((⟨W.heap.size, 0, none⟩ : Addr).add j) = some u := fun j u hu => by
    rw [add_zero_off, cell_of_row _ W.heap.size j _ _ (0, 0) (heap_alloc_new W _)]
    simpa using hu
  have h1c : ∀ u ∈ [Value.int .i64 (b : Int)], u.oneCell' = true := by intro u hu; simp only [List.mem_singleton] at hu; subst hu; rfl
  have hlen : (T ++ [b]).length = T.length + 1 := by simp
  rcases h with ⟨rfl, rfl⟩ | ⟨g, off, cap, cur, rfl, hb, hg, h1, h2, h3, h4⟩
  · obtain ⟨v', w', hrun, h2, h3, _, _⟩ := run_append_own_at (P := Tryd.prog) (W.alloc (.cells #[.int .i64 (b : Int)] 3)) base 61 61 3 i0 (.int .i64 0) 1 8 Tryd.underlying61 hi0 hz0 hz1 hz2 rfl (by omega) (.slice none 0 0) 0 [] (World.ownsRow_nil _ _ _ _) ⟨W.heap.size, 0, none⟩ 1 1 [.int .i64 (b : Int)] rfl
      hnew h1c (by unfold maxLen; omega) (by omega) (by simp; omega)
    refine ⟨v', w', hrun, ?_, Upd.of_grown (grown_pre h3)⟩
    rcases h2.2 with ⟨_, h⟩ | ⟨g, cap, cur, rfl, a1, a2, a3, a4, a5, a6⟩
    · omega
    · exact .inr ⟨g, 0, cap, cur, rfl, a1, a2, a3, a4, by omega, by simpa [natv] using a6⟩
  · have hgl : g < W.heap.size := (Array.getElem?_eq_some_iff.1 hg).1
    have hg' : (W.alloc (.cells #[.int .i64 (b : Int)] 3)).heap[g]? = some (.cells cur 3 (0, 0)) := (Below.heap_alloc W _ g hgl).trans hg
    have hold : OwnQ W base (.slice (some ⟨g, off, none⟩) T.length cap) T := .inr ⟨g, off, cap, cur, rfl, hb, hg, h1, h2, h3, h4⟩
    have htl : cur.toList.length = cur.size := Array.length_toList
    by_cases hroom : T.length + 1 ≤ cap
    · have hr := run_append_room_cells (P := Tryd.prog) (W.alloc (.cells #[.int .i64 (b : Int)] 3)) 61 61 3 i0 Tryd.underlying61 hi0 g off T.length cap ⟨W.heap.size, 0, none⟩ 1 1 [.int .i64 (b : Int)] (by rw [hz1]; rfl) hnew h1c hroom
        (fun j hj => by
          obtain rfl : j = 0 := by simpa using hj
          rw [hz1, Nat.mul_one, Nat.add_zero, cell_of_row _ g _ _ _ _ hg', Array.getElem?_eq_getElem (by omega)]
          rfl)
        (fun j _ => frozen_of_row _ g _ _ _ hg')
      rw [hz1, Nat.mul_one] at hr
      have hset : ((W.alloc (.cells #[.int .i64 (b : Int)] 3)).setCells g (off + T.length) [.int .i64 (b : Int)]).heap[g]? = some (.cells (cur.setIfInBounds (off + T.length) (.int .i64 (b : Int))) 3 (0, 0)) := heap_setCell_same _ g (off + T.length) _ _ _ hg'
      have hu : Upd (fun k => k = g) W ((W.alloc (.cells #[.int .i64 (b : Int)] 3)).setCells g (off + T.length) [.int .i64 (b : Int)]) :=
        ((Upd.refl (fun k => k = g) W).alloc _).setCell ⟨g, off + T.length, none⟩ rfl _
      refine ⟨_, _, hr, .inr ⟨g, off, cap, _, by rw [hlen], hb, hset, by rw [hlen]; exact hroom, h2, by rw [Array.size_setIfInBounds]; exact h3, ?_⟩, hu.mono fun k _ e => by rw [e]; rfl⟩
      rw [hlen, Array.toList_setIfInBounds, piece_set _ (by omega), h4, natv_append]
      rfl
    · have hr := run_append_grow (P := Tryd.prog) (W.alloc (.cells #[.int .i64 (b : Int)] 3)) 61 61 3 i0 (.int .i64 0) Tryd.underlying61 hi0 hz0 ⟨g, off, none⟩ T.length cap (natv T) (by rw [hz1, natv_length, Nat.mul_one])
        (fun j u hu => by
          rw [add_flat, (Upd.cell (S := fun _ => False) ((Upd.refl _ W).alloc _) hgl (fun h => h))]
          exact hold.holds j u hu) ⟨W.heap.size, 0, none⟩ 1 1 [.int .i64 (b : Int)] (by rw [hz1]; rfl) hnew (by omega) (by omega) (by rw [hz2]; exact growslice_fits (by omega) (by omega))
      have hge := grownCap_ge (W.alloc (.cells #[.int .i64 (b : Int)] 3)) (T.length + 1) cap 3
      have hcm2 : grownCap (W.alloc (.cells #[.int .i64 (b : Int)] 3)) (T.length + 1) cap 3 ≤ maxLen := grownCap_le_maxLen _ (T.length + 1) cap 3 (by unfold maxLen; omega)
      refine ⟨_, _, hr, .inr ⟨(W.alloc (.cells #[.int .i64 (b : Int)] 3)).heap.size, 0, _, _, by rw [hlen], by simp; omega, heap_alloc_new (W.alloc _).drew _, by rw [hlen]; exact hge, hcm2, ?_, ?_⟩, ⟨rfl, rfl, rfl, by simp; omega, fun k hk _ => by
        rw [heap_alloc_old (W.alloc _).drew _ (by simp; omega)]
        exact Below.heap_alloc W _ k hk⟩⟩
      · have hz1' : (Value.int IntKind.i64 0).cells.size = 1 := rfl
        simp only [Array.size_append, List.size_toArray, size_zeroCells, hz1', natv_length, List.length_cons, List.length_nil]
        omega
      · simp only [Array.toList_append, List.append_assoc, List.drop_zero]
        rw [← List.append_assoc, hlen, natv_append]
        have e3 : (natv T ++ [Value.int .i64 (b : Int)]).length = T.length + 1 := by rw [List.length_append, natv_length]; rfl
        rw [← e3]
        exact List.take_left
/-- 'append(q, b)', b in the newest block. -/
theorem wpList_pushQ {ops : Array Oper} {rest : List Oper} {o : Oper} {a : Act} {Q : Exit → Act → World → Prop} {W : World} (hgd : o.guard = none) (s x : Operand)
    (ho : o.op = .call { callee := .builtin .append, args := #[s, x], argTypes := #[61, 61] }) (hty : o.type = 61)
    (v : Value) (T : List Nat) (b base : Nat) (hs : a.eval s = v) (hown : OwnQ W base v T) (hx : a.eval x = .slice (some ⟨W.heap.size, 0, none⟩) 1 1) (hbase : base ≤ W.heap.size) (hl : T.length + 1 ≤ 1048576)
    (h : ∀ v' w', OwnQ w' base v' (T ++ [b]) → Upd (fun k => v.ownBlock = some k) W w' → wpList Tryd.prog ops Q rest (a.put o.dst v') w') : wpList Tryd.prog ops Q (o :: rest) a (W.alloc (.cells #[.int .i64 (b : Int)] 3)) := by
  refine wpList_plain hgd fun K hK => ?_
  obtain ⟨v', w', hr, h2, h3⟩ := pushQ_run W v T b base hown hbase hl
  rw [← hty] at hr
  unfold Oper.wp execOp
  rw [hty] at hr
  simp only [ho, hty, resolve, invoke, builtin, Sem.run_bind, Sem.run_pure, Result.andThen_ok, List.map_toArray, List.map_cons, List.map_nil, hs, hx, hr]
  exact hK _ _ (h v' w' h2 h3)
end Go.Proofs.YtppjpledjhinbaaDoor
/- Flows: the search, step by step, in plain words. -/
namespace Go.Proofs.YtppjpledjhinbaaDoor
section
variable {N : Nw} {costs : Bool} {room : List Int} {s nodes : Nat} {π : Nat → Int} {st : WSt}
theorem WInv.weak {done done' : Nat → Nat → Prop} (h : WInv N costs room s nodes π done st) (hd : ∀ u i, done' u i → done u i) : WInv N costs room s nodes π done' st :=
  ⟨h.lb, h.ld, h.lw, h.ds, h.bs, h.pot, h.unm, h.par, h.pth, h.wa01, h.wat, h.tn, h.nd, h.up, fun u j hu hm hut hdn => h.clo u j hu hm hut (hd u j hdn)⟩
theorem way_pop (h : WInv N costs room s nodes π (fun _ _ => True) st) {v : Nat} {T : List Nat} (hT : st.todo = v :: T) :
    v < nodes ∧ gi st.di v < FAR ∧ v ∉ T ∧ WInv N costs room s nodes π (fun u _ => u ≠ v) ⟨st.by_, st.di, st.wa.set v 0, T⟩ := by
  obtain ⟨hv, hmv⟩ := h.tn v (by rw [hT]; simp)
  have hnd := h.nd
  rw [hT] at hnd
  obtain ⟨n1, n2⟩ := List.nodup_cons.1 hnd
  have wv : ∀ x, gi (st.wa.set v 0) x = if x = v then 0 else gi st.wa x := fun x => gi_set (by rw [h.lw]; exact hv) _ _
  refine ⟨hv, hmv, n1, h.lb, h.ld, by show (st.wa.set v 0).length = nodes; rw [List.length_set]; exact h.lw, h.ds, h.bs, h.pot, h.unm, h.par, h.pth, fun x hx => ?_, fun x hx => ?_, fun x hx => h.tn x (by rw [hT]; exact List.mem_cons_of_mem _ hx), n2, h.up, fun u i hu hmu hut hne => h.clo u i hu hmu (by rw [hT]; simp only [List.mem_cons, not_or]; exact ⟨hne, hut⟩) trivial⟩
  · show gi (st.wa.set v 0) x = 0 ∨ gi (st.wa.set v 0) x = 1
    rw [wv]
    split
    · exact .inl rfl
    · exact h.wa01 x hx
  · intro hxs
    show gi (st.wa.set v 0) x = 1 ↔ x ∈ T
    rw [wv]
    by_cases e : x = v
    · rw [if_pos e, e]
      exact ⟨fun h => by omega, fun h => absurd h n1⟩
    · rw [if_neg e]
      refine (h.wat x hx hxs).trans ?_
      rw [hT, List.mem_cons]
      exact ⟨fun h => h.resolve_left e, .inr⟩
theorem WInv.count {done : Nat → Nat → Prop} (h : WInv N costs room s nodes π done st) : st.todo.length ≤ nodes := by
  have := nodup_sub_len (b := List.range nodes) h.nd fun x hx => by simpa using (h.tn x hx).1
  rwa [List.length_range] at this
/-- Numbers laid one by one. -/
def repC (c : Int) (k n : Nat) : List Int := List.replicate k c ++ List.replicate (n - k) 0
theorem repC_len {c : Int} {k n : Nat} (h : k ≤ n) : (repC c k n).length = n := by simp [repC]; omega
theorem repC_zero (c : Int) (n : Nat) : repC c 0 n = List.replicate n 0 := by simp [repC]
theorem repC_full (c : Int) (n : Nat) : repC c n n = List.replicate n c := by simp [repC]
theorem repC_set {c : Int} {k n : Nat} (h : k < n) : (repC c k n).set k c = repC c (k + 1) n := by
  unfold repC
  apply List.ext_getElem
  · simp; omega
  · intro i h1 h2
    rw [List.getElem_set]
    simp only [List.getElem_append, List.length_replicate, List.getElem_replicate]
    split
    · subst_vars
      simp
    · rename_i hne
      by_cases e : i < k
      · rw [dif_pos e, dif_pos (by omega)]
      · rw [dif_neg e, dif_neg (by omega)]
end
end Go.Proofs.YtppjpledjhinbaaDoor
