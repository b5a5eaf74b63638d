/- A row of versions that is ordered in its place. -/
import Derived.Test.YtcfgmkiohmbdlaaEnt
namespace Go.Proofs.Ytcfgmkiohmbdlaa
open Go.RowKit
theorem entv_split (l : List Ent) (k : Nat) (hk : k < l.length) : entv l = entv (l.take k) ++ l[k].cells ++ entv (l.drop (k + 1)) := by
  conv => lhs; rw [← List.take_append_drop k l, List.drop_eq_getElem_cons hk]
  rw [entv_append, entv_cons, List.append_assoc]
theorem set4 (A R : List Value) (a b c d a' b' c' d' : Value) :
    ((((A ++ [a, b, c, d] ++ R).set A.length a').set (A.length + 1) b').set (A.length + 2) c').set (A.length + 3) d' = A ++ [a', b', c', d'] ++ R := by
  simp [List.append_assoc, List.set_append]
theorem entv_set (l : List Ent) (k : Nat) (x : Ent) (hk : k < l.length) (r : List Value) :
    ((((entv l ++ r).set (k * 4) (.string x.key)).set (k * 4 + 1) (.int .i64 x.seq)).set (k * 4 + 2) (.bool x.dead)).set (k * 4 + 3) (.string x.val) = entv (l.set k x) ++ r := by
  have hl : (entv (l.take k)).length = k * 4 := by rw [entv_length, List.length_take]; omega
  have h1 := set4 (entv (l.take k)) (entv (l.drop (k + 1)) ++ r) (.string l[k].key) (.int .i64 l[k].seq) (.bool l[k].dead) (.string l[k].val) (.string x.key) (.int .i64 x.seq) (.bool x.dead) (.string x.val)
  rw [hl] at h1
  rw [entv_split l k hk, entv_split (l.set k x) k (by simpa using hk)]
  simp only [List.getElem_set_self, List.take_set_of_le (Nat.le_refl k), List.drop_set_of_lt (Nat.lt_succ_self k)]
  rw [List.append_assoc, List.append_assoc (entv (l.take k) ++ x.cells)]
  exact h1
/-- Since w0 only block g has turned, of what was there; it reads as the versions l. -/
structure ERow (w0 W : World) (g : Nat) (l : List Ent) : Prop where
  lt : g < w0.heap.size
  up : Upd (fun k => k = g) w0 W
  row : ∃ cur : Array Value, W.heap[g]? = some (.cells cur 26 (0, 0)) ∧ entv l <+: cur.toList
  sz : ∀ cur, W.heap[g]? = some (.cells cur 26 (0, 0)) → ∃ cur0, w0.heap[g]? = some (.cells cur0 26 (0, 0)) ∧ cur.size = cur0.size
section
variable {w0 W W' : World} {g : Nat} {l : List Ent}
theorem erow_sz {cur cur' : Array Value} (h : ∀ cur, W.heap[g]? = some (.cells cur 26 (0, 0)) → ∃ cur0, w0.heap[g]? = some (.cells cur0 26 (0, 0)) ∧ cur.size = cur0.size)
    (h1 : W.heap[g]? = some (.cells cur 26 (0, 0))) (h2 : W'.heap[g]? = some (.cells cur' 26 (0, 0))) (h3 : cur'.size = cur.size) :
    ∀ cur, W'.heap[g]? = some (.cells cur 26 (0, 0)) → ∃ cur0, w0.heap[g]? = some (.cells cur0 26 (0, 0)) ∧ cur.size = cur0.size := by
  intro c hc
  rw [h2] at hc
  obtain rfl : cur' = c := by simpa using hc
  obtain ⟨cur0, h4, h5⟩ := h _ h1
  exact ⟨cur0, h4, h3.trans h5⟩
theorem ERow.cells (h : ERow w0 W g l) (k : Nat) (hk : k < l.length) :
    W.cell? ⟨g, k * 4, none⟩ = some (.string l[k].key) ∧ W.cell? ⟨g, k * 4 + 1, none⟩ = some (.int .i64 l[k].seq) ∧ W.cell? ⟨g, k * 4 + 2, none⟩ = some (.bool l[k].dead) ∧ W.cell? ⟨g, k * 4 + 3, none⟩ = some (.string l[k].val) := by
  obtain ⟨cur, hrow, r, hr⟩ := h.row
  have key : ∀ j, j < 4 → W.cell? ⟨g, k * 4 + j, none⟩ = l[k].cells[j]? := fun j hj => by
    rw [cell_of_row W g (k * 4 + j) _ _ _ hrow, ← Array.getElem?_toList, ← hr, List.getElem?_append_left (by rw [entv_length]; omega), show k * 4 + j = 4 * k + j by omega]
    exact entv_get l k j hk hj
  exact ⟨key 0 (by omega), key 1 (by omega), key 2 (by omega), key 3 (by omega)⟩
theorem ERow.free (h : ERow w0 W g l) (i : Nat) : W.frozen? ⟨g, i, none⟩ = false := by
  obtain ⟨cur, hrow, _⟩ := h.row
  exact frozen_of_row W g i _ _ hrow
theorem ERow.put (h : ERow w0 W g l) (k : Nat) (hk : k < l.length) (x : Ent) :
    ERow w0 ((((W.setCell ⟨g, k * 4, none⟩ (.string x.key)).setCell ⟨g, k * 4 + 1, none⟩ (.int .i64 x.seq)).setCell ⟨g, k * 4 + 2, none⟩ (.bool x.dead)).setCell ⟨g, k * 4 + 3, none⟩ (.string x.val)) g (l.set k x) := by
  obtain ⟨cur, hrow, r, hr⟩ := h.row
  have r1 := heap_setCell_same W g (k * 4) _ _ (.string x.key) hrow
  have r2 := heap_setCell_same _ g (k * 4 + 1) _ _ (.int .i64 x.seq) r1
  have r3 := heap_setCell_same _ g (k * 4 + 2) _ _ (.bool x.dead) r2
  have r4 := heap_setCell_same _ g (k * 4 + 3) _ _ (.string x.val) r3
  refine ⟨h.lt, (((h.up.setCell ⟨g, k * 4, none⟩ rfl _).setCell ⟨g, k * 4 + 1, none⟩ rfl _).setCell ⟨g, k * 4 + 2, none⟩ rfl _).setCell ⟨g, k * 4 + 3, none⟩ rfl _, ⟨_, r4, r, ?_⟩, erow_sz h.sz hrow r4 (by simp)⟩
  have := entv_set l k x hk r
  simp only [Array.toList_setIfInBounds, ← hr]
  exact this.symm
theorem ERow.below (h : ERow w0 W g l) (hb : Below W.heap.size W W') : ERow w0 W' g l := by
  obtain ⟨cur, hrow, hr⟩ := h.row
  exact ⟨h.lt, h.up.trans (Upd.of_below (S := fun _ => False) hb) (fun _ _ h => h.elim), ⟨cur, (hb.block g (Array.getElem?_eq_some_iff.1 hrow).1).trans hrow, hr⟩, erow_sz h.sz hrow ((hb.block g (Array.getElem?_eq_some_iff.1 hrow).1).trans hrow) rfl⟩
theorem ERow.drew (h : ERow w0 W g l) : ERow w0 W.drew g l := ⟨h.lt, ⟨h.up.os, h.up.tape, h.up.output, h.up.size, h.up.block⟩, h.row, h.sz⟩
theorem ERow.drewN (h : ERow w0 W g l) (n : Nat) : ERow w0 (W.drewN n) g l := ⟨h.lt, h.up.drewN n, h.row, h.sz⟩
theorem ERow.alloc (h : ERow w0 W g l) (o : Obj) : ERow w0 (W.alloc o) g l := h.below ((Below.refl _ _).alloc (Nat.le_refl _) _)
theorem ERow.size (h : ERow w0 W g l) : w0.heap.size ≤ W.heap.size := h.up.size
theorem ERow.blk (h : ERow w0 W g l) : g < W.heap.size := Nat.lt_of_lt_of_le h.lt h.size
/-- A row of the call's own, as it is ordered in its place. -/
theorem ERow.of_own {base n c : Nat} (h : W.ownsRow base 26 4 (.slice (some ⟨g, 0, none⟩) n c) n (entv l)) : ERow W W g l := by
  rcases h.2 with ⟨h0, _⟩ | ⟨g', cap, cur, hv, _, hg, _, _, _, hp⟩
  · cases h0
  · injection hv with hv _ _
    obtain rfl : g = g' := by simpa using hv
    refine ⟨(Array.getElem?_eq_some_iff.1 hg).1, Upd.refl _ _, ⟨cur, hg, ?_⟩, fun c hc => ⟨c, hc, rfl⟩⟩
    rw [← hp]; exact List.take_prefix _ _
/-- .. and back. -/
theorem ERow.own {base n c m : Nat} {l0 : List Ent} (h : ERow w0 W g l) (h0 : w0.ownsRow base 26 4 (.slice (some ⟨g, 0, none⟩) n c) n (entv l0)) (hm : m = l.length) (hc : m ≤ c) :
    W.ownsRow base 26 4 (.slice (some ⟨g, 0, none⟩) m c) m (entv l) := by
  obtain ⟨cur, hrow, hp⟩ := h.row
  obtain ⟨cur0, h1, h2⟩ := h.sz cur hrow
  rcases h0.2 with ⟨h3, _⟩ | ⟨g', cap, cur', hv, hb, hg, _, hcm, hs, _⟩
  · cases h3
  · injection hv with hv _ hcc
    obtain rfl : g = g' := by simpa using hv
    subst hcc
    rw [hg] at h1
    obtain rfl : cur' = cur0 := by simpa using h1
    refine ⟨by rw [entv_length, hm], .inr ⟨g, c, cur, rfl, hb, hrow, hc, hcm, h2.trans hs, ?_⟩⟩
    rw [hm, ← entv_length]
    exact (List.prefix_iff_eq_take.1 hp).symm
/-- Four cells laid at a step of the row. -/
abbrev put4 (W : World) (g k : Nat) (x : Ent) : World :=
  (((W.setCell ⟨g, k * 4, none⟩ (.string x.key)).setCell ⟨g, k * 4 + 1, none⟩ (.int .i64 x.seq)).setCell ⟨g, k * 4 + 2, none⟩ (.bool x.dead)).setCell ⟨g, k * 4 + 3, none⟩ (.string x.val)
/-- Two versions exchanged. -/
theorem ERow.swap {P M Q : List Ent} {x y : Ent} {i j : Nat} (h : ERow w0 W g (P ++ x :: (M ++ y :: Q))) (hi : i = P.length) (hj : j = P.length + 1 + M.length) :
    ERow w0 (put4 (put4 W g i y) g j x) g (P ++ y :: (M ++ x :: Q)) := by
  subst hi; subst hj
  have h1 := h.put P.length (by simp) y
  rw [List.set_append_right _ _ (Nat.le_refl _), Nat.sub_self, List.set_cons_zero] at h1
  have h2 := h1.put (P.length + 1 + M.length) (by simp; omega) x
  rw [List.set_append_right _ _ (by omega), show P.length + 1 + M.length - P.length = M.length + 1 by omega, List.set_cons_succ, List.set_append_right _ _ (Nat.le_refl _), Nat.sub_self, List.set_cons_zero] at h2
  exact h2
theorem ERow.look (h : ERow w0 W g l) {k : Nat} {x : Ent} (hk : l[k]? = some x) :
    W.cell? ⟨g, k * 4, none⟩ = some (.string x.key) ∧ W.cell? ⟨g, k * 4 + 1, none⟩ = some (.int .i64 x.seq) ∧ W.cell? ⟨g, k * 4 + 2, none⟩ = some (.bool x.dead) ∧ W.cell? ⟨g, k * 4 + 3, none⟩ = some (.string x.val) := by
  obtain ⟨hl, rfl⟩ := List.getElem?_eq_some_iff.1 hk
  exact h.cells k hl
theorem look_U {A U V C : List Ent} {t : Nat} (h1 : A.length ≤ t) (h2 : t - A.length < U.length) : (A ++ U ++ V ++ C)[t]? = some U[t - A.length] := by
  rw [List.append_assoc, List.append_assoc, List.getElem?_append_right h1, List.getElem?_append_left h2, List.getElem?_eq_getElem h2]
theorem look_V {A U V C : List Ent} {t : Nat} (h1 : A.length + U.length ≤ t) (h2 : t - (A.length + U.length) < V.length) : (A ++ U ++ V ++ C)[t]? = some V[t - (A.length + U.length)] := by
  rw [List.append_assoc (A ++ U), List.getElem?_append_right (by rw [List.length_append]; exact h1), List.length_append, List.getElem?_append_left h2, List.getElem?_eq_getElem h2]
theorem ERow.at_ {P Q : List Ent} {x : Ent} (h : ERow w0 W g (P ++ x :: Q)) {i : Nat} (hi : i = P.length) :
    W.cell? ⟨g, i * 4, none⟩ = some (.string x.key) ∧ W.cell? ⟨g, i * 4 + 1, none⟩ = some (.int .i64 x.seq) ∧ W.cell? ⟨g, i * 4 + 2, none⟩ = some (.bool x.dead) ∧ W.cell? ⟨g, i * 4 + 3, none⟩ = some (.string x.val) := by
  subst hi
  have := h.cells P.length (by simp)
  simpa using this
end
end Go.Proofs.Ytcfgmkiohmbdlaa
