/- Matchings: the pairing in memory; grow, walked. -/
import Derived.Test.YtkhboengcbgooaaMtNew
namespace Go.Proofs.Ytkhboengcbgooaa
open Go.RowKit
/-- The rows of neighbours, to be read. -/
structure NearR (w : World) (B N : Nat) (rows : List (List Nat)) : Prop where
  lt : N < B
  row : ∀ (a : Nat) (l : List Nat), rows[a]? = some l → ∃ A c, w.cell? ⟨N, a, none⟩ = some (.slice A l.length c) ∧ ∀ (k : Nat) (h : k < l.length), ∃ g, A = some ⟨g, 0, none⟩ ∧ g < B ∧ w.cell? ⟨g, k, none⟩ = some (.int .i64 (l[k] : Int))
theorem NearR.keep {w w' : World} {B N : Nat} {rows : List (List Nat)} (h : NearR w B N rows) (hk : ∀ p : Addr, p.block < B → w'.cell? p = w.cell? p) : NearR w' B N rows :=
  ⟨h.lt, fun a l hl => by
    obtain ⟨A, c, h1, h2⟩ := h.row a l hl
    exact ⟨A, c, (hk _ h.lt).trans h1, fun k hkl => by
      obtain ⟨g, e, hg, h3⟩ := h2 k hkl
      exact ⟨g, e, hg, (hk _ hg).trans h3⟩⟩⟩
theorem Nears.read {w : World} {N : Nat} {rows : List (List Nat)} {vs : List Value} (h : Nears w N rows vs) : NearR w w.heap.size N rows :=
  ⟨h.lt, fun a l hl => by
    have ha : a < vs.length := by rw [h.len]; exact (List.getElem?_eq_some_iff.1 hl).1
    have ho := h.own a vs[a] l (List.getElem?_eq_getElem ha) hl
    have hc := h.cell ha
    obtain ⟨A, c, hv⟩ := own_shape ho
    rw [hv] at hc ho
    refine ⟨A, c, hc, fun k hk => ?_⟩
    obtain ⟨g, cap, e, _, hg, _⟩ := own_form ho (by omega)
    injection e with e _ _
    subst e
    have h1 := ho.cells (g := g) rfl k _ (natv_get l k hk)
    rw [add_zero_off] at h1
    exact ⟨g, rfl, hg, h1⟩⟩
/-- A pairing in memory: block P, over the graph G, whose rows are N's; O and W: the B of each A, the A of each B. -/
structure PairA (w : World) (B P G N O W : Nat) (dv : Value) (n m : Nat) (rows : List (List Nat)) (of wi : List Int) : Prop where
  blk : w.heap[P]? = some (.cells #[.pointer (some ⟨G, 0, none⟩), .slice (some ⟨O, 0, none⟩) n n, .slice (some ⟨W, 0, none⟩) m m, dv] 50 (0, 0))
  g : GBlk w G N n m
  nr : NearR w B N rows
  iof : Ints w O of
  iwi : Ints w W wi
  gB : G < B
  pB : B ≤ P
  oB : B ≤ O
  wB : B ≤ W
  ow : O ≠ W
  po : P ≠ O
  pw : P ≠ W
  lo : of.length = n
  lw : wi.length = m
  lr : rows.length = n
  nb : ∀ a b, b ∈ nearOf rows a → b < m
  wb : ∀ b, 0 ≤ gi wi b → gi wi b < n
/-- The levels in memory. -/
structure PairD (w : World) (B P O W D n : Nat) (di : List Int) : Prop where
  idi : Ints w D di
  dB : B ≤ D
  dp : D ≠ P
  do_ : D ≠ O
  dw : D ≠ W
  ld : di.length = n
  db : ∀ x, -2 ≤ gi di x ∧ gi di x ≤ 1000
section
variable {w w' : World} {B P G N O W D n m : Nat} {dv : Value} {rows : List (List Nat)} {of wi di : List Int} {S : Nat → Prop}
theorem PairA.plt (h : PairA w B P G N O W dv n m rows of wi) : P < w.heap.size := (Array.getElem?_eq_some_iff.1 h.blk).1
theorem PairA.c0 (h : PairA w B P G N O W dv n m rows of wi) : w.cell? ⟨P, 0, none⟩ = some (.pointer (some ⟨G, 0, none⟩)) := by rw [cell_of_row w P 0 _ _ _ h.blk]; rfl
theorem PairA.c1 (h : PairA w B P G N O W dv n m rows of wi) : w.cell? ⟨P, 1, none⟩ = some (.slice (some ⟨O, 0, none⟩) n n) := by rw [cell_of_row w P 1 _ _ _ h.blk]; rfl
theorem PairA.c2 (h : PairA w B P G N O W dv n m rows of wi) : w.cell? ⟨P, 2, none⟩ = some (.slice (some ⟨W, 0, none⟩) m m) := by rw [cell_of_row w P 2 _ _ _ h.blk]; rfl
theorem PairA.c3 (h : PairA w B P G N O W dv n m rows of wi) : w.cell? ⟨P, 3, none⟩ = some dv := by rw [cell_of_row w P 3 _ _ _ h.blk]; rfl
theorem PairA.free (h : PairA w B P G N O W dv n m rows of wi) (i : Nat) : w.frozen? ⟨P, i, none⟩ = false := frozen_of_row w P i _ _ h.blk
theorem PairA.Blt (h : PairA w B P G N O W dv n m rows of wi) : B ≤ w.heap.size := by have := h.plt; have := h.pB; omega
theorem PairA.row (h : PairA w B P G N O W dv n m rows of wi) {a : Nat} (ha : a < n) : rows[a]? = some (nearOf rows a) := by
  have : a < rows.length := by rw [h.lr]; exact ha
  unfold nearOf
  rw [List.getD_eq_getElem?_getD, List.getElem?_eq_getElem this]
  rfl
theorem PairA.upd (h : PairA w B P G N O W dv n m rows of wi) (hu : Upd S w w') (h0 : ∀ k, k < B → ¬ S k) (hP : ¬ S P) (hO : ¬ S O) (hW : ¬ S W) : PairA w' B P G N O W dv n m rows of wi :=
  ⟨(hu.block P h.plt hP).trans h.blk, h.g.upd hu (h0 G h.gB), h.nr.keep fun p hp => hu.cell (Nat.lt_of_lt_of_le hp h.Blt) (h0 _ hp), h.iof.upd hu hO, h.iwi.upd hu hW, h.gB, h.pB, h.oB, h.wB, h.ow, h.po, h.pw, h.lo, h.lw, h.lr, h.nb, h.wb⟩
theorem PairD.upd (h : PairD w B P O W D n di) (hu : Upd S w w') (hD : ¬ S D) : PairD w' B P O W D n di := ⟨h.idi.upd hu hD, h.dB, h.dp, h.do_, h.dw, h.ld, h.db⟩
theorem PairA.drew (h : PairA w B P G N O W dv n m rows of wi) : PairA w.drew B P G N O W dv n m rows of wi :=
  h.upd (S := fun _ => False) ⟨rfl, rfl, rfl, Nat.le_refl _, fun _ _ _ => rfl⟩ (fun _ _ h => h) (fun h => h) (fun h => h) (fun h => h)
theorem PairA.drewN (h : PairA w B P G N O W dv n m rows of wi) (k : Nat) : PairA (w.drewN k) B P G N O W dv n m rows of wi :=
  h.upd ((Upd.refl (fun _ => False) w).drewN k) (fun _ _ h => h) (fun h => h) (fun h => h) (fun h => h)
theorem PairD.drewN (h : PairD w B P O W D n di) (k : Nat) : PairD (w.drewN k) B P O W D n di := h.upd ((Upd.refl (fun _ => False) w).drewN k) (fun h => h)
theorem PairD.drew (h : PairD w B P O W D n di) : PairD w.drew B P O W D n di := h.drewN 1
theorem PairA.setOf (h : PairA w B P G N O W dv n m rows of wi) (a : Nat) (v : Int) : PairA (w.setCell ⟨O, a, none⟩ (.int .i64 v)) B P G N O W dv n m rows (of.set a v) wi := by
  have hu : Upd (fun k => k = O) w (w.setCell ⟨O, a, none⟩ (.int .i64 v)) := (Upd.refl (fun k => k = O) w).setCell ⟨O, a, none⟩ rfl _
  exact ⟨(hu.block P h.plt h.po).trans h.blk, h.g.upd hu (by have := h.gB; have := h.oB; omega), h.nr.keep fun p hp => hu.cell (Nat.lt_of_lt_of_le hp h.Blt) (by have := h.oB; omega), h.iof.set a v, h.iwi.upd hu (fun e => h.ow e.symm), h.gB, h.pB, h.oB, h.wB, h.ow, h.po, h.pw, by rw [List.length_set]; exact h.lo, h.lw, h.lr, h.nb, h.wb⟩
theorem PairA.setWi (h : PairA w B P G N O W dv n m rows of wi) (b a : Nat) (hb : b < m) (ha : a < n) : PairA (w.setCell ⟨W, b, none⟩ (.int .i64 (a : Int))) B P G N O W dv n m rows of (wi.set b (a : Int)) := by
  have hu : Upd (fun k => k = W) w (w.setCell ⟨W, b, none⟩ (.int .i64 (a : Int))) := (Upd.refl (fun k => k = W) w).setCell ⟨W, b, none⟩ rfl _
  refine ⟨(hu.block P h.plt h.pw).trans h.blk, h.g.upd hu (by have := h.gB; have := h.wB; omega), h.nr.keep fun p hp => hu.cell (Nat.lt_of_lt_of_le hp h.Blt) (by have := h.wB; omega), h.iof.upd hu h.ow, h.iwi.set b _, h.gB, h.pB, h.oB, h.wB, h.ow, h.po, h.pw, h.lo, by rw [List.length_set]; exact h.lw, h.lr, h.nb, fun c hc => ?_⟩
  rw [gi_set (by rw [h.lw]; exact hb)] at hc ⊢
  split
  · omega
  · rename_i e
    rw [if_neg e] at hc
    exact h.wb c hc
theorem PairD.set (h : PairD w B P O W D n di) (a : Nat) (v : Int) (ha : a < n) (hv : -2 ≤ v ∧ v ≤ 1000) : PairD (w.setCell ⟨D, a, none⟩ (.int .i64 v)) B P O W D n (di.set a v) :=
  ⟨h.idi.set a v, h.dB, h.dp, h.do_, h.dw, by rw [List.length_set]; exact h.ld, fun x => by
    rw [gi_set (by rw [h.ld]; exact ha)]
    split
    · exact hv
    · exact h.db x⟩
end
/-- Row a's place k. -/
theorem PairA.near {w : World} {B P G N O W : Nat} {dv : Value} {n m : Nat} {rows : List (List Nat)} {of wi : List Int} (h : PairA w B P G N O W dv n m rows of wi) {a : Nat} (ha : a < n) :
    ∃ A c, w.cell? ⟨N, a, none⟩ = some (.slice A (nearOf rows a).length c) ∧ ∀ (k : Nat) (hk : k < (nearOf rows a).length), ∃ g, A = some ⟨g, 0, none⟩ ∧ g < B ∧ w.cell? ⟨g, k, none⟩ = some (.int .i64 ((nearOf rows a)[k] : Int)) :=
  h.nr.row a _ (h.row ha)
end Go.Proofs.Ytkhboengcbgooaa
