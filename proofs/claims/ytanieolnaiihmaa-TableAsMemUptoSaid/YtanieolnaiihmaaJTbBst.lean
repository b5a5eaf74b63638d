/- Tables: what Build has so far, in memory. -/
import Derived.Test.YtanieolnaiihmaaTbCh
import Derived.Test.YtanieolnaiihmaaJTbP
import Derived.Test.YtanieolnaiihmaaBkWrite
namespace Go.Proofs.Ytanieolnaiihmaa
open Go.RowKit
theorem keeps_upd {B : Nat} {S : Nat → Prop} {W W' : World} (hu : Upd S W W') (hs : ∀ k, S k → k < W.heap.size → ∃ cs t f, W.heap[k]? = some (.cells cs t f)) : KeepsFrom B W W' :=
  ⟨hu.size, fun k o _ hk ho => by
    refine (hu.block k (Array.getElem?_eq_some_iff.1 hk).1 fun h => ?_).trans hk
    obtain ⟨cs, t, f, e⟩ := hs k h (Array.getElem?_eq_some_iff.1 hk).1
    rw [hk] at e
    injection e with e
    subst e
    cases ho⟩
theorem own_cells {w : World} {base size n : Nat} {e : TypeId} {v : Value} {xs : List Value} (h : w.ownsRow base e size v n xs) {g : Nat} (hg : v.ownBlock = some g) : ∃ cs, w.heap[g]? = some (.cells cs e (0, 0)) := by
  rcases h.2 with ⟨h1, _⟩ | ⟨g', cap, cur, h1, _, h2, _⟩
  · rw [h1] at hg; cases hg
  · rw [h1] at hg
    simp [Value.ownBlock] at hg
    subst hg
    exact ⟨_, h2⟩
theorem box_at {S : Nat → Prop} {w w' : World} {h : Nat} {o : Obj} (hb : w.heap[h]? = some o) (hu : Upd S w w') (hs : ¬ S h) : w'.heap[h]? = some o :=
  (hu.block h (Array.getElem?_eq_some_iff.1 hb).1 hs).trans hb
/-- 'append(out, x)' in a round. -/
theorem wpListIn_push {F : Fence} {n : Nat} {P : Program} {w : World} {ops : Array Oper} {rest : List Oper} {o : Oper} {a : Act} {Q : Exit → Act → World → Prop} (hgd : o.guard = none) (s x : Operand) (t : TypeId)
    (ho : o.op = .call { callee := .builtin .append, args := #[s, x], argTypes := #[t, t] })
    (base : Nat) (e : TypeId) (i : TypeInfo) (z : Value) (size bytes : Nat) (ht : P.underlying t = some (.slice e)) (hi : P.info? e = some i) (hz : i.zero = some z)
    (hsize : i.size = size) (hby : i.bytes = bytes) (hzs : z.cells.size = size) (hsz : 0 < size)
    (v : Value) (k : Nat) (xs : List Value) (cs : Array Value) (hs : a.eval s = v) (hown : w.ownsRow base e size v k xs) (hx : a.eval x = .slice (some ⟨w.heap.size, 0, none⟩) 1 1) (hcs : cs.size = size) (h1 : ∀ u ∈ cs.toList, u.oneCell' = true)
    (hbytes : (k + 1) * bytes ≤ 140737488355328) (h63 : k + 1 ≤ maxLen) (hbase : base ≤ w.heap.size)
    (h : ∀ v' w', w'.ownsRow base e size v' (k + 1) (xs ++ cs.toList) → Upd (fun q => v.ownBlock = some q) w w' → RowAt w v v' → wpListIn F n P ops Q rest (a.put o.dst v') w') : wpListIn F n P ops Q (o :: rest) a (w.alloc (.cells cs e)) := by
  refine wpListIn_plain hgd fun K hK' => ?_
  obtain ⟨v', w', hrun, h2, h3, _, h5⟩ := run_append_own_at (P := P) (w.alloc (.cells cs e)) base t o.type e i z size bytes ht hi hz hsize hby hzs hsz v k xs (hown.alloc _) ⟨w.heap.size, 0, none⟩ 1 1 cs.toList (by simpa using hcs)
    (fun j u hu => by
      rw [add_zero_off, cell_of_row _ w.heap.size j cs e (0, 0) (heap_alloc_new w _)]
      simpa using hu) h1 h63 hbytes (by simp; omega)
  have r3 : RowAt w v v' := by
    rcases h5 with h5 | h5
    · exact .inl h5
    · exact .inr ⟨_, by simp, h5⟩
  unfold Oper.wpIn
  refine ⟨?_, ?_⟩
  · simp [Oper.about, ho, resolve, Target.leads, Sem.run_pure]
  · rw [Oper.semAt_plain F _ _ (by rw [ho]; intro c hc'; cases hc')]
    simp [execOp, ho, resolve, invoke, builtin, hs, hx, hrun, Result.andThen]
    exact hK' _ _ (h v' w' h2 (Upd.of_grown (grown_pre h3)) r3)
/-- A part of versions. -/
theorem rd_part {w : World} {B n g off : Nat} {l : List Ent} (h : Rd w B 4 (some ⟨g, off, none⟩) n (entv l)) (k : Nat) : Rd w B 4 (some ⟨g, off + 8 * k * 4, none⟩) (partE l k).length (entv (partE l k)) := by
  obtain rfl := rd_entlen h
  refine ⟨entv_length _, fun h0 => ?_⟩
  rw [partE_len] at h0
  obtain ⟨ad, e, hb, hc⟩ := h.at_ (by omega)
  injection e with e
  subst e
  refine ⟨_, rfl, hb, fun i u hi => ?_⟩
  have hsp : entv l = entv (l.take (8 * k)) ++ (entv (partE l k) ++ entv ((l.drop (8 * k)).drop 8)) := by
    rw [← entv_append, ← entv_append]
    congr 1
    unfold partE
    rw [List.take_append_drop, List.take_append_drop]
  have htl : (entv (l.take (8 * k))).length = 8 * k * 4 := by rw [entv_length, List.length_take]; omega
  have hil : i < (entv (partE l k)).length := (List.getElem?_eq_some_iff.1 hi).1
  have := hc (8 * k * 4 + i) u (by
    rw [hsp, List.getElem?_append_right (by omega), htl, Nat.add_sub_cancel_left, List.getElem?_append_left hil]
    exact hi)
  rw [add_flat] at this ⊢
  rwa [Nat.add_assoc]
theorem okE_part {S : Nat} {l : List Ent} (h : okE S l) (k : Nat) : okE S (partE l k) :=
  ⟨fun x hx => h.1 x (partE_mem hx), Nat.le_trans (Nat.mul_le_mul_right _ (by rw [partE_len]; omega)) h.2⟩
/-- What Build has so far: the index, the payloads, the place; H: where the iterator's boxes lie. -/
structure BSt (w0 W : World) (H gi gf X6 X8 X9 : Nat) (vi vp : Value) (ib : List UInt8) (ps : List ByteArray) (a : Nat) : Prop where
  box6 : W.heap[X6]? = some (.cells #[.pointer (some ⟨gi, 0, none⟩)] 85 (0, 0))
  box8 : W.heap[X8]? = some (.cells #[vp] 22 (0, 0))
  box9 : W.heap[X9]? = some (.cells #[.int .i64 (a : Int)] 3 (0, 0))
  idx : Wr W w0.heap.size gi vi ib
  foot : Wr W w0.heap.size gf (.slice none 0 0) []
  pay : W.ownsRow w0.heap.size 9 1 vp ps.length (strv ps)
  bel : Below w0.heap.size w0 W
  ne : gi ≠ gf
  lo : w0.heap.size ≤ gi ∧ w0.heap.size ≤ gf ∧ w0.heap.size ≤ X6 ∧ w0.heap.size ≤ X8 ∧ w0.heap.size ≤ X9
  hi : gi < H ∧ gf < H ∧ X6 < H ∧ X8 < H ∧ X9 < H
  farI : ∀ k, vi.ownBlock = some k → k < H ∨ H + 2 ≤ k
  farP : ∀ k, vp.ownBlock = some k → k < H ∨ H + 2 ≤ k
/-- What a step of a round keeps. -/
def StepK (H : Nat) (W W' : World) : Prop := KeepsFrom (H + 2) W W' ∧ KeepC H W W'
theorem StepK.trans {H : Nat} {A B C : World} (h : StepK H A B) (h2 : StepK H B C) : StepK H A C := ⟨h.1.trans h2.1, h.2.trans h2.2⟩
theorem StepK.below {H : Nat} {A B : World} (h : Below A.heap.size A B) : StepK H A B :=
  ⟨keeps_upd (S := fun _ => False) (Upd.of_below h) (fun _ h _ => h.elim), KeepC.upd (S := fun _ => False) (Upd.of_below h) (fun _ _ _ h => h)⟩
section
variable {w0 W W' : World} {H gi gf X6 X8 X9 : Nat} {vi vp : Value} {ib : List UInt8} {ps : List ByteArray} {a : Nat}
theorem BSt.nvi (h : BSt w0 W H gi gf X6 X8 X9 vi vp ib ps a) : vi.ownBlock ≠ some X6 ∧ vi.ownBlock ≠ some X8 ∧ vi.ownBlock ≠ some X9 ∧ vi.ownBlock ≠ some gi ∧ vi.ownBlock ≠ some gf ∧ ∀ k, vi.ownBlock = some k → vp.ownBlock ≠ some k := by
  have key : ∀ (b : Nat) (cs : Array Value) (t : TypeId) (f : Nat × Nat), W.heap[b]? = some (.cells cs t f) → t ≠ 5 → vi.ownBlock ≠ some b := fun b cs t f hb ht e => by
    obtain ⟨cs', h2⟩ := own_cells h.idx.own e
    exact cells_ne hb h2 ht rfl
  refine ⟨key _ _ _ _ h.box6 (by decide), key _ _ _ _ h.box8 (by decide), key _ _ _ _ h.box9 (by decide), key _ _ _ _ h.idx.blk (by decide), key _ _ _ _ h.foot.blk (by decide), fun k e1 e2 => ?_⟩
  obtain ⟨cs', h2⟩ := own_cells h.pay e2
  exact key _ _ _ _ h2 (by decide) e1
theorem BSt.nvp (h : BSt w0 W H gi gf X6 X8 X9 vi vp ib ps a) : vp.ownBlock ≠ some X6 ∧ vp.ownBlock ≠ some X8 ∧ vp.ownBlock ≠ some X9 ∧ vp.ownBlock ≠ some gi ∧ vp.ownBlock ≠ some gf := by
  have key : ∀ (b : Nat) (cs : Array Value) (t : TypeId) (f : Nat × Nat), W.heap[b]? = some (.cells cs t f) → t ≠ 9 → vp.ownBlock ≠ some b := fun b cs t f hb ht e => by
    obtain ⟨cs', h2⟩ := own_cells h.pay e
    exact cells_ne hb h2 ht rfl
  exact ⟨key _ _ _ _ h.box6 (by decide), key _ _ _ _ h.box8 (by decide), key _ _ _ _ h.box9 (by decide), key _ _ _ _ h.idx.blk (by decide), key _ _ _ _ h.foot.blk (by decide)⟩
theorem BSt.nbox (h : BSt w0 W H gi gf X6 X8 X9 vi vp ib ps a) : X6 ≠ X8 ∧ X6 ≠ X9 ∧ X8 ≠ X9 ∧ gi ≠ X6 ∧ gi ≠ X8 ∧ gi ≠ X9 ∧ gf ≠ X6 ∧ gf ≠ X8 ∧ gf ≠ X9 :=
  ⟨cells_ne h.box6 h.box8 (by decide), cells_ne h.box6 h.box9 (by decide), cells_ne h.box8 h.box9 (by decide), cells_ne h.idx.blk h.box6 (by decide), cells_ne h.idx.blk h.box8 (by decide), cells_ne h.idx.blk h.box9 (by decide), cells_ne h.foot.blk h.box6 (by decide), cells_ne h.foot.blk h.box8 (by decide), cells_ne h.foot.blk h.box9 (by decide)⟩
theorem BSt.upd {S : Nat → Prop} (h : BSt w0 W H gi gf X6 X8 X9 vi vp ib ps a) (hu : Upd S W W') (h6 : ¬ S X6) (h8 : ¬ S X8) (h9 : ¬ S X9) (hi : ¬ S gi) (hf : ¬ S gf) (hvi : ∀ k, vi.ownBlock = some k → ¬ S k) (hvp : ∀ k, vp.ownBlock = some k → ¬ S k) (hlo : ∀ k, k < w0.heap.size → ¬ S k) : BSt w0 W' H gi gf X6 X8 X9 vi vp ib ps a :=
  ⟨box_at h.box6 hu h6, box_at h.box8 hu h8, box_at h.box9 hu h9, h.idx.upd hu (fun k hk => by rcases hk with rfl | hk; exact hi; exact hvi k hk), h.foot.upd hu (fun k hk => by rcases hk with rfl | hk; exact hf; cases hk),
    own_upd h.pay hu hvp, h.bel.trans (hu.below (fun k hk => hlo k hk) h.bel.size), h.ne, h.lo, h.hi, h.farI, h.farP⟩
theorem BSt.below (h : BSt w0 W H gi gf X6 X8 X9 vi vp ib ps a) (hb : Below W.heap.size W W') : BSt w0 W' H gi gf X6 X8 X9 vi vp ib ps a :=
  h.upd (S := fun _ => False) (Upd.of_below hb) id id id id id (fun _ _ h => h) (fun _ _ h => h) (fun _ _ h => h)
/-- A turn of a block that is no cells' own. -/
theorem BSt.grown {B : Nat} {row : Option Nat} (h : BSt w0 W H gi gf X6 X8 X9 vi vp ib ps a) (hB : w0.heap.size ≤ B) (hg : W.grownBy W' row) (hr : ∀ q, row = some q → B ≤ q ∧ ∃ o : Obj, W.heap[q]? = some o ∧ o.isCells = false) : BSt w0 W' H gi gf X6 X8 X9 vi vp ib ps a := by
  have nc : ∀ (k : Nat) (cs : Array Value) (t : TypeId) (f : Nat × Nat), W.heap[k]? = some (.cells cs t f) → ¬ row = some k := fun k cs t f hk e => by
    obtain ⟨_, o, ho, hc⟩ := hr k e
    rw [hk] at ho
    injection ho with ho
    subst ho
    cases hc
  exact h.upd (S := fun k => row = some k) (Upd.of_grown hg) (nc _ _ _ _ h.box6) (nc _ _ _ _ h.box8) (nc _ _ _ _ h.box9) (nc _ _ _ _ h.idx.blk) (nc _ _ _ _ h.foot.blk) (fun k e => by obtain ⟨cs, h2⟩ := own_cells h.idx.own e; exact nc _ _ _ _ h2) (fun k e => by obtain ⟨cs, h2⟩ := own_cells h.pay e; exact nc _ _ _ _ h2) (fun k hk e => by have := (hr k e).1; omega)
/-- More of the index. -/
theorem BSt.index {vi' : Value} {ib' : List UInt8} (h : BSt w0 W H gi gf X6 X8 X9 vi vp ib ps a) (hw : Wr W' w0.heap.size gi vi' ib') (hat : RowAt W vi vi') (hu : Upd (WrS gi vi) W W') (hH : H + 2 ≤ W.heap.size) :
    BSt w0 W' H gi gf X6 X8 X9 vi' vp ib' ps a ∧ StepK H W W' := by
  obtain ⟨n1, n2, n3, n4, n5, n6⟩ := h.nvi
  obtain ⟨b1, b2, b3, b4, b5, b6, b7, b8, b9⟩ := h.nbox
  have no : ∀ k, gi ≠ k → vi.ownBlock ≠ some k → ¬ WrS gi vi k := fun k h1 h2 h3 => by rcases h3 with h3 | h3; exact h1 h3.symm; exact h2 h3
  have hlo : ∀ k, k < w0.heap.size → ¬ WrS gi vi k := fun k hk e => by
    rcases e with e | e
    · have := h.lo.1; omega
    · have := (h.idx.own.lt k e).1; omega
  refine ⟨⟨box_at h.box6 hu (no _ b4 n1), box_at h.box8 hu (no _ b5 n2), box_at h.box9 hu (no _ b6 n3), hw, h.foot.upd hu (fun k hk => ?_), own_upd h.pay hu (fun k e1 => no _ (fun e2 => h.nvp.2.2.2.1 (e2 ▸ e1)) (fun e2 => n6 k e2 e1)), h.bel.trans (hu.below hlo h.bel.size), h.ne, h.lo, h.hi, fun k e => ?_, h.farP⟩,
    keeps_upd hu (fun k e _ => ?_), KeepC.upd hu (fun k k1 k2 e => ?_)⟩
  · rcases hk with rfl | hk
    · exact no _ h.ne n5
    · cases hk
  · rcases hat with h1 | ⟨q, hq, h1⟩
    · exact h.farI k (h1 ▸ e)
    · rw [e] at h1; injection h1 with h1; right; omega
  · rcases e with rfl | e
    · exact ⟨_, _, _, h.idx.blk⟩
    · obtain ⟨cs, h2⟩ := own_cells h.idx.own e
      exact ⟨_, _, _, h2⟩
  · rcases e with e | e
    · have := h.hi.1; omega
    · have := h.farI k e; omega
/-- More payloads: the row, then its box. -/
theorem BSt.payload {vp' : Value} {ps' : List ByteArray} (h : BSt w0 W H gi gf X6 X8 X9 vi vp ib ps a) (ho : W'.ownsRow w0.heap.size 9 1 vp' ps'.length (strv ps')) (hat : RowAt W vp vp') (hu : Upd (fun k => vp.ownBlock = some k) W W') (hH : H + 2 ≤ W.heap.size) :
    BSt w0 (W'.setCell ⟨X8, 0, none⟩ vp') H gi gf X6 X8 X9 vi vp' ib ps' a ∧ StepK H W (W'.setCell ⟨X8, 0, none⟩ vp') ∧ (∃ u, W'.cell? ⟨X8, 0, none⟩ = some u) ∧ W'.frozen? ⟨X8, 0, none⟩ = false := by
  obtain ⟨p1, p2, p3, p4, p5⟩ := h.nvp
  obtain ⟨b1, b2, b3, b4, b5, b6, b7, b8, b9⟩ := h.nbox
  have hs1 : Upd (fun k => k = X8) W' (W'.setCell ⟨X8, 0, none⟩ vp') := (Upd.refl (fun k => k = X8) W').setCell ⟨X8, 0, none⟩ rfl vp'
  have hs : Upd (fun k => vp.ownBlock = some k ∨ k = X8) W (W'.setCell ⟨X8, 0, none⟩ vp') := (hu.mono (fun k _ e => .inl e)).trans hs1 (fun k _ e => .inr e)
  have x8 := box_at h.box8 hu p2
  have no : ∀ k, X8 ≠ k → vp.ownBlock ≠ some k → ¬ (vp.ownBlock = some k ∨ k = X8) := fun k h1 h2 h3 => by rcases h3 with h3 | h3; exact h2 h3; exact h1 h3.symm
  have hlo : ∀ k, k < w0.heap.size → ¬ (vp.ownBlock = some k ∨ k = X8) := fun k hk e => by
    rcases e with e | e
    · have := (h.pay.lt k e).1; omega
    · have := h.lo.2.2.2.1; omega
  refine ⟨⟨box_at h.box6 hs (no _ b1.symm p1), ?_, box_at h.box9 hs (no _ b3 p3), h.idx.upd hs (fun k hk => ?_), h.foot.upd hs (fun k hk => ?_), own_upd ho hs1 (fun k e1 e2 => ?_), h.bel.trans (hs.below hlo h.bel.size), h.ne, h.lo, h.hi, h.farI, fun k e => ?_⟩,
    ⟨keeps_upd hs (fun k e _ => ?_), KeepC.upd hs (fun k k1 k2 e => ?_)⟩, ⟨_, by rw [cell_of_row _ _ 0 _ _ _ x8]; rfl⟩, frozen_of_row _ _ _ _ _ x8⟩
  · rw [heap_setCell_same W' X8 0 _ _ vp' x8]; rfl
  · rcases hk with rfl | hk
    · exact no _ b5.symm p4
    · exact no _ (fun e => h.nvi.2.1 (e ▸ hk)) (h.nvi.2.2.2.2.2 k hk)
  · rcases hk with rfl | hk
    · exact no _ b8.symm p5
    · cases hk
  · subst e2
    obtain ⟨cs, h2⟩ := own_cells ho e1
    exact cells_ne x8 h2 (by decide) rfl
  · rcases hat with h1 | ⟨q, hq, h1⟩
    · exact h.farP k (h1 ▸ e)
    · rw [e] at h1; injection h1 with h1; right; omega
  · rcases e with e | rfl
    · obtain ⟨cs, h2⟩ := own_cells h.pay e
      exact ⟨_, _, _, h2⟩
    · exact ⟨_, _, _, h.box8⟩
  · rcases e with e | e
    · have := h.farP k e; omega
    · have := h.hi.2.2.2.1; omega
/-- The next place. -/
theorem BSt.place {a' : Nat} (h : BSt w0 W H gi gf X6 X8 X9 vi vp ib ps a) : BSt w0 (W.setCell ⟨X9, 0, none⟩ (.int .i64 (a' : Int))) H gi gf X6 X8 X9 vi vp ib ps a' ∧ StepK H W (W.setCell ⟨X9, 0, none⟩ (.int .i64 (a' : Int))) := by
  obtain ⟨p1, p2, p3, p4, p5⟩ := h.nvp
  obtain ⟨n1, n2, n3, n4, n5, n6⟩ := h.nvi
  obtain ⟨b1, b2, b3, b4, b5, b6, b7, b8, b9⟩ := h.nbox
  have hs : Upd (fun k => k = X9) W (W.setCell ⟨X9, 0, none⟩ (.int .i64 (a' : Int))) := (Upd.refl (fun k => k = X9) W).setCell ⟨X9, 0, none⟩ rfl _
  refine ⟨⟨box_at h.box6 hs b2, box_at h.box8 hs b3, ?_, h.idx.upd hs (fun k hk e => ?_), h.foot.upd hs (fun k hk e => ?_), own_upd h.pay hs (fun k e1 e2 => p3 (e2 ▸ e1)), h.bel.trans (hs.below (fun k hk e => by have := h.lo.2.2.2.2; omega) h.bel.size), h.ne, h.lo, h.hi, h.farI, h.farP⟩,
    keeps_upd hs (fun k e _ => by subst e; exact ⟨_, _, _, h.box9⟩), KeepC.upd hs (fun k k1 k2 e => by have := h.hi.2.2.2.2; omega)⟩
  · rw [heap_setCell_same W X9 0 _ _ _ h.box9]; rfl
  · rcases hk with hk | hk
    · exact b6 (hk.symm.trans e)
    · exact n3 (e ▸ hk)
  · rcases hk with hk | hk
    · exact b9 (hk.symm.trans e)
    · cases hk
end
end Go.Proofs.Ytanieolnaiihmaa
