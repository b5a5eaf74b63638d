/- Tables: what Build has behind its loop. -/
import Derived.Test.YtanieolnaiihmaaJTbBst
import Derived.Test.YtanieolnaiihmaaJRgMarks
namespace Go.Proofs.Ytanieolnaiihmaa
open Go.RowKit
/-- The index, the foot, the payloads. -/
structure ESt (w0 W : World) (D gi gf X6 X8 : Nat) (vi vf vp : Value) (ib fb : List UInt8) (ps : List ByteArray) : Prop where
  box6 : W.heap[X6]? = some (.cells #[.pointer (some ⟨gi, 0, none⟩)] 85 (0, 0))
  box8 : W.heap[X8]? = some (.cells #[vp] 22 (0, 0))
  idx : Wr W w0.heap.size gi vi ib
  foot : Wr W w0.heap.size gf vf fb
  pay : W.ownsRow w0.heap.size 9 1 vp ps.length (strv ps)
  bel : Below w0.heap.size w0 W
  lo : w0.heap.size ≤ X8
  mkD : W.heap[D]? = some (.deferred (some []))
  loD : w0.heap.size ≤ D
theorem BSt.toFoot {w0 W W' : World} {H gi gf X6 X8 X9 : Nat} {vi vp vf : Value} {ib fb : List UInt8} {ps : List ByteArray} {a D : Nat} (hD : W.heap[D]? = some (.deferred (some []))) (hDl : w0.heap.size ≤ D) (h : BSt w0 W H gi gf X6 X8 X9 vi vp ib ps a) (hw : Wr W' w0.heap.size gf vf fb) (hu : Upd (WrS gf (.slice none 0 0)) W W') :
    ESt w0 W' D gi gf X6 X8 vi vf vp ib fb ps := by
  obtain ⟨b1, b2, b3, b4, b5, b6, b7, b8, b9⟩ := h.nbox
  have no : ∀ k, gf ≠ k → ¬ WrS gf (.slice none 0 0) k := fun k h1 h2 => by
    rcases h2 with h2 | h2
    · exact h1 h2.symm
    · cases h2
  refine ⟨box_at h.box6 hu (no _ b7), box_at h.box8 hu (no _ b8), h.idx.upd hu (fun k hk => ?_), hw, own_upd h.pay hu (fun k e => no _ fun e2 => h.nvp.2.2.2.2 (e2 ▸ e)), h.bel.trans (hu.below (fun k hk => no _ (by have := h.lo.2.1; omega)) h.bel.size), h.lo.2.2.2.1, ?_, hDl⟩
  · rcases hk with rfl | hk
    · exact no _ (fun e => h.ne e.symm)
    · exact no _ fun e => h.nvi.2.2.2.2.1 (e ▸ hk)
  · exact box_at hD hu (no _ fun e => by have := h.foot.blk; rw [e, hD] at this; cases this)
section
variable {w0 W W' : World} {D gi gf X6 X8 : Nat} {vi vf vp : Value} {ib fb : List UInt8} {ps : List ByteArray}
theorem ESt.upd {S : Nat → Prop} (h : ESt w0 W D gi gf X6 X8 vi vf vp ib fb ps) (hu : Upd S W W') (hD : ¬ S D) (h6 : ¬ S X6) (h8 : ¬ S X8) (hi : ∀ k, WrS gi vi k → ¬ S k) (hf : ∀ k, WrS gf vf k → ¬ S k) (hvp : ∀ k, vp.ownBlock = some k → ¬ S k) (hlo : ∀ k, k < w0.heap.size → ¬ S k) : ESt w0 W' D gi gf X6 X8 vi vf vp ib fb ps :=
  ⟨box_at h.box6 hu h6, box_at h.box8 hu h8, h.idx.upd hu hi, h.foot.upd hu hf, own_upd h.pay hu hvp, h.bel.trans (hu.below (fun k hk => hlo k hk) h.bel.size), h.lo, box_at h.mkD hu hD, h.loD⟩
theorem ESt.below (h : ESt w0 W D gi gf X6 X8 vi vf vp ib fb ps) (hb : Below W.heap.size W W') : ESt w0 W' D gi gf X6 X8 vi vf vp ib fb ps :=
  h.upd (S := fun _ => False) (Upd.of_below hb) id id id (fun _ _ h => h) (fun _ _ h => h) (fun _ _ h => h) (fun _ _ h => h)
/-- The row of payloads appended to, not stored yet. -/
theorem ESt.grown {vp' : Value} {ps' : List ByteArray} (h : ESt w0 W D gi gf X6 X8 vi vf vp ib fb ps) (ho : W'.ownsRow w0.heap.size 9 1 vp' ps'.length (strv ps')) (hu : Upd (fun k => vp.ownBlock = some k) W W') :
    (W'.cell? ⟨X6, 0, none⟩ = some (.pointer (some ⟨gi, 0, none⟩)) ∧ Wr W' w0.heap.size gi vi ib ∧ Wr W' w0.heap.size gf vf fb) ∧ ESt w0 (W'.setCell ⟨X8, 0, none⟩ vp') D gi gf X6 X8 vi vf vp' ib fb ps' ∧ W'.cell? ⟨X8, 0, none⟩ = some vp ∧ W'.frozen? ⟨X8, 0, none⟩ = false := by
  have keyp : ∀ (b : Nat) (cs : Array Value) (t : TypeId) (f : Nat × Nat), W.heap[b]? = some (.cells cs t f) → t ≠ 9 → vp.ownBlock ≠ some b := fun b cs t f hb ht e => by
    obtain ⟨cs', h2⟩ := own_cells h.pay e
    exact cells_ne hb h2 ht rfl
  have p6 := keyp _ _ _ _ h.box6 (by decide)
  have p8 := keyp _ _ _ _ h.box8 (by decide)
  have pi := keyp _ _ _ _ h.idx.blk (by decide)
  have pf := keyp _ _ _ _ h.foot.blk (by decide)
  have wi : ∀ k, WrS gi vi k → vp.ownBlock ≠ some k := fun k hk => by
    rcases hk with rfl | hk
    · exact pi
    · obtain ⟨cs, h2⟩ := own_cells h.idx.own hk
      exact keyp _ _ _ _ h2 (by decide)
  have wf : ∀ k, WrS gf vf k → vp.ownBlock ≠ some k := fun k hk => by
    rcases hk with rfl | hk
    · exact pf
    · obtain ⟨cs, h2⟩ := own_cells h.foot.own hk
      exact keyp _ _ _ _ h2 (by decide)
  have key8 : ∀ (b : Nat) (cs : Array Value) (t : TypeId) (f : Nat × Nat), W.heap[b]? = some (.cells cs t f) → t ≠ 22 → b ≠ X8 := fun b cs t f hb ht e => cells_ne hb h.box8 ht e
  have i8 : ∀ k, WrS gi vi k → k ≠ X8 := fun k hk => by
    rcases hk with rfl | hk
    · exact key8 _ _ _ _ h.idx.blk (by decide)
    · obtain ⟨cs, h2⟩ := own_cells h.idx.own hk
      exact key8 _ _ _ _ h2 (by decide)
  have f8 : ∀ k, WrS gf vf k → k ≠ X8 := fun k hk => by
    rcases hk with rfl | hk
    · exact key8 _ _ _ _ h.foot.blk (by decide)
    · obtain ⟨cs, h2⟩ := own_cells h.foot.own hk
      exact key8 _ _ _ _ h2 (by decide)
  have b68 : X6 ≠ X8 := key8 _ _ _ _ h.box6 (by decide)
  have hs1 : Upd (fun k => k = X8) W' (W'.setCell ⟨X8, 0, none⟩ vp') := (Upd.refl (fun k => k = X8) W').setCell ⟨X8, 0, none⟩ rfl vp'
  have x6 := box_at h.box6 hu p6
  have x8 := box_at h.box8 hu p8
  have xD := box_at h.mkD hu (fun e => by
    obtain ⟨cs', h2⟩ := own_cells h.pay e
    have := h.mkD
    rw [h2] at this
    cases this)
  have hi := h.idx.upd hu wi
  have hf := h.foot.upd hu wf
  have hb : Below w0.heap.size w0 W' := h.bel.trans (hu.below (fun k hk e => by have := (h.pay.lt k e).1; omega) h.bel.size)
  refine ⟨⟨by rw [cell_of_row _ _ 0 _ _ _ x6]; rfl, hi, hf⟩, ⟨box_at x6 hs1 b68, ?_, hi.upd hs1 i8, hf.upd hs1 f8, own_upd ho hs1 (fun k e1 e2 => ?_), hb.trans (hs1.below (fun k hk e => by have := h.lo; omega) hb.size), h.lo, box_at xD hs1 (fun e => by rw [e, x8] at xD; cases xD), h.loD⟩, by rw [cell_of_row _ _ 0 _ _ _ x8]; rfl, frozen_of_row _ _ _ _ _ x8⟩
  · rw [heap_setCell_same W' X8 0 _ _ vp' x8]; rfl
  · subst e2
    obtain ⟨cs, h2⟩ := own_cells ho e1
    exact cells_ne x8 h2 (by decide) rfl
end
end Go.Proofs.Ytanieolnaiihmaa
