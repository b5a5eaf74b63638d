/- Seekers of riders: their own blocks; how often a seat was named (a map). -/
import Derived.Test.YtppjpledjhinbaaDoorJRsArcs
import Derived.Test.YtppjpledjhinbaaDoorJRb1
namespace Go.Proofs.YtppjpledjhinbaaDoor
open Go.RowKit Go.Lib
open Go.Maps (Keyed)
def ownOf (L : List MSpot) (B : List MSit) (x : MSit) : Int := if (findS L x.seat).isSome = true ∧ takenN B x.seat = 0 ∧ oneE x.who (spotAt L x.seat) = 0 then (spotAt L x.seat).blk else -1
def boardK (L : List MSpot) : List MSit → List MSit → List MSkr
  | _, [] => []
  | B, x :: t => ⟨x, false, false, -1, ownOf L B x⟩ :: boardK L (B ++ [x]) t
theorem boardK_snoc (L : List MSpot) : ∀ (l B : List MSit) (x : MSit), boardK L B (l ++ [x]) = boardK L B l ++ [⟨x, false, false, -1, ownOf L (B ++ l) x⟩] := by
  intro l
  induction l with
  | nil => intro B x; simp [boardK]
  | cons y t ih =>
    intro B x
    rw [List.cons_append, boardK, boardK, ih, List.cons_append, List.append_assoc, List.singleton_append]
theorem boardK_len (L : List MSpot) : ∀ (l B : List MSit), (boardK L B l).length = l.length := by
  intro l
  induction l with
  | nil => intro B; rfl
  | cons y t ih => intro B; simp [boardK, ih]
def TkMapS (w : World) (b n : Nat) (B : List MSit) : Prop := ∃ s, VMap Tryd.prog 26 seatV (.int .i64 0) w b n (fun q => .int .i64 (takenN B q : Nat)) s
theorem TkMapS.upd {S : Nat → Prop} {w w' : World} {b n : Nat} {B : List MSit} (h : TkMapS w b n B) (hu : Upd S w w') (hs : ¬ S b) : TkMapS w' b n B := by
  obtain ⟨s, h⟩ := h
  exact ⟨s, h.upd hu hs⟩
theorem TkMapS.lt {w : World} {b n : Nat} {B : List MSit} (h : TkMapS w b n B) : b < w.heap.size := by
  obtain ⟨s, h⟩ := h
  exact h.lt
theorem TkMapS.not_cells {w : World} {b n : Nat} {B : List MSit} (h : TkMapS w b n B) {g : Nat} {cs : Array Value} {t : TypeId} {f : Nat × Nat} (hg : w.heap[g]? = some (.cells cs t f)) : g ≠ b := by
  rintro rfl
  obtain ⟨s, h⟩ := h
  obtain ⟨_, _, a⟩ := h.isMap
  rw [a] at hg
  cases hg
theorem TkMapS.look {w : World} {b n : Nat} {B : List MSit} (h : TkMapS w b n B) {q : MSeat} (hq : q.fits) : (Instr.lookup 84 (.map (some b)) (.agg #[.int .i64 q.num, .int .u8 (q.ltr.toNat : Int)]) false).run Tryd.prog w = .ok (.int .i64 (takenN B q : Nat)) w := by
  obtain ⟨s, h⟩ := h
  obtain ⟨kl, hk⟩ := seatKey q hq
  exact h.look seatKeyed Tryd.underlying84 (zeroI w) hk
/-- A seat is named once more. -/
theorem TkMapS.more {w : World} {b : Nat} {B : List MSit} (h : TkMapS w b B.length B) (x : MSit) (hq : x.seat.fits) (hB : B.length < 1099511627776) :
    ∃ (v0 : Value) (st : Int) (w1 w2 : World), (Instr.mapEntry 84 (.map (some b)) (.agg #[.int .i64 x.seat.num, .int .u8 (x.seat.ltr.toNat : Int)])).run Tryd.prog w = .ok (.tuple #[v0, .int .i64 st]) w1 ∧
      (Instr.entryStore 84 (.map (some b)) (.int .i64 st) (.int .i64 ((takenN B x.seat : Int) + 1))).run Tryd.prog w1 = .ok () w2 ∧ (Instr.lookup 84 (.map (some b)) (.agg #[.int .i64 x.seat.num, .int .u8 (x.seat.ltr.toNat : Int)]) false).run Tryd.prog w1 = .ok (.int .i64 (takenN B x.seat : Nat)) w1 ∧ Upd (fun i => i = b) w w2 ∧ TkMapS w2 b (B ++ [x]).length (B ++ [x]) := by
  obtain ⟨kl, hk⟩ := seatKey x.seat hq
  obtain ⟨s2, t2⟩ := h
  obtain ⟨v0, st, w1, w2, e1, e2, e3, _, u2, v2⟩ := t2.entry seatLaw seatInj Tryd.underlying84 zeroI (by unfold maxLen; omega) hk (.int .i64 ((takenN B x.seat : Int) + 1))
  refine ⟨v0, st, w1, w2, e1, e2, e3, u2, fun q => if q = x.seat then true else s2 q, ?_⟩
  have : (fun q => Value.int .i64 (takenN (B ++ [x]) q : Nat)) = fun q => if q = x.seat then Value.int .i64 ((takenN B x.seat : Int) + 1) else .int .i64 (takenN B q : Nat) := by
    funext q
    rw [takenN_snoc]
    by_cases hqx : q = x.seat
    · rw [if_pos hqx, if_pos hqx, hqx]; simp
    · rw [if_neg hqx, if_neg hqx]
  rw [this, List.length_append]
  exact v2
theorem takenN_leS (B : List MSit) (q : MSeat) : takenN B q ≤ B.length := List.countP_le_length ..
/-- What lies in memory while the board is filled. -/
structure BdSt (w0 W : World) (P M : Nat) (v u : Value) (vs : List Value) (B : List MBlk) (ks : List MSkr) (R : List MSit) : Prop where
  plane : PlaneAt W w0.heap.size P v u vs B ks
  olds : TkMapS W M R.length R
  bel : Below w0.heap.size w0 W
  lo : w0.heap.size ≤ M
theorem BdSt.below {w0 W W' : World} {P M : Nat} {v u : Value} {vs : List Value} {B : List MBlk} {ks : List MSkr} {R : List MSit} (h : BdSt w0 W P M v u vs B ks R) (hb : Below W.heap.size W W') : BdSt w0 W' P M v u vs B ks R :=
  ⟨h.plane.below hb, h.olds.upd (Upd.of_below (S := fun _ => False) hb) id, h.bel.trans (hb.mono h.bel.size), h.lo⟩
theorem PlaneAt.upd {S : Nat → Prop} {W W' : World} {base P : Nat} {v u : Value} {vs : List Value} {B : List MBlk} {ks : List MSkr} (h : PlaneAt W base P v u vs B ks) (hu : Upd S W W') (hP : ¬ S P) (hs : ∀ k cs t f, W.heap[k]? = some (.cells cs t f) → ¬ S k) : PlaneAt W' base P v u vs B ks :=
  ⟨box_keep h.box hu hP, h.lo, ⟨h.blk.len, own_upd h.blk.row hu (fun k e => by obtain ⟨cs, hc⟩ := own_typed h.blk.row e; exact hs k _ _ _ hc), fun i hi x hx => own_upd (h.blk.own i hi x hx) hu (fun k e => by obtain ⟨cs, hc⟩ := own_typed (h.blk.own i hi x hx) e; exact hs k _ _ _ hc), h.blk.apart, h.blk.off⟩, own_upd h.skr hu (fun k e => by obtain ⟨cs, hc⟩ := own_typed h.skr e; exact hs k _ _ _ hc)⟩
end Go.Proofs.YtppjpledjhinbaaDoor
