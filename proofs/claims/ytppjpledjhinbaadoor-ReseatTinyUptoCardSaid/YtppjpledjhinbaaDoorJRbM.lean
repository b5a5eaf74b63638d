/- Generic pieces for the cabin's and the seekers' walks (printed by wip/tools/gen_rb.py). -/
import Derived.Test.YtppjpledjhinbaaDoorJVMap
import Derived.Test.YtppjpledjhinbaaDoorJFtOne
import Derived.Test.YtppjpledjhinbaaDoorJCbRSp
import Derived.Test.YtppjpledjhinbaaDoorJCbSp1
import Derived.BigRegion
import Derived.BigQuiet
import Derived.DeepKeys4
import Derived.Great.BuildSlice
import Derived.Laws.ResultCell
namespace Go.Proofs.YtppjpledjhinbaaDoor
open Go.RowKit Go.Lib
open Go.Maps (Keyed)
theorem seatLaw : WideMaps.KeyLaw Tryd.prog 26 :=
  deep_law_laid (by kernel_rfl) (m := 2) (by omega) (of_decide_eq_true (by kernel_rfl)) (by kernel_rfl) (by rw [Tryd.underlying26])
theorem seatKeyed : Keyed Tryd.prog 26 := Keyed.of_law seatLaw
theorem seatKey (x : MSeat) (h : x.fits) : ∃ kl, keyOf Tryd.prog 26 (seatV x) = some kl := by
  have hc : Tryd.prog.cellsOf 26 = 2 := by kernel_rfl
  have k1 : Tryd.prog.cellsOf 3 = 1 := by kernel_rfl
  have k2 : Tryd.prog.cellsOf 5 = 1 := by kernel_rfl
  have h1 : (Lit.int .i64 x.num).wf = true := by simp [Lit.wf]; exact h
  have h2 : (Lit.int .u8 (x.ltr.toNat : Int)).wf = true := by have := x.ltr.toNat_lt; simp [Lit.wf, show IntKind.u8.min = 0 from rfl, show IntKind.u8.max = 255 from rfl]; omega
  have ht := ChangeShapes.trod_struct2_mk (H := Unit) (enc := fun _ => ()) (P := Tryd.prog) (w := default) (base := 0) (spare := fun _ => true) (held := true) (n := 1) (cs := [.int .i64 x.num, .int .u8 (x.ltr.toNat : Int)])
    (y0 := (.lit (.int .i64 x.num), [])) (y1 := (.lit (.int .u8 (x.ltr.toNat : Int)), [])) Tryd.underlying26 (by rw [hc]; rfl)
    (by simp [k1, DataW.trod, Tryd.underlying3, h1]) (by simp [k2, DataW.trod, Tryd.underlying5, h2])
  exact ⟨_, (keyOf_asKey (by kernel_rfl) (by rw [Tryd.underlying26]) (v := seatV x) (by simp [seatV, Value.formed, Tryd.underlying26, hc]) ⟨2, ht⟩).1⟩
theorem intKeyed : Keyed Tryd.prog 3 := Maps.int_keyed Tryd.underlying3
theorem intKey {x : Int} (h : -9223372036854775808 ≤ x ∧ x ≤ 9223372036854775807) : keyOf Tryd.prog 3 (.int .i64 x) = some (.int .i64 x) :=
  Maps.keyOf_int_mk Tryd.underlying3 (by simp [Lit.wf]; exact h)
theorem intKeyInj : ∀ x y : Int, Value.int .i64 x = Value.int .i64 y → x = y := fun _ _ h => by injection h
theorem zeroI (w : World) : (zeroValue 3).run Tryd.prog w = .ok (.int .i64 0) w := by kernel_rfl
theorem zeroS (w : World) : (zeroValue 105).run Tryd.prog w = .ok (spotV spotZ) w := by kernel_rfl
theorem spots_len (l : List MRow) : (spotsL l).length ≤ 66 := by
  unfold spotsL
  split
  · rename_i h
    unfold checkL at h
    simp only [Bool.and_eq_true, decide_eq_true_eq] at h
    have := spotsAll_len l 0 fun r hr => (seats_short (check_rows l 0 h.2 r hr).1).1
    omega
  · simp
theorem own_rd {w : World} {base size n : Nat} {e : TypeId} {v : Value} {xs : List Value} (h : w.ownsRow base e size v n xs) : ∃ A c, v = .slice A n c ∧ Rd w w.heap.size size A n xs := by
  rcases h.2 with ⟨h1, h2⟩ | ⟨g, cap, cur, h1, h3, h4, h5, h6, h7, h8⟩
  · subst h2
    exact ⟨none, 0, h1, by simpa using h.1, fun h => absurd h (Nat.lt_irrefl 0)⟩
  · subst h1
    exact ⟨_, cap, rfl, h.1, fun _ => ⟨_, rfl, (Array.getElem?_eq_some_iff.1 h4).1, h.cells (g := g) rfl⟩⟩
theorem bel_on2 {w W V : World} (h : Below w.heap.size w W) (h2 : Below W.heap.size W V) : Below w.heap.size w V := h.trans (h2.mono h.size)
theorem seat_info : (Tryd.prog.info? 26).map (fun i => (i.zero, i.size, i.bytes)) = some (some (.agg #[.int .i64 0, .int .u8 0]), 2, 16) := by kernel_rfl
theorem results_cell_tmp_row {P : Program} {fn : Func} {p u : Tmp} {ty : TypeId} (h : fn.results = #[.cell p ty, .tmp u]) (tmps : Array Value) (w : World) (g : Nat) (t : TypeId) (cs : Array Value) (fr : Nat × Nat) (d : TypeDesc)
    (hp : tmps.getD p undef = .pointer (some ⟨g, 0, none⟩)) (hg : w.heap[g]? = some (.cells cs t fr))
    (hu : P.underlying ty = some d) (hd : (match d with | .struct _ | .array _ _ => true | _ => false) = true) (hi : (P.info? ty).map (·.size) = some cs.size) :
    (results fn tmps).run P w = .ok (.tuple #[.agg cs, tmps.getD u undef]) w := by
  rw [results_cell_tmp h, hp]
  simp [asAddr, run_loadVar_row w g t ty cs fr d hg hu hd hi, Result.andThen]
end Go.Proofs.YtppjpledjhinbaaDoor
/- Cabins: blocks in memory. -/
namespace Go.Proofs.YtppjpledjhinbaaDoor
open Go.RowKit Go.Lib
/- (XFtLawOr has it too.) -/
theorem own_set {w : World} {base g cap n size : Nat} {e : TypeId} {xs : List Value} (h : w.ownsRow base e size (.slice (some ⟨g, 0, none⟩) n cap) n xs) (j : Nat) (hj : j < n * size) (u : Value) : (w.setCell ⟨g, j, none⟩ u).ownsRow base e size (.slice (some ⟨g, 0, none⟩) n cap) n (xs.set j u) := by
  obtain ⟨hl, h⟩ := h
  rcases h with ⟨h, _⟩ | ⟨g', cap', cur, hv, hb, hg, hn, hm, hc, hx⟩
  · injection h with h; cases h
  · injection hv with h1 h2 h3
    injection h1 with h1
    injection h1 with h1
    subst h1; subst h3
    refine ⟨by simpa using hl, .inr ⟨g, cap, _, rfl, hb, heap_setCell_same w g j _ _ u hg, hn, hm, by simpa using hc, ?_⟩⟩
    rw [← hx, Array.toList_setIfInBounds, List.take_set]
def blkC (p : MBlk × Value) : List Value := [.int .i64 p.1.cab, .int .i64 p.1.row, .bool p.1.exit, p.2]
theorem blkC_len (p : MBlk × Value) : (blkC p).length = 4 := rfl
/-- Blocks in a row of the call's own, each with its seats in a row of its own. -/
structure BlkRow (w : World) (base : Nat) (v : Value) (out : List MBlk) (vs : List Value) : Prop where
  len : vs.length = out.length
  row : w.ownsRow base 94 4 v out.length (catv blkC (out.zip vs))
  own : ∀ (i : Nat) (hi : i < out.length) (u : Value), vs[i]? = some u → w.ownsRow base 26 2 u (out[i]).seats.length (catv seatC (out[i]).seats)
  apart : ∀ (i j : Nat) (u u' : Value) (k : Nat), i ≠ j → vs[i]? = some u → vs[j]? = some u' → u.ownBlock = some k → u'.ownBlock ≠ some k
  off : ∀ (i : Nat) (u : Value) (k : Nat), vs[i]? = some u → u.ownBlock = some k → v.ownBlock ≠ some k
section
variable {w w' : World} {base : Nat} {v : Value} {out : List MBlk} {vs : List Value}
theorem BlkRow.nil (w : World) (base : Nat) : BlkRow w base (.slice none 0 0) [] [] :=
  ⟨rfl, World.ownsRow_nil _ _ _ _, fun i hi => absurd hi (by simp), fun i j u u' k _ h => by simp at h, fun i u k h => by simp at h⟩
theorem BlkRow.upd {S : Nat → Prop} (h : BlkRow w base v out vs) (hu : Upd S w w') (hs : ∀ k, base ≤ k → k < w.heap.size → ¬ S k) : BlkRow w' base v out vs :=
  ⟨h.len, own_upd h.row hu (fun k e => hs k (h.row.lt k e).1 (h.row.lt k e).2), fun i hi u hv => own_upd (h.own i hi u hv) hu (fun k e => hs k ((h.own i hi u hv).lt k e).1 ((h.own i hi u hv).lt k e).2), h.apart, h.off⟩
theorem BlkRow.below (h : BlkRow w base v out vs) (hb : Below w.heap.size w w') : BlkRow w' base v out vs := h.upd (Upd.of_below (S := fun _ => False) hb) (fun _ _ _ h => h)
theorem BlkRow.mono {b : Nat} (h : BlkRow w base v out vs) (hb : b ≤ base) : BlkRow w b v out vs :=
  ⟨h.len, own_mono h.row hb, fun i hi u hv => own_mono (h.own i hi u hv) hb, h.apart, h.off⟩
theorem BlkRow.at_ (h : BlkRow w base v out vs) {i : Nat} (hi : i < out.length) : ∃ u, vs[i]? = some u := ⟨vs[i]'(by rw [h.len]; exact hi), List.getElem?_eq_getElem _⟩
theorem zip_snoc (h : vs.length = out.length) (b : MBlk) (u : Value) : (out ++ [b]).zip (vs ++ [u]) = out.zip vs ++ [(b, u)] := by
  rw [List.zip_append h.symm]; rfl
/-- One block more. -/
theorem BlkRow.new {v' : Value} {b : MBlk} (h : BlkRow w base v out vs) (hb : b.seats = []) (ho : w'.ownsRow base 94 4 v' (out.length + 1) (catv blkC (out.zip vs) ++ [.int .i64 b.cab, .int .i64 b.row, .bool b.exit, .slice none 0 0])) (hu : Upd (fun k => v.ownBlock = some k) w w') (hat : RowAt w v v') :
    BlkRow w' base v' (out ++ [b]) (vs ++ [.slice none 0 0]) := by
  have hget : ∀ (i : Nat) (u : Value), (vs ++ [Value.slice none 0 0])[i]? = some u → (i < out.length ∧ vs[i]? = some u) ∨ (i = out.length ∧ u = .slice none 0 0) := by
    intro i u hi
    by_cases e : i < out.length
    · rw [List.getElem?_append_left (by rw [h.len]; exact e)] at hi
      exact .inl ⟨e, hi⟩
    · rw [List.getElem?_append_right (by rw [h.len]; omega)] at hi
      have hlt := (List.getElem?_eq_some_iff.1 hi).1
      simp at hlt
      have e2 : i = out.length := by rw [h.len] at hlt; omega
      subst e2
      rw [h.len, Nat.sub_self] at hi
      simp at hi
      exact .inr ⟨rfl, hi.symm⟩
  refine ⟨by simp [h.len], ?_, fun i hi u hv => ?_, fun i j u u' k hij h1 h2 h3 => ?_, fun i u k h1 h2 => ?_⟩
  · rw [zip_snoc h.len, catv_append, catv_one, List.length_append]
    exact ho
  · rcases hget i u hv with ⟨hlt, hv⟩ | ⟨rfl, rfl⟩
    · rw [List.getElem_append_left hlt]
      exact own_upd (h.own i hlt u hv) hu (fun k e e2 => h.off i u k hv e e2)
    · rw [List.getElem_append_right (Nat.le_refl _)]
      simp only [Nat.sub_self, List.getElem_cons_zero, hb]
      exact World.ownsRow_nil _ _ _ _
  · rcases hget i u h1 with ⟨_, h1⟩ | ⟨_, rfl⟩
    · rcases hget j u' h2 with ⟨_, h2⟩ | ⟨_, rfl⟩
      · exact h.apart i j u u' k hij h1 h2 h3
      · intro e; cases e
    · cases h3
  · rcases hget i u h1 with ⟨hlt, h1⟩ | ⟨_, rfl⟩
    · intro e
      exact h.off i u k h1 h2 (hat.old ((h.own i hlt u h1).lt k h2).2 e)
    · cases h2
theorem blk_set : ∀ (out : List MBlk) (vs : List Value) (b : Nat) (s : MSeat) (u : Value), vs.length = out.length → b < out.length → (catv blkC (out.zip vs)).set (b * 4 + 3) u = catv blkC ((out.modify b fun x => { x with seats := x.seats ++ [s] }).zip (vs.set b u)) := by
  intro out
  induction out with
  | nil => intro vs b s u _ h; simp at h
  | cons x t ih =>
    intro vs b s u hl hb
    cases vs with
    | nil => simp at hl
    | cons y vs =>
      cases b with
      | zero =>
        rw [List.zip_cons_cons, catv_cons, List.modify_zero_cons, List.set_cons_zero, List.zip_cons_cons, catv_cons]
        simp [blkC]
      | succ b =>
        have h4 : (blkC (x, y)).length = 4 := rfl
        rw [List.zip_cons_cons, catv_cons, List.modify_succ_cons, List.set_cons_succ, List.zip_cons_cons, catv_cons, show (b + 1) * 4 + 3 = (blkC (x, y)).length + (b * 4 + 3) by omega]
        rw [List.set_append_right _ _ (by omega), Nat.add_sub_cancel_left, ih vs b s u (by simpa using hl) (by simpa using hb)]
/-- One seat more in a block. -/
theorem BlkRow.push {g n c b : Nat} {u u' : Value} {s : MSeat} (h : BlkRow w base (.slice (some ⟨g, 0, none⟩) n c) out vs) (hn : n = out.length) (hb : b < out.length) (hv : vs[b]? = some u)
    (ho : w'.ownsRow base 26 2 u' ((out[b]).seats.length + 1) (catv seatC (out[b]).seats ++ seatC s)) (hu : Upd (fun k => u.ownBlock = some k) w w') (hat : RowAt w u u') :
    BlkRow (w'.setCell ⟨g, b * 4 + 3, none⟩ u') base (.slice (some ⟨g, 0, none⟩) n c) (out.modify b fun x => { x with seats := x.seats ++ [s] }) (vs.set b u') := by
  subst hn
  have hbv : b < vs.length := by rw [h.len]; exact hb
  have hg : u.ownBlock ≠ some g := fun e => h.off b u g hv e rfl
  have hgl := (h.row.lt g rfl).2
  have hg' : u'.ownBlock ≠ some g := fun e => hg (hat.old hgl e)
  have hu2 : Upd (fun k => k = g) w' (w'.setCell ⟨g, b * 4 + 3, none⟩ u') := (Upd.refl (fun k => k = g) w').setCell ⟨g, b * 4 + 3, none⟩ rfl u'
  have hrow := own_set (own_upd h.row hu (fun k e e2 => h.off b u k hv e2 e)) (b * 4 + 3) (by omega) u'
  rw [blk_set out vs b s u' h.len hb] at hrow
  have hget : ∀ (i : Nat) (x : Value), (vs.set b u')[i]? = some x → (i = b ∧ x = u') ∨ (i ≠ b ∧ vs[i]? = some x) := by
    intro i x hx
    rw [List.getElem?_set] at hx
    by_cases e : b = i
    · rw [if_pos e, if_pos hbv] at hx
      injection hx with hx
      exact .inl ⟨e.symm, hx.symm⟩
    · rw [if_neg e] at hx
      exact .inr ⟨fun e' => e e'.symm, hx⟩
  refine ⟨by simp [h.len], by rw [List.length_modify]; exact hrow, fun i hi x hx => ?_, fun i j x y k hij h1 h2 h3 => ?_, fun i x k h1 h2 => ?_⟩
  · rw [List.length_modify] at hi
    rcases hget i x hx with ⟨rfl, rfl⟩ | ⟨hne, hx⟩
    · rw [List.getElem_modify_eq]
      simp only [List.length_append, List.length_singleton]
      rw [catv_append, catv_one]
      exact own_upd ho hu2 (fun k e e2 => hg' (by rw [e, e2]))
    · have hne2 : ¬ b = i := fun e => hne e.symm
      rw [List.getElem_modify, if_neg hne2]
      have h1 := h.own i hi x hx
      exact own_upd (own_upd h1 hu (fun k e e2 => h.apart i b x u k hne hx hv e e2)) hu2 (fun k e e2 => h.off i x k hx e (by rw [e2]; rfl))
  · rcases hget i x h1 with ⟨e1, e2⟩ | ⟨hne, g1⟩
    · rcases hget j y h2 with ⟨e, _⟩ | ⟨hne2, g2⟩
      · exact absurd (e1.trans e.symm) hij
      · intro e
        subst e2
        have hj : j < out.length := by rw [← h.len]; exact (List.getElem?_eq_some_iff.1 g2).1
        exact h.apart b j u y k (fun e => hij (e1.trans e)) hv g2 (hat.old ((h.own j hj y g2).lt k e).2 h3) e
    · rcases hget j y h2 with ⟨e1, e2⟩ | ⟨hne2, g2⟩
      · intro e
        subst e2
        have hi : i < out.length := by rw [← h.len]; exact (List.getElem?_eq_some_iff.1 g1).1
        exact h.apart i b x u k (fun e => hij (e.trans e1.symm)) g1 hv h3 (hat.old ((h.own i hi x g1).lt k h3).2 e)
      · exact h.apart i j x y k hij g1 g2 h3
  · rcases hget i x h1 with ⟨rfl, rfl⟩ | ⟨hne, h1⟩
    · intro e
      injection e with e
      exact hg' (by rw [h2, ← e])
    · exact h.off i x k h1 h2
end
def BlkAns (w : World) (L : List MSpot) (e : Ending) (w' : World) : Prop := ∃ v vs, e = .returned v ∧ BlkRow w' w.heap.size v (blocksOf L) vs ∧ Below w.heap.size w w'
/-- How many blocks, and how many seats. -/
theorem blocksOf_len (L : List MSpot) : (blocksOf L).length ≤ L.length := by
  have : ∀ (L : List MSpot) (o : List MBlk), (L.foldl stepB o).length ≤ o.length + L.length := by
    intro L
    induction L with
    | nil => intro o; simp
    | cons x t ih =>
      intro o
      rw [List.foldl_cons]
      have h1 := ih (stepB o x)
      have h2 : (stepB o x).length ≤ o.length + 1 := by
        unfold stepB addSeat newBlk
        split <;> split <;> simp
      simp only [List.length_cons]
      omega
  have := this L []
  simpa [blocksOf] using this
theorem blk_info : (Tryd.prog.info? 94).map (fun i => (i.zero, i.size, i.bytes)) = some (some (.agg #[.int .i64 0, .int .i64 0, .bool false, .slice none 0 0]), 4, 48) := by kernel_rfl
end Go.Proofs.YtppjpledjhinbaaDoor
