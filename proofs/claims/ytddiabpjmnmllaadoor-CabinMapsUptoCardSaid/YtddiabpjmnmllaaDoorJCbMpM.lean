/- Cabins: rows that lie between two bounds, blocks that are read and overwritten. -/
import Derived.Test.YtddiabpjmnmllaaDoorJCbBl2
import Derived.Test.YtddiabpjmnmllaaDoorJFtSame
import Derived.Test.YtddiabpjmnmllaaDoorOwnAny2
namespace Go.Proofs.YtddiabpjmnmllaaDoor
open Go.RowKit Go.Lib
/-- A row of the call's own between two bounds. -/
def OwnBt (w : World) (lo hi : Nat) (e : TypeId) (size : Nat) (v : Value) (n : Nat) (xs : List Value) : Prop := w.ownsRow lo e size v n xs ∧ ∀ k, v.ownBlock = some k → k < hi
theorem OwnBt.upd {S : Nat → Prop} {w w' : World} {lo hi size n : Nat} {e : TypeId} {v : Value} {xs : List Value} (h : OwnBt w lo hi e size v n xs) (hu : Upd S w w') (hs : ∀ k, lo ≤ k → k < hi → ¬ S k) : OwnBt w' lo hi e size v n xs :=
  ⟨own_upd h.1 hu (fun k e2 => hs k (h.1.lt k e2).1 (h.2 k e2)), h.2⟩
theorem OwnBt.below {w w' : World} {lo hi size n : Nat} {e : TypeId} {v : Value} {xs : List Value} (h : OwnBt w lo hi e size v n xs) (hb : Below w.heap.size w w') : OwnBt w' lo hi e size v n xs :=
  h.upd (Upd.of_below (S := fun _ => False) hb) (fun _ _ _ h => h)
theorem OwnBt.of {w w' : World} {size n : Nat} {e : TypeId} {v : Value} {xs : List Value} (h : w'.ownsRow w.heap.size e size v n xs) : OwnBt w' w.heap.size w'.heap.size e size v n xs := ⟨h, fun k e2 => (h.lt k e2).2⟩
/-- Blocks that can be read. -/
def BlkRd (w : World) (B : Nat) (v : Value) (out : List MBlk) : Prop := ∃ (A : Option Addr) (c : Nat) (us : List Value), v = .slice A out.length c ∧ us.length = out.length ∧ Rd w B 4 A out.length (catv blkC (out.zip us)) ∧
  ∀ (i : Nat) (b : MBlk) (u : Value), out[i]? = some b → us[i]? = some u → ∃ (A' : Option Addr) (c' : Nat), u = .slice A' b.seats.length c' ∧ Rd w B 2 A' b.seats.length (catv seatC b.seats)
theorem BlkRd.below {w w' : World} {B : Nat} {v : Value} {out : List MBlk} (h : BlkRd w B v out) (hb : Below B w w') : BlkRd w' B v out := by
  obtain ⟨A, c, us, e, h1, h2, h3⟩ := h
  refine ⟨A, c, us, e, h1, h2.below hb, fun i b u hi hu => ?_⟩
  obtain ⟨A', c', e', h4⟩ := h3 i b u hi hu
  exact ⟨A', c', e', h4.below hb⟩
theorem BlkRd.mono {w : World} {B B' : Nat} {v : Value} {out : List MBlk} (h : BlkRd w B v out) (hB : B ≤ B') : BlkRd w B' v out := by
  obtain ⟨A, c, us, e, h1, h2, h3⟩ := h
  refine ⟨A, c, us, e, h1, h2.mono hB, fun i b u hi hu => ?_⟩
  obtain ⟨A', c', e', h4⟩ := h3 i b u hi hu
  exact ⟨A', c', e', h4.mono hB⟩
theorem BlkRow.rd {w : World} {base : Nat} {v : Value} {out : List MBlk} {vs : List Value} (h : BlkRow w base v out vs) : BlkRd w w.heap.size v out := by
  obtain ⟨A, c, e, h1⟩ := own_rd h.row
  refine ⟨A, c, vs, e, h.len, h1, fun i b u hi hu => ?_⟩
  obtain ⟨hlt, rfl⟩ := List.getElem?_eq_some_iff.1 hi
  exact own_rd (h.own i hlt u hu)
/-- Blocks of the call's own between two bounds. -/
structure BlkBt (w : World) (lo hi : Nat) (v : Value) (out : List MBlk) (vs : List Value) : Prop where
  row : BlkRow w lo v out vs
  outer : ∀ k, v.ownBlock = some k → k < hi
  inner : ∀ (i : Nat) (u : Value) (k : Nat), vs[i]? = some u → u.ownBlock = some k → k < hi
theorem BlkBt.of {w w' : World} {v : Value} {out : List MBlk} {vs : List Value} (h : BlkRow w' w.heap.size v out vs) : BlkBt w' w.heap.size w'.heap.size v out vs :=
  ⟨h, fun k e => (h.row.lt k e).2, fun i u k hu e => ((h.own i (by rw [← h.len]; exact (List.getElem?_eq_some_iff.1 hu).1) u hu).lt k e).2⟩
theorem BlkBt.upd {S : Nat → Prop} {w w' : World} {lo hi : Nat} {v : Value} {out : List MBlk} {vs : List Value} (h : BlkBt w lo hi v out vs) (hu : Upd S w w') (hs : ∀ k, lo ≤ k → k < hi → ¬ S k) : BlkBt w' lo hi v out vs :=
  ⟨⟨h.row.len, own_upd h.row.row hu (fun k e => hs k (h.row.row.lt k e).1 (h.outer k e)), fun i hi2 u hv => own_upd (h.row.own i hi2 u hv) hu (fun k e => hs k ((h.row.own i hi2 u hv).lt k e).1 (h.inner i u k hv e)), h.row.apart, h.row.off⟩, h.outer, h.inner⟩
theorem BlkBt.below {w w' : World} {lo hi : Nat} {v : Value} {out : List MBlk} {vs : List Value} (h : BlkBt w lo hi v out vs) (hb : Below w.heap.size w w') : BlkBt w' lo hi v out vs :=
  h.upd (Upd.of_below (S := fun _ => False) hb) (fun _ _ _ h => h)
theorem seat_set2 : ∀ (l : List MSeat) (k : Nat), k < l.length → ∀ s : MSeat, ((catv seatC l).set (k * 2) (.int .i64 s.num)).set (k * 2 + 1) (.int .u8 (s.ltr.toNat : Int)) = catv seatC (l.set k s) := by
  intro l
  induction l with
  | nil => intro k hk; simp at hk
  | cons x t ih =>
    intro k hk s
    cases k with
    | zero =>
      rw [catv_cons, List.set_cons_zero, catv_cons]
      simp [seatC]
    | succ k =>
      have h2 : (seatC x).length = 2 := rfl
      rw [catv_cons, List.set_cons_succ, catv_cons, show (k + 1) * 2 = (seatC x).length + k * 2 by omega, show (seatC x).length + k * 2 + 1 = (seatC x).length + (k * 2 + 1) by omega]
      rw [List.set_append_right _ _ (by omega), List.set_append_right _ _ (by omega), Nat.add_sub_cancel_left, Nat.add_sub_cancel_left, ih k (by simpa using hk) s]
theorem blk_same : ∀ (out : List MBlk) (vs : List Value) (b : Nat) (f : List MSeat → List MSeat), catv blkC ((out.modify b fun x => { x with seats := f x.seats }).zip vs) = catv blkC (out.zip vs) := by
  intro out
  induction out with
  | nil => intro vs b f; simp
  | cons x t ih =>
    intro vs b f
    cases vs with
    | nil => simp
    | cons y vs =>
      cases b with
      | zero => rw [List.modify_zero_cons, List.zip_cons_cons, List.zip_cons_cons, catv_cons, catv_cons]; rfl
      | succ b => rw [List.modify_succ_cons, List.zip_cons_cons, List.zip_cons_cons, catv_cons, catv_cons, ih vs b f]
/-- A seat of a block is overwritten. -/
theorem BlkRow.set {w : World} {base : Nat} {v : Value} {out : List MBlk} {vs : List Value} {b j g c : Nat} {s : MSeat} (h : BlkRow w base v out vs) (hb : b < out.length) (hv : vs[b]? = some (.slice (some ⟨g, 0, none⟩) (out[b]).seats.length c)) (hj : j < (out[b]).seats.length) :
    BlkRow ((w.setCell ⟨g, j * 2, none⟩ (.int .i64 s.num)).setCell ⟨g, j * 2 + 1, none⟩ (.int .u8 (s.ltr.toNat : Int))) base v (out.modify b fun x => { x with seats := x.seats.set j s }) vs := by
  have ho := h.own b hb _ hv
  have hn := own_set (own_set ho (j * 2) (by omega) (.int .i64 s.num)) (j * 2 + 1) (by omega) (.int .u8 (s.ltr.toNat : Int))
  rw [seat_set2 _ j hj s] at hn
  have hu : Upd (fun k => k = g) w ((w.setCell ⟨g, j * 2, none⟩ (.int .i64 s.num)).setCell ⟨g, j * 2 + 1, none⟩ (.int .u8 (s.ltr.toNat : Int))) := ((Upd.refl (fun k => k = g) w).setCell _ rfl _).setCell _ rfl _
  refine ⟨by simp [h.len], ?_, fun i hi u hu2 => ?_, h.apart, h.off⟩
  · have h1 := own_upd h.row hu (fun k e e2 => h.off b _ g hv rfl (by rw [← e2]; exact e))
    rw [List.length_modify, blk_same out vs b (fun l => l.set j s)]
    exact h1
  · rw [List.length_modify] at hi
    by_cases e : b = i
    · subst e
      rw [hv] at hu2
      injection hu2 with hu2
      subst hu2
      rw [List.getElem_modify_eq]
      simp only [List.length_set]
      exact hn
    · rw [List.getElem_modify, if_neg e]
      exact own_upd (h.own i hi u hu2) hu (fun k e1 e2 => h.apart i b u _ k (fun e' => e e'.symm) hu2 hv e1 (by rw [e2]; rfl))
set_option maxHeartbeats 8000000 in
set_option maxRecDepth 20000 in
theorem same_blocks (w : World) (va vb : Value) (out : List MBlk) (ha : BlkRd w w.heap.size va out) (hb : BlkRd w w.heap.size vb out) (hn : out.length ≤ 1048576) (hs : ∀ x ∈ out, x.seats.length ≤ 1048576) :
    Calls Tryd.prog 31 #[va, vb] w fun e w' => e = .returned (.bool true) ∧ Below w.heap.size w w' := by
  obtain ⟨A, c, us, rfl, hul, hra, hia⟩ := ha
  obtain ⟨B, d, vs, rfl, hvl, hrb, hib⟩ := hb
  have HA := Lib.hid hra
  have HB := Lib.hid hrb
  have HIA := Lib.hid hia
  have HIB := Lib.hid hib
  have HUL := Lib.hid hul
  have HVL := Lib.hid hvl
  have HSS := Lib.hid hs
  clear hra hrb hia hib hul hvl hs
  go_enter Tryd.func31, Tryd.ntmps31
  go_wp2
  go_loopw [13] (fun iv wx => ∃ j : Nat, j ≤ out.length ∧ iv = .int .i64 (j : Int) ∧ Hid (Below w.heap.size w wx)) (fun iv _ => out.length - (intOf iv).toNat)
  case atStart => exact ⟨0, Nat.zero_le _, rfl, Lib.hid (Below.refl _ _)⟩
  case round =>
    obtain ⟨j, hj, rfl, hW⟩ := hrel
    by_cases hlt : j < out.length
    · obtain ⟨ga, oa, rfl, hga, hsa, hca⟩ := (HA.out.below hW.out).elem blkC_len (by decide) hlt
      obtain ⟨gb, ob, rfl, hgb, hsb, hcb⟩ := (HB.out.below hW.out).elem blkC_len (by decide) hlt
      have hua : us[j]? = some (us[j]'(by rw [HUL.out]; exact hlt)) := List.getElem?_eq_getElem _
      have hub : vs[j]? = some (vs[j]'(by rw [HVL.out]; exact hlt)) := List.getElem?_eq_getElem _
      have hea : (out.zip us)[j] = (out[j], us[j]'(by rw [HUL.out]; exact hlt)) := List.getElem_zip ..
      have heb : (out.zip vs)[j] = (out[j], vs[j]'(by rw [HVL.out]; exact hlt)) := List.getElem_zip ..
      rw [hea] at hca
      rw [heb] at hcb
      obtain ⟨A', c', hA', hrA⟩ := HIA.out j _ _ (List.getElem?_eq_getElem hlt) hua
      obtain ⟨B', d', hB', hrB⟩ := HIB.out j _ _ (List.getElem?_eq_getElem hlt) hub
      rw [hA'] at hca
      rw [hB'] at hcb
      have hsl := HSS.out _ (List.getElem_mem hlt)
      obtain ⟨⟨x0, x1, x2, xs⟩, hx⟩ : ∃ x, out[j] = x := ⟨_, rfl⟩
      rw [hx] at hca hcb hrA hrB hsl
      simp only at hrA hrB hca hcb hsl
      have a0 := hca 0 _ rfl
      have b0 := hcb 0 _ rfl
      have a1 := hca 1 _ rfl
      have b1 := hcb 1 _ rfl
      have a2 := hca 2 _ rfl
      have b2 := hcb 2 _ rfl
      have a3 := hca 3 _ rfl
      have b3 := hcb 3 _ rfl
      simp only [hx] at a3 b3
      rw [Nat.add_zero] at a0 b0
      have hj0 : (0 : Int) ≤ (j : Int) := by omega
      have hjz : (j : Int) < (out.length : Int) := by omega
      have HC : Hid (∀ V : World, Below w.heap.size w V → Calls Tryd.prog 21 #[.slice A' xs.length c', .slice B' xs.length d'] V fun e w' => e = .returned (.bool true) ∧ Below w.heap.size w w') := Lib.hid (fun V hV =>
        (same_seats V A' B' xs.length c' d' xs ((hrA.below hV).mono hV.size) ((hrB.below hV).mono hV.size) (by omega)).mono fun _ _ h => ⟨h.1, bel_on hV h.2⟩)
      have hbd : Below w.heap.size w wr.drew := hW.out.drew
      have MK : Hid (∀ V : World, Below w.heap.size w V → Below w.heap.size w V ∧ V.cell? ⟨ga, oa + j * 4, none⟩ = some (.int .i64 x0) ∧ V.cell? ⟨ga, oa + j * 4 + 1, none⟩ = some (.int .i64 x1) ∧ V.cell? ⟨ga, oa + j * 4 + 2, none⟩ = some (.bool x2) ∧ V.cell? ⟨ga, oa + j * 4 + 3, none⟩ = some (.slice A' xs.length c') ∧ V.cell? ⟨gb, ob + j * 4, none⟩ = some (.int .i64 x0) ∧ V.cell? ⟨gb, ob + j * 4 + 1, none⟩ = some (.int .i64 x1) ∧ V.cell? ⟨gb, ob + j * 4 + 2, none⟩ = some (.bool x2) ∧ V.cell? ⟨gb, ob + j * 4 + 3, none⟩ = some (.slice B' xs.length d')) := Lib.hid (fun V hV => by
        have e : ∀ q : Addr, q.block < w.heap.size → V.cell? q = wr.cell? q := fun q hq => (hV.cell hq).trans (hW.out.cell hq).symm
        exact ⟨hV, (e ⟨ga, oa + j * 4, none⟩ hga).trans a0, (e ⟨ga, oa + j * 4 + 1, none⟩ hga).trans a1, (e ⟨ga, oa + j * 4 + 2, none⟩ hga).trans a2, (e ⟨ga, oa + j * 4 + 3, none⟩ hga).trans a3, (e ⟨gb, ob + j * 4, none⟩ hgb).trans b0, (e ⟨gb, ob + j * 4 + 1, none⟩ hgb).trans b1, (e ⟨gb, ob + j * 4 + 2, none⟩ hgb).trans b2, (e ⟨gb, ob + j * 4 + 3, none⟩ hgb).trans b3⟩)
      clear hca hcb hx hea heb hua hub hA' hB' hrA hrB hsa hsb a0 a1 a2 a3 b0 b1 b2 b3
      go_upto_region 6 with (fail)
      go_cut [66] (fun v wd => v = .bool false ∧ Hid (Below w.heap.size w wd))
      case first =>
        go_region_held3 (fun V => Below w.heap.size w V ∧ V.cell? ⟨ga, oa + j * 4, none⟩ = some (.int .i64 x0) ∧ V.cell? ⟨ga, oa + j * 4 + 1, none⟩ = some (.int .i64 x1) ∧ V.cell? ⟨ga, oa + j * 4 + 2, none⟩ = some (.bool x2) ∧ V.cell? ⟨ga, oa + j * 4 + 3, none⟩ = some (.slice A' xs.length c') ∧ V.cell? ⟨gb, ob + j * 4, none⟩ = some (.int .i64 x0) ∧ V.cell? ⟨gb, ob + j * 4 + 1, none⟩ = some (.int .i64 x1) ∧ V.cell? ⟨gb, ob + j * 4 + 2, none⟩ = some (.bool x2) ∧ V.cell? ⟨gb, ob + j * 4 + 3, none⟩ = some (.slice B' xs.length d'))
          (first | assumption | exact MK.out _ (by first | exact hbd | exact hc1))
          (first
            | (go_at_call 21; refine (HC.out _ (And.left (by assumption))).mono ?_; rintro e u1 ⟨rfl, hc1⟩)
            | fail)
        all_goals (go_wp2_with fail; go_meet; exact ⟨rfl, Lib.hid hc1⟩)
      case rest =>
        obtain ⟨rfl, hB2⟩ := hcut
        go_wp2_with fail
        go_roundw
        case rel => exact ⟨j + 1, by omega, by go_num, hB2⟩
        case measure => simp [intOf]; omega
    · have hz : ¬ (j : Int) < (out.length : Int) := by omega
      go_wp2
      go_ret
      exact ⟨rfl, hW.out⟩
end Go.Proofs.YtddiabpjmnmllaaDoor
