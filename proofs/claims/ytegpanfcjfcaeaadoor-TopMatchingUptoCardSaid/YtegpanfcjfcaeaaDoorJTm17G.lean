/- Matchings: the pairing in memory; grow, walked. -/
import Derived.Test.YtegpanfcjfcaeaaDoorJTm17W
import Derived.Deep.RegionWith
import Derived.StillTailTactics
import Derived.BigRegion
namespace Go.Proofs.YtegpanfcjfcaeaaDoor
open Go.RowKit
/-- The rows of neighbours, to be read. -/
structure NearR (w : World) (B N : Nat) (rows : List (List Nat)) : Prop where
  lt : N < B
  row : ∀ (a : Nat) (l : List Nat), rows[a]? = some l → ∃ A c, w.cell? ⟨N, a, none⟩ = some (.slice A l.length c) ∧ ∀ (k : Nat) (h : k < l.length), ∃ g, A = some ⟨g, 0, none⟩ ∧ g < B ∧ w.cell? ⟨g, k, none⟩ = some (.int .i64 (l[k] : Int))
theorem NearR.keep {w w' : World} {B N : Nat} {rows : List (List Nat)} (h : NearR w B N rows) (hk : ∀ p : Addr, p.block < B → w'.cell? p = w.cell? p) : NearR w' B N rows :=
  ⟨h.lt, fun a l hl => by
    obtain ⟨A, c, h1, h2⟩ := h.row a l hl
    exact ⟨A, c, (hk _ h.lt).trans h1, fun k hkl => by
      obtain ⟨g, e, hg, h3⟩ := h2 k hkl
      exact ⟨g, e, hg, (hk _ hg).trans h3⟩⟩⟩
theorem Nears.read {w : World} {N : Nat} {rows : List (List Nat)} {vs : List Value} (h : Nears w N rows vs) : NearR w w.heap.size N rows :=
  ⟨h.lt, fun a l hl => by
    have ha : a < vs.length := by rw [h.len]; exact (List.getElem?_eq_some_iff.1 hl).1
    have ho := h.own a vs[a] l (List.getElem?_eq_getElem ha) hl
    have hc := h.cell ha
    obtain ⟨A, c, hv⟩ := own_shape ho
    rw [hv] at hc ho
    refine ⟨A, c, hc, fun k hk => ?_⟩
    obtain ⟨g, cap, e, _, hg, _⟩ := own_form ho (by omega)
    injection e with e _ _
    subst e
    have h1 := ho.cells (g := g) rfl k _ (natv_get l k hk)
    rw [add_zero_off] at h1
    exact ⟨g, rfl, hg, h1⟩⟩
/-- A pairing in memory: block P, over the graph G, whose rows are N's; O and W: the B of each A, the A of each B. -/
structure PairA (w : World) (B P G N O W : Nat) (dv : Value) (n m : Nat) (rows : List (List Nat)) (of wi : List Int) : Prop where
  blk : w.heap[P]? = some (.cells #[.pointer (some ⟨G, 0, none⟩), .slice (some ⟨O, 0, none⟩) n n, .slice (some ⟨W, 0, none⟩) m m, dv] 93 (0, 0))
  g : GBlk w G N n m
  nr : NearR w B N rows
  iof : Ints w O of
  iwi : Ints w W wi
  gB : G < B
  pB : B ≤ P
  oB : B ≤ O
  wB : B ≤ W
  ow : O ≠ W
  po : P ≠ O
  pw : P ≠ W
  lo : of.length = n
  lw : wi.length = m
  lr : rows.length = n
  nb : ∀ a b, b ∈ nearOf rows a → b < m
  wb : ∀ b, 0 ≤ gi wi b → gi wi b < n
/-- The levels in memory. -/
structure PairD (w : World) (B P O W D n : Nat) (di : List Int) : Prop where
  idi : Ints w D di
  dB : B ≤ D
  dp : D ≠ P
  do_ : D ≠ O
  dw : D ≠ W
  ld : di.length = n
  db : ∀ x, -2 ≤ gi di x ∧ gi di x ≤ 1000
section
variable {w w' : World} {B P G N O W D n m : Nat} {dv : Value} {rows : List (List Nat)} {of wi di : List Int} {S : Nat → Prop}
theorem PairA.plt (h : PairA w B P G N O W dv n m rows of wi) : P < w.heap.size := (Array.getElem?_eq_some_iff.1 h.blk).1
theorem PairA.c0 (h : PairA w B P G N O W dv n m rows of wi) : w.cell? ⟨P, 0, none⟩ = some (.pointer (some ⟨G, 0, none⟩)) := by rw [cell_of_row w P 0 _ _ _ h.blk]; rfl
theorem PairA.c1 (h : PairA w B P G N O W dv n m rows of wi) : w.cell? ⟨P, 1, none⟩ = some (.slice (some ⟨O, 0, none⟩) n n) := by rw [cell_of_row w P 1 _ _ _ h.blk]; rfl
theorem PairA.c2 (h : PairA w B P G N O W dv n m rows of wi) : w.cell? ⟨P, 2, none⟩ = some (.slice (some ⟨W, 0, none⟩) m m) := by rw [cell_of_row w P 2 _ _ _ h.blk]; rfl
theorem PairA.c3 (h : PairA w B P G N O W dv n m rows of wi) : w.cell? ⟨P, 3, none⟩ = some dv := by rw [cell_of_row w P 3 _ _ _ h.blk]; rfl
theorem PairA.free (h : PairA w B P G N O W dv n m rows of wi) (i : Nat) : w.frozen? ⟨P, i, none⟩ = false := frozen_of_row w P i _ _ h.blk
theorem PairA.Blt (h : PairA w B P G N O W dv n m rows of wi) : B ≤ w.heap.size := by have := h.plt; have := h.pB; omega
theorem PairA.row (h : PairA w B P G N O W dv n m rows of wi) {a : Nat} (ha : a < n) : rows[a]? = some (nearOf rows a) := by
  have : a < rows.length := by rw [h.lr]; exact ha
  unfold nearOf
  rw [List.getD_eq_getElem?_getD, List.getElem?_eq_getElem this]
  rfl
theorem PairA.upd (h : PairA w B P G N O W dv n m rows of wi) (hu : Upd S w w') (h0 : ∀ k, k < B → ¬ S k) (hP : ¬ S P) (hO : ¬ S O) (hW : ¬ S W) : PairA w' B P G N O W dv n m rows of wi :=
  ⟨(hu.block P h.plt hP).trans h.blk, h.g.upd hu (h0 G h.gB), h.nr.keep fun p hp => hu.cell (Nat.lt_of_lt_of_le hp h.Blt) (h0 _ hp), h.iof.upd hu hO, h.iwi.upd hu hW, h.gB, h.pB, h.oB, h.wB, h.ow, h.po, h.pw, h.lo, h.lw, h.lr, h.nb, h.wb⟩
theorem PairD.upd (h : PairD w B P O W D n di) (hu : Upd S w w') (hD : ¬ S D) : PairD w' B P O W D n di := ⟨h.idi.upd hu hD, h.dB, h.dp, h.do_, h.dw, h.ld, h.db⟩
theorem PairA.drew (h : PairA w B P G N O W dv n m rows of wi) : PairA w.drew B P G N O W dv n m rows of wi :=
  h.upd (S := fun _ => False) ⟨rfl, rfl, rfl, Nat.le_refl _, fun _ _ _ => rfl⟩ (fun _ _ h => h) (fun h => h) (fun h => h) (fun h => h)
theorem PairA.drewN (h : PairA w B P G N O W dv n m rows of wi) (k : Nat) : PairA (w.drewN k) B P G N O W dv n m rows of wi :=
  h.upd ((Upd.refl (fun _ => False) w).drewN k) (fun _ _ h => h) (fun h => h) (fun h => h) (fun h => h)
theorem PairD.drewN (h : PairD w B P O W D n di) (k : Nat) : PairD (w.drewN k) B P O W D n di := h.upd ((Upd.refl (fun _ => False) w).drewN k) (fun h => h)
theorem PairD.drew (h : PairD w B P O W D n di) : PairD w.drew B P O W D n di := h.drewN 1
theorem PairA.setOf (h : PairA w B P G N O W dv n m rows of wi) (a : Nat) (v : Int) : PairA (w.setCell ⟨O, a, none⟩ (.int .i64 v)) B P G N O W dv n m rows (of.set a v) wi := by
  have hu : Upd (fun k => k = O) w (w.setCell ⟨O, a, none⟩ (.int .i64 v)) := (Upd.refl (fun k => k = O) w).setCell ⟨O, a, none⟩ rfl _
  exact ⟨(hu.block P h.plt h.po).trans h.blk, h.g.upd hu (by have := h.gB; have := h.oB; omega), h.nr.keep fun p hp => hu.cell (Nat.lt_of_lt_of_le hp h.Blt) (by have := h.oB; omega), h.iof.set a v, h.iwi.upd hu (fun e => h.ow e.symm), h.gB, h.pB, h.oB, h.wB, h.ow, h.po, h.pw, by rw [List.length_set]; exact h.lo, h.lw, h.lr, h.nb, h.wb⟩
theorem PairA.setWi (h : PairA w B P G N O W dv n m rows of wi) (b a : Nat) (hb : b < m) (ha : a < n) : PairA (w.setCell ⟨W, b, none⟩ (.int .i64 (a : Int))) B P G N O W dv n m rows of (wi.set b (a : Int)) := by
  have hu : Upd (fun k => k = W) w (w.setCell ⟨W, b, none⟩ (.int .i64 (a : Int))) := (Upd.refl (fun k => k = W) w).setCell ⟨W, b, none⟩ rfl _
  refine ⟨(hu.block P h.plt h.pw).trans h.blk, h.g.upd hu (by have := h.gB; have := h.wB; omega), h.nr.keep fun p hp => hu.cell (Nat.lt_of_lt_of_le hp h.Blt) (by have := h.wB; omega), h.iof.upd hu h.ow, h.iwi.set b _, h.gB, h.pB, h.oB, h.wB, h.ow, h.po, h.pw, h.lo, by rw [List.length_set]; exact h.lw, h.lr, h.nb, fun c hc => ?_⟩
  rw [gi_set (by rw [h.lw]; exact hb)] at hc ⊢
  split
  · omega
  · rename_i e
    rw [if_neg e] at hc
    exact h.wb c hc
theorem PairD.set (h : PairD w B P O W D n di) (a : Nat) (v : Int) (ha : a < n) (hv : -2 ≤ v ∧ v ≤ 1000) : PairD (w.setCell ⟨D, a, none⟩ (.int .i64 v)) B P O W D n (di.set a v) :=
  ⟨h.idi.set a v, h.dB, h.dp, h.do_, h.dw, by rw [List.length_set]; exact h.ld, fun x => by
    rw [gi_set (by rw [h.ld]; exact ha)]
    split
    · exact hv
    · exact h.db x⟩
end
/-- Row a's place k. -/
theorem PairA.near {w : World} {B P G N O W : Nat} {dv : Value} {n m : Nat} {rows : List (List Nat)} {of wi : List Int} (h : PairA w B P G N O W dv n m rows of wi) {a : Nat} (ha : a < n) :
    ∃ A c, w.cell? ⟨N, a, none⟩ = some (.slice A (nearOf rows a).length c) ∧ ∀ (k : Nat) (hk : k < (nearOf rows a).length), ∃ g, A = some ⟨g, 0, none⟩ ∧ g < B ∧ w.cell? ⟨g, k, none⟩ = some (.int .i64 ((nearOf rows a)[k] : Int)) :=
  h.nr.row a _ (h.row ha)
end Go.Proofs.YtegpanfcjfcaeaaDoor
/- Matchings: grow, walked. -/
namespace Go.Proofs.YtegpanfcjfcaeaaDoor
open Go.RowKit
def GrowS (O W D k : Nat) : Prop := k = O ∨ k = W ∨ k = D
def GrowEnd (rows : List (List Nat)) (f a b : Nat) (l : List Nat) (r : Bool × PSt) (bb : Bool) (s2 : PSt) : Prop :=
  (bb = true ∧ r = (true, s2.join a b)) ∨ (bb = false ∧ growL (growF (nearOf rows) f) a l s2 = some r)
/-- What is told behind the test of one neighbour. -/
def GrowCut (w : World) (B P G N O W D n m : Nat) (dv : Value) (rows : List (List Nat)) (f a b : Nat) (l : List Nat) (r : Bool × PSt) (bb : Bool) (wc : World) : Prop :=
  ∃ s2 : PSt, PairA wc B P G N O W dv n m rows s2.of s2.wi ∧ PairD wc B P O W D n s2.di ∧ Upd (GrowS O W D) w wc ∧ GrowEnd rows f a b l r bb s2
attribute [local go_sem] undef in
set_option maxHeartbeats 8000000 in
set_option maxRecDepth 20000 in
theorem grow_any (B P G N O W D n m : Nat) (rows : List (List Nat)) (hn : n ≤ 200) (hm : m ≤ 200) : ∀ (f : Nat) (w : World) (a : Nat) (s : PSt) (r : Bool × PSt), growF (nearOf rows) f a s = some r → a < n → (nearOf rows a).length ≤ 1048576 →
    PairA w B P G N O W (.slice (some ⟨D, 0, none⟩) n n) n m rows s.of s.wi → PairD w B P O W D n s.di → (∀ a, (nearOf rows a).length ≤ 1048576) →
    Calls Tryd.prog 64 #[.pointer (some ⟨P, 0, none⟩), .int .i64 a] w fun e w' => e = .returned (.bool r.1) ∧ PairA w' B P G N O W (.slice (some ⟨D, 0, none⟩) n n) n m rows r.2.of r.2.wi ∧ PairD w' B P O W D n r.2.di ∧ Upd (GrowS O W D) w w' := by
  intro f
  induction f with
  | zero => intro w a s r h; cases h
  | succ f ih =>
    intro w a s r hg ha hlen hA hD hlens
    have IH := Lib.hid ih
    have HLN := Lib.hid hlens
    clear ih hlens
    unfold growF at hg
    obtain ⟨A, c, hcN, hrow⟩ := hA.near ha
    have HROW := Lib.hid hrow
    obtain ⟨L, hL⟩ : ∃ L, L = (nearOf rows a).length := ⟨_, rfl⟩
    rw [← hL] at hcN hlen
    have HL := Lib.hid hL
    have c0 := hA.c0
    have g0 := hA.g.c0
    have HG := Lib.hid hg
    have HA := Lib.hid hA
    have HD := Lib.hid hD
    clear hrow hL hg hA hD
    go_enter Tryd.func64, Tryd.ntmps64
    go_wp2
    go_loopw [19] (fun i wx => ∃ (j : Nat) (s' : PSt), j ≤ L ∧ i = .int .i64 j ∧ Hid (growL (growF (nearOf rows) f) a ((nearOf rows a).drop j) s' = some r) ∧ PairA wx B P G N O W (.slice (some ⟨D, 0, none⟩) n n) n m rows s'.of s'.wi ∧ PairD wx B P O W D n s'.di ∧ Upd (GrowS O W D) w wx) (fun i _ => L - (intOf i).toNat)
    case atStart => exact ⟨0, s, Nat.zero_le _, rfl, HG.out, HA.out, HD.out, Upd.refl _ _⟩
    case round =>
      obtain ⟨j, s', hj, rfl, hg, hA, hD, hu⟩ := hrel
      clear c0 g0 hcN
      have c0 := hA.c0
      have c1 := hA.c1
      have c2 := hA.c2
      have c3 := hA.c3
      by_cases hlt : j < L
      · have hlt' : j < (nearOf rows a).length := by rw [← HL.out]; exact hlt
        obtain ⟨g, hAg, hgB, hcell⟩ := HROW.out j hlt'
        subst hAg
        obtain ⟨b, hb⟩ : ∃ b, (nearOf rows a)[j] = b := ⟨_, rfl⟩
        have hbm : b < m := hA.nb a b (by rw [← hb]; exact List.getElem_mem hlt')
        rw [hb] at hcell
        have hdrop : (nearOf rows a).drop j = b :: (nearOf rows a).drop (j + 1) := by rw [List.drop_eq_getElem_cons hlt', hb]
        have hcB : wr.cell? ⟨g, j, none⟩ = some (.int .i64 (b : Int)) := (hu.cell (p := ⟨g, j, none⟩) (Nat.lt_of_lt_of_le hgB HA.out.Blt) (by
          have := hA.oB; have := hA.wB; have := hD.dB
          rintro (e | e | e) <;> simp only at e <;> omega)).trans hcell
        have hwb := hA.iwi.cell (k := b) (by rw [hA.lw]; exact hbm)
        have HDROP := Lib.hid hdrop
        obtain ⟨x, hx⟩ : ∃ x, gi s'.wi b = x := ⟨_, rfl⟩
        rw [hx] at hwb
        have hg' := hg.out
        rw [hdrop, growL] at hg'
        rw [hx] at hg'
        have HX := Lib.hid hx
        have hxn := hA.wb b
        rw [hx] at hxn
        clear hb hcell hdrop hx hg
        go_upto_region 5 with (fail)
        go_cut [54] (fun v wc => ∃ bb : Bool, v = .bool bb ∧ Hid (GrowCut w B P G N O W D n m (.slice (some ⟨D, 0, none⟩) n n) rows f a b ((nearOf rows a).drop (j + 1)) r bb wc))
        case first =>
          by_cases hneg : x < 0
          · rw [if_pos hneg] at hg'
            injection hg' with hg'
            have HR := Lib.hid hg'
            have b1 : decide (x < 0) = true := decide_eq_true hneg
            clear hg'
            go_quiet (fail)
            go_wp2
            go_meet
            case rel => exact ⟨true, rfl, Lib.hid ⟨s', hA.drewN _, hD.drewN _, hu.drewN _, .inl ⟨rfl, HR.out.symm⟩⟩⟩
          · rw [if_neg hneg] at hg'
            have b1 : decide (x < 0) = false := decide_eq_false hneg
            obtain ⟨q, rfl⟩ : ∃ q : Nat, x = (q : Int) := ⟨x.toNat, by omega⟩
            have hqn : q < n := by omega
            rw [Int.toNat_natCast] at hg'
            have dq := hD.idi.cell (k := q) (by rw [hD.ld]; exact hqn)
            have da := hD.idi.cell (k := a) (by rw [hD.ld]; exact ha)
            have bq := hD.db q
            have ba := hD.db a
            obtain ⟨y, hy⟩ : ∃ y, gi s'.di q = y := ⟨_, rfl⟩
            obtain ⟨z, hz⟩ : ∃ z, gi s'.di a = z := ⟨_, rfl⟩
            rw [hy] at dq bq hg'
            rw [hz] at da ba hg'
            clear hy hz
            have hwz : IntKind.i64.wrap (z + 1) = z + 1 := IntWalk.i64_in _ (by omega)
            by_cases hyz : y = z + 1
            · rw [if_pos hyz] at hg'
              have b2 : (y == z + 1) = true := by rw [hyz]; simp
              obtain ⟨bb, s2, hstep, hend⟩ : ∃ bb s2, growF (nearOf rows) f q s' = some (bb, s2) ∧ GrowEnd rows f a b ((nearOf rows a).drop (j + 1)) r bb s2 := by
                cases hq : growF (nearOf rows) f q s' with
                | none => rw [hq] at hg'; cases hg'
                | some p =>
                  obtain ⟨bb, s2⟩ := p
                  rw [hq] at hg'
                  cases bb with
                  | true => simp only [Option.some.injEq] at hg'; exact ⟨true, s2, rfl, .inl ⟨rfl, hg'.symm⟩⟩
                  | false => exact ⟨false, s2, rfl, .inr ⟨rfl, hg'⟩⟩
              have HC := Lib.hid (IH.out wr.drew q s' (bb, s2) hstep hqn (HLN.out q) hA.drew hD.drew HLN.out)
              have HEND := Lib.hid hend
              have HU := Lib.hid hu
              clear hg' hyz hend hstep hA hD hu
              go_still_tail 22, (by kernel_rfl)
              change wpList _ _ _ _ _ wr.drew
              go_wp2_with fail
              refine HC.out.mono ?_
              rintro e w2 ⟨rfl, h1, h2, h3⟩
              have hu2 : Upd (GrowS O W D) w w2 := (HU.out.drewN 1).trans h3 (fun _ _ h => h)
              clear c0 c1 c2 c3 dq da hcB
              cases bb
              all_goals
                go_wp2
                go_meet
                case rel => exact ⟨_, rfl, Lib.hid ⟨s2, h1, h2, hu2, HEND.out⟩⟩
            · rw [if_neg hyz] at hg'
              have HR := Lib.hid hg'
              have b2 : (y == z + 1) = false := beq_eq_false_iff_ne.2 hyz
              clear hg' hyz
              go_quiet (fail)
              go_wp2
              go_meet
              case rel => exact ⟨false, rfl, Lib.hid ⟨s', hA.drewN _, hD.drewN _, hu.drewN _, .inr ⟨rfl, HR.out⟩⟩⟩
        case rest =>
          obtain ⟨bb, rfl, hcut⟩ := hcut
          obtain ⟨s2, hA2, hD2, hu2, hend⟩ := hcut.out
          have HEND := Lib.hid hend
          clear hcut hg' hA hD hu c0 c1 c2 c3 hcB hend hxn HX hwb
          have c1 := hA2.drew.c1
          have c2 := hA2.drew.c2
          cases bb with
          | true =>
            have hr : r = (true, s2.join a b) := by
              rcases HEND.out with ⟨_, h⟩ | ⟨h, _⟩
              · exact h
              · cases h
            subst hr
            clear HEND
            have hA3 := (hA2.drew.setOf a b).setWi b a hbm ha
            have hD3 : PairD ((wc.drew.setCell ⟨O, a, none⟩ (.int .i64 (b : Int))).setCell ⟨W, b, none⟩ (.int .i64 (a : Int))) B P O W D n s2.di := (hD2.drewN 1).upd (S := fun k => k = O ∨ k = W) (((Upd.refl (fun k => k = O ∨ k = W) _).setCell ⟨O, a, none⟩ (.inl rfl) _).setCell ⟨W, b, none⟩ (.inr rfl) _) (by
              have := hD2.do_; have := hD2.dw
              rintro (e | e) <;> simp_all)
            have hu3 : Upd (GrowS O W D) w ((wc.drew.setCell ⟨O, a, none⟩ (.int .i64 (b : Int))).setCell ⟨W, b, none⟩ (.int .i64 (a : Int))) := ((hu2.drewN 1).setCell ⟨O, a, none⟩ (.inl rfl) _).setCell ⟨W, b, none⟩ (.inr (.inl rfl)) _
            have o0 := hA2.drew.iof.cell (k := a) (by rw [hA2.lo]; exact ha)
            have o1 := hA2.drew.iof.free a
            have p0 := (hA2.drew.setOf a b).iwi.cell (k := b) (by rw [hA2.lw]; exact hbm)
            have p1 := (hA2.drew.setOf a b).iwi.free b
            have HA3 := Lib.hid hA3
            have HD3 := Lib.hid hD3
            have HU3 := Lib.hid hu3
            clear hA3 hD3 hu3 hA2 hD2 hu2
            have q0 : (wc.setCell ⟨O, a, none⟩ (.int .i64 (b : Int))).drew.cell? ⟨W, b, none⟩ = some (.int .i64 (gi s2.wi b)) := p0
            have q1 : (wc.setCell ⟨O, a, none⟩ (.int .i64 (b : Int))).drew.frozen? ⟨W, b, none⟩ = false := p1
            go_wp2
            go_region
            all_goals go_wp2
            all_goals go_ret
            all_goals exact ⟨rfl, HA3.out, HD3.out, HU3.out⟩
          | false =>
            have hr : growL (growF (nearOf rows) f) a ((nearOf rows a).drop (j + 1)) s2 = some r := by
              rcases HEND.out with ⟨h, _⟩ | ⟨_, h⟩
              · cases h
              · exact h
            have HR := Lib.hid hr
            clear HEND hr
            go_wp2
            go_roundw
            case rel => exact ⟨j + 1, s2, by omega, by go_num, HR, hA2, hD2, hu2⟩
            case measure => simp [intOf]; omega
      · obtain rfl : j = L := by omega
        have hg' := hg.out
        rw [HL.out, List.drop_length, growL] at hg'
        injection hg' with hg'
        subst hg'
        have d0 := hD.idi.cell (k := a) (by rw [hD.ld]; exact ha)
        have d1 := hD.idi.free a
        have hD2 := hD.set a (-2) ha (by omega)
        have hu2 : Upd (GrowS O W D) w (wr.setCell ⟨D, a, none⟩ (.int .i64 (-2))) := hu.setCell ⟨D, a, none⟩ (.inr (.inr rfl)) _
        have hA2 := hA.upd ((Upd.refl (fun k => k = D) wr).setCell ⟨D, a, none⟩ rfl (.int .i64 (-2))) (by have := hD.dB; intro k hk e; omega) (fun e => hD.dp e.symm) (fun e => hD.do_ e.symm) (fun e => hD.dw e.symm)
        clear hg hA hD hu
        go_wp2
        go_ret
        exact ⟨rfl, hA2, hD2, hu2⟩
end Go.Proofs.YtegpanfcjfcaeaaDoor
