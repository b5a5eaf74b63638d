/- Matchings: the reference's search, walked. -/
import Derived.Test.YtmekcpbcgelliaaFlGraph
import Derived.Deep.RegionWith
import Derived.StillTailTactics
import Derived.BigRegion
import Derived.Deep.CutBlock
import Derived.Deep.DeepCutAuto
namespace Go.Proofs.Ytmekcpbcgelliaa
open Go.RowKit
/-- Block g is just this row of marks. -/
def Bls (w : World) (g : Nat) (l : List Bool) : Prop := w.heap[g]? = some (.cells (l.map Value.bool).toArray 4 (0, 0))
section
variable {w w' : World} {g : Nat} {l : List Bool}
theorem Bls.lt (h : Bls w g l) : g < w.heap.size := (Array.getElem?_eq_some_iff.1 h).1
theorem Bls.cell (h : Bls w g l) {k : Nat} (hk : k < l.length) : w.cell? ⟨g, k, none⟩ = some (.bool (sn l k)) := by
  rw [cell_of_row w g k _ _ _ h]
  unfold sn
  rw [List.getD_eq_getElem?_getD, List.getElem?_eq_getElem hk]
  simp [hk]
theorem Bls.free (h : Bls w g l) (k : Nat) : w.frozen? ⟨g, k, none⟩ = false := frozen_of_row w g k _ _ h
theorem Bls.set (h : Bls w g l) (k : Nat) (v : Bool) : Bls (w.setCell ⟨g, k, none⟩ (.bool v)) g (l.set k v) := by
  have := heap_setCell_same w g k _ _ (.bool v) h
  unfold Bls
  rw [this]
  congr 2
  apply Array.ext'
  simp [List.map_set]
theorem Bls.upd {S : Nat → Prop} (h : Bls w g l) (hu : Upd S w w') (hs : ¬ S g) : Bls w' g l := (hu.block g h.lt hs).trans h
end
theorem bool_info : (Try.prog.info? 4).map (fun i => (i.zero, i.size, i.bytes)) = some (some (.bool false), 1, 1) := by kernel_rfl
/-- 'make([]bool, n)'. -/
theorem mkbls (w : World) (n : Nat) (hn : n ≤ 1048576) : (Instr.makeSlice 60 (.int .i64 n) (.int .i64 n)).run Try.prog w = .ok (.slice (some ⟨w.heap.size, 0, none⟩) n n) (w.alloc (.cells (Array.replicate n (Value.bool false)) 4)) := by
  obtain ⟨i0, hi0, hz0, hz1, hz2⟩ := info_parts bool_info
  have h := run_makeSlice (P := Try.prog) w 60 4 i0 (.bool false) Try.underlying60 hi0 hz0 .i64 .i64 n n (by omega) (by omega) (by rw [hz1]; omega) (by rw [hz2]; omega) (by omega)
  rw [hz1, Int.toNat_natCast, Nat.mul_one] at h
  have e : (madeCells (Value.bool false).cells n).toList = _ := toList_madeCells_one _ n
  have e2 : madeCells (Value.bool false).cells n = Array.replicate n (Value.bool false) := Array.ext' (by rw [e]; simp)
  rw [h, e2]
theorem made_bls (w : World) (n : Nat) : Bls (w.alloc (.cells (Array.replicate n (Value.bool false)) 4)) w.heap.size (List.replicate n false) := by
  have := heap_alloc_new w (.cells (Array.replicate n (Value.bool false)) 4)
  unfold Bls
  rw [this]
  congr 2
  apply Array.ext'
  simp
/-- The rows of neighbours, to be read, in blocks of F. -/
structure NearF (w : World) (F : Nat → Prop) (N : Nat) (rows : List (List Nat)) : Prop where
  at_ : F N
  row : ∀ (a : Nat) (l : List Nat), rows[a]? = some l → ∃ A c, w.cell? ⟨N, a, none⟩ = some (.slice A l.length c) ∧ ∀ (k : Nat) (h : k < l.length), ∃ g, A = some ⟨g, 0, none⟩ ∧ F g ∧ w.cell? ⟨g, k, none⟩ = some (.int .i64 (l[k] : Int))
theorem NearF.keep {w w' : World} {F : Nat → Prop} {N : Nat} {rows : List (List Nat)} (h : NearF w F N rows) (hk : ∀ p : Addr, F p.block → w'.cell? p = w.cell? p) : NearF w' F N rows :=
  ⟨h.at_, fun a l hl => by
    obtain ⟨A, c, h1, h2⟩ := h.row a l hl
    exact ⟨A, c, (hk _ h.at_).trans h1, fun k hkl => by
      obtain ⟨g, e, hg, h3⟩ := h2 k hkl
      exact ⟨g, e, hg, (hk _ hg).trans h3⟩⟩⟩
theorem Nears.readF {w : World} {N : Nat} {rows : List (List Nat)} {vs : List Value} (h : Nears w N rows vs) : NearF w (fun k => N ≤ k ∧ k < w.heap.size) N rows :=
  ⟨⟨Nat.le_refl _, h.lt⟩, fun a l hl => by
    have ha : a < vs.length := by rw [h.len]; exact (List.getElem?_eq_some_iff.1 hl).1
    have ho := h.own a vs[a] l (List.getElem?_eq_getElem ha) hl
    have hc := h.cell ha
    obtain ⟨A, c, hv⟩ := own_shape ho
    rw [hv] at hc ho
    refine ⟨A, c, hc, fun k hk => ?_⟩
    obtain ⟨g, cap, e, hgN, hg, _⟩ := own_form ho (by omega)
    injection e with e _ _
    subst e
    have h1 := ho.cells (g := g) rfl k _ (natv_get l k hk)
    rw [add_zero_off] at h1
    exact ⟨g, rfl, ⟨by omega, hg⟩, h1⟩⟩
/-- The reference's search in memory: block P; N: the rows of neighbours; W: the A of each B; Z: the marks. -/
structure SrchA (w : World) (F : Nat → Prop) (P N W Z n m : Nat) (rows : List (List Nat)) (wi : List Int) (seen : List Bool) : Prop where
  blk : w.heap[P]? = some (.cells #[.slice (some ⟨N, 0, none⟩) n n, .slice (some ⟨W, 0, none⟩) m m, .slice (some ⟨Z, 0, none⟩) m m] 62 (0, 0))
  nr : NearF w F N rows
  iwi : Ints w W wi
  isn : Bls w Z seen
  flt : ∀ k, F k → k < w.heap.size
  pB : ¬ F P
  wB : ¬ F W
  zB : ¬ F Z
  pw : P ≠ W
  pz : P ≠ Z
  wz : W ≠ Z
  lw : wi.length = m
  lz : seen.length = m
  lr : rows.length = n
  nb : ∀ a b, b ∈ nearOf rows a → b < m
  wb : ∀ b, 0 ≤ gi wi b → gi wi b < n
section
variable {w w' : World} {F : Nat → Prop} {P N W Z n m : Nat} {rows : List (List Nat)} {wi : List Int} {seen : List Bool} {S : Nat → Prop}
theorem SrchA.plt (h : SrchA w F P N W Z n m rows wi seen) : P < w.heap.size := (Array.getElem?_eq_some_iff.1 h.blk).1
theorem SrchA.c0 (h : SrchA w F P N W Z n m rows wi seen) : w.cell? ⟨P, 0, none⟩ = some (.slice (some ⟨N, 0, none⟩) n n) := by rw [cell_of_row w P 0 _ _ _ h.blk]; rfl
theorem SrchA.c1 (h : SrchA w F P N W Z n m rows wi seen) : w.cell? ⟨P, 1, none⟩ = some (.slice (some ⟨W, 0, none⟩) m m) := by rw [cell_of_row w P 1 _ _ _ h.blk]; rfl
theorem SrchA.c2 (h : SrchA w F P N W Z n m rows wi seen) : w.cell? ⟨P, 2, none⟩ = some (.slice (some ⟨Z, 0, none⟩) m m) := by rw [cell_of_row w P 2 _ _ _ h.blk]; rfl
theorem SrchA.row (h : SrchA w F P N W Z n m rows wi seen) {a : Nat} (ha : a < n) : rows[a]? = some (nearOf rows a) := by
  have : a < rows.length := by rw [h.lr]; exact ha
  unfold nearOf
  rw [List.getD_eq_getElem?_getD, List.getElem?_eq_getElem this]
  rfl
theorem SrchA.near (h : SrchA w F P N W Z n m rows wi seen) {a : Nat} (ha : a < n) :
    ∃ A c, w.cell? ⟨N, a, none⟩ = some (.slice A (nearOf rows a).length c) ∧ ∀ (k : Nat) (hk : k < (nearOf rows a).length), ∃ g, A = some ⟨g, 0, none⟩ ∧ F g ∧ w.cell? ⟨g, k, none⟩ = some (.int .i64 ((nearOf rows a)[k] : Int)) :=
  h.nr.row a _ (h.row ha)
theorem SrchA.upd (h : SrchA w F P N W Z n m rows wi seen) (hu : Upd S w w') (h0 : ∀ k, F k → ¬ S k) (hP : ¬ S P) (hW : ¬ S W) (hZ : ¬ S Z) : SrchA w' F P N W Z n m rows wi seen :=
  ⟨(hu.block P h.plt hP).trans h.blk, h.nr.keep fun p hp => hu.cell (h.flt _ hp) (h0 _ hp), h.iwi.upd hu hW, h.isn.upd hu hZ, fun k hk => Nat.lt_of_lt_of_le (h.flt k hk) hu.size, h.pB, h.wB, h.zB, h.pw, h.pz, h.wz, h.lw, h.lz, h.lr, h.nb, h.wb⟩
theorem SrchA.setWi (h : SrchA w F P N W Z n m rows wi seen) (b a : Nat) (hb : b < m) (ha : a < n) : SrchA (w.setCell ⟨W, b, none⟩ (.int .i64 (a : Int))) F P N W Z n m rows (wi.set b (a : Int)) seen := by
  have hu : Upd (fun k => k = W) w (w.setCell ⟨W, b, none⟩ (.int .i64 (a : Int))) := (Upd.refl (fun k => k = W) w).setCell ⟨W, b, none⟩ rfl _
  refine ⟨(hu.block P h.plt h.pw).trans h.blk, h.nr.keep fun p hp => hu.cell (h.flt _ hp) (fun e => h.wB (e ▸ hp)), h.iwi.set b _, h.isn.upd hu (fun e => h.wz e.symm), fun k hk => Nat.lt_of_lt_of_le (h.flt k hk) hu.size, h.pB, h.wB, h.zB, h.pw, h.pz, h.wz, by rw [List.length_set]; exact h.lw, h.lz, h.lr, h.nb, fun c hc => ?_⟩
  rw [gi_set (by rw [h.lw]; exact hb)] at hc ⊢
  split
  · omega
  · rename_i e
    rw [if_neg e] at hc
    exact h.wb c hc
theorem SrchA.setSn (h : SrchA w F P N W Z n m rows wi seen) (b : Nat) : SrchA (w.setCell ⟨Z, b, none⟩ (.bool true)) F P N W Z n m rows wi (seen.set b true) := by
  have hu : Upd (fun k => k = Z) w (w.setCell ⟨Z, b, none⟩ (.bool true)) := (Upd.refl (fun k => k = Z) w).setCell ⟨Z, b, none⟩ rfl _
  exact ⟨(hu.block P h.plt h.pz).trans h.blk, h.nr.keep fun p hp => hu.cell (h.flt _ hp) (fun e => h.zB (e ▸ hp)), h.iwi.upd hu h.wz, h.isn.set b true, fun k hk => Nat.lt_of_lt_of_le (h.flt k hk) hu.size, h.pB, h.wB, h.zB, h.pw, h.pz, h.wz, h.lw, by rw [List.length_set]; exact h.lz, h.lr, h.nb, h.wb⟩
end
def TryS (W Z k : Nat) : Prop := k = W ∨ k = Z
def TryEnd (rows : List (List Nat)) (f a b : Nat) (l : List Nat) (r : Bool × TSt) (bb : Bool) (s2 : TSt) : Prop :=
  (bb = true ∧ r = (true, { s2 with wi := s2.wi.set b a })) ∨ (bb = false ∧ tryL (tryF (nearOf rows) f) a l s2 = some r)
/-- What is told behind the test of one neighbour. -/
def TryCut (w : World) (F : Nat → Prop) (P N W Z n m : Nat) (rows : List (List Nat)) (f a b : Nat) (l : List Nat) (r : Bool × TSt) (bb : Bool) (wc : World) : Prop :=
  ∃ s2 : TSt, SrchA wc F P N W Z n m rows s2.wi s2.seen ∧ Upd (TryS W Z) w wc ∧ TryEnd rows f a b l r bb s2
attribute [local go_sem] undef in
set_option maxHeartbeats 8000000 in
set_option maxRecDepth 20000 in
theorem try_any (F : Nat → Prop) (P N W Z n m : Nat) (rows : List (List Nat)) (hn : n ≤ 200) (hm : m ≤ 200) : ∀ (f : Nat) (w : World) (a : Nat) (s : TSt) (r : Bool × TSt), tryF (nearOf rows) f a s = some r → a < n →
    SrchA w F P N W Z n m rows s.wi s.seen → (∀ a, (nearOf rows a).length ≤ 1048576) →
    Calls Try.prog 22 #[.pointer (some ⟨P, 0, none⟩), .int .i64 a] w fun e w' => e = .returned (.bool r.1) ∧ SrchA w' F P N W Z n m rows r.2.wi r.2.seen ∧ Upd (TryS W Z) w w' := by
  intro f
  induction f with
  | zero => intro w a s r h; cases h
  | succ f ih =>
    intro w a s r hg ha hA hlens
    have IH := Lib.hid ih
    have HLN := Lib.hid hlens
    have hlen := hlens a
    clear ih hlens
    unfold tryF at hg
    obtain ⟨A, c, hcN, hrow⟩ := hA.near ha
    have HROW := Lib.hid hrow
    obtain ⟨L, hL⟩ : ∃ L, L = (nearOf rows a).length := ⟨_, rfl⟩
    rw [← hL] at hcN hlen
    have HL := Lib.hid hL
    have c0 := hA.c0
    have HG := Lib.hid hg
    have HA := Lib.hid hA
    clear hrow hL hg hA
    go_enter Try.func22, Try.ntmps22
    go_wp2
    go_loopw [15] (fun i wx => ∃ (j : Nat) (s' : TSt), j ≤ L ∧ i = .int .i64 j ∧ Hid (tryL (tryF (nearOf rows) f) a ((nearOf rows a).drop j) s' = some r) ∧ SrchA wx F P N W Z n m rows s'.wi s'.seen ∧ Upd (TryS W Z) w wx) (fun i _ => L - (intOf i).toNat)
    case atStart => exact ⟨0, s, Nat.zero_le _, rfl, HG.out, HA.out, Upd.refl _ _⟩
    case round =>
      obtain ⟨j, s', hj, rfl, hg, hA, hu⟩ := hrel
      clear c0 hcN
      have c1 := hA.c1
      have c2 := hA.c2
      by_cases hlt : j < L
      · have hlt' : j < (nearOf rows a).length := by rw [← HL.out]; exact hlt
        obtain ⟨g, hAg, hgB, hcell⟩ := HROW.out j hlt'
        subst hAg
        obtain ⟨b, hb⟩ : ∃ b, (nearOf rows a)[j] = b := ⟨_, rfl⟩
        have hbm : b < m := hA.nb a b (by rw [← hb]; exact List.getElem_mem hlt')
        rw [hb] at hcell
        have hdrop : (nearOf rows a).drop j = b :: (nearOf rows a).drop (j + 1) := by rw [List.drop_eq_getElem_cons hlt', hb]
        have hcB : wr.cell? ⟨g, j, none⟩ = some (.int .i64 (b : Int)) := (hu.cell (p := ⟨g, j, none⟩) (HA.out.flt g hgB) (by
          rintro (e | e)
          · exact hA.wB (e ▸ hgB)
          · exact hA.zB (e ▸ hgB))).trans hcell
        have hsb := hA.isn.cell (k := b) (by rw [hA.lz]; exact hbm)
        have hsf := hA.isn.free b
        have hg' := hg.out
        rw [hdrop, tryL] at hg'
        obtain ⟨q, hq⟩ : ∃ q, sn s'.seen b = q := ⟨_, rfl⟩
        rw [hq] at hsb hg'
        clear hb hcell hdrop hg hq
        cases q with
        | true =>
          rw [if_pos rfl] at hg'
          have HR := Lib.hid hg'
          clear hg'
          go_wp2
          go_roundw
          case rel => exact ⟨j + 1, s', by omega, by go_num, HR, hA, hu⟩
          case measure => simp [intOf]; omega
        | false =>
          rw [if_neg (by decide)] at hg'
          have hA2 := hA.setSn b
          have hu2 : Upd (TryS W Z) w (wr.setCell ⟨Z, b, none⟩ (.bool true)) := hu.setCell ⟨Z, b, none⟩ (.inr rfl) _
          have d0 := hA2.c0
          have d1 := hA2.c1
          have hwb := hA2.iwi.cell (k := b) (by rw [hA2.lw]; exact hbm)
          obtain ⟨x, hx⟩ : ∃ x, gi s'.wi b = x := ⟨_, rfl⟩
          rw [hx] at hwb hg'
          have hxn := hA2.wb b
          rw [hx] at hxn
          have HX := Lib.hid hx
          clear hA hu hx
          go_upto_region 6 with (fail)
          generalize wr.setCell ⟨Z, b, none⟩ (.bool true) = w3 at hA2 hu2 d0 d1 hwb ⊢
          go_cut [50] (fun v wc => ∃ bb : Bool, v = .bool bb ∧ Hid (TryCut w F P N W Z n m rows f a b ((nearOf rows a).drop (j + 1)) r bb wc))
          case first =>
            by_cases hneg : x < 0
            · rw [if_pos hneg] at hg'
              injection hg' with hg'
              have HR := Lib.hid hg'
              have b1 : decide (x < 0) = true := decide_eq_true hneg
              clear hg'
              go_wp2
              go_meet
              case rel => exact ⟨true, rfl, Lib.hid ⟨⟨s'.wi, s'.seen.set b true⟩, hA2, hu2, .inl ⟨rfl, HR.out.symm⟩⟩⟩
            · rw [if_neg hneg] at hg'
              have b1 : decide (x < 0) = false := decide_eq_false hneg
              obtain ⟨q, rfl⟩ : ∃ q : Nat, x = (q : Int) := ⟨x.toNat, by omega⟩
              have hqn : q < n := by omega
              rw [Int.toNat_natCast] at hg'
              obtain ⟨bb, s2, hstep, hend⟩ : ∃ bb s2, tryF (nearOf rows) f q { s' with seen := s'.seen.set b true } = some (bb, s2) ∧ TryEnd rows f a b ((nearOf rows a).drop (j + 1)) r bb s2 := by
                cases hq : tryF (nearOf rows) f q { s' with seen := s'.seen.set b true } with
                | none => rw [hq] at hg'; cases hg'
                | some p =>
                  obtain ⟨bb, s2⟩ := p
                  rw [hq] at hg'
                  cases bb with
                  | true => simp only [Option.some.injEq] at hg'; exact ⟨true, s2, rfl, .inl ⟨rfl, hg'.symm⟩⟩
                  | false => exact ⟨false, s2, rfl, .inr ⟨rfl, hg'⟩⟩
              have HC := Lib.hid (IH.out w3 q _ (bb, s2) hstep hqn hA2 HLN.out)
              have HEND := Lib.hid hend
              have HU := Lib.hid hu2
              clear hg' hend hstep hA2 hu2
              go_wp2_with fail
              refine HC.out.mono ?_
              rintro e w2 ⟨rfl, h1, h2⟩
              have hu3 : Upd (TryS W Z) w w2 := HU.out.trans h2 (fun _ _ h => h)
              clear c1 c2 hcB d0 d1 hwb hsb hsf
              cases bb
              all_goals
                go_wp2
                go_meet
                case rel => exact ⟨_, rfl, Lib.hid ⟨s2, h1, hu3, HEND.out⟩⟩
          case rest =>
            obtain ⟨bb, rfl, hcut⟩ := hcut
            obtain ⟨s2, hA4, hu4, hend⟩ := hcut.out
            have HEND := Lib.hid hend
            clear hcut hg' hA2 hu2 c1 c2 hcB hend hxn HX hwb hsb hsf d0 d1
            have c1 := hA4.c1
            cases bb with
            | true =>
              have hr : r = (true, { s2 with wi := s2.wi.set b a }) := by
                rcases HEND.out with ⟨_, h⟩ | ⟨h, _⟩
                · exact h
                · cases h
              subst hr
              clear HEND
              have hA5 := hA4.setWi b a hbm ha
              have hu5 : Upd (TryS W Z) w (wc.setCell ⟨W, b, none⟩ (.int .i64 (a : Int))) := hu4.setCell ⟨W, b, none⟩ (.inl rfl) _
              have p0 := hA4.iwi.cell (k := b) (by rw [hA4.lw]; exact hbm)
              have p1 := hA4.iwi.free b
              have HA5 := Lib.hid hA5
              have HU5 := Lib.hid hu5
              clear hA5 hu5 hA4 hu4
              go_wp2
              go_ret
              exact ⟨rfl, HA5.out, HU5.out⟩
            | false =>
              have hr : tryL (tryF (nearOf rows) f) a ((nearOf rows a).drop (j + 1)) s2 = some r := by
                rcases HEND.out with ⟨h, _⟩ | ⟨_, h⟩
                · cases h
                · exact h
              have HR := Lib.hid hr
              clear HEND hr
              go_wp2
              go_roundw
              case rel => exact ⟨j + 1, s2, by omega, by go_num, HR, hA4, hu4⟩
              case measure => simp [intOf]; omega
      · obtain rfl : j = L := by omega
        have hg' := hg.out
        rw [HL.out, List.drop_length, tryL] at hg'
        injection hg' with hg'
        subst hg'
        clear hg
        go_wp2
        go_ret
        exact ⟨rfl, hA, hu⟩
end Go.Proofs.Ytmekcpbcgelliaa
