/- Matchings: reached, its closure, walked. -/
import Derived.Test.YtkhboengcbgooaaMtCalls
import Derived.StillTailTactics
namespace Go.Proofs.Ytkhboengcbgooaa
open Go.RowKit
/-- What the closure sees. -/
structure RAt (w : World) (B P G N O W : Nat) (dv : Value) (n m : Nat) (rows : List (List Nat)) (of wi : List Int) (Z C4 C5 F RA RB : Nat) (st : RSt) : Prop where
  pa : PairA w B P G N O W dv n m rows of wi
  z : w.heap[Z]? = some (.cells #[.pointer (some ⟨P, 0, none⟩)] 44 (0, 0))
  a : w.heap[C4]? = some (.cells #[.slice (some ⟨RA, 0, none⟩) n n] 35 (0, 0))
  b : w.heap[C5]? = some (.cells #[.slice (some ⟨RB, 0, none⟩) m m] 35 (0, 0))
  f : w.heap[F]? = some (.cells #[.func (.func 26) #[] #[.pointer (some ⟨C4, 0, none⟩), .pointer (some ⟨Z, 0, none⟩), .pointer (some ⟨C5, 0, none⟩), .pointer (some ⟨F, 0, none⟩)]] 66 (0, 0))
  ia : Ints w RA st.xa
  ib : Ints w RB st.bs
  la : st.xa.length = n
  lb : st.bs.length = m
  neA : RA ≠ RB ∧ RA ≠ Z ∧ RA ≠ C4 ∧ RA ≠ C5 ∧ RA ≠ F ∧ RA ≠ P ∧ RA ≠ O ∧ RA ≠ W ∧ B ≤ RA
  neB : RB ≠ Z ∧ RB ≠ C4 ∧ RB ≠ C5 ∧ RB ≠ F ∧ RB ≠ P ∧ RB ≠ O ∧ RB ≠ W ∧ B ≤ RB
def ReachS (RA RB k : Nat) : Prop := k = RA ∨ k = RB
section
variable {w w' : World} {B P G N O W : Nat} {dv : Value} {n m : Nat} {rows : List (List Nat)} {of wi : List Int} {Z C4 C5 F RA RB : Nat} {st : RSt}
theorem RAt.cz (h : RAt w B P G N O W dv n m rows of wi Z C4 C5 F RA RB st) : w.cell? ⟨Z, 0, none⟩ = some (.pointer (some ⟨P, 0, none⟩)) := by rw [cell_of_row w _ 0 _ _ _ h.z]; rfl
theorem RAt.ca (h : RAt w B P G N O W dv n m rows of wi Z C4 C5 F RA RB st) : w.cell? ⟨C4, 0, none⟩ = some (.slice (some ⟨RA, 0, none⟩) n n) := by rw [cell_of_row w _ 0 _ _ _ h.a]; rfl
theorem RAt.cb (h : RAt w B P G N O W dv n m rows of wi Z C4 C5 F RA RB st) : w.cell? ⟨C5, 0, none⟩ = some (.slice (some ⟨RB, 0, none⟩) m m) := by rw [cell_of_row w _ 0 _ _ _ h.b]; rfl
theorem RAt.cf (h : RAt w B P G N O W dv n m rows of wi Z C4 C5 F RA RB st) : w.cell? ⟨F, 0, none⟩ = some (.func (.func 26) #[] #[.pointer (some ⟨C4, 0, none⟩), .pointer (some ⟨Z, 0, none⟩), .pointer (some ⟨C5, 0, none⟩), .pointer (some ⟨F, 0, none⟩)]) := by rw [cell_of_row w _ 0 _ _ _ h.f]; rfl
theorem RAt.setA (h : RAt w B P G N O W dv n m rows of wi Z C4 C5 F RA RB st) (x : Nat) : RAt (w.setCell ⟨RA, x, none⟩ (.int .i64 1)) B P G N O W dv n m rows of wi Z C4 C5 F RA RB { st with xa := st.xa.set x 1 } := by
  have hu : Upd (fun k => k = RA) w (w.setCell ⟨RA, x, none⟩ (.int .i64 1)) := (Upd.refl (fun k => k = RA) w).setCell ⟨RA, x, none⟩ rfl _
  obtain ⟨h1, h2, h3, h4, h5, h6, h7, h8, h9⟩ := h.neA
  have lt : ∀ {k : Nat} {o : Obj}, w.heap[k]? = some o → k < w.heap.size := fun h => (Array.getElem?_eq_some_iff.1 h).1
  exact ⟨h.pa.upd hu (fun k hk e => by omega) (fun e => h6 e.symm) (fun e => h7 e.symm) (fun e => h8 e.symm), (hu.block _ (lt h.z) (fun e => h2 e.symm)).trans h.z, (hu.block _ (lt h.a) (fun e => h3 e.symm)).trans h.a, (hu.block _ (lt h.b) (fun e => h4 e.symm)).trans h.b, (hu.block _ (lt h.f) (fun e => h5 e.symm)).trans h.f, h.ia.set x 1, h.ib.upd hu (fun e => h1 e.symm), by show (st.xa.set x 1).length = n; rw [List.length_set]; exact h.la, h.lb, h.neA, h.neB⟩
theorem RAt.setB (h : RAt w B P G N O W dv n m rows of wi Z C4 C5 F RA RB st) (x : Nat) : RAt (w.setCell ⟨RB, x, none⟩ (.int .i64 1)) B P G N O W dv n m rows of wi Z C4 C5 F RA RB { st with bs := st.bs.set x 1 } := by
  have hu : Upd (fun k => k = RB) w (w.setCell ⟨RB, x, none⟩ (.int .i64 1)) := (Upd.refl (fun k => k = RB) w).setCell ⟨RB, x, none⟩ rfl _
  obtain ⟨h2, h3, h4, h5, h6, h7, h8, h9⟩ := h.neB
  have lt : ∀ {k : Nat} {o : Obj}, w.heap[k]? = some o → k < w.heap.size := fun h => (Array.getElem?_eq_some_iff.1 h).1
  exact ⟨h.pa.upd hu (fun k hk e => by omega) (fun e => h6 e.symm) (fun e => h7 e.symm) (fun e => h8 e.symm), (hu.block _ (lt h.z) (fun e => h2 e.symm)).trans h.z, (hu.block _ (lt h.a) (fun e => h3 e.symm)).trans h.a, (hu.block _ (lt h.b) (fun e => h4 e.symm)).trans h.b, (hu.block _ (lt h.f) (fun e => h5 e.symm)).trans h.f, h.ia.upd hu h.neA.1, h.ib.set x 1, h.la, by show (st.bs.set x 1).length = m; rw [List.length_set]; exact h.lb, h.neA, h.neB⟩
theorem RAt.drew (h : RAt w B P G N O W dv n m rows of wi Z C4 C5 F RA RB st) : RAt w.drew B P G N O W dv n m rows of wi Z C4 C5 F RA RB st :=
  ⟨h.pa.drew, h.z, h.a, h.b, h.f, h.ia, h.ib, h.la, h.lb, h.neA, h.neB⟩
end
set_option maxHeartbeats 8000000 in
set_option maxRecDepth 20000 in
theorem walk_any (B P G N O W n m : Nat) (dv : Value) (rows : List (List Nat)) (of wi : List Int) (Z C4 C5 F RA RB : Nat) (hn : n ≤ 200) (hm : m ≤ 200) (Zc : Nat → Prop) (hZn : ∀ a, Zc a → a < n) (hZc : ∀ a b, b ∈ nearOf rows a → Zc a → 0 ≤ gi wi b ∧ Zc (gi wi b).toNat) (hlens : ∀ a, (nearOf rows a).length ≤ 1048576) :
    ∀ (f : Nat) (w : World) (a : Nat) (st r : RSt), reachF (nearOf rows) wi f a st = some r → Zc a → RAt w B P G N O W dv n m rows of wi Z C4 C5 F RA RB st →
    Calls Try.prog 26 #[.int .i64 a, .pointer (some ⟨C4, 0, none⟩), .pointer (some ⟨Z, 0, none⟩), .pointer (some ⟨C5, 0, none⟩), .pointer (some ⟨F, 0, none⟩)] w fun e w' => e = .returned (.tuple #[]) ∧ RAt w' B P G N O W dv n m rows of wi Z C4 C5 F RA RB r ∧ Upd (ReachS RA RB) w w' := by
  intro f
  induction f with
  | zero => intro w a st r h; cases h
  | succ f ih =>
    intro w a st r hg hza hR
    have IH := Lib.hid ih
    have HLN := Lib.hid hlens
    have HZC := Lib.hid hZc
    have ha := hZn a hza
    clear ih hlens hZc hZn
    unfold reachF at hg
    have cz := hR.cz
    have ca := hR.ca
    have a0 := hR.ia.cell (k := a) (by rw [hR.la]; exact ha)
    have a1 := hR.ia.free a
    obtain ⟨x, hx⟩ : ∃ x, gi st.xa a = x := ⟨_, rfl⟩
    rw [hx] at a0 hg
    by_cases hpos : 0 < x
    · rw [if_pos hpos] at hg
      injection hg with hg
      subst hg
      have b1 : decide (x > 0) = true := decide_eq_true hpos
      have HR := Lib.hid hR
      clear hR hx hza
      go_enter Try.func26, Try.ntmps26
      go_wp2
      refine bodyPost_ret (results_none rfl _ _ _) rfl ?_
      exact ⟨rfl, HR.out, Upd.refl _ _⟩
    · rw [if_neg hpos] at hg
      have b1 : decide (x > 0) = false := decide_eq_false hpos
      have hR2 := hR.setA a
      have hu2 : Upd (ReachS RA RB) w (w.setCell ⟨RA, a, none⟩ (.int .i64 1)) := (Upd.refl _ w).setCell ⟨RA, a, none⟩ (.inl rfl) _
      have cz2 := hR2.cz
      have c0 := hR2.pa.c0
      have g0 := hR2.pa.g.c0
      obtain ⟨A, c, hcN, hrow⟩ := hR2.pa.near ha
      have HROW := Lib.hid hrow
      obtain ⟨L, hL⟩ : ∃ L, L = (nearOf rows a).length := ⟨_, rfl⟩
      have hlen := HLN.out a
      rw [← hL] at hcN hlen
      have HL := Lib.hid hL
      have HG := Lib.hid hg
      have HR2 := Lib.hid hR2
      have HU2 := Lib.hid hu2
      have HZ := Lib.hid hza
      clear hrow hL hg hR2 hu2 hR hx hza
      go_enter Try.func26, Try.ntmps26
      go_wp2
      generalize w.setCell ⟨RA, a, none⟩ (.int .i64 1) = w2 at HR2 HU2 cz2 c0 g0 hcN HROW ⊢
      go_loopw [27] (fun i wx => ∃ (j : Nat) (s' : RSt), j ≤ L ∧ i = .int .i64 j ∧ Hid (reachL wi (reachF (nearOf rows) wi f) ((nearOf rows a).drop j) s' = some r) ∧ RAt wx B P G N O W dv n m rows of wi Z C4 C5 F RA RB s' ∧ Upd (ReachS RA RB) w2 wx) (fun i _ => L - (intOf i).toNat)
      case atStart => exact ⟨0, _, Nat.zero_le _, rfl, Lib.hid (by rw [List.drop_zero]; exact HG.out), HR2.out, Upd.refl _ _⟩
      case round =>
        have HB2 := Lib.hid HR2.out.pa.Blt
        clear cz ca a0 a1 cz2 c0 g0 hcN HR2
        obtain ⟨j, s', hj, rfl, hg, hR, hu⟩ := hrel
        by_cases hlt : j < L
        · have hlt' : j < (nearOf rows a).length := by rw [← HL.out]; exact hlt
          obtain ⟨g, hAg, hgB, hcell⟩ := HROW.out j hlt'
          subst hAg
          obtain ⟨b, hb⟩ : ∃ b, (nearOf rows a)[j] = b := ⟨_, rfl⟩
          have hmem : b ∈ nearOf rows a := by rw [← hb]; exact List.getElem_mem hlt'
          have hbm : b < m := hR.pa.nb a b hmem
          rw [hb] at hcell
          have hdrop : (nearOf rows a).drop j = b :: (nearOf rows a).drop (j + 1) := by rw [List.drop_eq_getElem_cons hlt', hb]
          have hcB : wr.cell? ⟨g, j, none⟩ = some (.int .i64 (b : Int)) := (hu.cell (p := ⟨g, j, none⟩) (Nat.lt_of_lt_of_le hgB HB2.out) (by
            have := hR.neA.2.2.2.2.2.2.2.2
            have := hR.neB.2.2.2.2.2.2.2
            rintro (e | e) <;> simp only at e <;> omega)).trans hcell
          have cb := hR.cb
          have b0 := hR.ib.cell (k := b) (by rw [hR.lb]; exact hbm)
          have bf := hR.ib.free b
          have hg' := hg.out
          rw [hdrop, reachL] at hg'
          obtain ⟨y, hy⟩ : ∃ y, gi s'.bs b = y := ⟨_, rfl⟩
          rw [hy] at b0 hg'
          obtain ⟨hw0, hzw⟩ := HZC.out a b hmem HZ.out
          clear hdrop hb hcell hg hy
          by_cases hy0 : y = 0
          · rw [if_pos hy0] at hg'
            have b2 : (y == 0) = true := by rw [hy0]; rfl
            obtain ⟨q, hq⟩ : ∃ q : Nat, gi wi b = (q : Int) := ⟨(gi wi b).toNat, by omega⟩
            have hqn := hR.pa.wb b hw0
            have hwb := hR.pa.iwi.cell (k := b) (by rw [hR.pa.lw]; exact hbm)
            rw [hq, Int.toNat_natCast] at hg' hzw
            rw [hq] at hwb hqn
            obtain ⟨s2, hst, hnext⟩ : ∃ s2, reachF (nearOf rows) wi f q { s' with bs := s'.bs.set b 1 } = some s2 ∧ reachL wi (reachF (nearOf rows) wi f) ((nearOf rows a).drop (j + 1)) s2 = some r := by
              cases hc : reachF (nearOf rows) wi f q { s' with bs := s'.bs.set b 1 } with
              | none => rw [hc] at hg'; cases hg'
              | some s2 => rw [hc] at hg'; exact ⟨s2, rfl, hg'⟩
            have hR3 := hR.setB b
            have hu3 : Upd (ReachS RA RB) w2 (wr.setCell ⟨RB, b, none⟩ (.int .i64 1)) := hu.setCell ⟨RB, b, none⟩ (.inr rfl) _
            have HC := Lib.hid (IH.out (wr.setCell ⟨RB, b, none⟩ (.int .i64 1)).drew q _ s2 hst hzw hR3.drew)
            have d1 := hR3.cf
            have d2 := hR3.cz
            have d3 := hR3.pa.c2
            have d4 := hR3.pa.iwi.cell (k := b) (by rw [hR3.pa.lw]; exact hbm)
            rw [hq] at d4
            have HN := Lib.hid hnext
            have HU3 := Lib.hid hu3
            clear hg' hst hnext hR3 hu3 hR hu hq hzw hw0 hwb hy0
            go_upto_region 7 with (fail)
            generalize wr.setCell ⟨RB, b, none⟩ (.int .i64 1) = w3 at HC d1 d2 d3 d4 HU3 ⊢
            go_still_tail 8, (by kernel_rfl)
            change wpList _ _ _ _ _ w3.drew
            go_wp2_with fail
            refine HC.out.mono ?_
            rintro e w4 ⟨rfl, hR4, hu4⟩
            have hu5 : Upd (ReachS RA RB) w2 w4 := (HU3.out.drewN 1).trans hu4 (fun _ _ h => h)
            clear hu4 HC d1 d2 d3 d4 hcB cb b0 bf
            go_wp2
            go_roundw
            case rel => exact ⟨j + 1, s2, by omega, by go_num, HN, hR4, hu5⟩
            case measure => simp [intOf]; omega
          · rw [if_neg hy0] at hg'
            have b2 : (y == 0) = false := beq_eq_false_iff_ne.2 hy0
            have HN := Lib.hid hg'
            clear hg' hzw hw0 hy0
            go_wp2
            go_roundw
            case rel => exact ⟨j + 1, s', by omega, by go_num, HN, hR, hu⟩
            case measure => simp [intOf]; omega
        · have hjL : j = L := by omega
          have hg' := hg.out
          rw [hjL, HL.out, List.drop_length, reachL] at hg'
          injection hg' with hg'
          subst hg'
          have hu6 := HU2.out.trans hu (fun _ _ h => h)
          clear hg hu
          go_wp2
          go_end0
          exact ⟨rfl, hR, hu6⟩
end Go.Proofs.Ytkhboengcbgooaa
