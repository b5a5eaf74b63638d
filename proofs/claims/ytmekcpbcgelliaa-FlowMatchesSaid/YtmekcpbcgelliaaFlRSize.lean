/- Matchings: the reference's Size, walked. -/
import Derived.Test.YtmekcpbcgelliaaFlTry
import Derived.Deep.RegionHeld3
namespace Go.Proofs.Ytmekcpbcgelliaa
open Go.RowKit
theorem natE_ok {n m : Nat} {l : List Eg} (h : ∀ e ∈ l, inE n m e) : ∀ p ∈ natE l, p.1 < n ∧ p.2 < m := by
  intro p hp
  obtain ⟨e, he, rfl⟩ := List.mem_map.1 hp
  obtain ⟨h1, h2, h3, h4⟩ := h e he
  constructor
  · show e.1.toNat < n; omega
  · show e.2.toNat < m; omega
theorem drop_range {n j : Nat} (h : j < n) : (List.range n).drop j = j :: (List.range n).drop (j + 1) := by
  rw [List.drop_eq_getElem_cons (by simpa using h)]
  simp
/-- k numbers are laid, n - k are still to come. -/
def repN (k n : Nat) : List Int := List.replicate k (-1) ++ List.replicate (n - k) 0
theorem repN_len {k n : Nat} (h : k ≤ n) : (repN k n).length = n := by simp [repN]; omega
theorem repN_zero (n : Nat) : repN 0 n = List.replicate n 0 := by simp [repN]
theorem repN_full (n : Nat) : repN n n = List.replicate n (-1) := by simp [repN]
/-- The reference's search in memory, whatever its marks are. -/
structure SrchB (w : World) (F : Nat → Prop) (P N W n m : Nat) (rows : List (List Nat)) (wi : List Int) : Prop where
  blk : ∃ zv, w.heap[P]? = some (.cells #[.slice (some ⟨N, 0, none⟩) n n, .slice (some ⟨W, 0, none⟩) m m, zv] 62 (0, 0))
  nr : NearF w F N rows
  iwi : Ints w W wi
  flt : ∀ k, F k → k < w.heap.size
  pB : ¬ F P
  wB : ¬ F W
  pw : P ≠ W
  lw : wi.length = m
section
variable {w w' : World} {F : Nat → Prop} {P N W Z n m : Nat} {rows : List (List Nat)} {wi : List Int} {seen : List Bool} {S : Nat → Prop}
theorem SrchA.toB (h : SrchA w F P N W Z n m rows wi seen) : SrchB w F P N W n m rows wi := ⟨⟨_, h.blk⟩, h.nr, h.iwi, h.flt, h.pB, h.wB, h.pw, h.lw⟩
theorem SrchB.plt (h : SrchB w F P N W n m rows wi) : P < w.heap.size := by
  obtain ⟨_, h⟩ := h.blk
  exact (Array.getElem?_eq_some_iff.1 h).1
theorem SrchB.c1 (h : SrchB w F P N W n m rows wi) : w.cell? ⟨P, 1, none⟩ = some (.slice (some ⟨W, 0, none⟩) m m) := by
  obtain ⟨_, h⟩ := h.blk
  rw [cell_of_row w P 1 _ _ _ h]; rfl
theorem SrchB.upd (h : SrchB w F P N W n m rows wi) (hu : Upd S w w') (h0 : ∀ k, F k → ¬ S k) (hP : ¬ S P) (hW : ¬ S W) : SrchB w' F P N W n m rows wi := by
  obtain ⟨zv, hb⟩ := h.blk
  exact ⟨⟨zv, (hu.block P h.plt hP).trans hb⟩, h.nr.keep fun p hp => hu.cell (h.flt _ hp) (h0 _ hp), h.iwi.upd hu hW, fun k hk => Nat.lt_of_lt_of_le (h.flt k hk) hu.size, h.pB, h.wB, h.pw, h.lw⟩
theorem SrchB.setWi (h : SrchB w F P N W n m rows wi) (b : Nat) (v : Int) : SrchB (w.setCell ⟨W, b, none⟩ (.int .i64 v)) F P N W n m rows (wi.set b v) := by
  have hu : Upd (fun k => k = W) w (w.setCell ⟨W, b, none⟩ (.int .i64 v)) := (Upd.refl (fun k => k = W) w).setCell ⟨W, b, none⟩ rfl _
  obtain ⟨zv, hb⟩ := h.blk
  exact ⟨⟨zv, (hu.block P h.plt h.pw).trans hb⟩, h.nr.keep fun p hp => hu.cell (h.flt _ hp) (fun e => h.wB (e ▸ hp)), h.iwi.set b v, fun k hk => Nat.lt_of_lt_of_le (h.flt k hk) hu.size, h.pB, h.wB, h.pw, by rw [List.length_set]; exact h.lw⟩
/-- 's.seen = make(..)'. -/
theorem SrchB.setZ (h : SrchB w F P N W n m rows wi) (hz : Bls w Z seen) (hzF : ¬ F Z) (hpz : P ≠ Z) (hwz : W ≠ Z) (hlz : seen.length = m) (hlr : rows.length = n) (hnb : ∀ a b, b ∈ nearOf rows a → b < m) (hwb : ∀ b, 0 ≤ gi wi b → gi wi b < n) :
    SrchA (w.setCell ⟨P, 2, none⟩ (.slice (some ⟨Z, 0, none⟩) m m)) F P N W Z n m rows wi seen := by
  have hu : Upd (fun k => k = P) w (w.setCell ⟨P, 2, none⟩ (.slice (some ⟨Z, 0, none⟩) m m)) := (Upd.refl (fun k => k = P) w).setCell ⟨P, 2, none⟩ rfl _
  obtain ⟨zv, hb⟩ := h.blk
  exact ⟨heap_setCell_same w P 2 _ _ _ hb, h.nr.keep fun p hp => hu.cell (h.flt _ hp) (fun e => h.pB (e ▸ hp)), h.iwi.upd hu (fun e => h.pw e.symm), hz.upd hu (fun e => hpz e.symm), fun k hk => Nat.lt_of_lt_of_le (h.flt k hk) hu.size, h.pB, h.wB, hzF, h.pw, hpz, hwz, h.lw, hlz, hlr, hnb, hwb⟩
end
theorem repN_set {k n : Nat} (h : k < n) : (repN k n).set k (-1) = repN (k + 1) n := by
  unfold repN
  apply List.ext_getElem
  · simp; omega
  · intro i h1 h2
    rw [List.getElem_set]
    simp only [List.getElem_append, List.length_replicate, List.getElem_replicate]
    split
    · subst_vars
      simp
    · rename_i hne
      by_cases e : i < k
      · rw [dif_pos e, dif_pos (by omega)]
      · rw [dif_neg e, dif_neg (by omega)]
/-- What stands behind the making. -/
def SzCut (w : World) (n m : Nat) (l : List Eg) (P : Nat) (wc : World) : Prop :=
  ∃ F N W, SrchB wc F P N W n m (rowsOf n l) (List.replicate m 0) ∧ w.heap.size ≤ P ∧ w.heap.size ≤ W ∧ Below w.heap.size w wc
theorem SzCut.a {w w2 : World} {n m N : Nat} {l : List Eg} {vs : List Value} (h : Nears w2 N (rowsOf n l) vs) (hb : Below w.heap.size w w2) :
    SzCut w n m l (w2.heap.size + 1) ((w2.alloc (.cells (Array.replicate m (Value.int .i64 0)) 3)).alloc (.cells #[.slice (some ⟨N, 0, none⟩) n n, .slice (some ⟨w2.heap.size, 0, none⟩) m m, .slice none 0 0] 62)) := by
  have hz := hb.size
  have u1 : Upd (fun _ => False) w2 (w2.alloc (.cells (Array.replicate m (Value.int .i64 0)) 3)) := (Upd.refl _ _).alloc _
  have i1 := made_ints w2 m
  have z1 : (w2.alloc (.cells (Array.replicate m (Value.int .i64 0)) 3)).heap.size = w2.heap.size + 1 := by simp
  generalize w2.alloc (.cells (Array.replicate m (Value.int .i64 0)) 3) = w3 at u1 i1 z1 ⊢
  have u2 : Upd (fun _ => False) w3 (w3.alloc (.cells #[.slice (some ⟨N, 0, none⟩) n n, .slice (some ⟨w2.heap.size, 0, none⟩) m m, .slice none 0 0] 62)) := (Upd.refl _ _).alloc _
  have b2 := heap_alloc_new w3 (.cells #[.slice (some ⟨N, 0, none⟩) n n, .slice (some ⟨w2.heap.size, 0, none⟩) m m, .slice none 0 0] 62)
  rw [z1] at b2
  have u3 := u1.trans u2 (fun _ _ h => h)
  have hN := h.lt
  refine ⟨fun k => N ≤ k ∧ k < w2.heap.size, N, w2.heap.size, ⟨⟨_, b2⟩, h.readF.keep fun p hp => u3.cell hp.2 (fun h => h), i1.upd u2 (fun h => h), fun k hk => Nat.lt_of_lt_of_le hk.2 u3.size, by omega, by omega, by omega, by simp⟩, by omega, hz, hb.trans (u3.below (fun _ _ h => h) hz)⟩
theorem SzCut.b {w w2 : World} {n m N : Nat} {l : List Eg} {vs : List Value} (h : Nears w2 N (rowsOf n l) vs) (hb : Below w.heap.size w w2) (hN : N = w.heap.size + 1) (hW : Ints w2 w.heap.size (List.replicate m 0)) :
    SzCut w n m l w2.heap.size (w2.alloc (.cells #[.slice (some ⟨N, 0, none⟩) n n, .slice (some ⟨w.heap.size, 0, none⟩) m m, .slice none 0 0] 62)) := by
  have hz := hb.size
  have u2 : Upd (fun _ => False) w2 (w2.alloc (.cells #[.slice (some ⟨N, 0, none⟩) n n, .slice (some ⟨w.heap.size, 0, none⟩) m m, .slice none 0 0] 62)) := (Upd.refl _ _).alloc _
  have b2 := heap_alloc_new w2 (.cells #[.slice (some ⟨N, 0, none⟩) n n, .slice (some ⟨w.heap.size, 0, none⟩) m m, .slice none 0 0] 62)
  have hlt := hW.lt
  refine ⟨fun k => N ≤ k ∧ k < w2.heap.size, N, w.heap.size, ⟨⟨_, b2⟩, h.readF.keep fun p hp => u2.cell hp.2 (fun h => h), hW.upd u2 (fun h => h), fun k hk => Nat.lt_of_lt_of_le hk.2 u2.size, by omega, by omega, by omega, by simp⟩, hz, Nat.le_refl _, hb.trans (u2.below (fun _ _ h => h) hz)⟩
set_option maxHeartbeats 8000000 in
set_option maxRecDepth 20000 in
theorem rsize_any (w : World) (n m : Nat) (A : Option Addr) (k c : Nat) (l : List Eg) (hr : Rd w w.heap.size 2 A k (edgv l)) (hk : k ≤ 4000) (hn : n ≤ 200) (hm : m ≤ 200) (hall : ∀ e ∈ l, inE n m e) :
    Calls Try.prog 13 #[.int .i64 n, .int .i64 m, .slice A k c] w fun e w' => (∃ nu : Nat, NuIs (natE l) nu ∧ nu ≤ 200 ∧ e = .returned (.int .i64 nu)) ∧ Below w.heap.size w w' := by
  have HLENS : Hid (∀ a, (nearOf (rowsOf n l) a).length ≤ 1048576) := Lib.hid fun a => by have := near_len n a l.length l rfl; have := rd_edglen hr; omega
  have hbE := mem_near n m l.length l rfl hall
  have HNB : Hid (∀ a b, b ∈ nearOf (rowsOf n l) a → b < m) := Lib.hid fun a b h => (natE_ok hall _ ((hbE a b).1 h)).2
  obtain ⟨wi', k', hsz, hst⟩ := size_from hbE (fun p hp => (natE_ok hall p hp).2) n 0 _ _ sz_start
  rw [Nat.zero_add] at hst
  have HNU : Hid (NuIs (natE l) k' ∧ k' ≤ 200) := Lib.hid ⟨hst.nu fun p hp => (natE_ok hall p hp).1, Nat.le_trans (nu_le_left (fun p hp => (natE_ok hall p hp).1) (hst.nu fun p hp => (natE_ok hall p hp).1)) hn⟩
  rw [← List.range_eq_range'] at hsz
  have HSZ := Lib.hid hsz
  have HBE := Lib.hid hbE
  have hmk := fun w => mkints w m (by omega)
  have HC : Hid (∀ V, Below w.heap.size w V → Calls Try.prog 21 #[.int .i64 n, .slice A k c] V (fun e w' => e = .returned (.slice (some ⟨V.heap.size, 0, none⟩) n n) ∧ (∃ vs, Nears w' V.heap.size (rowsOf n l) vs) ∧ Below V.heap.size V w' ∧ Below w.heap.size w w')) := Lib.hid fun V hV => by
    refine (rrows_any V n m A k c l ((hr.below hV).mono hV.size) hk hn hall hm).mono ?_
    rintro e w' ⟨rfl, h1, h2⟩
    exact ⟨rfl, h1, h2, hV.trans (h2.mono hV.size)⟩
  have hb0 : Below w.heap.size w w.drew := ⟨rfl, rfl, rfl, Nat.le_refl _, fun _ _ => rfl⟩
  clear hr hall hbE hsz hst
  go_enter Try.func13, Try.ntmps13
  go_upto_region 1 with (fail)
  go_cut [7] (fun v wc => ∃ P, v = .pointer (some ⟨P, 0, none⟩) ∧ Hid (SzCut w n m l P wc))
  case first =>
    go_region_held3 (fun V => Below w.heap.size w V) (first | assumption | exact Below.alloc (by assumption) (Below.size (by assumption)) _ | fail) (first
      | (go_at_call 21; refine (HC.out _ (by assumption)).mono ?_; rintro e w2 ⟨rfl, hv1, hv2, hv3⟩)
      | fail)
    all_goals go_wp2
    all_goals go_meet
    all_goals (case rel =>
      obtain ⟨vs, hvs⟩ := hv1
      first
        | exact ⟨_, rfl, Lib.hid (SzCut.a hvs hv3)⟩
        | exact ⟨_, rfl, Lib.hid (SzCut.b (by simpa using hvs) hv3 rfl ((hv2.block w.heap.size (by simp)).trans (made_ints w m)))⟩)
  case rest =>
    obtain ⟨P, rfl, hcut⟩ := hcut
    obtain ⟨F, N, W, hS, hPz, hWz, hbc⟩ := hcut.out
    clear hcut hmk HC hb0
    have hp1 := hS.c1
    have hS0 := hS
    rw [← repN_zero] at hS0
    have HS := Lib.hid hS0
    have HBC := Lib.hid hbc
    clear hS hS0 hbc
    go_wp2
    go_loopw [23] (fun i wx => ∃ k : Nat, k ≤ m ∧ i = .int .i64 k ∧ SrchB wx F P N W n m (rowsOf n l) (repN k m) ∧ Below w.heap.size w wx) (fun i _ => m - (intOf i).toNat)
    case atStart => exact ⟨0, Nat.zero_le _, rfl, HS.out, HBC.out⟩
    case round =>
      clear HS HBC hp1
      obtain ⟨j, hj, rfl, hS, hb⟩ := hrel
      have hp1 := hS.c1
      by_cases hlt : j < m
      · have w0 := hS.iwi.cell (k := j) (by rw [hS.lw]; exact hlt)
        have w1 := hS.iwi.free j
        have hS2 := hS.setWi j (-1)
        rw [repN_set hlt] at hS2
        have hb2 := hb.setCell (p := ⟨W, j, none⟩) hWz (.int .i64 (-1))
        have HS2 := Lib.hid hS2
        clear hS hS2 hb
        go_wp2
        go_roundw
        case rel => exact ⟨j + 1, by omega, by go_num, HS2.out, hb2⟩
        case measure => simp [intOf]; omega
      · obtain rfl : j = m := by omega
        rw [repN_full] at hS
        have HS := Lib.hid hS
        have HB := Lib.hid hb
        clear hS hb hp1
        go_wp2
        go_loopw [9, 10] (fun sv av wx => ∃ (a : Nat) (wi : List Int) (k : Nat), a ≤ n ∧ av = .int .i64 a ∧ sv = .int .i64 k ∧ k ≤ a ∧ Hid (sizeF (nearOf (rowsOf n l)) j ((List.range n).drop a) wi k = some (wi', k')) ∧ (∀ b, 0 ≤ gi wi b → gi wi b < n) ∧ SrchB wx F P N W n j (rowsOf n l) wi ∧ Below w.heap.size w wx) (fun _ av _ => n - (intOf av).toNat)
        case atStart => exact ⟨0, _, 0, Nat.zero_le _, rfl, rfl, Nat.le_refl _, Lib.hid (by rw [List.drop_zero]; exact HSZ.out), (fun b h => by rw [gi_rep] at h; omega), HS.out, HB.out⟩
        case round =>
          clear HS HB
          obtain ⟨a, wi, q, ha, rfl, rfl, hqa, hg, hwb, hS, hb⟩ := hrel
          by_cases hlt2 : a < n
          · have hg' := hg.out
            rw [drop_range hlt2, sizeF] at hg'
            obtain ⟨r, s', ht, hnext⟩ : ∃ r s', tryF (nearOf (rowsOf n l)) (j + 1) a ⟨wi, List.replicate j false⟩ = some (r, s') ∧ sizeF (nearOf (rowsOf n l)) j ((List.range n).drop (a + 1)) s'.wi (if r then q + 1 else q) = some (wi', k') := by
              cases hc : tryF (nearOf (rowsOf n l)) (j + 1) a ⟨wi, List.replicate j false⟩ with
              | none => rw [hc] at hg'; cases hg'
              | some p =>
                obtain ⟨r, s'⟩ := p
                rw [hc] at hg'
                cases r <;> exact ⟨_, s', rfl, hg'⟩
            have hzl := made_bls wr j
            have hmb := fun w => mkbls w j (by omega)
            have u1 : Upd (fun _ => False) wr (wr.alloc (.cells (Array.replicate j (Value.bool false)) 4)) := (Upd.refl _ _).alloc _
            have hplt := hS.plt
            have hwlt := hS.iwi.lt
            have hS1 := hS.upd u1 (fun _ _ h => h) (fun h => h) (fun h => h)
            have hfl := hS.flt
            have z1 : wr.heap.size < (wr.alloc (.cells (Array.replicate j (Value.bool false)) 4)).heap.size := by simp
            have hb1 : Below w.heap.size w (wr.alloc (.cells (Array.replicate j (Value.bool false)) 4)) := hb.alloc hb.size _
            obtain ⟨zv, hzb⟩ := hS1.blk
            have p2 : (wr.alloc (.cells (Array.replicate j (Value.bool false)) 4)).cell? ⟨P, 2, none⟩ = some zv := by rw [cell_of_row _ P 2 _ _ _ hzb]; rfl
            have p3 : (wr.alloc (.cells (Array.replicate j (Value.bool false)) 4)).frozen? ⟨P, 2, none⟩ = false := frozen_of_row _ P 2 _ _ hzb
            have hA := hS1.setZ hzl (fun h => Nat.lt_irrefl _ (hfl _ h)) (by omega) (by omega) (by simp) (rowsOf_len n l) HNB.out hwb
            have hb2 := hb1.setCell (p := ⟨P, 2, none⟩) hPz (.slice (some ⟨wr.heap.size, 0, none⟩) j j)
            have hzz := hb.size
            rw [World.setCell_alloc_past _ _ _ _ hplt] at hA hb2
            have HA := Lib.hid hA
            have HB2 := Lib.hid hb2
            have HN := Lib.hid hnext
            have HT := Lib.hid ht
            clear hg hg' hS hS1 hzb hA hb hb1 hb2 hwb hfl hnext ht u1 hzl
            go_wp2_with fail
            refine (try_any F P N W wr.heap.size n j (rowsOf n l) hn hm (j + 1) _ a ⟨wi, List.replicate j false⟩ (r, s') HT.out hlt2 HA.out HLENS.out).mono ?_
            rintro e w5 ⟨rfl, hA5, hu5⟩
            have hb5 : Below w.heap.size w w5 := HB2.out.trans (hu5.below (fun k hk e => by rcases e with e | e <;> omega) HB2.out.size)
            have hS5 := hA5.toB
            have hwb5 := hA5.wb
            clear hA5 hu5 HA HB2 HT p2 p3 z1 hmb
            cases r with
            | true =>
              go_wp2
              go_roundw
              case rel => exact ⟨a + 1, s'.wi, q + 1, by omega, by go_num, by go_num, by omega, Lib.hid HN.out, hwb5, hS5, hb5⟩
              case measure => simp [intOf]; omega
            | false =>
              go_wp2
              go_roundw
              case rel => exact ⟨a + 1, s'.wi, q, by omega, by go_num, rfl, by omega, Lib.hid HN.out, hwb5, hS5, hb5⟩
              case measure => simp [intOf]; omega
          · obtain rfl : a = n := by omega
            have hg' := hg.out
            rw [List.drop_of_length_le (by simp), sizeF] at hg'
            simp only [Option.some.injEq, Prod.mk.injEq] at hg'
            obtain ⟨rfl, rfl⟩ := hg'
            clear hg hS hwb
            go_wp2
            go_ret
            exact ⟨⟨q, HNU.out.1, HNU.out.2, rfl⟩, hb⟩
end Go.Proofs.Ytmekcpbcgelliaa
