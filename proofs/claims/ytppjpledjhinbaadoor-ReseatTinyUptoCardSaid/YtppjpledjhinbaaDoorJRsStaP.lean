/- Who is well seated stays (plain). -/
import Derived.Test.YtppjpledjhinbaaDoorJRsMoreP
namespace Go.Proofs.YtppjpledjhinbaaDoor
open Go.RowKit Go.Lib
theorem sm_atmost {n : Nat} {p : Nat → Bool} (h : ∀ i j, i < n → j < n → p i = true → p j = true → i = j) : (sm n fun i => if p i = true then (1 : Int) else 0) ≤ 1 := by
  rw [← filter_len]
  have hnd : ((List.range n).filter p).Nodup := List.Nodup.sublist List.filter_sublist List.nodup_range
  have hmem : ∀ i ∈ (List.range n).filter p, i < n ∧ p i = true := fun i hi => by
    obtain ⟨a, b⟩ := List.mem_filter.1 hi
    exact ⟨List.mem_range.1 a, b⟩
  generalize (List.range n).filter p = L at hnd hmem
  match L, hnd, hmem with
  | [], _, _ => simp
  | [_], _, _ => simp
  | a :: b :: t, hnd, hmem =>
    exfalso
    have ha := hmem a (by simp)
    have hb := hmem b (by simp)
    have := h a b ha.1 hb.1 ha.2 hb.2
    rw [List.nodup_cons] at hnd
    exact hnd.1 (by rw [this]; simp)
section
variable {l : List MRow} {rs : List MSit}
theorem well_own (hw : wellB (spotsL l) rs) {i : Nat} (hi : i < rs.length) : ∃ s ∈ spotsL l, s.seat = rs[i].seat ∧ s.blocked = false ∧ oneE rs[i].who s = 0 ∧ ownOf (spotsL l) (rs.take i) rs[i] = s.blk := by
  obtain ⟨h1, h2⟩ := hw.1 _ (List.getElem_mem hi)
  obtain ⟨s, hs⟩ := Option.isSome_iff_exists.1 h1
  obtain ⟨a, b⟩ := findS_some hs
  have e : spotAt (spotsL l) rs[i].seat = s := by unfold spotAt; rw [hs]; rfl
  rw [e] at h2
  have ht : takenN (rs.take i) rs[i].seat = 0 := (takenN_pos _ _).2 fun y hy e2 => by
    rw [List.mem_take_iff_getElem] at hy
    obtain ⟨j, hj, rfl⟩ := hy
    exact ((List.pairwise_iff_getElem.1 hw.2) j i (by omega) hi (by omega)).1 e2
  refine ⟨s, a, b, one_unblocked h2, h2, ?_⟩
  unfold ownOf
  rw [if_pos ⟨h1, ht, by rw [e]; exact h2⟩, e]
theorem own_nat (hw : wellB (spotsL l) rs) {i : Nat} (hi : i < rs.length) : ∃ b : Nat, (gP l rs i).own = (b : Int) ∧ b < gM l ∧ (gP l rs i).fits b = true ∧ ∃ s ∈ spotsL l, s.seat = rs[i].seat ∧ s.blocked = false ∧ s.blk = (b : Int) := by
  obtain ⟨s, a, b, c, d, e⟩ := well_own hw hi
  have h0 := (spots_go l).2 s a
  have h1 := (blks_map l).len s a
  obtain ⟨k, hk⟩ : ∃ k : Nat, s.blk = (k : Int) := ⟨s.blk.toNat, by omega⟩
  have hkm : k < (blocksOf (spotsL l)).length := by omega
  refine ⟨k, by rw [gP_at l rs hi]; exact e.trans hk, hkm, ?_, s, a, b, c, hk⟩
  rw [gP_at l rs hi]
  unfold kOf
  simp only [List.getElem?_eq_getElem hkm, Option.map_some, Option.getD_some]
  rw [fit_block hkm a hk c]
  simpa using d
/-- All in their own blocks. -/
def homeS (l : List MRow) (rs : List MSit) (i : Nat) : Nat := (gP l rs i).own.toNat
theorem home_ok (hw : wellB (spotsL l) rs) : OkA (gP l rs) (gC l) rs.length (gM l) (homeS l rs) := by
  have hh : ∀ i (hi : i < rs.length), ∃ b : Nat, homeS l rs i = b ∧ (gP l rs i).own = (b : Int) ∧ b < gM l ∧ (gP l rs i).fits b = true ∧ ∃ s ∈ spotsL l, s.seat = rs[i].seat ∧ s.blocked = false ∧ s.blk = (b : Int) := fun i hi => by
    obtain ⟨b, h1, h2, h3, h4⟩ := own_nat hw hi
    exact ⟨b, by unfold homeS; rw [h1]; rfl, h1, h2, h3, h4⟩
  refine ⟨fun i hi _ => ?_, fun b hb => ?_, fun b hb => ?_⟩
  · obtain ⟨k, h1, _, _, h4, _⟩ := hh i hi
    rw [open_may (gP_open l rs) hi, h1]; exact h4
  · have hb' : b < (blocksOf (spotsL l)).length := hb
    have e := filter_len rs.length (fun i => decide (homeS l rs i = b))
    simp only [decide_eq_true_eq] at e
    rw [← e]
    have hsub : (((List.range rs.length).filter fun i => decide (homeS l rs i = b)).map fun i => (rs.getD i ⟨⟨0, false, false⟩, seatZ⟩).seat) ⊆ (blocksOf (spotsL l))[b].seats := fun x hx => by
      obtain ⟨i, hi, rfl⟩ := List.mem_map.1 hx
      obtain ⟨h1, h2⟩ := List.mem_filter.1 hi
      have hi' := List.mem_range.1 h1
      obtain ⟨k, k1, _, _, _, s, s1, s2, s3, s4⟩ := hh i hi'
      have hkb : k = b := by rw [← k1]; simpa using h2
      have hg : rs.getD i ⟨⟨0, false, false⟩, seatZ⟩ = rs[i] := by rw [List.getD_eq_getElem?_getD, List.getElem?_eq_getElem hi']; rfl
      rw [hg, seat_in hb']
      exact ⟨s, s1, by omega, s3, s2⟩
    have hnd : (((List.range rs.length).filter fun i => decide (homeS l rs i = b)).map fun i => (rs.getD i ⟨⟨0, false, false⟩, seatZ⟩).seat).Nodup := by
      unfold List.Nodup
      rw [List.pairwise_map]
      have h0 : ((List.range rs.length).filter fun i => decide (homeS l rs i = b)).Pairwise (· < ·) := List.Pairwise.sublist List.filter_sublist List.pairwise_lt_range
      refine h0.imp_of_mem fun {i j} hi hj hlt e => ?_
      have hi' := List.mem_range.1 (List.mem_filter.1 hi).1
      have hj' := List.mem_range.1 (List.mem_filter.1 hj).1
      rw [List.getD_eq_getElem?_getD, List.getD_eq_getElem?_getD, List.getElem?_eq_getElem hi', List.getElem?_eq_getElem hj'] at e
      exact ((List.pairwise_iff_getElem.1 hw.2) i j hi' hj' hlt).1 e
    have := List.Nodup.length_le_of_subset hnd hsub
    rw [List.length_map] at this
    unfold gC
    rw [capsOf_at hb']
    omega
  · have e := sm_atmost (n := rs.length) (p := fun i => decide (homeS l rs i = b ∧ (gP l rs i).inf = true)) (fun i j hi hj h1 h2 => by
      simp only [decide_eq_true_eq] at h1 h2
      refine Classical.byContradiction fun hne => ?_
      have key : ∀ i j (hi : i < rs.length) (hj : j < rs.length), i < j → homeS l rs i = b ∧ (gP l rs i).inf = true → homeS l rs j = b ∧ (gP l rs j).inf = true → False := fun i j hi hj hlt h1 h2 => by
        have h3 := ((List.pairwise_iff_getElem.1 hw.2) i j hi hj hlt).2
        obtain ⟨k, k1, _, _, _, s, s1, s2, s3, s4⟩ := hh i hi
        obtain ⟨k', k1', _, _, _, t, t1, t2, t3, t4⟩ := hh j hj
        have g1 : (gP l rs i).inf = rs[i].who.inf := by rw [gP_at l rs hi]; rfl
        have g2 : (gP l rs j).inf = rs[j].who.inf := by rw [gP_at l rs hj]; rfl
        have b1 : blkOf (spotsL l) rs[i].seat = s.blk := by unfold blkOf spotAt; rw [← s2, find_spot s1]; rfl
        have b2 : blkOf (spotsL l) rs[j].seat = t.blk := by unfold blkOf spotAt; rw [← t2, find_spot t1]; rfl
        exact h3 ⟨by rw [← g1]; exact h1.2, by rw [← g2]; exact h2.2, by rw [b1, b2]; omega⟩
      rcases Nat.lt_or_gt_of_ne hne with h | h
      · exact key i j hi hj h h1 h2
      · exact key j i hj hi h h2 h1)
    simp only [decide_eq_true_eq] at e
    exact e
theorem stay_best (hw : wellB (spotsL l) rs) : bestC l rs = 0 := by
  obtain ⟨_, h2⟩ := bestC_is l rs
  have h3 := h2 _ (home_ok hw)
  have h4 : costA (gP l rs) rs.length (gM l) (homeS l rs) = 0 := sm_pick0 fun i hi => by
    obtain ⟨b, h1, h2, _⟩ := own_nat hw hi
    have e : homeS l rs i = b := by unfold homeS; rw [h1]; rfl
    rw [e, if_pos h2]
    unfold Skr.toll
    rw [h1, if_pos rfl]
  have := bestC_pos l rs
  omega
theorem stay_seats (hw : wellB (spotsL l) rs) : seatPl l rs = rs.map (·.seat) := by
  obtain ⟨σ, hσ⟩ := sits_as l rs
  have hs := seats_ok l rs hσ
  have hc := hσ.cost
  rw [stay_best hw] at hc
  have hz := sm_null (n := rs.length) (g := fun i => if σ i < gM l then (gP l rs i).toll (σ i) else (gP l rs i).price) (fun i _ => by
    have h1 := (gP l rs i).price_pos
    have h2 := (gP l rs i).toll_le (σ i)
    split <;> omega) hc
  apply List.ext_getElem
  · rw [hs.len, List.length_map]
  · intro i h1 h2
    have hi : i < rs.length := by rw [← hs.len]; exact h1
    have h3 := hz i hi
    have hp := (gP l rs i).price_pos
    by_cases hl : σ i < gM l
    · simp only [if_pos hl] at h3
      have ht := (hσ.tk i hi).1 hl
      have ho : (gP l rs i).own = ownOf (spotsL l) (rs.take i) rs[i] := by rw [gP_at l rs hi]; rfl
      have h4 : (σ i : Int) = (gP l rs i).own := by
        unfold Skr.toll at h3
        split at h3
        · assumption
        · omega
      rw [hs.home i h1 hi ht (h4.trans ho), List.getElem_map]
    · simp only [if_neg hl] at h3; omega
theorem stay_most (hw : wellB (spotsL l) rs) : seatedM l rs = rs.length ∧ keptM l rs = rs.length := by
  unfold seatedM keptM
  rw [stay_best hw]
  omega
end
end Go.Proofs.YtppjpledjhinbaaDoor
