/- What every seating tried finds is what Most answers (plain). -/
import Derived.Test.YtppjpledjhinbaaDoorJRsTnyP
namespace Go.Proofs.YtppjpledjhinbaaDoor
open Go.RowKit Go.Lib
theorem filterMap_sm {α : Type} (f : Nat → Option α) (n : Nat) : (((List.range n).filterMap f).length : Int) = sm n fun i => if (f i).isSome = true then 1 else 0 := by
  induction n with
  | zero => rfl
  | succ n ih =>
    rw [List.range_succ, List.filterMap_append, List.length_append]
    simp only [sm]
    cases h : f n with
    | none => simp [h, ← ih]
    | some x => simp [h, ← ih]
section
variable {l : List MRow} {rs : List MSit}
/-- Who sits at these seats: each fits, no two at one, one infant a block. -/
structure SitF (l : List MRow) (rs : List MSit) (sf : Nat → Option MSeat) : Prop where
  at_ : ∀ i (hi : i < rs.length) s, sf i = some s → ∃ t ∈ spotsL l, t.seat = s ∧ t.blocked = false ∧ oneE rs[i].who t = 0
  ne : ∀ i j (hi : i < rs.length) (hj : j < rs.length) s t, i < j → sf i = some s → sf j = some t → s ≠ t ∧ ¬ (rs[i].who.inf = true ∧ rs[j].who.inf = true ∧ blkOf (spotsL l) s = blkOf (spotsL l) t)
def blkS (l : List MRow) (sf : Nat → Option MSeat) (i : Nat) : Nat := ((sf i).map fun s => (blkOf (spotsL l) s).toNat).getD (gM l)
theorem blkS_at {sf : Nat → Option MSeat} (h : SitF l rs sf) {i : Nat} (hi : i < rs.length) {s : MSeat} (hs : sf i = some s) : ∃ b : Nat, blkS l sf i = b ∧ b < gM l ∧ blkOf (spotsL l) s = (b : Int) ∧ ∃ t ∈ spotsL l, t.seat = s ∧ t.blocked = false ∧ oneE rs[i].who t = 0 ∧ t.blk = (b : Int) := by
  obtain ⟨t, t1, t2, t3, t4⟩ := h.at_ i hi s hs
  have h0 := (spots_go l).2 t t1
  have h1 := (blks_map l).len t t1
  have e : blkOf (spotsL l) s = t.blk := by unfold blkOf spotAt; rw [← t2, find_spot t1]; rfl
  obtain ⟨b, hb⟩ : ∃ b : Nat, t.blk = (b : Int) := ⟨t.blk.toNat, by omega⟩
  refine ⟨b, ?_, show b < (blocksOf (spotsL l)).length by omega, by rw [e, hb], t, t1, t2, t3, t4, hb⟩
  unfold blkS
  rw [hs]
  simp [e, hb]
theorem blkS_none {sf : Nat → Option MSeat} {i : Nat} (hs : sf i = none) : blkS l sf i = gM l := by unfold blkS; rw [hs]; rfl
theorem blkS_some {sf : Nat → Option MSeat} (h : SitF l rs sf) {i : Nat} (hi : i < rs.length) (hb : blkS l sf i < gM l) : ∃ s, sf i = some s := by
  cases hs : sf i with
  | none => rw [blkS_none hs] at hb; omega
  | some s => exact ⟨s, rfl⟩
theorem sitF_ok {sf : Nat → Option MSeat} (h : SitF l rs sf) : OkA (gP l rs) (gC l) rs.length (gM l) (blkS l sf) := by
  refine ⟨fun i hi hs => ?_, fun b hb => ?_, fun b hb => ?_⟩
  · obtain ⟨s, hsf⟩ := blkS_some h hi hs
    obtain ⟨k, k1, k2, _, t, t1, t2, t3, t4, t5⟩ := blkS_at h hi hsf
    rw [open_may (gP_open l rs) hi, k1, gP_at l rs hi]
    unfold kOf
    have hkm : k < (blocksOf (spotsL l)).length := k2
    simp only [List.getElem?_eq_getElem hkm, Option.map_some, Option.getD_some]
    rw [fit_block hkm t1 t5 t3]
    simpa using t4
  · have hb' : b < (blocksOf (spotsL l)).length := hb
    have e := filter_len rs.length (fun i => decide (blkS l sf i = b))
    simp only [decide_eq_true_eq] at e
    rw [← e]
    have hmem : ∀ i ∈ (List.range rs.length).filter (fun i => decide (blkS l sf i = b)), ∃ hi : i < rs.length, ∃ s, sf i = some s ∧ s ∈ (blocksOf (spotsL l))[b].seats := fun i hi => by
      obtain ⟨h1, h2⟩ := List.mem_filter.1 hi
      have hi' := List.mem_range.1 h1
      have h3 : blkS l sf i = b := by simpa using h2
      obtain ⟨s, hsf⟩ := blkS_some h hi' (by rw [h3]; exact hb)
      obtain ⟨k, k1, _, _, t, t1, t2, t3, _, t5⟩ := blkS_at h hi' hsf
      refine ⟨hi', s, hsf, (seat_in hb').2 ⟨t, t1, by omega, t3, t2⟩⟩
    have hsub : (((List.range rs.length).filter fun i => decide (blkS l sf i = b)).map fun i => (sf i).getD seatZ) ⊆ (blocksOf (spotsL l))[b].seats := fun x hx => by
      obtain ⟨i, hi, rfl⟩ := List.mem_map.1 hx
      obtain ⟨_, s, hs, hm⟩ := hmem i hi
      rw [hs]; exact hm
    have hnd : (((List.range rs.length).filter fun i => decide (blkS l sf i = b)).map fun i => (sf i).getD seatZ).Nodup := by
      unfold List.Nodup
      rw [List.pairwise_map]
      have h0 : ((List.range rs.length).filter fun i => decide (blkS l sf i = b)).Pairwise (· < ·) := List.Pairwise.sublist List.filter_sublist List.pairwise_lt_range
      refine h0.imp_of_mem fun {i j} hi hj hlt e => ?_
      obtain ⟨hi', s, hs, _⟩ := hmem i hi
      obtain ⟨hj', t, ht, _⟩ := hmem j hj
      rw [hs, ht] at e
      exact (h.ne i j hi' hj' s t hlt hs ht).1 e
    have := List.Nodup.length_le_of_subset hnd hsub
    rw [List.length_map] at this
    unfold gC
    rw [capsOf_at hb']
    omega
  · have e := sm_atmost (n := rs.length) (p := fun i => decide (blkS l sf i = b ∧ (gP l rs i).inf = true)) (fun i j hi hj h1 h2 => by
      simp only [decide_eq_true_eq] at h1 h2
      refine Classical.byContradiction fun hne => ?_
      have key : ∀ i j (hi : i < rs.length) (hj : j < rs.length), i < j → blkS l sf i = b ∧ (gP l rs i).inf = true → blkS l sf j = b ∧ (gP l rs j).inf = true → False := fun i j hi hj hlt h1 h2 => by
        obtain ⟨s, hs⟩ := blkS_some h hi (by rw [h1.1]; exact hb)
        obtain ⟨t, ht⟩ := blkS_some h hj (by rw [h2.1]; exact hb)
        have h3 := (h.ne i j hi hj s t hlt hs ht).2
        obtain ⟨k, k1, _, k3, _⟩ := blkS_at h hi hs
        obtain ⟨k', k1', _, k3', _⟩ := blkS_at h hj ht
        have g1 : (gP l rs i).inf = rs[i].who.inf := by rw [gP_at l rs hi]; rfl
        have g2 : (gP l rs j).inf = rs[j].who.inf := by rw [gP_at l rs hj]; rfl
        exact h3 ⟨by rw [← g1]; exact h1.2, by rw [← g2]; exact h2.2, by rw [k3, k3']; omega⟩
      rcases Nat.lt_or_gt_of_ne hne with h | h
      · exact key i j hi hj h h1 h2
      · exact key j i hj hi h h2 h1)
    simp only [decide_eq_true_eq] at e
    exact e
theorem sitF_seated {sf : Nat → Option MSeat} (h : SitF l rs sf) : seatedN rs.length (gM l) (blkS l sf) = sm rs.length fun i => if (sf i).isSome = true then 1 else 0 := sm_congr fun i hi => by
  cases hs : sf i with
  | none => rw [if_neg (by rw [blkS_none hs]; omega)]; rfl
  | some s =>
    obtain ⟨k, k1, k2, _⟩ := blkS_at h hi hs
    rw [if_pos (by rw [k1]; exact k2)]; rfl
theorem sitF_kept {sf : Nat → Option MSeat} (h : SitF l rs sf) : (sm rs.length fun i => if sf i = some ((oldsL rs).getD i seatZ) then (1 : Int) else 0) ≤ keptN (gP l rs) rs.length (gM l) (blkS l sf) := sm_le fun i hi => by
  by_cases e : sf i = some ((oldsL rs).getD i seatZ)
  · rw [if_pos e]
    obtain ⟨k, k1, k2, k3, t, t1, t2, t3, t4, t5⟩ := blkS_at h hi e
    have hio : i < (oldsL rs).length := by rw [oldsL_len]; exact hi
    have hg : (oldsL rs).getD i seatZ = (oldsL rs)[i] := by rw [List.getD_eq_getElem?_getD, List.getElem?_eq_getElem hio]; rfl
    rw [hg, oldsL_at rs hi] at t2
    by_cases h0 : takenN (rs.take i) rs[i].seat = 0
    · rw [if_pos h0] at t2
      have hf := find_spot t1
      rw [t2] at hf
      have hs : spotAt (spotsL l) rs[i].seat = t := by unfold spotAt; rw [hf]; rfl
      have ho : ownOf (spotsL l) (rs.take i) rs[i] = t.blk := by
        unfold ownOf
        rw [if_pos ⟨by rw [hf]; rfl, h0, by rw [hs]; exact t4⟩, hs]
      have hp : (gP l rs i).own = ownOf (spotsL l) (rs.take i) rs[i] := by rw [gP_at l rs hi]; rfl
      rw [if_pos ⟨by rw [k1]; exact k2, by rw [hp, ho, k1, t5]⟩]
      exact Int.le_refl _
    · rw [if_neg h0] at t2
      exact absurd t2 (spot_ne t1)
  · rw [if_neg e]; split <;> omega
end
theorem toG_len (S : List MSeat) : (toG S).length = S.length := by simp [toG]
theorem seatPl_len3 (l : List MRow) (rs : List MSit) : (seatPl l rs).length = rs.length := by
  obtain ⟨σ, hσ⟩ := sits_as l rs
  exact (seats_ok l rs hσ).len
/-- The law. -/
theorem tiny_best (l : List MRow) (rs : List MSit) (hc : checkL l = true) (hn : rs.length < 100) : bestG l (remR rs) [] = (seatedM l rs, keptM l rs) := by
  refine lexLe.antisymm ?_ ?_
  · obtain ⟨g, g1, g2, g3⟩ := best_is (rows := l) (remR rs) [] (by unfold allE; rw [if_pos hc]; rfl)
    rw [g3]
    rw [remR_len] at g1
    obtain ⟨e1, e2⟩ := ex_at rs (oldsL rs) g (oldsL_len rs) g1
    have e1 : exL (remR rs) g = _ := e1
    have e2 : exK (remR rs) g = _ := e2
    rw [List.nil_append, e1] at g2
    have hw := ((allE_zero _ _).1 g2).2
    have hgd : ∀ i (hi : i < rs.length), rs.getD i ⟨⟨0, false, false⟩, seatZ⟩ = rs[i] := fun i hi => by rw [List.getD_eq_getElem?_getD, List.getElem?_eq_getElem hi]; rfl
    have hsf : SitF l rs (fun i => g.getD i none) := by
      refine ⟨fun i hi s hs => ?_, fun i j hi hj s t hij hs ht => ?_⟩
      · have hm : (⟨rs[i].who, s⟩ : MSit) ∈ (List.range rs.length).filterMap fun i => (g.getD i none).map fun s => (⟨(rs.getD i ⟨⟨0, false, false⟩, seatZ⟩).who, s⟩ : MSit) :=
          List.mem_filterMap.2 ⟨i, List.mem_range.2 hi, by rw [hs, hgd i hi]; rfl⟩
        obtain ⟨h1, h2⟩ := hw.1 _ hm
        obtain ⟨t, ht⟩ := Option.isSome_iff_exists.1 h1
        obtain ⟨m1, m2⟩ := findS_some ht
        have e : spotAt (spotsL l) s = t := by unfold spotAt; rw [ht]; rfl
        have h2 : oneE rs[i].who (spotAt (spotsL l) s) = 0 := h2
        rw [e] at h2
        exact ⟨t, m1, m2, one_unblocked h2, h2⟩
      · have hp := List.pairwise_filterMap.1 hw.2
        rw [List.pairwise_iff_getElem] at hp
        have := hp i j (by simpa using hi) (by simpa using hj) hij ⟨rs[i].who, s⟩ (by
          rw [List.getElem_range]
          rw [hs, hgd i hi]; rfl) ⟨rs[j].who, t⟩ (by
          rw [List.getElem_range]
          rw [ht, hgd j hj]; rfl)
        exact this
    have h1 := (most_all l rs hn).2 _ (sitF_ok hsf)
    have h2 := sitF_seated hsf
    have h3 := sitF_kept hsf
    have h4 : ((exL (remR rs) g).length : Int) = seatedN rs.length (gM l) (blkS l fun i => g.getD i none) := by
      rw [h2, e1, filterMap_sm]
      exact sm_congr fun i _ => by simp
    unfold lexLe
    simp only
    rw [h4, e2]
    omega
  · obtain ⟨a1, a2, a3⟩ := seat_counts l rs hn
    rw [if_pos hc] at a1
    have hl := seatPl_len3 l rs
    obtain ⟨e1, e2⟩ := ex_sit rs (oldsL rs) (seatPl l rs) hl (oldsL_len rs)
    have e1 : exL (remR rs) (toG (seatPl l rs)) = _ := e1
    have e2 : exK (remR rs) (toG (seatPl l rs)) = _ := e2
    have h := best_ge (rows := l) (remR rs) [] (toG (seatPl l rs)) (by rw [List.nil_append, e1]; exact a1) (by rw [toG_len, hl, remR_len])
    rw [e1, e2, a2] at h
    have e3 : ((((seatPl l rs).zip (oldsL rs)).filter fun p => decide (p.1 ≠ seatZ) && decide (p.1 = p.2)).length : Int) = keptM l rs := a3
    rw [e3] at h
    exact h
end Go.Proofs.YtppjpledjhinbaaDoor
