/- Every seating tried, in plain words. -/
import Derived.Test.YtegpanfcjfcaeaaDoorJRsMore
import Derived.Test.YtegpanfcjfcaeaaDoorJRsStaP
namespace Go.Proofs.YtegpanfcjfcaeaaDoor
open Go.RowKit Go.Lib
/-- More are seated, or as many and more of them kept. -/
def lexLe (a b : Int × Int) : Prop := a.1 < b.1 ∨ (a.1 = b.1 ∧ a.2 ≤ b.2)
theorem lexLe.refl (a : Int × Int) : lexLe a a := .inr ⟨rfl, Int.le_refl _⟩
theorem lexLe.trans {a b c : Int × Int} (h : lexLe a b) (h' : lexLe b c) : lexLe a c := by
  unfold lexLe at *; omega
theorem lexLe.antisymm {a b : Int × Int} (h : lexLe a b) (h' : lexLe b a) : a = b := by
  unfold lexLe at *
  exact Prod.ext (by omega) (by omega)
def lexMax (a b : Int × Int) : Int × Int := if a.1 < b.1 ∨ (b.1 = a.1 ∧ a.2 < b.2) then b else a
theorem lexMax_left (a b : Int × Int) : lexLe a (lexMax a b) := by
  unfold lexMax lexLe; split <;> omega
theorem lexMax_right (a b : Int × Int) : lexLe b (lexMax a b) := by
  unfold lexMax lexLe; split <;> omega
/-- One more seated, kept or not. -/
def oneUp (r : Int × Int) (b : Bool) : Int × Int := (r.1 + 1, r.2 + if b = true then 1 else 0)
theorem oneUp_mono {a b : Int × Int} (h : lexLe a b) (c : Bool) : lexLe (oneUp a c) (oneUp b c) := by
  unfold lexLe oneUp at *
  simp only
  omega
/-- The best, tried down the riders who are left. -/
def bestG (rows : List MRow) : List (MWho × MSeat) → List MSit → Int × Int
  | [], _ => (0, 0)
  | (x, o) :: t, sat => (freeL rows x sat).foldl (fun acc s => lexMax acc (oneUp (bestG rows t (sat ++ [⟨x, s⟩])) (decide (s = o)))) (bestG rows t sat)
/-- What a seat for this one leads to. -/
def trySeat (rows : List MRow) (x : MWho) (o : MSeat) (t : List (MWho × MSeat)) (sat : List MSit) (s : MSeat) : Int × Int := oneUp (bestG rows t (sat ++ [⟨x, s⟩])) (decide (s = o))
theorem bestG_cons (rows : List MRow) (x : MWho) (o : MSeat) (t : List (MWho × MSeat)) (sat : List MSit) : bestG rows ((x, o) :: t) sat = (freeL rows x sat).foldl (fun acc s => lexMax acc (trySeat rows x o t sat s)) (bestG rows t sat) := rfl
/-- Those who get a seat; how many of them keep theirs. -/
def exL : List (MWho × MSeat) → List (Option MSeat) → List MSit
  | (x, _) :: t, some s :: g => ⟨x, s⟩ :: exL t g
  | _ :: t, none :: g => exL t g
  | _, _ => []
def exK : List (MWho × MSeat) → List (Option MSeat) → Int
  | (_, o) :: t, some s :: g => exK t g + if s = o then 1 else 0
  | _ :: t, none :: g => exK t g
  | _, _ => 0
theorem fold_ge {α : Type} (f : α → Int × Int) : ∀ (l : List α) (a : Int × Int), lexLe a (l.foldl (fun acc s => lexMax acc (f s)) a) := by
  intro l
  induction l with
  | nil => intro a; exact lexLe.refl a
  | cons x t ih => intro a; exact (lexMax_left a (f x)).trans (ih _)
theorem fold_mem {α : Type} (f : α → Int × Int) : ∀ (l : List α) (a : Int × Int) (x : α), x ∈ l → lexLe (f x) (l.foldl (fun acc s => lexMax acc (f s)) a) := by
  intro l
  induction l with
  | nil => intro a x h; cases h
  | cons y t ih =>
    intro a x h
    rcases List.mem_cons.1 h with rfl | h
    · exact (lexMax_right a (f x)).trans (fold_ge f t _)
    · exact ih _ x h
theorem fold_is {α : Type} (f : α → Int × Int) : ∀ (l : List α) (a : Int × Int), l.foldl (fun acc s => lexMax acc (f s)) a = a ∨ ∃ x ∈ l, l.foldl (fun acc s => lexMax acc (f s)) a = f x := by
  intro l
  induction l with
  | nil => intro a; exact .inl rfl
  | cons y t ih =>
    intro a
    rcases ih (lexMax a (f y)) with h | ⟨x, hx, h⟩
    · have e : lexMax a (f y) = a ∨ lexMax a (f y) = f y := by unfold lexMax; split <;> simp
      rcases e with e | e
      · exact .inl (h.trans e)
      · exact .inr ⟨y, by simp, h.trans e⟩
    · exact .inr ⟨x, List.mem_cons_of_mem _ hx, h⟩
section
variable {rows : List MRow}
theorem free_iff {x : MWho} {q : List MSit} {s : MSeat} : s ∈ freeL rows x q ↔ allE rows (q ++ [⟨x, s⟩]) = 0 := by
  constructor
  · exact free_mem
  · intro h
    obtain ⟨hc, hw⟩ := (allE_zero _ _).1 h
    have hq := well_sub hw (List.sublist_append_left q [⟨x, s⟩])
    have hx := hw.1 ⟨x, s⟩ (by simp)
    obtain ⟨t, ht⟩ := Option.isSome_iff_exists.1 hx.1
    obtain ⟨m1, m2⟩ := findS_some ht
    unfold freeL
    rw [if_pos ⟨hc, (sitE_well _ _).2 hq⟩]
    refine List.mem_map.2 ⟨t, List.mem_filter.2 ⟨m1, ?_⟩, m2⟩
    rw [decide_eq_true_eq]
    have e : (⟨x, t.seat⟩ : MSit) = ⟨x, s⟩ := by rw [m2]
    rw [e, mayE_zero]
    exact ⟨hx, fun y hy => (List.pairwise_append.1 hw.2).2.2 y hy _ (by simp)⟩
/-- No seating does better. -/
theorem best_ge : ∀ (rem : List (MWho × MSeat)) (sat : List MSit) (g : List (Option MSeat)), allE rows (sat ++ exL rem g) = 0 → g.length = rem.length → lexLe (((exL rem g).length : Int), exK rem g) (bestG rows rem sat) := by
  intro rem
  induction rem with
  | nil =>
    intro sat g h hl
    obtain rfl := List.eq_nil_of_length_eq_zero hl
    exact lexLe.refl _
  | cons p t ih =>
    obtain ⟨x, o⟩ := p
    intro sat g h hl
    cases g with
    | nil => simp at hl
    | cons a g =>
      have hl' : g.length = t.length := by simpa using hl
      cases a with
      | none =>
        rw [bestG_cons]
        exact (ih sat g h hl').trans (fold_ge (trySeat rows x o t sat) (freeL rows x sat) (bestG rows t sat))
      | some s =>
        have h2 : allE rows ((sat ++ [⟨x, s⟩]) ++ exL t g) = 0 := by rw [List.append_assoc]; exact h
        have hfree : s ∈ freeL rows x sat := by
          rw [free_iff]
          obtain ⟨hc, hw⟩ := (allE_zero _ _).1 h2
          exact (allE_zero _ _).2 ⟨hc, well_sub hw (List.sublist_append_left _ _)⟩
        have h3 := ih (sat ++ [⟨x, s⟩]) g h2 hl'
        have h4 := oneUp_mono h3 (decide (s = o))
        have e : (((exL ((x, o) :: t) (some s :: g)).length : Int), exK ((x, o) :: t) (some s :: g)) = oneUp (((exL t g).length : Int), exK t g) (decide (s = o)) := by
          unfold oneUp
          simp only [exL, exK, List.length_cons, decide_eq_true_eq]
          exact Prod.ext (by simp) rfl
        rw [e]
        rw [bestG_cons]
        exact lexLe.trans (b := trySeat rows x o t sat s) h4 (fold_mem (trySeat rows x o t sat) (freeL rows x sat) (bestG rows t sat) s hfree)
/-- Some seating does as well. -/
theorem best_is : ∀ (rem : List (MWho × MSeat)) (sat : List MSit), allE rows sat = 0 → ∃ g : List (Option MSeat), g.length = rem.length ∧ allE rows (sat ++ exL rem g) = 0 ∧ bestG rows rem sat = (((exL rem g).length : Int), exK rem g) := by
  intro rem
  induction rem with
  | nil => intro sat h; exact ⟨[], rfl, by simpa [exL] using h, rfl⟩
  | cons p t ih =>
    obtain ⟨x, o⟩ := p
    intro sat h
    rw [bestG_cons]
    rcases fold_is (trySeat rows x o t sat) (freeL rows x sat) (bestG rows t sat) with e | ⟨s, hs, e⟩
    · obtain ⟨g, g1, g2, g3⟩ := ih sat h
      exact ⟨none :: g, by simp [g1], g2, e.trans g3⟩
    · obtain ⟨g, g1, g2, g3⟩ := ih (sat ++ [⟨x, s⟩]) (free_iff.1 hs)
      refine ⟨some s :: g, by simp [g1], by rw [List.append_assoc] at g2; exact g2, e.trans ?_⟩
      unfold trySeat
      rw [g3]
      unfold oneUp
      simp only [exL, exK, List.length_cons, decide_eq_true_eq]
      exact Prod.ext (by simp) rfl
end
/-- The riders with their old seats. -/
def remR (rs : List MSit) : List (MWho × MSeat) := (rs.zip (oldsL rs)).map fun p => (p.1.who, p.2)
theorem remR_len (rs : List MSit) : (remR rs).length = rs.length := by unfold remR; rw [List.length_map, List.length_zip, oldsL_len, Nat.min_self]
def toG (S : List MSeat) : List (Option MSeat) := S.map fun s => if s = seatZ then none else some s
theorem ex_sit : ∀ (rs : List MSit) (O S : List MSeat), S.length = rs.length → O.length = rs.length →
    exL ((rs.zip O).map fun p => (p.1.who, p.2)) (toG S) = sitL rs S ∧ exK ((rs.zip O).map fun p => (p.1.who, p.2)) (toG S) = ((((S.zip O).filter fun p => decide (p.1 ≠ seatZ) && decide (p.1 = p.2)).length : Nat) : Int) := by
  intro rs
  induction rs with
  | nil =>
    intro O S h1 h2
    obtain rfl := List.eq_nil_of_length_eq_zero h1
    obtain rfl := List.eq_nil_of_length_eq_zero h2
    exact ⟨rfl, rfl⟩
  | cons x t ih =>
    intro O S h1 h2
    match O, S, h1, h2 with
    | o :: O, s :: S, h1, h2 =>
      obtain ⟨e1, e2⟩ := ih O S (by simpa using h1) (by simpa using h2)
      by_cases hz : s = seatZ
      · have e3 : toG (s :: S) = none :: toG S := by simp [toG, hz]
        rw [e3]
        simp only [List.zip_cons_cons, List.map_cons, exL, exK]
        rw [e1, e2]
        constructor
        · simp [sitL, hz]
        · simp [hz]
      · have e3 : toG (s :: S) = some s :: toG S := by simp [toG, hz]
        rw [e3]
        simp only [List.zip_cons_cons, List.map_cons, exL, exK]
        rw [e1, e2]
        constructor
        · simp [sitL, hz]
        · by_cases ho : s = o
          · simp [hz, ho]
            subst ho; simp [hz]
          · simp [ho]
/-- Who sits where, rider by rider. -/
theorem ex_at : ∀ (rs : List MSit) (O : List MSeat) (g : List (Option MSeat)), O.length = rs.length → g.length = rs.length →
    exL ((rs.zip O).map fun p => (p.1.who, p.2)) g = ((List.range rs.length).filterMap fun i => (g.getD i none).map fun s => ⟨(rs.getD i ⟨⟨0, false, false⟩, seatZ⟩).who, s⟩) ∧
    exK ((rs.zip O).map fun p => (p.1.who, p.2)) g = sm rs.length fun i => if g.getD i none = some (O.getD i seatZ) then 1 else 0 := by
  intro rs
  induction rs with
  | nil =>
    intro O g h1 h2
    obtain rfl := List.eq_nil_of_length_eq_zero h1
    obtain rfl := List.eq_nil_of_length_eq_zero h2
    exact ⟨rfl, rfl⟩
  | cons x t ih =>
    intro O g h1 h2
    match O, g, h1, h2 with
    | o :: O, a :: g, h1, h2 =>
      obtain ⟨e1, e2⟩ := ih O g (by simpa using h1) (by simpa using h2)
      have hr : List.range (x :: t).length = 0 :: (List.range t.length).map Nat.succ := by rw [List.length_cons, List.range_succ_eq_map]
      rw [hr, List.filterMap_cons, List.filterMap_map, List.length_cons, sm_shift]
      simp only [List.zip_cons_cons, List.map_cons, List.getD_cons_zero, Function.comp_def, List.getD_cons_succ]
      cases a with
      | none =>
        simp only [exL, exK, Option.map_none]
        rw [e1, e2]
        refine ⟨rfl, ?_⟩
        rw [if_neg (by simp)]; omega
      | some s =>
        simp only [exL, exK, Option.map_some]
        rw [e1, e2]
        refine ⟨rfl, ?_⟩
        by_cases ho : s = o
        · subst ho; simp; omega
        · rw [if_neg ho, if_neg (fun e => ho (by injection e))]; omega
end Go.Proofs.YtegpanfcjfcaeaaDoor
/- What every seating tried finds is what Most answers (plain). -/
namespace Go.Proofs.YtegpanfcjfcaeaaDoor
open Go.RowKit Go.Lib
theorem filterMap_sm {α : Type} (f : Nat → Option α) (n : Nat) : (((List.range n).filterMap f).length : Int) = sm n fun i => if (f i).isSome = true then 1 else 0 := by
  induction n with
  | zero => rfl
  | succ n ih =>
    rw [List.range_succ, List.filterMap_append, List.length_append]
    simp only [sm]
    cases h : f n with
    | none => simp [h, ← ih]
    | some x => simp [h, ← ih]
section
variable {l : List MRow} {rs : List MSit}
/-- Who sits at these seats: each fits, no two at one, one infant a block. -/
structure SitF (l : List MRow) (rs : List MSit) (sf : Nat → Option MSeat) : Prop where
  at_ : ∀ i (hi : i < rs.length) s, sf i = some s → ∃ t ∈ spotsL l, t.seat = s ∧ t.blocked = false ∧ oneE rs[i].who t = 0
  ne : ∀ i j (hi : i < rs.length) (hj : j < rs.length) s t, i < j → sf i = some s → sf j = some t → s ≠ t ∧ ¬ (rs[i].who.inf = true ∧ rs[j].who.inf = true ∧ blkOf (spotsL l) s = blkOf (spotsL l) t)
def blkS (l : List MRow) (sf : Nat → Option MSeat) (i : Nat) : Nat := ((sf i).map fun s => (blkOf (spotsL l) s).toNat).getD (gM l)
theorem blkS_at {sf : Nat → Option MSeat} (h : SitF l rs sf) {i : Nat} (hi : i < rs.length) {s : MSeat} (hs : sf i = some s) : ∃ b : Nat, blkS l sf i = b ∧ b < gM l ∧ blkOf (spotsL l) s = (b : Int) ∧ ∃ t ∈ spotsL l, t.seat = s ∧ t.blocked = false ∧ oneE rs[i].who t = 0 ∧ t.blk = (b : Int) := by
  obtain ⟨t, t1, t2, t3, t4⟩ := h.at_ i hi s hs
  have h0 := (spots_go l).2 t t1
  have h1 := (blks_map l).len t t1
  have e : blkOf (spotsL l) s = t.blk := by unfold blkOf spotAt; rw [← t2, find_spot t1]; rfl
  obtain ⟨b, hb⟩ : ∃ b : Nat, t.blk = (b : Int) := ⟨t.blk.toNat, by omega⟩
  refine ⟨b, ?_, show b < (blocksOf (spotsL l)).length by omega, by rw [e, hb], t, t1, t2, t3, t4, hb⟩
  unfold blkS
  rw [hs]
  simp [e, hb]
theorem blkS_none {sf : Nat → Option MSeat} {i : Nat} (hs : sf i = none) : blkS l sf i = gM l := by unfold blkS; rw [hs]; rfl
theorem blkS_some {sf : Nat → Option MSeat} (h : SitF l rs sf) {i : Nat} (hi : i < rs.length) (hb : blkS l sf i < gM l) : ∃ s, sf i = some s := by
  cases hs : sf i with
  | none => rw [blkS_none hs] at hb; omega
  | some s => exact ⟨s, rfl⟩
theorem sitF_ok {sf : Nat → Option MSeat} (h : SitF l rs sf) : OkA (gP l rs) (gC l) rs.length (gM l) (blkS l sf) := by
  refine ⟨fun i hi hs => ?_, fun b hb => ?_, fun b hb => ?_⟩
  · obtain ⟨s, hsf⟩ := blkS_some h hi hs
    obtain ⟨k, k1, k2, _, t, t1, t2, t3, t4, t5⟩ := blkS_at h hi hsf
    rw [open_may (gP_open l rs) hi, k1, gP_at l rs hi]
    unfold kOf
    have hkm : k < (blocksOf (spotsL l)).length := k2
    simp only [List.getElem?_eq_getElem hkm, Option.map_some, Option.getD_some]
    rw [fit_block hkm t1 t5 t3]
    simpa using t4
  · have hb' : b < (blocksOf (spotsL l)).length := hb
    have e := filter_len rs.length (fun i => decide (blkS l sf i = b))
    simp only [decide_eq_true_eq] at e
    rw [← e]
    have hmem : ∀ i ∈ (List.range rs.length).filter (fun i => decide (blkS l sf i = b)), ∃ hi : i < rs.length, ∃ s, sf i = some s ∧ s ∈ (blocksOf (spotsL l))[b].seats := fun i hi => by
      obtain ⟨h1, h2⟩ := List.mem_filter.1 hi
      have hi' := List.mem_range.1 h1
      have h3 : blkS l sf i = b := by simpa using h2
      obtain ⟨s, hsf⟩ := blkS_some h hi' (by rw [h3]; exact hb)
      obtain ⟨k, k1, _, _, t, t1, t2, t3, _, t5⟩ := blkS_at h hi' hsf
      refine ⟨hi', s, hsf, (seat_in hb').2 ⟨t, t1, by omega, t3, t2⟩⟩
    have hsub : (((List.range rs.length).filter fun i => decide (blkS l sf i = b)).map fun i => (sf i).getD seatZ) ⊆ (blocksOf (spotsL l))[b].seats := fun x hx => by
      obtain ⟨i, hi, rfl⟩ := List.mem_map.1 hx
      obtain ⟨_, s, hs, hm⟩ := hmem i hi
      rw [hs]; exact hm
    have hnd : (((List.range rs.length).filter fun i => decide (blkS l sf i = b)).map fun i => (sf i).getD seatZ).Nodup := by
      unfold List.Nodup
      rw [List.pairwise_map]
      have h0 : ((List.range rs.length).filter fun i => decide (blkS l sf i = b)).Pairwise (· < ·) := List.Pairwise.sublist List.filter_sublist List.pairwise_lt_range
      refine h0.imp_of_mem fun {i j} hi hj hlt e => ?_
      obtain ⟨hi', s, hs, _⟩ := hmem i hi
      obtain ⟨hj', t, ht, _⟩ := hmem j hj
      rw [hs, ht] at e
      exact (h.ne i j hi' hj' s t hlt hs ht).1 e
    have := List.Nodup.length_le_of_subset hnd hsub
    rw [List.length_map] at this
    unfold gC
    rw [capsOf_at hb']
    omega
  · have e := sm_atmost (n := rs.length) (p := fun i => decide (blkS l sf i = b ∧ (gP l rs i).inf = true)) (fun i j hi hj h1 h2 => by
      simp only [decide_eq_true_eq] at h1 h2
      refine Classical.byContradiction fun hne => ?_
      have key : ∀ i j (hi : i < rs.length) (hj : j < rs.length), i < j → blkS l sf i = b ∧ (gP l rs i).inf = true → blkS l sf j = b ∧ (gP l rs j).inf = true → False := fun i j hi hj hlt h1 h2 => by
        obtain ⟨s, hs⟩ := blkS_some h hi (by rw [h1.1]; exact hb)
        obtain ⟨t, ht⟩ := blkS_some h hj (by rw [h2.1]; exact hb)
        have h3 := (h.ne i j hi hj s t hlt hs ht).2
        obtain ⟨k, k1, _, k3, _⟩ := blkS_at h hi hs
        obtain ⟨k', k1', _, k3', _⟩ := blkS_at h hj ht
        have g1 : (gP l rs i).inf = rs[i].who.inf := by rw [gP_at l rs hi]; rfl
        have g2 : (gP l rs j).inf = rs[j].who.inf := by rw [gP_at l rs hj]; rfl
        exact h3 ⟨by rw [← g1]; exact h1.2, by rw [← g2]; exact h2.2, by rw [k3, k3']; omega⟩
      rcases Nat.lt_or_gt_of_ne hne with h | h
      · exact key i j hi hj h h1 h2
      · exact key j i hj hi h h2 h1)
    simp only [decide_eq_true_eq] at e
    exact e
theorem sitF_seated {sf : Nat → Option MSeat} (h : SitF l rs sf) : seatedN rs.length (gM l) (blkS l sf) = sm rs.length fun i => if (sf i).isSome = true then 1 else 0 := sm_congr fun i hi => by
  cases hs : sf i with
  | none => rw [if_neg (by rw [blkS_none hs]; omega)]; rfl
  | some s =>
    obtain ⟨k, k1, k2, _⟩ := blkS_at h hi hs
    rw [if_pos (by rw [k1]; exact k2)]; rfl
theorem sitF_kept {sf : Nat → Option MSeat} (h : SitF l rs sf) : (sm rs.length fun i => if sf i = some ((oldsL rs).getD i seatZ) then (1 : Int) else 0) ≤ keptN (gP l rs) rs.length (gM l) (blkS l sf) := sm_le fun i hi => by
  by_cases e : sf i = some ((oldsL rs).getD i seatZ)
  · rw [if_pos e]
    obtain ⟨k, k1, k2, k3, t, t1, t2, t3, t4, t5⟩ := blkS_at h hi e
    have hio : i < (oldsL rs).length := by rw [oldsL_len]; exact hi
    have hg : (oldsL rs).getD i seatZ = (oldsL rs)[i] := by rw [List.getD_eq_getElem?_getD, List.getElem?_eq_getElem hio]; rfl
    rw [hg, oldsL_at rs hi] at t2
    by_cases h0 : takenN (rs.take i) rs[i].seat = 0
    · rw [if_pos h0] at t2
      have hf := find_spot t1
      rw [t2] at hf
      have hs : spotAt (spotsL l) rs[i].seat = t := by unfold spotAt; rw [hf]; rfl
      have ho : ownOf (spotsL l) (rs.take i) rs[i] = t.blk := by
        unfold ownOf
        rw [if_pos ⟨by rw [hf]; rfl, h0, by rw [hs]; exact t4⟩, hs]
      have hp : (gP l rs i).own = ownOf (spotsL l) (rs.take i) rs[i] := by rw [gP_at l rs hi]; rfl
      rw [if_pos ⟨by rw [k1]; exact k2, by rw [hp, ho, k1, t5]⟩]
      exact Int.le_refl _
    · rw [if_neg h0] at t2
      exact absurd t2 (spot_ne t1)
  · rw [if_neg e]; split <;> omega
end
theorem toG_len (S : List MSeat) : (toG S).length = S.length := by simp [toG]
theorem seatPl_len3 (l : List MRow) (rs : List MSit) : (seatPl l rs).length = rs.length := by
  obtain ⟨σ, hσ⟩ := sits_as l rs
  exact (seats_ok l rs hσ).len
/-- The law. -/
theorem tiny_best (l : List MRow) (rs : List MSit) (hc : checkL l = true) (hn : rs.length < 100) : bestG l (remR rs) [] = (seatedM l rs, keptM l rs) := by
  refine lexLe.antisymm ?_ ?_
  · obtain ⟨g, g1, g2, g3⟩ := best_is (rows := l) (remR rs) [] (by unfold allE; rw [if_pos hc]; rfl)
    rw [g3]
    rw [remR_len] at g1
    obtain ⟨e1, e2⟩ := ex_at rs (oldsL rs) g (oldsL_len rs) g1
    have e1 : exL (remR rs) g = _ := e1
    have e2 : exK (remR rs) g = _ := e2
    rw [List.nil_append, e1] at g2
    have hw := ((allE_zero _ _).1 g2).2
    have hgd : ∀ i (hi : i < rs.length), rs.getD i ⟨⟨0, false, false⟩, seatZ⟩ = rs[i] := fun i hi => by rw [List.getD_eq_getElem?_getD, List.getElem?_eq_getElem hi]; rfl
    have hsf : SitF l rs (fun i => g.getD i none) := by
      refine ⟨fun i hi s hs => ?_, fun i j hi hj s t hij hs ht => ?_⟩
      · have hm : (⟨rs[i].who, s⟩ : MSit) ∈ (List.range rs.length).filterMap fun i => (g.getD i none).map fun s => (⟨(rs.getD i ⟨⟨0, false, false⟩, seatZ⟩).who, s⟩ : MSit) :=
          List.mem_filterMap.2 ⟨i, List.mem_range.2 hi, by rw [hs, hgd i hi]; rfl⟩
        obtain ⟨h1, h2⟩ := hw.1 _ hm
        obtain ⟨t, ht⟩ := Option.isSome_iff_exists.1 h1
        obtain ⟨m1, m2⟩ := findS_some ht
        have e : spotAt (spotsL l) s = t := by unfold spotAt; rw [ht]; rfl
        have h2 : oneE rs[i].who (spotAt (spotsL l) s) = 0 := h2
        rw [e] at h2
        exact ⟨t, m1, m2, one_unblocked h2, h2⟩
      · have hp := List.pairwise_filterMap.1 hw.2
        rw [List.pairwise_iff_getElem] at hp
        have := hp i j (by simpa using hi) (by simpa using hj) hij ⟨rs[i].who, s⟩ (by
          rw [List.getElem_range]
          rw [hs, hgd i hi]; rfl) ⟨rs[j].who, t⟩ (by
          rw [List.getElem_range]
          rw [ht, hgd j hj]; rfl)
        exact this
    have h1 := (most_all l rs hn).2 _ (sitF_ok hsf)
    have h2 := sitF_seated hsf
    have h3 := sitF_kept hsf
    have h4 : ((exL (remR rs) g).length : Int) = seatedN rs.length (gM l) (blkS l fun i => g.getD i none) := by
      rw [h2, e1, filterMap_sm]
      exact sm_congr fun i _ => by simp
    unfold lexLe
    simp only
    rw [h4, e2]
    omega
  · obtain ⟨a1, a2, a3⟩ := seat_counts l rs hn
    rw [if_pos hc] at a1
    have hl := seatPl_len3 l rs
    obtain ⟨e1, e2⟩ := ex_sit rs (oldsL rs) (seatPl l rs) hl (oldsL_len rs)
    have e1 : exL (remR rs) (toG (seatPl l rs)) = _ := e1
    have e2 : exK (remR rs) (toG (seatPl l rs)) = _ := e2
    have h := best_ge (rows := l) (remR rs) [] (toG (seatPl l rs)) (by rw [List.nil_append, e1]; exact a1) (by rw [toG_len, hl, remR_len])
    rw [e1, e2, a2] at h
    have e3 : ((((seatPl l rs).zip (oldsL rs)).filter fun p => decide (p.1 ≠ seatZ) && decide (p.1 = p.2)).length : Int) = keptM l rs := a3
    rw [e3] at h
    exact h
end Go.Proofs.YtegpanfcjfcaeaaDoor
