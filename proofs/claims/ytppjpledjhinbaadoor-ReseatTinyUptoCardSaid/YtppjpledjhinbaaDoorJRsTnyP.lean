/- Every seating tried, in plain words. -/
import Derived.Test.YtppjpledjhinbaaDoorJRsMore
import Derived.Test.YtppjpledjhinbaaDoorJRsStaP
namespace Go.Proofs.YtppjpledjhinbaaDoor
open Go.RowKit Go.Lib
/-- More are seated, or as many and more of them kept. -/
def lexLe (a b : Int × Int) : Prop := a.1 < b.1 ∨ (a.1 = b.1 ∧ a.2 ≤ b.2)
theorem lexLe.refl (a : Int × Int) : lexLe a a := .inr ⟨rfl, Int.le_refl _⟩
theorem lexLe.trans {a b c : Int × Int} (h : lexLe a b) (h' : lexLe b c) : lexLe a c := by
  unfold lexLe at *; omega
theorem lexLe.antisymm {a b : Int × Int} (h : lexLe a b) (h' : lexLe b a) : a = b := by
  unfold lexLe at *
  exact Prod.ext (by omega) (by omega)
def lexMax (a b : Int × Int) : Int × Int := if a.1 < b.1 ∨ (b.1 = a.1 ∧ a.2 < b.2) then b else a
theorem lexMax_left (a b : Int × Int) : lexLe a (lexMax a b) := by
  unfold lexMax lexLe; split <;> omega
theorem lexMax_right (a b : Int × Int) : lexLe b (lexMax a b) := by
  unfold lexMax lexLe; split <;> omega
/-- One more seated, kept or not. -/
def oneUp (r : Int × Int) (b : Bool) : Int × Int := (r.1 + 1, r.2 + if b = true then 1 else 0)
theorem oneUp_mono {a b : Int × Int} (h : lexLe a b) (c : Bool) : lexLe (oneUp a c) (oneUp b c) := by
  unfold lexLe oneUp at *
  simp only
  omega
/-- The best, tried down the riders who are left. -/
def bestG (rows : List MRow) : List (MWho × MSeat) → List MSit → Int × Int
  | [], _ => (0, 0)
  | (x, o) :: t, sat => (freeL rows x sat).foldl (fun acc s => lexMax acc (oneUp (bestG rows t (sat ++ [⟨x, s⟩])) (decide (s = o)))) (bestG rows t sat)
/-- What a seat for this one leads to. -/
def trySeat (rows : List MRow) (x : MWho) (o : MSeat) (t : List (MWho × MSeat)) (sat : List MSit) (s : MSeat) : Int × Int := oneUp (bestG rows t (sat ++ [⟨x, s⟩])) (decide (s = o))
theorem bestG_cons (rows : List MRow) (x : MWho) (o : MSeat) (t : List (MWho × MSeat)) (sat : List MSit) : bestG rows ((x, o) :: t) sat = (freeL rows x sat).foldl (fun acc s => lexMax acc (trySeat rows x o t sat s)) (bestG rows t sat) := rfl
/-- Those who get a seat; how many of them keep theirs. -/
def exL : List (MWho × MSeat) → List (Option MSeat) → List MSit
  | (x, _) :: t, some s :: g => ⟨x, s⟩ :: exL t g
  | _ :: t, none :: g => exL t g
  | _, _ => []
def exK : List (MWho × MSeat) → List (Option MSeat) → Int
  | (_, o) :: t, some s :: g => exK t g + if s = o then 1 else 0
  | _ :: t, none :: g => exK t g
  | _, _ => 0
theorem fold_ge {α : Type} (f : α → Int × Int) : ∀ (l : List α) (a : Int × Int), lexLe a (l.foldl (fun acc s => lexMax acc (f s)) a) := by
  intro l
  induction l with
  | nil => intro a; exact lexLe.refl a
  | cons x t ih => intro a; exact (lexMax_left a (f x)).trans (ih _)
theorem fold_mem {α : Type} (f : α → Int × Int) : ∀ (l : List α) (a : Int × Int) (x : α), x ∈ l → lexLe (f x) (l.foldl (fun acc s => lexMax acc (f s)) a) := by
  intro l
  induction l with
  | nil => intro a x h; cases h
  | cons y t ih =>
    intro a x h
    rcases List.mem_cons.1 h with rfl | h
    · exact (lexMax_right a (f x)).trans (fold_ge f t _)
    · exact ih _ x h
theorem fold_is {α : Type} (f : α → Int × Int) : ∀ (l : List α) (a : Int × Int), l.foldl (fun acc s => lexMax acc (f s)) a = a ∨ ∃ x ∈ l, l.foldl (fun acc s => lexMax acc (f s)) a = f x := by
  intro l
  induction l with
  | nil => intro a; exact .inl rfl
  | cons y t ih =>
    intro a
    rcases ih (lexMax a (f y)) with h | ⟨x, hx, h⟩
    · have e : lexMax a (f y) = a ∨ lexMax a (f y) = f y := by unfold lexMax; split <;> simp
      rcases e with e | e
      · exact .inl (h.trans e)
      · exact .inr ⟨y, by simp, h.trans e⟩
    · exact .inr ⟨x, List.mem_cons_of_mem _ hx, h⟩
section
variable {rows : List MRow}
theorem free_iff {x : MWho} {q : List MSit} {s : MSeat} : s ∈ freeL rows x q ↔ allE rows (q ++ [⟨x, s⟩]) = 0 := by
  constructor
  · exact free_mem
  · intro h
    obtain ⟨hc, hw⟩ := (allE_zero _ _).1 h
    have hq := well_sub hw (List.sublist_append_left q [⟨x, s⟩])
    have hx := hw.1 ⟨x, s⟩ (by simp)
    obtain ⟨t, ht⟩ := Option.isSome_iff_exists.1 hx.1
    obtain ⟨m1, m2⟩ := findS_some ht
    unfold freeL
    rw [if_pos ⟨hc, (sitE_well _ _).2 hq⟩]
    refine List.mem_map.2 ⟨t, List.mem_filter.2 ⟨m1, ?_⟩, m2⟩
    rw [decide_eq_true_eq]
    have e : (⟨x, t.seat⟩ : MSit) = ⟨x, s⟩ := by rw [m2]
    rw [e, mayE_zero]
    exact ⟨hx, fun y hy => (List.pairwise_append.1 hw.2).2.2 y hy _ (by simp)⟩
/-- No seating does better. -/
theorem best_ge : ∀ (rem : List (MWho × MSeat)) (sat : List MSit) (g : List (Option MSeat)), allE rows (sat ++ exL rem g) = 0 → g.length = rem.length → lexLe (((exL rem g).length : Int), exK rem g) (bestG rows rem sat) := by
  intro rem
  induction rem with
  | nil =>
    intro sat g h hl
    obtain rfl := List.eq_nil_of_length_eq_zero hl
    exact lexLe.refl _
  | cons p t ih =>
    obtain ⟨x, o⟩ := p
    intro sat g h hl
    cases g with
    | nil => simp at hl
    | cons a g =>
      have hl' : g.length = t.length := by simpa using hl
      cases a with
      | none =>
        rw [bestG_cons]
        exact (ih sat g h hl').trans (fold_ge (trySeat rows x o t sat) (freeL rows x sat) (bestG rows t sat))
      | some s =>
        have h2 : allE rows ((sat ++ [⟨x, s⟩]) ++ exL t g) = 0 := by rw [List.append_assoc]; exact h
        have hfree : s ∈ freeL rows x sat := by
          rw [free_iff]
          obtain ⟨hc, hw⟩ := (allE_zero _ _).1 h2
          exact (allE_zero _ _).2 ⟨hc, well_sub hw (List.sublist_append_left _ _)⟩
        have h3 := ih (sat ++ [⟨x, s⟩]) g h2 hl'
        have h4 := oneUp_mono h3 (decide (s = o))
        have e : (((exL ((x, o) :: t) (some s :: g)).length : Int), exK ((x, o) :: t) (some s :: g)) = oneUp (((exL t g).length : Int), exK t g) (decide (s = o)) := by
          unfold oneUp
          simp only [exL, exK, List.length_cons, decide_eq_true_eq]
          exact Prod.ext (by simp) rfl
        rw [e]
        rw [bestG_cons]
        exact lexLe.trans (b := trySeat rows x o t sat s) h4 (fold_mem (trySeat rows x o t sat) (freeL rows x sat) (bestG rows t sat) s hfree)
/-- Some seating does as well. -/
theorem best_is : ∀ (rem : List (MWho × MSeat)) (sat : List MSit), allE rows sat = 0 → ∃ g : List (Option MSeat), g.length = rem.length ∧ allE rows (sat ++ exL rem g) = 0 ∧ bestG rows rem sat = (((exL rem g).length : Int), exK rem g) := by
  intro rem
  induction rem with
  | nil => intro sat h; exact ⟨[], rfl, by simpa [exL] using h, rfl⟩
  | cons p t ih =>
    obtain ⟨x, o⟩ := p
    intro sat h
    rw [bestG_cons]
    rcases fold_is (trySeat rows x o t sat) (freeL rows x sat) (bestG rows t sat) with e | ⟨s, hs, e⟩
    · obtain ⟨g, g1, g2, g3⟩ := ih sat h
      exact ⟨none :: g, by simp [g1], g2, e.trans g3⟩
    · obtain ⟨g, g1, g2, g3⟩ := ih (sat ++ [⟨x, s⟩]) (free_iff.1 hs)
      refine ⟨some s :: g, by simp [g1], by rw [List.append_assoc] at g2; exact g2, e.trans ?_⟩
      unfold trySeat
      rw [g3]
      unfold oneUp
      simp only [exL, exK, List.length_cons, decide_eq_true_eq]
      exact Prod.ext (by simp) rfl
end
/-- The riders with their old seats. -/
def remR (rs : List MSit) : List (MWho × MSeat) := (rs.zip (oldsL rs)).map fun p => (p.1.who, p.2)
theorem remR_len (rs : List MSit) : (remR rs).length = rs.length := by unfold remR; rw [List.length_map, List.length_zip, oldsL_len, Nat.min_self]
def toG (S : List MSeat) : List (Option MSeat) := S.map fun s => if s = seatZ then none else some s
theorem ex_sit : ∀ (rs : List MSit) (O S : List MSeat), S.length = rs.length → O.length = rs.length →
    exL ((rs.zip O).map fun p => (p.1.who, p.2)) (toG S) = sitL rs S ∧ exK ((rs.zip O).map fun p => (p.1.who, p.2)) (toG S) = ((((S.zip O).filter fun p => decide (p.1 ≠ seatZ) && decide (p.1 = p.2)).length : Nat) : Int) := by
  intro rs
  induction rs with
  | nil =>
    intro O S h1 h2
    obtain rfl := List.eq_nil_of_length_eq_zero h1
    obtain rfl := List.eq_nil_of_length_eq_zero h2
    exact ⟨rfl, rfl⟩
  | cons x t ih =>
    intro O S h1 h2
    match O, S, h1, h2 with
    | o :: O, s :: S, h1, h2 =>
      obtain ⟨e1, e2⟩ := ih O S (by simpa using h1) (by simpa using h2)
      by_cases hz : s = seatZ
      · have e3 : toG (s :: S) = none :: toG S := by simp [toG, hz]
        rw [e3]
        simp only [List.zip_cons_cons, List.map_cons, exL, exK]
        rw [e1, e2]
        constructor
        · simp [sitL, hz]
        · simp [hz]
      · have e3 : toG (s :: S) = some s :: toG S := by simp [toG, hz]
        rw [e3]
        simp only [List.zip_cons_cons, List.map_cons, exL, exK]
        rw [e1, e2]
        constructor
        · simp [sitL, hz]
        · by_cases ho : s = o
          · simp [hz, ho]
            subst ho; simp [hz]
          · simp [ho]
/-- Who sits where, rider by rider. -/
theorem ex_at : ∀ (rs : List MSit) (O : List MSeat) (g : List (Option MSeat)), O.length = rs.length → g.length = rs.length →
    exL ((rs.zip O).map fun p => (p.1.who, p.2)) g = ((List.range rs.length).filterMap fun i => (g.getD i none).map fun s => ⟨(rs.getD i ⟨⟨0, false, false⟩, seatZ⟩).who, s⟩) ∧
    exK ((rs.zip O).map fun p => (p.1.who, p.2)) g = sm rs.length fun i => if g.getD i none = some (O.getD i seatZ) then 1 else 0 := by
  intro rs
  induction rs with
  | nil =>
    intro O g h1 h2
    obtain rfl := List.eq_nil_of_length_eq_zero h1
    obtain rfl := List.eq_nil_of_length_eq_zero h2
    exact ⟨rfl, rfl⟩
  | cons x t ih =>
    intro O g h1 h2
    match O, g, h1, h2 with
    | o :: O, a :: g, h1, h2 =>
      obtain ⟨e1, e2⟩ := ih O g (by simpa using h1) (by simpa using h2)
      have hr : List.range (x :: t).length = 0 :: (List.range t.length).map Nat.succ := by rw [List.length_cons, List.range_succ_eq_map]
      rw [hr, List.filterMap_cons, List.filterMap_map, List.length_cons, sm_shift]
      simp only [List.zip_cons_cons, List.map_cons, List.getD_cons_zero, Function.comp_def, List.getD_cons_succ]
      cases a with
      | none =>
        simp only [exL, exK, Option.map_none]
        rw [e1, e2]
        refine ⟨rfl, ?_⟩
        rw [if_neg (by simp)]; omega
      | some s =>
        simp only [exL, exK, Option.map_some]
        rw [e1, e2]
        refine ⟨rfl, ?_⟩
        by_cases ho : s = o
        · subst ho; simp; omega
        · rw [if_neg ho, if_neg (fun e => ho (by injection e))]; omega
end Go.Proofs.YtppjpledjhinbaaDoor
