/- The board's riders, in plain words. -/
import Derived.Test.YtppjpledjhinbaaDoorJRsMost
import Derived.Test.YtppjpledjhinbaaDoorJGtP
namespace Go.Proofs.YtppjpledjhinbaaDoor
open Go.RowKit Go.Lib
def gP (l : List MRow) (rs : List MSit) : Nat → Skr := kN (blocksOf (spotsL l)) (boardK (spotsL l) [] rs)
def gC (l : List MRow) : Nat → Nat := capsOf (blocksOf (spotsL l))
def gM (l : List MRow) : Nat := (blocksOf (spotsL l)).length
theorem boardK_at (L : List MSpot) : ∀ (rs B : List MSit) (i : Nat) (hi : i < rs.length), (boardK L B rs)[i]'(by rw [boardK_len]; exact hi) = ⟨rs[i], false, false, -1, ownOf L (B ++ rs.take i) rs[i]⟩ := by
  intro rs
  induction rs with
  | nil => intro B i hi; simp at hi
  | cons x t ih =>
    intro B i hi
    cases i with
    | zero => simp [boardK]
    | succ i =>
      have := ih (B ++ [x]) i (by simpa using hi)
      simp only [boardK, List.getElem_cons_succ, List.take_succ_cons]
      rw [this, List.append_assoc]
      rfl
theorem gP_at (l : List MRow) (rs : List MSit) {i : Nat} (hi : i < rs.length) : gP l rs i = kOf (blocksOf (spotsL l)) ⟨rs[i], false, false, -1, ownOf (spotsL l) (rs.take i) rs[i]⟩ := by
  unfold gP
  rw [kN_at (by rw [boardK_len]; exact hi), boardK_at (spotsL l) rs [] i hi, List.nil_append]
theorem gP_open (l : List MRow) (rs : List MSit) : Open0 (gP l rs) rs.length := fun i hi => by
  rw [gP_at l rs hi]
  exact ⟨rfl, rfl, by show (-1 : Int) < 0; omega⟩
theorem gP_same {l : List MRow} {rs rs' : List MSit} {i j : Nat} (hi : i < rs.length) (hj : j < rs'.length) (h : rs[i].who = rs'[j].who) : (gP l rs i).fits = (gP l rs' j).fits ∧ (gP l rs i).inf = (gP l rs' j).inf := by
  rw [gP_at l rs hi, gP_at l rs' hj]
  unfold kOf
  simp only
  rw [h]
  exact ⟨rfl, rfl⟩
theorem min_ex (K : Nat → Skr) (caps : Nat → Nat) (n m : Nat) : ∃ c, MinIs K caps n m c := by
  have hpos : ∀ σ, 0 ≤ costA K n m σ := fun σ => sm_nonneg fun i _ => by
    have h1 := (K i).price_pos
    have h2 := (K i).toll_le (σ i)
    split <;> omega
  have main : ∀ (d : Nat) (σ : Nat → Nat), OkA K caps n m σ → costA K n m σ < d → ∃ c, MinIs K caps n m c := by
    intro d
    induction d with
    | zero => intro σ _ h; have := hpos σ; omega
    | succ d ih =>
      intro σ h1 h2
      by_cases h : ∀ τ, OkA K caps n m τ → costA K n m σ ≤ costA K n m τ
      · exact ⟨_, ⟨σ, h1, rfl⟩, h⟩
      · obtain ⟨τ, hτ⟩ := Classical.not_forall.1 h
        obtain ⟨h3, h4⟩ := Classical.not_imp.1 hτ
        exact ih τ h3 (by omega)
  exact main ((costA K n m fun _ => m).toNat + 1) _ (none_ok K caps n m) (by have := hpos (fun _ => m); omega)
end Go.Proofs.YtppjpledjhinbaaDoor
/- Who gets which seat, in plain words. -/
namespace Go.Proofs.YtppjpledjhinbaaDoor
open Go.RowKit Go.Lib
def seatZ : MSeat := ⟨0, 0⟩
/-- It is seated, in its own block. -/
def MSkr.home (k : MSkr) : Bool := !k.no && decide (k.blk = k.own)
def firstG (G : List MSit) (ss : List MSeat) : Option MSeat := ss.find? fun s => decide (takenN G s = 0)
def seatsAt (B : List MBlk) (b : Int) : List MSeat := ((B[b.toNat]?).map (·.seats)).getD []
def st1 (k : MSkr) (i : Nat) (s : List MSeat × List MSit) : List MSeat × List MSit := if k.home = true then (s.1.set i k.r.seat, s.2 ++ [k.r]) else s
def st2 (B : List MBlk) (k : MSkr) (i : Nat) (s : List MSeat × List MSit) : List MSeat × List MSit :=
  if k.no = true ∨ k.blk = k.own then s else match firstG s.2 (seatsAt B k.blk) with
    | some x => (s.1.set i x, s.2 ++ [⟨k.r.who, x⟩])
    | none => s
/-- Those who stay, of the first so many. -/
def gv1 (ks : List MSkr) : Nat → List MSeat × List MSit
  | 0 => (List.replicate ks.length seatZ, [])
  | j + 1 => match ks[j]? with
    | some k => st1 k j (gv1 ks j)
    | none => gv1 ks j
/-- Then the others, of the first so many. -/
def gv2 (B : List MBlk) (ks : List MSkr) : Nat → List MSeat × List MSit
  | 0 => gv1 ks ks.length
  | j + 1 => match ks[j]? with
    | some k => st2 B k j (gv2 B ks j)
    | none => gv2 B ks j
theorem gv1_succ {ks : List MSkr} {j : Nat} (h : j < ks.length) : gv1 ks (j + 1) = st1 ks[j] j (gv1 ks j) := by
  simp only [gv1]; rw [List.getElem?_eq_getElem h]
theorem gv2_succ {B : List MBlk} {ks : List MSkr} {j : Nat} (h : j < ks.length) : gv2 B ks (j + 1) = st2 B ks[j] j (gv2 B ks j) := by
  simp only [gv2]; rw [List.getElem?_eq_getElem h]
theorem st1_len (k : MSkr) (i : Nat) (s : List MSeat × List MSit) : (st1 k i s).1.length = s.1.length := by
  unfold st1; split <;> simp
theorem st2_len (B : List MBlk) (k : MSkr) (i : Nat) (s : List MSeat × List MSit) : (st2 B k i s).1.length = s.1.length := by
  unfold st2; split
  · rfl
  · split <;> simp
theorem gv1_len (ks : List MSkr) : ∀ j, (gv1 ks j).1.length = ks.length ∧ (gv1 ks j).2.length ≤ j := by
  intro j
  induction j with
  | zero => simp [gv1]
  | succ j ih =>
    simp only [gv1]
    split
    · rw [st1_len]
      refine ⟨ih.1, ?_⟩
      unfold st1
      split
      · simp; omega
      · omega
    · omega
theorem gv2_len (B : List MBlk) (ks : List MSkr) : ∀ j, (gv2 B ks j).1.length = ks.length ∧ (gv2 B ks j).2.length ≤ ks.length + j := by
  intro j
  induction j with
  | zero => have := gv1_len ks ks.length; simp only [gv2]; omega
  | succ j ih =>
    simp only [gv2]
    split
    · rw [st2_len]
      refine ⟨ih.1, ?_⟩
      unfold st2
      split
      · omega
      · split
        · simp; omega
        · omega
    · omega
/-- What was decided can be given. -/
structure Decd (B : List MBlk) (ks : List MSkr) : Prop where
  blk : ∀ i (h : i < ks.length), ks[i].no = false → ∃ b : Nat, ks[i].blk = b ∧ b < B.length
  room : ∀ b (h : b < B.length), (((List.range ks.length).filter fun i => ((ks[i]?).map fun k => !k.no && decide (k.blk = (b : Int))).getD false).length : Int) ≤ B[b].seats.length
  home : ∀ i (h : i < ks.length), ks[i].home = true → ks[i].r.seat ∈ seatsAt B ks[i].blk ∧ ∀ j (hj : j < i), (ks[j]'(by omega)).r.seat ≠ ks[i].r.seat
  nd : ∀ b (h : b < B.length), B[b].seats.Nodup
  dis : ∀ b c (hb : b < B.length) (hc : c < B.length) s, s ∈ B[b].seats → s ∈ B[c].seats → b = c
theorem filter_len (n : Nat) (p : Nat → Bool) : (((List.range n).filter p).length : Int) = sm n fun i => if p i = true then 1 else 0 := by
  induction n with
  | zero => rfl
  | succ n ih =>
    rw [List.range_succ, List.filter_append, List.length_append]
    simp only [sm]
    by_cases h : p n = true
    · simp [h, ← ih]
    · simp [h, ← ih]
theorem takenN_pos (G : List MSit) (q : MSeat) : takenN G q = 0 ↔ ∀ y ∈ G, y.seat ≠ q := by
  unfold takenN
  rw [List.countP_eq_zero]
  simp
theorem seatsAt_is {B : List MBlk} {b : Nat} (h : b < B.length) : seatsAt B (b : Int) = B[b].seats := by
  unfold seatsAt
  rw [Int.toNat_natCast, List.getElem?_eq_getElem h]; rfl
/-- What was given so far: to those in D. -/
structure GvI (B : List MBlk) (ks : List MSkr) (D : Nat → Bool) (s : List MSeat × List MSit) : Prop where
  len : s.1.length = ks.length
  zero : ∀ i, D i = false → i < ks.length → s.1[i]? = some seatZ
  seat : ∀ i, D i = true → ∃ (h : i < ks.length) (x : MSeat), s.1[i]? = some x ∧ ks[i].no = false ∧ x ∈ seatsAt B ks[i].blk ∧ (⟨ks[i].r.who, x⟩ : MSit) ∈ s.2
  dist : ∀ i j x, D i = true → D j = true → s.1[i]? = some x → s.1[j]? = some x → i = j
  given : ∀ y ∈ s.2, ∃ i, ∃ h : i < ks.length, D i = true ∧ s.1[i]? = some y.seat ∧ y.who = ks[i].r.who
theorem GvI.add {B : List MBlk} {ks : List MSkr} {D : Nat → Bool} {s : List MSeat × List MSit} (h : GvI B ks D s) {i : Nat} (hi : i < ks.length) (hD : D i = false) (hn : ks[i].no = false) {x : MSeat} (hx : x ∈ seatsAt B ks[i].blk) (ht : takenN s.2 x = 0) {y : MSit} (hy : y = ⟨ks[i].r.who, x⟩) {D' : Nat → Bool} (hD' : ∀ j, D' j = (decide (j = i) || D j)) : GvI B ks D' (s.1.set i x, s.2 ++ [y]) := by
  have ht' := (takenN_pos _ _).1 ht
  have hset : ∀ j, (s.1.set i x)[j]? = if i = j then some x else s.1[j]? := fun j => by
    rw [List.getElem?_set]
    by_cases e : i = j
    · rw [if_pos e, if_pos e, if_pos (by rw [h.len]; omega)]
    · rw [if_neg e, if_neg e]
  refine ⟨by simp [h.len], fun j hj hl => ?_, fun j hj => ?_, fun j k z hj hk h1 h2 => ?_, fun z hz => ?_⟩
  · rw [hD'] at hj
    simp only [Bool.or_eq_false_iff, decide_eq_false_iff_not] at hj
    simp only [hset]
    rw [if_neg (fun e => hj.1 e.symm)]
    exact h.zero j hj.2 hl
  · rw [hD'] at hj
    simp only [hset]
    by_cases e : i = j
    · subst e
      exact ⟨hi, x, if_pos rfl, hn, hx, by rw [hy]; simp⟩
    · simp only [Bool.or_eq_true, decide_eq_true_eq] at hj
      obtain ⟨a, z, b, c, d, f⟩ := h.seat j (hj.resolve_left fun e2 => e e2.symm)
      exact ⟨a, z, by rw [if_neg e]; exact b, c, d, List.mem_append_left _ f⟩
  · rw [hD'] at hj hk
    simp only [hset] at h1 h2
    simp only [Bool.or_eq_true, decide_eq_true_eq] at hj hk
    have no : ∀ j, D j = true → s.1[j]? = some x → False := fun j hj e => by
      obtain ⟨a, z, b, c, d, f⟩ := h.seat j hj
      rw [e] at b
      injection b with b
      subst b
      exact ht' _ f rfl
    by_cases e1 : i = j
    · by_cases e2 : i = k
      · omega
      · rw [if_pos e1] at h1
        rw [if_neg e2] at h2
        injection h1 with h1
        subst h1
        exact (no k (hk.resolve_left fun e => e2 e.symm) h2).elim
    · rw [if_neg e1] at h1
      by_cases e2 : i = k
      · rw [if_pos e2] at h2
        injection h2 with h2
        subst h2
        exact (no j (hj.resolve_left fun e => e1 e.symm) h1).elim
      · rw [if_neg e2] at h2
        exact h.dist j k z (hj.resolve_left fun e => e1 e.symm) (hk.resolve_left fun e => e2 e.symm) h1 h2
  · simp only [hset]
    rcases List.mem_append.1 hz with hz | hz
    · obtain ⟨j, hl, a, b, c⟩ := h.given z hz
      refine ⟨j, hl, by rw [hD', a]; simp, ?_, c⟩
      have : i ≠ j := fun e => by rw [e, a] at hD; cases hD
      rw [if_neg this]; exact b
    · rw [List.mem_singleton] at hz
      subst hz
      exact ⟨i, hi, by rw [hD']; simp, by rw [if_pos rfl, hy], by rw [hy]⟩
theorem GvI.congr {B : List MBlk} {ks : List MSkr} {D D' : Nat → Bool} {s : List MSeat × List MSit} (h : GvI B ks D s) (e : ∀ j, D' j = D j) : GvI B ks D' s := by
  obtain rfl : D' = D := funext e
  exact h
theorem GvI.free {B : List MBlk} {ks : List MSkr} {D : Nat → Bool} {s : List MSeat × List MSit} (h : GvI B ks D s) {q : MSeat} (hq : ∀ i, D i = true → s.1[i]? ≠ some q) : takenN s.2 q = 0 := by
  rw [takenN_pos]
  intro y hy e
  obtain ⟨i, _, a, b, _⟩ := h.given y hy
  exact hq i a (by rw [b, e])
def homeN (ks : List MSkr) (i : Nat) : Bool := ((ks[i]?).map MSkr.home).getD false
def inN (ks : List MSkr) (i : Nat) : Bool := ((ks[i]?).map fun k => !k.no).getD false
theorem homeN_at {ks : List MSkr} {i : Nat} (h : i < ks.length) : homeN ks i = ks[i].home := by unfold homeN; rw [List.getElem?_eq_getElem h]; rfl
theorem inN_at {ks : List MSkr} {i : Nat} (h : i < ks.length) : inN ks i = !ks[i].no := by unfold inN; rw [List.getElem?_eq_getElem h]; rfl
theorem homeN_lt {ks : List MSkr} {i : Nat} (h : homeN ks i = true) : i < ks.length := by
  refine Classical.byContradiction fun hn => ?_
  unfold homeN at h
  rw [List.getElem?_eq_none (by omega)] at h
  cases h
theorem home_no {k : MSkr} (h : k.home = true) : k.no = false ∧ k.blk = k.own := by
  unfold MSkr.home at h
  simpa using h
/-- Behind the first way. -/
theorem give1 {B : List MBlk} {ks : List MSkr} (hd : Decd B ks) : ∀ j, j ≤ ks.length → GvI B ks (fun i => decide (i < j) && homeN ks i) (gv1 ks j) ∧ ∀ i (h : i < ks.length), i < j → ks[i].home = true → (gv1 ks j).1[i]? = some ks[i].r.seat := by
  intro j
  induction j with
  | zero =>
    intro _
    refine ⟨⟨by simp [gv1], fun i _ hi => by simp only [gv1]; rw [List.getElem?_replicate, if_pos hi], fun i hi => by simp at hi, fun i _ _ hi => by simp at hi, fun y hy => by simp [gv1] at hy⟩, fun i _ h => by omega⟩
  | succ j ih =>
    intro hj
    obtain ⟨h1, h2⟩ := ih (by omega)
    rw [gv1_succ (by omega)]
    by_cases hh : ks[j].home = true
    · have e : st1 ks[j] j (gv1 ks j) = ((gv1 ks j).1.set j ks[j].r.seat, (gv1 ks j).2 ++ [ks[j].r]) := by unfold st1; rw [if_pos hh]
      rw [e]
      have hf : takenN (gv1 ks j).2 ks[j].r.seat = 0 := h1.free fun i hi => by
        simp only [Bool.and_eq_true, decide_eq_true_eq] at hi
        have hil : i < ks.length := by omega
        rw [h2 i hil hi.1 (by rw [← homeN_at hil]; exact hi.2)]
        intro e
        injection e with e
        exact (hd.home j (by omega) hh).2 i hi.1 e
      refine ⟨h1.add (by omega) (by simp) (home_no hh).1 (hd.home j (by omega) hh).1 hf rfl (fun i => ?_), fun i hi hij hhi => ?_⟩
      · by_cases e : i = j
        · subst e; simp [homeN_at (show i < ks.length by omega), hh]
        · have e2 : (i < j + 1) = (i < j) := by simp only [eq_iff_iff]; omega
          simp only [e2, e, decide_false, Bool.false_or]
      · rw [List.getElem?_set]
        by_cases e : j = i
        · subst e; rw [if_pos rfl, if_pos (by rw [h1.len]; omega)]
        · rw [if_neg e]; exact h2 i hi (by omega) hhi
    · have e : st1 ks[j] j (gv1 ks j) = gv1 ks j := by unfold st1; rw [if_neg hh]
      rw [e]
      refine ⟨h1.congr fun i => ?_, fun i hi hij hhi => ?_⟩
      · by_cases e : i = j
        · subst e
          have : homeN ks i = false := by rw [homeN_at (by omega)]; exact Bool.eq_false_iff.2 hh
          simp [this]
        · have e2 : (i < j + 1) = (i < j) := by simp only [eq_iff_iff]; omega
          simp only [e2]
      · refine h2 i hi ?_ hhi
        have : i ≠ j := fun e => hh (by subst e; exact hhi)
        omega
/-- There is always a seat left. -/
theorem room_left {B : List MBlk} {ks : List MSkr} (hd : Decd B ks) {D : Nat → Bool} {s : List MSeat × List MSit} (h : GvI B ks D s) {i : Nat} (hi : i < ks.length) (hD : D i = false) (hn : ks[i].no = false) : ∃ x, firstG s.2 (seatsAt B ks[i].blk) = some x ∧ x ∈ seatsAt B ks[i].blk ∧ takenN s.2 x = 0 := by
  obtain ⟨b, hb, hbl⟩ := hd.blk i hi hn
  rw [hb, seatsAt_is hbl]
  cases hf : firstG s.2 B[b].seats with
  | some x => 
    refine ⟨x, rfl, List.mem_of_find?_eq_some hf, ?_⟩
    have := List.find?_some hf
    simpa using this
  | none =>
    exfalso
    have hall : ∀ x ∈ B[b].seats, ∃ j, j < ks.length ∧ D j = true ∧ s.1[j]? = some x := fun x hx => by
      have h1 := List.find?_eq_none.1 hf x hx
      simp only [decide_eq_true_eq] at h1
      refine Classical.byContradiction fun hno => h1 (h.free fun j hj e => hno ⟨j, ?_, hj, e⟩)
      obtain ⟨a, _⟩ := h.seat j hj
      exact a
    obtain ⟨p, hp⟩ : ∃ p : Nat → Bool, p = fun j => ((ks[j]?).map fun k => !k.no && decide (k.blk = (b : Int))).getD false := ⟨_, rfl⟩
    have hsub : B[b].seats ⊆ ((List.range ks.length).filter fun j => p j && D j).map fun j => (s.1[j]?).getD seatZ := fun x hx => by
      obtain ⟨j, hj, hDj, hsj⟩ := hall x hx
      refine List.mem_map.2 ⟨j, List.mem_filter.2 ⟨List.mem_range.2 hj, ?_⟩, by rw [hsj]; rfl⟩
      obtain ⟨_, z, hz, hno, hin, _⟩ := h.seat j hDj
      rw [hsj] at hz
      injection hz with hz
      subst hz
      obtain ⟨c, hc, hcl⟩ := hd.blk j hj hno
      rw [hc, seatsAt_is hcl] at hin
      obtain rfl := hd.dis b c hbl hcl x hx hin
      rw [hp, hDj]
      simp only [List.getElem?_eq_getElem hj, Option.map_some, Option.getD_some, hno, hc]
      simp
    have h1 := List.Nodup.length_le_of_subset (hd.nd b hbl) hsub
    rw [List.length_map] at h1
    have h2 := hd.room b hbl
    rw [← hp] at h2
    have e1 := filter_len ks.length (fun j => p j && D j)
    have e2 := filter_len ks.length p
    have hpi : p i = true := by
      rw [hp]
      simp only [List.getElem?_eq_getElem hi, Option.map_some, Option.getD_some, hn, hb]
      simp
    have e3 : (sm ks.length fun j => if (p j && D j) = true then (1 : Int) else 0) + 1 ≤ sm ks.length fun j => if p j = true then 1 else 0 := by
      have e4 := sm_set i hi (fun j => if (p j && D j) = true then (1 : Int) else 0) (fun j => if j = i then 1 else if (p j && D j) = true then (1 : Int) else 0) (fun j _ hne => by rw [if_neg hne])
      simp only [hD, Bool.and_false, Bool.false_eq_true, if_false, if_true] at e4
      have e5 := sm_le (n := ks.length) (g := fun j => if j = i then 1 else if (p j && D j) = true then (1 : Int) else 0) (h := fun j => if p j = true then 1 else 0) (fun j _ => by
        by_cases e : j = i
        · subst e; simp [hpi]
        · simp only [e, if_false]
          cases p j <;> cases D j <;> simp)
      omega
    omega
/-- Behind both. -/
theorem give2 {B : List MBlk} {ks : List MSkr} (hd : Decd B ks) : ∀ j, j ≤ ks.length → GvI B ks (fun i => homeN ks i || (decide (i < j) && inN ks i)) (gv2 B ks j) ∧ ∀ i (h : i < ks.length), ks[i].home = true → (gv2 B ks j).1[i]? = some ks[i].r.seat := by
  intro j
  induction j with
  | zero =>
    intro _
    obtain ⟨h1, h2⟩ := give1 hd ks.length (Nat.le_refl _)
    refine ⟨h1.congr fun i => ?_, fun i hi hh => h2 i hi hi hh⟩
    simp only [Nat.not_lt_zero, decide_false, Bool.false_and, Bool.or_false]
    by_cases e : i < ks.length
    · simp [e]
    · have : homeN ks i = false := Bool.eq_false_iff.2 fun h => e (homeN_lt h)
      simp [this]
  | succ j ih =>
    intro hj
    obtain ⟨h1, h2⟩ := ih (by omega)
    have hjl : j < ks.length := by omega
    rw [gv2_succ hjl]
    have hlt : ∀ i, i ≠ j → (decide (i < j + 1) = decide (i < j)) := fun i e => decide_eq_decide.2 (by omega)
    by_cases hs : ks[j].no = true ∨ ks[j].blk = ks[j].own
    · have e : st2 B ks[j] j (gv2 B ks j) = gv2 B ks j := by unfold st2; rw [if_pos hs]
      rw [e]
      refine ⟨h1.congr fun i => ?_, h2⟩
      by_cases e : i = j
      · subst e
        rw [homeN_at hjl, inN_at hjl]
        unfold MSkr.home
        rcases hs with hs | hs
        · simp [hs]
        · cases ks[i].no <;> simp [hs]
      · rw [hlt i e]
    · have hno : ks[j].no = false := Bool.eq_false_iff.2 fun h => hs (.inl h)
      have hnb : ¬ ks[j].blk = ks[j].own := fun h => hs (.inr h)
      have hD : (homeN ks j || (decide (j < j) && inN ks j)) = false := by
        rw [homeN_at hjl]
        unfold MSkr.home
        simp [hnb]
      obtain ⟨x, a, b, c⟩ := room_left hd h1 hjl hD hno
      have e : st2 B ks[j] j (gv2 B ks j) = ((gv2 B ks j).1.set j x, (gv2 B ks j).2 ++ [⟨ks[j].r.who, x⟩]) := by unfold st2; rw [if_neg hs, a]
      rw [e]
      refine ⟨h1.add hjl hD hno b c rfl (fun i => ?_), fun i hi hh => ?_⟩
      · by_cases e : i = j
        · subst e; simp [inN_at hjl, hno]
        · rw [hlt i e]; simp [e]
      · rw [List.getElem?_set, if_neg (fun e => by subst e; exact hnb (home_no hh).2)]
        exact h2 i hi hh
end Go.Proofs.YtppjpledjhinbaaDoor
/- Seekers of whom more was decided, in memory (plain). -/
namespace Go.Proofs.YtppjpledjhinbaaDoor
open Go.RowKit Go.Lib
def decK (ks : List MSkr) (mu no : Nat → Bool) (β : Nat → Int) : List MSkr := ks.mapIdx fun i x => { x with must := mu i, no := no i, blk := β i }
theorem decK_len (ks : List MSkr) (mu no : Nat → Bool) (β : Nat → Int) : (decK ks mu no β).length = ks.length := by simp [decK]
theorem decK_at (ks : List MSkr) (mu no : Nat → Bool) (β : Nat → Int) {i : Nat} (h : i < ks.length) : (decK ks mu no β)[i]'(by rw [decK_len]; exact h) = { ks[i] with must := mu i, no := no i, blk := β i } := by simp [decK]
theorem decK_get (ks : List MSkr) (mu no : Nat → Bool) (β : Nat → Int) {i : Nat} (h : i < ks.length) : (decK ks mu no β)[i]? = some { ks[i] with must := mu i, no := no i, blk := β i } := by
  rw [List.getElem?_eq_getElem (by rw [decK_len]; exact h), decK_at ks mu no β h]
theorem kN_dec (B : List MBlk) (ks : List MSkr) (mu no : Nat → Bool) (β : Nat → Int) {i : Nat} (h : i < ks.length) : kN B (decK ks mu no β) i = { kN B ks i with must := mu i, no := no i, blk := β i } := by
  rw [kN_at (by rw [decK_len]; exact h), kN_at h, decK_at ks mu no β h]
  rfl
theorem catv_set {α : Type} {f : α → List Value} {k : Nat} (hf : ∀ x, (f x).length = k) : ∀ (l : List α) (j : Nat) (hj : j < l.length) (o : Nat) (_ : o < k) (u : Value) (x' : α), f x' = (f l[j]).set o u → (catv f l).set (j * k + o) u = catv f (l.set j x') := by
  intro l
  induction l with
  | nil => intro j hj; simp at hj
  | cons y t ih =>
    intro j hj o ho u x' hx
    cases j with
    | zero =>
      rw [catv_cons, List.set_cons_zero, catv_cons, Nat.zero_mul, Nat.zero_add, List.set_append_left _ _ (by rw [hf]; exact ho)]
      simp only [List.getElem_cons_zero] at hx
      rw [hx]
    | succ j =>
      have e : (j + 1) * k + o = k + (j * k + o) := by rw [Nat.succ_mul]; omega
      rw [catv_cons, List.set_cons_succ, catv_cons, e, List.set_append_right _ _ (by rw [hf]; omega), hf, Nat.add_sub_cancel_left]
      congr 1
      exact ih j (by simpa using hj) o ho u x' (by simpa using hx)
theorem decK_must (ks : List MSkr) (mu no : Nat → Bool) (β : Nat → Int) {j : Nat} (h : j < ks.length) (b : Bool) : (catv skrC (decK ks mu no β)).set (j * 9 + 5) (.bool b) = catv skrC (decK ks (withI mu j b) no β) := by
  rw [catv_set skrC_len _ j (by rw [decK_len]; exact h) 5 (by omega) (.bool b) { ks[j] with must := b, no := no j, blk := β j } (by rw [decK_at ks mu no β h]; rfl)]
  congr 1
  apply List.ext_getElem
  · simp [decK]
  · intro i h1 h2
    have hi : i < ks.length := by simpa [decK] using h1
    rw [List.getElem_set, decK_at ks mu no β hi, decK_at ks _ no β hi]
    unfold withI
    by_cases e : j = i
    · subst e; simp
    · rw [if_neg e, if_neg (fun x => e x.symm)]
theorem decK_no (ks : List MSkr) (mu no : Nat → Bool) (β : Nat → Int) {j : Nat} (h : j < ks.length) (b : Bool) : (catv skrC (decK ks mu no β)).set (j * 9 + 6) (.bool b) = catv skrC (decK ks mu (withI no j b) β) := by
  rw [catv_set skrC_len _ j (by rw [decK_len]; exact h) 6 (by omega) (.bool b) { ks[j] with must := mu j, no := b, blk := β j } (by rw [decK_at ks mu no β h]; rfl)]
  congr 1
  apply List.ext_getElem
  · simp [decK]
  · intro i h1 h2
    have hi : i < ks.length := by simpa [decK] using h1
    rw [List.getElem_set, decK_at ks mu no β hi, decK_at ks mu _ β hi]
    unfold withI
    by_cases e : j = i
    · subst e; simp
    · rw [if_neg e, if_neg (fun x => e x.symm)]
theorem decK_blk (ks : List MSkr) (mu no : Nat → Bool) (β : Nat → Int) {j : Nat} (h : j < ks.length) (b : Int) : (catv skrC (decK ks mu no β)).set (j * 9 + 7) (.int .i64 b) = catv skrC (decK ks mu no (setI β j b)) := by
  rw [catv_set skrC_len _ j (by rw [decK_len]; exact h) 7 (by omega) (.int .i64 b) { ks[j] with must := mu j, no := no j, blk := b } (by rw [decK_at ks mu no β h]; rfl)]
  congr 1
  apply List.ext_getElem
  · simp [decK]
  · intro i h1 h2
    have hi : i < ks.length := by simpa [decK] using h1
    rw [List.getElem_set, decK_at ks mu no β hi, decK_at ks mu no _ hi]
    unfold setI
    by_cases e : j = i
    · subst e; simp
    · rw [if_neg e, if_neg (fun x => e x.symm)]
theorem decK_congr {ks : List MSkr} {mu mu' no no' : Nat → Bool} {β β' : Nat → Int} (h : ∀ i, i < ks.length → mu i = mu' i ∧ no i = no' i ∧ β i = β' i) : decK ks mu no β = decK ks mu' no' β' := by
  apply List.ext_getElem
  · simp [decK]
  · intro i h1 h2
    have hi : i < ks.length := by simpa [decK] using h1
    obtain ⟨a, b, c⟩ := h i hi
    rw [decK_at ks mu no β hi, decK_at ks mu' no' β' hi, a, b, c]
theorem decK_id {L : List MSpot} {rs : List MSit} : decK (boardK L [] rs) (fun _ => false) (fun _ => false) (fun _ => -1) = boardK L [] rs := by
  apply List.ext_getElem
  · simp [decK]
  · intro i h1 h2
    have hi : i < rs.length := by rw [← boardK_len L rs []]; exact h2
    rw [decK_at _ _ _ _ h2, boardK_at L rs [] i hi]
theorem MinIs.congr {K K' : Nat → Skr} {caps : Nat → Nat} {n m : Nat} {c : Int} (h : MinIs K caps n m c) (e : ∀ i, i < n → K i = K' i) : MinIs K' caps n m c := by
  have hc : ∀ σ, costA K n m σ = costA K' n m σ := fun σ => sm_congr fun i hi => by rw [e i hi]
  have ho : ∀ σ, OkA K caps n m σ ↔ OkA K' caps n m σ := fun σ => by
    have hi : ∀ b, (sm n fun i => if σ i = b ∧ (K i).inf = true then (1 : Int) else 0) = sm n fun i => if σ i = b ∧ (K' i).inf = true then 1 else 0 := fun b => sm_congr fun i hi => by rw [e i hi]
    constructor
    · intro h; exact ⟨fun i hi hs => by rw [← e i hi]; exact h.may i hi hs, h.room, fun b hb => by rw [← hi b]; exact h.inf b hb⟩
    · intro h; exact ⟨fun i hi hs => by rw [e i hi]; exact h.may i hi hs, h.room, fun b hb => by rw [hi b]; exact h.inf b hb⟩
  obtain ⟨⟨σ, a, b⟩, d⟩ := h
  exact ⟨⟨σ, (ho σ).1 a, by rw [← hc]; exact b⟩, fun τ hτ => by rw [← hc]; exact d τ ((ho τ).2 hτ)⟩
theorem gP_len (l : List MRow) (rs : List MSit) : (boardK (spotsL l) [] rs).length = rs.length := boardK_len ..
/-- While it is found who is taken. -/
theorem must_board {l : List MRow} {rs : List MSit} {f : Nat → Bool} {c : Int} (h : MinIs (kN (blocksOf (spotsL l)) (decK (boardK (spotsL l) [] rs) f (fun _ => false) fun _ => -1)) (capsOf (blocksOf (spotsL l))) rs.length (blocksOf (spotsL l)).length c) : MinIs (mustK (gP l rs) f) (gC l) rs.length (gM l) c :=
  h.congr fun i hi => by
    rw [kN_dec _ _ _ _ _ (by rw [gP_len]; exact hi)]
    obtain ⟨_, h2, h3⟩ := gP_open l rs i hi
    have e : (gP l rs i).blk = -1 := by rw [gP_at l rs hi]; rfl
    unfold mustK
    show { gP l rs i with must := f i, no := false, blk := -1 } = _
    rw [← h2, ← e]
/-- While the blocks are chosen. -/
theorem plan_board {l : List MRow} {rs : List MSit} {T : Nat → Bool} {β : Nat → Int} {c : Int} (h : MinIs (kN (blocksOf (spotsL l)) (decK (boardK (spotsL l) [] rs) T (fun i => !T i) β)) (capsOf (blocksOf (spotsL l))) rs.length (blocksOf (spotsL l)).length c) : MinIs (planK (gP l rs) T β) (gC l) rs.length (gM l) c :=
  h.congr fun i hi => by
    rw [kN_dec _ _ _ _ _ (by rw [gP_len]; exact hi)]
    rfl
noncomputable def bestC (l : List MRow) (rs : List MSit) : Int := Classical.choose (min_ex (gP l rs) (gC l) rs.length (gM l))
theorem bestC_is (l : List MRow) (rs : List MSit) : MinIs (gP l rs) (gC l) rs.length (gM l) (bestC l rs) := Classical.choose_spec (min_ex (gP l rs) (gC l) rs.length (gM l))
/-- Who of the first j is taken; all of them. -/
noncomputable def tkL (l : List MRow) (rs : List MSit) (j : Nat) : Nat → Bool := tk (gP l rs) (gC l) rs.length (gM l) (bestC l rs) j
noncomputable def tkT (l : List MRow) (rs : List MSit) : Nat → Bool := tkL l rs rs.length
/-- Which blocks the first j chose. -/
noncomputable def chL (l : List MRow) (rs : List MSit) (j : Nat) : Nat → Int := ch (gP l rs) (gC l) rs.length (gM l) (bestC l rs) (tkT l rs) j
theorem take_cost {l : List MRow} {rs : List MSit} {j : Nat} {c : Int} (h : MinIs (kN (blocksOf (spotsL l)) (decK (boardK (spotsL l) [] rs) (withI (tkL l rs j) j true) (fun _ => false) fun _ => -1)) (capsOf (blocksOf (spotsL l))) rs.length (blocksOf (spotsL l)).length c) : withI (tkL l rs j) j (decide (c = bestC l rs)) = tkL l rs (j + 1) := by
  have h1 := must_min (gP_open l rs) (bestC_is l rs) (must_board h)
  have h2 : decide (c = bestC l rs) = tkL l rs (j + 1) j := by
    rw [Bool.eq_iff_iff, decide_eq_true_eq, h1]
    exact (tk_at (P := gP l rs) (caps := gC l) (n := rs.length) (m := gM l) (best := bestC l rs) j).symm
  rw [h2]
  exact (tk_succ (P := gP l rs) (caps := gC l) (n := rs.length) (m := gM l) (best := bestC l rs) j).symm
theorem choose_cost {l : List MRow} {rs : List MSit} {β : Nat → Int} {c : Int} (h : MinIs (kN (blocksOf (spotsL l)) (decK (boardK (spotsL l) [] rs) (tkT l rs) (fun i => !tkT l rs i) β)) (capsOf (blocksOf (spotsL l))) rs.length (blocksOf (spotsL l)).length c) : c = bestC l rs ↔ Chose (gP l rs) (gC l) rs.length (gM l) (bestC l rs) (tkT l rs) β :=
  plan_min (gP_open l rs) (bestC_is l rs) (plan_board h)
theorem taken_ok (l : List MRow) (rs : List MSit) : ∃ σ, GoodS (gP l rs) (gC l) rs.length (gM l) (bestC l rs) σ ∧ ∀ i, i < rs.length → (σ i < gM l ↔ tkT l rs i = true) := by
  obtain ⟨σ, h1, h2⟩ := tk_seats (bestC_is l rs) rs.length (Nat.le_refl _)
  exact ⟨σ, h1, tk_only h1 h2⟩
end Go.Proofs.YtppjpledjhinbaaDoor
/- What the seating is (plain): well seated, as many as can be, as many kept as can be. -/
namespace Go.Proofs.YtppjpledjhinbaaDoor
open Go.RowKit Go.Lib
noncomputable def ksF (l : List MRow) (rs : List MSit) : List MSkr := decK (boardK (spotsL l) [] rs) (tkT l rs) (fun i => !tkT l rs i) (chL l rs rs.length)
/-- The seats, one for each rider. -/
noncomputable def seatPl (l : List MRow) (rs : List MSit) : List MSeat := (gv2 (blocksOf (spotsL l)) (ksF l rs) rs.length).1
theorem ksF_len (l : List MRow) (rs : List MSit) : (ksF l rs).length = rs.length := by unfold ksF; rw [decK_len, boardK_len]
theorem ksF_at (l : List MRow) (rs : List MSit) {i : Nat} (hi : i < rs.length) : (ksF l rs)[i]'(by rw [ksF_len]; exact hi) = ⟨rs[i], tkT l rs i, !tkT l rs i, chL l rs rs.length i, ownOf (spotsL l) (rs.take i) rs[i]⟩ := by
  unfold ksF
  rw [decK_at _ _ _ _ (by rw [boardK_len]; exact hi), boardK_at (spotsL l) rs [] i hi, List.nil_append]
theorem own_spot {L B x} (h : 0 ≤ ownOf L B x) : ∃ s, findS L x.seat = some s ∧ s ∈ L ∧ s.seat = x.seat ∧ ownOf L B x = s.blk ∧ takenN B x.seat = 0 ∧ oneE x.who s = 0 := by
  unfold ownOf at h ⊢
  split at h
  · rename_i hc
    rw [if_pos hc]
    obtain ⟨s, hs⟩ := Option.isSome_iff_exists.1 hc.1
    obtain ⟨a, b⟩ := findS_some hs
    have e : spotAt L x.seat = s := by unfold spotAt; rw [hs]; rfl
    rw [e] at hc ⊢
    exact ⟨s, hs, a, b, rfl, hc.2.1, hc.2.2⟩
  · omega
theorem one_unblocked {x : MWho} {s : MSpot} (h : oneE x s = 0) : s.blocked = false := by
  unfold oneE at h
  cases hb : s.blocked with
  | false => rfl
  | true => rw [if_pos hb] at h; cases h
theorem seat_in {l : List MRow} {b : Nat} (hb : b < (blocksOf (spotsL l)).length) {x : MSeat} : x ∈ (blocksOf (spotsL l))[b].seats ↔ ∃ s ∈ spotsL l, s.blk = (b : Int) ∧ s.blocked = false ∧ s.seat = x := by
  rw [(blks_map l).seats b hb, List.mem_map]
  constructor
  · rintro ⟨s, h1, h2⟩
    obtain ⟨h3, h4⟩ := List.mem_filter.1 h1
    simp only [Bool.and_eq_true, decide_eq_true_eq, Bool.not_eq_true'] at h4
    exact ⟨s, h3, h4.1, h4.2, h2⟩
  · rintro ⟨s, h1, h2, h3, h4⟩
    exact ⟨s, List.mem_filter.2 ⟨h1, by simp [h2, h3]⟩, h4⟩
theorem spot_uniq {l : List MRow} {s t : MSpot} (hs : s ∈ spotsL l) (ht : t ∈ spotsL l) (e : s.seat = t.seat) : s = t := by
  refine Classical.byContradiction fun hne => ?_
  have := (spots_distinct l).1
  obtain ⟨i, hi, rfl⟩ := List.getElem_of_mem hs
  obtain ⟨j, hj, rfl⟩ := List.getElem_of_mem ht
  rw [List.pairwise_iff_getElem] at this
  rcases Nat.lt_trichotomy i j with h | h | h
  · exact this i j hi hj h e
  · subst h; exact hne rfl
  · exact this j i hj hi h e.symm
theorem find_spot {l : List MRow} {s : MSpot} (hs : s ∈ spotsL l) : findS (spotsL l) s.seat = some s := by
  obtain ⟨t, ht⟩ := Option.isSome_iff_exists.1 (findS_isSome.2 (List.mem_map.2 ⟨s, hs, rfl⟩))
  obtain ⟨a, b⟩ := findS_some ht
  rw [ht, spot_uniq a hs b]
/-- Who fits an unblocked spot fits its block, and the other way round. -/
theorem fit_block {l : List MRow} {b : Nat} (hb : b < (blocksOf (spotsL l)).length) {s : MSpot} (hs : s ∈ spotsL l) (e : s.blk = (b : Int)) (hbl : s.blocked = false) (x : MWho) : fitB x (blocksOf (spotsL l))[b] = decide (oneE x s = 0) := by
  obtain ⟨t, ht, e2, e3, e4, _⟩ := (blks_map l).is b hb
  obtain ⟨a1, a2, _⟩ := spots_bk l s hs t ht (e.trans e2.symm)
  unfold fitB oneE blkSpot
  simp only [hbl, e3, e4, a1, a2]
theorem own_lt (l : List MRow) (B : List MSit) (x : MSit) : ownOf (spotsL l) B x < ((blocksOf (spotsL l)).length : Int) := by
  by_cases h : 0 ≤ ownOf (spotsL l) B x
  · obtain ⟨s, _, h2, _, h4, _⟩ := own_spot h
    rw [h4]
    exact (blks_map l).len s h2
  · omega
theorem capsOf_at {B : List MBlk} {b : Nat} (h : b < B.length) : capsOf B b = B[b].seats.length := by unfold capsOf; rw [List.getElem?_eq_getElem h]; rfl
/-- A good seating that does just what was decided. -/
structure SitsAs (l : List MRow) (rs : List MSit) (σ : Nat → Nat) : Prop where
  ok : OkA (gP l rs) (gC l) rs.length (gM l) σ
  cost : costA (gP l rs) rs.length (gM l) σ = bestC l rs
  tk : ∀ i, i < rs.length → (σ i < gM l ↔ tkT l rs i = true)
  at_ : ∀ i, i < rs.length → tkT l rs i = true → (σ i : Int) = chL l rs rs.length i
theorem sits_as (l : List MRow) (rs : List MSit) : ∃ σ, SitsAs l rs σ := by
  have hown : ∀ i, i < rs.length → (gP l rs i).own < (gM l : Int) := fun i hi => by
    rw [gP_at l rs hi]
    exact own_lt l _ _
  obtain ⟨⟨σ, h1, h2, h3⟩, h4⟩ := ch_chose (taken_ok l rs) hown rs.length (Nat.le_refl _)
  refine ⟨σ, h1.1, h1.2, h2, fun i hi ht => h3 i hi ht ?_⟩
  obtain ⟨d, hd, _⟩ := h4 i hi ht
  show 0 ≤ ch _ _ _ _ _ _ _ _
  rw [hd]; omega
theorem home_iff (l : List MRow) (rs : List MSit) {i : Nat} (hi : i < rs.length) : ((ksF l rs)[i]'(by rw [ksF_len]; exact hi)).home = true ↔ tkT l rs i = true ∧ chL l rs rs.length i = ownOf (spotsL l) (rs.take i) rs[i] := by
  rw [ksF_at l rs hi]
  unfold MSkr.home
  simp
theorem decd (l : List MRow) (rs : List MSit) : Decd (blocksOf (spotsL l)) (ksF l rs) := by
  obtain ⟨σ, hσ⟩ := sits_as l rs
  have hat : ∀ i (h : i < rs.length), tkT l rs i = true → ∃ b : Nat, chL l rs rs.length i = b ∧ b < gM l ∧ σ i = b := fun i h ht => ⟨σ i, (hσ.at_ i h ht).symm, (hσ.tk i h).2 ht, rfl⟩
  refine ⟨fun i h hn => ?_, fun b hb => ?_, fun i h hh => ?_, fun b hb => ?_, fun b c hb hc s h1 h2 => ?_⟩
  · have hi : i < rs.length := by rw [← ksF_len l rs]; exact h
    rw [ksF_at l rs hi] at hn ⊢
    obtain ⟨b, h1, h2, _⟩ := hat i hi (by simpa using hn)
    exact ⟨b, h1, h2⟩
  · rw [filter_len, ksF_len, ← capsOf_at hb]
    refine Int.le_trans (sm_le fun i hi => ?_) (hσ.ok.room b hb)
    rw [List.getElem?_eq_getElem (by rw [ksF_len]; exact hi), ksF_at l rs hi]
    simp only [Option.map_some, Option.getD_some, Bool.not_not, Bool.and_eq_true, decide_eq_true_eq]
    by_cases e : tkT l rs i = true ∧ chL l rs rs.length i = (b : Int)
    · rw [if_pos e, if_pos (by have := hσ.at_ i hi e.1; omega)]; exact Int.le_refl _
    · rw [if_neg e]; split <;> omega
  · have hi : i < rs.length := by rw [← ksF_len l rs]; exact h
    obtain ⟨ht, ho⟩ := (home_iff l rs hi).1 hh
    obtain ⟨b, h1, h2, _⟩ := hat i hi ht
    obtain ⟨s, _, m1, m2, m3, m4, m5⟩ := own_spot (L := spotsL l) (B := rs.take i) (x := rs[i]) (by omega)
    rw [ksF_at l rs hi]
    refine ⟨?_, fun j hj => ?_⟩
    · show rs[i].seat ∈ seatsAt (blocksOf (spotsL l)) (chL l rs rs.length i)
      rw [h1, seatsAt_is h2, seat_in h2]
      exact ⟨s, m1, by omega, one_unblocked m5, m2⟩
    · rw [ksF_at l rs (by omega)]
      exact (takenN_pos _ _).1 m4 _ (by
        rw [List.mem_take_iff_getElem]
        exact ⟨j, by omega, rfl⟩)
  · rw [(blks_map l).seats b hb]
    unfold List.Nodup
    rw [List.pairwise_map]
    exact ((spots_distinct l).1).filter _
  · obtain ⟨x, a1, a2, _, a4⟩ := (seat_in hb).1 h1
    obtain ⟨y, b1, b2, _, b4⟩ := (seat_in hc).1 h2
    obtain rfl := spot_uniq a1 b1 (a4.trans b4.symm)
    omega
/-- The seats, rider by rider. -/
structure SeatsOk (l : List MRow) (rs : List MSit) (S : List MSeat) (σ : Nat → Nat) : Prop where
  len : S.length = rs.length
  none : ∀ i (h : i < S.length), tkT l rs i = false → S[i] = seatZ
  some : ∀ i (h : i < S.length) (h' : i < rs.length), tkT l rs i = true → ∃ s ∈ spotsL l, s.seat = S[i] ∧ s.blocked = false ∧ s.blk = (σ i : Int) ∧ oneE rs[i].who s = 0
  dist : ∀ i j (hi : i < S.length) (hj : j < S.length), tkT l rs i = true → tkT l rs j = true → S[i] = S[j] → i = j
  home : ∀ i (h : i < S.length) (h' : i < rs.length), tkT l rs i = true → (σ i : Int) = ownOf (spotsL l) (rs.take i) rs[i] → S[i] = rs[i].seat
theorem seats_ok (l : List MRow) (rs : List MSit) {σ : Nat → Nat} (hσ : SitsAs l rs σ) : SeatsOk l rs (seatPl l rs) σ := by
  obtain ⟨h1, h2⟩ := give2 (decd l rs) rs.length (by rw [ksF_len]; exact Nat.le_refl _)
  have hD : ∀ i, i < rs.length → (homeN (ksF l rs) i || (decide (i < rs.length) && inN (ksF l rs) i)) = tkT l rs i := fun i hi => by
    have hk : i < (ksF l rs).length := by rw [ksF_len]; exact hi
    rw [homeN_at hk, inN_at hk, ksF_at l rs hi]
    unfold MSkr.home
    simp only [Bool.not_not, hi, decide_true, Bool.true_and]
    cases tkT l rs i <;> simp
  have hlen : (seatPl l rs).length = rs.length := by
    have := h1.len
    rw [ksF_len] at this
    exact this
  have hk : ∀ {i}, i < rs.length → i < (ksF l rs).length := fun h => by rw [ksF_len]; exact h
  refine ⟨hlen, fun i h ht => ?_, fun i h h' ht => ?_, fun i j hi hj hti htj e => ?_, fun i h h' ht ho => ?_⟩
  · have hi : i < rs.length := by omega
    have := h1.zero i (by rw [hD i hi]; exact ht) (hk hi)
    have e : (seatPl l rs)[i]? = some seatZ := this
    rw [List.getElem?_eq_getElem h] at e
    injection e
  · obtain ⟨a, x, b, c, d, f⟩ := h1.seat i (by rw [hD i h']; exact ht)
    have e : (seatPl l rs)[i]? = some x := b
    rw [List.getElem?_eq_getElem h] at e
    injection e with e
    rw [e]
    rw [ksF_at l rs h'] at d
    have hs := hσ.at_ i h' ht
    have hl := (hσ.tk i h').2 ht
    simp only at d
    rw [← hs, seatsAt_is hl, seat_in hl] at d
    obtain ⟨s, s1, s2, s3, s4⟩ := d
    refine ⟨s, s1, s4, s3, s2, ?_⟩
    have hm := hσ.ok.may i h' hl
    rw [open_may (gP_open l rs) h', gP_at l rs h'] at hm
    unfold kOf at hm
    simp only [List.getElem?_eq_getElem hl, Option.map_some, Option.getD_some] at hm
    rw [fit_block hl s1 s2 s3] at hm
    simpa using hm
  · have hi' : i < rs.length := by omega
    have hj' : j < rs.length := by omega
    refine h1.dist i j (seatPl l rs)[i] (by rw [hD i hi']; exact hti) (by rw [hD j hj']; exact htj) (List.getElem?_eq_getElem hi) ?_
    rw [e]
    exact List.getElem?_eq_getElem hj
  · have := h2 i (hk h') ((home_iff l rs h').2 ⟨ht, by rw [← hσ.at_ i h' ht]; exact ho⟩)
    rw [ksF_at l rs h'] at this
    have e : (seatPl l rs)[i]? = some rs[i].seat := this
    rw [List.getElem?_eq_getElem h] at e
    injection e
/-- Who sits, as sitters. -/
def sitL (rs : List MSit) (S : List MSeat) : List MSit := ((rs.zip S).filter fun p => decide (p.2 ≠ seatZ)).map fun p => ⟨p.1.who, p.2⟩
/-- The old seats; one that a rider before has too counts as none. -/
def oldsL (rs : List MSit) : List MSeat := rs.mapIdx fun i x => if takenN (rs.take i) x.seat = 0 then x.seat else seatZ
def keptL (rs : List MSit) (S : List MSeat) : Nat := ((S.zip (oldsL rs)).filter fun p => decide (p.1 ≠ seatZ) && decide (p.1 = p.2)).length
theorem spot_ne {l : List MRow} {s : MSpot} (h : s ∈ spotsL l) : s.seat ≠ seatZ := by
  intro e
  have := ((spots_distinct l).2 s h).1
  rw [e] at this
  simp [seatZ] at this
theorem filter_sm {α : Type} (p : α → Bool) : ∀ (l : List α), ((l.filter p).length : Int) = sm l.length fun i => if ((l[i]?).map p).getD false = true then 1 else 0 := by
  intro l
  induction l with
  | nil => rfl
  | cons x t ih =>
    rw [List.length_cons, sm_shift, List.filter_cons]
    simp only [List.getElem?_cons_zero, List.getElem?_cons_succ, Option.map_some, Option.getD_some]
    by_cases h : p x = true
    · rw [if_pos h, if_pos h, List.length_cons, ← ih]; omega
    · rw [if_neg h, if_neg h, ← ih]; omega
theorem sm_two {n i j : Nat} (hi : i < n) (hj : j < n) (hne : i ≠ j) {g : Nat → Int} (h0 : ∀ k, k < n → 0 ≤ g k) (h1 : g i = 1) (h2 : g j = 1) : 2 ≤ sm n g := by
  have e := sm_le (n := n) (g := fun k => (if k = i then (1 : Int) else 0) + if k = j then 1 else 0) (h := g) (fun k hk => by
    by_cases a : k = i
    · subst a; rw [if_pos rfl, if_neg hne, h1]; omega
    · rw [if_neg a]
      by_cases b : k = j
      · subst b; rw [if_pos rfl, h2]; omega
      · rw [if_neg b]; have := h0 k hk; omega)
  rw [sm_add, sm_one i hi, sm_one j hj] at e
  omega
theorem sit_nz {l : List MRow} {rs : List MSit} {S : List MSeat} {σ : Nat → Nat} (h : SeatsOk l rs S σ) {i : Nat} (hi : i < S.length) : S[i] ≠ seatZ ↔ tkT l rs i = true := by
  constructor
  · intro hn
    refine Classical.byContradiction fun ht => hn (h.none i hi (Bool.eq_false_iff.2 ht))
  · intro ht
    obtain ⟨s, h1, h2, _⟩ := h.some i hi (by rw [← h.len]; exact hi) ht
    rw [← h2]; exact spot_ne h1
/-- They are well seated. -/
theorem sit_well {l : List MRow} {rs : List MSit} {S : List MSeat} {σ : Nat → Nat} (hσ : SitsAs l rs σ) (h : SeatsOk l rs S σ) : wellB (spotsL l) (sitL rs S) := by
  have hlen := h.len
  have key : ∀ i (hi : i < (rs.zip S).length), (rs.zip S)[i].2 ≠ seatZ → ∃ (h1 : i < rs.length) (h2 : i < S.length), (rs.zip S)[i] = (rs[i], S[i]) ∧ tkT l rs i = true := fun i hi hn => by
    rw [List.length_zip, hlen, Nat.min_self] at hi
    have h2 : i < S.length := by omega
    rw [List.getElem_zip] at hn
    exact ⟨hi, h2, List.getElem_zip, (sit_nz h h2).1 hn⟩
  unfold wellB sitL
  constructor
  · intro x hx
    obtain ⟨p, hp, rfl⟩ := List.mem_map.1 hx
    obtain ⟨hm, hn⟩ := List.mem_filter.1 hp
    obtain ⟨i, hi, rfl⟩ := List.getElem_of_mem hm
    obtain ⟨h1, h2, e, ht⟩ := key i hi (by simpa using hn)
    rw [e]
    obtain ⟨s, s1, s2, s3, s4, s5⟩ := h.some i h2 h1 ht
    have hf := find_spot s1
    rw [s2] at hf
    refine ⟨?_, ?_⟩
    · show (findS (spotsL l) S[i]).isSome = true
      rw [hf]; rfl
    · show oneE rs[i].who (spotAt (spotsL l) S[i]) = 0
      unfold spotAt; rw [hf]; exact s5
  · rw [List.pairwise_map, List.pairwise_filter, List.pairwise_iff_getElem]
    intro i j hi hj hij hp hq
    obtain ⟨i1, i2, ei, ti⟩ := key i hi (by simpa using hp)
    obtain ⟨j1, j2, ej, tj⟩ := key j hj (by simpa using hq)
    rw [ei, ej]
    obtain ⟨s, s1, s2, s3, s4, s5⟩ := h.some i i2 i1 ti
    obtain ⟨t, t1, t2, t3, t4, t5⟩ := h.some j j2 j1 tj
    refine ⟨fun e => ?_, fun ⟨e1, e2, e3⟩ => ?_⟩
    · have := h.dist i j i2 j2 ti tj e
      omega
    · have b1 : blkOf (spotsL l) S[i] = s.blk := by unfold blkOf spotAt; rw [← s2, find_spot s1]; rfl
      have b2 : blkOf (spotsL l) S[j] = t.blk := by unfold blkOf spotAt; rw [← t2, find_spot t1]; rfl
      simp only at e1 e2 e3
      rw [b1, b2, s4, t4] at e3
      have hm := (hσ.tk i i1).2 ti
      have h5 := hσ.ok.inf (σ i) hm
      have g1 : ∀ k (hk : k < rs.length), (gP l rs k).inf = rs[k].who.inf := fun k hk => by rw [gP_at l rs hk]; rfl
      have h6 := sm_two (n := rs.length) i1 j1 (by omega) (g := fun k => if σ k = σ i ∧ (gP l rs k).inf = true then (1 : Int) else 0) (fun k _ => by split <;> omega) (by rw [if_pos ⟨rfl, by rw [g1 i i1]; exact e1⟩]) (by rw [if_pos ⟨by omega, by rw [g1 j j1]; exact e2⟩])
      omega
theorem sit_count {l : List MRow} {rs : List MSit} {S : List MSeat} {σ : Nat → Nat} (hσ : SitsAs l rs σ) (h : SeatsOk l rs S σ) : ((sitL rs S).length : Int) = seatedN rs.length (gM l) σ := by
  have hlen := h.len
  unfold sitL
  rw [List.length_map, filter_sm, List.length_zip, hlen, Nat.min_self]
  refine sm_congr fun i hi => ?_
  have h2 : i < S.length := by omega
  rw [List.getElem?_eq_getElem (by rw [List.length_zip]; omega), List.getElem_zip]
  simp only [Option.map_some, Option.getD_some, decide_eq_true_eq]
  by_cases e : tkT l rs i = true
  · rw [if_pos ((sit_nz h h2).2 e), if_pos ((hσ.tk i hi).2 e)]
  · rw [if_neg (fun x => e ((sit_nz h h2).1 x)), if_neg (fun x => e ((hσ.tk i hi).1 x))]
theorem oldsL_len (rs : List MSit) : (oldsL rs).length = rs.length := by simp [oldsL]
theorem oldsL_at (rs : List MSit) {i : Nat} (hi : i < rs.length) : (oldsL rs)[i]'(by rw [oldsL_len]; exact hi) = if takenN (rs.take i) rs[i].seat = 0 then rs[i].seat else seatZ := by simp [oldsL]
theorem kept_iff {l : List MRow} {rs : List MSit} {S : List MSeat} {σ : Nat → Nat} (h : SeatsOk l rs S σ) {i : Nat} (hi : i < rs.length) (h2 : i < S.length) (ht : tkT l rs i = true) : S[i] = (oldsL rs)[i]'(by rw [oldsL_len]; exact hi) ↔ (σ i : Int) = ownOf (spotsL l) (rs.take i) rs[i] := by
  rw [oldsL_at rs hi]
  constructor
  · intro e
    split at e
    · rename_i h0
      obtain ⟨s, s1, s2, s3, s4, s5⟩ := h.some i h2 hi ht
      have hf := find_spot s1
      rw [s2, e] at hf
      have hs : spotAt (spotsL l) rs[i].seat = s := by unfold spotAt; rw [hf]; rfl
      unfold ownOf
      rw [if_pos ⟨by rw [hf]; rfl, h0, by rw [hs]; exact s5⟩, hs, s4]
    · exact absurd e ((sit_nz h h2).2 ht)
  · intro e
    rw [h.home i h2 hi ht e]
    obtain ⟨s, _, _, _, _, m4, _⟩ := own_spot (L := spotsL l) (B := rs.take i) (x := rs[i]) (by omega)
    rw [if_pos m4]
theorem kept_count {l : List MRow} {rs : List MSit} {S : List MSeat} {σ : Nat → Nat} (hσ : SitsAs l rs σ) (h : SeatsOk l rs S σ) : (keptL rs S : Int) = keptN (gP l rs) rs.length (gM l) σ := by
  have hlen := h.len
  unfold keptL
  rw [filter_sm, List.length_zip, oldsL_len, hlen, Nat.min_self]
  refine sm_congr fun i hi => ?_
  have h2 : i < S.length := by omega
  rw [List.getElem?_eq_getElem (by rw [List.length_zip, oldsL_len]; omega), List.getElem_zip]
  simp only [Option.map_some, Option.getD_some, Bool.and_eq_true, decide_eq_true_eq]
  have ho : (gP l rs i).own = ownOf (spotsL l) (rs.take i) rs[i] := by rw [gP_at l rs hi]; rfl
  rw [ho]
  by_cases e : tkT l rs i = true
  · have a1 := (sit_nz h h2).2 e
    have a2 := (hσ.tk i hi).2 e
    have a3 := kept_iff h hi h2 e
    by_cases e4 : (σ i : Int) = ownOf (spotsL l) (rs.take i) rs[i]
    · rw [if_pos ⟨a1, a3.2 e4⟩, if_pos ⟨a2, e4⟩]
    · rw [if_neg (fun x => e4 (a3.1 x.2)), if_neg (fun x => e4 x.2)]
  · rw [if_neg (fun x => e ((sit_nz h h2).1 x.1)), if_neg (fun x => e ((hσ.tk i hi).1 x.1))]
/-- As many sit as the greatest number says, and as many of these in their old seats. -/
theorem seat_counts (l : List MRow) (rs : List MSit) (hn : rs.length < 100) : allE l (sitL rs (seatPl l rs)) = (if checkL l then 0 else 13) ∧ ((sitL rs (seatPl l rs)).length : Int) = (rs.length : Int) - bestC l rs / 100 ∧ (keptL rs (seatPl l rs) : Int) = (rs.length : Int) - bestC l rs / 100 - bestC l rs % 100 := by
  obtain ⟨σ, hσ⟩ := sits_as l rs
  have h := seats_ok l rs hσ
  refine ⟨?_, ?_⟩
  · unfold allE
    split
    · exact (sitE_well _ _).2 (sit_well hσ h)
    · rfl
  · rw [sit_count hσ h, kept_count hσ h]
    have h1 := hσ.cost
    rw [cost_split (gP_open l rs)] at h1
    have h2 := seated_le (n := rs.length) (m := gM l) σ
    have h3 := kept_le (P := gP l rs) (n := rs.length) (m := gM l) σ
    omega
end Go.Proofs.YtppjpledjhinbaaDoor
