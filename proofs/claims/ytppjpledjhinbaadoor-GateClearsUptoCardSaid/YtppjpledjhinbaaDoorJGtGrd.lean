/- Deny in plain words: down an order, whoever may go goes. -/
import Derived.Test.YtppjpledjhinbaaDoorJGtDrop
import Derived.Test.YtppjpledjhinbaaDoorJGtD
import Derived.Test.YtppjpledjhinbaaDoorJRsG
namespace Go.Proofs.YtppjpledjhinbaaDoor
open Go.RowKit Go.Lib
structure MCand where
  who : MWho
  vol : Bool
def candC (x : MCand) : List Value := whoC x.who ++ [.bool x.vol]
theorem candC_len (x : MCand) : (candC x).length = 4 := rfl
def rdr (x : MCand) : MSit := rider x.who
/-- The riders at these places. -/
def atP (R : List MSit) (P : List Nat) : List MSit := P.map fun i => R.getD i ⟨⟨0, false, false⟩, ⟨0, 0⟩⟩
noncomputable def dStep (l : List MRow) (R : List MSit) (s : List Nat × List Nat) (i : Nat) : List Nat × List Nat :=
  if fitL l (atP R s.1) = true then s else if seatN l (atP R (s.1.erase i)) < seatN l (atP R s.1) then s else (s.1.erase i, s.2 ++ [i])
noncomputable def dRun (l : List MRow) (R : List MSit) (s : List Nat × List Nat) (L : List Nat) : List Nat × List Nat := L.foldl (dStep l R) s
theorem dRun_nil (l : List MRow) (R : List MSit) (s : List Nat × List Nat) : dRun l R s [] = s := rfl
theorem dRun_app (l : List MRow) (R : List MSit) (s : List Nat × List Nat) (L K : List Nat) : dRun l R s (L ++ K) = dRun l R (dRun l R s L) K := List.foldl_append
theorem dRun_one (l : List MRow) (R : List MSit) (s : List Nat × List Nat) (i : Nat) : dRun l R s [i] = dStep l R s i := rfl
theorem dStep_fit {l : List MRow} {R : List MSit} {s : List Nat × List Nat} (h : fitL l (atP R s.1) = true) (i : Nat) : dStep l R s i = s := by unfold dStep; rw [if_pos h]
theorem dRun_fit {l : List MRow} {R : List MSit} {s : List Nat × List Nat} (h : fitL l (atP R s.1) = true) : ∀ L, dRun l R s L = s := by
  intro L
  induction L with
  | nil => rfl
  | cons i t ih => show dRun l R (dStep l R s i) t = s; rw [dStep_fit h, ih]
/-- The places down from n that bear v, until m are left. -/
def seqV (vol : Nat → Bool) (v : Bool) (n m : Nat) : List Nat := (((List.range n).drop m).reverse).filter fun i => vol i == v
theorem seqV_top (vol : Nat → Bool) (v : Bool) (n : Nat) : seqV vol v n n = [] := by unfold seqV; rw [List.drop_eq_nil_of_le (by simp)]; rfl
theorem seqV_next (vol : Nat → Bool) (v : Bool) {n m : Nat} (h : m < n) : seqV vol v n m = seqV vol v n (m + 1) ++ if vol m = v then [m] else [] := by
  unfold seqV
  rw [List.drop_eq_getElem_cons (by simpa using h), List.getElem_range, List.reverse_cons, List.filter_append]
  congr 1
  by_cases hv : vol m = v <;> simp [hv]
theorem seqV_low (vol : Nat → Bool) (v : Bool) {n m i : Nat} (h : i ∈ seqV vol v n m) : m ≤ i ∧ i < n ∧ vol i = v := by
  unfold seqV at h
  rw [List.mem_filter, List.mem_reverse] at h
  obtain ⟨h1, h2⟩ := h
  rw [List.mem_iff_getElem] at h1
  obtain ⟨j, hj, h1⟩ := h1
  rw [List.getElem_drop, List.getElem_range] at h1
  rw [List.length_drop, List.length_range] at hj
  exact ⟨by omega, by omega, by simpa using h2⟩
/-- Who is in, and who went: together all, nobody twice. -/
structure DInv (n : Nat) (s : List Nat × List Nat) : Prop where
  nd : s.1.Nodup
  mem : ∀ i, i ∈ s.1 ↔ i < n ∧ i ∉ s.2
  lenp : s.1.length + s.2.length = n
theorem DInv.init (n : Nat) : DInv n (List.range n, []) := ⟨List.nodup_range, fun i => by simp, by simp⟩
theorem DInv.step {l : List MRow} {R : List MSit} {n : Nat} {s : List Nat × List Nat} (h : DInv n s) {i : Nat} (hi : i ∈ s.1) : DInv n (dStep l R s i) := by
  unfold dStep
  split
  · exact h
  · split
    · exact h
    · have h1 := (h.mem i).1 hi
      refine ⟨h.nd.erase i, fun j => ?_, ?_⟩
      · rw [h.nd.mem_erase_iff, h.mem j, List.mem_append, List.mem_singleton]
        constructor
        · rintro ⟨a, b, c⟩; exact ⟨b, fun h => h.elim c a⟩
        · rintro ⟨a, b⟩; exact ⟨fun e => b (.inr e), a, fun e => b (.inl e)⟩
      · have := List.length_erase_of_mem hi
        have h3 : 0 < s.1.length := List.length_pos_of_mem hi
        have := h.lenp
        rw [List.length_append, List.length_singleton]
        simp only
        omega
theorem dStep_out {l : List MRow} {R : List MSit} {s : List Nat × List Nat} {i j : Nat} (h : j ∈ (dStep l R s i).2) : j ∈ s.2 ∨ j = i := by
  unfold dStep at h
  split at h
  · exact .inl h
  · split at h
    · exact .inl h
    · rw [List.mem_append, List.mem_singleton] at h; exact h
theorem dRun_inv {l : List MRow} {R : List MSit} {n : Nat} : ∀ (L : List Nat) (s : List Nat × List Nat), DInv n s → L.Nodup → (∀ i ∈ L, i < n ∧ i ∉ s.2) → DInv n (dRun l R s L) ∧ ∀ j ∈ (dRun l R s L).2, j ∈ s.2 ∨ j ∈ L := by
  intro L
  induction L with
  | nil => intro s h _ _; exact ⟨h, fun j hj => .inl hj⟩
  | cons i t ih =>
    intro s h hn hL
    rw [List.nodup_cons] at hn
    have hi := (h.mem i).2 (hL i (by simp))
    obtain ⟨a, b⟩ := ih (dStep l R s i) (h.step hi) hn.2 (fun j hj => ⟨(hL j (by simp [hj])).1, fun e => by
      rcases dStep_out e with e | e
      · exact (hL j (by simp [hj])).2 e
      · exact hn.1 (e ▸ hj)⟩)
    refine ⟨a, fun j hj => ?_⟩
    rcases b j hj with e | e
    · rcases dStep_out e with e | e
      · exact .inl e
      · exact .inr (by simp [e])
    · exact .inr (by simp [e])
theorem seqV_nodup (vol : Nat → Bool) (v : Bool) (n m : Nat) : (seqV vol v n m).Nodup := by
  unfold seqV
  refine List.Nodup.sublist List.filter_sublist ?_
  exact List.pairwise_reverse.2 ((List.Nodup.sublist (List.drop_sublist ..) List.nodup_range).imp Ne.symm)
def volAt (cs : List MCand) (i : Nat) : Bool := (cs.map MCand.vol).getD i false
/-- In the middle of the round for v: the state, and its invariant. -/
noncomputable def dMid (l : List MRow) (cs : List MCand) (v : Bool) (s0 : List Nat × List Nat) (m : Nat) : List Nat × List Nat := dRun l (cs.map rdr) s0 (seqV (volAt cs) v cs.length m)
/-- Ahead of the round for v: all that went bear another word. -/
structure DRnd (cs : List MCand) (v : Bool) (s0 : List Nat × List Nat) : Prop where
  inv : DInv cs.length s0
  oth : ∀ i ∈ s0.2, volAt cs i ≠ v
theorem dMid_inv {l : List MRow} {cs : List MCand} {v : Bool} {s0 : List Nat × List Nat} (h : DRnd cs v s0) (m : Nat) : DInv cs.length (dMid l cs v s0 m) ∧ ∀ j ∈ (dMid l cs v s0 m).2, j ∈ s0.2 ∨ (m ≤ j ∧ volAt cs j = v) := by
  obtain ⟨a, b⟩ := dRun_inv (l := l) (R := cs.map rdr) (seqV (volAt cs) v cs.length m) s0 h.inv (seqV_nodup ..) (fun i hi => by
    obtain ⟨_, h2, h3⟩ := seqV_low _ _ hi
    exact ⟨h2, fun e => h.oth i e h3⟩)
  refine ⟨a, fun j hj => ?_⟩
  rcases b j hj with e | e
  · exact .inl e
  · obtain ⟨h1, _, h3⟩ := seqV_low _ _ e
    exact .inr ⟨h1, h3⟩
theorem dMid_in {l : List MRow} {cs : List MCand} {v : Bool} {s0 : List Nat × List Nat} (h : DRnd cs v s0) {m : Nat} (hm : m < cs.length) (hv : volAt cs m = v) : m ∈ (dMid l cs v s0 (m + 1)).1 := by
  obtain ⟨a, b⟩ := dMid_inv (l := l) h (m + 1)
  refine (a.mem m).2 ⟨hm, fun e => ?_⟩
  rcases b m e with e | ⟨e, _⟩
  · exact h.oth m e hv
  · omega
theorem dMid_next {l : List MRow} {cs : List MCand} {v : Bool} {s0 : List Nat × List Nat} {m : Nat} (hm : m < cs.length) : dMid l cs v s0 m = if volAt cs m = v then dStep l (cs.map rdr) (dMid l cs v s0 (m + 1)) m else dMid l cs v s0 (m + 1) := by
  unfold dMid
  rw [seqV_next _ _ hm, dRun_app]
  split
  · rfl
  · rfl
theorem dMid_fit {l : List MRow} {cs : List MCand} {v : Bool} {s0 : List Nat × List Nat} : ∀ (k m : Nat), m + k ≤ cs.length → fitL l (atP (cs.map rdr) (dMid l cs v s0 (m + k)).1) = true → dMid l cs v s0 m = dMid l cs v s0 (m + k) := by
  intro k
  induction k with
  | zero => intro m _ _; rfl
  | succ k ih =>
    intro m hm h
    have e1 : m + (k + 1) = m + 1 + k := by omega
    have e : dMid l cs v s0 (m + 1) = dMid l cs v s0 (m + (k + 1)) := by rw [e1] at h ⊢; exact ih (m + 1) (by omega) h
    rw [dMid_next (by omega)]
    split
    · rw [e, dStep_fit h]
    · exact e
/-- The two rounds. -/
noncomputable def den1 (l : List MRow) (cs : List MCand) : List Nat × List Nat := dMid l cs true (List.range cs.length, []) 0
noncomputable def den2 (l : List MRow) (cs : List MCand) : List Nat × List Nat := dMid l cs false (den1 l cs) 0
theorem rnd1 (cs : List MCand) : DRnd cs true (List.range cs.length, []) := ⟨DInv.init _, fun i h => by cases h⟩
theorem rnd2 (l : List MRow) (cs : List MCand) : DRnd cs false (den1 l cs) := by
  obtain ⟨a, b⟩ := dMid_inv (l := l) (rnd1 cs) 0
  refine ⟨a, fun i hi => ?_⟩
  rcases b i hi with e | ⟨_, e⟩
  · cases e
  · rw [e]; decide
theorem den2_inv (l : List MRow) (cs : List MCand) : DInv cs.length (den2 l cs) := (dMid_inv (rnd2 l cs) 0).1
theorem den2_run (l : List MRow) (cs : List MCand) : den2 l cs = dRun l (cs.map rdr) (List.range cs.length, []) (seqV (volAt cs) true cs.length 0 ++ seqV (volAt cs) false cs.length 0) := by
  rw [dRun_app]; rfl
theorem atP_range (R : List MSit) : atP R (List.range R.length) = R := by
  apply List.ext_getElem
  · simp [atP]
  · intro i h1 h2
    simp only [atP, List.getElem_map, List.getElem_range]
    rw [List.getD_eq_getElem?_getD, List.getElem?_eq_getElem h2]; rfl
theorem atP_len (R : List MSit) (P : List Nat) : (atP R P).length = P.length := by simp [atP]
theorem erase_place {P : List Nat} {i : Nat} (hi : i ∈ P) : ∃ (j : Nat) (hj : j < P.length), P[j] = i ∧ P.erase i = P.eraseIdx j ∧ ∀ (k : Nat) (hk : k < P.length), k < j → P[k] ≠ i := by
  refine ⟨P.idxOf i, List.idxOf_lt_length_iff.2 hi, List.getElem_idxOf _, List.erase_eq_eraseIdx_of_idxOf rfl, fun k hk hlt e => ?_⟩
  have := List.not_of_lt_findIdx (p := (· == i)) (xs := P) (i := k) (by simpa [List.idxOf] using hlt)
  simp [e] at this
theorem eraseIdx_mapI {α β : Type} (f : α → β) : ∀ (P : List α) (j : Nat), (P.map f).eraseIdx j = (P.eraseIdx j).map f := by
  intro P
  induction P with
  | nil => intro j; cases j <;> rfl
  | cons x t ih => intro j; cases j with
    | zero => rfl
    | succ j => simp [List.eraseIdx, ih]
theorem atP_fits (cs : List MCand) (P : List Nat) : ∀ x ∈ atP (cs.map rdr) P, x.seat.fits := by
  intro x hx
  unfold atP at hx
  obtain ⟨i, _, rfl⟩ := List.mem_map.1 hx
  rw [List.getD_eq_getElem?_getD, List.getElem?_map]
  cases cs[i]? with
  | none => simp [MSeat.fits]
  | some y => simp [MSeat.fits, rdr, rider]
end Go.Proofs.YtppjpledjhinbaaDoor
/- Most as a rank: of a list, and of the places of one (plain). -/
namespace Go.Proofs.YtppjpledjhinbaaDoor
open Go.RowKit Go.Lib
theorem seat_ex (l : List MRow) (rs : List MSit) : SeatedIs l rs (seatN l rs) := by
  obtain ⟨c, hc⟩ := min_ex (gP l rs) (gC l) rs.length (gM l)
  have h0 := (min_bounds hc).1
  have : SeatedIs l rs ((rs.length : Int) - ((c.toNat / 100 : Nat) : Int)) := ⟨c.toNat, by rw [Int.toNat_of_nonneg h0]; exact hc, rfl⟩
  exact seatN_ok this
theorem seat_rank (l : List MRow) (rs : List MSit) (hn : rs.length < 100) : RankOn (gP l rs) (gC l) (gM l) rs.length (fun _ => true) (seatN l rs) := by
  obtain ⟨c, hm, hk⟩ := seat_ex l rs
  have := (most_is (gP_open l rs) hn hm).1
  rw [hk, Int.natCast_ediv]
  exact this
theorem fitL_seat (l : List MRow) (rs : List MSit) : fitL l rs = true ↔ seatN l rs = rs.length := by
  unfold fitL
  simp only [decide_eq_true_eq]
  exact ⟨fun h => (seatN_is h).symm, fun h => by rw [← h]; exact seat_ex l rs⟩
theorem idx_at {P : List Nat} (hn : P.Nodup) {j : Nat} (hj : j < P.length) : P.idxOf (P.getD j 0) = j := by
  rw [List.getD_eq_getElem?_getD, List.getElem?_eq_getElem hj]
  exact hn.idxOf_getElem j hj
theorem at_idx {P : List Nat} {i : Nat} (hi : i ∈ P) : P.getD (P.idxOf i) 0 = i ∧ P.idxOf i < P.length := by
  have h := List.idxOf_lt_length_iff.2 hi
  rw [List.getD_eq_getElem?_getD, List.getElem?_eq_getElem h]
  exact ⟨List.getElem_idxOf h, h⟩
/-- A sum over places is a sum over a list of them. -/
theorem sm_places (N : Nat) (g : Nat → Int) : ∀ (P : List Nat), P.Nodup → (∀ i ∈ P, i < N) → sm P.length (fun j => g (P.getD j 0)) = sm N fun i => if i ∈ P then g i else 0 := by
  intro P
  induction P with
  | nil => intro _ _; rw [sm_pick0 (n := N) (g := fun i => if i ∈ ([] : List Nat) then g i else 0) (fun i _ => by simp)]; rfl
  | cons x t ih =>
    intro hn hN
    rw [List.nodup_cons] at hn
    rw [List.length_cons, sm_shift]
    have e := ih hn.2 (fun i hi => hN i (by simp [hi]))
    have e1 : (sm t.length fun j => g ((x :: t).getD (j + 1) 0)) = sm t.length fun j => g (t.getD j 0) := sm_congr fun j _ => by simp
    rw [e1, e]
    have e2 := sm_pick (n := N) x (hN x (by simp)) g
    have e3 : g ((x :: t).getD 0 0) = sm N fun i => if i = x then g i else 0 := by rw [e2]; rfl
    rw [e3, ← sm_add]
    refine sm_congr fun i _ => ?_
    by_cases h : i = x
    · subst h; simp [hn.1]
    · simp [h]
section
variable {Pa Pb : Nat → Skr} {caps : Nat → Nat} {m N : Nat} {P : List Nat}
/-- The rank of a list of places, seen from the list and from the whole. -/
theorem rank_move (hn : P.Nodup) (hN : ∀ i ∈ P, i < N) (hs : ∀ j, j < P.length → (Pa j).fits = (Pb (P.getD j 0)).fits ∧ (Pa j).inf = (Pb (P.getD j 0)).inf) {r : Int} (h : RankOn Pa caps m P.length (fun _ => true) r) : RankOn Pb caps m N (fun i => decide (i ∈ P)) r := by
  have hmem : ∀ j, j < P.length → P.getD j 0 ∈ P := fun j hj => by rw [List.getD_eq_getElem?_getD, List.getElem?_eq_getElem hj]; exact List.getElem_mem hj
  obtain ⟨⟨B', _, ⟨σ', hJ⟩, hc⟩, hmax⟩ := h
  refine ⟨⟨fun i => decide (i ∈ P) && B' (P.idxOf i), fun i _ hb => ?_, ⟨fun i => σ' (P.idxOf i), ?_, ?_, ?_⟩, ?_⟩, fun B hB hJB => ?_⟩
  · simp only [Bool.and_eq_true] at hb; exact hb.1
  · intro i _ hb
    simp only [Bool.and_eq_true, decide_eq_true_eq] at hb
    obtain ⟨e1, e2⟩ := at_idx hb.1
    obtain ⟨f1, f2⟩ := hJ.fits _ e2 hb.2
    refine ⟨f1, ?_⟩
    have := (hs _ e2).1
    rw [e1] at this
    rw [← this]; exact f2
  · intro b hb
    refine Int.le_trans (Int.le_of_eq ?_) (hJ.room b hb)
    have e := sm_places N (fun i => if B' (P.idxOf i) = true ∧ σ' (P.idxOf i) = b then (1 : Int) else 0) P hn hN
    rw [show (sm P.length fun j => if B' (P.idxOf (P.getD j 0)) = true ∧ σ' (P.idxOf (P.getD j 0)) = b then (1 : Int) else 0) = sm P.length fun i => if B' i = true ∧ σ' i = b then 1 else 0 from sm_congr fun j hj => by rw [idx_at hn hj]] at e
    rw [e]
    refine sm_congr fun i _ => ?_
    by_cases h : i ∈ P <;> simp [h]
  · intro b hb
    refine Int.le_trans (Int.le_of_eq ?_) (hJ.inf b hb)
    have e := sm_places N (fun i => if B' (P.idxOf i) = true ∧ σ' (P.idxOf i) = b ∧ (Pb i).inf = true then (1 : Int) else 0) P hn hN
    rw [show (sm P.length fun j => if B' (P.idxOf (P.getD j 0)) = true ∧ σ' (P.idxOf (P.getD j 0)) = b ∧ (Pb (P.getD j 0)).inf = true then (1 : Int) else 0) = sm P.length fun i => if B' i = true ∧ σ' i = b ∧ (Pa i).inf = true then 1 else 0 from sm_congr fun j hj => by rw [idx_at hn hj, (hs j hj).2]] at e
    rw [e]
    refine sm_congr fun i _ => ?_
    by_cases h : i ∈ P <;> simp [h]
  · rw [← hc]
    unfold card
    have e := sm_places N (fun i => if B' (P.idxOf i) = true then (1 : Int) else 0) P hn hN
    rw [show (sm P.length fun j => if B' (P.idxOf (P.getD j 0)) = true then (1 : Int) else 0) = sm P.length fun i => if B' i = true then 1 else 0 from sm_congr fun j hj => by rw [idx_at hn hj]] at e
    rw [e]
    refine sm_congr fun i _ => ?_
    by_cases h : i ∈ P <;> simp [h]
  · obtain ⟨σ, hJ⟩ := hJB
    have key : ∀ (f : Nat → Prop) [DecidablePred f], (sm P.length fun j => if B (P.getD j 0) = true ∧ f (P.getD j 0) then (1 : Int) else 0) = sm N fun i => if B i = true ∧ f i then 1 else 0 := fun f _ => by
      rw [sm_places N (fun i => if B i = true ∧ f i then (1 : Int) else 0) P hn hN]
      refine sm_congr fun i hi => ?_
      by_cases h : i ∈ P
      · simp [h]
      · have : ¬ B i = true := fun hb => h (by simpa using hB i hi hb)
        simp [h, this]
    have hle := hmax (fun j => B (P.getD j 0)) (fun _ _ _ => rfl) ⟨fun j => σ (P.getD j 0), fun j hj hb => by
      obtain ⟨f1, f2⟩ := hJ.fits _ (hN _ (hmem j hj)) hb
      exact ⟨f1, by rw [(hs j hj).1]; exact f2⟩, fun b hb => by
        rw [key (fun i => σ i = b)]
        exact hJ.room b hb, fun b hb => by
        rw [show (sm P.length fun i => if B (P.getD i 0) = true ∧ σ (P.getD i 0) = b ∧ (Pa i).inf = true then (1 : Int) else 0) = sm P.length fun j => if B (P.getD j 0) = true ∧ (σ (P.getD j 0) = b ∧ (Pb (P.getD j 0)).inf = true) then 1 else 0 from sm_congr fun j hj => by rw [(hs j hj).2]]
        rw [key (fun i => σ i = b ∧ (Pb i).inf = true)]
        exact hJ.inf b hb⟩
    refine Int.le_trans (Int.le_of_eq ?_) hle
    unfold card
    have := key (fun _ => True)
    simpa using this.symm
end
theorem atP_who (R : List MSit) (P : List Nat) {j : Nat} (hj : j < P.length) (hN : ∀ i ∈ P, i < R.length) : ∃ h : P.getD j 0 < R.length, (atP R P)[j]'(by rw [atP_len]; exact hj) = R[P.getD j 0] := by
  have hm : P.getD j 0 ∈ P := by rw [List.getD_eq_getElem?_getD, List.getElem?_eq_getElem hj]; exact List.getElem_mem hj
  refine ⟨hN _ hm, ?_⟩
  unfold atP
  rw [List.getElem_map, List.getD_eq_getElem?_getD]
  have e : P.getD j 0 = P[j] := by rw [List.getD_eq_getElem?_getD, List.getElem?_eq_getElem hj]; rfl
  have hlt : P[j] < R.length := hN _ (List.getElem_mem hj)
  rw [List.getElem?_eq_getElem hlt]
  simp only [e]
  rfl
noncomputable def gR (l : List MRow) (R : List MSit) (A : Nat → Bool) : Int := rk (gP l R) (gC l) (gM l) R.length A
def gJ (l : List MRow) (R : List MSit) (A : Nat → Bool) : Prop := Joint (gP l R) (gC l) (gM l) R.length A
def inP (P : List Nat) (i : Nat) : Bool := decide (i ∈ P)
theorem seat_places (l : List MRow) (R : List MSit) {P : List Nat} (hn : P.Nodup) (hN : ∀ i ∈ P, i < R.length) (hl : P.length < 100) : seatN l (atP R P) = gR l R (inP P) := by
  have h1 := seat_rank l (atP R P) (by rw [atP_len]; exact hl)
  rw [atP_len] at h1
  have h2 := rank_move (N := R.length) (Pb := gP l R) hn hN (fun j hj => by
    obtain ⟨h3, h4⟩ := atP_who R P hj hN
    exact gP_same (by rw [atP_len]; exact hj) h3 (by rw [h4])) h1
  exact h2.uniq (rk_is _)
theorem card_places {P : List Nat} {N : Nat} (hn : P.Nodup) (hN : ∀ i ∈ P, i < N) : card N (inP P) = P.length := by
  unfold card inP
  have e := sm_places N (fun _ => 1) P hn hN
  rw [sm_const] at e
  simp only [decide_eq_true_eq]
  omega
theorem fit_places (l : List MRow) (R : List MSit) {P : List Nat} (hn : P.Nodup) (hN : ∀ i ∈ P, i < R.length) (hl : P.length < 100) : fitL l (atP R P) = true ↔ gJ l R (inP P) := by
  rw [fitL_seat, seat_places l R hn hN hl, atP_len]
  unfold gJ gR
  rw [rank_joint (rk_is _), card_places hn hN]
theorem inP_erase {P : List Nat} (hn : P.Nodup) (i : Nat) : inP (P.erase i) = without (inP P) i := by
  funext j
  unfold inP without
  by_cases h : j = i
  · subst h; simp [hn.mem_erase_iff]
  · simp [hn.mem_erase_iff, h]
/-- Down the order, as a set. -/
theorem dRun_go (l : List MRow) (R : List MSit) (hl : R.length < 100) : ∀ (L : List Nat) (s : List Nat × List Nat), s.1.Nodup → (∀ i ∈ s.1, i < R.length) → denyGo (gP l R) (gC l) (gM l) R.length L (inP s.1) s.2 = (inP (dRun l R s L).1, (dRun l R s L).2) ∧ (dRun l R s L).1.Nodup ∧ ∀ i ∈ (dRun l R s L).1, i < R.length := by
  intro L
  induction L with
  | nil => intro s hn hN; exact ⟨rfl, hn, hN⟩
  | cons i t ih =>
    intro s hn hN
    have hlen : s.1.length < 100 := by
      have h1 : s.1.length ≤ R.length := by
        have := card_places hn hN
        have := (card_pos (N := R.length) (inP s.1)).2
        omega
      omega
    have hrun : dRun l R s (i :: t) = dRun l R (dStep l R s i) t := rfl
    rw [hrun]
    simp only [denyGo]
    by_cases hJ : Joint (gP l R) (gC l) (gM l) R.length (inP s.1)
    · rw [if_pos hJ]
      have hf := (fit_places l R hn hN hlen).2 hJ
      rw [dStep_fit hf, dRun_fit hf]
      exact ⟨rfl, hn, hN⟩
    · rw [if_neg hJ]
      have hf : ¬ fitL l (atP R s.1) = true := fun h => hJ ((fit_places l R hn hN hlen).1 h)
      have hne : (s.1.erase i).Nodup := hn.erase i
      have hNe : ∀ j ∈ s.1.erase i, j < R.length := fun j hj => hN j (List.mem_of_mem_erase hj)
      have e1 := seat_places l R hn hN hlen
      have e2 := seat_places l R hne hNe (Nat.lt_of_le_of_lt (List.length_erase_le ..) hlen)
      rw [inP_erase hn] at e2
      have hmono : gR l R (without (inP s.1) i) ≤ gR l R (inP s.1) := rk_mono fun j _ hj => (without_sub _ i j hj).1
      by_cases hr : rk (gP l R) (gC l) (gM l) R.length (without (inP s.1) i) = rk (gP l R) (gC l) (gM l) R.length (inP s.1)
      · rw [if_pos hr]
        have : dStep l R s i = (s.1.erase i, s.2 ++ [i]) := by
          unfold dStep
          rw [if_neg hf, if_neg (by rw [e1, e2]; unfold gR; rw [hr]; omega)]
        rw [this, ← inP_erase hn]
        exact ih (s.1.erase i, s.2 ++ [i]) hne hNe
      · rw [if_neg hr]
        have : dStep l R s i = s := by
          unfold dStep
          rw [if_neg hf, if_pos (by rw [e1, e2]; unfold gR at *; omega)]
        rw [this]
        exact ih s hn hN
end Go.Proofs.YtppjpledjhinbaaDoor
/- The gate's example in plain words. -/
namespace Go.Proofs.YtppjpledjhinbaaDoor
open Go.RowKit Go.Lib
def gxRows : List MRow := [⟨1, 1, 0, false, ⟨#[65, 66]⟩⟩]
def gxWho : MWho := ⟨1, false, false⟩
theorem gx_fits : ∀ r ∈ gxRows, r.fits := by
  intro r hr
  simp only [gxRows, List.mem_cons, List.mem_nil_iff, or_false] at hr
  rcases hr with rfl; (unfold MRow.fits; refine ⟨⟨by decide, by decide⟩, by decide⟩)
theorem gx_err : errC gxRows = 0 := by decide +kernel
theorem gx_blocks : (blocksOf (spotsL gxRows)).length = 1 ∧ ((blocksOf (spotsL gxRows))[0]?).map (fun y => (fitB gxWho y, y.seats.length)) = some (true, 2) := by decide +kernel
theorem gx_m : gM gxRows = 1 := gx_blocks.1
theorem gx_at : ∃ y, (blocksOf (spotsL gxRows))[0]? = some y ∧ fitB gxWho y = true ∧ y.seats.length = 2 := by
  have h := gx_blocks.2
  cases hy : (blocksOf (spotsL gxRows))[0]? with
  | none => rw [hy] at h; simp at h
  | some y =>
    rw [hy] at h
    simp only [Option.map_some, Option.some.injEq, Prod.mk.injEq] at h
    exact ⟨y, rfl, h⟩
theorem gx_c : gC gxRows 0 = 2 := by
  obtain ⟨y, h1, _, h3⟩ := gx_at
  unfold gC capsOf
  rw [h1]; simpa using h3
theorem gx_f {rs : List MSit} (hr : ∀ x ∈ rs, x.who = gxWho) {i : Nat} (hi : i < rs.length) : (gP gxRows rs i).fits 0 = true ∧ (gP gxRows rs i).inf = false := by
  obtain ⟨y, h1, h2, _⟩ := gx_at
  have hw := hr _ (List.getElem_mem hi)
  rw [gP_at _ _ hi]
  unfold kOf
  simp only [h1, Option.map_some, Option.getD_some, hw, h2]
  exact ⟨trivial, rfl⟩
theorem one_block {P : Nat → Skr} {caps : Nat → Nat} {N : Nat} (hc : caps 0 = 2) (hf : ∀ i, i < N → (P i).fits 0 = true ∧ (P i).inf = false) (h3 : N ≤ 3) : RankOn P caps 1 N (fun _ => true) (if N ≤ 2 then N else 2) := by
  have hcard : ∀ (B : Nat → Bool) (σ : Nat → Nat), SitsSo P caps 1 N B σ → card N B ≤ 2 := by
    intro B σ h
    have h1 := h.room 0 (by omega)
    rw [hc] at h1
    refine Int.le_trans (Int.le_of_eq ?_) h1
    unfold card
    refine sm_congr fun i hi => ?_
    by_cases hb : B i = true
    · have := (h.fits i hi hb).1
      rw [if_pos hb, if_pos ⟨hb, by omega⟩]
    · rw [if_neg hb, if_neg (fun e => hb e.1)]
  have mk : ∀ (B : Nat → Bool), card N B ≤ 2 → Joint P caps 1 N B := fun B hB => ⟨fun _ => 0, fun i hi _ => ⟨by omega, (hf i hi).1⟩, fun b hb => by
    obtain rfl : b = 0 := by omega
    rw [hc]
    refine Int.le_trans (Int.le_of_eq ?_) hB
    unfold card
    exact sm_congr fun i _ => by simp, fun b hb => by
    rw [sm_pick0 (fun i hi => by rw [if_neg (fun e => by rw [(hf i hi).2] at e; simp at e)])]; omega⟩
  refine ⟨⟨fun i => decide (i < 2), fun _ _ _ => rfl, mk _ ?_, ?_⟩, fun B _ ⟨σ, h⟩ => ?_⟩
  · obtain rfl | rfl | rfl | rfl : N = 0 ∨ N = 1 ∨ N = 2 ∨ N = 3 := by omega
    all_goals simp [card, sm]
  · obtain rfl | rfl | rfl | rfl : N = 0 ∨ N = 1 ∨ N = 2 ∨ N = 3 := by omega
    all_goals simp [card, sm]
  · have h1 := hcard B σ h
    have h2 := (card_pos (N := N) B).2
    split <;> omega
theorem gx_seat (rs : List MSit) (hr : ∀ x ∈ rs, x.who = gxWho) (hl : rs.length ≤ 3) : seatN gxRows rs = if rs.length ≤ 2 then (rs.length : Int) else 2 := by
  have h1 := seat_rank gxRows rs (by omega)
  rw [gx_m] at h1
  refine h1.uniq ?_
  have := one_block (P := gP gxRows rs) (caps := gC gxRows) gx_c (N := rs.length) (fun i hi => gx_f hr hi) hl
  simpa using this
theorem gx_fitL (rs : List MSit) (hr : ∀ x ∈ rs, x.who = gxWho) (hl : rs.length ≤ 3) : fitL gxRows rs = decide (rs.length ≤ 2) := by
  rw [Bool.eq_iff_iff, fitL_seat, gx_seat rs hr hl, decide_eq_true_eq]
  split <;> omega
theorem gx_clear : (clearSt gxRows ([gxWho].map rider) [gxWho, gxWho]).2.1 = [0] := by
  have h0 : ∀ x ∈ List.replicate 3 (rider gxWho), x.who = gxWho := fun x hx => by rw [List.eq_of_mem_replicate hx]; rfl
  have f2 := gx_fitL [rider gxWho, rider gxWho] (fun x hx => h0 x (by simp at hx; simp [hx])) (by simp)
  have f3 := gx_fitL [rider gxWho, rider gxWho, rider gxWho] (fun x hx => h0 x (by simp at hx; simp [hx])) (by simp)
  simp only [List.length_cons, List.length_nil] at f2 f3
  simp [clearSt, clearS, f2, f3]
theorem gx_deny (v : Bool) : (den2 gxRows [⟨gxWho, false⟩, ⟨gxWho, false⟩, ⟨gxWho, false⟩]).2 = [2] := by
  have h0 : ∀ x ∈ List.replicate 3 (rider gxWho), x.who = gxWho := fun x hx => by rw [List.eq_of_mem_replicate hx]; rfl
  have f2 := gx_fitL [rider gxWho, rider gxWho] (fun x hx => h0 x (by simp at hx; simp [hx])) (by simp)
  have f3 := gx_fitL [rider gxWho, rider gxWho, rider gxWho] (fun x hx => h0 x (by simp at hx; simp [hx])) (by simp)
  have s2 := gx_seat [rider gxWho, rider gxWho] (fun x hx => h0 x (by simp at hx; simp [hx])) (by simp)
  have s3 := gx_seat [rider gxWho, rider gxWho, rider gxWho] (fun x hx => h0 x (by simp at hx; simp [hx])) (by simp)
  simp only [List.length_cons, List.length_nil] at f2 f3 s2 s3
  obtain ⟨cs, hcs⟩ : ∃ cs : List MCand, [⟨gxWho, false⟩, ⟨gxWho, false⟩, ⟨gxWho, false⟩] = cs := ⟨_, rfl⟩
  have hl : cs.length = 3 := by rw [← hcs]; rfl
  have e1 : seqV (volAt cs) true 3 0 = [] := by rw [← hcs]; decide +kernel
  have e2 : seqV (volAt cs) false 3 0 = [2, 1, 0] := by rw [← hcs]; decide +kernel
  have a3 : atP (cs.map rdr) [0, 1, 2] = [rider gxWho, rider gxWho, rider gxWho] := by rw [← hcs]; rfl
  have a2 : atP (cs.map rdr) [0, 1] = [rider gxWho, rider gxWho] := by rw [← hcs]; rfl
  have r3 : List.range 3 = [0, 1, 2] := rfl
  have er : ([0, 1, 2] : List Nat).erase 2 = [0, 1] := rfl
  rw [hcs, den2_run, hl, e1, e2, List.nil_append, r3]
  clear hcs e1 e2 hl r3
  have hc : ∀ l R s i t, dRun l R s (i :: t) = dRun l R (dStep l R s i) t := fun _ _ _ _ _ => rfl
  have st : dStep gxRows (cs.map rdr) ([0, 1, 2], []) 2 = ([0, 1], [2]) := by
    unfold dStep
    simp only
    rw [er, a3, a2, f3, s2, s3]
    simp
  rw [hc, st, dRun_fit (by simp only; rw [a2, f2]; simp)]
set_option maxHeartbeats 1000000 in
theorem gx_joint {k : Int} (h : SeatedIs gxRows ([gxWho, gxWho].map rider) k) : k = 2 := by
  have h0 : ∀ x ∈ List.replicate 3 (rider gxWho), x.who = gxWho := fun x hx => by rw [List.eq_of_mem_replicate hx]; rfl
  have h2 := gx_seat [rider gxWho, rider gxWho] (fun x hx => h0 x (by simp at hx; simp [hx])) (by simp)
  simp only [List.length_cons, List.length_nil] at h2
  rw [seatN_is h, List.map_cons, List.map_cons, List.map_nil, h2]
  simp
end Go.Proofs.YtppjpledjhinbaaDoor
/- The gate's laws in plain words: greedy lists; in any order as many are taken; nobody is denied exactly if all fit (plain). -/
namespace Go.Proofs.YtppjpledjhinbaaDoor
open Go.RowKit Go.Lib
theorem fit_nil (l : List MRow) : fitL l [] = true := by
  rw [fitL_seat]
  obtain ⟨⟨B, _, _, h⟩, _⟩ := seat_rank l [] (by simp)
  rw [← h]; rfl
theorem places_len {P : List Nat} {N : Nat} (hn : P.Nodup) (hN : ∀ i ∈ P, i < N) : P.length ≤ N := by
  have h1 := card_places hn hN
  have h2 := (card_pos (N := N) (inP P)).2
  omega
theorem places_sub {P Q : List Nat} {N : Nat} (hp : P.Nodup) (hq : Q.Nodup) (hP : ∀ i ∈ P, i < N) (hs : ∀ i ∈ Q, i ∈ P) : Q.length ≤ P.length := by
  have h1 := card_places hp hP
  have h2 := card_places (N := N) hq (fun i hi => hP i (hs i hi))
  have h3 : card N (inP Q) ≤ card N (inP P) := card_le fun i _ hi => by unfold inP at *; simpa using hs i (by simpa using hi)
  omega
theorem fit_sub (l : List MRow) (R : List MSit) {P Q : List Nat} (hR : R.length < 100) (hp : P.Nodup) (hP : ∀ i ∈ P, i < R.length) (hq : Q.Nodup) (hs : ∀ i ∈ Q, i ∈ P) (h : fitL l (atP R P) = true) : fitL l (atP R Q) = true := by
  have hQ : ∀ i ∈ Q, i < R.length := fun i hi => hP i (hs i hi)
  have l1 := places_len hp hP
  have l2 := places_len hq hQ
  rw [fit_places l R hq hQ (by omega)]
  exact Joint.sub ((fit_places l R hp hP (by omega)).1 h) (fun i _ hi => by unfold inP at *; simpa using hs i (by simpa using hi))
noncomputable def clG (l : List MRow) (R : List MSit) (s : List Nat) (i : Nat) : List Nat := if fitL l (atP R (s ++ [i])) = true then s ++ [i] else s
noncomputable def clRun (l : List MRow) (R : List MSit) (s : List Nat) (L : List Nat) : List Nat := L.foldl (clG l R) s
/-- What the greedy way leaves. -/
theorem cl_run (l : List MRow) (R : List MSit) (hR : R.length < 100) : ∀ (L s : List Nat), (s ++ L).Nodup → (∀ i ∈ s ++ L, i < R.length) →
    ∃ T, clRun l R s L = s ++ T ∧ T.Sublist L ∧ (fitL l (atP R s) = true → fitL l (atP R (s ++ T)) = true) ∧ ∀ i ∈ L, i ∉ T → fitL l (atP R (s ++ T ++ [i])) = false := by
  intro L
  induction L with
  | nil => intro s _ _; exact ⟨[], by simp [clRun], List.Sublist.refl _, by simp, by simp⟩
  | cons i t ih =>
    intro s hn hN
    have hrun : clRun l R s (i :: t) = clRun l R (clG l R s i) t := rfl
    rw [hrun]
    by_cases hf : fitL l (atP R (s ++ [i])) = true
    · have e : clG l R s i = s ++ [i] := by unfold clG; rw [if_pos hf]
      rw [e]
      have e2 : s ++ [i] ++ t = s ++ i :: t := by simp
      obtain ⟨T, h1, h2, h3, h4⟩ := ih (s ++ [i]) (by rw [e2]; exact hn) (by rw [e2]; exact hN)
      have e3 : s ++ i :: T = s ++ [i] ++ T := by simp
      refine ⟨i :: T, by rw [h1, e3], h2.cons_cons i, fun _ => by rw [e3]; exact h3 hf, fun j hj hjT => ?_⟩
      rw [e3]
      rw [List.mem_cons, not_or] at hjT
      exact h4 j ((List.mem_cons.1 hj).resolve_left hjT.1) hjT.2
    · have e : clG l R s i = s := by unfold clG; rw [if_neg hf]
      rw [e]
      have hsub : (s ++ t).Sublist (s ++ i :: t) := (List.Sublist.refl s).append (List.sublist_cons_self i t)
      obtain ⟨T, h1, h2, h3, h4⟩ := ih s (hn.sublist hsub) (fun j hj => hN j (hsub.subset hj))
      refine ⟨T, h1, h2.trans (List.sublist_cons_self i t), h3, fun j hj hjT => ?_⟩
      rcases List.mem_cons.1 hj with rfl | hj
      · have hnd : (s ++ T ++ [j]).Nodup := by
          have h5 : (s ++ j :: T).Nodup := hn.sublist ((List.Sublist.refl s).append (h2.cons_cons j))
          have hp : (s ++ T ++ [j]).Perm (s ++ j :: T) := by
            rw [List.append_assoc]
            exact List.Perm.append_left s (List.perm_append_comm)
          exact hp.nodup_iff.2 h5
        have hlt : ∀ x ∈ s ++ T ++ [j], x < R.length := fun x hx => by
          simp only [List.mem_append, List.mem_singleton] at hx
          refine hN x ?_
          simp only [List.mem_append, List.mem_cons]
          rcases hx with (hx | hx) | hx
          · exact .inl hx
          · exact .inr (.inr (h2.subset hx))
          · exact .inr (.inl hx)
        have hq : (s ++ [j]).Nodup := hn.sublist ((List.Sublist.refl s).append (List.singleton_sublist.2 (by simp)))
        refine Bool.eq_false_iff.2 fun h => hf (fit_sub l R hR hnd hlt hq (fun x hx => ?_) h)
        simp only [List.mem_append, List.mem_singleton] at hx ⊢
        rcases hx with hx | hx
        · exact .inl (.inl hx)
        · exact .inr hx
      · exact h4 j hj hjT
/-- Two greedy ways down the same places, in any order, take as many. -/
theorem cl_same (l : List MRow) (R : List MSit) (hR : R.length < 100) {s L L' : List Nat} (hn : (s ++ L).Nodup) (hN : ∀ i ∈ s ++ L, i < R.length) (hn' : (s ++ L').Nodup) (hm : ∀ i, i ∈ L ↔ i ∈ L') (hf : fitL l (atP R s) = true) {T T' : List Nat}
    (hT : clRun l R s L = s ++ T) (hT' : clRun l R s L' = s ++ T') : T.length ≤ T'.length := by
  have hN' : ∀ i ∈ s ++ L', i < R.length := fun i hi => hN i (by
    rw [List.mem_append] at hi ⊢
    exact hi.imp id (hm i).2)
  obtain ⟨T1, a1, a2, a3, a4⟩ := cl_run l R hR L s hn hN
  obtain ⟨T2, b1, b2, b3, b4⟩ := cl_run l R hR L' s hn' hN'
  obtain rfl : T = T1 := List.append_cancel_left (hT.symm.trans a1)
  obtain rfl : T' = T2 := List.append_cancel_left (hT'.symm.trans b1)
  have sA : (s ++ T).Sublist (s ++ L) := (List.Sublist.refl s).append a2
  have sB : (s ++ T').Sublist (s ++ L') := (List.Sublist.refl s).append b2
  have nA := hn.sublist sA
  have nB := hn'.sublist sB
  have lA : ∀ i ∈ s ++ T, i < R.length := fun i hi => hN i (sA.subset hi)
  have lB : ∀ i ∈ s ++ T', i < R.length := fun i hi => hN' i (sB.subset hi)
  have cA := card_places nA lA
  have cB := card_places nB lB
  have zA := places_len nA lA
  have zB := places_len nB lB
  refine Nat.not_lt.1 fun hlt => ?_
  have jA := (fit_places l R nA lA (by omega)).1 (a3 hf)
  have jB := (fit_places l R nB lB (by omega)).1 (b3 hf)
  obtain ⟨t, ht, h1, h2, h3⟩ := joint_more jB jA (by rw [cA, cB]; simp only [List.length_append]; omega)
  have m1 : t ∈ s ++ T := by simpa [inP] using h1
  have m2 : t ∉ s ++ T' := by simpa [inP] using h2
  have mL : t ∈ L' := by
    rw [List.mem_append] at m1 m2
    rw [not_or] at m2
    exact (hm t).1 (a2.subset (m1.resolve_left m2.1))
  have hno := b4 t mL (fun h => m2 (List.mem_append_right _ h))
  have nC : (s ++ T' ++ [t]).Nodup := List.nodup_append.2 ⟨nB, by simp, fun x hx y hy => by
    rw [List.mem_singleton] at hy
    rintro rfl
    exact m2 (hy ▸ hx)⟩
  have lC : ∀ i ∈ s ++ T' ++ [t], i < R.length := fun i hi => by
    rcases List.mem_append.1 hi with hi | hi
    · exact lB i hi
    · rw [List.mem_singleton] at hi; rw [hi]; exact ht
  have zC := places_len nC lC
  have : fitL l (atP R (s ++ T' ++ [t])) = true := (fit_places l R nC lC (by omega)).2 (by
    have e : inP (s ++ T' ++ [t]) = addI (inP (s ++ T')) t := by
      funext i
      unfold inP addI
      by_cases h : i = t <;> simp [h]
    unfold gJ
    rw [e]; exact h3)
  rw [hno] at this
  cases this
/-- Clear's way is the greedy one. -/
theorem clear_run (l : List MRow) (R : List MSit) (pos : Nat → Int) : ∀ (L : List Nat) (ws : List MWho) (s : List Nat) (out : List Int) (k : Nat), ws.map rider = atP R L → (∀ j (hj : j < L.length), pos L[j] = (k : Int) + (j : Int)) →
    ∃ T, clRun l R s L = s ++ T ∧ ws.foldl (clearS l) (atP R s, out, k) = (atP R (s ++ T), out ++ T.map pos, k + L.length) := by
  intro L
  induction L with
  | nil =>
    intro ws s out k h _
    obtain rfl : ws = [] := by simpa [atP] using h
    exact ⟨[], by simp [clRun], by simp⟩
  | cons i t ih =>
    intro ws s out k h hp
    cases ws with
    | nil => simp [atP] at h
    | cons w ws =>
      have h' : rider w :: ws.map rider = R.getD i ⟨⟨0, false, false⟩, ⟨0, 0⟩⟩ :: atP R t := h
      injection h' with h1 h2
      have hp0 : pos i = (k : Int) := by have := hp 0 (by simp); simpa using this
      have hpt : ∀ j (hj : j < t.length), pos t[j] = ((k + 1 : Nat) : Int) + (j : Int) := fun j hj => by
        have := hp (j + 1) (by simpa using hj)
        simp only [List.getElem_cons_succ] at this
        rw [this]; omega
      have es : atP R (s ++ [i]) = atP R s ++ [rider w] := by rw [h1]; simp [atP]
      have hrun : clRun l R s (i :: t) = clRun l R (clG l R s i) t := rfl
      rw [hrun, List.foldl_cons]
      unfold clearS
      simp only
      by_cases hf : fitL l (atP R s ++ [rider w]) = true
      · rw [if_pos hf]
        have e : clG l R s i = s ++ [i] := by unfold clG; rw [es, if_pos hf]
        rw [e]
        obtain ⟨T, a, b⟩ := ih ws (s ++ [i]) (out ++ [(k : Int)]) (k + 1) h2 hpt
        rw [es] at b
        refine ⟨i :: T, by rw [a]; simp, ?_⟩
        refine b.trans ?_
        rw [List.map_cons, hp0]
        simp only [List.append_assoc, List.singleton_append, List.length_cons, Prod.mk.injEq, true_and]
        omega
      · rw [if_neg hf]
        have e : clG l R s i = s := by unfold clG; rw [es, if_neg hf]
        rw [e]
        obtain ⟨T, a, b⟩ := ih ws s out (k + 1) h2 hpt
        refine ⟨T, a, b.trans ?_⟩
        simp only [List.length_cons, Prod.mk.injEq, true_and]
        omega
theorem atP_app (R : List MSit) (P Q : List Nat) : atP R (P ++ Q) = atP R P ++ atP R Q := by simp [atP]
theorem atP_fst (R Q : List MSit) : atP (R ++ Q) (List.range R.length) = R := by
  apply List.ext_getElem
  · simp [atP]
  · intro i h1 h2
    simp only [atP, List.getElem_map, List.getElem_range]
    rw [List.getD_eq_getElem?_getD, List.getElem?_append_left h2, List.getElem?_eq_getElem h2]; rfl
theorem atP_snd (R Q : List MSit) : atP (R ++ Q) (List.range' R.length Q.length) = Q := by
  apply List.ext_getElem
  · simp [atP]
  · intro i h1 h2
    simp only [atP, List.getElem_map, List.getElem_range']
    rw [List.getD_eq_getElem?_getD, List.getElem?_append_right (by omega)]
    have e : R.length + 1 * i - R.length = i := by omega
    rw [e, List.getElem?_eq_getElem h2]; rfl
theorem range_two (a b : Nat) : List.range a ++ List.range' a b = List.range (a + b) := by
  rw [List.range_eq_range', List.range_eq_range']
  have := List.range'_append_1 (s := 0) (m := a) (n := b)
  rwa [Nat.zero_add] at this
/-- All are taken exactly if all fit. -/
theorem clear_all (l : List MRow) (ws : List MWho) (hw : ws.length < 100) : (clearSt l [] ws).2.1.length = ws.length ↔ fitL l (ws.map rider) = true := by
  have hlen : (ws.map rider).length = ws.length := List.length_map ..
  obtain ⟨T, a, b⟩ := clear_run l (ws.map rider) (fun i => (i : Int)) (List.range ws.length) ws [] [] 0 (by rw [← hlen, atP_range]) (fun j hj => by simp)
  have hc : clearSt l [] ws = _ := b
  rw [hc]
  simp only [List.nil_append, List.length_map] at a ⊢
  have hnd : ([] ++ List.range ws.length).Nodup := by rw [List.nil_append]; exact List.nodup_range
  have hlt : ∀ i ∈ [] ++ List.range ws.length, i < (ws.map rider).length := fun i hi => by simpa using hi
  obtain ⟨T', a1, a2, a3, a4⟩ := cl_run l (ws.map rider) (by omega) (List.range ws.length) [] hnd hlt
  obtain rfl : T = T' := by simpa [a] using a1
  simp only [List.nil_append] at *
  constructor
  · intro h
    obtain rfl : T = List.range ws.length := a2.eq_of_length (by simpa using h)
    have := a3 (by simpa [atP] using fit_nil l)
    rw [← hlen, atP_range] at this
    exact this
  · intro h
    rw [← atP_range (ws.map rider), hlen] at h
    have nT : T.Nodup := hnd.sublist a2
    have hall : ∀ i ∈ List.range ws.length, i ∈ T := fun i hi => Classical.byContradiction fun hni => by
      have h5 := a4 i hi hni
      have h6 := fit_sub l (ws.map rider) (Q := T ++ [i]) (by omega) hnd hlt (List.nodup_append.2 ⟨nT, by simp, fun x hx y hy => by
        rw [List.mem_singleton] at hy
        rintro rfl
        exact hni (hy ▸ hx)⟩) (fun x hx => by
        rcases List.mem_append.1 hx with hx | hx
        · exact a2.subset hx
        · rw [List.mem_singleton] at hx; rw [hx]; exact hi) h
      rw [h5] at h6
      cases h6
    have h1 := places_sub (N := ws.length) nT List.nodup_range (fun i hi => by simpa using a2.subset hi) hall
    have h2 := a2.length_le
    simp only [List.length_range] at h1 h2
    omega
/-- Who is denied, seen as a set. -/
theorem seq_all (cs : List MCand) (i : Nat) : i ∈ seqV (volAt cs) true cs.length 0 ++ seqV (volAt cs) false cs.length 0 ↔ i < cs.length := by
  have key : ∀ v, i ∈ seqV (volAt cs) v cs.length 0 ↔ i < cs.length ∧ volAt cs i = v := fun v => by
    unfold seqV
    rw [List.mem_filter, List.mem_reverse, List.drop_zero, List.mem_range]
    simp
  rw [List.mem_append, key, key]
  cases volAt cs i <;> simp
theorem seq_nodup (cs : List MCand) : (seqV (volAt cs) true cs.length 0 ++ seqV (volAt cs) false cs.length 0).Nodup := by
  refine List.nodup_append.2 ⟨seqV_nodup .., seqV_nodup .., fun x hx y hy e => ?_⟩
  have h1 := (seqV_low _ _ hx).2.2
  have h2 := (seqV_low _ _ hy).2.2
  rw [e, h2] at h1
  cases h1
theorem inP_range (n i : Nat) : inP (List.range n) i = decide (i < n) := by unfold inP; simp
/-- Behind the denials: who is left fits; as many seated as ahead of them. -/
theorem deny_left (l : List MRow) (cs : List MCand) (hc : cs.length < 100) : (den2 l cs).1.Nodup ∧ (∀ i ∈ (den2 l cs).1, i < cs.length) ∧ fitL l (atP (cs.map rdr) (den2 l cs).1) = true ∧ seatN l (atP (cs.map rdr) (den2 l cs).1) = seatN l (cs.map rdr) := by
  have hlen : (cs.map rdr).length = cs.length := List.length_map ..
  obtain ⟨h1, h2, h3⟩ := dRun_go l (cs.map rdr) (by omega) (seqV (volAt cs) true cs.length 0 ++ seqV (volAt cs) false cs.length 0) (List.range cs.length, []) List.nodup_range (fun i hi => by simpa using hi)
  rw [← den2_run] at h1 h2 h3
  obtain ⟨j1, j2, _⟩ := deny_ok (P := gP l (cs.map rdr)) (caps := gC l) (m := gM l) (N := (cs.map rdr).length) (seqV (volAt cs) true cs.length 0 ++ seqV (volAt cs) false cs.length 0) (inP (List.range cs.length)) [] (seq_nodup cs) (fun i hi => by
    have := (seq_all cs i).1 hi
    rw [hlen, inP_range]
    exact ⟨this, by simpa using this⟩) (fun i hi _ => .inl ((seq_all cs i).2 (by omega)))
  rw [h1] at j1 j2
  have z := places_len h2 h3
  have h3' : ∀ i ∈ (den2 l cs).1, i < cs.length := fun i hi => by rw [← hlen]; exact h3 i hi
  refine ⟨h2, h3', (fit_places l (cs.map rdr) h2 h3 (by omega)).2 j1, ?_⟩
  rw [seat_places l (cs.map rdr) h2 h3 (by omega)]
  refine Eq.trans j2 ?_
  have := seat_places l (cs.map rdr) (P := List.range cs.length) List.nodup_range (fun i hi => by simpa using hi) (by simp; omega)
  rw [← hlen, atP_range] at this
  rw [hlen] at this
  exact this.symm
/-- Nobody is denied exactly if all fit. -/
theorem deny_none (l : List MRow) (cs : List MCand) (hc : cs.length < 100) : (den2 l cs).2.length = 0 ↔ fitL l (cs.map rdr) = true := by
  have hlen : (cs.map rdr).length = cs.length := List.length_map ..
  have hr : atP (cs.map rdr) (List.range cs.length) = cs.map rdr := by rw [← hlen]; exact atP_range _
  constructor
  · intro h
    obtain ⟨h1, h2, h3, _⟩ := deny_left l cs hc
    have hi := den2_inv l cs
    have e0 : (den2 l cs).2 = [] := List.eq_nil_of_length_eq_zero h
    rw [← hr]
    refine fit_sub l (cs.map rdr) (by omega) h1 (fun i hi => by rw [hlen]; exact h2 i hi) List.nodup_range (fun i hx => (hi.mem i).2 ⟨by simpa using hx, by rw [e0]; simp⟩) h3
  · intro h
    rw [den2_run, dRun_fit (by simp only; rw [hr]; exact h)]
    rfl
end Go.Proofs.YtppjpledjhinbaaDoor
