/- Deny in plain words: down an order, whoever may go goes. -/
import Derived.Test.YtppjpledjhinbaaDoorJGtDrop
namespace Go.Proofs.YtppjpledjhinbaaDoor
open Go.RowKit Go.Lib
structure MCand where
  who : MWho
  vol : Bool
def candC (x : MCand) : List Value := whoC x.who ++ [.bool x.vol]
theorem candC_len (x : MCand) : (candC x).length = 4 := rfl
def rdr (x : MCand) : MSit := rider x.who
/-- The riders at these places. -/
def atP (R : List MSit) (P : List Nat) : List MSit := P.map fun i => R.getD i ⟨⟨0, false, false⟩, ⟨0, 0⟩⟩
noncomputable def dStep (l : List MRow) (R : List MSit) (s : List Nat × List Nat) (i : Nat) : List Nat × List Nat :=
  if fitL l (atP R s.1) = true then s else if seatN l (atP R (s.1.erase i)) < seatN l (atP R s.1) then s else (s.1.erase i, s.2 ++ [i])
noncomputable def dRun (l : List MRow) (R : List MSit) (s : List Nat × List Nat) (L : List Nat) : List Nat × List Nat := L.foldl (dStep l R) s
theorem dRun_nil (l : List MRow) (R : List MSit) (s : List Nat × List Nat) : dRun l R s [] = s := rfl
theorem dRun_app (l : List MRow) (R : List MSit) (s : List Nat × List Nat) (L K : List Nat) : dRun l R s (L ++ K) = dRun l R (dRun l R s L) K := List.foldl_append
theorem dRun_one (l : List MRow) (R : List MSit) (s : List Nat × List Nat) (i : Nat) : dRun l R s [i] = dStep l R s i := rfl
theorem dStep_fit {l : List MRow} {R : List MSit} {s : List Nat × List Nat} (h : fitL l (atP R s.1) = true) (i : Nat) : dStep l R s i = s := by unfold dStep; rw [if_pos h]
theorem dRun_fit {l : List MRow} {R : List MSit} {s : List Nat × List Nat} (h : fitL l (atP R s.1) = true) : ∀ L, dRun l R s L = s := by
  intro L
  induction L with
  | nil => rfl
  | cons i t ih => show dRun l R (dStep l R s i) t = s; rw [dStep_fit h, ih]
/-- The places down from n that bear v, until m are left. -/
def seqV (vol : Nat → Bool) (v : Bool) (n m : Nat) : List Nat := (((List.range n).drop m).reverse).filter fun i => vol i == v
theorem seqV_top (vol : Nat → Bool) (v : Bool) (n : Nat) : seqV vol v n n = [] := by unfold seqV; rw [List.drop_eq_nil_of_le (by simp)]; rfl
theorem seqV_next (vol : Nat → Bool) (v : Bool) {n m : Nat} (h : m < n) : seqV vol v n m = seqV vol v n (m + 1) ++ if vol m = v then [m] else [] := by
  unfold seqV
  rw [List.drop_eq_getElem_cons (by simpa using h), List.getElem_range, List.reverse_cons, List.filter_append]
  congr 1
  by_cases hv : vol m = v <;> simp [hv]
theorem seqV_low (vol : Nat → Bool) (v : Bool) {n m i : Nat} (h : i ∈ seqV vol v n m) : m ≤ i ∧ i < n ∧ vol i = v := by
  unfold seqV at h
  rw [List.mem_filter, List.mem_reverse] at h
  obtain ⟨h1, h2⟩ := h
  rw [List.mem_iff_getElem] at h1
  obtain ⟨j, hj, h1⟩ := h1
  rw [List.getElem_drop, List.getElem_range] at h1
  rw [List.length_drop, List.length_range] at hj
  exact ⟨by omega, by omega, by simpa using h2⟩
/-- Who is in, and who went: together all, nobody twice. -/
structure DInv (n : Nat) (s : List Nat × List Nat) : Prop where
  nd : s.1.Nodup
  mem : ∀ i, i ∈ s.1 ↔ i < n ∧ i ∉ s.2
  lenp : s.1.length + s.2.length = n
theorem DInv.init (n : Nat) : DInv n (List.range n, []) := ⟨List.nodup_range, fun i => by simp, by simp⟩
theorem DInv.step {l : List MRow} {R : List MSit} {n : Nat} {s : List Nat × List Nat} (h : DInv n s) {i : Nat} (hi : i ∈ s.1) : DInv n (dStep l R s i) := by
  unfold dStep
  split
  · exact h
  · split
    · exact h
    · have h1 := (h.mem i).1 hi
      refine ⟨h.nd.erase i, fun j => ?_, ?_⟩
      · rw [h.nd.mem_erase_iff, h.mem j, List.mem_append, List.mem_singleton]
        constructor
        · rintro ⟨a, b, c⟩; exact ⟨b, fun h => h.elim c a⟩
        · rintro ⟨a, b⟩; exact ⟨fun e => b (.inr e), a, fun e => b (.inl e)⟩
      · have := List.length_erase_of_mem hi
        have h3 : 0 < s.1.length := List.length_pos_of_mem hi
        have := h.lenp
        rw [List.length_append, List.length_singleton]
        simp only
        omega
theorem dStep_out {l : List MRow} {R : List MSit} {s : List Nat × List Nat} {i j : Nat} (h : j ∈ (dStep l R s i).2) : j ∈ s.2 ∨ j = i := by
  unfold dStep at h
  split at h
  · exact .inl h
  · split at h
    · exact .inl h
    · rw [List.mem_append, List.mem_singleton] at h; exact h
theorem dRun_inv {l : List MRow} {R : List MSit} {n : Nat} : ∀ (L : List Nat) (s : List Nat × List Nat), DInv n s → L.Nodup → (∀ i ∈ L, i < n ∧ i ∉ s.2) → DInv n (dRun l R s L) ∧ ∀ j ∈ (dRun l R s L).2, j ∈ s.2 ∨ j ∈ L := by
  intro L
  induction L with
  | nil => intro s h _ _; exact ⟨h, fun j hj => .inl hj⟩
  | cons i t ih =>
    intro s h hn hL
    rw [List.nodup_cons] at hn
    have hi := (h.mem i).2 (hL i (by simp))
    obtain ⟨a, b⟩ := ih (dStep l R s i) (h.step hi) hn.2 (fun j hj => ⟨(hL j (by simp [hj])).1, fun e => by
      rcases dStep_out e with e | e
      · exact (hL j (by simp [hj])).2 e
      · exact hn.1 (e ▸ hj)⟩)
    refine ⟨a, fun j hj => ?_⟩
    rcases b j hj with e | e
    · rcases dStep_out e with e | e
      · exact .inl e
      · exact .inr (by simp [e])
    · exact .inr (by simp [e])
theorem seqV_nodup (vol : Nat → Bool) (v : Bool) (n m : Nat) : (seqV vol v n m).Nodup := by
  unfold seqV
  refine List.Nodup.sublist List.filter_sublist ?_
  exact List.pairwise_reverse.2 ((List.Nodup.sublist (List.drop_sublist ..) List.nodup_range).imp Ne.symm)
def volAt (cs : List MCand) (i : Nat) : Bool := (cs.map MCand.vol).getD i false
/-- In the middle of the round for v: the state, and its invariant. -/
noncomputable def dMid (l : List MRow) (cs : List MCand) (v : Bool) (s0 : List Nat × List Nat) (m : Nat) : List Nat × List Nat := dRun l (cs.map rdr) s0 (seqV (volAt cs) v cs.length m)
/-- Ahead of the round for v: all that went bear another word. -/
structure DRnd (cs : List MCand) (v : Bool) (s0 : List Nat × List Nat) : Prop where
  inv : DInv cs.length s0
  oth : ∀ i ∈ s0.2, volAt cs i ≠ v
theorem dMid_inv {l : List MRow} {cs : List MCand} {v : Bool} {s0 : List Nat × List Nat} (h : DRnd cs v s0) (m : Nat) : DInv cs.length (dMid l cs v s0 m) ∧ ∀ j ∈ (dMid l cs v s0 m).2, j ∈ s0.2 ∨ (m ≤ j ∧ volAt cs j = v) := by
  obtain ⟨a, b⟩ := dRun_inv (l := l) (R := cs.map rdr) (seqV (volAt cs) v cs.length m) s0 h.inv (seqV_nodup ..) (fun i hi => by
    obtain ⟨_, h2, h3⟩ := seqV_low _ _ hi
    exact ⟨h2, fun e => h.oth i e h3⟩)
  refine ⟨a, fun j hj => ?_⟩
  rcases b j hj with e | e
  · exact .inl e
  · obtain ⟨h1, _, h3⟩ := seqV_low _ _ e
    exact .inr ⟨h1, h3⟩
theorem dMid_in {l : List MRow} {cs : List MCand} {v : Bool} {s0 : List Nat × List Nat} (h : DRnd cs v s0) {m : Nat} (hm : m < cs.length) (hv : volAt cs m = v) : m ∈ (dMid l cs v s0 (m + 1)).1 := by
  obtain ⟨a, b⟩ := dMid_inv (l := l) h (m + 1)
  refine (a.mem m).2 ⟨hm, fun e => ?_⟩
  rcases b m e with e | ⟨e, _⟩
  · exact h.oth m e hv
  · omega
theorem dMid_next {l : List MRow} {cs : List MCand} {v : Bool} {s0 : List Nat × List Nat} {m : Nat} (hm : m < cs.length) : dMid l cs v s0 m = if volAt cs m = v then dStep l (cs.map rdr) (dMid l cs v s0 (m + 1)) m else dMid l cs v s0 (m + 1) := by
  unfold dMid
  rw [seqV_next _ _ hm, dRun_app]
  split
  · rfl
  · rfl
theorem dMid_fit {l : List MRow} {cs : List MCand} {v : Bool} {s0 : List Nat × List Nat} : ∀ (k m : Nat), m + k ≤ cs.length → fitL l (atP (cs.map rdr) (dMid l cs v s0 (m + k)).1) = true → dMid l cs v s0 m = dMid l cs v s0 (m + k) := by
  intro k
  induction k with
  | zero => intro m _ _; rfl
  | succ k ih =>
    intro m hm h
    have e1 : m + (k + 1) = m + 1 + k := by omega
    have e : dMid l cs v s0 (m + 1) = dMid l cs v s0 (m + (k + 1)) := by rw [e1] at h ⊢; exact ih (m + 1) (by omega) h
    rw [dMid_next (by omega)]
    split
    · rw [e, dStep_fit h]
    · exact e
/-- The two rounds. -/
noncomputable def den1 (l : List MRow) (cs : List MCand) : List Nat × List Nat := dMid l cs true (List.range cs.length, []) 0
noncomputable def den2 (l : List MRow) (cs : List MCand) : List Nat × List Nat := dMid l cs false (den1 l cs) 0
theorem rnd1 (cs : List MCand) : DRnd cs true (List.range cs.length, []) := ⟨DInv.init _, fun i h => by cases h⟩
theorem rnd2 (l : List MRow) (cs : List MCand) : DRnd cs false (den1 l cs) := by
  obtain ⟨a, b⟩ := dMid_inv (l := l) (rnd1 cs) 0
  refine ⟨a, fun i hi => ?_⟩
  rcases b i hi with e | ⟨_, e⟩
  · cases e
  · rw [e]; decide
theorem den2_inv (l : List MRow) (cs : List MCand) : DInv cs.length (den2 l cs) := (dMid_inv (rnd2 l cs) 0).1
theorem den2_run (l : List MRow) (cs : List MCand) : den2 l cs = dRun l (cs.map rdr) (List.range cs.length, []) (seqV (volAt cs) true cs.length 0 ++ seqV (volAt cs) false cs.length 0) := by
  rw [dRun_app]; rfl
theorem atP_range (R : List MSit) : atP R (List.range R.length) = R := by
  apply List.ext_getElem
  · simp [atP]
  · intro i h1 h2
    simp only [atP, List.getElem_map, List.getElem_range]
    rw [List.getD_eq_getElem?_getD, List.getElem?_eq_getElem h2]; rfl
theorem atP_len (R : List MSit) (P : List Nat) : (atP R P).length = P.length := by simp [atP]
theorem erase_place {P : List Nat} {i : Nat} (hi : i ∈ P) : ∃ (j : Nat) (hj : j < P.length), P[j] = i ∧ P.erase i = P.eraseIdx j ∧ ∀ (k : Nat) (hk : k < P.length), k < j → P[k] ≠ i := by
  refine ⟨P.idxOf i, List.idxOf_lt_length_iff.2 hi, List.getElem_idxOf _, List.erase_eq_eraseIdx_of_idxOf rfl, fun k hk hlt e => ?_⟩
  have := List.not_of_lt_findIdx (p := (· == i)) (xs := P) (i := k) (by simpa [List.idxOf] using hlt)
  simp [e] at this
theorem eraseIdx_mapI {α β : Type} (f : α → β) : ∀ (P : List α) (j : Nat), (P.map f).eraseIdx j = (P.eraseIdx j).map f := by
  intro P
  induction P with
  | nil => intro j; cases j <;> rfl
  | cons x t ih => intro j; cases j with
    | zero => rfl
    | succ j => simp [List.eraseIdx, ih]
theorem atP_fits (cs : List MCand) (P : List Nat) : ∀ x ∈ atP (cs.map rdr) P, x.seat.fits := by
  intro x hx
  unfold atP at hx
  obtain ⟨i, _, rfl⟩ := List.mem_map.1 hx
  rw [List.getD_eq_getElem?_getD, List.getElem?_map]
  cases cs[i]? with
  | none => simp [MSeat.fits]
  | some y => simp [MSeat.fits, rdr, rider]
end Go.Proofs.YtppjpledjhinbaaDoor
