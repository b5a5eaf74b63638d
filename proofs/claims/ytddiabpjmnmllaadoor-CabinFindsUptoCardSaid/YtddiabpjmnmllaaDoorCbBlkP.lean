/- Cabins: blocks, in plain words. -/
import Derived.Test.YtddiabpjmnmllaaDoorFtOrdP
namespace Go.Proofs.YtddiabpjmnmllaaDoor
open Go.RowKit Go.Lib
structure MBlk where
  cab : Int
  row : Int
  exit : Bool
  seats : List MSeat
/-- One spot more. -/
def addSeat (out : List MBlk) (x : MSpot) : List MBlk := if x.blocked = true then out else out.modify x.blk.toNat fun b => { b with seats := b.seats ++ [x.seat] }
def newBlk (out : List MBlk) (x : MSpot) : List MBlk := if x.blk = (out.length : Int) then out ++ [⟨x.cab, x.seat.num, x.exit, []⟩] else out
def stepB (out : List MBlk) (x : MSpot) : List MBlk := addSeat (newBlk out x) x
def blocksOf (L : List MSpot) : List MBlk := L.foldl stepB []
theorem blocksOf_snoc (L : List MSpot) (x : MSpot) : blocksOf (L ++ [x]) = stepB (blocksOf L) x := by unfold blocksOf; rw [foldl_snoc]
/-- Blocks come one behind the other. -/
def blkGo : Int → List MSpot → Prop
  | _, [] => True
  | last, x :: t => (x.blk = last ∨ x.blk = last + 1) ∧ blkGo x.blk t
theorem blkGo_spotsB (r : MRow) (rest : List MSpot) : ∀ (l : List UInt8) (dot : Bool) (n : Nat) (last : UInt8) (b : Int), seatsGo dot n last l = true → blkGo (b + dotsN l) rest → blkGo (if dot = true then b - 1 else b) (spotsB r l b ++ rest) := by
  intro l
  induction l with
  | nil =>
    intro dot n last b h hr
    simp only [seatsGo, Bool.and_eq_true, Bool.not_eq_true'] at h
    rw [h.1]
    simpa [spotsB, dotsN] using hr
  | cons c t ih =>
    intro dot n last b h hr
    simp only [seatsGo] at h
    simp only [dotsN] at hr
    simp only [spotsB]
    split at h
    · rename_i hc
      rw [if_pos hc] at hr ⊢
      split at h
      · cases h
      · rename_i hd
        have := ih true n last (b + 1) h (by rw [show b + 1 + (dotsN t : Int) = b + ((dotsN t + 1 : Nat) : Int) by omega]; exact hr)
        rw [if_neg hd]
        rwa [if_pos rfl, show b + 1 - 1 = b by omega] at this
    · rename_i hc
      rw [if_neg hc] at hr ⊢
      split at h
      · cases h
      · have := ih false (n + 1) _ b h hr
        rw [List.cons_append]
        refine ⟨?_, by simpa [spotOf] using this⟩
        simp only [spotOf]
        cases dot <;> simp
theorem blkGo_all : ∀ (l : List MRow) (last : Int) (b : Int), checkGo last l = true → blkGo (b - 1) (spotsAll l b) := by
  intro l
  induction l with
  | nil => intro _ _ _; trivial
  | cons r t ih =>
    intro last b h
    simp only [checkGo, rowOk, Bool.and_eq_true, decide_eq_true_eq] at h
    obtain ⟨⟨_, h3⟩, h4⟩ := h
    simp only [spotsAll]
    have h5 := ih r.num (b + dotsN r.seats.data.toList + 1) h4
    have := blkGo_spotsB r (spotsAll t (b + dotsN r.seats.data.toList + 1)) r.seats.data.toList true 0 0 b h3 (by rwa [show b + (dotsN r.seats.data.toList : Int) + 1 - 1 = b + dotsN r.seats.data.toList by omega] at h5)
    rwa [if_pos rfl] at this
theorem spots_go (l : List MRow) : blkGo (-1) (spotsL l) ∧ ∀ x ∈ spotsL l, 0 ≤ x.blk := by
  unfold spotsL
  split
  · rename_i h
    unfold checkL at h
    simp only [Bool.and_eq_true] at h
    refine ⟨by have := blkGo_all l 0 0 h.2; simpa using this, fun x hx => (spotsAll_bk l 0).1 x hx⟩
  · exact ⟨trivial, fun x hx => by cases hx⟩
theorem go_at : ∀ (L : List MSpot) (last : Int) (j : Nat) (h : j + 1 < L.length), blkGo last L → L[j + 1].blk = L[j].blk ∨ L[j + 1].blk = L[j].blk + 1 := by
  intro L
  induction L with
  | nil => intro _ _ h; simp at h
  | cons x t ih =>
    intro last j h hg
    cases j with
    | zero =>
      cases t with
      | nil => simp at h
      | cons y t => exact hg.2.1
    | succ j =>
      have := ih x.blk j (by simpa using h) hg.2
      simpa using this
/-- What the blocks of a list are. -/
structure BlksAt (L : List MSpot) (out : List MBlk) : Prop where
  len : ∀ x ∈ L, x.blk < (out.length : Int)
  seats : ∀ b (h : b < out.length), (out[b]).seats = (L.filter fun x => decide (x.blk = (b : Int)) && !x.blocked).map (·.seat)
  is : ∀ b (h : b < out.length), ∃ x ∈ L, x.blk = (b : Int) ∧ (out[b]).cab = x.cab ∧ (out[b]).exit = x.exit ∧ (out[b]).row = x.seat.num
theorem blks_step {L : List MSpot} {out : List MBlk} (h : BlksAt L out) {x : MSpot} (h0 : 0 ≤ x.blk) (hx : x.blk < (out.length : Int) ∨ x.blk = (out.length : Int)) : BlksAt (L ++ [x]) (stepB out x) ∧ (stepB out x).length = (newBlk out x).length := by
  obtain ⟨b0, hb0⟩ : ∃ b0 : Nat, x.blk = (b0 : Int) := ⟨x.blk.toNat, by omega⟩
  have hnew : BlksAt L out → (∀ y ∈ L ++ [x], y.blk < ((newBlk out x).length : Int)) ∧ (∀ b (h : b < (newBlk out x).length), ((newBlk out x)[b]).seats = (L.filter fun x => decide (x.blk = (b : Int)) && !x.blocked).map (·.seat)) ∧ (∀ b (h : b < (newBlk out x).length), ∃ y ∈ L ++ [x], y.blk = (b : Int) ∧ ((newBlk out x)[b]).cab = y.cab ∧ ((newBlk out x)[b]).exit = y.exit ∧ ((newBlk out x)[b]).row = y.seat.num) := by
    intro h
    unfold newBlk
    by_cases e : x.blk = (out.length : Int)
    · simp only [e, if_true]
      refine ⟨fun y hy => ?_, fun b hb => ?_, fun b hb => ?_⟩
      · rw [List.length_append]
        rcases List.mem_append.1 hy with hy | hy
        · have := h.len y hy; simp; omega
        · obtain rfl : y = x := by simpa using hy
          simp; omega
      · by_cases hb2 : b < out.length
        · rw [List.getElem_append_left hb2]; exact h.seats b hb2
        · have : b = out.length := by simp at hb; omega
          subst this
          rw [List.getElem_append_right (Nat.le_refl _)]
          simp only [Nat.sub_self, List.getElem_cons_zero]
          rw [List.filter_eq_nil_iff.2]
          · rfl
          · intro y hy
            have := h.len y hy
            have hne : ¬ y.blk = (out.length : Int) := by omega
            simp [hne]
      · by_cases hb2 : b < out.length
        · rw [List.getElem_append_left hb2]
          obtain ⟨y, hy, hh⟩ := h.is b hb2
          exact ⟨y, List.mem_append_left _ hy, hh⟩
        · have : b = out.length := by simp at hb; omega
          subst this
          rw [List.getElem_append_right (Nat.le_refl _)]
          exact ⟨x, by simp, e, by simp, by simp, by simp⟩
    · simp only [e, if_false]
      refine ⟨fun y hy => ?_, h.seats, fun b hb => ?_⟩
      · rcases List.mem_append.1 hy with hy | hy
        · exact h.len y hy
        · obtain rfl : y = x := by simpa using hy
          omega
      · obtain ⟨y, hy, hh⟩ := h.is b hb
        exact ⟨y, List.mem_append_left _ hy, hh⟩
  obtain ⟨n1, n2, n3⟩ := hnew h
  have hlen : (stepB out x).length = (newBlk out x).length := by
    unfold stepB addSeat
    split
    · rfl
    · simp
  refine ⟨⟨fun y hy => by rw [hlen]; exact n1 y hy, fun b hb => ?_, fun b hb => ?_⟩, hlen⟩
  · have hb' : b < (newBlk out x).length := by rw [← hlen]; exact hb
    rw [List.filter_append, List.map_append, ← n2 b hb']
    unfold stepB addSeat
    by_cases hk : x.blocked = true
    · simp [hk]
    · have hk' : x.blocked = false := by simpa using hk
      simp only [hk', Bool.false_eq_true, if_false]
      rw [List.getElem_modify]
      by_cases e : x.blk.toNat = b
      · have e2 : x.blk = (b : Int) := by omega
        simp [e2, hk']
      · have e2 : ¬ x.blk = (b : Int) := by omega
        rw [if_neg e]
        simp [e2]
  · have hb' : b < (newBlk out x).length := by rw [← hlen]; exact hb
    obtain ⟨y, hy, hh⟩ := n3 b hb'
    refine ⟨y, hy, ?_⟩
    unfold stepB addSeat
    split
    · exact hh
    · rw [List.getElem_modify]
      split <;> exact hh
theorem blks_all : ∀ (L : List MSpot) (j : Nat), j ≤ L.length → blkGo (-1) L → (∀ x ∈ L, 0 ≤ x.blk) → BlksAt (L.take j) (blocksOf (L.take j)) ∧ (0 < j → ∃ h : j - 1 < L.length, ((blocksOf (L.take j)).length : Int) = L[j - 1].blk + 1) := by
  intro L j
  induction j with
  | zero => intro _ _ _; exact ⟨⟨by simp, fun b h => by simp [blocksOf] at h, fun b h => by simp [blocksOf] at h⟩, fun h => absurd h (by omega)⟩
  | succ j ih =>
    intro hj hg h0
    have hjl : j < L.length := by omega
    obtain ⟨h1, h2⟩ := ih (by omega) hg h0
    have hx0 := h0 L[j] (List.getElem_mem hjl)
    rw [List.take_succ_eq_append_getElem hjl, blocksOf_snoc]
    have hx : L[j].blk < ((blocksOf (L.take j)).length : Int) ∨ L[j].blk = ((blocksOf (L.take j)).length : Int) := by
      by_cases hj0 : j = 0
      · subst hj0
        cases L with
        | nil => simp at hjl
        | cons x t =>
          have := hg.1
          simp only [List.getElem_cons_zero] at hx0 ⊢
          right
          simp [blocksOf]
          omega
      · obtain ⟨hh, he⟩ := h2 (by omega)
        have := go_at L (-1) (j - 1) (by omega) hg
        simp only [show j - 1 + 1 = j by omega] at this
        omega
    obtain ⟨a, b⟩ := blks_step h1 hx0 hx
    refine ⟨a, fun _ => ⟨by simpa using hjl, ?_⟩⟩
    simp only [Nat.add_sub_cancel]
    rw [b]
    unfold newBlk
    by_cases e : L[j].blk = ((blocksOf (L.take j)).length : Int)
    · rw [if_pos e, List.length_append]; simp; omega
    · rw [if_neg e]
      by_cases hj0 : j = 0
      · subst hj0
        have := hx0
        simp [blocksOf] at e hx ⊢
        omega
      · obtain ⟨hh, he⟩ := h2 (by omega)
        have := go_at L (-1) (j - 1) (by omega) hg
        simp only [show j - 1 + 1 = j by omega] at this
        omega
/-- The blocks of a map. -/
theorem blks_map (l : List MRow) : BlksAt (spotsL l) (blocksOf (spotsL l)) := by
  obtain ⟨h1, h2⟩ := spots_go l
  have := (blks_all (spotsL l) (spotsL l).length (Nat.le_refl _) h1 h2).1
  rwa [List.take_length] at this
theorem blk_next (l : List MRow) (j : Nat) (hj : j < (spotsL l).length) : 0 ≤ (spotsL l)[j].blk ∧ ((spotsL l)[j].blk < ((blocksOf ((spotsL l).take j)).length : Int) ∨ (spotsL l)[j].blk = ((blocksOf ((spotsL l).take j)).length : Int)) := by
  obtain ⟨h1, h2⟩ := spots_go l
  obtain ⟨a, b⟩ := blks_all (spotsL l) j (by omega) h1 h2
  have hx0 := h2 _ (List.getElem_mem hj)
  refine ⟨hx0, ?_⟩
  by_cases hj0 : j = 0
  · subst hj0
    obtain ⟨c, d⟩ := blks_all (spotsL l) 1 (by omega) h1 h2
    obtain ⟨hh, he⟩ := d (by omega)
    have hlen : ((blocksOf ((spotsL l).take 1)).length : Int) ≤ 1 := by
      cases hL : spotsL l with
      | nil => rw [hL] at hj; simp at hj
      | cons x t =>
        simp only [List.take_succ_cons, List.take_zero, blocksOf, List.foldl_cons, List.foldl_nil, stepB, addSeat, newBlk]
        split <;> split <;> simp
    simp only [Nat.sub_self] at he
    right
    simp [blocksOf]
    omega
  · obtain ⟨hh, he⟩ := b (by omega)
    have := go_at (spotsL l) (-1) (j - 1) (by omega) h1
    simp only [show j - 1 + 1 = j by omega] at this
    omega
end Go.Proofs.YtddiabpjmnmllaaDoor
