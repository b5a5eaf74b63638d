/- Cabins: the parts of a map, in plain words. -/
import Derived.Test.YtddiabpjmnmllaaDoorJCbRNr
namespace Go.Proofs.YtddiabpjmnmllaaDoor
open Go.RowKit Go.Lib
theorem blk_mono (l : List MRow) (i : Nat) (h : i + 1 < (spotsL l).length) : (spotsL l)[i].blk ≤ (spotsL l)[i + 1].blk := by
  have := go_at (spotsL l) (-1) i h (spots_go l).1
  omega
theorem seat_at_inj {L : List MSpot} (hd : L.Pairwise (fun x y => x.seat ≠ y.seat)) {i j : Nat} (hi : i < L.length) (hj : j < L.length) (e : L[i].seat = L[j].seat) : i = j := by
  have h1 := idx_at hd hi rfl
  have h2 := idx_at hd hj e.symm
  rw [h1] at h2
  omega
theorem find_at {L : List MSpot} (hd : L.Pairwise (fun x y => x.seat ≠ y.seat)) {i : Nat} (hi : i < L.length) : findS L L[i].seat = some L[i] := by
  have h1 : (findS L L[i].seat).isSome = true := findS_isSome.2 (List.mem_map.2 ⟨L[i], List.getElem_mem hi, rfl⟩)
  obtain ⟨x, hx⟩ := Option.isSome_iff_exists.1 h1
  obtain ⟨hm, he⟩ := findS_some hx
  obtain ⟨j, hj, rfl⟩ := List.mem_iff_getElem.1 hm
  obtain rfl := seat_at_inj hd hj hi he
  exact hx
theorem there_is {L : List MSpot} {Bs : List MBlk} (hd : L.Pairwise (fun x y => x.seat ≠ y.seat)) (hB : BlksAt L Bs) {i : Nat} (hi : i < L.length) (b : Nat) (hb : b < Bs.length) (e : L[i].blk = (b : Int)) : L[i].seat ∈ Bs[b].seats ↔ L[i].blocked = false := by
  rw [hB.seats b hb, List.mem_map]
  constructor
  · rintro ⟨x, hx, hs⟩
    obtain ⟨hm, hp⟩ := List.mem_filter.1 hx
    obtain ⟨j, hj, rfl⟩ := List.mem_iff_getElem.1 hm
    obtain rfl := seat_at_inj hd hj hi hs
    simp only [Bool.and_eq_true, Bool.not_eq_true'] at hp
    exact hp.2
  · intro h
    exact ⟨L[i], List.mem_filter.2 ⟨List.getElem_mem hi, by simp [e, h]⟩, rfl⟩
/-- Who stands beside whom. -/
def nextI (L : List MSpot) (i j : Nat) : Bool := decide ((i = j + 1 ∨ j = i + 1) ∧ (L.getD i spotZ).blk = (L.getD j spotZ).blk)
theorem nextI_symm (L : List MSpot) (i j : Nat) : nextI L i j = nextI L j i := by
  unfold nextI
  exact decide_eq_decide.2 ⟨fun h => ⟨h.1.symm, h.2.symm⟩, fun h => ⟨h.1.symm, h.2.symm⟩⟩
theorem near_at {L : List MSpot} (hd : L.Pairwise (fun x y => x.seat ≠ y.seat)) {i j : Nat} (hi : i < L.length) (hj : j < L.length) : nearI L (idxS L L[i].seat) (idxS L L[j].seat) = nextI L i j := by
  rw [idx_at hd hi rfl, idx_at hd hj rfl]
  unfold nearI nextI
  simp only [Int.toNat_natCast]
  exact decide_eq_decide.2 ⟨fun h => ⟨by omega, h.2.2.2⟩, fun h => ⟨by omega, by omega, by omega, h.2⟩⟩
theorem nextI_ne {L : List MSpot} {i j : Nat} (h : nextI L i j = true) : i ≠ j ∧ (L.getD i spotZ).blk = (L.getD j spotZ).blk := by
  have h := of_decide_eq_true h
  exact ⟨by omega, h.2⟩
/-- How many of the first k stand beside. -/
def nearN (L : List MSpot) (i : Nat) : Nat → Nat
  | 0 => 0
  | k + 1 => nearN L i k + if nextI L i k = true then 1 else 0
theorem nearN_le (L : List MSpot) (i : Nat) : ∀ k, nearN L i k ≤ (if i < k + 1 then 1 else 0) + (if i + 1 < k then 1 else 0) := by
  intro k
  induction k with
  | zero => simp [nearN]
  | succ k ih =>
    simp only [nearN]
    by_cases h : nextI L i k = true
    · rw [if_pos h]
      have h := (of_decide_eq_true h).1
      split at ih <;> split at ih <;> split <;> split <;> omega
    · rw [if_neg h]
      split at ih <;> split at ih <;> split <;> split <;> omega
theorem nearN_two (L : List MSpot) (i k : Nat) : nearN L i k ≤ 2 := by
  have := nearN_le L i k
  split at this <;> split at this <;> omega
/-- How many seats the blocks have. -/
def seatsN (out : List MBlk) : Nat := (out.map fun b => b.seats.length).sum
theorem seatsN_snoc (out : List MBlk) (b : MBlk) : seatsN (out ++ [b]) = seatsN out + b.seats.length := by simp [seatsN]
theorem seatsN_modify (s : MSeat) : ∀ (out : List MBlk) (b : Nat), b < out.length → seatsN (out.modify b fun x => { x with seats := x.seats ++ [s] }) = seatsN out + 1 := by
  intro out
  induction out with
  | nil => intro b h; simp at h
  | cons x t ih =>
    intro b hb
    cases b with
    | zero => simp [seatsN]; omega
    | succ b =>
      have := ih b (by simpa using hb)
      rw [List.modify_succ_cons]
      simp only [seatsN, List.map_cons, List.sum_cons] at this ⊢
      omega
theorem seatsN_new (out : List MBlk) (x : MSpot) : seatsN (newBlk out x) = seatsN out := by
  unfold newBlk
  split
  · rw [seatsN_snoc]; rfl
  · rfl
def freeN (L : List MSpot) : Nat := L.countP fun x => !x.blocked
theorem freeN_take {L : List MSpot} {j : Nat} (hj : j < L.length) : freeN (L.take (j + 1)) = freeN (L.take j) + if L[j].blocked = true then 0 else 1 := by
  unfold freeN
  rw [List.take_succ_eq_append_getElem hj, List.countP_append]
  cases h : L[j].blocked <;> simp [h]
theorem seatsN_take (l : List MRow) : ∀ j, j ≤ (spotsL l).length → seatsN (blocksOf ((spotsL l).take j)) = freeN ((spotsL l).take j) := by
  intro j
  induction j with
  | zero => intro _; simp [seatsN, blocksOf, freeN]
  | succ j ih =>
    intro hj
    have hjl : j < (spotsL l).length := by omega
    obtain ⟨h0, h1⟩ := blk_next l j hjl
    rw [freeN_take hjl, List.take_succ_eq_append_getElem hjl, blocksOf_snoc, ← ih (by omega)]
    unfold stepB addSeat
    split
    · rw [seatsN_new]; rfl
    · rename_i hk
      have hlt : ((spotsL l)[j]).blk.toNat < (newBlk (blocksOf (List.take j (spotsL l))) (spotsL l)[j]).length := by
        unfold newBlk
        split
        · simp; omega
        · omega
      rw [seatsN_modify _ _ _ hlt, seatsN_new]
theorem seatsN_all (l : List MRow) : seatsN (blocksOf (spotsL l)) = freeN (spotsL l) := by
  have := seatsN_take l (spotsL l).length (Nat.le_refl _)
  rwa [List.take_length] at this
theorem seatsN_cut {Bs : List MBlk} {k : Nat} (hk : k < Bs.length) : seatsN (Bs.take (k + 1)) = seatsN (Bs.take k) + Bs[k].seats.length := by
  rw [List.take_succ_eq_append_getElem hk, seatsN_snoc]
theorem seatsN_le {Bs : List MBlk} {k : Nat} : seatsN (Bs.take k) ≤ seatsN Bs := by
  have h : seatsN (Bs.take k ++ Bs.drop k) = seatsN (Bs.take k) + seatsN (Bs.drop k) := by unfold seatsN; rw [List.map_append, List.sum_append]
  rw [List.take_append_drop] at h
  omega
/-- What the blocks of a map say of a spot. -/
theorem blk_is (l : List MRow) {i : Nat} (hi : i < (spotsL l).length) : ∃ b : Nat, ∃ h : b < (blocksOf (spotsL l)).length, (spotsL l)[i].blk = (b : Int) ∧ ((blocksOf (spotsL l))[b]).cab = (spotsL l)[i].cab ∧ ((blocksOf (spotsL l))[b]).exit = (spotsL l)[i].exit ∧ ((blocksOf (spotsL l))[b]).row = (spotsL l)[i].seat.num := by
  have hB := blks_map l
  have hm := List.getElem_mem hi
  have h0 := (spots_go l).2 _ hm
  have h1 := hB.len _ hm
  obtain ⟨b, hb⟩ : ∃ b : Nat, (spotsL l)[i].blk = (b : Int) := ⟨(spotsL l)[i].blk.toNat, by omega⟩
  have hbl : b < (blocksOf (spotsL l)).length := by omega
  obtain ⟨y, hy, e, e1, e2, e3⟩ := hB.is b hbl
  obtain ⟨a1, a2, a3⟩ := spots_bk l _ hm y hy (by omega)
  exact ⟨b, hbl, hb, e1.trans a1.symm, e2.trans a2.symm, e3.trans a3.symm⟩
/-- All that the law asks of one spot. -/
structure PartAt (L : List MSpot) (Bs : List MBlk) (k : Nat) (x : MSpot) (b : Nat) (B : MBlk) : Prop where
  find : spotAt L x.seat = x ∧ (findS L x.seat).isSome = true
  blk : x.blk = (b : Int)
  hb : b < Bs.length
  is : Bs[b]? = some B
  cab : B.cab = x.cab
  exit : B.exit = x.exit
  row : B.row = x.seat.num
  there : x.seat ∈ B.seats ↔ x.blocked = false
  mono : ∀ y, 0 < k → L[k - 1]? = some y → y.blk ≤ x.blk
  near : ∀ (j : Nat) (y : MSpot), L[j]? = some y → nearI L (idxS L x.seat) (idxS L y.seat) = nextI L k j ∧ nearI L (idxS L y.seat) (idxS L x.seat) = nextI L k j ∧ (nextI L k j = true → y.seat ≠ x.seat ∧ y.blk = x.blk)
theorem part_at (l : List MRow) {k : Nat} (hk : k < (spotsL l).length) : ∃ b B, PartAt (spotsL l) (blocksOf (spotsL l)) k (spotsL l)[k] b B := by
  have hd := (spots_distinct l).1
  obtain ⟨b, hb, e, e1, e2, e3⟩ := blk_is l hk
  refine ⟨b, (blocksOf (spotsL l))[b], ?_, e, hb, List.getElem?_eq_getElem hb, e1, e2, e3, there_is hd (blks_map l) hk b hb e, ?_, ?_⟩
  · have := find_at hd hk
    exact ⟨by unfold spotAt; rw [this]; rfl, by rw [this]; rfl⟩
  · intro y h0 hy
    obtain ⟨h1, rfl⟩ := List.getElem?_eq_some_iff.1 hy
    have := blk_mono l (k - 1) (by omega)
    simpa only [show k - 1 + 1 = k by omega] using this
  · intro j y hy
    obtain ⟨h1, rfl⟩ := List.getElem?_eq_some_iff.1 hy
    refine ⟨near_at hd hk h1, by rw [near_at hd h1 hk, nextI_symm], fun h => ?_⟩
    have h2 := of_decide_eq_true h
    have g1 : (spotsL l).getD k spotZ = (spotsL l)[k] := by rw [List.getD_eq_getElem?_getD, List.getElem?_eq_getElem hk]; rfl
    have g2 : (spotsL l).getD j spotZ = (spotsL l)[j] := by rw [List.getD_eq_getElem?_getD, List.getElem?_eq_getElem h1]; rfl
    rw [g1, g2] at h2
    exact ⟨fun e => by have := seat_at_inj hd h1 hk e; omega, h2.2.symm⟩
end Go.Proofs.YtddiabpjmnmllaaDoor
