/- One rider more; riders in another order (plain). -/
import Derived.Test.YtppjpledjhinbaaDoorJRsFin
namespace Go.Proofs.YtppjpledjhinbaaDoor
open Go.RowKit Go.Lib
noncomputable def seatedM (l : List MRow) (rs : List MSit) : Int := (rs.length : Int) - bestC l rs / 100
noncomputable def keptM (l : List MRow) (rs : List MSit) : Int := (rs.length : Int) - bestC l rs / 100 - bestC l rs % 100
theorem bestC_pos (l : List MRow) (rs : List MSit) : 0 ≤ bestC l rs := (min_bounds (bestC_is l rs)).1
theorem most_of {l : List MRow} {rs : List MSit} {c : Nat} (h : MinIs (kN (blocksOf (spotsL l)) (boardK (spotsL l) [] rs)) (capsOf (blocksOf (spotsL l))) rs.length (blocksOf (spotsL l)).length c) : (rs.length : Int) - ((c / 100 : Nat) : Int) = seatedM l rs ∧ (rs.length : Int) - ((c / 100 : Nat) : Int) - ((c % 100 : Nat) : Int) = keptM l rs := by
  have e : (c : Int) = bestC l rs := MinIs.uniq h (bestC_is l rs)
  unfold seatedM keptM
  rw [← e]
  omega
theorem kept_seated (l : List MRow) (rs : List MSit) : keptM l rs ≤ seatedM l rs := by
  have := bestC_pos l rs
  unfold seatedM keptM; omega
theorem seatedM_nil (l : List MRow) : seatedM l [] = 0 := by
  have := bestC_is l []
  obtain ⟨⟨σ, _, h⟩, _⟩ := this
  have e : bestC l [] = 0 := h.symm
  unfold seatedM
  rw [e]; rfl
theorem same_who {l : List MRow} {rs rs' : List MSit} {i j : Nat} (hi : i < rs.length) (hj : j < rs'.length) (h : rs[i].who = rs'[j].who) (b : Nat) : (gP l rs i).may b = (gP l rs' j).may b ∧ (gP l rs i).inf = (gP l rs' j).inf := by
  obtain ⟨a, c⟩ := gP_same (l := l) hi hj h
  rw [open_may (gP_open l rs) hi, open_may (gP_open l rs') hj, a]
  exact ⟨rfl, c⟩
theorem ok_less {l : List MRow} {rs : List MSit} {x : MSit} {σ : Nat → Nat} (h : OkA (gP l (rs ++ [x])) (gC l) (rs.length + 1) (gM l) σ) : OkA (gP l rs) (gC l) rs.length (gM l) σ := by
  have hs : ∀ i (hi : i < rs.length) b, (gP l rs i).may b = (gP l (rs ++ [x]) i).may b ∧ (gP l rs i).inf = (gP l (rs ++ [x]) i).inf := fun i hi b => same_who hi (by simp; omega) (by rw [List.getElem_append_left hi]) b
  refine ⟨fun i hi hs' => ?_, fun b hb => ?_, fun b hb => ?_⟩
  · rw [(hs i hi _).1]; exact h.may i (by omega) hs'
  · refine Int.le_trans ?_ (h.room b hb)
    simp only [sm]
    split <;> omega
  · refine Int.le_trans ?_ (h.inf b hb)
    simp only [sm]
    rw [sm_congr (g := fun i => if σ i = b ∧ (gP l rs i).inf = true then (1 : Int) else 0) (h := fun i => if σ i = b ∧ (gP l (rs ++ [x]) i).inf = true then (1 : Int) else 0) (fun i hi => by rw [(hs i hi b).2])]
    split <;> omega
theorem ok_more {l : List MRow} {rs : List MSit} {x : MSit} {σ : Nat → Nat} (h : OkA (gP l rs) (gC l) rs.length (gM l) σ) : OkA (gP l (rs ++ [x])) (gC l) (rs.length + 1) (gM l) (fun i => if i < rs.length then σ i else gM l) := by
  have hs : ∀ i (hi : i < rs.length) b, (gP l rs i).may b = (gP l (rs ++ [x]) i).may b ∧ (gP l rs i).inf = (gP l (rs ++ [x]) i).inf := fun i hi b => same_who hi (by simp; omega) (by rw [List.getElem_append_left hi]) b
  refine ⟨fun i hi hs' => ?_, fun b hb => ?_, fun b hb => ?_⟩
  · by_cases e : i < rs.length
    · simp only [e, if_true] at hs' ⊢
      rw [← (hs i e _).1]; exact h.may i e hs'
    · simp only [e, if_false] at hs'; omega
  · refine Int.le_trans (Int.le_of_eq ?_) (h.room b hb)
    simp only [sm, Nat.lt_irrefl, if_false]
    rw [if_neg (by omega), Int.add_zero]
    exact sm_congr fun i hi => by simp [hi]
  · refine Int.le_trans (Int.le_of_eq ?_) (h.inf b hb)
    simp only [sm, Nat.lt_irrefl, if_false]
    rw [if_neg (fun e => by omega), Int.add_zero]
    exact sm_congr fun i hi => by simp [hi, (hs i hi b).2]
theorem most_all (l : List MRow) (rs : List MSit) (hn : rs.length < 100) : (∃ σ, OkA (gP l rs) (gC l) rs.length (gM l) σ ∧ seatedN rs.length (gM l) σ = seatedM l rs ∧ keptN (gP l rs) rs.length (gM l) σ = keptM l rs) ∧ ∀ τ, OkA (gP l rs) (gC l) rs.length (gM l) τ → seatedN rs.length (gM l) τ ≤ seatedM l rs ∧ (seatedN rs.length (gM l) τ = seatedM l rs → keptN (gP l rs) rs.length (gM l) τ ≤ keptM l rs) := by
  obtain ⟨_, σ, a, b, c, d⟩ := most_is (gP_open l rs) hn (bestC_is l rs)
  exact ⟨⟨σ, a, b, c⟩, d⟩
/-- One rider more. -/
theorem most_more (l : List MRow) (rs : List MSit) (x : MSit) (hn : rs.length < 99) : seatedM l rs ≤ seatedM l (rs ++ [x]) ∧ seatedM l (rs ++ [x]) ≤ seatedM l rs + 1 := by
  have hl : (rs ++ [x]).length = rs.length + 1 := by simp
  obtain ⟨⟨σ, a1, a2, _⟩, a4⟩ := most_all l rs (by omega)
  obtain ⟨⟨τ, b1, b2, _⟩, b4⟩ := most_all l (rs ++ [x]) (by omega)
  rw [hl] at b1 b2 b4
  constructor
  · have h1 := (b4 _ (ok_more a1)).1
    have h2 : seatedN (rs.length + 1) (gM l) (fun i => if i < rs.length then σ i else gM l) = seatedN rs.length (gM l) σ := by
      unfold seatedN
      simp only [sm, Nat.lt_irrefl, if_false]
      rw [Int.add_zero]
      exact sm_congr fun i hi => by simp [hi]
    omega
  · have h1 := (a4 _ (ok_less b1)).1
    have h2 : seatedN (rs.length + 1) (gM l) τ ≤ seatedN rs.length (gM l) τ + 1 := by
      unfold seatedN
      simp only [sm]
      split <;> omega
    omega
/-! ### Another order -/
/-- No two have one old seat. -/
def Alone (rs : List MSit) : Prop := ∀ i (hi : i < rs.length), takenN (rs.take i) rs[i].seat = 0 ∨ rs[i].seat = seatZ
theorem olds_alone {rs : List MSit} (h : ∀ i (hi : i < rs.length), (oldsL rs)[i]'(by rw [oldsL_len]; exact hi) = rs[i].seat) : Alone rs := by
  intro i hi
  have := h i hi
  rw [oldsL_at rs hi] at this
  by_cases e : takenN (rs.take i) rs[i].seat = 0
  · exact .inl e
  · rw [if_neg e] at this; exact .inr this.symm
theorem Alone.ne {rs : List MSit} (h : Alone rs) {i j : Nat} (hi : i < rs.length) (hj : j < rs.length) (hne : i ≠ j) (e : rs[i].seat = rs[j].seat) : rs[i].seat = seatZ := by
  have key : ∀ i j (hi : i < rs.length) (hj : j < rs.length), i < j → rs[i].seat = rs[j].seat → rs[i].seat = seatZ := fun i j hi hj hlt e => by
    rcases h j hj with h0 | h0
    · exact absurd e ((takenN_pos _ _).1 h0 _ (by rw [List.mem_take_iff_getElem]; exact ⟨i, by omega, rfl⟩))
    · rw [e]; exact h0
  rcases Nat.lt_or_gt_of_ne hne with h1 | h1
  · exact key i j hi hj h1 e
  · rw [e]; exact key j i hj hi h1 e.symm
theorem own_alone {l : List MRow} {B : List MSit} {x : MSit} (h : takenN B x.seat = 0 ∨ x.seat = seatZ) : ownOf (spotsL l) B x = ownOf (spotsL l) [] x := by
  by_cases hz : x.seat = seatZ
  · have hno : ¬ (findS (spotsL l) x.seat).isSome = true := fun hf => by
      obtain ⟨s, hs⟩ := Option.isSome_iff_exists.1 hf
      obtain ⟨a, b⟩ := findS_some hs
      exact spot_ne a (b.trans hz)
    unfold ownOf
    rw [if_neg (fun h => hno h.1), if_neg (fun h => hno h.1)]
  · have h0 := h.resolve_right hz
    unfold ownOf
    rw [h0]
    rfl
/-- Riders turned about: the k-th comes first. -/
def turnR (rs : List MSit) (k : Nat) : List MSit := rs.drop k ++ rs.take k
def rotI (n k i : Nat) : Nat := if i < n - k then k + i else i - (n - k)
theorem turnR_len (rs : List MSit) (k : Nat) (hk : k ≤ rs.length) : (turnR rs k).length = rs.length := by unfold turnR; simp; omega
theorem turnR_at (rs : List MSit) {k i : Nat} (hk : k ≤ rs.length) (hi : i < rs.length) : ∃ h : rotI rs.length k i < rs.length, (turnR rs k)[i]'(by rw [turnR_len rs k hk]; exact hi) = rs[rotI rs.length k i] := by
  unfold rotI turnR
  by_cases e : i < rs.length - k
  · rw [if_pos e]
    refine ⟨by omega, ?_⟩
    rw [List.getElem_append_left (by simp; omega), List.getElem_drop]
  · rw [if_neg e]
    refine ⟨by omega, ?_⟩
    rw [List.getElem_append_right (by simp; omega), List.getElem_take]
    simp only [List.length_drop]
theorem rot_inj {n k i j : Nat} (hk : k ≤ n) (hi : i < n) (hj : j < n) (e : rotI n k i = rotI n k j) : i = j := by
  unfold rotI at e
  split at e <;> split at e <;> omega
theorem sm_rot (n k : Nat) (hk : k ≤ n) (g : Nat → Int) : (sm n fun i => g (rotI n k i)) = sm n g := by
  have h1 := sm_split (n - k) k (fun i => g (rotI n k i))
  have h2 := sm_split k (n - k) g
  rw [show n - k + k = n by omega] at h1
  rw [show k + (n - k) = n by omega] at h2
  rw [h1, h2]
  have e1 : (sm (n - k) fun i => g (rotI n k i)) = sm (n - k) fun i => g (k + i) := sm_congr fun i hi => by unfold rotI; rw [if_pos hi]
  have e2 : (sm k fun i => g (rotI n k (n - k + i))) = sm k g := sm_congr fun i hi => by
    unfold rotI; rw [if_neg (by omega), show n - k + i - (n - k) = i by omega]
  rw [e1, e2]; omega
/-- The other way round. -/
theorem turn_best (l : List MRow) (rs : List MSit) (ha : Alone rs) {k : Nat} (hk : k ≤ rs.length) : bestC l (turnR rs k) = bestC l rs := by
  have hlen := turnR_len rs k hk
  have hat : ∀ i (hi : i < rs.length), ∃ h : rotI rs.length k i < rs.length, (turnR rs k)[i]'(by omega) = rs[rotI rs.length k i] := fun i hi => turnR_at rs hk hi
  have hmay : ∀ i (_ : i < rs.length) b, (gP l (turnR rs k) i).may b = (gP l rs (rotI rs.length k i)).may b ∧ (gP l (turnR rs k) i).inf = (gP l rs (rotI rs.length k i)).inf := fun i hi b => by
    obtain ⟨h1, h2⟩ := hat i hi
    exact same_who (by omega) h1 (by rw [h2]) b
  have hown : ∀ i (_ : i < rs.length), (gP l (turnR rs k) i).own = (gP l rs (rotI rs.length k i)).own := fun i hi => by
    obtain ⟨h1, h2⟩ := hat i hi
    rw [gP_at l (turnR rs k) (by omega), gP_at l rs h1]
    show ownOf (spotsL l) ((turnR rs k).take i) (turnR rs k)[i] = ownOf (spotsL l) (rs.take (rotI rs.length k i)) rs[rotI rs.length k i]
    rw [own_alone (ha _ h1), h2]
    refine own_alone ?_
    by_cases hz : rs[rotI rs.length k i].seat = seatZ
    · exact .inr hz
    · refine .inl ((takenN_pos _ _).2 fun y hy e => hz ?_)
      rw [List.mem_take_iff_getElem] at hy
      obtain ⟨j, hj, rfl⟩ := hy
      obtain ⟨h3, h4⟩ := hat j (by omega)
      rw [h4] at e
      exact ha.ne h1 h3 (fun e2 => by have := rot_inj hk hi (by omega) e2; omega) e.symm
  have hprice : ∀ (rs : List MSit) i, i < rs.length → (gP l rs i).price = 100 := fun rs i hi => by
    unfold Skr.price; rw [(gP_open l rs i hi).1]; rfl
  have hcost : ∀ σ, costA (gP l (turnR rs k)) rs.length (gM l) (fun i => σ (rotI rs.length k i)) = costA (gP l rs) rs.length (gM l) σ := fun σ => by
    unfold costA
    rw [← sm_rot rs.length k hk (fun i => if σ i < gM l then (gP l rs i).toll (σ i) else (gP l rs i).price)]
    refine sm_congr fun i hi => ?_
    obtain ⟨h1, _⟩ := hat i hi
    simp only
    split
    · unfold Skr.toll; rw [hown i hi]
    · rw [hprice _ i (by omega), hprice _ _ h1]
  have hok : ∀ σ, OkA (gP l rs) (gC l) rs.length (gM l) σ → OkA (gP l (turnR rs k)) (gC l) rs.length (gM l) (fun i => σ (rotI rs.length k i)) := fun σ h => by
    refine ⟨fun i hi hs => ?_, fun b hb => ?_, fun b hb => ?_⟩
    · rw [(hmay i hi _).1]
      obtain ⟨h1, _⟩ := hat i hi
      exact h.may _ h1 hs
    · rw [sm_rot rs.length k hk (fun i => if σ i = b then (1 : Int) else 0)]
      exact h.room b hb
    · refine Int.le_trans (Int.le_of_eq ?_) (h.inf b hb)
      rw [← sm_rot rs.length k hk (fun i => if σ i = b ∧ (gP l rs i).inf = true then (1 : Int) else 0)]
      exact sm_congr fun i hi => by rw [(hmay i hi b).2]
  -- and back
  obtain ⟨⟨σ, a1, a2⟩, a3⟩ := bestC_is l rs
  obtain ⟨⟨τ, b1, b2⟩, b3⟩ := bestC_is l (turnR rs k)
  rw [hlen] at b1 b2 b3
  obtain ⟨ρ, hρ⟩ : ∃ ρ : Nat → Nat, ∀ i, i < rs.length → ρ (rotI rs.length k i) = τ i := by
    refine ⟨fun j => τ (if k ≤ j then j - k else j + (rs.length - k)), fun i hi => ?_⟩
    unfold rotI
    by_cases e : i < rs.length - k
    · rw [if_pos e]; simp only; rw [if_pos (by omega), show k + i - k = i by omega]
    · rw [if_neg e]; simp only; rw [if_neg (by omega), show i - (rs.length - k) + (rs.length - k) = i by omega]
  have hokb : OkA (gP l rs) (gC l) rs.length (gM l) ρ := by
    refine ⟨fun j hj hs => ?_, fun b hb => ?_, fun b hb => ?_⟩
    · obtain ⟨i, hi, rfl⟩ : ∃ i, i < rs.length ∧ rotI rs.length k i = j := by
        refine ⟨if k ≤ j then j - k else j + (rs.length - k), by split <;> omega, ?_⟩
        unfold rotI
        by_cases e : k ≤ j
        · rw [if_pos e, if_pos (by omega)]; omega
        · rw [if_neg e, if_neg (by omega)]; omega
      rw [hρ i hi] at hs ⊢
      rw [← (hmay i hi _).1]
      exact b1.may i hi hs
    · rw [← sm_rot rs.length k hk (fun i => if ρ i = b then (1 : Int) else 0)]
      refine Int.le_trans (Int.le_of_eq ?_) (b1.room b hb)
      exact sm_congr fun i hi => by rw [hρ i hi]
    · rw [← sm_rot rs.length k hk (fun i => if ρ i = b ∧ (gP l rs i).inf = true then (1 : Int) else 0)]
      refine Int.le_trans (Int.le_of_eq ?_) (b1.inf b hb)
      exact sm_congr fun i hi => by rw [hρ i hi, (hmay i hi b).2]
  have hcb : costA (gP l rs) rs.length (gM l) ρ = bestC l (turnR rs k) := by
    rw [← hcost ρ, ← b2]
    refine sm_congr fun i hi => by simp only [hρ i hi]
  have e1 := a3 _ hokb
  have e2 := b3 _ (hok σ a1)
  rw [hcost, a2] at e2
  rw [hcb] at e1
  omega
theorem turn_most (l : List MRow) (rs : List MSit) (ha : Alone rs) {k : Nat} (hk : k ≤ rs.length) : seatedM l (turnR rs k) = seatedM l rs ∧ keptM l (turnR rs k) = keptM l rs := by
  unfold seatedM keptM
  rw [turn_best l rs ha hk, turnR_len rs k hk]
  exact ⟨rfl, rfl⟩
end Go.Proofs.YtppjpledjhinbaaDoor
