/- The chapter's example in plain words: three riders, two seats. -/
import Derived.Test.YtppjpledjhinbaaDoorJRsFin
namespace Go.Proofs.YtppjpledjhinbaaDoor
open Go.RowKit Go.Lib
def rxRows : List MRow := [⟨1, 1, 0, false, ⟨#[65, 66]⟩⟩]
def rxWho : MWho := ⟨1, false, false⟩
def rxR : List MSit := [⟨rxWho, ⟨0, 0⟩⟩, ⟨rxWho, ⟨1, 65⟩⟩, ⟨rxWho, ⟨0, 0⟩⟩]
theorem rx_fits : ∀ r ∈ rxRows, r.fits := by
  intro r hr
  simp only [rxRows, List.mem_cons, List.mem_nil_iff, or_false] at hr
  rcases hr with rfl; (unfold MRow.fits; refine ⟨⟨by decide, by decide⟩, by decide⟩)
theorem rx_sits : ∀ x ∈ rxR, x.seat.fits := by
  intro x hx
  simp only [rxR, List.mem_cons, List.mem_nil_iff, or_false] at hx
  rcases hx with rfl | rfl | rfl <;> (unfold MSeat.fits; exact ⟨by decide, by decide⟩)
theorem rx_err : errC rxRows = 0 := by decide +kernel
theorem rx_spots : (spotsL rxRows).map (fun s => (s.seat.num, s.seat.ltr.toNat, s.blk)) = [(1, 65, 0), (1, 66, 0)] := by decide +kernel
theorem rx_blocks : (blocksOf (spotsL rxRows)).length = 1 ∧ ((blocksOf (spotsL rxRows))[0]?).map (fun y => (fitB rxWho y, y.seats.length)) = some (true, 2) := by decide +kernel
theorem rx_own : ownOf (spotsL rxRows) [] ⟨rxWho, ⟨0, 0⟩⟩ = -1 ∧ ownOf (spotsL rxRows) [⟨rxWho, ⟨0, 0⟩⟩] ⟨rxWho, ⟨1, 65⟩⟩ = 0 ∧ ownOf (spotsL rxRows) [⟨rxWho, ⟨0, 0⟩⟩, ⟨rxWho, ⟨1, 65⟩⟩] ⟨rxWho, ⟨0, 0⟩⟩ = -1 := by decide +kernel
theorem rx_m : gM rxRows = 1 := rx_blocks.1
theorem rx_at : ∃ y, (blocksOf (spotsL rxRows))[0]? = some y ∧ fitB rxWho y = true ∧ y.seats.length = 2 := by
  have h := rx_blocks.2
  cases hy : (blocksOf (spotsL rxRows))[0]? with
  | none => rw [hy] at h; simp at h
  | some y =>
    rw [hy] at h
    simp only [Option.map_some, Option.some.injEq, Prod.mk.injEq] at h
    exact ⟨y, rfl, h⟩
theorem rx_c : gC rxRows 0 = 2 := by
  obtain ⟨y, h1, _, h3⟩ := rx_at
  unfold gC capsOf
  rw [h1]; simpa using h3
theorem rx_owns : (gP rxRows rxR 0).own = -1 ∧ (gP rxRows rxR 1).own = 0 ∧ (gP rxRows rxR 2).own = -1 := by
  obtain ⟨a, b, c⟩ := rx_own
  rw [gP_at rxRows rxR (i := 0) (by decide), gP_at rxRows rxR (i := 1) (by decide), gP_at rxRows rxR (i := 2) (by decide)]
  exact ⟨a, b, c⟩
theorem rx_may (i : Nat) (hi : i < 3) : (gP rxRows rxR i).may 0 = true ∧ (gP rxRows rxR i).inf = false ∧ (gP rxRows rxR i).price = 100 := by
  have hop := gP_open rxRows rxR
  have hl : rxR.length = 3 := rfl
  rw [hl] at hop
  rw [open_may hop hi]
  obtain ⟨y, h1, h2, _⟩ := rx_at
  have hw : (rxR[i]'(by rw [hl]; exact hi)).who = rxWho := by
    obtain rfl | rfl | rfl : i = 0 ∨ i = 1 ∨ i = 2 := by omega
    all_goals rfl
  refine ⟨?_, ?_, ?_⟩
  · rw [gP_at rxRows rxR (by rw [hl]; exact hi)]
    unfold kOf
    simp only [h1, Option.map_some, Option.getD_some, hw, h2]
  · rw [gP_at rxRows rxR (by rw [hl]; exact hi)]
    unfold kOf
    simp only [hw]; rfl
  · unfold Skr.price
    rw [(hop i hi).1]; rfl
/-- What a seating costs. -/
theorem rx_cost (σ : Nat → Nat) : costA (gP rxRows rxR) 3 1 σ = (if σ 0 < 1 then 1 else 100) + (if σ 1 < 1 then 0 else 100) + if σ 2 < 1 then 1 else 100 := by
  obtain ⟨a, b, c⟩ := rx_owns
  unfold costA
  simp only [sm]
  have t : ∀ (i : Nat) (o : Int), (gP rxRows rxR i).own = o → i < 3 → (if σ i < 1 then (gP rxRows rxR i).toll (σ i) else (gP rxRows rxR i).price) = if σ i < 1 then (if o = 0 then 0 else 1) else 100 := fun i o ho hi => by
    by_cases h : σ i < 1
    · rw [if_pos h, if_pos h]
      unfold Skr.toll
      rw [ho]
      have : σ i = 0 := by omega
      rw [this]
      by_cases e : o = 0
      · subst e; rfl
      · rw [if_neg e, if_neg (fun x => e x.symm)]
    · rw [if_neg h, if_neg h]; exact (rx_may i hi).2.2
  rw [t 0 _ a (by omega), t 1 _ b (by omega), t 2 _ c (by omega)]
  simp
theorem rx_room {σ : Nat → Nat} (h : OkA (gP rxRows rxR) (gC rxRows) 3 1 σ) : ¬ (σ 0 < 1 ∧ σ 1 < 1 ∧ σ 2 < 1) := by
  rintro ⟨a, b, c⟩
  have := h.room 0 (by omega)
  rw [rx_c] at this
  have e0 : σ 0 = 0 := by omega
  have e1 : σ 1 = 0 := by omega
  have e2 : σ 2 = 0 := by omega
  simp [sm, e0, e1, e2] at this
theorem rx_good : OkA (gP rxRows rxR) (gC rxRows) 3 1 (fun i => if i < 2 then 0 else 1) := by
  refine ⟨fun i hi hs => ?_, fun b hb => ?_, fun b hb => ?_⟩
  · by_cases h : i < 2
    · simp only [h, if_true]; exact (rx_may i hi).1
    · simp only [h, if_false] at hs; omega
  · obtain rfl : b = 0 := by omega
    rw [rx_c]; simp [sm]
  · obtain rfl : b = 0 := by omega
    simp [sm, (rx_may 0 (by omega)).2.1, (rx_may 1 (by omega)).2.1]
theorem rx_best : bestC rxRows rxR = 101 := by
  have h := bestC_is rxRows rxR
  rw [rx_m] at h
  have h : MinIs (gP rxRows rxR) (gC rxRows) 3 1 (bestC rxRows rxR) := h
  refine h.uniq ⟨⟨_, rx_good, by rw [rx_cost]; simp⟩, fun σ hσ => ?_⟩
  have h1 := rx_room hσ
  rw [rx_cost]
  split <;> split <;> split <;> omega
theorem rx_t0 : tkT rxRows rxR 0 = true := by
  unfold tkT tkL
  rw [tk_old (i := 1) (j := 0) (by omega) _ (by decide)]
  rw [tk_at]
  rw [rx_best, rx_m]
  refine ⟨_, ⟨rx_good, by rw [show rxR.length = 3 from rfl, rx_cost]; simp⟩, fun i hi hf => ?_⟩
  unfold withI at hf
  have : i = 0 := by
    refine Classical.byContradiction fun e => ?_
    rw [if_neg e, tk_none 0 i (Nat.zero_le _)] at hf
    cases hf
  simp [this]
theorem rx_seat : seatPl rxRows rxR = [⟨1, 66⟩, ⟨1, 65⟩, ⟨0, 0⟩] := by
  obtain ⟨σ, hσ⟩ := sits_as rxRows rxR
  have hs := seats_ok rxRows rxR hσ
  have hok := hσ.ok
  have hcost := hσ.cost
  have htk := hσ.tk
  rw [rx_m] at hok hcost htk
  rw [show rxR.length = 3 from rfl] at hok hcost htk
  rw [rx_cost, rx_best] at hcost
  have hr := rx_room hok
  have s0 := (htk 0 (by omega)).2 rx_t0
  have s1 : σ 1 < 1 := Classical.byContradiction fun h => by
    rw [if_pos s0, if_neg h] at hcost
    split at hcost <;> omega
  have s2 : ¬ σ 2 < 1 := fun h => hr ⟨s0, s1, h⟩
  have t1 := (htk 1 (by omega)).1 s1
  have t2 : tkT rxRows rxR 2 = false := Bool.eq_false_iff.2 fun h => s2 ((htk 2 (by omega)).2 h)
  have hl : (seatPl rxRows rxR).length = 3 := hs.len
  obtain ⟨S, hS⟩ : ∃ S, seatPl rxRows rxR = S := ⟨_, rfl⟩
  rw [hS] at hs hl ⊢
  match S, hl with
  | [a, b, c], _ =>
    have hb := hs.home 1 (by simp) (by decide) t1 (by
      have := rx_own.2.1
      show (σ 1 : Int) = ownOf (spotsL rxRows) [⟨rxWho, ⟨0, 0⟩⟩] ⟨rxWho, ⟨1, 65⟩⟩
      rw [this]; omega)
    have hc := hs.none 2 (by simp) t2
    obtain ⟨s, h1, h2, _⟩ := hs.some 0 (by simp) (by decide) rx_t0
    have hd := hs.dist 0 1 (by simp) (by simp) rx_t0 t1
    simp only [List.getElem_cons_zero, List.getElem_cons_succ] at hb hc h2 hd
    have hb : b = ⟨1, 65⟩ := hb
    have hc : c = ⟨0, 0⟩ := hc
    have hne : a ≠ b := fun e => by have := hd e; omega
    have hm : (s.seat.num, s.seat.ltr.toNat, s.blk) ∈ (spotsL rxRows).map (fun s => (s.seat.num, s.seat.ltr.toNat, s.blk)) := List.mem_map.2 ⟨s, h1, rfl⟩
    rw [rx_spots, h2] at hm
    simp only [List.mem_cons, Prod.mk.injEq, List.mem_nil_iff, or_false] at hm
    have ha : a = ⟨1, 66⟩ := by
      obtain ⟨an, al⟩ := a
      rcases hm with ⟨e1, e2, _⟩ | ⟨e1, e2, _⟩
      · exfalso
        apply hne
        rw [hb]
        simp only at e1 e2
        have : al = 65 := UInt8.toNat_inj.1 e2
        rw [e1, this]
      · simp only at e1 e2
        have : al = 66 := UInt8.toNat_inj.1 e2
        rw [e1, this]
    rw [ha, hb, hc]
end Go.Proofs.YtppjpledjhinbaaDoor
