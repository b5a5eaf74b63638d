/- Flows: the reference's Round, walked, at a cheapest flow. -/
import Derived.Test.YtmekcpbcgelliaaFlFBx
import Derived.Test.YtmekcpbcgelliaaFlB2
namespace Go.Proofs.Ytmekcpbcgelliaa
open Go.RowKit
theorem rnd_low {X : Rlx} {n : Nat} (hX : X.ends n) {d : List Int} (hd : d.length = n) (hc : ∀ j, j < X.J → -1000 ≤ X.c j) (h0 : ∀ x, x < n → 0 ≤ gi d x) : ∀ r k, k ≤ X.J → ∀ x, x < n → -1000 * ((X.J * r + k : Nat) : Int) ≤ gi (X.to (X.rnd d r) k) x := by
  intro r
  induction r with
  | zero =>
    intro k
    induction k with
    | zero => intro _ x hx; have := h0 x hx; simp [Rlx.to, Rlx.rnd]; omega
    | succ k ih =>
      intro hk
      have := rlx_low hX (d := X.to (X.rnd d 0) k) (by rw [rlx_to_len, rlx_rnd_len]; exact hd) (j := k) (by omega) (hc k (by omega)) (ih (by omega))
      exact this
  | succ r ihr =>
    intro k
    induction k with
    | zero =>
      intro _ x hx
      have := ihr X.J (Nat.le_refl _) x hx
      rw [show X.J * (r + 1) + 0 = X.J * r + X.J by rw [Nat.mul_add, Nat.mul_one, Nat.add_zero]]
      exact this
    | succ k ih =>
      intro hk
      exact rlx_low hX (d := X.to (X.rnd d (r + 1)) k) (by rw [rlx_to_len, rlx_rnd_len]; exact hd) (j := k) (by omega) (hc k (by omega)) (ih (by omega))
theorem can_not_fix {X : Rlx} {d : List Int} {j : Nat} (hj : j < X.J) (h : X.can (X.to d j) j) : ¬ X.fix d := fun hf => by
  rw [rlx_fix_to hf (by omega)] at h
  exact hf j hj h
/-- The arc at 2 j, and at 2 j + 1. -/
theorem rlx_even {N : Nw} {room : List Int} {j : Nat} {D : List Int} (hD : ∀ v, gi D v < FAR) : (rlxOf N room).can D (2 * j) ↔ 0 < gi room (2 * j) ∧ gi D (N.fr j) + N.cost j < gi D (N.to j) := by
  have e : (2 * j) % 2 = 0 := by omega
  have e2 : 2 * j / 2 = j := by omega
  unfold Rlx.can rlxOf rfr rto rc
  simp only [if_pos e, e2, decide_eq_true_eq]
  exact ⟨fun h => ⟨h.1, h.2.2⟩, fun h => ⟨h.1, hD _, h.2⟩⟩
theorem rlx_odd {N : Nw} {room : List Int} {j : Nat} {D : List Int} (hD : ∀ v, gi D v < FAR) : (rlxOf N room).can D (2 * j + 1) ↔ 0 < gi room (2 * j + 1) ∧ gi D (N.to j) - N.cost j < gi D (N.fr j) := by
  have e : ¬ (2 * j + 1) % 2 = 0 := by omega
  have e2 : (2 * j + 1) / 2 = j := by omega
  unfold Rlx.can rlxOf rfr rto rc
  simp only [if_neg e, e2, decide_eq_true_eq]
  exact ⟨fun h => ⟨h.1, by have := h.2.2; omega⟩, fun h => ⟨h.1, hD _, by have := h.2; omega⟩⟩
theorem rlx_step_even {N : Nw} {room D : List Int} {j : Nat} (h : (rlxOf N room).can D (2 * j)) : (rlxOf N room).step D (2 * j) = D.set (N.to j) (gi D (N.fr j) + N.cost j) := by
  have e : (2 * j) % 2 = 0 := by omega
  have e2 : 2 * j / 2 = j := by omega
  unfold Rlx.step
  rw [if_pos h]
  unfold rlxOf rfr rto rc
  simp only [if_pos e, e2]
theorem rlx_step_odd {N : Nw} {room D : List Int} {j : Nat} (h : (rlxOf N room).can D (2 * j + 1)) : (rlxOf N room).step D (2 * j + 1) = D.set (N.fr j) (gi D (N.to j) - N.cost j) := by
  have e : ¬ (2 * j + 1) % 2 = 0 := by omega
  have e2 : (2 * j + 1) / 2 = j := by omega
  unfold Rlx.step
  rw [if_pos h]
  unfold rlxOf rfr rto rc
  simp only [if_neg e, e2]
  rfl
set_option maxHeartbeats 16000000 in
set_option maxRecDepth 20000 in
theorem rround_any (w : World) (nodes s t : Nat) (A : Option Addr) (k c : Nat) (l : List Ar) (Af : Option Addr) (cf : Nat) (fv room : List Int) (π : Nat → Int) (hr : Rd w w.heap.size 4 A k (arv l)) (hrf : Rd w w.heap.size 1 Af k (fv.map (Value.int .i64)))
    (hg : GoodN nodes s t l) (hrm : RoomOk (nwOf l) room) (hfv : ∀ i, i < k → gi fv i = fl room i) (hp : RFeas (nwOf l) true room π) (h0 : ∀ v, v < nodes → 0 ≤ π v) :
    Calls Try.prog 16 #[.int .i64 nodes, .slice A k c, .slice Af k cf] w fun e w' => e = .returned (.bool false) ∧ Below w.heap.size w w' := by
  have hok := hg.ok
  have hkl := rd_arlen hr
  have hnn := hok.nn
  have hmm : (nwOf l).m = k := hkl.symm
  have hk4 : k ≤ 4000 := by have := hok.mm; omega
  have hmk := mkints w nodes (by omega)
  have HALL : Hid (∀ a ∈ l, okA nodes a) := Lib.hid hg.2.2.2.2.2.1
  have HKL := Lib.hid hkl
  have HMM := Lib.hid hmm
  have HOK := Lib.hid hok
  have HR := Lib.hid hr
  have HRF := Lib.hid hrf
  have HRM := Lib.hid hrm
  have HFV := Lib.hid hfv
  obtain ⟨X, hX⟩ : ∃ X, rlxOf (nwOf l) room = X := ⟨_, rfl⟩
  have HJ : Hid (X.J = 2 * k) := Lib.hid (by rw [← hX]; show 2 * (nwOf l).m = _; rw [hmm])
  have HEND : Hid (X.ends nodes) := Lib.hid (hX ▸ rlxOf_ends hok.ends)
  obtain ⟨d0, hd0⟩ : ∃ d0, List.replicate nodes (0 : Int) = d0 := ⟨_, rfl⟩
  have hd0l : d0.length = nodes := by rw [← hd0]; simp
  have hd00 : ∀ v, v < nodes → gi d0 v = 0 := fun v hv => by rw [← hd0]; exact gi_zeros _ _ hv
  have HDONE : Hid (X.fix (X.rnd d0 nodes)) := Lib.hid (by
    rw [← hX]
    exact rlxOf_done hok.ends hp h0 hd0l (fun v hv => by rw [hd00 v hv]; exact Int.le_refl _))
  have HLOW : Hid (∀ r q, r ≤ 200 → q ≤ 2 * k → ∀ x, x < nodes → -1700000000 ≤ gi (X.to (X.rnd d0 r) q) x ∧ gi (X.to (X.rnd d0 r) q) x ≤ 0) := Lib.hid fun r q hr hq x hx => by
    have h1 := rnd_low HEND.out hd0l (fun j hj => by
      rw [← hX]
      have hj' : j < 2 * k := by rw [← HJ.out]; exact hj
      have := hok.cost (j / 2) (by omega)
      show -1000 ≤ rc (nwOf l) j
      unfold rc
      split <;> omega) (fun v hv => by rw [hd00 v hv]; exact Int.le_refl _) r q (by rw [HJ.out]; exact hq) x hx
    have h2 := rlx_to_le HEND.out (d := X.rnd d0 r) (by rw [rlx_rnd_len]; exact hd0l) (show q ≤ X.J by rw [HJ.out]; exact hq) x
    have h3 := rlx_rnd_le HEND.out hd0l (Nat.zero_le r) x
    have h4 := hd00 x hx
    have h5 : X.J * r ≤ 8000 * 200 := Nat.mul_le_mul (by rw [HJ.out]; omega) hr
    rw [show X.rnd d0 0 = d0 from rfl] at h3
    generalize X.J * r = Q at h1 h5
    omega
  have HLEN : Hid (∀ r q, (X.to (X.rnd d0 r) q).length = nodes) := Lib.hid fun r q => by rw [rlx_to_len, rlx_rnd_len]; exact hd0l
  have hI0 := made_ints w nodes
  have hB0 : Below w.heap.size w (w.alloc (.cells (Array.replicate nodes (Value.int .i64 0)) 3)) := (Below.refl w.heap.size w).alloc (Nat.le_refl _) _
  rw [hd0] at hI0
  have HI0 := Lib.hid hI0
  have HB0 := Lib.hid hB0
  have HX := Lib.hid hX
  clear hg hok hkl hmm hr hrf hI0 hB0 hp h0 hrm hfv hX hd0 hd0l hd00
  go_enter Try.func16, Try.ntmps16
  go_wp2
  obtain ⟨O, hO⟩ : ∃ O, w.heap.size = O := ⟨_, rfl⟩
  rw [hO] at HI0 ⊢
  have HO := Lib.hid hO
  clear hO hmk
  go_loopw [8] (fun rv wx => ∃ r : Nat, r ≤ nodes ∧ rv = .int .i64 r ∧ Hid (Ints wx O (X.rnd d0 r)) ∧ Hid (Below w.heap.size w wx)) (fun rv _ => nodes + 1 - (intOf rv).toNat)
  case atStart => exact ⟨0, Nat.zero_le _, rfl, HI0, HB0⟩
  case round =>
    clear HI0 HB0
    obtain ⟨r, hr, rfl, hI, hb⟩ := hrel
    have hrn : (r : Int) ≤ (nodes : Int) := by omega
    obtain ⟨D, hD⟩ : ∃ D, X.rnd d0 r = D := ⟨_, rfl⟩
    have HD := Lib.hid hD
    rw [hD] at hI
    have HDL : Hid (∀ q, q ≤ 2 * k → ∀ x, x < nodes → -1700000000 ≤ gi (X.to D q) x ∧ gi (X.to D q) x ≤ 0) := Lib.hid fun q hq x hx => by rw [← hD]; exact HLOW.out r q (by omega) hq x hx
    have HDN : Hid (∀ q, (X.to D q).length = nodes) := Lib.hid fun q => by rw [← hD]; exact HLEN.out r q
    clear hD HLOW HLEN
    go_wp2
    go_loopw [21, 9] (fun i mv wx => ∃ (j : Nat) (b : Bool), j ≤ k ∧ i = .int .i64 j ∧ mv = .bool b ∧ Hid (b = true → ¬ X.fix D) ∧ Hid (Ints wx O (X.to D (2 * j))) ∧ Hid (Below w.heap.size w wx)) (fun i _ _ => k - (intOf i).toNat)
    case atStart => exact ⟨0, false, Nat.zero_le _, rfl, rfl, Lib.hid (fun h => by cases h), hI, hb⟩
    case round =>
      clear hI hb
      obtain ⟨j, b, hj, rfl, rfl, hm, hI, hb⟩ := hrel
      by_cases hlt : j < k
      · obtain ⟨bq, off, rfl, hbB, hsl, e0, e1, e2, e3⟩ := (HR.out.below hb.out).arc hlt
        obtain ⟨bf, of, rfl, hbF, hsf, x0⟩ := HRF.out.int hlt
        obtain ⟨n1, n2, n3, n4⟩ := nw_at hsl
        obtain ⟨m1, m2⟩ := HOK.out.ends j (by rw [HMM.out]; exact hlt)
        have hne := HOK.out.self j (by rw [HMM.out]; exact hlt)
        have hcap := HOK.out.cap j (by rw [HMM.out]; exact hlt)
        have hco := HOK.out.cost j (by rw [HMM.out]; exact hlt)
        have hrt := HRM.out.two j (by rw [HMM.out]; exact hlt)
        have hfx := HFV.out j hlt
        unfold fl at hfx
        have hal := HALL.out l[j] (List.getElem_mem hsl)
        have a0 : l[j].1 = ((nwOf l).fr j : Int) := by rw [n1]; have := hal.1.1; omega
        have a1 : l[j].2.1 = ((nwOf l).to j : Int) := by rw [n2]; have := hal.2.1.1; omega
        have a2 : l[j].2.2.1 = (nwOf l).cap j := n3.symm
        have a3 : l[j].2.2.2 = (nwOf l).cost j := n4.symm
        rw [a0] at e0
        rw [a1] at e1
        rw [a2] at e2
        rw [a3] at e3
        have hF : ∀ q, q ≤ 2 * k → ∀ v, gi (X.to D q) v < FAR := fun q hq v => by
          by_cases hv : v < nodes
          · have := (HDL.out q hq v hv).2
            unfold FAR; omega
          · rw [gi_out (by rw [HDN.out]; omega)]; decide
        have can1 : X.can (X.to D (2 * j)) (2 * j) ↔ gi fv j < (nwOf l).cap j ∧ gi (X.to D (2 * j)) ((nwOf l).fr j) + (nwOf l).cost j < gi (X.to D (2 * j)) ((nwOf l).to j) := by
          have h := rlx_even (N := nwOf l) (room := room) (j := j) (hF (2 * j) (by omega))
          rw [HX.out] at h
          rw [h]
          exact ⟨fun h => ⟨by omega, h.2⟩, fun h => ⟨by omega, h.2⟩⟩
        have can2 : X.can (X.to D (2 * j + 1)) (2 * j + 1) ↔ 0 < gi fv j ∧ gi (X.to D (2 * j + 1)) ((nwOf l).to j) - (nwOf l).cost j < gi (X.to D (2 * j + 1)) ((nwOf l).fr j) := by
          have h := rlx_odd (N := nwOf l) (room := room) (j := j) (hF (2 * j + 1) (by omega))
          rw [HX.out] at h
          rw [h, ← hfx]
        have N1 : X.can (X.to D (2 * j)) (2 * j) → ¬ X.fix D := can_not_fix (by rw [HJ.out]; omega)
        have N2 : X.can (X.to D (2 * j + 1)) (2 * j + 1) → ¬ X.fix D := can_not_fix (by rw [HJ.out]; omega)
        have T1 : X.can (X.to D (2 * j)) (2 * j) → X.to D (2 * j + 1) = (X.to D (2 * j)).set ((nwOf l).to j) (gi (X.to D (2 * j)) ((nwOf l).fr j) + (nwOf l).cost j) := fun h => by
          rw [← HX.out] at h ⊢
          exact rlx_step_even h
        have T2 : X.can (X.to D (2 * j + 1)) (2 * j + 1) → X.to D (2 * (j + 1)) = (X.to D (2 * j + 1)).set ((nwOf l).fr j) (gi (X.to D (2 * j + 1)) ((nwOf l).to j) - (nwOf l).cost j) := fun h => by
          rw [← HX.out] at h ⊢
          exact rlx_step_odd h
        have K1 : ¬ X.can (X.to D (2 * j)) (2 * j) → X.to D (2 * j + 1) = X.to D (2 * j) := fun h => if_neg h
        have K2 : ¬ X.can (X.to D (2 * j + 1)) (2 * j + 1) → X.to D (2 * (j + 1)) = X.to D (2 * j + 1) := fun h => if_neg h
        have b1 := HDL.out (2 * j) (by omega) _ m1
        have b2 := HDL.out (2 * j) (by omega) _ m2
        have b3 := HDL.out (2 * j + 1) (by omega) _ m1
        have b4 := HDL.out (2 * j + 1) (by omega) _ m2
        have l1 := HDN.out (2 * j)
        have l2 := HDN.out (2 * j + 1)
        generalize X.to D (2 * j) = D1 at hI can1 N1 T1 K1 b1 b2 l1 ⊢
        generalize X.to D (2 * j + 1) = D2 at can2 N2 T1 K1 T2 K2 b3 b4 l2 ⊢
        obtain ⟨D3, hD3⟩ : ∃ d, X.to D (2 * (j + 1)) = d := ⟨_, rfl⟩
        rw [hD3] at T2 K2
        have HD3 := Lib.hid hD3
        clear hD3
        generalize X.can D1 (2 * j) = C1 at can1 N1 T1 K1
        generalize X.can D2 (2 * j + 1) = C2 at can2 N2 T2 K2
        clear hal a0 a1 a2 a3 n1 n2 n3 n4 hF hrt hfx hcap
        generalize (nwOf l).fr j = fr at e0 hne m1 can1 can2 T1 T2 b1 b3
        generalize (nwOf l).to j = tv at e1 hne m2 can1 can2 T1 T2 b2 b4
        generalize (nwOf l).cap j = cap at e2 can1
        generalize (nwOf l).cost j = co at e3 hco can1 can2 T1 T2
        generalize gi fv j = x at x0 can1 can2
        have HT1 := Lib.hid (And.intro T1 K1)
        have HT2 := Lib.hid (And.intro T2 K2)
        have HN1 := Lib.hid N1
        have HN2 := Lib.hid N2
        have HC1 := Lib.hid can1
        have HC2 := Lib.hid can2
        clear T1 K1 T2 K2 N1 N2 can1 can2
        have HB := Lib.hid (FBx.made hI.out hb.out (by have := HO.out; omega) fr tv cap co)
        have X0 : Hid (w.cell? ⟨bf, of + j, none⟩ = some (.int .i64 x)) := Lib.hid x0
        have hw1 : IntKind.i64.wrap (gi D1 fr + co) = gi D1 fr + co := IntWalk.i64_in _ (by omega)
        have hw2 : IntKind.i64.wrap (gi D2 tv - co) = gi D2 tv - co := IntWalk.i64_in _ (by omega)
        have HB1 := Lib.hid (And.intro b1 b2)
        have HB3 := Lib.hid (And.intro b3 b4)
        clear hI hb x0 b1 b2 b3 b4
        go_upto_region 9 with (fail)
        obtain ⟨E, hE⟩ : ∃ E, wr.heap.size = E := ⟨_, rfl⟩
        rw [hE] at HB ⊢
        generalize wr.alloc (.cells #[.int .i64 (fr : Int), .int .i64 (tv : Int), .int .i64 cap, .int .i64 co] 28) = w1 at HB ⊢
        clear hE e0 e1 e2 e3
        obtain ⟨q1, hq1⟩ : ∃ q : Bool, (q = true ↔ (x < cap ∧ gi D1 fr + co < gi D1 tv)) := ⟨decide (x < cap ∧ gi D1 fr + co < gi D1 tv), decide_eq_true_iff⟩
        have HQ1 := Lib.hid hq1
        clear hq1
        go_cut [48] (fun v wc => v = .bool q1 ∧ Hid (FBx w wc O E D1 fr tv cap co))
        case first =>
          have c2 := HB.out.c2
          have d0 := HB.out.arg hbF X0.out
          by_cases p1 : x < cap
          · have g1 : decide (x < cap) = true := decide_eq_true p1
            have c0 := HB.out.c0
            have c1 := HB.out.c1
            have c3 := HB.out.c3
            have d1 := HB.out.ints.cell (k := fr) (by omega)
            have d2 := HB.out.ints.cell (k := tv) (by omega)
            by_cases p2 : gi D1 fr + co < gi D1 tv
            · have g2 : decide (gi D1 fr + co < gi D1 tv) = true := decide_eq_true p2
              obtain rfl : q1 = true := HQ1.out.2 ⟨p1, p2⟩
              have hfrI : (fr : Int) < (nodes : Int) := by omega
              have htoI : (tv : Int) < (nodes : Int) := by omega
              go_quiet (fail)
              go_wp2
              go_meet
              case rel => exact ⟨rfl, Lib.hid (HB.out.drewN _)⟩
            · have g2 : decide (gi D1 fr + co < gi D1 tv) = false := decide_eq_false p2
              obtain rfl : q1 = false := by
                cases q1
                · rfl
                · exact absurd (HQ1.out.1 rfl).2 p2
              have hfrI : (fr : Int) < (nodes : Int) := by omega
              have htoI : (tv : Int) < (nodes : Int) := by omega
              go_quiet (fail)
              go_wp2
              go_meet
              case rel => exact ⟨rfl, Lib.hid (HB.out.drewN _)⟩
          · have g1 : decide (x < cap) = false := decide_eq_false p1
            obtain rfl : q1 = false := by
              cases q1
              · rfl
              · exact absurd (HQ1.out.1 rfl).1 p1
            go_quiet (fail)
            go_wp2
            go_meet
            case rel => exact ⟨rfl, Lib.hid (HB.out.drewN _)⟩
        case rest =>
          obtain ⟨rfl, HBc⟩ := hcut
          clear HB
          go_step
          go_cut [9] (fun mv wc => ∃ b', mv = .bool b' ∧ Hid (b' = true → ¬ X.fix D) ∧ Hid (FBx w wc O E D2 fr tv cap co))
          case first =>
            cases q1 with
            | true =>
              have hcan := HC1.out.2 (HQ1.out.1 rfl)
              have hst := HT1.out.1 hcan
              have hno := HN1.out hcan
              have c0 := HBc.out.c0
              have c1 := HBc.out.c1
              have c3 := HBc.out.c3
              have d1 := HBc.out.ints.cell (k := fr) (by omega)
              have hfrI : (fr : Int) < (nodes : Int) := by omega
              have htoI : (tv : Int) < (nodes : Int) := by omega
              have HST := Lib.hid hst
              have HNO := Lib.hid hno
              clear hcan hst hno
              go_upto_region 10 with (fail)
              go_still_tail 12, (by kernel_rfl)
              change wpList _ _ _ _ _ wc.drew
              have HX3 := Lib.hid HBc.out.drew
              clear HBc c0 c1 c3 d1
              generalize wc.drew = w3 at HX3 ⊢
              have f0 := HX3.out.ints.free tv
              have o0 := HX3.out.ints.cell (k := tv) (by omega)
              have HX4 : Hid (FBx w (w3.setCell ⟨O, tv, none⟩ (.int .i64 (gi D1 fr + co))) O E D2 fr tv cap co) := Lib.hid (by rw [HST.out]; exact HX3.out.set tv (gi D1 fr + co))
              clear HX3
              go_wp2
              go_meet
              case rel => exact ⟨true, rfl, Lib.hid (fun _ => HNO.out), HX4⟩
            | false =>
              have hk := HT1.out.2 (fun h => by have := HQ1.out.2 (HC1.out.1 h); cases this)
              subst hk
              go_wp2
              go_meet
              case rel => exact ⟨b, rfl, hm, HBc⟩
          case rest =>
            obtain ⟨b', rfl, hm', HBd⟩ := hcut
            clear HBc hm hw1
            obtain ⟨q2, hq2⟩ : ∃ q : Bool, (q = true ↔ (0 < x ∧ gi D2 tv - co < gi D2 fr)) := ⟨decide (0 < x ∧ gi D2 tv - co < gi D2 fr), decide_eq_true_iff⟩
            have HQ2 := Lib.hid hq2
            clear hq2
            go_upto_region 12 with (fail)
            go_cut [81] (fun v we => v = .bool q2 ∧ Hid (FBx w we O E D2 fr tv cap co))
            case first =>
              have d0 := HBd.out.arg hbF X0.out
              by_cases p1 : 0 < x
              · have g1 : decide (x > 0) = true := decide_eq_true p1
                have c0 := HBd.out.c0
                have c1 := HBd.out.c1
                have c3 := HBd.out.c3
                have d1 := HBd.out.ints.cell (k := fr) (by omega)
                have d2 := HBd.out.ints.cell (k := tv) (by omega)
                by_cases p2 : gi D2 tv - co < gi D2 fr
                · have g2 : decide (gi D2 tv - co < gi D2 fr) = true := decide_eq_true p2
                  obtain rfl : q2 = true := HQ2.out.2 ⟨p1, p2⟩
                  have hfrI : (fr : Int) < (nodes : Int) := by omega
                  have htoI : (tv : Int) < (nodes : Int) := by omega
                  go_quiet (fail)
                  go_wp2
                  go_meet
                  case rel => exact ⟨rfl, Lib.hid (HBd.out.drewN _)⟩
                · have g2 : decide (gi D2 tv - co < gi D2 fr) = false := decide_eq_false p2
                  obtain rfl : q2 = false := by
                    cases q2
                    · rfl
                    · exact absurd (HQ2.out.1 rfl).2 p2
                  have hfrI : (fr : Int) < (nodes : Int) := by omega
                  have htoI : (tv : Int) < (nodes : Int) := by omega
                  go_quiet (fail)
                  go_wp2
                  go_meet
                  case rel => exact ⟨rfl, Lib.hid (HBd.out.drewN _)⟩
              · have g1 : decide (x > 0) = false := decide_eq_false p1
                obtain rfl : q2 = false := by
                  cases q2
                  · rfl
                  · exact absurd (HQ2.out.1 rfl).1 p1
                go_quiet (fail)
                go_wp2
                go_meet
                case rel => exact ⟨rfl, Lib.hid (HBd.out.drewN _)⟩
            case rest =>
              obtain ⟨rfl, HBe⟩ := hcut
              clear HBd
              cases q2 with
              | true =>
                have hcan := HC2.out.2 (HQ2.out.1 rfl)
                have hst := HT2.out.1 hcan
                have hno := HN2.out hcan
                have c0 := HBe.out.c0
                have c1 := HBe.out.c1
                have c3 := HBe.out.c3
                have d1 := HBe.out.ints.cell (k := tv) (by omega)
                have hfrI : (fr : Int) < (nodes : Int) := by omega
                have htoI : (tv : Int) < (nodes : Int) := by omega
                have HST := Lib.hid hst
                have HNO := Lib.hid hno
                clear hcan hst hno hm'
                go_upto_region 13 with (fail)
                go_still_tail 12, (by kernel_rfl)
                change wpList _ _ _ _ _ wc.drew
                have HX3 := Lib.hid HBe.out.drew
                clear HBe c0 c1 c3 d1
                generalize wc.drew = w3 at HX3 ⊢
                have f0 := HX3.out.ints.free fr
                have o0 := HX3.out.ints.cell (k := fr) (by omega)
                have HX4 : Hid (FBx w (w3.setCell ⟨O, fr, none⟩ (.int .i64 (gi D2 tv - co))) O E D3 fr tv cap co) := Lib.hid (by rw [HST.out]; exact HX3.out.set fr (gi D2 tv - co))
                clear HX3
                go_wp2
                go_roundw
                case rel => exact ⟨j + 1, true, by omega, by go_num, rfl, Lib.hid (fun _ => HNO.out), Lib.hid (by rw [HD3.out]; exact HX4.out.ints), Lib.hid HX4.out.bel⟩
                case measure => simp [intOf]; omega
              | false =>
                have hk := HT2.out.2 (fun h => by have := HQ2.out.2 (HC2.out.1 h); cases this)
                subst hk
                go_wp2
                go_roundw
                case rel => exact ⟨j + 1, b', by omega, by go_num, rfl, hm', Lib.hid (by rw [HD3.out]; exact HBe.out.ints), Lib.hid HBe.out.bel⟩
                case measure => simp [intOf]; omega
      · obtain rfl : j = k := by omega
        have HI2 : Hid (Ints wr O (X.rnd d0 (r + 1))) := Lib.hid (by
          rw [Rlx.rnd, HD.out, HJ.out]
          exact hI.out)
        cases b with
        | false =>
          clear hI
          go_wp2
          go_ret
          exact ⟨rfl, hb.out⟩
        | true =>
          have hrl : r < nodes := by
            apply Classical.byContradiction
            intro h
            obtain rfl : r = nodes := by omega
            have := HDONE.out
            rw [HD.out] at this
            exact hm.out rfl this
          clear hI hm
          go_wp2
          go_roundw
          case rel => exact ⟨r + 1, by omega, by go_num, HI2, hb⟩
          case measure => simp [intOf]; omega
end Go.Proofs.Ytmekcpbcgelliaa
