/- Flows: the reference's Flow, walked, at a flow. -/
import Derived.Test.YtmekcpbcgelliaaFlFBx
namespace Go.Proofs.Ytmekcpbcgelliaa
open Go.RowKit
def exTo (N : Nw) (f : Nat → Int) (k v : Nat) : Int := sm k fun i => (if N.to i = v then f i else 0) - (if N.fr i = v then f i else 0)
def coTo (N : Nw) (f : Nat → Int) (k : Nat) : Int := sm k fun i => f i * N.cost i
/-- What stands in over. -/
def OvIs (N : Nw) (f : Nat → Int) (nodes k : Nat) (ov : List Int) : Prop := ov.length = nodes ∧ ∀ v, v < nodes → gi ov v = exTo N f k v
section
variable {N : Nw} {f : Nat → Int} {nodes s t : Nat}
theorem exTo_bound (hok : NwOk N nodes s t) (hf : IsFlow N nodes s t f) {k : Nat} (hk : k ≤ N.m) (v : Nat) : -200 * (k : Int) ≤ exTo N f k v ∧ exTo N f k v ≤ 200 * k := by
  induction k with
  | zero => exact ⟨by simp [exTo, sm], by simp [exTo, sm]⟩
  | succ k ih =>
    have h := ih (by omega)
    have h0 := hf.lo k (by omega)
    have h1 := hf.hi k (by omega)
    have h2 := hok.cap k (by omega)
    unfold exTo at h ⊢
    rw [sm]
    split <;> split <;> omega
theorem coTo_bound (hok : NwOk N nodes s t) (hf : IsFlow N nodes s t f) {k : Nat} (hk : k ≤ N.m) : 0 ≤ coTo N f k ∧ coTo N f k ≤ 200000 * k := by
  induction k with
  | zero => exact ⟨by simp [coTo, sm], by simp [coTo, sm]⟩
  | succ k ih =>
    have h := ih (by omega)
    have h0 := hf.lo k (by omega)
    have h1 := hf.hi k (by omega)
    have h2 := hok.cap k (by omega)
    have h3 := hok.cost k (by omega)
    have h4 : 0 ≤ f k * N.cost k := Int.mul_nonneg h0 h3.1
    have h5 : f k * N.cost k ≤ 200 * 1000 := Int.le_trans (Int.mul_le_mul_of_nonneg_right (show f k ≤ 200 by omega) h3.1) (Int.mul_le_mul_of_nonneg_left h3.2 (by omega))
    unfold coTo at h ⊢
    rw [sm]
    omega
theorem ov_step {k : Nat} {ov : List Int} (h : OvIs N f nodes k ov) (hne : N.fr k ≠ N.to k) (hr : N.fr k < nodes) (ht : N.to k < nodes) :
    OvIs N f nodes (k + 1) ((ov.set (N.fr k) (gi ov (N.fr k) - f k)).set (N.to k) (gi ov (N.to k) + f k)) := by
  refine ⟨by simp [h.1], fun v hv => ?_⟩
  rw [gi_set (by rw [List.length_set, h.1]; exact ht), gi_set (by rw [h.1]; exact hr)]
  have e : exTo N f (k + 1) v = exTo N f k v + ((if N.to k = v then f k else 0) - (if N.fr k = v then f k else 0)) := rfl
  rw [e, ← h.2 v hv]
  have i1 : (if N.to k = v then f k else 0) = if v = N.to k then f k else 0 := by simp only [eq_comm]
  have i2 : (if N.fr k = v then f k else 0) = if v = N.fr k then f k else 0 := by simp only [eq_comm]
  rw [i1, i2]
  by_cases e1 : v = N.to k
  · have e2 : ¬ v = N.fr k := fun h => hne (h.symm.trans e1)
    simp only [if_pos e1, if_neg e2]
    rw [e1]; omega
  · by_cases e2 : v = N.fr k
    · simp only [if_neg e1, if_pos e2]
      rw [e2]; omega
    · simp only [if_neg e1, if_neg e2]
      omega
end
set_option maxHeartbeats 8000000 in
set_option maxRecDepth 20000 in
theorem rflow_any (w : World) (nodes s t : Nat) (A : Option Addr) (k c : Nat) (l : List Ar) (Af : Option Addr) (cf : Nat) (fv : List Int) (hr : Rd w w.heap.size 4 A k (arv l)) (hrf : Rd w w.heap.size 1 Af k (fv.map (Value.int .i64)))
    (hg : GoodN nodes s t l) (hf : IsFlow (nwOf l) nodes s t (gi fv)) :
    Calls Try.prog 15 #[.int .i64 nodes, .int .i64 s, .int .i64 t, .slice A k c, .slice Af k cf] w fun e w' => e = .returned (.tuple #[.int .i64 (- ex (nwOf l) (gi fv) s), .int .i64 (costOf (nwOf l) (gi fv)), .bool true]) ∧ Below w.heap.size w w' := by
  have hok := hg.ok
  have hkl := rd_arlen hr
  have hnn := hok.nn
  have hsn := hok.sn
  have htn := hok.tn
  have hmm : (nwOf l).m = k := hkl.symm
  have hk4 : k ≤ 4000 := by have := hok.mm; omega
  have hmk := mkints w nodes (by omega)
  have HKL := Lib.hid hkl
  have HALL : Hid (∀ a ∈ l, okA nodes a) := Lib.hid hg.2.2.2.2.2.1
  have HMM := Lib.hid hmm
  have HOK := Lib.hid hok
  have HF := Lib.hid hf
  have HR := Lib.hid hr
  have HRF := Lib.hid hrf
  have hI0 := made_ints w nodes
  have hB0 : Below w.heap.size w (w.alloc (.cells (Array.replicate nodes (Value.int .i64 0)) 3)) := (Below.refl w.heap.size w).alloc (Nat.le_refl _) _
  have HI0 := Lib.hid hI0
  have HB0 := Lib.hid hB0
  clear hg hok hkl hmm hf hr hrf hI0 hB0
  go_enter Try.func15, Try.ntmps15
  go_wp2
  obtain ⟨O, hO⟩ : ∃ O, w.heap.size = O := ⟨_, rfl⟩
  rw [hO] at HI0 ⊢
  have HO := Lib.hid hO
  clear hO
  go_loopw [28, 14] (fun i cv wx => ∃ (j : Nat) (ov : List Int), j ≤ k ∧ i = .int .i64 j ∧ cv = .int .i64 (coTo (nwOf l) (gi fv) j) ∧ Hid (OvIs (nwOf l) (gi fv) nodes j ov) ∧ Hid (Ints wx O ov) ∧ Hid (Below w.heap.size w wx)) (fun i _ _ => k - (intOf i).toNat)
  case atStart => exact ⟨0, _, Nat.zero_le _, rfl, rfl, Lib.hid ⟨by simp, fun v hv => by rw [gi_get (by simpa using hv)]; simp [exTo, sm]⟩, HI0, HB0⟩
  case round =>
    clear HI0 HB0 hmk
    obtain ⟨j, ov, hj, rfl, rfl, hov, hI, hb⟩ := hrel
    by_cases hlt : j < k
    · obtain ⟨b, off, rfl, hbB, hsl, e0, e1, e2, e3⟩ := (HR.out.below hb.out).arc hlt
      obtain ⟨bf, of, rfl, hbF, hsf, d0⟩ := (HRF.out.below hb.out).int hlt
      obtain ⟨n1, n2, n3, n4⟩ := nw_at hsl
      obtain ⟨m1, m2⟩ := HOK.out.ends j (by rw [HMM.out]; exact hlt)
      have hne := HOK.out.self j (by rw [HMM.out]; exact hlt)
      have hcap := HOK.out.cap j (by rw [HMM.out]; exact hlt)
      have hco := HOK.out.cost j (by rw [HMM.out]; exact hlt)
      have hlo := HF.out.lo j (by rw [HMM.out]; exact hlt)
      have hhi := HF.out.hi j (by rw [HMM.out]; exact hlt)
      have hst := ov_step hov.out hne m1 m2
      have hb0 := exTo_bound HOK.out HF.out (k := j) (by rw [HMM.out]; omega) ((nwOf l).fr j)
      have hb1 := exTo_bound HOK.out HF.out (k := j) (by rw [HMM.out]; omega) ((nwOf l).to j)
      have hcb := coTo_bound HOK.out HF.out (k := j) (by rw [HMM.out]; omega)
      have hcs : coTo (nwOf l) (gi fv) (j + 1) = coTo (nwOf l) (gi fv) j + gi fv j * (nwOf l).cost j := rfl
      have hcb2 := coTo_bound HOK.out HF.out (k := j + 1) (by rw [HMM.out]; omega)
      rw [← hov.out.2 _ m1] at hb0
      rw [← hov.out.2 _ m2] at hb1
      have hal := HALL.out l[j] (List.getElem_mem hsl)
      have a0 : l[j].1 = ((nwOf l).fr j : Int) := by rw [n1]; have := hal.1.1; omega
      have a1 : l[j].2.1 = ((nwOf l).to j : Int) := by rw [n2]; have := hal.2.1.1; omega
      have a2 : l[j].2.2.1 = (nwOf l).cap j := n3.symm
      have a3 : l[j].2.2.2 = (nwOf l).cost j := n4.symm
      rw [a0] at e0
      rw [a1] at e1
      rw [a2] at e2
      rw [a3] at e3
      clear hal a0 a1 a2 a3 n1 n2 n3 n4
      generalize (nwOf l).fr j = fr at e0 hst hb0 m1 hne
      generalize (nwOf l).to j = tv at e1 hst hb1 m2 hne
      generalize (nwOf l).cap j = cap at e2 hcap hhi
      generalize (nwOf l).cost j = co at e3 hco hcs
      obtain ⟨cv', hcv'⟩ : ∃ c, coTo (nwOf l) (gi fv) (j + 1) = c := ⟨_, rfl⟩
      rw [hcv'] at hcs hcb2
      have HCV := Lib.hid hcv'
      clear hcv'
      generalize coTo (nwOf l) (gi fv) j = cv at hcs hcb ⊢
      have hovl := hov.out.1
      have HST := Lib.hid hst
      have HC := Lib.hid hcs
      clear hst hov
      generalize gi fv j = x at d0 hlo hhi HST HC hcs
      have hy : 0 ≤ x * co := Int.mul_nonneg hlo hco.1
      have hw1 : IntKind.i64.wrap (gi ov fr - x) = gi ov fr - x := IntWalk.i64_in _ (by omega)
      have hB := FBx.made hI.out hb.out (by have := HO.out; omega) fr tv cap co
      have HX := Lib.hid hB
      have hOne : gi (ov.set fr (gi ov fr - x)) tv = gi ov tv := by rw [gi_set (by rw [hovl]; exact m1), if_neg (fun e => hne e.symm)]
      have q1 : decide (x < 0) = false := decide_eq_false (by omega)
      have q2 : decide (x > cap) = false := decide_eq_false (by omega)
      have hw2 : IntKind.i64.wrap (gi ov tv + x) = gi ov tv + x := IntWalk.i64_in _ (by omega)
      have hw3 : IntKind.i64.wrap (x * co) = x * co := IntWalk.i64_in _ (by omega)
      have hw4 : IntKind.i64.wrap (cv + x * co) = cv + x * co := IntWalk.i64_in _ (by omega)
      have D0 : Hid (w.cell? ⟨bf, of + j, none⟩ = some (.int .i64 x)) := Lib.hid ((hb.out.cell (p := ⟨bf, of + j, none⟩) hbF).symm.trans d0)
      have HW1 := Lib.hid hw1
      have HW2 := Lib.hid hw2
      have HW3 := Lib.hid hw3
      have HW4 := Lib.hid hw4
      have HON := Lib.hid hOne
      clear hB hI hb hcs hcb hcb2 hw1 hw2 hw3 hw4 hOne
      go_upto_region 8 with (fail)
      obtain ⟨E, hE⟩ : ∃ E, wr.heap.size = E := ⟨_, rfl⟩
      rw [hE] at HX ⊢
      generalize wr.alloc (.cells #[.int .i64 (fr : Int), .int .i64 (tv : Int), .int .i64 cap, .int .i64 co] 28) = w1 at HX ⊢
      clear hE e0 e1 e2 e3 d0
      have c2 := HX.out.c2
      have d0 := HX.out.arg hbF D0.out
      go_quiet (fail)
      have HX2 := Lib.hid (HX.out.drewN nq)
      clear HX c2 d0
      go_upto_region 10 with (fail)
      generalize w1.drewN nq = w2 at HX2 ⊢
      have d0 := HX2.out.arg hbF D0.out
      have c0 := HX2.out.c0
      have o0 := HX2.out.ints.cell (k := fr) (by omega)
      have hw1 := HW1.out
      have hfrI : (fr : Int) < (nodes : Int) := by omega
      go_still_tail 11, (by kernel_rfl)
      change wpList _ _ _ _ _ w2.drew
      have HX3 := Lib.hid HX2.out.drew
      clear HX2 d0 c0 o0
      generalize w2.drew = w3 at HX3 ⊢
      have f0 := HX3.out.ints.free fr
      have o0 := HX3.out.ints.cell (k := fr) (by omega)
      have HX4 := Lib.hid (HX3.out.set fr (gi ov fr - x))
      have hl4 : (ov.set fr (gi ov fr - x)).length = nodes := by rw [List.length_set]; exact hovl
      clear HX3
      go_upto_region 11 with (fail)
      generalize w3.setCell ⟨O, fr, none⟩ (.int .i64 (gi ov fr - x)) = w4 at HX4 ⊢
      clear f0 o0 hw1
      have d0 := HX4.out.arg hbF D0.out
      have c1 := HX4.out.c1
      have o1 := HX4.out.ints.cell (k := tv) (by omega)
      rw [HON.out] at o1
      have hw2 := HW2.out
      have htvI : (tv : Int) < (nodes : Int) := by omega
      go_still_tail 11, (by kernel_rfl)
      change wpList _ _ _ _ _ w4.drew
      have HX5 := Lib.hid HX4.out.drew
      clear HX4 d0 c1 o1
      generalize w4.drew = w5 at HX5 ⊢
      have f1 := HX5.out.ints.free tv
      have o1 := HX5.out.ints.cell (k := tv) (by omega)
      have HX6 := Lib.hid (HX5.out.set tv (gi ov tv + x))
      clear HX5
      go_upto_region 12 with (fail)
      generalize w5.setCell ⟨O, tv, none⟩ (.int .i64 (gi ov tv + x)) = w6 at HX6 ⊢
      clear f1 o1 hw2
      have d0 := HX6.out.arg hbF D0.out
      have c3 := HX6.out.c3
      have hw3 := HW3.out
      have hw4 := HW4.out
      go_quiet (fail)
      have hcv := HC.out
      subst hcv
      have HX7 := Lib.hid (HX6.out.drewN nq)
      clear HX6 d0 c3 hw3 hw4
      go_wp2
      go_roundw
      case rel => exact ⟨j + 1, _, by omega, by go_num, by rw [HCV.out], HST, Lib.hid HX7.out.ints, Lib.hid HX7.out.bel⟩
      case measure => simp [intOf]; omega
    · obtain rfl : j = k := by omega
      have HOV : Hid (ov.length = nodes ∧ ∀ v, v < nodes → gi ov v = ex (nwOf l) (gi fv) v) := Lib.hid ⟨hov.out.1, fun v hv => by
        rw [hov.out.2 v hv]
        unfold exTo ex
        rw [HMM.out]⟩
      have HCO : Hid (coTo (nwOf l) (gi fv) j = costOf (nwOf l) (gi fv)) := Lib.hid (by unfold coTo costOf; rw [HMM.out])
      have hsb : -800000 ≤ gi ov s ∧ gi ov s ≤ 800000 := by
        have := exTo_bound HOK.out HF.out (k := j) (by rw [HMM.out]; exact Nat.le_refl _) s
        rw [← hov.out.2 s hsn] at this
        omega
      have HSB := Lib.hid hsb
      rw [HCO.out]
      clear hov hsb
      go_wp2
      go_loopw [81] (fun i wx => ∃ v : Nat, v ≤ nodes ∧ i = .int .i64 v ∧ Hid (Ints wx O ov) ∧ Hid (Below w.heap.size w wx)) (fun i _ => nodes - (intOf i).toNat)
      case atStart => exact ⟨0, Nat.zero_le _, rfl, hI, hb⟩
      case round =>
        clear hI hb
        obtain ⟨v, hv, rfl, hI, hb⟩ := hrel
        by_cases hvl : v < nodes
        · have o0 := hI.out.cell (k := v) (by rw [HOV.out.1]; exact hvl)
          have hvI : (v : Int) < (nodes : Int) := by omega
          by_cases hz : gi ov v = 0
          · rw [hz] at o0
            go_wp2
            go_roundw
            case rel => exact ⟨v + 1, by omega, by go_num, hI, hb⟩
            case measure => simp [intOf]; omega
          · by_cases e1 : v = s
            · subst e1
              have q1 : (gi ov v == 0) = false := beq_eq_false_iff_ne.2 hz
              have q2 : ((v : Int) == (v : Int)) = true := beq_iff_eq.2 rfl
              go_wp2
              go_roundw
              case rel => exact ⟨v + 1, by omega, by go_num, hI, hb⟩
              case measure => simp [intOf]; omega
            · by_cases e2 : v = t
              · subst e2
                have q1 : (gi ov v == 0) = false := beq_eq_false_iff_ne.2 hz
                have q2 : ((v : Int) == (s : Int)) = false := beq_eq_false_iff_ne.2 (by omega)
                have q3 : ((v : Int) == (v : Int)) = true := beq_iff_eq.2 rfl
                go_wp2
                go_roundw
                case rel => exact ⟨v + 1, by omega, by go_num, hI, hb⟩
                case measure => simp [intOf]; omega
              · exact absurd ((HOV.out.2 v hvl).trans (HF.out.even v hvl e1 e2)) hz
        · have hvI : decide ((v : Int) < (nodes : Int)) = false := decide_eq_false (by omega)
          have o0 := hI.out.cell (k := s) (by rw [HOV.out.1]; exact hsn)
          have hsI : (s : Int) < (nodes : Int) := by omega
          have hsb := HSB.out
          have hw : IntKind.i64.wrap (- gi ov s) = - gi ov s := IntWalk.i64_in _ (by omega)
          have HE : Hid (gi ov s = ex (nwOf l) (gi fv) s) := Lib.hid (HOV.out.2 s hsn)
          clear hI hsb
          go_wp2
          go_ret3
          rw [← HE.out]
          exact ⟨rfl, hb.out⟩
end Go.Proofs.Ytmekcpbcgelliaa
