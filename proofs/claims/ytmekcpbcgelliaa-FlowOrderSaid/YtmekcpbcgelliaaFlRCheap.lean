/- Flows: the reference's Cheap, walked. -/
import Derived.Test.YtmekcpbcgelliaaFlDists
import Derived.Test.YtmekcpbcgelliaaFlNet
namespace Go.Proofs.Ytmekcpbcgelliaa
open Go.RowKit
section
variable {N : Nw} {costs : Bool} {π : Nat → Int}
theorem PIn.one {most : Int} {L : List Nat} {r : List Int × Int} (h : PIn N costs most π L r) (hm : 1 ≤ most) : PIn N costs 1 π L r :=
  ⟨h.ok, fun j hj => Int.le_trans hm (h.ge j hj), h.lt, h.feas, h.tight, h.paid, h.nd⟩
theorem flL_len (N : Nw) (room : List Int) : (flL N room).length = N.m := by simp [flL]
theorem gi_flL' {room : List Int} {i : Nat} (hi : i < N.m) : gi (flL N room) i = fl room i := by
  unfold flL
  rw [gi_get (by simpa using hi)]
  simp
theorem list_ext_gi {a b : List Int} (hl : a.length = b.length) (h : ∀ i, i < a.length → gi a i = gi b i) : a = b := by
  refine List.ext_getElem hl fun i h1 h2 => ?_
  have := h i h1
  rwa [gi_get h1, gi_get h2] at this
/-- One unit through an arc, as the flow's row has it. -/
theorem flL_push {r : List Int × Int} {j : Nat} (hl : r.1.length = 2 * N.m) (hj : j < 2 * N.m) : flL N (pushStep N 1 r j).1 = (flL N r.1).set (j / 2) (fl r.1 (j / 2) + (if j % 2 = 0 then 1 else -1)) := by
  refine list_ext_gi (by simp [flL_len]) fun i hi => ?_
  rw [flL_len] at hi
  rw [gi_flL' hi, push_fl hl hj, gi_set (by rw [flL_len]; omega)]
  by_cases e : i = j / 2
  · rw [if_pos e, if_pos e, e]
  · rw [if_neg e, if_neg e, gi_flL' hi]
theorem flL_start (N : Nw) : flL N (rooms0 N) = List.replicate N.m 0 := by
  refine list_ext_gi (by simp [flL_len]) fun i hi => ?_
  rw [flL_len] at hi
  rw [gi_flL' hi, gi_zeros _ _ hi]
  unfold fl
  rw [rooms0_gi N (by omega)]
  unfold room0
  rw [if_neg (by omega)]
end
def RCheapAns (w : World) (nodes s t : Nat) (l : List Ar) (e : Ending) (w' : World) : Prop :=
  ∃ (A : Option Addr) (c : Nat) (value cost : Int), e = .returned (.tuple #[.slice A l.length c, .int .i64 value, .int .i64 cost]) ∧ CheapIs (nwOf l) nodes s t value cost ∧ Below w.heap.size w w'
set_option maxHeartbeats 16000000 in
set_option maxRecDepth 20000 in
theorem rcheap_any (w : World) (nodes s t : Nat) (A : Option Addr) (k c : Nat) (l : List Ar) (hr : Rd w w.heap.size 4 A k (arv l)) (hg : GoodN nodes s t l) :
    Calls Try.prog 17 #[.int .i64 nodes, .int .i64 s, .int .i64 t, .slice A k c] w (RCheapAns w nodes s t l) := by
  have hok := hg.ok
  have hkl := rd_arlen hr
  have hnn := hok.nn
  have hsn := hok.sn
  have htn := hok.tn
  have hmm : (nwOf l).m = k := hkl.symm
  have hk4 : k ≤ 4000 := by have := hok.mm; omega
  have hmk := mkints w k (by omega)
  have HALL : Hid (∀ a ∈ l, okA nodes a) := Lib.hid hg.2.2.2.2.2.1
  have HKL := Lib.hid hkl
  have HMM := Lib.hid hmm
  have HOK := Lib.hid hok
  have HR := Lib.hid hr
  have HG := Lib.hid hg
  have hI0 := made_ints w k
  have hB0 : Below w.heap.size w (w.alloc (.cells (Array.replicate k (Value.int .i64 0)) 3)) := (Below.refl w.heap.size w).alloc (Nat.le_refl _) _
  have HI0 : Hid (Ints (w.alloc (.cells (Array.replicate k (Value.int .i64 0)) 3)) w.heap.size (flL (nwOf l) (rooms0 (nwOf l)))) := Lib.hid (by rw [flL_start, hmm]; exact hI0)
  have HB0 := Lib.hid hB0
  have HF0 := Lib.hid (FlowSt.start true hok)
  clear hok hkl hmm hr hg hI0 hB0
  go_enter Try.func17, Try.ntmps17
  go_wp2
  obtain ⟨G, hG⟩ : ∃ G, w.heap.size = G := ⟨_, rfl⟩
  have HGE := Lib.hid hG
  rw [hG] at HI0 ⊢
  clear hG hmk
  go_loopw [12, 13] (fun vv cv wx => ∃ (value cost : Int) (room : List Int), vv = .int .i64 value ∧ cv = .int .i64 cost ∧ Hid (FlowSt (nwOf l) true nodes s t room value cost) ∧ (0 ≤ value ∧ value ≤ 200) ∧ Hid (Ints wx G (flL (nwOf l) room)) ∧ Hid (Below w.heap.size w wx)) (fun vv _ _ => 201 - (intOf vv).toNat)
  case atStart => exact ⟨0, 0, _, rfl, rfl, HF0, ⟨by omega, by omega⟩, HI0, HB0⟩
  case round =>
    clear HI0 HB0 HF0
    obtain ⟨value, cost, room, rfl, rfl, hF, ⟨hv0, hv1⟩, hI, hb⟩ := hrel
    obtain ⟨π, hW⟩ := hF.out.fix HOK.out
    have hGz : w.heap.size = G := HGE.out
    have hIl := hI.out.lt
    have hrd : Rd wr wr.heap.size 1 (some ⟨G, 0, none⟩) k ((flL (nwOf l) room).map (Value.int .i64)) := by
      have := hI.out.rd hIl
      rw [flL_len, HMM.out] at this
      exact this
    have HC := Lib.hid (rdists_any wr nodes s t A k c l (some ⟨G, 0, none⟩) k _ room π ((HR.out.below hb.out).mono hb.out.size) hrd HG.out hF.out.ok (fun i hi => gi_flL' (by rw [HMM.out]; exact hi)) hW)
    have HW := Lib.hid hW
    clear hW hrd
    go_wp2_with fail
    refine HC.out.mono ?_
    rintro e w2 ⟨O, B, di, by_, rfl, hD⟩
    have hcv := hD.cv t htn
    have hdl : (di.map cvd).length = nodes := by rw [List.length_map]; exact hD.ld
    have d0 := hD.imd.cell (k := t) (by omega)
    rw [hcv.1] at d0
    have htI : (t : Int) < (nodes : Int) := by omega
    have hI2 := Lib.hid (hI.out.below hD.bel hIl)
    have hb2 := Lib.hid (hb.out.trans (hD.bel.mono hb.out.size))
    have hBz : wr.heap.size ≤ B := hD.lo.2
    have HE := Lib.hid hD.end_
    have HBY := Lib.hid hD.imb
    obtain ⟨dt, hdt⟩ : ∃ y, cvd (gi di t) = y := ⟨_, rfl⟩
    rw [hdt] at d0 hcv
    obtain ⟨-, hcv⟩ := hcv
    clear HC hD hI hb hdt
    by_cases hm : gi di t < FAR
    · have hcv := hcv.resolve_right (fun h => h.1 hm)
      obtain ⟨_, rfl, hd1, hd2⟩ := hcv
      obtain ⟨L, hL, hPI, hm1, _⟩ := hF.out.ready HOK.out HW.out HE.out hm
      have hP1 := hPI.one hm1
      have hS := hF.out.sent HOK.out HW.out HE.out hL (by omega : (0 : Int) ≤ 1) hP1
      have hpw := paid_way (N := nwOf l) 1 L (room, cost)
      rw [way_cost HW.out HE.out hL htn hm] at hpw
      have hpb := paid_bounds HOK.out hF.out.ok
      rw [← hF.out.paid] at hpb
      have hvb := hS.bounds HOK.out
      have hbl : (by_.map cvb).length = nodes := by rw [List.length_map]; exact HE.out.lb
      obtain ⟨R, hR⟩ : ∃ R, L.foldl (pushStep (nwOf l) 1) (room, cost) = R := ⟨_, rfl⟩
      rw [hR] at hS hpw
      have hcost : cost + gi di t = R.2 := by rw [hpw]; simp only; omega
      have hw1 : IntKind.i64.wrap (value + 1) = value + 1 := IntWalk.i64_in _ (by omega)
      have hw2 : IntKind.i64.wrap (cost + gi di t) = R.2 := by rw [← hcost]; exact IntWalk.i64_in _ (by omega)
      have b1 : decide (gi di t ≥ 1000000000) = false := decide_eq_false (by omega)
      have HS := Lib.hid hS
      have HRR := Lib.hid hR
      have HL := Lib.hid hL
      have HP1 := Lib.hid hP1
      have HBL := Lib.hid HE.out.lb
      clear hL hPI hP1 hS hpw hR hF HE HW hcost hpb
      go_wp2
      go_loopg [16] L.length (fun gk vv wx => ∃ (v : Nat) (L2 : List Nat) (r : List Int × Int), vv = .int .i64 v ∧ v < nodes ∧ Hid (L2.length ≤ gk) ∧ Hid (Pth (nwOf l) (gi by_) s v L2) ∧ Hid (PIn (nwOf l) true 1 (newPot π di) L2 r) ∧ Hid (L2.foldl (pushStep (nwOf l) 1) r = R) ∧ Hid (Ints wx G (flL (nwOf l) r.1)) ∧ Hid (Ints wx B (by_.map cvb)) ∧ Hid (Below w.heap.size w wx))
      case atStart => exact ⟨t, L, (room, cost), rfl, htn, Lib.hid (Nat.le_refl _), HL, HP1, HRR, hI2, HBY, hb2⟩
      case round =>
        clear hI2 HBY hb2 d0 HL HP1 HRR hw1 hw2
        obtain ⟨v, L2, ⟨ro, pd⟩, rfl, hvn, hg, hp, hM, hfo, hI, hY, hb⟩ := hrel
        rcases pth_inv hp.out with ⟨hvs, rfl⟩ | ⟨j, B2, rfl, e1, e2, e3, e4, e5⟩
        · have hF2 : Hid (FlowSt (nwOf l) true nodes s t ro (value + 1) R.2) := Lib.hid (by
            have h : (ro, pd) = R := hfo.out
            have h2 := HS.out
            rw [← h] at h2 ⊢
            exact h2)
          have hq : ((v : Int) == (s : Int)) = true := beq_iff_eq.2 (by omega)
          have hvb0 := hvb
          clear hg hp hfo hM hY hvs HS
          go_wp2
          go_roundw
          case rel => exact ⟨value + 1, R.2, ro, rfl, rfl, hF2, ⟨by omega, hvb0⟩, hI, hb⟩
          case measure => simp [intOf]; omega
        · have hok : RoomOk (nwOf l) ro := hM.out.ok
          have hge : 1 ≤ gi ro j := hM.out.ge j (by simp)
          have HGE1 := Lib.hid hge
          have hstep := (push_step (by omega : (0 : Int) ≤ 1) hM.out).1
          have hfl := flL_push (N := nwOf l) (r := (ro, pd)) hok.len e4
          have htwo := hok.two (j / 2) (by omega)
          have hcap := HOK.out.cap (j / 2) (by omega)
          obtain ⟨m1, m2⟩ := HOK.out.ends (j / 2) (by omega)
          have hq : ((v : Int) == (s : Int)) = false := beq_eq_false_iff_ne.2 (by omega)
          have y0 := hY.out.cell (k := v) (by omega)
          rw [gi_map (by rw [HBL.out]; exact hvn), e3] at y0
          have hvI : (v : Int) < (nodes : Int) := by omega
          have hlen : (flL (nwOf l) ro).length = k := by rw [flL_len, HMM.out]
          obtain ⟨i, hi⟩ : ∃ i, j / 2 = i := ⟨_, rfl⟩
          rw [hi] at hfl htwo hcap m1 m2
          have hik : i < k := by have := HMM.out; omega
          have hiI : (i : Int) < (k : Int) := by omega
          have hI' : Ints wr G (flL (nwOf l) ro) := hI.out
          have g0 := hI'.cell (k := i) (by omega)
          have gf := hI'.free i
          rw [gi_flL' (by rw [HMM.out]; exact hik)] at g0
          obtain ⟨bq, off, rfl, hbB, hsl, a0, a1, _, _⟩ := (HR.out.below hb.out).arc hik
          obtain ⟨n1, n2, _, _⟩ := nw_at hsl
          have hal := HALL.out (l[i]'hsl) (List.getElem_mem hsl)
          have b0 : (l[i]'hsl).1 = ((nwOf l).fr i : Int) := by rw [n1]; have := hal.1.1; omega
          have b1 : (l[i]'hsl).2.1 = ((nwOf l).to i : Int) := by rw [n2]; have := hal.2.1.1; omega
          rw [b0] at a0
          rw [b1] at a1
          have hflb : 0 ≤ fl ro i ∧ fl ro i ≤ 200 := by unfold fl; omega
          have HG2 : Hid (B2.length ≤ gk - 1 ∧ gk - 1 < gk) := Lib.hid (by
            have h1 : B2.length + 1 ≤ gk := hg.out
            omega)
          have HFO : Hid (B2.foldl (pushStep (nwOf l) 1) (pushStep (nwOf l) 1 (ro, pd) j) = R) := Lib.hid hfo.out
          have HST := Lib.hid hstep
          have hu : Upd (fun b => b = G) wr (wr.setCell ⟨G, i, none⟩ (.int .i64 (fl ro i + (if j % 2 = 0 then 1 else -1)))) := (Upd.refl (fun b => b = G) wr).setCell ⟨G, i, none⟩ rfl _
          have HI2 : Hid (Ints (wr.setCell ⟨G, i, none⟩ (.int .i64 (fl ro i + (if j % 2 = 0 then 1 else -1)))) G (flL (nwOf l) (pushStep (nwOf l) 1 (ro, pd) j).1)) := Lib.hid (by rw [hfl]; exact hI'.set i _)
          have HY2 : Hid (Ints (wr.setCell ⟨G, i, none⟩ (.int .i64 (fl ro i + (if j % 2 = 0 then 1 else -1)))) B (by_.map cvb)) := Lib.hid (hY.out.upd hu (fun e => by omega))
          have HB2 : Hid (Below w.heap.size w (wr.setCell ⟨G, i, none⟩ (.int .i64 (fl ro i + (if j % 2 = 0 then 1 else -1))))) := Lib.hid (hb.out.trans (hu.below (fun i hi e => by omega) hb.out.size))
          have HA0 : Hid (∀ V, Upd (fun b => b = G) wr V → V.cell? ⟨bq, off + i * 4, none⟩ = some (.int .i64 ((nwOf l).fr i : Int)) ∧ V.cell? ⟨bq, off + i * 4 + 1, none⟩ = some (.int .i64 ((nwOf l).to i : Int))) := Lib.hid (fun V hV =>
            ⟨(hV.cell (p := ⟨bq, off + i * 4, none⟩) (Nat.lt_of_lt_of_le hbB hb.out.size) (by show ¬ bq = G; omega)).trans a0, (hV.cell (p := ⟨bq, off + i * 4 + 1, none⟩) (Nat.lt_of_lt_of_le hbB hb.out.size) (by show ¬ bq = G; omega)).trans a1⟩)
          have HU := Lib.hid hu
          have HLB : Hid (v < (by_.map cvb).length) := Lib.hid (by omega)
          have HGY : Hid (gi (by_.map cvb) v = cvb (j : Int)) := Lib.hid (by rw [gi_map (by rw [HBL.out]; exact hvn), e3])
          clear hg hp hfo hM hstep hfl htwo hcap hal b0 b1 a0 a1 n1 n2 hI hI' hY hb hu hge
          rcases Nat.mod_two_eq_zero_or_one j with ej | ej
          · have hj2 : j = 2 * i := by omega
            have hcb : cvb (j : Int) = (i : Int) := by rw [hj2]; exact cvb_even i
            have E5 : Hid (Pth (nwOf l) (gi by_) s ((nwOf l).fr i) B2) := Lib.hid (by
              unfold rfr at e5
              rw [if_pos ej, hi] at e5
              exact e5)
            simp only [if_pos ej] at HI2 HY2 HB2 HU
            rw [hcb] at y0 HGY
            have hw1 : IntKind.i64.wrap (fl ro i + 1) = fl ro i + 1 := IntWalk.i64_in _ (by omega)
            have hcge : decide ((i : Int) ≥ 0) = true := decide_eq_true (by omega)
            clear e1 e2 e3 e5 hj2 hcb ej
            go_upto_region 12 with (fail)
            generalize wr.setCell ⟨G, i, none⟩ (.int .i64 (fl ro i + 1)) = w5 at HI2 HY2 HB2 HU HA0 ⊢
            have y1 := HY2.out.cell (k := v) HLB.out
            rw [HGY.out] at y1
            have a0 := (HA0.out w5 HU.out).1
            generalize (nwOf l).fr i = fr at a0 E5 m1
            clear y0 g0 gf hw1 hcge
            go_wp2
            go_roundg (gk - 1)
            case measure => exact HG2.out.2
            case rel => exact ⟨fr, B2, _, rfl, m1, Lib.hid HG2.out.1, E5, HST, HFO, HI2, HY2, HB2⟩
          · have hj2 : j = 2 * i + 1 := by omega
            have hcb : cvb (j : Int) = -1 - (i : Int) := by rw [hj2]; exact cvb_odd i
            have ej' : ¬ j % 2 = 0 := by omega
            have E5 : Hid (Pth (nwOf l) (gi by_) s ((nwOf l).to i) B2) := Lib.hid (by
              unfold rfr at e5
              rw [if_neg ej', hi] at e5
              exact e5)
            have hs : fl ro i + (-1) = fl ro i - 1 := by omega
            simp only [if_neg ej', hs] at HI2 HY2 HB2 HU
            rw [hcb] at y0 HGY
            have hge1 : 1 ≤ fl ro i := by
              have := HGE1.out
              rw [hj2] at this
              exact this
            have hw1 : IntKind.i64.wrap (fl ro i - 1) = fl ro i - 1 := IntWalk.i64_in _ (by omega)
            have hw2 : IntKind.i64.wrap (-1 - (-1 - (i : Int))) = (i : Int) := by rw [IntWalk.i64_in _ (by omega)]; omega
            have hcge : decide (-1 - (i : Int) ≥ 0) = false := decide_eq_false (by omega)
            clear e1 e2 e3 e5 hj2 hcb ej ej' hs
            go_upto_region 14 with (fail)
            generalize wr.setCell ⟨G, i, none⟩ (.int .i64 (fl ro i - 1)) = w5 at HI2 HY2 HB2 HU HA0 ⊢
            have y1 := HY2.out.cell (k := v) HLB.out
            rw [HGY.out] at y1
            have a1 := (HA0.out w5 HU.out).2
            generalize (nwOf l).to i = tv at a1 E5 m2
            clear y0 g0 gf hw1 hcge
            go_wp2
            go_roundg (gk - 1)
            case measure => exact HG2.out.2
            case rel => exact ⟨tv, B2, _, rfl, m2, Lib.hid HG2.out.1, E5, HST, HFO, HI2, HY2, HB2⟩
    · have hcv := hcv.resolve_left (fun h => hm h.1)
      obtain ⟨_, _, rfl⟩ := hcv
      obtain ⟨_, _, hch⟩ := hF.out.done HOK.out HE.out hm
      have HRES : Hid (RCheapAns w nodes s t l (.returned (.tuple #[.slice (some ⟨G, 0, none⟩) k k, .int .i64 value, .int .i64 cost])) w2) := Lib.hid ⟨some ⟨G, 0, none⟩, k, value, cost, by rw [← HKL.out], hch rfl, hb2.out⟩
      clear hch hF HE HW HBY hI2 hb2
      go_wp2
      go_ret3
      exact HRES.out
end Go.Proofs.Ytmekcpbcgelliaa
