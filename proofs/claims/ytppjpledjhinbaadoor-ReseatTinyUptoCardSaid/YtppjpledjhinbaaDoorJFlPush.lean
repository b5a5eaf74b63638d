/- Flows: push, walked. -/
import Derived.Test.YtppjpledjhinbaaDoorJFlWay
import Derived.StillTailTactics
import Derived.BigQuiet
namespace Go.Proofs.YtppjpledjhinbaaDoor
open Go.RowKit
theorem flip_xor (j : Nat) (h : j < 1000000) : bits .xor .i64 (j : Int) 1 = ((flip j : Nat) : Int) := by
  have e1 := Nat.xor_div_two (a := j) (b := 1)
  have e2 : (j ^^^ 1) % 2 = (j % 2) ^^^ 1 := Nat.xor_mod_two_pow (a := j) (b := 1) (n := 1)
  have e3 : j / 2 ^^^ 1 / 2 = j / 2 := by simp
  rw [e3] at e1
  have hf : j ^^^ 1 = flip j := by
    unfold flip
    rcases Nat.mod_two_eq_zero_or_one j with e | e
    · rw [e] at e2
      rw [if_pos e]
      have e4 : (j ^^^ 1) % 2 = 1 := e2
      omega
    · rw [e] at e2
      rw [if_neg (by omega)]
      have e4 : (j ^^^ 1) % 2 = 0 := e2
      omega
  have h1 : (BitVec.ofInt 64 (j : Int)).toNat = j := by
    rw [BitVec.ofInt_natCast, BitVec.toNat_ofNat]; exact Nat.mod_eq_of_lt (by omega)
  have h2 : (BitVec.ofInt 64 1).toNat = 1 := by decide
  show IntKind.i64.wrap ((BitVec.ofInt 64 (j : Int) ^^^ BitVec.ofInt 64 1).toNat : Int) = _
  rw [BitVec.toNat_xor, h1, h2, hf]
  exact IntWalk.i64_in _ (by unfold flip; split <;> omega)
set_option maxHeartbeats 4000000 in
set_option maxRecDepth 20000 in
theorem push_no (w : World) (F : Nat → Prop) (P N R B : Nat) (av : Value) (nodes s t : Nat) (value paid : Int) (nw : Nw) (rows : List (List Nat)) (room bl : List Int) (hA : NetA w F P N R av nodes s t value paid nw rows room) (hb : Ints w B bl) (hl : bl.length = nodes) (ht : t < nodes) (hno : gi bl t < 0) :
    Calls Tryd.prog 81 #[.pointer (some ⟨P, 0, none⟩), .slice (some ⟨B, 0, none⟩) nodes nodes] w fun e w' => e = .returned (.bool false) ∧ w' = w := by
  have c3 := hA.c3
  have b0 := hb.cell (k := t) (by omega)
  obtain ⟨z, hz⟩ : ∃ z, gi bl t = z := ⟨_, rfl⟩
  rw [hz] at b0 hno
  have b1 : decide (z < 0) = true := decide_eq_true hno
  clear hz hA hb hl
  go_enter Tryd.func81, Tryd.ntmps81
  go_wp2
  go_ret
  exact ⟨rfl, rfl⟩
set_option maxHeartbeats 16000000 in
set_option maxRecDepth 20000 in
theorem push_yes (w : World) (F : Nat → Prop) (P N R B : Nat) (av : Value) (nodes s t : Nat) (value paid most : Int) (nw : Nw) (rows : List (List Nat)) (room bl : List Int) (costs : Bool) (π : Nat → Int) (L : List Nat) (hA : NetA w F P N R av nodes s t value paid nw rows room) (hn : NwOk nw nodes s t) (hb : Ints w B bl) (hl : bl.length = nodes) (hBF : B ≠ P ∧ B ≠ R)
    (hp : Pth nw (gi bl) s t L) (hP : PIn nw costs most π L (room, paid)) (hm : mostL room L 200 = most) (hm1 : 1 ≤ most ∧ most ≤ 200) (hv : -1000 ≤ value ∧ value ≤ 1000) :
    Calls Tryd.prog 81 #[.pointer (some ⟨P, 0, none⟩), .slice (some ⟨B, 0, none⟩) nodes nodes] w fun e w' => e = .returned (.bool true) ∧ NetA w' F P N R av nodes s t (value + most) (L.foldl (pushStep nw most) (room, paid)).2 nw rows (L.foldl (pushStep nw most) (room, paid)).1 ∧ Upd (fun k => k = P ∨ k = R) w w' := by
  have hst := hn.st
  have htn := hn.tn
  have hmm := hn.mm
  obtain ⟨j0, L0, hL, hj0, hts, hbt, hj0m, hp0⟩ : ∃ j B, L = j :: B ∧ rto nw j = t ∧ t ≠ s ∧ gi bl t = (j : Int) ∧ j < 2 * nw.m ∧ Pth nw (gi bl) s (rfr nw j) B := (pth_inv hp).resolve_left fun h => hst h.1.symm
  obtain ⟨ca, rfl⟩ := hA.some (by omega)
  have c3 := hA.c3
  have b0 := hb.cell (k := t) (by omega)
  rw [hbt] at b0
  have HB : Hid (∀ V, Upd (fun k => k = P ∨ k = R) w V → Ints V B bl) := Lib.hid fun V hV => hb.upd hV (fun e => e.elim hBF.1 hBF.2)
  have HA := Lib.hid hA
  have HN := Lib.hid hn
  have HP := Lib.hid hP
  have HPT := Lib.hid hp
  have HM := Lib.hid hm
  have HL := Lib.hid hL
  have HHL := Lib.hid hl
  clear hA hb hP hp hm hL hbt hj0 hp0 hn hl
  go_enter Tryd.func81, Tryd.ntmps81
  go_wp2
  go_loopg [5, 6] L.length (fun gk mv vv wx => ∃ (v : Nat) (L2 : List Nat) (m : Int), vv = .int .i64 v ∧ mv = .int .i64 m ∧ Hid (L2.length ≤ gk) ∧ Hid (Pth nw (gi bl) s v L2) ∧ Hid (mostL room L2 m = most) ∧ Hid (Upd (fun _ => False) w wx))
  case atStart => exact ⟨t, L, 200, rfl, rfl, Lib.hid (Nat.le_refl _), HPT, HM, Lib.hid (Upd.refl _ _)⟩
  case round =>
    clear c3 b0
    obtain ⟨v, L2, m, rfl, rfl, hg, hp, hmo, hu⟩ := hrel
    have hA := HA.out.upd hu.out (fun _ _ h => h) (fun h => h) (fun _ h => h)
    have c2 := hA.c2
    rcases pth_inv hp.out with ⟨hvs, rfl⟩ | ⟨j, B2, rfl, e1, e2, e3, e4, e5⟩
    · have hvs' := hvs.symm
      subst hvs'
      have hmm2 : m = most := hmo.out
      subst hmm2
      have c3 := hA.c3
      have hA0 := Lib.hid hA
      clear hg hp hmo hA hvs
      go_wp2
      go_loopg [7] L.length (fun gk vv wx => ∃ (v : Nat) (L2 : List Nat) (r : List Int × Int), vv = .int .i64 v ∧ Hid (L2.length ≤ gk) ∧ Hid (Pth nw (gi bl) s v L2) ∧ Hid (PIn nw costs m π L2 r) ∧ Hid (L2.foldl (pushStep nw m) r = L.foldl (pushStep nw m) (room, paid)) ∧ Hid (NetA wx F P N R (.slice (some ⟨R, 0, none⟩) (2 * nw.m) ca) nodes s t value r.2 nw rows r.1) ∧ Hid (Upd (fun k => k = P ∨ k = R) w wx))
      case atStart => exact ⟨t, L, (room, paid), rfl, Lib.hid (Nat.le_refl _), HPT, HP, Lib.hid rfl, hA0, Lib.hid (hu.out.mono fun _ _ h => h.elim)⟩
      case round =>
        clear c2 c3 hA0 hu
        obtain ⟨v, L2, ⟨ro, pd⟩, rfl, hg, hp, hI, hfo, hA, hu⟩ := hrel
        have c2 := hA.out.c2
        rcases pth_inv hp.out with ⟨hvs, rfl⟩ | ⟨j, B2, rfl, e1, e2, e3, e4, e5⟩
        · have hvs' := hvs.symm
          subst hvs'
          have c4 := hA.out.c4
          have c5 := hA.out.free 4
          have hF : Hid ((ro, pd) = L.foldl (pushStep nw m) (room, paid)) := Lib.hid hfo.out
          have hwv : IntKind.i64.wrap (value + m) = value + m := IntWalk.i64_in _ (by omega)
          have HAV := Lib.hid (hA.out.setV (value + m))
          have HUV := Lib.hid (hu.out.setCell (p := ⟨P, 4, none⟩) (.inl rfl) (.int .i64 (value + m)))
          clear hg hp hI hfo hA hu hvs
          go_wp2
          go_ret
          exact ⟨rfl, by rw [← hF.out]; exact HAV.out, HUV.out⟩
        · have hlb := HHL.out
          have hb := HB.out wr hu.out
          have hvn : v < nodes := by
            have h1 := HN.out.ends (j / 2) (by omega)
            rw [← e1]
            unfold rto
            split <;> omega
          have hok : RoomOk nw ro := hI.out.ok
          have hrl : ro.length = 2 * nw.m := hok.len
          have hq2 := flip_lt e4
          have hne := flip_ne j
          have hxr := flip_xor j (by omega)
          have hmj : m ≤ gi ro j := hI.out.ge j (by simp)
          have hr1 : ∀ i, i < 2 * nw.m → 0 ≤ gi ro i ∧ gi ro i ≤ 200 := fun i hi => by
            have h1 := hok.two (i / 2) (by omega)
            have h2 := (HN.out.cap (i / 2) (by omega)).2
            have h3 := hok.lo hi
            refine ⟨h3, ?_⟩
            rcases Nat.mod_two_eq_zero_or_one i with e | e
            · rw [show 2 * (i / 2) = i by omega] at h1; omega
            · rw [show 2 * (i / 2) + 1 = i by omega] at h1; omega
          have hrj := hr1 j e4
          have hrq := hr1 _ hq2
          have hcs : -1000 ≤ rc nw j ∧ rc nw j ≤ 1000 := by
            have := HN.out.cost (j / 2) (by omega)
            unfold rc
            split <;> omega
          have hpd : 0 ≤ pd ∧ pd ≤ 800000000 := by
            have h1 := paid_bounds HN.out hok
            have h2 : pd = costOf nw (fl ro) := hI.out.paid
            omega
          have hstep := (push_step (by omega) hI.out).1
          have hfo2 : B2.foldl (pushStep nw m) (pushStep nw m (ro, pd) j) = L.foldl (pushStep nw m) (room, paid) := hfo.out
          have hps : pushStep nw m (ro, pd) j = ((ro.set j (gi ro j - m)).set (flip j) (gi ro (flip j) + m), pd + m * rc nw j) := rfl
          rw [hps] at hstep hfo2
          rw [rto_flip nw j |>.symm] at e5
          have HG : Hid (B2.length ≤ gk - 1 ∧ gk - 1 < gk) := Lib.hid (by
            have h1 : B2.length + 1 ≤ gk := hg.out
            omega)
          have hgs : gi (ro.set j (gi ro j - m)) (flip j) = gi ro (flip j) := by rw [gi_set (by omega), if_neg hne]
          obtain ⟨q, hq⟩ : ∃ q, flip j = q := ⟨_, rfl⟩
          rw [hq] at hxr hq2 hne hrq hstep hfo2 hgs e5
          obtain ⟨rm, hrm⟩ : ∃ rm, gi ro j = rm := ⟨_, rfl⟩
          rw [hrm] at hmj hrj hstep hfo2 hgs
          obtain ⟨rq, hrq2⟩ : ∃ rq, gi ro q = rq := ⟨_, rfl⟩
          rw [hrq2] at hrq hstep hfo2 hgs
          obtain ⟨cs, hcs2⟩ : ∃ cs, rc nw j = cs := ⟨_, rfl⟩
          rw [hcs2] at hcs hstep hfo2
          obtain ⟨pn, hpn⟩ : ∃ pn, rto nw q = pn := ⟨_, rfl⟩
          rw [hpn] at e5
          have hmc : -200000 ≤ m * cs ∧ m * cs ≤ 200000 := by
            have h1 : m * cs ≤ m * 1000 := Int.mul_le_mul_of_nonneg_left hcs.2 (by omega)
            have h2 : m * (-1000) ≤ m * cs := Int.mul_le_mul_of_nonneg_left hcs.1 (by omega)
            omega
          have w1 : IntKind.i64.wrap (rm - m) = rm - m := IntWalk.i64_in _ (by omega)
          have w2 : IntKind.i64.wrap (rq + m) = rq + m := IntWalk.i64_in _ (by omega)
          have w3 : IntKind.i64.wrap (m * cs) = m * cs := IntWalk.i64_in _ (by omega)
          have w4 : IntKind.i64.wrap (pd + m * cs) = pd + m * cs := IntWalk.i64_in _ (by omega)
          have HST := Lib.hid hstep
          have HFO := Lib.hid hfo2
          have HP5 := Lib.hid e5
          have b1 : ((v : Int) == (s : Int)) = false := beq_eq_false_iff_ne.2 (by omega)
          obtain ⟨M, hM⟩ : ∃ M, M = 2 * nw.m := ⟨_, rfl⟩
          have jM : j < M := by omega
          have qM : q < M := by omega
          have HMM := Lib.hid hM
          have c0 := hA.out.c0
          rw [← hM] at c0
          have b0 := hb.cell (k := v) (by omega)
          rw [e3] at b0
          have B0 : Hid (∀ V, Upd (fun k => k = P ∨ k = R) w V → V.cell? ⟨B, v, none⟩ = some (.int .i64 (j : Int))) := Lib.hid fun V hV => by
            have h1 := (HB.out V hV).cell (k := v) (by omega)
            rwa [e3] at h1
          have a1 := (hA.out.arcs (by omega)).c1 e4
          rw [hrm] at a1
          have HQ := Lib.hid hq2
          have HRM := Lib.hid hrm
          have HGS := Lib.hid hgs
          have HCS := Lib.hid hcs2
          have HPN := Lib.hid hpn
          clear hM hI hfo hg hp hb hok hstep hfo2 hps hq hrm hrq2 hcs2 hr1 hgs hpn e1 e3 e5 hcs hpd hmc
          go_upto_region 11 with (fail)
          go_still_tail 13, (by kernel_rfl)
          change wpList _ _ _ _ _ wr.drew
          have A1 := Lib.hid hA.out.drew
          have U1 : Hid (Upd (fun k => k = P ∨ k = R) w wr.drew) := Lib.hid (hu.out.drewN 1)
          clear hA hu c0 b0 a1 c2
          generalize wr.drew = wd at A1 U1 ⊢
          have a1 := (A1.out.arcs (by omega)).c1 e4
          have a2 := (A1.out.arcs (by omega)).free (j * 3 + 1)
          rw [HRM.out] at a1
          have A2 := Lib.hid (A1.out.setRoom e4 (rm - m))
          have U2 := Lib.hid (U1.out.setCell (p := ⟨R, j * 3 + 1, none⟩) (.inr rfl) (.int .i64 (rm - m)))
          clear A1 U1
          go_upto_region 12 with (fail)
          generalize wd.setCell ⟨R, j * 3 + 1, none⟩ (.int .i64 (rm - m)) = w5 at A2 U2 ⊢
          have c0 := A2.out.c0
          rw [← HMM.out] at c0
          have b0 := B0.out w5 U2.out
          clear a2
          have a1 := (A2.out.arcs (by omega)).c1 HQ.out
          rw [HGS.out] at a1
          go_still_tail 14, (by kernel_rfl)
          change wpList _ _ _ _ _ w5.drew
          have A3 := Lib.hid A2.out.drew
          have U3 : Hid (Upd (fun k => k = P ∨ k = R) w w5.drew) := Lib.hid (U2.out.drewN 1)
          clear A2 U2 c0 b0 a1
          generalize w5.drew = we at A3 U3 ⊢
          have a1 := (A3.out.arcs (by omega)).c1 HQ.out
          have a2 := (A3.out.arcs (by omega)).free (q * 3 + 1)
          rw [HGS.out] at a1
          have A4 := Lib.hid (A3.out.setRoom HQ.out (rq + m))
          have U4 := Lib.hid (U3.out.setCell (p := ⟨R, q * 3 + 1, none⟩) (.inr rfl) (.int .i64 (rq + m)))
          clear A3 U3
          go_upto_region 13 with (fail)
          generalize we.setCell ⟨R, q * 3 + 1, none⟩ (.int .i64 (rq + m)) = w6 at A4 U4 ⊢
          have c0 := A4.out.c0
          rw [← HMM.out] at c0
          have b0 := B0.out w6 U4.out
          clear a1 a2
          have a1 := (A4.out.arcs (by omega)).c2 e4
          rw [HCS.out] at a1
          have c5 := A4.out.c5
          simp only at c5
          go_still_tail 18, (by kernel_rfl)
          change wpList _ _ _ _ _ w6.drew
          have A5 := Lib.hid A4.out.drew
          have U5 : Hid (Upd (fun k => k = P ∨ k = R) w w6.drew) := Lib.hid (U4.out.drewN 1)
          clear A4 U4 c0 b0 a1 c5
          generalize w6.drew = wf at A5 U5 ⊢
          have c5 := A5.out.c5
          have f5 := A5.out.free 5
          have A6 := Lib.hid (A5.out.setPd (pd + m * cs))
          have U6 := Lib.hid (U5.out.setCell (p := ⟨P, 5, none⟩) (.inl rfl) (.int .i64 (pd + m * cs)))
          clear A5 U5
          go_upto_region 10 with (fail)
          generalize wf.setCell ⟨P, 5, none⟩ (.int .i64 (pd + m * cs)) = w7 at A6 U6 ⊢
          have c0 := A6.out.c0
          rw [← HMM.out] at c0
          have b0 := B0.out w7 U6.out
          have a1 := (A6.out.arcs (by omega)).c0 HQ.out
          rw [HPN.out] at a1
          clear c5 f5
          go_quiet (fail)
          go_wp2
          go_roundg (gk - 1)
          case measure => exact HG.out.2
          case rel => exact ⟨pn, B2, _, rfl, Lib.hid HG.out.1, HP5, HST, HFO, Lib.hid (A6.out.upd ((Upd.refl (fun _ => False) w7).drewN _) (fun _ _ h => h) (fun h => h) (fun _ h => h)), Lib.hid (U6.out.drewN _)⟩
    · have hb := HB.out wr (hu.out.mono fun _ _ h => h.elim)
      have c0 := hA.c0
      have hat := hA.arcs (by omega)
      have hvn : v < nodes := by
        have h1 := HN.out.ends (j / 2) (by omega)
        rw [← e1]
        unfold rto
        split <;> omega
      have b0 := hb.cell (k := v) (by have := HHL.out; omega)
      rw [e3] at b0
      have a1 := hat.c1 e4
      have a0 := hat.c0 (flip_lt e4)
      have b1 : ((v : Int) == (s : Int)) = false := beq_eq_false_iff_ne.2 (by omega)
      obtain ⟨rm, hrm⟩ : ∃ rm, gi room j = rm := ⟨_, rfl⟩
      rw [hrm] at a1
      have hxr := flip_xor j (by omega)
      have hfl := flip_lt e4
      rw [rto_flip] at a0
      obtain ⟨q, hq⟩ : ∃ q, flip j = q := ⟨_, rfl⟩
      rw [hq] at hxr hfl a0
      obtain ⟨p, hp2⟩ : ∃ p, rfr nw j = p := ⟨_, rfl⟩
      rw [hp2] at a0 e5
      have HP5 := Lib.hid e5
      have HMO : Hid (mostL room B2 (if rm < m then rm else m) = most) := Lib.hid (by
        have h1 : mostL room B2 (min m (gi room j)) = most := hmo.out
        rw [hrm] at h1
        rw [← h1]
        congr 1
        split <;> omega)
      have HG : Hid (B2.length ≤ gk - 1 ∧ gk - 1 < gk) := Lib.hid (by
        have h1 : B2.length + 1 ≤ gk := hg.out
        omega)
      clear hat hA hb hp hmo hg e1 e3 e5 hq hp2 hrm
      go_upto_region 7 with (fail)
      go_quiet (fail)
      go_upto_region 6 with (fail)
      generalize (if rm < m then rm else m) = m2 at HMO ⊢
      go_quiet (fail)
      go_wp2
      go_roundg (gk - 1)
      case measure => exact HG.out.2
      case rel => exact ⟨p, B2, _, rfl, rfl, Lib.hid HG.out.1, HP5, HMO, Lib.hid ((hu.out.drewN _).drewN _)⟩
end Go.Proofs.YtppjpledjhinbaaDoor
