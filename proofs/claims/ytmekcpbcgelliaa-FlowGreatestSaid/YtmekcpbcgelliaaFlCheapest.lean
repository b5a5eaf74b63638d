/- Flows: FlowCheapest, walked. -/
import Derived.Test.YtmekcpbcgelliaaFlRFlow
import Derived.Test.YtmekcpbcgelliaaFlRound
namespace Go.Proofs.Ytmekcpbcgelliaa
open Go.RowKit
section
variable {N : Nw} {nodes s t : Nat} {f g : Nat → Int}
theorem ex_congr (h : ∀ i, i < N.m → f i = g i) (v : Nat) : ex N f v = ex N g v := sm_congr fun i hi => by rw [h i hi]
theorem costOf_congr (h : ∀ i, i < N.m → f i = g i) : costOf N f = costOf N g := sm_congr fun i hi => by rw [h i hi]
theorem IsFlow.congr (hf : IsFlow N nodes s t f) (h : ∀ i, i < N.m → g i = f i) : IsFlow N nodes s t g :=
  ⟨fun i hi => by rw [h i hi]; exact hf.lo i hi, fun i hi => by rw [h i hi]; exact hf.hi i hi, fun v h1 h2 h3 => by rw [ex_congr h]; exact hf.even v h1 h2 h3⟩
theorem gi_flL {room : List Int} {i : Nat} (hi : i < N.m) : gi (flL N room) i = fl room i := by
  unfold flL
  rw [gi_get (by simpa using hi)]
  simp
end
/-- What FlowCheapest asks of the cheap flow. -/
theorem cheap_facts {n s t : Nat} {l : List Ar} {value cost : Int} {room : List Int} (h : FlowOut n s t l true value cost room) :
    IsFlow (nwOf l) n s t (gi (flL (nwOf l) room)) ∧ - ex (nwOf l) (gi (flL (nwOf l) room)) s = value ∧ costOf (nwOf l) (gi (flL (nwOf l) room)) = cost ∧ RoomOk (nwOf l) room ∧ (∀ i, i < l.length → gi (flL (nwOf l) room) i = fl room i) ∧
      (∃ π, RFeas (nwOf l) true room π ∧ ∀ v, v < n → 0 ≤ π v) ∧ MaxIs (nwOf l) n s t value := by
  have hF := h.flow
  have hm := h.max
  simp only [Int.toNat_natCast] at hF hm
  have hc : ∀ i, i < (nwOf l).m → gi (flL (nwOf l) room) i = fl room i := fun i hi => gi_flL hi
  obtain ⟨π, p1, _, p3⟩ := hF.feas
  exact ⟨hF.isFlow.congr hc, by rw [ex_congr hc]; exact hF.val.symm, by rw [costOf_congr hc]; exact hF.paid.symm, hF.ok, hc, ⟨π, p1, p3⟩, hm⟩
set_option maxHeartbeats 8000000 in
set_option maxRecDepth 20000 in
theorem fcheapest_any (w : World) (N S T : Int) (A : Option Addr) (k c : Nat) (l : List Ar) (hr : Rd w w.heap.size 4 A k (arv l)) :
    Calls Try.prog 6 #[.agg #[.int .i64 N, .int .i64 S, .int .i64 T, .slice A k c]] w fun e w' => e = .returned (.bool true) ∧ Below w.heap.size w w' := by
  obtain rfl := rd_arlen hr
  have HR := Lib.hid hr
  clear hr
  have HG := Lib.hid (NBox.made w N S T A l.length c)
  obtain ⟨k, hk⟩ : ∃ k, l.length = k := ⟨_, rfl⟩
  have HK := Lib.hid hk
  rw [hk] at HR HG ⊢
  clear hk
  go_enter Try.func6, Try.ntmps6
  go_wp2_with fail
  refine (flives_any _).mono ?_
  rintro e w2 ⟨rfl, hb2⟩
  have HG2 := Lib.hid (HG.out.below hb2)
  have c0 := HG2.out.c0
  have c1 := HG2.out.c1
  have c2 := HG2.out.c2
  have c3 := HG2.out.c3
  clear hb2 HG
  go_wp2_with fail
  refine (nright_any w2 N S T A k c l (HG2.out.rd HR.out)).mono ?_
  rintro e w3 ⟨r, rfl, hri, hb3⟩
  have HG3 := Lib.hid (HG2.out.below hb3)
  clear hb3 HG2 c0 c1 c2 c3
  cases r with
  | false =>
    clear hri
    go_wp2_with fail
    refine (flives_any _).mono ?_
    rintro e w4 ⟨rfl, hb4⟩
    have HB := Lib.hid (HG3.out.below hb4).bel
    clear hb4
    go_wp2
    go_ret
    exact ⟨rfl, HB.out⟩
  | true =>
    have hgood := hri.1 rfl
    obtain ⟨n, rfl⟩ : ∃ n : Nat, N = n := ⟨N.toNat, by have := hgood.1; omega⟩
    obtain ⟨s, rfl⟩ : ∃ n : Nat, S = n := ⟨S.toNat, by have := hgood.2.1; omega⟩
    obtain ⟨t, rfl⟩ : ∃ n : Nat, T = n := ⟨T.toNat, by have := hgood.2.2.1; omega⟩
    have HGD := Lib.hid hgood
    have c0 := HG3.out.c0
    have c1 := HG3.out.c1
    have c2 := HG3.out.c2
    have c3 := HG3.out.c3
    clear hri hgood
    go_wp2_with fail
    refine (cheap_any w3 n s t A k c l (HG3.out.rd HR.out)).mono ?_
    rintro e w4 ⟨v4, cost, er, rfl, hb4, (⟨value, room, hfo, rfl, hof⟩ | ⟨h, _⟩)⟩
    rotate_left
    · exact absurd HGD.out h
    rw [HK.out] at hof
    obtain ⟨Af, cf, rfl⟩ := own_shape hof
    obtain ⟨f1, f2, f3, f4, f5, ⟨π, f6, f7⟩, f8⟩ := cheap_facts hfo
    have HF1 := Lib.hid f1
    have HF2 := Lib.hid f2
    have HF3 := Lib.hid f3
    have HF4 := Lib.hid f4
    have HF5 := Lib.hid f5
    have HF6 := Lib.hid f6
    have HF7 := Lib.hid f7
    have HF8 := Lib.hid f8
    have HRF := Lib.hid (Rd.own hof)
    have HG4 := Lib.hid (HG3.out.below hb4)
    have c0 := HG4.out.c0
    have c1 := HG4.out.c1
    have c2 := HG4.out.c2
    have c3 := HG4.out.c3
    clear f1 f2 f3 f4 f5 f6 f7 f8 hfo hof hb4 HG3
    go_wp2_with fail
    refine (value_any w4 n s t A k c l (HG4.out.rd HR.out)).mono ?_
    rintro e w5 ⟨v, er, rfl, hb5, (⟨_, rfl, hmv, hv0, hv1⟩ | ⟨h, _⟩)⟩
    rotate_left
    · exact absurd HGD.out h
    have hok := HGD.out.ok
    simp only [Int.toNat_natCast] at hmv
    obtain rfl : v = value := hmv.uniq hok.ends hok.sn hok.tn hok.st HF8.out
    have HG5 := Lib.hid (HG4.out.below hb5)
    have HRF5 := Lib.hid ((HRF.out.below hb5).mono hb5.size)
    have c0 := HG5.out.c0
    have c1 := HG5.out.c1
    have c2 := HG5.out.c2
    have c3 := HG5.out.c3
    clear hmv hok hb5 HG4 HRF
    go_wp2_with fail
    refine (rflow_any w5 n s t A k c l Af cf _ (HG5.out.rd HR.out) HRF5.out HGD.out HF1.out).mono ?_
    rintro e w6 ⟨rfl, hb6⟩
    rw [HF2.out, HF3.out]
    have HG6 := Lib.hid (HG5.out.below hb6)
    have HRF6 := Lib.hid ((HRF5.out.below hb6).mono hb6.size)
    have c0 := HG6.out.c0
    have c3 := HG6.out.c3
    clear hb6 HG5 HRF5 c1 c2
    go_wp2_with fail
    refine (rround_any w6 n s t A k c l Af cf _ room π (HG6.out.rd HR.out) HRF6.out HGD.out HF4.out (fun i hi => HF5.out i (by rw [HK.out]; exact hi)) HF6.out HF7.out).mono ?_
    rintro e w7 ⟨rfl, hb7⟩
    have HG7 := Lib.hid (HG6.out.below hb7)
    clear hb7 HG6 HRF6 c0 c3
    go_wp2
    go_ret
    exact ⟨rfl, HG7.out.bel⟩
end Go.Proofs.Ytmekcpbcgelliaa
