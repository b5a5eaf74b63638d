/- Flows: Value, Max, Cheap, walked. -/
import Derived.Test.YtmekcpbcgelliaaFlFlows
namespace Go.Proofs.Ytmekcpbcgelliaa
open Go.RowKit
theorem GoodN.ok' {nodes s t : Int} {l : List Ar} (h : GoodN nodes s t l) : NwOk (nwOf l) nodes.toNat s.toNat t.toNat := by
  obtain ⟨h1, h2, h3, h4, h5, h6, h7⟩ := h
  obtain ⟨n, rfl⟩ : ∃ n : Nat, nodes = n := ⟨nodes.toNat, by omega⟩
  obtain ⟨s, rfl⟩ : ∃ n : Nat, s = n := ⟨s.toNat, by omega⟩
  obtain ⟨t, rfl⟩ : ∃ n : Nat, t = n := ⟨t.toNat, by omega⟩
  exact GoodN.ok ⟨h1, h2, h3, h4, h5, h6, h7⟩
def ValueAns (w : World) (nodes s t : Int) (l : List Ar) (e : Ending) (w' : World) : Prop :=
  ∃ v er : Int, e = .returned (.tuple #[.int .i64 v, .int .i64 er]) ∧ Below w.heap.size w w' ∧
    ((GoodN nodes s t l ∧ er = 0 ∧ MaxIs (nwOf l) nodes.toNat s.toNat t.toNat v ∧ 0 ≤ v ∧ v ≤ 200) ∨ (¬ GoodN nodes s t l ∧ er = 19 ∧ v = 0))
set_option maxHeartbeats 4000000 in
theorem value_any (w : World) (nodes s t : Int) (A : Option Addr) (k c : Nat) (l : List Ar) (hr : Rd w w.heap.size 4 A k (arv l)) :
    Calls Try.prog 11 #[.int .i64 nodes, .int .i64 s, .int .i64 t, .slice A k c] w (ValueAns w nodes s t l) := by
  have HC := Lib.hid (solve_any w nodes s t A k c false l hr)
  clear hr
  go_enter Try.func11, Try.ntmps11
  go_wp2_with fail
  refine HC.out.mono ?_
  rintro e w1 (⟨hg, P, value, paid, room, rfl, hS⟩ | ⟨hbad, rfl, hb⟩)
  · obtain ⟨st, hE, hno⟩ := hS.done_
    obtain ⟨_, hmax, _⟩ := hS.flow.done hg.ok' hE hno
    obtain ⟨F, N, R, av, hA, _⟩ := hS.net
    have c4 := hA.c4
    have HR : Hid (ValueAns w nodes s t l (.returned (.tuple #[.int .i64 value, .int .i64 0])) w1) := Lib.hid ⟨value, 0, rfl, hS.bel, .inl ⟨hg, rfl, hmax, hS.vb.1, hS.vb.2⟩⟩
    clear hS hE hno hmax hA hg HC
    go_wp2
    go_ret2
    exact HR.out
  · have HR : Hid (ValueAns w nodes s t l (.returned (.tuple #[.int .i64 0, .int .i64 19])) w1) := Lib.hid ⟨0, 19, rfl, hb, .inr ⟨hbad, rfl, rfl⟩⟩
    clear hbad hb HC
    go_wp2
    go_ret2
    exact HR.out
/-- A flow, and the network's answer to it. -/
structure FlowOut (nodes s t : Int) (l : List Ar) (costs : Bool) (value paid : Int) (room : List Int) : Prop where
  good : GoodN nodes s t l
  flow : FlowSt (nwOf l) costs nodes.toNat s.toNat t.toNat room value paid
  max : MaxIs (nwOf l) nodes.toNat s.toNat t.toNat value
  cheap : costs = true → CheapIs (nwOf l) nodes.toNat s.toNat t.toNat value paid
  vb : 0 ≤ value ∧ value ≤ 200
  pb : 0 ≤ paid ∧ paid ≤ 800000000
def MaxAns (w : World) (nodes s t : Int) (l : List Ar) (e : Ending) (w' : World) : Prop :=
  ∃ (v : Value) (er : Int), e = .returned (.tuple #[v, .int .i64 er]) ∧ Below w.heap.size w w' ∧
    ((∃ value paid room, FlowOut nodes s t l false value paid room ∧ er = 0 ∧ w'.ownsRow w.heap.size 3 1 v l.length ((flL (nwOf l) room).map (Value.int .i64))) ∨ (¬ GoodN nodes s t l ∧ er = 19 ∧ v = .slice none 0 0))
set_option maxHeartbeats 4000000 in
theorem max_any (w : World) (nodes s t : Int) (A : Option Addr) (k c : Nat) (l : List Ar) (hr : Rd w w.heap.size 4 A k (arv l)) :
    Calls Try.prog 18 #[.int .i64 nodes, .int .i64 s, .int .i64 t, .slice A k c] w (MaxAns w nodes s t l) := by
  have HC := Lib.hid (solve_any w nodes s t A k c false l hr)
  clear hr
  go_enter Try.func18, Try.ntmps18
  go_wp2_with fail
  refine HC.out.mono ?_
  rintro e w1 (⟨hg, P, value, paid, room, rfl, hS⟩ | ⟨hbad, rfl, hb⟩)
  · obtain ⟨st, hE, hno⟩ := hS.done_
    obtain ⟨_, hmax, hch⟩ := hS.flow.done hg.ok' hE hno
    obtain ⟨F, N, R, av, hA, _⟩ := hS.net
    have hpb := paid_bounds hg.ok' hS.flow.ok
    rw [← hS.flow.paid] at hpb
    have HO : Hid (FlowOut nodes s t l false value paid room) := Lib.hid ⟨hg, hS.flow, hmax, hch, hS.vb, hpb⟩
    have HC2 := Lib.hid (flows_any w1 F P N R av nodes.toNat s.toNat t.toNat value paid (nwOf l) _ room hA hg.ok'.mm)
    have hb1 := hS.bel
    clear hS hE hno hmax hA hg HC hch hpb
    go_wp2_with fail
    refine HC2.out.mono ?_
    rintro e w2 ⟨v, rfl, ho, hb2⟩
    have HR : Hid (MaxAns w nodes s t l (.returned (.tuple #[v, .int .i64 0])) w2) := Lib.hid ⟨v, 0, rfl, hb1.trans (hb2.mono hb1.size), .inl ⟨value, paid, room, HO.out, rfl, own_mono ho hb1.size⟩⟩
    obtain ⟨A2, c2, rfl⟩ := own_shape ho
    clear ho hb1 hb2 HC2 HO
    go_wp2
    go_ret2
    exact HR.out
  · have HR : Hid (MaxAns w nodes s t l (.returned (.tuple #[.slice none 0 0, .int .i64 19])) w1) := Lib.hid ⟨_, 19, rfl, hb, .inr ⟨hbad, rfl, rfl⟩⟩
    clear hbad hb HC
    go_wp2
    go_ret2
    exact HR.out
def CheapAns (w : World) (nodes s t : Int) (l : List Ar) (e : Ending) (w' : World) : Prop :=
  ∃ (v : Value) (cost er : Int), e = .returned (.tuple #[v, .int .i64 cost, .int .i64 er]) ∧ Below w.heap.size w w' ∧
    ((∃ value room, FlowOut nodes s t l true value cost room ∧ er = 0 ∧ w'.ownsRow w.heap.size 3 1 v l.length ((flL (nwOf l) room).map (Value.int .i64))) ∨ (¬ GoodN nodes s t l ∧ er = 19 ∧ cost = 0 ∧ v = .slice none 0 0))
set_option maxHeartbeats 4000000 in
theorem cheap_any (w : World) (nodes s t : Int) (A : Option Addr) (k c : Nat) (l : List Ar) (hr : Rd w w.heap.size 4 A k (arv l)) :
    Calls Try.prog 14 #[.int .i64 nodes, .int .i64 s, .int .i64 t, .slice A k c] w (CheapAns w nodes s t l) := by
  have HC := Lib.hid (solve_any w nodes s t A k c true l hr)
  clear hr
  go_enter Try.func14, Try.ntmps14
  go_wp2_with fail
  refine HC.out.mono ?_
  rintro e w1 (⟨hg, P, value, paid, room, rfl, hS⟩ | ⟨hbad, rfl, hb⟩)
  · obtain ⟨st, hE, hno⟩ := hS.done_
    obtain ⟨_, hmax, hch⟩ := hS.flow.done hg.ok' hE hno
    obtain ⟨F, N, R, av, hA, _⟩ := hS.net
    have hpb := paid_bounds hg.ok' hS.flow.ok
    rw [← hS.flow.paid] at hpb
    have hplt := hA.plt
    have HO : Hid (FlowOut nodes s t l true value paid room) := Lib.hid ⟨hg, hS.flow, hmax, hch, hS.vb, hpb⟩
    have HC2 := Lib.hid (flows_any w1.drew F P N R av nodes.toNat s.toNat t.toNat value paid (nwOf l) _ room hA.drew hg.ok'.mm)
    have hb1 := hS.bel
    have k0 : w1.drew.cell? ⟨P, 5, none⟩ = some (.int .i64 paid) := hA.c5
    clear hS hE hno hmax hg HC hch hpb hA
    go_upto_region 4 with (fail)
    go_region_held3 (fun V => V.cell? ⟨P, 5, none⟩ = some (.int .i64 paid)) (first | assumption | fail)
      (first
        | (go_at_call 23; refine HC2.out.mono ?_; rintro e w2 ⟨v, rfl, ho, hb2⟩; have k2 : w2.cell? ⟨P, 5, none⟩ = some (.int .i64 paid) := (hb2.cell (p := ⟨P, 5, none⟩) hplt).trans k0; obtain ⟨A2, c2, rfl⟩ := own_shape ho)
        | fail)
    have HR : Hid (CheapAns w nodes s t l (.returned (.tuple #[.slice A2 l.length c2, .int .i64 paid, .int .i64 0])) w2) := Lib.hid ⟨_, paid, 0, rfl, (hb1.trans (((Upd.refl (fun _ => False) w1).drewN 1).below (fun _ _ h => h) hb1.size)).trans (hb2.mono hb1.size), .inl ⟨value, room, HO.out, rfl, own_mono ho hb1.size⟩⟩
    clear ho hb1 hb2 HC2 HO k0 k2
    go_wp2
    go_ret3
    exact HR.out
  · have HR : Hid (CheapAns w nodes s t l (.returned (.tuple #[.slice none 0 0, .int .i64 0, .int .i64 19])) w1) := Lib.hid ⟨_, 0, 19, rfl, hb, .inr ⟨hbad, rfl, rfl, rfl⟩⟩
    clear hbad hb HC
    go_wp2
    go_ret3
    exact HR.out
end Go.Proofs.Ytmekcpbcgelliaa
