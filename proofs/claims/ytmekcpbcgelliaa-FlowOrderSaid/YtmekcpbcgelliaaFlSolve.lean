/- Flows: solve, walked. -/
import Derived.Test.YtmekcpbcgelliaaFlNew3
import Derived.Test.YtmekcpbcgelliaaFlPush
namespace Go.Proofs.Ytmekcpbcgelliaa
open Go.RowKit
/-- The network that solve leaves behind. -/
structure SolveOk (w w' : World) (nodes s t : Nat) (l : List Ar) (costs : Bool) (P : Nat) (value paid : Int) (room : List Int) : Prop where
  net : ∃ F N R av, NetA w' F P N R av nodes s t value paid (nwOf l) (rowsO nodes l l.length) room ∧ (∀ k, F k → w.heap.size ≤ k) ∧ (0 < (nwOf l).m → w.heap.size ≤ R)
  pz : w.heap.size ≤ P
  vb : 0 ≤ value ∧ value ≤ 200
  flow : FlowSt (nwOf l) costs nodes s t room value paid
  done_ : ∃ st, WEnd (nwOf l) costs room s nodes st ∧ ¬ gi st.di t < FAR
  bel : Below w.heap.size w w'
def SolveAns (w : World) (nodes s t : Int) (l : List Ar) (costs : Bool) (e : Ending) (w' : World) : Prop :=
  (GoodN nodes s t l ∧ ∃ (P : Nat) (value paid : Int) (room : List Int), e = .returned (.tuple #[.pointer (some ⟨P, 0, none⟩), .int .i64 0]) ∧ SolveOk w w' nodes.toNat s.toNat t.toNat l costs P value paid room) ∨
    (¬ GoodN nodes s t l ∧ e = .returned (.tuple #[.pointer none, .int .i64 19]) ∧ Below w.heap.size w w')
theorem solve_size (w : World) (nodes s t : Int) (A : Option Addr) (k c : Nat) (costs : Bool) (hs : ¬ ((2 ≤ nodes ∧ nodes ≤ 200) ∧ (0 ≤ s ∧ s < nodes) ∧ (0 ≤ t ∧ t < nodes) ∧ s ≠ t ∧ k ≤ 4000)) :
    Calls Try.prog 20 #[.int .i64 nodes, .int .i64 s, .int .i64 t, .slice A k c, .bool costs] w fun e w' => e = .returned (.tuple #[.pointer none, .int .i64 19]) ∧ w' = w := by
  go_enter Try.func20, Try.ntmps20
  go_wp2_with fail
  refine (newn_size _ nodes s t A k c hs).mono ?_
  rintro e w1 ⟨rfl, rfl⟩
  clear hs
  go_wp2
  go_ret2
  exact ⟨rfl, rfl⟩
set_option maxHeartbeats 8000000 in
set_option maxRecDepth 20000 in
theorem solve_in (w : World) (nodes s t : Nat) (A : Option Addr) (k c : Nat) (costs : Bool) (l : List Ar) (hr : Rd w w.heap.size 4 A k (arv l)) (hn : 2 ≤ nodes ∧ nodes ≤ 200) (hs : s < nodes) (ht : t < nodes) (hst : s ≠ t) (hk : k ≤ 4000) :
    Calls Try.prog 20 #[.int .i64 nodes, .int .i64 s, .int .i64 t, .slice A k c, .bool costs] w (SolveAns w nodes s t l costs) := by
  have HC := Lib.hid (newn_any w nodes s t A k c l hr hn hs ht hst hk)
  clear hr
  go_enter Try.func20, Try.ntmps20
  go_wp2_with fail
  refine HC.out.mono ?_
  rintro e w1 (⟨hg, ⟨vs, av, hB⟩, rfl⟩ | ⟨hbad, rfl, hb⟩)
  · have hok := hg.ok
    obtain ⟨h1, h2, h3, h4, h5, h6, h7⟩ := hg
    have HMEM : Hid (∀ v j, j ∈ nearOf (rowsO nodes l l.length) v ↔ j < 2 * (nwOf l).m ∧ rfr (nwOf l) j = v) := Lib.hid fun v j => mem_rowsO h6 l.length (Nat.le_refl _) v j
    have HLEN : Hid (∀ v, (nearOf (rowsO nodes l l.length) v).length ≤ 1048576) := Lib.hid fun v => by have := rowsO_len_le nodes l l.length v; omega
    have HG : Hid (GoodN nodes s t l) := Lib.hid ⟨h1, h2, h3, h4, h5, h6, h7⟩
    have HOK := Lib.hid hok
    have hF0 := FlowSt.start costs hok
    obtain ⟨R, hA, hFlo, hRlo⟩ := NetB.toA (nw := nwOf l) hB
    have hb1 := hB.bel
    have HFLO := Lib.hid hFlo
    have HRLO := Lib.hid hRlo
    have HA := Lib.hid hA
    have HF0 := Lib.hid hF0
    have HB1 := Lib.hid hb1
    clear h1 h2 h3 h4 h5 h6 h7 hok hB hA hFlo hRlo hb1 hF0 HC
    generalize RowB w.heap.size vs = F at HA HFLO
    obtain ⟨P, hP⟩ : ∃ P, w.heap.size + 1 = P := ⟨_, rfl⟩
    obtain ⟨N, hN⟩ : ∃ N, w.heap.size = N := ⟨_, rfl⟩
    rw [hP] at HA ⊢
    rw [hN] at HA
    have hPz : w.heap.size ≤ P := by omega
    clear hP hN
    obtain ⟨rows, hrows⟩ : ∃ rows, rowsO nodes l l.length = rows := ⟨_, rfl⟩
    rw [hrows] at HA HMEM HLEN
    have HROWS := Lib.hid hrows
    clear hrows
    go_wp2
    go_loopg [] 202 (fun gk wx => ∃ (value paid : Int) (room : List Int), Hid (NetA wx F P N R av nodes s t value paid (nwOf l) rows room) ∧ Hid (FlowSt (nwOf l) costs nodes s t room value paid) ∧ (0 ≤ value ∧ 201 ≤ (gk : Int) + value) ∧ Hid (Below w.heap.size w wx))
    case atStart => exact ⟨0, 0, _, HA, HF0, ⟨by omega, by omega⟩, HB1⟩
    case round =>
      clear HA HF0 HB1
      obtain ⟨value, paid, room, hA, hF, ⟨hv0, hvk⟩, hb⟩ := hrel
      obtain ⟨π, hW⟩ := hF.out.fix HOK.out
      have HCW := Lib.hid (way_any wr F P N R av nodes s t value paid (nwOf l) rows room costs π hA.out hW HMEM.out HOK.out.selfR HLEN.out HOK.out.mm)
      have HW := Lib.hid hW
      clear hW
      go_wp2_with fail
      refine HCW.out.mono ?_
      rintro e w5 ⟨BY, st, rfl, hBz, hIB, hE, hb5⟩
      clear HCW
      have hvb := hF.out.bounds HOK.out
      have hPlt := hA.out.plt
      have hA5 : NetA w5 F P N R av nodes s t value paid (nwOf l) rows room := hA.out.below hb5 hA.out.flt hPlt (fun h => (hA.out.arcs h).lt)
      have hb15 : Below w.heap.size w w5 := hb.out.trans (hb5.mono hb.out.size)
      have HE := Lib.hid hE
      have HA5 := Lib.hid hA5
      have HB15 := Lib.hid hb15
      have HIB := Lib.hid hIB
      have HRW : Hid (0 < (nwOf l).m → R < wr.heap.size) := Lib.hid fun h => (hA.out.arcs h).lt
      clear hE hA5 hb15 hIB hb5 hA hb
      by_cases hm : gi st.di t < FAR
      · obtain ⟨L, hL, hPI, hm1, hm2⟩ := hF.out.ready HOK.out HW.out HE.out hm
        have hsent := hF.out.sent HOK.out HW.out HE.out hL (by omega) hPI
        obtain ⟨j, B2, _, _, _, _, hj, _⟩ := (pth_inv hL).resolve_left (fun h => hst h.1.symm)
        have HCP := Lib.hid (push_yes w5 F P N R BY av nodes s t value paid (mostL room L 200) (nwOf l) rows room st.by_ costs (newPot π st.di) L HA5.out HOK.out HIB.out HE.out.lb ⟨by omega, by have := HRW.out (by omega); omega⟩ hL hPI rfl ⟨hm1, hm2⟩ ⟨by omega, by omega⟩)
        have HS := Lib.hid hsent
        clear hsent hL hPI HIB HE hF
        generalize mostL room L 200 = most at HCP HS hm1 hm2
        go_wp2_with fail
        refine HCP.out.mono ?_
        rintro e w6 ⟨rfl, hA6, hu6⟩
        have hb6 : Below w.heap.size w w6 := HB15.out.trans (hu6.below (fun k hk e => by
          rcases e with e | e
          · omega
          · have := HRLO.out (by omega); omega) HB15.out.size)
        have HA6 := Lib.hid hA6
        have HB6 := Lib.hid hb6
        have HVK : Hid ((0 ≤ value + most ∧ 201 ≤ ((gk - 1 : Nat) : Int) + (value + most)) ∧ gk - 1 < gk) := Lib.hid ⟨⟨by omega, by omega⟩, by omega⟩
        clear hA6 hu6 hb6 HCP HA5 HB15
        go_wp2
        go_roundg (gk - 1)
        case measure => exact HVK.out.2
        case rel => exact ⟨_, _, _, HA6, HS, HVK.out.1, HB6⟩
      · have hneg : gi st.by_ t < 0 := by
          have := HE.out.b0 t ht (fun e => hst e.symm)
          omega
        have HCP := Lib.hid (push_no w5 F P N R BY av nodes s t value paid (nwOf l) rows room st.by_ HA5.out HIB.out HE.out.lb ht hneg)
        have HR : Hid (SolveOk w w5 nodes s t l costs P value paid room) := Lib.hid ⟨⟨F, N, R, av, by rw [HROWS.out]; exact HA5.out, HFLO.out, HRLO.out⟩, hPz, ⟨hv0, hvb⟩, hF.out, ⟨st, HE.out, hm⟩, HB15.out⟩
        clear hneg
        go_wp2_with fail
        refine HCP.out.mono ?_
        rintro e w6 ⟨rfl, rfl⟩
        clear HCP HIB HA5 HB15 HE hF
        go_wp2
        go_ret2
        exact .inl ⟨HG.out, P, value, paid, room, rfl, HR.out⟩
  · have HR : Hid (SolveAns w nodes s t l costs (.returned (.tuple #[.pointer none, .int .i64 19])) w1) := Lib.hid (.inr ⟨hbad, rfl, hb⟩)
    clear hbad hb HC
    go_wp2
    go_ret2
    exact HR.out
theorem solve_any (w : World) (nodes s t : Int) (A : Option Addr) (k c : Nat) (costs : Bool) (l : List Ar) (hr : Rd w w.heap.size 4 A k (arv l)) :
    Calls Try.prog 20 #[.int .i64 nodes, .int .i64 s, .int .i64 t, .slice A k c, .bool costs] w (SolveAns w nodes s t l costs) := by
  by_cases hs : (2 ≤ nodes ∧ nodes ≤ 200) ∧ (0 ≤ s ∧ s < nodes) ∧ (0 ≤ t ∧ t < nodes) ∧ s ≠ t ∧ k ≤ 4000
  · obtain ⟨h1, h2, h3, h4, h5⟩ := hs
    obtain ⟨n, rfl⟩ : ∃ n : Nat, nodes = n := ⟨nodes.toNat, by omega⟩
    obtain ⟨s, rfl⟩ : ∃ n : Nat, s = n := ⟨s.toNat, by omega⟩
    obtain ⟨t, rfl⟩ : ∃ n : Nat, t = n := ⟨t.toNat, by omega⟩
    exact solve_in w n s t A k c costs l hr (by omega) (by omega) (by omega) (by omega) h5
  · refine (solve_size w nodes s t A k c costs hs).mono ?_
    rintro e w' ⟨rfl, rfl⟩
    have hk := rd_arlen hr
    exact .inr ⟨fun hg => hs ⟨hg.1, hg.2.1, hg.2.2.1, hg.2.2.2.1, by have := hg.2.2.2.2.1; omega⟩, rfl, Below.refl _ _⟩
end Go.Proofs.Ytmekcpbcgelliaa
