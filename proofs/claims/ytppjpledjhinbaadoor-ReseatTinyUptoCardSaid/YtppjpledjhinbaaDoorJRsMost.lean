/- Flows: solve, walked. -/
import Derived.Test.YtppjpledjhinbaaDoorJFlNew3
import Derived.Test.YtppjpledjhinbaaDoorJFlPush
import Derived.Test.YtppjpledjhinbaaDoorJRsArcs
import Derived.Test.YtppjpledjhinbaaDoorJGtP
import Derived.Test.YtppjpledjhinbaaDoorJRsBd
import Derived.OwnWalk
namespace Go.Proofs.YtppjpledjhinbaaDoor
open Go.RowKit
/-- The network that solve leaves behind. -/
structure SolveOk (w w' : World) (nodes s t : Nat) (l : List Ar) (costs : Bool) (P : Nat) (value paid : Int) (room : List Int) : Prop where
  net : ∃ F N R av, NetA w' F P N R av nodes s t value paid (nwOf l) (rowsO nodes l l.length) room ∧ (∀ k, F k → w.heap.size ≤ k) ∧ (0 < (nwOf l).m → w.heap.size ≤ R)
  pz : w.heap.size ≤ P
  vb : 0 ≤ value ∧ value ≤ 200
  flow : FlowSt (nwOf l) costs nodes s t room value paid
  done_ : ∃ st, WEnd (nwOf l) costs room s nodes st ∧ ¬ gi st.di t < FAR
  bel : Below w.heap.size w w'
def SolveAns (w : World) (nodes s t : Int) (l : List Ar) (costs : Bool) (e : Ending) (w' : World) : Prop :=
  (GoodN nodes s t l ∧ ∃ (P : Nat) (value paid : Int) (room : List Int), e = .returned (.tuple #[.pointer (some ⟨P, 0, none⟩), .int .i64 0]) ∧ SolveOk w w' nodes.toNat s.toNat t.toNat l costs P value paid room) ∨
    (¬ GoodN nodes s t l ∧ e = .returned (.tuple #[.pointer none, .int .i64 19]) ∧ Below w.heap.size w w')
theorem solve_size (w : World) (nodes s t : Int) (A : Option Addr) (k c : Nat) (costs : Bool) (hs : ¬ ((2 ≤ nodes ∧ nodes ≤ 200) ∧ (0 ≤ s ∧ s < nodes) ∧ (0 ≤ t ∧ t < nodes) ∧ s ≠ t ∧ k ≤ 4000)) :
    Calls Tryd.prog 69 #[.int .i64 nodes, .int .i64 s, .int .i64 t, .slice A k c, .bool costs] w fun e w' => e = .returned (.tuple #[.pointer none, .int .i64 19]) ∧ w' = w := by
  go_enter Tryd.func69, Tryd.ntmps69
  go_wp2_with fail
  refine (newn_size _ nodes s t A k c hs).mono ?_
  rintro e w1 ⟨rfl, rfl⟩
  clear hs
  go_wp2
  go_ret2
  exact ⟨rfl, rfl⟩
set_option maxHeartbeats 8000000 in
set_option maxRecDepth 20000 in
theorem solve_in (w : World) (nodes s t : Nat) (A : Option Addr) (k c : Nat) (costs : Bool) (l : List Ar) (hr : Rd w w.heap.size 4 A k (arv l)) (hn : 2 ≤ nodes ∧ nodes ≤ 200) (hs : s < nodes) (ht : t < nodes) (hst : s ≠ t) (hk : k ≤ 4000) :
    Calls Tryd.prog 69 #[.int .i64 nodes, .int .i64 s, .int .i64 t, .slice A k c, .bool costs] w (SolveAns w nodes s t l costs) := by
  have HC := Lib.hid (newn_any w nodes s t A k c l hr hn hs ht hst hk)
  clear hr
  go_enter Tryd.func69, Tryd.ntmps69
  go_wp2_with fail
  refine HC.out.mono ?_
  rintro e w1 (⟨hg, ⟨vs, av, hB⟩, rfl⟩ | ⟨hbad, rfl, hb⟩)
  · have hok := hg.ok
    obtain ⟨h1, h2, h3, h4, h5, h6, h7⟩ := hg
    have HMEM : Hid (∀ v j, j ∈ nearOf (rowsO nodes l l.length) v ↔ j < 2 * (nwOf l).m ∧ rfr (nwOf l) j = v) := Lib.hid fun v j => mem_rowsO h6 l.length (Nat.le_refl _) v j
    have HLEN : Hid (∀ v, (nearOf (rowsO nodes l l.length) v).length ≤ 1048576) := Lib.hid fun v => by have := rowsO_len_le nodes l l.length v; omega
    have HG : Hid (GoodN nodes s t l) := Lib.hid ⟨h1, h2, h3, h4, h5, h6, h7⟩
    have HOK := Lib.hid hok
    have hF0 := FlowSt.start costs hok
    obtain ⟨R, hA, hFlo, hRlo⟩ := NetB.toA (nw := nwOf l) hB
    have hb1 := hB.bel
    have HFLO := Lib.hid hFlo
    have HRLO := Lib.hid hRlo
    have HA := Lib.hid hA
    have HF0 := Lib.hid hF0
    have HB1 := Lib.hid hb1
    clear h1 h2 h3 h4 h5 h6 h7 hok hB hA hFlo hRlo hb1 hF0 HC
    generalize RowB w.heap.size vs = F at HA HFLO
    obtain ⟨P, hP⟩ : ∃ P, w.heap.size + 1 = P := ⟨_, rfl⟩
    obtain ⟨N, hN⟩ : ∃ N, w.heap.size = N := ⟨_, rfl⟩
    rw [hP] at HA ⊢
    rw [hN] at HA
    have hPz : w.heap.size ≤ P := by omega
    clear hP hN
    obtain ⟨rows, hrows⟩ : ∃ rows, rowsO nodes l l.length = rows := ⟨_, rfl⟩
    rw [hrows] at HA HMEM HLEN
    have HROWS := Lib.hid hrows
    clear hrows
    go_wp2
    go_loopg [] 202 (fun gk wx => ∃ (value paid : Int) (room : List Int), Hid (NetA wx F P N R av nodes s t value paid (nwOf l) rows room) ∧ Hid (FlowSt (nwOf l) costs nodes s t room value paid) ∧ (0 ≤ value ∧ 201 ≤ (gk : Int) + value) ∧ Hid (Below w.heap.size w wx))
    case atStart => exact ⟨0, 0, _, HA, HF0, ⟨by omega, by omega⟩, HB1⟩
    case round =>
      clear HA HF0 HB1
      obtain ⟨value, paid, room, hA, hF, ⟨hv0, hvk⟩, hb⟩ := hrel
      obtain ⟨π, hW⟩ := hF.out.fix HOK.out
      have HCW := Lib.hid (way_any wr F P N R av nodes s t value paid (nwOf l) rows room costs π hA.out hW HMEM.out HOK.out.selfR HLEN.out HOK.out.mm)
      have HW := Lib.hid hW
      clear hW
      go_wp2_with fail
      refine HCW.out.mono ?_
      rintro e w5 ⟨BY, st, rfl, hBz, hIB, hE, hb5⟩
      clear HCW
      have hvb := hF.out.bounds HOK.out
      have hPlt := hA.out.plt
      have hA5 : NetA w5 F P N R av nodes s t value paid (nwOf l) rows room := hA.out.below hb5 hA.out.flt hPlt (fun h => (hA.out.arcs h).lt)
      have hb15 : Below w.heap.size w w5 := hb.out.trans (hb5.mono hb.out.size)
      have HE := Lib.hid hE
      have HA5 := Lib.hid hA5
      have HB15 := Lib.hid hb15
      have HIB := Lib.hid hIB
      have HRW : Hid (0 < (nwOf l).m → R < wr.heap.size) := Lib.hid fun h => (hA.out.arcs h).lt
      clear hE hA5 hb15 hIB hb5 hA hb
      by_cases hm : gi st.di t < FAR
      · obtain ⟨L, hL, hPI, hm1, hm2⟩ := hF.out.ready HOK.out HW.out HE.out hm
        have hsent := hF.out.sent HOK.out HW.out HE.out hL (by omega) hPI
        obtain ⟨j, B2, _, _, _, _, hj, _⟩ := (pth_inv hL).resolve_left (fun h => hst h.1.symm)
        have HCP := Lib.hid (push_yes w5 F P N R BY av nodes s t value paid (mostL room L 200) (nwOf l) rows room st.by_ costs (newPot π st.di) L HA5.out HOK.out HIB.out HE.out.lb ⟨by omega, by have := HRW.out (by omega); omega⟩ hL hPI rfl ⟨hm1, hm2⟩ ⟨by omega, by omega⟩)
        have HS := Lib.hid hsent
        clear hsent hL hPI HIB HE hF
        generalize mostL room L 200 = most at HCP HS hm1 hm2
        go_wp2_with fail
        refine HCP.out.mono ?_
        rintro e w6 ⟨rfl, hA6, hu6⟩
        have hb6 : Below w.heap.size w w6 := HB15.out.trans (hu6.below (fun k hk e => by
          rcases e with e | e
          · omega
          · have := HRLO.out (by omega); omega) HB15.out.size)
        have HA6 := Lib.hid hA6
        have HB6 := Lib.hid hb6
        have HVK : Hid ((0 ≤ value + most ∧ 201 ≤ ((gk - 1 : Nat) : Int) + (value + most)) ∧ gk - 1 < gk) := Lib.hid ⟨⟨by omega, by omega⟩, by omega⟩
        clear hA6 hu6 hb6 HCP HA5 HB15
        go_wp2
        go_roundg (gk - 1)
        case measure => exact HVK.out.2
        case rel => exact ⟨_, _, _, HA6, HS, HVK.out.1, HB6⟩
      · have hneg : gi st.by_ t < 0 := by
          have := HE.out.b0 t ht (fun e => hst e.symm)
          omega
        have HCP := Lib.hid (push_no w5 F P N R BY av nodes s t value paid (nwOf l) rows room st.by_ HA5.out HIB.out HE.out.lb ht hneg)
        have HR : Hid (SolveOk w w5 nodes s t l costs P value paid room) := Lib.hid ⟨⟨F, N, R, av, by rw [HROWS.out]; exact HA5.out, HFLO.out, HRLO.out⟩, hPz, ⟨hv0, hvb⟩, hF.out, ⟨st, HE.out, hm⟩, HB15.out⟩
        clear hneg
        go_wp2_with fail
        refine HCP.out.mono ?_
        rintro e w6 ⟨rfl, rfl⟩
        clear HCP HIB HA5 HB15 HE hF
        go_wp2
        go_ret2
        exact .inl ⟨HG.out, P, value, paid, room, rfl, HR.out⟩
  · have HR : Hid (SolveAns w nodes s t l costs (.returned (.tuple #[.pointer none, .int .i64 19])) w1) := Lib.hid (.inr ⟨hbad, rfl, hb⟩)
    clear hbad hb HC
    go_wp2
    go_ret2
    exact HR.out
theorem solve_any (w : World) (nodes s t : Int) (A : Option Addr) (k c : Nat) (costs : Bool) (l : List Ar) (hr : Rd w w.heap.size 4 A k (arv l)) :
    Calls Tryd.prog 69 #[.int .i64 nodes, .int .i64 s, .int .i64 t, .slice A k c, .bool costs] w (SolveAns w nodes s t l costs) := by
  by_cases hs : (2 ≤ nodes ∧ nodes ≤ 200) ∧ (0 ≤ s ∧ s < nodes) ∧ (0 ≤ t ∧ t < nodes) ∧ s ≠ t ∧ k ≤ 4000
  · obtain ⟨h1, h2, h3, h4, h5⟩ := hs
    obtain ⟨n, rfl⟩ : ∃ n : Nat, nodes = n := ⟨nodes.toNat, by omega⟩
    obtain ⟨s, rfl⟩ : ∃ n : Nat, s = n := ⟨s.toNat, by omega⟩
    obtain ⟨t, rfl⟩ : ∃ n : Nat, t = n := ⟨t.toNat, by omega⟩
    exact solve_in w n s t A k c costs l hr (by omega) (by omega) (by omega) (by omega) h5
  · refine (solve_size w nodes s t A k c costs hs).mono ?_
    rintro e w' ⟨rfl, rfl⟩
    have hk := rd_arlen hr
    exact .inr ⟨fun hg => hs ⟨hg.1, hg.2.1, hg.2.2.1, hg.2.2.2.1, by have := hg.2.2.2.2.1; omega⟩, rfl, Below.refl _ _⟩
end Go.Proofs.YtppjpledjhinbaaDoor
/- Flows: flows, walked. -/
namespace Go.Proofs.YtppjpledjhinbaaDoor
open Go.RowKit
/-- 'make([]int, 0, n)'. -/
theorem mkcap (w : World) (n : Nat) (hn : n ≤ 1048576) : (Instr.makeSlice 61 (.int .i64 0) (.int .i64 n)).run Tryd.prog w = .ok (.slice (some ⟨w.heap.size, 0, none⟩) 0 n) (w.alloc (.cells (Array.replicate n (Value.int .i64 0)) 3)) := by
  obtain ⟨i0, hi0, hz0, hz1, hz2⟩ := info_parts int_info
  have h := run_makeSlice (P := Tryd.prog) w 61 3 i0 (.int .i64 0) Tryd.underlying61 hi0 hz0 .i64 .i64 0 n (by omega) (by omega) (by rw [hz1]; omega) (by rw [hz2]; omega) (by omega)
  rw [hz1, Int.toNat_natCast, Nat.mul_one] at h
  have e : (madeCells (Value.int IntKind.i64 0).cells n).toList = _ := toList_madeCells_one _ n
  have e2 : madeCells (Value.int IntKind.i64 0).cells n = Array.replicate n (Value.int .i64 0) := Array.ext' (by rw [e]; simp)
  rw [h, e2]
  rfl
theorem made_own (w : World) (n : Nat) (hn : n ≤ 1048576) : (w.alloc (.cells (Array.replicate n (Value.int .i64 0)) 3)).ownsRow w.heap.size 3 1 (.slice (some ⟨w.heap.size, 0, none⟩) 0 n) 0 [] :=
  ⟨rfl, .inr ⟨w.heap.size, n, _, rfl, Nat.le_refl _, heap_alloc_new w _, Nat.zero_le _, by unfold maxLen; omega, by simp, by simp⟩⟩
/-- What the arcs carry. -/
def flL (N : Nw) (room : List Int) : List Int := (List.range N.m).map (fl room)
def flTo (room : List Int) (k : Nat) : List Int := (List.range k).map (fl room)
theorem flTo_succ (room : List Int) (k : Nat) : flTo room (k + 1) = flTo room k ++ [fl room k] := by simp [flTo, List.range_succ]
theorem flTo_len (room : List Int) (k : Nat) : (flTo room k).length = k := by simp [flTo]
set_option maxHeartbeats 4000000 in
set_option maxRecDepth 20000 in
theorem flows_any (w : World) (F : Nat → Prop) (P N R : Nat) (av : Value) (nodes s t : Nat) (value paid : Int) (nw : Nw) (rows : List (List Nat)) (room : List Int) (hA : NetA w F P N R av nodes s t value paid nw rows room) (hm : nw.m ≤ 4000) :
    Calls Tryd.prog 70 #[.pointer (some ⟨P, 0, none⟩)] w fun e w' => ∃ v, e = .returned v ∧ w'.ownsRow w.heap.size 3 1 v nw.m ((flL nw room).map (Value.int .i64)) ∧ Below w.heap.size w w' := by
  obtain ⟨A, c, rfl⟩ : ∃ A c, av = .slice A (2 * nw.m) c := by
    rcases hA.shp with ⟨h0, c, h⟩ | ⟨c, h⟩
    · exact ⟨none, c, by rw [h, h0]⟩
    · exact ⟨_, c, h⟩
  obtain ⟨m, hmm⟩ : ∃ m, m = nw.m := ⟨_, rfl⟩
  have c0 := hA.c0
  have hmk := mkcap w m (by omega)
  have hown := made_own w m (by omega)
  have hplt := hA.plt
  have HA := Lib.hid hA
  have HM := Lib.hid hmm
  obtain ⟨M, hM⟩ : ∃ M, M = 2 * m := ⟨_, rfl⟩
  rw [← hmm, ← hM] at c0
  have HMM := Lib.hid hM
  have hdv : ((M : Int) / 2) = (m : Int) := by omega
  have hMl : M ≤ 8000 := by omega
  clear hA hmm hM
  go_enter Tryd.func70, Tryd.ntmps70
  obtain ⟨i0, hi0, hz0, hz1, hz2⟩ := info_parts int_info
  have hb0 : Below w.heap.size w (w.alloc (.cells (Array.replicate m (Value.int .i64 0)) 3)) := (Below.refl w.heap.size w).alloc (Nat.le_refl _) _
  have HOWN := Lib.hid hown
  have HB0 := Lib.hid hb0
  clear hown hb0
  go_wp2
  go_loopw [3, 4] (fun v i wx => ∃ k : Nat, k ≤ m ∧ i = .int .i64 ((2 * k + 1 : Nat) : Int) ∧ Hid (wx.ownsRow w.heap.size 3 1 v k ((flTo room k).map (Value.int .i64))) ∧ Hid (Below w.heap.size w wx)) (fun _ i _ => 2 * m + 1 - (intOf i).toNat)
  case atStart => exact ⟨0, Nat.zero_le _, rfl, HOWN, HB0⟩
  case round =>
    clear HOWN HB0 c0 hmk
    obtain ⟨k, hk, rfl, ho, hb⟩ := hrel
    have hA := HA.out.below hb.out (fun j hj => HA.out.flt j hj) hplt (fun h => (HA.out.arcs h).lt)
    have c0 := hA.c0
    rw [← HM.out, ← HMM.out] at c0
    by_cases hlt : k < m
    · obtain ⟨ca, hca⟩ := HA.out.some (by rw [← HM.out]; omega)
      injection hca with hca1 _ hca3
      subst hca1
      subst hca3
      have hM2 := HMM.out
      have hM3 := HM.out
      have a1 := (hA.arcs (by omega)).c1 (j := 2 * k + 1) (by omega)
      have e0 : gi room (2 * k + 1) = fl room k := rfl
      rw [e0] at a1
      have hl1 : 2 * k + 1 < M := by omega
      have hwz : IntKind.i64.wrap (((2 * k + 1 : Nat) : Int) + 2) = ((2 * (k + 1) + 1 : Nat) : Int) := by
        rw [IntWalk.i64_in _ (by omega)]; omega
      have hou := ho.out
      have hz := hb.out.size
      have HFS := Lib.hid (flTo_succ room k)
      clear hA ho e0 hM2 hM3
      generalize fl room k = y at a1 HFS
      obtain ⟨i, hi⟩ : ∃ i, 2 * k + 1 = i := ⟨_, rfl⟩
      have HI := Lib.hid hi
      rw [hi] at a1 hl1 hwz
      rw [hi]
      clear hi
      go_wp2_with (at_builtin; refine wpList_push rfl (.tmp 21) (.tmp 30) 61 rfl w.heap.size 3 i0 (.int .i64 0) 1 8 Tryd.underlying61 hi0 hz0 hz1 hz2 rfl (by decide) _ k _ #[.int .i64 y] rfl (by exact hou) rfl rfl (by simp [Value.oneCell']) ?c1 ?c2 ?c3 ?_)
      case c1 => omega
      case c2 => unfold maxLen; omega
      intro v1 w1 ho1 hu1 hr1
      have HO1 : Hid (w1.ownsRow w.heap.size 3 1 v1 (k + 1) ((flTo room (k + 1)).map (Value.int .i64))) := Lib.hid (by
        rw [HFS.out, List.map_append]
        exact ho1)
      have HB1 := Lib.hid (below_row hb.out hz hou (Nat.le_refl _) hu1)
      clear ho1 hu1 hr1 hou hb a1
      go_wp2
      go_roundw
      case rel => exact ⟨k + 1, by omega, rfl, HO1, HB1⟩
      case measure =>
        have := HI.out
        simp only [intOf]
        omega
    · obtain rfl : k = m := by omega
      have hfin := ho.out
      have hM2 := HMM.out
      have HR : Hid (wr.ownsRow w.heap.size 3 1 u3 nw.m ((flL nw room).map (Value.int .i64))) := Lib.hid (by
        unfold flL
        rw [← HM.out]
        exact hfin)
      clear hA ho hfin
      go_wp2
      go_ret
      exact ⟨_, rfl, HR.out, hb.out⟩
end Go.Proofs.YtppjpledjhinbaaDoor
/- Flows: Value, Max, Cheap, walked. -/
namespace Go.Proofs.YtppjpledjhinbaaDoor
open Go.RowKit
theorem GoodN.ok' {nodes s t : Int} {l : List Ar} (h : GoodN nodes s t l) : NwOk (nwOf l) nodes.toNat s.toNat t.toNat := by
  obtain ⟨h1, h2, h3, h4, h5, h6, h7⟩ := h
  obtain ⟨n, rfl⟩ : ∃ n : Nat, nodes = n := ⟨nodes.toNat, by omega⟩
  obtain ⟨s, rfl⟩ : ∃ n : Nat, s = n := ⟨s.toNat, by omega⟩
  obtain ⟨t, rfl⟩ : ∃ n : Nat, t = n := ⟨t.toNat, by omega⟩
  exact GoodN.ok ⟨h1, h2, h3, h4, h5, h6, h7⟩
def ValueAns (w : World) (nodes s t : Int) (l : List Ar) (e : Ending) (w' : World) : Prop :=
  ∃ v er : Int, e = .returned (.tuple #[.int .i64 v, .int .i64 er]) ∧ Below w.heap.size w w' ∧
    ((GoodN nodes s t l ∧ er = 0 ∧ MaxIs (nwOf l) nodes.toNat s.toNat t.toNat v ∧ 0 ≤ v ∧ v ≤ 200) ∨ (¬ GoodN nodes s t l ∧ er = 19 ∧ v = 0))
/-- A flow, and the network's answer to it. -/
structure FlowOut (nodes s t : Int) (l : List Ar) (costs : Bool) (value paid : Int) (room : List Int) : Prop where
  good : GoodN nodes s t l
  flow : FlowSt (nwOf l) costs nodes.toNat s.toNat t.toNat room value paid
  max : MaxIs (nwOf l) nodes.toNat s.toNat t.toNat value
  cheap : costs = true → CheapIs (nwOf l) nodes.toNat s.toNat t.toNat value paid
  vb : 0 ≤ value ∧ value ≤ 200
  pb : 0 ≤ paid ∧ paid ≤ 800000000
def MaxAns (w : World) (nodes s t : Int) (l : List Ar) (e : Ending) (w' : World) : Prop :=
  ∃ (v : Value) (er : Int), e = .returned (.tuple #[v, .int .i64 er]) ∧ Below w.heap.size w w' ∧
    ((∃ value paid room, FlowOut nodes s t l false value paid room ∧ er = 0 ∧ w'.ownsRow w.heap.size 3 1 v l.length ((flL (nwOf l) room).map (Value.int .i64))) ∨ (¬ GoodN nodes s t l ∧ er = 19 ∧ v = .slice none 0 0))
def CheapAns (w : World) (nodes s t : Int) (l : List Ar) (e : Ending) (w' : World) : Prop :=
  ∃ (v : Value) (cost er : Int), e = .returned (.tuple #[v, .int .i64 cost, .int .i64 er]) ∧ Below w.heap.size w w' ∧
    ((∃ value room, FlowOut nodes s t l true value cost room ∧ er = 0 ∧ w'.ownsRow w.heap.size 3 1 v l.length ((flL (nwOf l) room).map (Value.int .i64))) ∨ (¬ GoodN nodes s t l ∧ er = 19 ∧ cost = 0 ∧ v = .slice none 0 0))
set_option maxHeartbeats 4000000 in
theorem cheap_any (w : World) (nodes s t : Int) (A : Option Addr) (k c : Nat) (l : List Ar) (hr : Rd w w.heap.size 4 A k (arv l)) :
    Calls Tryd.prog 53 #[.int .i64 nodes, .int .i64 s, .int .i64 t, .slice A k c] w (CheapAns w nodes s t l) := by
  have HC := Lib.hid (solve_any w nodes s t A k c true l hr)
  clear hr
  go_enter Tryd.func53, Tryd.ntmps53
  go_wp2_with fail
  refine HC.out.mono ?_
  rintro e w1 (⟨hg, P, value, paid, room, rfl, hS⟩ | ⟨hbad, rfl, hb⟩)
  · obtain ⟨st, hE, hno⟩ := hS.done_
    obtain ⟨_, hmax, hch⟩ := hS.flow.done hg.ok' hE hno
    obtain ⟨F, N, R, av, hA, _⟩ := hS.net
    have hpb := paid_bounds hg.ok' hS.flow.ok
    rw [← hS.flow.paid] at hpb
    have hplt := hA.plt
    have HO : Hid (FlowOut nodes s t l true value paid room) := Lib.hid ⟨hg, hS.flow, hmax, hch, hS.vb, hpb⟩
    have HC2 := Lib.hid (flows_any w1.drew F P N R av nodes.toNat s.toNat t.toNat value paid (nwOf l) _ room hA.drew hg.ok'.mm)
    have hb1 := hS.bel
    have k0 : w1.drew.cell? ⟨P, 5, none⟩ = some (.int .i64 paid) := hA.c5
    clear hS hE hno hmax hg HC hch hpb hA
    go_upto_region 4 with (fail)
    go_region_held3 (fun V => V.cell? ⟨P, 5, none⟩ = some (.int .i64 paid)) (first | assumption | fail)
      (first
        | (go_at_call 70; refine HC2.out.mono ?_; rintro e w2 ⟨v, rfl, ho, hb2⟩; have k2 : w2.cell? ⟨P, 5, none⟩ = some (.int .i64 paid) := (hb2.cell (p := ⟨P, 5, none⟩) hplt).trans k0; obtain ⟨A2, c2, rfl⟩ := own_shape ho)
        | fail)
    have HR : Hid (CheapAns w nodes s t l (.returned (.tuple #[.slice A2 l.length c2, .int .i64 paid, .int .i64 0])) w2) := Lib.hid ⟨_, paid, 0, rfl, (hb1.trans (((Upd.refl (fun _ => False) w1).drewN 1).below (fun _ _ h => h) hb1.size)).trans (hb2.mono hb1.size), .inl ⟨value, room, HO.out, rfl, own_mono ho hb1.size⟩⟩
    clear ho hb1 hb2 HC2 HO k0 k2
    go_wp2
    go_ret3
    exact HR.out
  · have HR : Hid (CheapAns w nodes s t l (.returned (.tuple #[.slice none 0 0, .int .i64 0, .int .i64 19])) w1) := Lib.hid ⟨_, 0, 19, rfl, hb, .inr ⟨hbad, rfl, rfl, rfl⟩⟩
    clear hbad hb HC
    go_wp2
    go_ret3
    exact HR.out
end Go.Proofs.YtppjpledjhinbaaDoor
/- Seekers: what a cheapest seating costs, walked. -/
namespace Go.Proofs.YtppjpledjhinbaaDoor
open Go.RowKit Go.Lib
theorem arcs_good (K : Nat → Skr) (caps : Nat → Nat) (n m : Nat) (hn : n ≤ 20) (hm : m ≤ 66) (hc : ∀ b, caps b ≤ 200) : GoodN (2 + (n : Int) + 2 * (m : Int)) 0 1 (arcsA K caps n m) := by
  refine ⟨by omega, by omega, by omega, by decide, ?_, fun a ha => ?_, ?_⟩
  · unfold arcsA
    rw [List.length_append]
    have h1 := seek_len K n m n
    have h2 := blkA_len caps n m m
    have h3 : n * (2 + m) ≤ 20 * 68 := Nat.mul_le_mul hn (by omega)
    omega
  · rcases arcs_cases ha with ⟨i, hi, rfl⟩ | ⟨i, hi, rfl⟩ | ⟨i, b, hi, hb, _, rfl⟩ | ⟨b, hb, rfl⟩ | ⟨b, hb, rfl⟩
    · unfold okA arc1; simp only; omega
    · have := (K i).price_pos
      unfold okA arc2; simp only; omega
    · have := (K i).toll_le b
      unfold okA arc3; simp only
      split <;> omega
    · have := hc b
      unfold okA arc4; simp only; omega
    · unfold okA arc5; simp only; omega
  · have e : outTo (arcsA K caps n m) (0 : Int).toNat (arcsA K caps n m).length = sumL (fun a => if a.1.toNat = 0 then a.2.2.1 else 0) (arcsA K caps n m) := by
      rw [← sm_list]
      rfl
    rw [e, sum_arcs]
    have h1 : ∀ i, i < n → ((if (arc1 i).1.toNat = 0 then (arc1 i).2.2.1 else 0) + (if (arc2 (K i) i).1.toNat = 0 then (arc2 (K i) i).2.2.1 else 0) + sm m fun b => if (K i).may b = true then (if (arc3 (K i) n m i b).1.toNat = 0 then (arc3 (K i) n m i b).2.2.1 else 0) else 0) = 1 := fun i _ => by
      have e0 : (sm m fun b => if (K i).may b = true then (if (arc3 (K i) n m i b).1.toNat = 0 then (arc3 (K i) n m i b).2.2.1 else 0) else 0) = 0 := sm_pick0 fun b _ => by
        have : ¬ (2 + (i : Int)).toNat = 0 := by omega
        simp only [arc3, this, if_false]
        split <;> rfl
      rw [e0]
      have : ¬ (2 + (i : Int)).toNat = 0 := by omega
      simp only [arc1, arc2, this, if_false]
      rfl
    have h2 : (sm m fun b => (if (arc4 caps n b).1.toNat = 0 then (arc4 caps n b).2.2.1 else 0) + (if (arc5 n m b).1.toNat = 0 then (arc5 n m b).2.2.1 else 0)) = 0 := sm_pick0 fun b _ => by
      have a1 : ¬ (2 + (n : Int) + b).toNat = 0 := by omega
      have a2 : ¬ (2 + (n : Int) + m + b).toNat = 0 := by omega
      simp only [arc4, arc5, a1, a2, if_false]; rfl
    rw [h2, sm_congr h1, sm_const]
    omega
theorem caps_le {B : List MBlk} (h : ∀ y ∈ B, y.seats.length ≤ 200) (b : Nat) : capsOf B b ≤ 200 := by
  unfold capsOf
  cases hb : B[b]? with
  | none => simp
  | some y => exact h y (List.mem_of_getElem? hb)
set_option maxHeartbeats 4000000 in
set_option maxRecDepth 20000 in
theorem cost_any (w : World) (base P : Nat) (v u : Value) (vs : List Value) (B : List MBlk) (ks : List MSkr) (h : PlaneAt w base P v u vs B ks) (hn : ks.length ≤ 20) (hm : B.length ≤ 66) (hc : ∀ y ∈ B, y.seats.length ≤ 200) :
    Calls Tryd.prog 32 #[.pointer (some ⟨P, 0, none⟩)] w fun e w' => ∃ c : Int, e = .returned (.int .i64 c) ∧ MinIs (kN B ks) (capsOf B) ks.length B.length c ∧ Below w.heap.size w w' := by
  obtain ⟨p0, p1⟩ := h.cells
  obtain ⟨A, c, rfl⟩ := own_shape h.blk.row
  obtain ⟨A', c', rfl⟩ := own_shape h.skr
  have hplt := h.plt
  have hg := arcs_good (kN B ks) (capsOf B) ks.length B.length hn hm (caps_le hc)
  have HARC := Lib.hid (fun W (hW : Below w.heap.size w W) => arcs_any W base P _ _ vs B ks (h.below hW) hn hm)
  obtain ⟨K, hK⟩ : ∃ K, kN B ks = K := ⟨_, rfl⟩
  obtain ⟨C, hC⟩ : ∃ C, capsOf B = C := ⟨_, rfl⟩
  obtain ⟨n, hn'⟩ : ∃ n, ks.length = n := ⟨_, rfl⟩
  obtain ⟨m, hm'⟩ : ∃ m, B.length = m := ⟨_, rfl⟩
  rw [hK, hC, hn', hm'] at hg HARC
  rw [hK, hC, hn', hm']
  rw [hn'] at p1 hn
  rw [hm'] at p0 hm
  obtain ⟨L, hL⟩ : ∃ L, arcsA K C n m = L := ⟨_, rfl⟩
  rw [hL] at HARC hg
  have HG := Lib.hid hg
  have HL := Lib.hid hL
  have MK : Hid (∀ W, Below w.heap.size w W → Below w.heap.size w W ∧ W.cell? ⟨P, 0, none⟩ = some (.slice A m c) ∧ W.cell? ⟨P, 1, none⟩ = some (.slice A' n c')) := Lib.hid (fun W hW => ⟨hW, (hW.cell (p := ⟨P, 0, none⟩) hplt).trans p0, (hW.cell (p := ⟨P, 1, none⟩) hplt).trans p1⟩)
  have HWR : Hid (IntKind.i64.wrap (IntKind.i64.wrap (2 + (n : Int)) + IntKind.i64.wrap (2 * (m : Int))) = 2 + (n : Int) + 2 * (m : Int)) := Lib.hid (by rw [IntWalk.i64_in (2 + (n : Int)) (by omega), IntWalk.i64_in (2 * (m : Int)) (by omega), IntWalk.i64_in _ (by omega)])
  have hb0 := Below.refl w.heap.size w
  clear h hK hC hn' hm' hL hg hc
  go_enter Tryd.func32, Tryd.ntmps32
  go_wp2
  go_region_held3 (fun W => Below w.heap.size w W ∧ W.cell? ⟨P, 0, none⟩ = some (.slice A m c) ∧ W.cell? ⟨P, 1, none⟩ = some (.slice A' n c')) (first | exact MK.out _ (by assumption) | exact MK.out _ (Below.drew hb0)) (first
    | (go_at_call 54; refine (HARC.out _ (And.left (by assumption))).mono ?_; rintro e w2 ⟨v2, rfl, ho2, hb2⟩; have hS2 : Below w.heap.size w w2 := (And.left (by assumption) : Below w.heap.size w _).trans (hb2.mono (And.left (by assumption) : Below w.heap.size w _).size); obtain ⟨A2, c2, rfl⟩ := own_shape ho2; have hr2 := Rd.own ho2; clear ho2 hb2)
    | (go_at_call 53; refine (cheap_any _ _ _ _ A2 _ c2 L hr2).mono ?_; rintro e w3 ⟨v3, cc, er, rfl, hb3, hcase⟩; have hS3 : Below w.heap.size w w3 := hS2.trans (hb3.mono hS2.size)))
  all_goals
    rw [HWR.out] at hcase
    rcases hcase with ⟨val, room, hfo, rfl, _⟩ | ⟨hno, _⟩
    · have hmin : MinIs K C n m cc := by
        have h1 := hfo.cheap rfl
        rw [← HL.out, show (2 + (n : Int) + 2 * (m : Int)).toNat = 2 + n + 2 * m by omega] at h1
        exact cheap_min h1
      have HM := Lib.hid hmin
      clear hfo hmin
      go_wp2
      go_ret
      exact ⟨cc, rfl, HM.out, hS3⟩
    · exact absurd HG.out hno
end Go.Proofs.YtppjpledjhinbaaDoor
/- Seekers: Most, walked. -/
namespace Go.Proofs.YtppjpledjhinbaaDoor
open Go.RowKit Go.Lib
theorem seats_le (L : List MSpot) : ∀ y ∈ blocksOf L, y.seats.length ≤ L.length := by
  have key : ∀ (n : Nat) (L : List MSpot), L.length = n → ∀ y ∈ blocksOf L, y.seats.length ≤ L.length := by
    intro n
    induction n with
    | zero =>
      intro L hL y hy
      obtain rfl := List.eq_nil_of_length_eq_zero hL
      simp [blocksOf] at hy
    | succ n ih =>
      intro L hL y hy
      obtain ⟨T, x, rfl⟩ : ∃ T x, L = T ++ [x] := ⟨L.dropLast, L.getLast (by intro h; rw [h] at hL; simp at hL), (List.dropLast_concat_getLast _).symm⟩
      have hT : T.length = n := by simpa using hL
      rw [blocksOf_snoc] at hy
      have h1 : ∀ z ∈ newBlk (blocksOf T) x, z.seats.length ≤ T.length := fun z hz => by
        unfold newBlk at hz
        split at hz
        · rcases List.mem_append.1 hz with hz | hz
          · exact ih T hT z hz
          · simp at hz; subst hz; exact Nat.zero_le _
        · exact ih T hT z hz
      rw [List.length_append]
      unfold stepB addSeat at hy
      split at hy
      · exact Nat.le_trans (h1 y hy) (Nat.le_add_right _ _)
      · obtain ⟨i, hi, rfl⟩ := List.getElem_of_mem hy
        rw [List.length_modify] at hi
        rw [List.getElem_modify]
        have h2 := h1 _ (List.getElem_mem hi)
        split
        · simp only [List.length_append, List.length_cons, List.length_nil]; omega
        · exact Nat.le_trans h2 (Nat.le_add_right _ _)
  exact key L.length L rfl
theorem min_bounds {K : Nat → Skr} {caps : Nat → Nat} {n m : Nat} {c : Int} (h : MinIs K caps n m c) : 0 ≤ c ∧ c ≤ n * 900 := by
  obtain ⟨⟨σ, _, rfl⟩, _⟩ := h
  unfold costA
  have key : ∀ i, 0 ≤ (if σ i < m then (K i).toll (σ i) else (K i).price) ∧ (if σ i < m then (K i).toll (σ i) else (K i).price) ≤ 900 := fun i => by
    have h1 := (K i).price_pos
    have h2 := (K i).toll_le (σ i)
    split <;> omega
  refine ⟨?_, sm_bound (fun i _ => (key i).2)⟩
  have := sm_le (n := n) (g := fun _ => (0 : Int)) (h := fun i => if σ i < m then (K i).toll (σ i) else (K i).price) (fun i _ => (key i).1)
  rwa [sm_zero] at this
/-- What Most answers: a cheapest seating's cost, taken apart. -/
def MostAns (w : World) (l : List MRow) (rs : List MSit) (e : Ending) (w' : World) : Prop :=
  Below w.heap.size w w' ∧
  if errC l ≠ 0 then e = .returned (.tuple #[.int .i64 0, .int .i64 0, .int .i64 (errC l)])
  else if 20 < rs.length then e = .returned (.tuple #[.int .i64 0, .int .i64 0, .int .i64 26])
  else ∃ c : Nat, MinIs (kN (blocksOf (spotsL l)) (boardK (spotsL l) [] rs)) (capsOf (blocksOf (spotsL l))) rs.length (blocksOf (spotsL l)).length c ∧ e = .returned (.tuple #[.int .i64 ((rs.length : Int) - ((c / 100 : Nat) : Int)), .int .i64 ((rs.length : Int) - ((c / 100 : Nat) : Int) - ((c % 100 : Nat) : Int)), .int .i64 0])
set_option maxHeartbeats 4000000 in
set_option maxRecDepth 20000 in
theorem most_any (w : World) (mm : Int) (A : Option Addr) (n c : Nat) (l : List MRow) (hr : Rd w w.heap.size 5 A n (catv rowC l)) (hf : ∀ r ∈ l, r.fits) (hLib : LibAt w mm) (A2 : Option Addr) (n2 c2 : Nat) (rs : List MSit) (hr2 : Rd w w.heap.size 5 A2 n2 (catv sitC rs)) (hf2 : ∀ x ∈ rs, x.seat.fits) (hn2 : n2 ≤ 1099511627776) :
    Calls Tryd.prog 14 #[.slice A n c, .slice A2 n2 c2] w (MostAns w l rs) := by
  have HBD := Lib.hid (board_any w mm A n c l hr hf hLib A2 n2 c2 rs hr2 hf2 hn2)
  obtain rfl := rd_catlen sitC_len (by decide) hr2
  have HSL := Lib.hid (seats_le (spotsL l))
  have hsp := spots_len l
  have hbl := blocksOf_len (spotsL l)
  clear hr hf hLib hr2 hf2
  go_enter Tryd.func14, Tryd.ntmps14
  go_wp2_with fail
  refine HBD.out.mono ?_
  rintro e w1 ⟨hb1, hcase⟩
  by_cases hE : errC l ≠ 0
  · rw [if_pos hE] at hcase
    obtain rfl : e = _ := hcase
    obtain ⟨E, hE1⟩ : ∃ E, errC l = E := ⟨_, rfl⟩
    rw [hE1] at hE ⊢
    have HE1 := Lib.hid hE1
    have hEi : ¬ E = 0 := hE
    have HB1 := Lib.hid hb1
    clear hb1 HBD hE1
    go_wp2
    go_ret3
    refine ⟨HB1.out, ?_⟩
    rw [if_pos (by rw [HE1.out]; exact hE), HE1.out]
    rfl
  · rw [if_neg hE] at hcase
    by_cases hlt : 20 < rs.length
    · rw [if_pos hlt] at hcase
      obtain rfl : e = _ := hcase
      have HB1 := Lib.hid hb1
      have HE := Lib.hid (And.intro hE hlt)
      clear hb1 HBD hE hlt
      go_wp2
      go_ret3
      refine ⟨HB1.out, ?_⟩
      rw [if_neg HE.out.1, if_pos HE.out.2]
      rfl
    · rw [if_neg hlt] at hcase
      obtain ⟨P, v, u, vs, rfl, hpl⟩ := hcase
      have hC := cost_any w1 _ P v u vs _ _ hpl (by rw [boardK_len]; omega) (by omega) (fun y hy => by have := HSL.out y hy; omega)
      rw [boardK_len] at hC
      have HC := Lib.hid hC
      have HB1 := Lib.hid hb1
      have HE := Lib.hid hE
      clear hC hb1 HBD hpl hE
      go_wp2_with fail
      refine HC.out.mono ?_
      rintro e w2 ⟨cc, rfl, hmin, hb2⟩
      obtain ⟨h0, h9⟩ := min_bounds hmin
      obtain ⟨cN, rfl⟩ : ∃ cN : Nat, cc = (cN : Int) := ⟨cc.toNat, by omega⟩
      have HM := Lib.hid hmin
      have HB2 := Lib.hid (HB1.out.trans (hb2.mono HB1.out.size))
      have HLT := Lib.hid hlt
      clear hmin hb2 HC
      go_wp2
      go_ret3
      refine ⟨HB2.out, ?_⟩
      rw [if_neg HE.out, if_neg HLT.out]
      exact ⟨cN, HM.out, by simp⟩
end Go.Proofs.YtppjpledjhinbaaDoor
