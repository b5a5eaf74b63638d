/- Matchings: places, Max, Size, walked. -/
import Derived.Test.YtkhboengcbgooaaMtSolve
namespace Go.Proofs.Ytkhboengcbgooaa
open Go.RowKit
theorem good_iff {n m : Nat} {l : List Eg} (hn : n ≤ 200) (hm : m ≤ 200) (hl : l.length ≤ 4000) : GoodG n m l ↔ ∀ e ∈ l, inE n m e := by
  unfold GoodG inE
  constructor
  · rintro ⟨_, _, _, h⟩ e he
    obtain ⟨⟨a, b⟩, c, d⟩ := h e he
    exact ⟨a, b, c, d⟩
  · intro h
    refine ⟨⟨by omega, by omega⟩, ⟨by omega, by omega⟩, hl, fun e he => ?_⟩
    obtain ⟨a, b, c, d⟩ := h e he
    exact ⟨⟨a, b⟩, c, d⟩
/-- 'solve', of whatever graph. -/
theorem solve_all (w : World) (n m : Int) (A : Option Addr) (k c : Nat) (l : List Eg) (hr : Rd w w.heap.size 2 A k (edgv l)) :
    Calls Try.prog 17 #[.int .i64 n, .int .i64 m, .slice A k c] w fun e w' =>
      (∃ n0 m0 : Nat, n = n0 ∧ m = m0 ∧ n0 ≤ 200 ∧ m0 ≤ 200 ∧ k ≤ 4000 ∧ GoodG n m l ∧ SolveRet w n0 m0 l e w') ∨ (¬ GoodG n m l ∧ e = .returned (.tuple #[.pointer none, .int .i64 19]) ∧ Below w.heap.size w w') := by
  have hkl := rd_edglen hr
  by_cases hs : (0 ≤ n ∧ n ≤ 200) ∧ (0 ≤ m ∧ m ≤ 200) ∧ k ≤ 4000
  · obtain ⟨⟨h1, h2⟩, ⟨h3, h4⟩, h5⟩ := hs
    obtain ⟨n0, rfl⟩ : ∃ n0 : Nat, n = n0 := ⟨n.toNat, by omega⟩
    obtain ⟨m0, rfl⟩ : ∃ m0 : Nat, m = m0 := ⟨m.toNat, by omega⟩
    have hg := good_iff (n := n0) (m := m0) (l := l) (by omega) (by omega) (by omega)
    refine (solve_any w n0 m0 A k c l hr h5 (by omega) (by omega)).mono ?_
    rintro e w' (h | ⟨h6, ⟨x, hx, hx2⟩, h7⟩)
    · obtain ⟨_, _, _, _, _, _, _, _, _, _, _, _, hall, _⟩ := id h
      exact .inl ⟨n0, m0, rfl, rfl, by omega, by omega, h5, hg.2 hall, h⟩
    · exact .inr ⟨fun h => hx2 (hg.1 h x hx), h6, h7⟩
  · refine (solve_size w n m A k c hs).mono ?_
    rintro e w' ⟨h1, rfl⟩
    exact .inr ⟨fun h => hs ⟨h.1, h.2.1, by have := h.2.2.1; omega⟩, h1, Below.refl _ _⟩
theorem placesN_take (l : List Int) (v : Int) : placesN l v = (List.range l.length).filter (fun x => decide (gi l x = v)) := rfl
def placesTo (l : List Int) (v : Int) (k : Nat) : List Nat := (List.range k).filter (fun x => decide (gi l x = v))
theorem placesTo_succ (l : List Int) (v : Int) (k : Nat) : placesTo l v (k + 1) = placesTo l v k ++ (if gi l k = v then [k] else []) := by
  unfold placesTo
  rw [List.range_succ, List.filter_append]
  congr 1
  by_cases h : gi l k = v <;> simp [h]
theorem placesTo_len (l : List Int) (v : Int) (k : Nat) : (placesTo l v k).length ≤ k := by
  have := List.length_filter_le (fun x => decide (gi l x = v)) (List.range k)
  rw [List.length_range] at this
  exact this
set_option maxHeartbeats 4000000 in
set_option maxRecDepth 20000 in
theorem places_any (w : World) (g n : Nat) (l : List Int) (x : Int) (hI : Ints w g l) (hl : l.length = n) (hn : n ≤ 200) :
    Calls Try.prog 18 #[.slice (some ⟨g, 0, none⟩) n n, .int .i64 x] w fun e w' => ∃ v, e = .returned v ∧ OwnQ w' w.heap.size v (placesN l x) ∧ Below w.heap.size w w' := by
  have hgl := hI.lt
  have HL := Lib.hid hl
  clear hl
  go_enter Try.func18, Try.ntmps18
  go_wp2
  go_loopw [10, 5] (fun i vT wx => ∃ k : Nat, k ≤ n ∧ i = .int .i64 k ∧ OwnQ wx w.heap.size vT (placesTo l x k) ∧ Below w.heap.size w wx) (fun i _ _ => n - (intOf i).toNat)
  case atStart => exact ⟨0, Nat.zero_le _, rfl, OwnQ.nil, Below.refl _ _⟩
  case round =>
    obtain ⟨k, hk, rfl, hq, hb⟩ := hrel
    by_cases hlt : k < n
    · have c0 := (hI.below hb hgl).cell (k := k) (by rw [HL.out]; exact hlt)
      have hst := placesTo_succ l x k
      have hln := placesTo_len l x k
      obtain ⟨A', c', rfl⟩ := hq.shape
      obtain ⟨y, hy⟩ : ∃ y, gi l k = y := ⟨_, rfl⟩
      rw [hy] at c0 hst
      have hz := hb.size
      have hqb := hq.lt
      clear hy
      by_cases hxy : x = y
      · have b1 : (x == y) = true := by rw [hxy]; simp
        rw [if_pos hxy.symm] at hst
        have HST := Lib.hid hst
        have hlen1 : (placesTo l x k).length + 1 ≤ 1048576 := by omega
        clear hst hxy
        go_wp2_with (at_builtin; refine wpList_pushQ rfl (.tmp 18) (.tmp 20) rfl rfl _ _ k w.heap.size rfl hq rfl hz hlen1 ?_)
        intro v4 w4 hq4 hu4
        have hb4 : Below w.heap.size w w4 := hb.trans (hu4.below (fun j hj e => by have := (hqb j e).1; omega) hz)
        clear hqb hu4 hq
        go_wp2
        go_roundw
        case rel => exact ⟨k + 1, by omega, by go_num, by rw [HST.out]; exact hq4, hb4⟩
        case measure => simp [intOf]; omega
      · have b1 : (x == y) = false := beq_eq_false_iff_ne.2 hxy
        rw [if_neg (fun e => hxy e.symm), List.append_nil] at hst
        have HST := Lib.hid hst
        clear hst hxy
        go_wp2
        go_roundw
        case rel => exact ⟨k + 1, by omega, by go_num, by rw [HST.out]; exact hq, hb⟩
        case measure => simp [intOf]; omega
    · obtain rfl : n = k := by omega
      have hq' : OwnQ wr w.heap.size u5 (placesN l x) := by
        rw [placesN_take, HL.out]; exact hq
      clear hq
      go_wp2
      go_ret
      exact ⟨_, rfl, hq', hb⟩
theorem matched_places {n : Nat} {of : List Int} (hl : of.length = n) (ho : ∀ x, -1 ≤ gi of x) : (placesN of (-1)).length + matched n (gi of) = n := by
  have h := len_parts (fun a => decide (0 ≤ gi of a)) (List.range n)
  rw [List.length_range] at h
  have e : (List.range n).filter (fun a => !decide (0 ≤ gi of a)) = placesN of (-1) := by
    unfold placesN
    rw [hl]
    refine List.filter_congr fun a _ => ?_
    have := ho a
    by_cases h1 : gi of a = -1
    · simp [h1]
    · have : 0 ≤ gi of a := by omega
      simp [h1, this]
  rw [e] at h
  unfold matched
  omega
set_option maxHeartbeats 4000000 in
theorem size_any (w : World) (n m : Int) (A : Option Addr) (k c : Nat) (l : List Eg) (hr : Rd w w.heap.size 2 A k (edgv l)) :
    Calls Try.prog 10 #[.int .i64 n, .int .i64 m, .slice A k c] w fun e w' =>
      ((GoodG n m l ∧ ∃ nu : Nat, NuIs (natE l) nu ∧ nu ≤ 200 ∧ e = .returned (.tuple #[.int .i64 nu, .int .i64 0])) ∨ (¬ GoodG n m l ∧ e = .returned (.tuple #[.int .i64 0, .int .i64 19]))) ∧ Below w.heap.size w w' := by
  go_enter Try.func10, Try.ntmps10
  go_wp2_with fail
  refine (solve_all _ n m A k c l hr).mono ?_
  rintro e w1 (⟨n0, m0, rfl, rfl, hn, hm, hk, hg, B, P, G, N, O, W, D, s, rfl, hwB, hA, hS, hall, hb⟩ | ⟨hng, rfl, hb⟩)
  · have c1 := hA.c1
    have hnu := hS.nu (natE_ok hall)
    have hmp := matched_places hS.lof hS.lowo
    have hI := hA.iof
    have hlo := hA.lo
    have HNU := Lib.hid hnu
    have HMP := Lib.hid hmp
    have HG := Lib.hid hg
    have HLO := Lib.hid hlo
    clear hr hA hS hall hnu hmp hg hlo
    go_wp2_with fail
    refine (places_any _ O n0 s.of (-1) hI HLO.out hn).mono ?_
    rintro e w2 ⟨v, rfl, hq, hb2⟩
    obtain ⟨A', c', rfl⟩ := hq.shape
    obtain ⟨p, hp⟩ : ∃ p, p = (placesN s.of (-1)).length := ⟨_, rfl⟩
    rw [← hp]
    have hpn : p ≤ n0 := by have := HMP.out; omega
    have hsub : IntKind.i64.wrap ((n0 : Int) - (p : Int)) = ((n0 - p : Nat) : Int) := by rw [IntWalk.i64_in _ (by omega)]; omega
    have HP := Lib.hid hp
    clear hq hp
    go_wp2
    go_ret2
    refine ⟨.inl ⟨HG.out, n0 - p, ?_, by omega, rfl⟩, hb.trans (hb2.mono hb.size)⟩
    have e1 : n0 - p = matched n0 (gi s.of) := by have := HMP.out; have := HP.out; omega
    rw [e1]
    exact HNU.out
  · have HNG := Lib.hid hng
    clear hng hr
    go_wp2
    go_ret2
    exact ⟨.inr ⟨HNG.out, rfl⟩, hb⟩
set_option maxHeartbeats 4000000 in
theorem max_any (w : World) (n m : Int) (A : Option Addr) (k c : Nat) (l : List Eg) (hr : Rd w w.heap.size 2 A k (edgv l)) :
    Calls Try.prog 14 #[.int .i64 n, .int .i64 m, .slice A k c] w fun e w' =>
      ((GoodG n m l ∧ ∃ (n0 m0 O : Nat) (s : PSt), n = n0 ∧ m = m0 ∧ SolveOut (natE l) n0 m0 s ∧ w.heap.size ≤ O ∧ Ints w' O s.of ∧ e = .returned (.tuple #[.slice (some ⟨O, 0, none⟩) n0 n0, .int .i64 0])) ∨ (¬ GoodG n m l ∧ e = .returned (.tuple #[.slice none 0 0, .int .i64 19]))) ∧ Below w.heap.size w w' := by
  go_enter Try.func14, Try.ntmps14
  go_wp2_with fail
  refine (solve_all _ n m A k c l hr).mono ?_
  rintro e w1 (⟨n0, m0, rfl, rfl, hn, hm, hk, hg, B, P, G, N, O, W, D, s, rfl, hwB, hA, hS, hall, hb⟩ | ⟨hng, rfl, hb⟩)
  · have c1 := hA.c1
    have hI := hA.iof
    have hO := hA.oB
    have HS := Lib.hid hS
    have HG := Lib.hid hg
    clear hr hA hS hall hg
    go_wp2
    go_ret2
    exact ⟨.inl ⟨HG.out, n0, m0, O, s, rfl, rfl, HS.out, by omega, hI, rfl⟩, hb⟩
  · have HNG := Lib.hid hng
    clear hng hr
    go_wp2
    go_ret2
    exact ⟨.inr ⟨HNG.out, rfl⟩, hb⟩
end Go.Proofs.Ytkhboengcbgooaa
