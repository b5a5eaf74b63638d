/- Flows: Cut, walked. -/
import Derived.Test.YtmekcpbcgelliaaFlCalls
namespace Go.Proofs.Ytmekcpbcgelliaa
open Go.RowKit
/-- The nodes that were met, as they stand in the row of arcs by which. -/
def cutTo (by_ : List Int) (s k : Nat) : List Nat := (List.range k).filter fun v => decide (v = s ∨ 0 ≤ gi by_ v)
theorem cutTo_succ (by_ : List Int) (s k : Nat) : cutTo by_ s (k + 1) = if k = s ∨ 0 ≤ gi by_ k then cutTo by_ s k ++ [k] else cutTo by_ s k := by
  unfold cutTo
  rw [List.range_succ, List.filter_append, List.filter_cons]
  by_cases h : k = s ∨ 0 ≤ gi by_ k
  · rw [if_pos h, if_pos (decide_eq_true h)]; rfl
  · rw [if_neg h, if_neg (by simpa using h)]; simp
theorem cutTo_len (by_ : List Int) (s k : Nat) : (cutTo by_ s k).length ≤ k := by
  have := List.length_filter_le (fun v => decide (v = s ∨ 0 ≤ gi by_ v)) (List.range k)
  rw [List.length_range] at this
  exact this
theorem cutTo_rise (by_ : List Int) (s k : Nat) : (cutTo by_ s k).Pairwise (· < ·) := List.pairwise_lt_range.sublist List.filter_sublist
theorem mem_cutTo {by_ : List Int} {s k x : Nat} : x ∈ cutTo by_ s k ↔ x < k ∧ (x = s ∨ 0 ≤ gi by_ x) := by
  unfold cutTo
  rw [List.mem_filter, List.mem_range, decide_eq_true_eq]
/-- A cut of just the greatest value. -/
structure CutOk (nodes s t : Nat) (l : List Ar) (value : Int) (T : List Nat) : Prop where
  rise : T.Pairwise (· < ·)
  lt : ∀ x ∈ T, x < nodes
  sin : s ∈ T
  tout : t ∉ T
  cut : cutCap (nwOf l) (fun v => decide (v ∈ T)) = value
  max : MaxIs (nwOf l) nodes s t value
def CutAns (w : World) (nodes s t : Int) (l : List Ar) (e : Ending) (w' : World) : Prop :=
  ∃ (v : Value) (er : Int), e = .returned (.tuple #[v, .int .i64 er]) ∧ Below w.heap.size w w' ∧
    ((∃ value T, GoodN nodes s t l ∧ CutOk nodes.toNat s.toNat t.toNat l value T ∧ er = 0 ∧ w'.ownsRow w.heap.size 3 1 v T.length (natv T)) ∨ (¬ GoodN nodes s t l ∧ er = 19 ∧ v = .slice none 0 0))
/-- A search at a greatest flow meets no sink. -/
theorem no_more {N : Nw} {costs : Bool} {nodes s t : Nat} {room : List Int} {value paid : Int} {π : Nat → Int} {st st' : WSt} (hok : NwOk N nodes s t) (hF : FlowSt N costs nodes s t room value paid) (hE : WEnd N costs room s nodes st) (hno : ¬ gi st.di t < FAR)
    (hW : WFix N costs room s nodes π) (hE' : WEnd N costs room s nodes st') : ¬ gi st'.di t < FAR := by
  intro hm
  obtain ⟨_, hmax, _⟩ := hF.done hok hE hno
  obtain ⟨L, hL, hPI, h1, h2⟩ := hF.ready hok hW hE' hm
  have hS := hF.sent hok hW hE' hL (by omega) hPI
  obtain ⟨_, Z, z1, z2, z3⟩ := hmax
  have h3 := cut_ge hok.ends hS.isFlow hok.sn hok.tn hok.st Z z1 z2
  rw [← hS.val] at h3
  omega
theorem cut_ok {l : List Ar} {nodes s t : Nat} {room : List Int} {value paid : Int} {st : WSt} (hok : NwOk (nwOf l) nodes s t) (hF : FlowSt (nwOf l) false nodes s t room value paid) (hE : WEnd (nwOf l) false room s nodes st) (hno : ¬ gi st.di t < FAR) :
    CutOk nodes s t l value (cutTo st.by_ s nodes) := by
  obtain ⟨hc, hmax, _⟩ := hF.done hok hE hno
  have hm : ∀ x, x < nodes → (x ∈ cutTo st.by_ s nodes ↔ gi st.di x < FAR) := fun x hx => by
    rw [mem_cutTo]
    by_cases e : x = s
    · rw [e, hE.ds]
      exact ⟨fun _ => by decide, fun _ => ⟨hok.sn, .inl rfl⟩⟩
    · rw [← hE.b0 x hx e]
      exact ⟨fun h => h.2.resolve_left e, fun h => ⟨hx, .inr h⟩⟩
  refine ⟨cutTo_rise _ _ _, fun x hx => (mem_cutTo.1 hx).1, (hm s hok.sn).2 (by rw [hE.ds]; decide), fun h => hno ((hm t hok.tn).1 h), ?_, hmax⟩
  rw [← hc]
  unfold cutCap
  refine sm_congr fun i hi => ?_
  obtain ⟨e1, e2⟩ := hok.ends i hi
  simp only [decide_eq_true_eq, decide_eq_false_iff_not, hm _ e1, hm _ e2]
set_option maxHeartbeats 8000000 in
set_option maxRecDepth 20000 in
theorem cut_any (w : World) (nodes s t : Int) (A : Option Addr) (k c : Nat) (l : List Ar) (hr : Rd w w.heap.size 4 A k (arv l)) :
    Calls Try.prog 19 #[.int .i64 nodes, .int .i64 s, .int .i64 t, .slice A k c] w (CutAns w nodes s t l) := by
  obtain ⟨i0, hi0, hz0, hz1, hz2⟩ := info_parts int_info
  have HC := Lib.hid (solve_any w nodes s t A k c false l hr)
  clear hr
  go_enter Try.func19, Try.ntmps19
  go_wp2_with fail
  refine HC.out.mono ?_
  rintro e w1 (⟨hg, P, value, paid, room, rfl, hS⟩ | ⟨hbad, rfl, hb⟩)
  · obtain ⟨n, rfl⟩ : ∃ n : Nat, nodes = n := ⟨nodes.toNat, by have := hg.1; omega⟩
    obtain ⟨s, rfl⟩ : ∃ n : Nat, s = n := ⟨s.toNat, by have := hg.2.1; omega⟩
    obtain ⟨t, rfl⟩ : ∃ n : Nat, t = n := ⟨t.toNat, by have := hg.2.2.1; omega⟩
    obtain ⟨st, hE, hno⟩ := hS.done_
    obtain ⟨F, N, R, av, hA, _⟩ := hS.net
    simp only [Int.toNat_natCast] at hE hno hA hS
    have hok := hg.ok
    obtain ⟨π, hW⟩ := hS.flow.fix hok
    have hCW := way_any w1 F P N R av n s t value paid (nwOf l) _ room false π hA hW (fun v j => mem_rowsO hg.2.2.2.2.2.1 l.length (Nat.le_refl _) v j) hok.selfR (fun v => by have := rowsO_len_le n l l.length v; have := hg.2.2.2.2.1; omega) hok.mm
    have HCW := Lib.hid hCW
    have hsz := hS.bel.size
    have hnn := hok.nn
    have HB1 := Lib.hid hS.bel
    have HF := Lib.hid hS.flow
    have HE := Lib.hid hE
    have HNO := Lib.hid hno
    have HOK := Lib.hid hok
    have HG := Lib.hid hg
    have HW := Lib.hid hW
    clear hS hE hno hA hok hW hCW hg HC
    go_wp2_with fail
    refine HCW.out.mono ?_
    rintro e w2 ⟨BY, st', rfl, hBY, hI, hE', hb2⟩
    have hno' := no_more HOK.out HF.out HE.out (by have := HNO.out; omega) HW.out hE'
    have hc := cut_ok HOK.out HF.out hE' hno'
    have hB2 : Below w.heap.size w w2 := HB1.out.trans (hb2.mono hsz)
    have hlb := hE'.lb
    have HB2sz : w.heap.size ≤ BY := Nat.le_trans hsz hBY
    have HC := Lib.hid hc
    have HI := Lib.hid hI
    have HB2 := Lib.hid hB2
    obtain ⟨by_, hby⟩ : ∃ b, st'.by_ = b := ⟨_, rfl⟩
    rw [hby] at HI HC hlb
    clear hno' hc hI hB2 hE' hb2 hby HCW HE HNO HW HF HB1
    go_wp2
    go_loopw [29, 12] (fun i cv wx => ∃ j : Nat, j ≤ n ∧ i = .int .i64 j ∧ Hid (wx.ownsRow (BY + 1) 3 1 cv (cutTo by_ s j).length (natv (cutTo by_ s j))) ∧ Hid (Ints wx BY by_) ∧ Hid (Below w.heap.size w wx)) (fun i _ _ => n - (intOf i).toNat)
    case atStart => exact ⟨0, Nat.zero_le _, rfl, Lib.hid (World.ownsRow_nil _ _ _ _), HI, HB2⟩
    case round =>
      clear HI HB2
      obtain ⟨j, hj, rfl, ho, hI, hb⟩ := hrel
      by_cases hlt : j < n
      · have d0 := hI.out.cell (k := j) (by omega)
        have hlj : (j : Int) < (n : Int) := by omega
        have HST := Lib.hid (cutTo_succ by_ s j)
        have hcl := cutTo_len by_ s j
        have hBs := hI.out.lt
        obtain ⟨x, hx⟩ : ∃ x, gi by_ j = x := ⟨_, rfl⟩
        rw [hx] at d0 HST
        obtain ⟨A7, c7, rfl⟩ := own_shape ho.out
        obtain ⟨N1, hN1⟩ : ∃ N1, (cutTo by_ s j).length = N1 := ⟨_, rfl⟩
        rw [hN1] at ho hcl ⊢
        have HN1 := Lib.hid hN1
        clear hx hN1
        have take : (j = s ∨ 0 ≤ x) → ∀ v8 w8, w8.ownsRow (BY + 1) 3 1 v8 (N1 + 1) (natv (cutTo by_ s j) ++ [.int .i64 (j : Int)]) → Upd (fun k => (Value.slice A7 N1 c7).ownBlock = some k) wr w8 →
            Hid (w8.ownsRow (BY + 1) 3 1 v8 (cutTo by_ s (j + 1)).length (natv (cutTo by_ s (j + 1)))) ∧ Hid (Ints w8 BY by_) ∧ Hid (Below w.heap.size w w8) := by
          intro hc v8 w8 ho8 hu8
          refine ⟨Lib.hid ?_, Lib.hid (hI.out.upd hu8 (fun e => by have := (ho.out.lt _ e).1; omega)), Lib.hid (hb.out.trans (hu8.below (fun i hi e => by have := (ho.out.lt _ e).1; omega) hb.out.size))⟩
          rw [HST.out, if_pos hc, List.length_append, HN1.out]
          simpa [natv] using ho8
        have TK := Lib.hid take
        clear take
        by_cases hc : (j : Int) = (s : Int)
        · have b1 : ((j : Int) == (s : Int)) = true := beq_iff_eq.2 hc
          have hjs := Lib.hid (show j = s by omega)
          clear hc
          go_wp2_with (at_builtin; refine wpList_push rfl (.tmp 41) (.tmp 43) 39 rfl (BY + 1) 3 i0 (.int .i64 0) 1 8 Try.underlying39 hi0 hz0 hz1 hz2 rfl (by decide) _ N1 _ #[.int .i64 (j : Int)] rfl (by exact ho.out) rfl rfl (by simp [Value.oneCell']) ?c1 ?c2 ?c3 ?_)
          case c1 => omega
          case c2 => unfold maxLen; omega
          case c3 => exact hBs
          intro v8 w8 ho8 hu8 _
          obtain ⟨k1, k2, k3⟩ := TK.out (.inl hjs.out) v8 w8 ho8 hu8
          clear ho8 hu8 ho hI hb d0
          go_wp2
          go_roundw
          case rel => exact ⟨j + 1, by omega, by go_num, k1, k2, k3⟩
          case measure => simp [intOf]; omega
        · have b1 : ((j : Int) == (s : Int)) = false := beq_eq_false_iff_ne.2 hc
          by_cases hx0 : 0 ≤ x
          · have b2 : decide (x ≥ 0) = true := decide_eq_true hx0
            go_wp2_with (at_builtin; refine wpList_push rfl (.tmp 41) (.tmp 43) 39 rfl (BY + 1) 3 i0 (.int .i64 0) 1 8 Try.underlying39 hi0 hz0 hz1 hz2 rfl (by decide) _ N1 _ #[.int .i64 (j : Int)] rfl (by exact ho.out) rfl rfl (by simp [Value.oneCell']) ?d1 ?d2 ?d3 ?_)
            case d1 => omega
            case d2 => unfold maxLen; omega
            case d3 => exact hBs
            intro v8 w8 ho8 hu8 _
            obtain ⟨k1, k2, k3⟩ := TK.out (.inr hx0) v8 w8 ho8 hu8
            clear ho8 hu8 ho hI hb d0
            go_wp2
            go_roundw
            case rel => exact ⟨j + 1, by omega, by go_num, k1, k2, k3⟩
            case measure => simp [intOf]; omega
          · have b2 : decide (x ≥ 0) = false := decide_eq_false hx0
            have k1 : Hid (wr.ownsRow (BY + 1) 3 1 (.slice A7 N1 c7) (cutTo by_ s (j + 1)).length (natv (cutTo by_ s (j + 1)))) := Lib.hid (by
              rw [HST.out, if_neg (fun h => h.elim (fun e => hc (by rw [e])) hx0), HN1.out]
              exact ho.out)
            clear ho
            go_wp2
            go_roundw
            case rel => exact ⟨j + 1, by omega, by go_num, k1, hI, hb⟩
            case measure => simp [intOf]; omega
      · obtain rfl : j = n := by omega
        obtain ⟨A7, c7, rfl⟩ := own_shape ho.out
        have hlo : w.heap.size ≤ BY + 1 := by have := HB2sz; omega
        have HR : Hid (CutAns w j s t l (.returned (.tuple #[.slice A7 (cutTo by_ s j).length c7, .int .i64 0])) wr) := Lib.hid ⟨_, 0, rfl, hb.out, .inl ⟨value, cutTo by_ s j, HG.out, by simpa using HC.out, rfl, own_mono ho.out hlo⟩⟩
        generalize (cutTo by_ s j).length = N1 at HR ⊢
        clear ho hI hb HC
        go_wp2
        go_ret2
        exact HR.out
  · have HR : Hid (CutAns w nodes s t l (.returned (.tuple #[.slice none 0 0, .int .i64 19])) w1) := Lib.hid ⟨_, 19, rfl, hb, .inr ⟨hbad, rfl, rfl⟩⟩
    clear hbad hb HC
    go_wp2
    go_ret2
    exact HR.out
end Go.Proofs.Ytmekcpbcgelliaa
