/- Keys: lists of parts compared (order.Compare), walked. -/
import Derived.Test.YtaphfjomlignhaaDoorOrPCmp
namespace Go.Proofs.YtaphfjomlignhaaDoor
open Go.RowKit
/-- What the comparison of lists answers. -/
def cmpL : List Pt → List Pt → Int
  | [], [] => 0
  | [], _ :: _ => -1
  | _ :: _, [] => 1
  | x :: a, y :: b => if cmpP x y = 0 then cmpL a b else cmpP x y
set_option maxHeartbeats 2000000 in
theorem cmpf_any (w : World) (A A' : Option Addr) (n c n' c' : Nat) (l l' : List Pt) (hr : Rd w w.heap.size 3 A n (ptv l)) (hr' : Rd w w.heap.size 3 A' n' (ptv l')) (hn : n ≤ 1048576) (hn' : n' ≤ 1048576) :
    Calls Tryd.prog 28 #[.slice A n c, .slice A' n' c', .func (.func 29) #[] #[]] w fun e w' => e = .returned (.int .i64 (cmpL l l')) ∧ Below w.heap.size w w' := by
  have HL := Lib.hid (rd_ptlen hr)
  have HL' := Lib.hid (rd_ptlen hr')
  have HR := Lib.hid hr
  have HR' := Lib.hid hr'
  clear hr hr'
  go_enter Tryd.func28, Tryd.ntmps28
  go_wp2
  go_loopw [13] (fun i wx => ∃ k : Nat, k ≤ n ∧ i = .int .i64 k ∧ k ≤ n' ∧ Hid (cmpL l l' = cmpL (l.drop k) (l'.drop k)) ∧ Hid (Below w.heap.size w wx)) (fun i _ => n - (intOf i).toNat)
  case atStart => exact ⟨0, Nat.zero_le _, rfl, Nat.zero_le _, Lib.hid rfl, Lib.hid (Below.refl _ _)⟩
  case round =>
    obtain ⟨k, hk, rfl, hk', hC, hW⟩ := hrel
    by_cases hlt : k < n
    · obtain ⟨b, off, rfl, hb, hs, e0, e1, e2⟩ := (HR.out.below hW.out).pt hlt
      have hsz := hW.out.size
      by_cases hlt' : k < n'
      · obtain ⟨b', off', rfl, hb', hs', d0, d1, d2⟩ := (HR'.out.below hW.out).pt hlt'
        have hst : cmpL (l.drop k) (l'.drop k) = if cmpP l[k] l'[k] = 0 then cmpL (l.drop (k + 1)) (l'.drop (k + 1)) else cmpP l[k] l'[k] := by
          rw [List.drop_eq_getElem_cons hs, List.drop_eq_getElem_cons hs', cmpL]
        obtain ⟨x, hx⟩ : ∃ x, l[k] = x := ⟨_, rfl⟩
        obtain ⟨y, hy⟩ : ∃ y, l'[k] = y := ⟨_, rfl⟩
        rw [hx] at e0 e1 e2 hst
        rw [hy] at d0 d1 d2 hst
        obtain ⟨K, N, T⟩ := x
        obtain ⟨K', N', T'⟩ := y
        simp only at e0 e1 e2 d0 d1 d2
        obtain ⟨r, hrr⟩ : ∃ r, cmpP ⟨K, N, T⟩ ⟨K', N', T'⟩ = r := ⟨_, rfl⟩
        rw [hrr] at hst
        have HP := Lib.hid hrr
        have hbw : b < wr.heap.size := by omega
        have hbw' : b' < wr.heap.size := by omega
        clear hx hy hrr
        by_cases h0 : r = 0
        · rw [if_pos h0] at hst
          have HC2 := Lib.hid (hC.out.trans hst)
          subst h0
          clear hst hC
          go_wp2_with fail
          refine (pcmp_any _ K N T K' N' T').mono ?_
          rintro e w2 ⟨rfl, hb2⟩
          rw [HP.out]
          have hB2 : Below w.heap.size w w2 := by
            refine Below.trans ?_ (hb2.mono ?_)
            · exact (hW.out.alloc hsz _).alloc (by simp; omega) _
            · simp; omega
          have HB2 := Lib.hid hB2
          clear hb2 hB2
          go_wp2
          go_roundw
          case rel => exact ⟨k + 1, by omega, by go_num, by omega, HC2, HB2⟩
          case measure => simp [intOf]; omega
        · rw [if_neg h0] at hst
          have HC2 := Lib.hid (hC.out.trans hst)
          have hne : ((r != 0) : Bool) = true := by simp [h0]
          clear hst hC
          go_wp2_with fail
          refine (pcmp_any _ K N T K' N' T').mono ?_
          rintro e w2 ⟨rfl, hb2⟩
          rw [HP.out]
          have hB2 : Below w.heap.size w w2 := by
            refine Below.trans ?_ (hb2.mono ?_)
            · exact (hW.out.alloc hsz _).alloc (by simp; omega) _
            · simp; omega
          have HB2 := Lib.hid hB2
          clear hb2 hB2
          go_wp2
          go_ret
          rw [HC2.out]
          exact ⟨rfl, HB2.out⟩
      · have hst : cmpL (l.drop k) (l'.drop k) = 1 := by
          rw [List.drop_eq_getElem_cons hs, show l'.drop k = [] from List.drop_of_length_le (by have := HL'.out; omega), cmpL]
        have HC2 := Lib.hid (hC.out.trans hst)
        have HB2 := Lib.hid hW.out
        have hbw : b < wr.heap.size := by omega
        clear hst hC
        go_wp2
        go_ret
        rw [HC2.out]
        exact ⟨rfl, HB2.out.alloc hsz _⟩
    · obtain rfl : k = n := by omega
      by_cases hlt' : k < n'
      · have hst : cmpL (l.drop k) (l'.drop k) = -1 := by
          rw [List.drop_of_length_le (by have := HL.out; omega), List.drop_eq_getElem_cons (by have := HL'.out; omega), cmpL]
        have HC2 := Lib.hid (hC.out.trans hst)
        clear hst hC
        go_wp2
        go_ret
        rw [HC2.out]
        exact ⟨rfl, hW.out⟩
      · have hst : cmpL (l.drop k) (l'.drop k) = 0 := by
          rw [List.drop_of_length_le (by have := HL.out; omega), List.drop_of_length_le (by have := HL'.out; omega), cmpL]
        have HC2 := Lib.hid (hC.out.trans hst)
        clear hst hC
        go_wp2
        go_ret
        rw [HC2.out]
        exact ⟨rfl, hW.out⟩
set_option maxHeartbeats 1000000 in
theorem compare_any (w : World) (A A' : Option Addr) (n c n' c' : Nat) (l l' : List Pt) (hr : Rd w w.heap.size 3 A n (ptv l)) (hr' : Rd w w.heap.size 3 A' n' (ptv l')) (hn : n ≤ 1048576) (hn' : n' ≤ 1048576) :
    Calls Tryd.prog 19 #[.slice A n c, .slice A' n' c'] w fun e w' => e = .returned (.int .i64 (cmpL l l')) ∧ Below w.heap.size w w' := by
  have HC := Lib.hid (cmpf_any w A A' n c n' c' l l' hr hr' hn hn')
  clear hr hr'
  go_enter Tryd.func19, Tryd.ntmps19
  go_wp2_with fail
  refine HC.out.mono ?_
  rintro e w2 ⟨rfl, hb2⟩
  have HB := Lib.hid hb2
  clear hb2
  go_wp2
  go_ret
  exact ⟨rfl, HB.out⟩
end Go.Proofs.YtaphfjomlignhaaDoor
