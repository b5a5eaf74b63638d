/- Keys: the reference's Compare, walked. -/
import Derived.Test.YtaphfjomlignhaaDoorOrCmpQ
namespace Go.Proofs.YtaphfjomlignhaaDoor
open Go.RowKit
set_option maxHeartbeats 2000000 in
theorem rcompare_any (w : World) (A A' : Option Addr) (n c n' c' B : Nat) (l l' : List Pt) (hr : Rd w B 3 A n (ptv l)) (hr' : Rd w B 3 A' n' (ptv l')) (hn : n ≤ 1048576) (hn' : n' ≤ 1048576) :
    Calls Tryd.prog 20 #[.slice A n c, .slice A' n' c'] w fun e w' => e = .returned (.int .i64 (cmpL l l')) ∧ Below w.heap.size w w' := by
  have HL := Lib.hid (rd_ptlen hr)
  have HL' := Lib.hid (rd_ptlen hr')
  have HR := Lib.hid hr
  have HR' := Lib.hid hr'
  clear hr hr'
  go_enter Tryd.func20, Tryd.ntmps20
  go_wp2
  go_loopw [5] (fun i wx => ∃ k : Nat, k ≤ n ∧ i = .int .i64 k ∧ k ≤ n' ∧ Hid (cmpL l l' = cmpL (l.drop k) (l'.drop k)) ∧ Hid (∃ m, wx = w.drewN m)) (fun i _ => n - (intOf i).toNat)
  case atStart => exact ⟨0, Nat.zero_le _, rfl, Nat.zero_le _, Lib.hid rfl, Lib.hid ⟨0, rfl⟩⟩
  case round =>
    obtain ⟨k, hk, rfl, hk', hC, hW⟩ := hrel
    have HRw : Rd wr B 3 A n (ptv l) := by obtain ⟨m, rfl⟩ := hW.out; exact HR.out.drewN m
    have HRw' : Rd wr B 3 A' n' (ptv l') := by obtain ⟨m, rfl⟩ := hW.out; exact HR'.out.drewN m
    have HN : Hid (∀ j, ∃ m, wr.drewN j = w.drewN m) := Lib.hid fun j => by obtain ⟨m, rfl⟩ := hW.out; exact ⟨m + j, by simp⟩
    have HB : Hid (∀ j, Below w.heap.size w (wr.drewN j)) := Lib.hid fun j => by obtain ⟨m, rfl⟩ := hW.out; exact ⟨rfl, rfl, rfl, Nat.le_refl _, fun _ _ => rfl⟩
    clear hW
    by_cases hlt : k < n ∧ k < n'
    · obtain ⟨hlt, hlt'⟩ := hlt
      obtain ⟨b, off, rfl, hb, hs, e0, e1, e2⟩ := HRw.pt hlt
      obtain ⟨b', off', rfl, hb', hs', d0, d1, d2⟩ := HRw'.pt hlt'
      have hst : cmpL (l.drop k) (l'.drop k) = if cmpP l[k] l'[k] = 0 then cmpL (l.drop (k + 1)) (l'.drop (k + 1)) else cmpP l[k] l'[k] := by
        rw [List.drop_eq_getElem_cons hs, List.drop_eq_getElem_cons hs', cmpL]
      obtain ⟨x, hx⟩ : ∃ x, l[k] = x := ⟨_, rfl⟩
      obtain ⟨y, hy⟩ : ∃ y, l'[k] = y := ⟨_, rfl⟩
      rw [hx] at e0 e1 e2 hst
      rw [hy] at d0 d1 d2 hst
      obtain ⟨K, N, T⟩ := x
      obtain ⟨K', N', T'⟩ := y
      simp only at e0 e1 e2 d0 d1 d2
      have hp : cmpP ⟨K, N, T⟩ ⟨K', N', T'⟩ = if cmpI K K' = 0 then (if cmpI N N' = 0 then cmpT T T' else cmpI N N') else cmpI K K' := by unfold cmpP; rw [orL3]
      rw [hp] at hst
      have HST := Lib.hid hst
      clear hx hy hp hst HRw HRw'
      obtain ⟨r1, q1⟩ : ∃ r, cmpI K K' = r := ⟨_, rfl⟩
      obtain ⟨r2, q2⟩ : ∃ r, cmpI N N' = r := ⟨_, rfl⟩
      obtain ⟨r3, q3⟩ : ∃ r, cmpT T T' = r := ⟨_, rfl⟩
      have C1 : Hid (∀ W : World, Calls Tryd.prog 33 #[.int .i64 K, .int .i64 K'] W fun e w' => e = .returned (.int .i64 r1) ∧ w' = W) := Lib.hid fun W => by rw [← q1]; exact rcmpi_any W K K'
      have C2 : Hid (∀ W : World, Calls Tryd.prog 33 #[.int .i64 N, .int .i64 N'] W fun e w' => e = .returned (.int .i64 r2) ∧ w' = W) := Lib.hid fun W => by rw [← q2]; exact rcmpi_any W N N'
      have C3 : Hid (∀ W : World, Calls Tryd.prog 34 #[.string T, .string T'] W fun e w' => e = .returned (.int .i64 r3) ∧ w' = W) := Lib.hid fun W => by rw [← q3]; exact rcmpt_any W T T'
      rw [q1, q2, q3] at HST
      clear q1 q2 q3
      go_wp2
      go_quiet (first | (go_at_call 33; exact Calls.quiet_of_same (C1.out _)))
      by_cases h1 : r1 = 0
      · subst h1
        go_wp2
        obtain ⟨w1, hw1⟩ : ∃ w1, wr.drewN nq = w1 := ⟨_, rfl⟩
        have e1 : w1.cell? ⟨b, off + k * 3 + 1, none⟩ = some (.int .i64 N) := by rw [← hw1]; exact e1
        have e2 : w1.cell? ⟨b, off + k * 3 + 2, none⟩ = some (.string T) := by rw [← hw1]; exact e2
        have d1 : w1.cell? ⟨b', off' + k * 3 + 1, none⟩ = some (.int .i64 N') := by rw [← hw1]; exact d1
        have d2 : w1.cell? ⟨b', off' + k * 3 + 2, none⟩ = some (.string T') := by rw [← hw1]; exact d2
        have HN := Lib.hid (fun j => (show ∃ m, w1.drewN j = w.drewN m by rw [← hw1]; simpa using HN.out (nq + j)))
        have HB := Lib.hid (fun j => (show Below w.heap.size w (w1.drewN j) by rw [← hw1]; simpa using HB.out (nq + j)))
        rw [hw1]
        clear hw1
        go_quiet (first | (go_at_call 33; exact Calls.quiet_of_same (C2.out _)))
        by_cases h2 : r2 = 0
        · subst h2
          go_wp2
          obtain ⟨w2, hw2⟩ : ∃ w2, w1.drewN nq = w2 := ⟨_, rfl⟩
          have e1 : w2.cell? ⟨b, off + k * 3 + 1, none⟩ = some (.int .i64 N) := by rw [← hw2]; exact e1
          have e2 : w2.cell? ⟨b, off + k * 3 + 2, none⟩ = some (.string T) := by rw [← hw2]; exact e2
          have d1 : w2.cell? ⟨b', off' + k * 3 + 1, none⟩ = some (.int .i64 N') := by rw [← hw2]; exact d1
          have d2 : w2.cell? ⟨b', off' + k * 3 + 2, none⟩ = some (.string T') := by rw [← hw2]; exact d2
          have HN := Lib.hid (fun j => (show ∃ m, w2.drewN j = w.drewN m by rw [← hw2]; simpa using HN.out (nq + j)))
          have HB := Lib.hid (fun j => (show Below w.heap.size w (w2.drewN j) by rw [← hw2]; simpa using HB.out (nq + j)))
          rw [hw2]
          clear hw2
          go_quiet (first | (go_at_call 34; exact Calls.quiet_of_same (C3.out _)))
          by_cases h3 : r3 = 0
          · subst h3
            have HC2 : Hid (cmpL l l' = cmpL (l.drop (k + 1)) (l'.drop (k + 1))) := Lib.hid (hC.out.trans (by rw [HST.out]; simp))
            go_wp2
            go_roundw
            case rel => exact ⟨k + 1, by omega, by go_num, by omega, HC2, Lib.hid (HN.out _)⟩
            case measure => simp [intOf]; omega
          · have HC2 : Hid (cmpL l l' = r3) := Lib.hid (hC.out.trans (by rw [HST.out]; simp [h3]))
            have hne : ((r3 != 0) : Bool) = true := by simp [h3]
            go_wp2
            go_ret
            rw [HC2.out]
            exact ⟨rfl, HB.out _⟩
        · have HC2 : Hid (cmpL l l' = r2) := Lib.hid (hC.out.trans (by rw [HST.out]; simp [h2]))
          have hne : ((r2 != 0) : Bool) = true := by simp [h2]
          have heq : ((r2 == 0) : Bool) = false := by simp [h2]
          go_wp2
          go_ret
          rw [HC2.out]
          exact ⟨rfl, HB.out _⟩
      · have HC2 : Hid (cmpL l l' = r1) := Lib.hid (hC.out.trans (by rw [HST.out]; simp [h1]))
        have hne : ((r1 != 0) : Bool) = true := by simp [h1]
        have heq : ((r1 == 0) : Bool) = false := by simp [h1]
        go_wp2
        go_ret
        rw [HC2.out]
        exact ⟨rfl, HB.out _⟩
    · have hst : cmpL (l.drop k) (l'.drop k) = cmpI (n : Int) n' := by
        have e1 := HL.out
        have e2 := HL'.out
        unfold cmpI
        by_cases h1 : k < n
        · rw [List.drop_eq_getElem_cons (by omega), show l'.drop k = [] from List.drop_of_length_le (by omega), cmpL, if_neg (by omega), if_pos (by omega)]
        · rw [show l.drop k = [] from List.drop_of_length_le (by omega)]
          by_cases h2 : k < n'
          · rw [List.drop_eq_getElem_cons (by omega), cmpL, if_pos (by omega)]
          · rw [show l'.drop k = [] from List.drop_of_length_le (by omega), cmpL, if_neg (by omega), if_neg (by omega)]
      have HC2 := Lib.hid (hC.out.trans hst)
      clear hst hC
      by_cases h1 : k < n
      · have h2 : ¬ k < n' := fun h => hlt ⟨h1, h⟩
        clear hlt
        go_wp2_with fail
        refine (rcmpi_any _ n n').mono ?_
        rintro e w2 ⟨rfl, rfl⟩
        rw [← HC2.out]
        go_wp2
        go_ret
        exact ⟨rfl, HB.out 0⟩
      · clear hlt
        go_wp2_with fail
        refine (rcmpi_any _ n n').mono ?_
        rintro e w2 ⟨rfl, rfl⟩
        rw [← HC2.out]
        go_wp2
        go_ret
        exact ⟨rfl, HB.out 0⟩
end Go.Proofs.YtaphfjomlignhaaDoor
