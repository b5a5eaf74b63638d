/- Keys: cmp.Or of numbers, walked. -/
import Derived.Test.YtaphfjomlignhaaDoorOrCmp
import Derived.Test.YtaphfjomlignhaaDoorNums
namespace Go.Proofs.YtaphfjomlignhaaDoor
open Go.RowKit
/-- The first that is not nought. -/
def orL : List Int → Int
  | [] => 0
  | x :: l => if x = 0 then orL l else x
theorem orL_zero (l : List Int) (k : Nat) (hk : k ≤ l.length) (h : ∀ x ∈ l.take k, x = 0) : orL l = orL (l.drop k) := by
  induction k generalizing l with
  | zero => simp
  | succ k ih =>
    cases l with
    | nil => simp
    | cons x l =>
      have hx : x = 0 := h x (by simp)
      rw [orL, if_pos hx, List.drop_succ_cons]
      exact ih l (by simpa using hk) (fun y hy => h y (by simp [hy]))
set_option maxHeartbeats 400000 in
theorem or_any (w : World) (A : Option Addr) (n c B : Nat) (l : List Int) (hr : Rd w B 1 A n (i64v l)) (hn : n ≤ 1048576) :
    Calls Tryd.prog 30 #[.slice A n c] w fun e w' => e = .returned (.int .i64 (orL l)) ∧ w' = w := by
  have hl : l.length = n := by have := hr.len; rw [i64v_length] at this; omega
  have HL := Lib.hid hl
  have HR := Lib.hid hr
  clear hl hr
  go_enter Tryd.func30, Tryd.ntmps30
  go_wp2
  go_loop [8] (fun i => ∃ k : Nat, k ≤ n ∧ i = .int .i64 k ∧ Hid (∀ x ∈ l.take k, x = 0)) (fun i => n - (intOf i).toNat)
  case atStart => exact ⟨0, Nat.zero_le _, rfl, Lib.hid (by simp)⟩
  case round =>
    obtain ⟨k, hk, rfl, hz⟩ := hrel
    by_cases hlt : k < n
    · obtain ⟨ad, hA, _, hs, hc⟩ := HR.out.i64 hlt
      subst hA
      have ho := orL_zero l k (by omega) hz.out
      rw [List.drop_eq_getElem_cons hs, orL] at ho
      have ht : ∀ x ∈ l.take (k + 1), x = l[k] ∨ x = 0 := fun x hx => by
        rw [List.take_succ_eq_append_getElem hs] at hx
        rcases List.mem_append.1 hx with h | h
        · exact .inr (hz.out x h)
        · exact .inl (List.mem_singleton.1 h)
      obtain ⟨x, hx⟩ : ∃ x, l[k] = x := ⟨_, rfl⟩
      rw [hx] at hc ho
      simp only [hx] at ht
      clear hx
      by_cases h0 : x = 0
      · have HT := Lib.hid (fun y hy => (ht y hy).elim (fun h => h.trans h0) id)
        clear ho ht
        subst h0
        go_wp2
        exact ⟨⟨k + 1, by omega, by go_num, HT⟩, by simp [intOf]; omega⟩
      · rw [if_neg h0] at ho
        have HO := Lib.hid ho
        have hx0 : ((x == 0) : Bool) = false := beq_eq_false_iff_ne.2 h0
        clear ho ht
        go_wp2
        go_ret
        rw [HO.out]
        exact ⟨rfl, rfl⟩
    · have e : n = k := by omega
      clear hlt hk
      subst e
      have ho := orL_zero l n (by rw [HL.out]; exact Nat.le_refl _) hz.out
      rw [List.drop_of_length_le (by rw [HL.out]; exact Nat.le_refl _)] at ho
      have HO := Lib.hid ho
      clear ho
      go_wp2
      go_ret
      rw [HO.out]
      exact ⟨rfl, rfl⟩
end Go.Proofs.YtaphfjomlignhaaDoor
