/- Blocks: Shared, the program's and the reference's, walked. -/
import Derived.Test.YtanieolnaiihmaaBkPlain
import Derived.Deep.CutBlock
import Derived.Deep.DeepCutAuto
namespace Go.Proofs.Ytanieolnaiihmaa
open Go.RowKit

def agree (a b : ByteArray) (k : Nat) : Prop := ∀ j (h1 : j < a.size) (h2 : j < b.size), j < k → a[j] = b[j]
theorem agree_succ {a b : ByteArray} {k : Nat} (h : agree a b k) (h1 : k < a.size) (h2 : k < b.size) (he : a[k] = b[k]) : agree a b (k + 1) := fun j g1 g2 hj => by
  by_cases e : j = k
  · subst e; exact he
  · exact h j g1 g2 (by omega)
theorem agree_lcp {a b : ByteArray} {k : Nat} (h : agree a b k) (h1 : k ≤ a.size) (h2 : k ≤ b.size) (hs : k = a.size ∨ k = b.size ∨ ∃ (g1 : k < a.size) (g2 : k < b.size), a[k] ≠ b[k]) : lcp a.data.toList b.data.toList = k := by
  refine lcp_at _ _ k (fun j g1 g2 hj => ?_) (by simpa using h1) (by simpa using h2) ?_
  · have := h j (by simpa using g1) (by simpa using g2) hj
    exact this
  · rcases hs with hs | hs | ⟨g1, g2, hs⟩
    · exact .inl (by simpa using hs)
    · exact .inr (.inl (by simpa using hs))
    · exact .inr (.inr ⟨by simpa using g1, by simpa using g2, hs⟩)
theorem byte_ne {x y : UInt8} : ((x.toNat : Int) = (y.toNat : Int)) ↔ x = y := ⟨fun h => UInt8.toNat_inj.1 (by omega), fun h => by rw [h]⟩
set_option maxHeartbeats 1000000 in
theorem shared_any (w : World) (a b : ByteArray) (ha : a.size ≤ 140737488355328) (hb : b.size ≤ 140737488355328) :
    Calls Try.prog 94 #[.string a, .string b] w fun e w' => e = .returned (.int .i64 (lcp a.data.toList b.data.toList : Int)) ∧ Hid (∃ m, w' = w.drewN m) := by
  rcases Nat.lt_or_ge b.size a.size with hab | hab
  all_goals
    go_enter Try.func94, Try.ntmps94
    go_wp2
    go_loopw [11] (fun i wr => ∃ k : Nat, k ≤ a.size ∧ k ≤ b.size ∧ i = .int .i64 k ∧ Hid (agree a b k) ∧ Hid (∃ m, wr = w.drewN m)) (fun i _ => a.size - (intOf i).toNat)
    case atStart => exact ⟨0, Nat.zero_le _, Nat.zero_le _, rfl, (fun j _ _ hj => by omega), 0, rfl⟩
    case round =>
      obtain ⟨k, hk1, hk2, rfl, hag, m, rfl⟩ := hrel
      by_cases hlt : k < a.size ∧ k < b.size
      · obtain ⟨h1, h2⟩ := hlt
        have i1 : (k : Int) < (a.size : Int) := by omega
        have i2 : (k : Int) < (b.size : Int) := by omega
        by_cases he : a[k] = b[k]
        · have hn := Lib.hid (agree_succ hag.out h1 h2 he)
          have q1 : ((a[k].toNat : Int) != (b[k].toNat : Int)) = false := by rw [he]; simp
          clear he
          go_wp2
          go_quiet (fail)
          go_wp2
          go_roundw
          case rel => exact ⟨k + 1, by omega, by omega, by go_num, hn, m + nq, rfl⟩
          case measure => simp [intOf]; omega
        · have hl := Lib.hid (agree_lcp hag.out hk1 hk2 (.inr (.inr ⟨h1, h2, he⟩)))
          have q1 : ((a[k].toNat : Int) != (b[k].toNat : Int)) = true := by
            rw [bne_iff_ne]; exact fun h => he (byte_ne.1 h)
          clear he
          go_wp2
          go_quiet (fail)
          go_wp2
          go_ret
          exact ⟨by rw [hl.out]; rfl, m + nq, by rw [World.drewN_drewN]⟩
      · have hl := Lib.hid (agree_lcp hag.out hk1 hk2 (by omega))
        go_wp2
        go_ret
        exact ⟨by rw [hl.out]; exact ret_int (by omega), m, rfl⟩
set_option maxHeartbeats 1000000 in
theorem rshared_any (w : World) (a b : ByteArray) (ha : a.size ≤ 140737488355328) (hb : b.size ≤ 140737488355328) :
    Calls Try.prog 81 #[.string a, .string b] w fun e w' => e = .returned (.int .i64 (lcp a.data.toList b.data.toList : Int)) ∧ Hid (∃ m, w' = w.drewN m) := by
  go_enter Try.func81, Try.ntmps81
  go_wp2
  go_loopw [5] (fun i wr => ∃ k : Nat, k ≤ a.size ∧ k ≤ b.size ∧ i = .int .i64 k ∧ Hid (agree a b k) ∧ Hid (∃ m, wr = w.drewN m)) (fun i _ => a.size - (intOf i).toNat)
  case atStart => exact ⟨0, Nat.zero_le _, Nat.zero_le _, rfl, (fun j _ _ hj => by omega), 0, rfl⟩
  case round =>
    obtain ⟨k, hk1, hk2, rfl, hag, m, rfl⟩ := hrel
    by_cases h1 : k < a.size
    · have i1 : (k : Int) < (a.size : Int) := by omega
      have b1 : decide ((k : Int) < (a.size : Int)) = true := decide_eq_true i1
      have c1 : decide (k < a.size) = true := decide_eq_true h1
      by_cases h2 : k < b.size
      · have i2 : (k : Int) < (b.size : Int) := by omega
        have b2 : decide ((k : Int) < (b.size : Int)) = true := decide_eq_true i2
        have c2 : decide (k < b.size) = true := decide_eq_true h2
        by_cases he : a[k] = b[k]
        · have hn := Lib.hid (agree_succ hag.out h1 h2 he)
          have q1 : ((a[k].toNat : Int) == (b[k].toNat : Int)) = true := by rw [he]; simp
          clear he
          go_wp2
          go_quiet (fail)
          go_wp2
          go_roundw
          case rel => exact ⟨k + 1, by omega, by omega, by go_num, hn, m + nq, rfl⟩
          case measure => simp [intOf]; omega
        · have hl := Lib.hid (agree_lcp hag.out hk1 hk2 (.inr (.inr ⟨h1, h2, he⟩)))
          have q1 : ((a[k].toNat : Int) == (b[k].toNat : Int)) = false := by
            rw [beq_eq_false_iff_ne]; exact fun h => he (byte_ne.1 h)
          clear he
          go_wp2
          go_quiet (fail)
          go_wp2
          go_ret
          exact ⟨by rw [hl.out]; rfl, m + nq, by rw [World.drewN_drewN]⟩
      · have hl := Lib.hid (agree_lcp hag.out hk1 hk2 (by omega))
        have b2 : decide ((k : Int) < (b.size : Int)) = false := decide_eq_false (by omega)
        have c2 : decide (k < b.size) = false := decide_eq_false h2
        go_wp2
        go_quiet (fail)
        go_wp2
        go_ret
        exact ⟨by rw [hl.out]; rfl, m + nq, by rw [World.drewN_drewN]⟩
    · have hl := Lib.hid (agree_lcp hag.out hk1 hk2 (by omega))
      have b1 : decide ((k : Int) < (a.size : Int)) = false := decide_eq_false (by omega)
      have c1 : decide (k < a.size) = false := decide_eq_false h1
      go_wp2
      go_quiet (fail)
      go_wp2
      go_ret
      exact ⟨by rw [hl.out]; rfl, m + nq, by rw [World.drewN_drewN]⟩
end Go.Proofs.Ytanieolnaiihmaa
