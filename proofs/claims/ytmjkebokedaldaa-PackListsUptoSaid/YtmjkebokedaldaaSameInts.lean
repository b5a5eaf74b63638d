/- tarmacref01.SameInts: two lists that read alike are the same. -/
import Derived.Test.YtmjkebokedaldaaNums
namespace Go.Proofs.Ytmjkebokedaldaa
open Go.RowKit

set_option maxHeartbeats 400000 in
theorem sameInts_yes (A A' : Option Addr) (n c c' B : Nat) (l : List Int) (w : World) (hn : n ≤ maxLen) (h : Rd w B 1 A n (i64v l)) (h' : Rd w B 1 A' n (i64v l)) :
    Calls Try.prog 32 #[.slice A n c, .slice A' n c'] w fun e w' => e = .returned (.bool true) ∧ ∃ m, w' = w.drewN m := by
  unfold maxLen at hn
  go_enter Try.func32, Try.ntmps32
  go_wp2
  go_loopw [5, 13] (fun u i wr => ∃ k : Nat, k ≤ n ∧ i = .int .i64 k ∧ Hid (∃ m, wr = w.drewN m)) (fun _ i _ => n - (intOf i).toNat)
  case atStart => exact ⟨0, Nat.zero_le _, rfl, 0, rfl⟩
  case round =>
    obtain ⟨k, hk, rfl, m, rfl⟩ := hrel
    by_cases hlt : k < n
    · obtain ⟨ad, rfl, hb, hs, hc⟩ := h.i64 hlt
      obtain ⟨ad', rfl, hb', hs', hc'⟩ := h'.i64 hlt
      generalize l[k] = y at hc hc'
      go_wp2
      go_quiet (fail)
      go_wp2
      go_roundw
      case rel => exact ⟨k + 1, by omega, by go_num, m + nq, rfl⟩
      case measure => simp [intOf]; omega
    · go_wp2
      go_ret
      exact ⟨rfl, m, rfl⟩
end Go.Proofs.Ytmjkebokedaldaa
