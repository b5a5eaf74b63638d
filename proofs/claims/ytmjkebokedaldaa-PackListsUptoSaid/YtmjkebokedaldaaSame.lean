/- tarmacref01.Same: two lists that read alike are the same. -/
import Derived.Test.YtmjkebokedaldaaMem
namespace Go.Proofs.Ytmjkebokedaldaa
open Go.RowKit

set_option maxHeartbeats 400000 in
theorem same_yes (A A' : Option Addr) (n c c' B : Nat) (ss : List ByteArray) (w : World) (hn : n ≤ maxLen) (h : Rd w B 1 A n (strv ss)) (h' : Rd w B 1 A' n (strv ss)) :
    Calls Try.prog 15 #[.slice A n c, .slice A' n c'] w fun e w' => e = .returned (.bool true) ∧ ∃ m, w' = w.drewN m := by
  unfold maxLen at hn
  go_enter Try.func15, Try.ntmps15
  go_wp2
  go_loopw [5, 13] (fun u i wr => ∃ k : Nat, k ≤ n ∧ i = .int .i64 k ∧ Hid (∃ m, wr = w.drewN m)) (fun _ i _ => n - (intOf i).toNat)
  case atStart => exact ⟨0, Nat.zero_le _, rfl, 0, rfl⟩
  case round =>
    obtain ⟨k, hk, rfl, m, rfl⟩ := hrel
    by_cases hlt : k < n
    · obtain ⟨ad, rfl, hb, hs, hc⟩ := h.str hlt
      obtain ⟨ad', rfl, hb', hs', hc'⟩ := h'.str hlt
      go_wp2
      go_quiet (fail)
      go_wp2
      go_roundw
      case rel => exact ⟨k + 1, by omega, by go_num, m + nq, rfl⟩
      case measure => simp [intOf]; omega
    · go_wp2
      go_ret
      exact ⟨rfl, m, rfl⟩
end Go.Proofs.Ytmjkebokedaldaa
