/- tarmacref06.Same: two lists of entries that read alike are the same. -/
import Derived.Test.YtanieolnaiihmaaEnt
namespace Go.Proofs.Ytanieolnaiihmaa
open Go.RowKit

set_option maxHeartbeats 400000 in
theorem same6_yes (A A' : Option Addr) (n c c' B : Nat) (l : List Ent) (w : World) (hn : n ≤ maxLen) (h : Rd w B 4 A n (entv l)) (h' : Rd w B 4 A' n (entv l)) :
    Calls Try.prog 20 #[.slice A n c, .slice A' n c'] w fun e w' => e = .returned (.bool true) ∧ ∃ m, w' = w.drewN m := by
  unfold maxLen at hn
  go_enter Try.func20, Try.ntmps20
  go_wp2
  go_loopw [5, 13] (fun u i wr => ∃ k : Nat, k ≤ n ∧ i = .int .i64 k ∧ Hid (∃ m, wr = w.drewN m)) (fun _ i _ => n - (intOf i).toNat)
  case atStart => exact ⟨0, Nat.zero_le _, rfl, 0, rfl⟩
  case round =>
    obtain ⟨k, hk, rfl, m, rfl⟩ := hrel
    by_cases hlt : k < n
    · obtain ⟨b, off, rfl, hb, hs, c0, c1, c2, c3⟩ := h.ent hlt
      obtain ⟨b', off', rfl, hb', hs', d0, d1, d2, d3⟩ := h'.ent hlt
      obtain ⟨y, hy⟩ : ∃ y, l[k] = y := ⟨_, rfl⟩
      rw [hy] at c0 c1 c2 c3 d0 d1 d2 d3
      obtain ⟨K, S, D, V⟩ := y
      simp only at c0 c1 c2 c3 d0 d1 d2 d3
      clear hy
      go_wp2
      go_quiet (fail)
      go_wp2
      go_roundw
      case rel => exact ⟨k + 1, by omega, by go_num, m + nq, rfl⟩
      case measure => simp [intOf]; omega
    · go_wp2
      go_ret
      exact ⟨rfl, m, rfl⟩
end Go.Proofs.Ytanieolnaiihmaa
