/- Slices of numbers, as cells. -/
import Derived.Test.YtppjpledjhinbaaDoorMem
namespace Go.Proofs.YtppjpledjhinbaaDoor
open Go.RowKit

/-- Numbers as cells. -/
def u64v (l : List Nat) : List Value := l.map fun n : Nat => Value.int .u64 (n : Int)
theorem u64v_length (l : List Nat) : (u64v l).length = l.length := by simp [u64v]
theorem u64v_get (l : List Nat) (k : Nat) (h : k < l.length) : (u64v l)[k]? = some (.int .u64 (l[k] : Int)) := by simp [u64v, h]
theorem Rd.u64 {w : World} {B n k : Nat} {A : Option Addr} {l : List Nat} (h : Rd w B 1 A n (u64v l)) (hk : k < n) :
    ∃ ad, A = some ad ∧ ad.block < B ∧ ∃ hs : k < l.length, w.cell? (ad.add k) = some (.int .u64 (l[k] : Int)) := by
  obtain ⟨ad, u, rfl, hb, hu, hc⟩ := h.get hk
  have hs : k < l.length := by have := h.len; rw [u64v_length] at this; omega
  rw [u64v_get l k hs] at hu
  exact ⟨ad, rfl, hb, hs, by rw [hc, ← hu]⟩

def i64v (l : List Int) : List Value := l.map fun n : Int => Value.int .i64 n
theorem i64v_length (l : List Int) : (i64v l).length = l.length := by simp [i64v]
theorem i64v_get (l : List Int) (k : Nat) (h : k < l.length) : (i64v l)[k]? = some (.int .i64 l[k]) := by simp [i64v, h]
theorem Rd.i64 {w : World} {B n k : Nat} {A : Option Addr} {l : List Int} (h : Rd w B 1 A n (i64v l)) (hk : k < n) :
    ∃ ad, A = some ad ∧ ad.block < B ∧ ∃ hs : k < l.length, w.cell? (ad.add k) = some (.int .i64 l[k]) := by
  obtain ⟨ad, u, rfl, hb, hu, hc⟩ := h.get hk
  have hs : k < l.length := by have := h.len; rw [i64v_length] at this; omega
  rw [i64v_get l k hs] at hu
  exact ⟨ad, rfl, hb, hs, by rw [hc, ← hu]⟩
theorem u64v_one (l : List Nat) : ∀ u ∈ u64v l, u.oneCell' = true := by
  intro u hu
  simp only [u64v, List.mem_map] at hu
  obtain ⟨b, _, rfl⟩ := hu
  rfl
theorem i64v_one (l : List Int) : ∀ u ∈ i64v l, u.oneCell' = true := by
  intro u hu
  simp only [i64v, List.mem_map] at hu
  obtain ⟨b, _, rfl⟩ := hu
  rfl
theorem i64v_append (a b : List Int) : i64v (a ++ b) = i64v a ++ i64v b := by simp [i64v]
theorem i64v_set (l : List Int) (k : Nat) (b : Int) : (i64v l).set k (.int .i64 b) = i64v (l.set k b) := by simp [i64v, List.map_set]
end Go.Proofs.YtppjpledjhinbaaDoor
/- tarmacref01.SameInts: two lists that read alike are the same. -/
namespace Go.Proofs.YtppjpledjhinbaaDoor
open Go.RowKit

set_option maxHeartbeats 400000 in
theorem sameInts_yes (A A' : Option Addr) (n c c' B : Nat) (l : List Int) (w : World) (hn : n ≤ maxLen) (h : Rd w B 1 A n (i64v l)) (h' : Rd w B 1 A' n (i64v l)) :
    Calls Tryd.prog 44 #[.slice A n c, .slice A' n c'] w fun e w' => e = .returned (.bool true) ∧ ∃ m, w' = w.drewN m := by
  unfold maxLen at hn
  go_enter Tryd.func44, Tryd.ntmps44
  go_wp2
  go_loopw [5, 13] (fun u i wr => ∃ k : Nat, k ≤ n ∧ i = .int .i64 k ∧ Hid (∃ m, wr = w.drewN m)) (fun _ i _ => n - (intOf i).toNat)
  case atStart => exact ⟨0, Nat.zero_le _, rfl, 0, rfl⟩
  case round =>
    obtain ⟨k, hk, rfl, m, rfl⟩ := hrel
    by_cases hlt : k < n
    · obtain ⟨ad, rfl, hb, hs, hc⟩ := h.i64 hlt
      obtain ⟨ad', rfl, hb', hs', hc'⟩ := h'.i64 hlt
      generalize l[k] = y at hc hc'
      go_wp2
      go_quiet (fail)
      go_wp2
      go_roundw
      case rel => exact ⟨k + 1, by omega, by go_num, m + nq, rfl⟩
      case measure => simp [intOf]; omega
    · go_wp2
      go_ret
      exact ⟨rfl, m, rfl⟩
end Go.Proofs.YtppjpledjhinbaaDoor
