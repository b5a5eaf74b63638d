/- Digests: the end, the whole digest, keyed digests: what they are (plain). -/
import Derived.Test.YtohgkcgeanofnaaTgSpec
namespace Go.Proofs.Ytohgkcgeanofnaa
theorem fed_mod (l : List UInt8) : ∀ H, (fed H l).2.length = l.length % 64 := by
  induction hn : l.length using Nat.strongRecOn generalizing l with
  | ind n ih =>
    intro H
    by_cases h : l.length < 64
    · rw [fed_small h]; show l.length = _; omega
    · rw [fed_big (by omega), ih (l.drop 64).length (by rw [List.length_drop]; omega) _ rfl _, List.length_drop]
      omega
/-- How many noughts go behind the first byte. -/
def zer (n : Nat) : Nat := (119 - n % 64) % 64
def be8 (v : Nat) : List UInt8 := [UInt8.ofNat (v / 2 ^ 56), UInt8.ofNat (v / 2 ^ 48), UInt8.ofNat (v / 2 ^ 40), UInt8.ofNat (v / 2 ^ 32), UInt8.ofNat (v / 2 ^ 24), UInt8.ofNat (v / 2 ^ 16), UInt8.ofNat (v / 2 ^ 8), UInt8.ofNat (v / 2 ^ 0)]
theorem be8_length (v : Nat) : (be8 v).length = 8 := rfl
theorem be8_take (v j : Nat) (hj : j < 8) : (be8 v).take (j + 1) = (be8 v).take j ++ [UInt8.ofNat (v / 2 ^ (56 - 8 * j))] := by
  obtain rfl | rfl | rfl | rfl | rfl | rfl | rfl | rfl : j = 0 ∨ j = 1 ∨ j = 2 ∨ j = 3 ∨ j = 4 ∨ j = 5 ∨ j = 6 ∨ j = 7 := by omega
  all_goals rfl
/-- What stands behind the bytes. -/
def tailB (k n : Nat) : List UInt8 := [128] ++ List.replicate (zer k) 0 ++ be8 n
def fin (H : List Nat) (l : List UInt8) (n : Nat) : List Nat := (fed H (l ++ tailB l.length (8 * n % 18446744073709551616))).1
/-- The four bytes of a word. -/
def wb (x : Nat) : List UInt8 := [UInt8.ofNat (x / 16777216), UInt8.ofNat (x / 65536), UInt8.ofNat (x / 256), UInt8.ofNat x]
def outB (H : List Nat) : List UInt8 := H.flatMap wb
theorem outB_length (H : List Nat) : (outB H).length = 4 * H.length := by
  induction H with
  | nil => rfl
  | cons x H ih =>
    unfold outB at ih ⊢
    rw [List.flatMap_cons, List.length_append, ih, List.length_cons]
    show 4 + 4 * H.length = _
    omega
theorem outB_snoc (H : List Nat) (x : Nat) : outB (H ++ [x]) = outB H ++ wb x := by
  unfold outB
  rw [List.flatMap_append, List.flatMap_cons, List.flatMap_nil, List.append_nil]
/-- The digest of the bytes. -/
def sumB (l : List UInt8) : List UInt8 := outB (fin (fed H0 l).1 (fed H0 l).2 (l.length % 18446744073709551616))
theorem fin_length (H : List Nat) (l : List UInt8) (n : Nat) (h : H.length = 8) : (fin H l n).length = 8 := fed_length _ _ h
theorem fin_lt (H : List Nat) (l : List UInt8) (n : Nat) (h : ∀ x ∈ H, x < 4294967296) : ∀ x ∈ fin H l n, x < 4294967296 := fed_lt _ _ h
theorem sumB_length (l : List UInt8) : (sumB l).length = 32 := by
  unfold sumB
  rw [outB_length, fin_length _ _ _ (fed_length _ _ H0_length)]
/-- The digest is that of the bytes with what stands behind them. -/
theorem sumB_whole (l : List UInt8) (hl : l.length < 18446744073709551616) : sumB l = outB (fed H0 (l ++ tailB l.length (8 * l.length % 18446744073709551616))).1 := by
  unfold sumB fin
  rw [fed_append l, Nat.mod_eq_of_lt hl]
  have e : tailB (fed H0 l).2.length (8 * l.length % 18446744073709551616) = tailB l.length (8 * l.length % 18446744073709551616) := by
    unfold tailB zer
    rw [fed_mod, Nat.mod_mod]
  rw [e]
/-- The key's 64 bytes. -/
def keyB (key : List UInt8) : List UInt8 := let k := if 64 < key.length then sumB key else key; k ++ List.replicate (64 - k.length) 0
def padB (x : UInt8) (key : List UInt8) : List UInt8 := (keyB key).map (· ^^^ x)
def macB (key l : List UInt8) : List UInt8 := sumB (padB 0x5c key ++ sumB (padB 0x36 key ++ l))
theorem keyB_length (key : List UInt8) : (keyB key).length = 64 := by
  unfold keyB
  simp only
  split
  · rw [List.length_append, List.length_replicate, sumB_length]
  · rw [List.length_append, List.length_replicate]; omega
theorem keyB_sum (key : List UInt8) (h : 64 < key.length) : keyB (sumB key) = keyB key := by
  unfold keyB
  have h2 : ¬ 64 < (sumB key).length := by rw [sumB_length]; decide
  simp only [if_pos h, if_neg h2]
theorem keyB_zeros (key : List UInt8) (n : Nat) (h : key.length + n ≤ 64) : keyB (key ++ List.replicate n 0) = keyB key := by
  unfold keyB
  have h1 : ¬ 64 < key.length := by omega
  have h2 : ¬ 64 < (key ++ List.replicate n (0 : UInt8)).length := by rw [List.length_append, List.length_replicate]; omega
  simp only [if_neg h1, if_neg h2]
  rw [List.append_assoc, List.replicate_append_replicate, List.length_append, List.length_replicate]
  congr 2
  omega
theorem mac_sum (key l : List UInt8) (h : 64 < key.length) : macB (sumB key) l = macB key l := by
  unfold macB padB
  rw [keyB_sum key h]
theorem mac_zeros (key l : List UInt8) (n : Nat) (h : key.length + n ≤ 64) : macB (key ++ List.replicate n 0) l = macB key l := by
  unfold macB padB
  rw [keyB_zeros key n h]
set_option maxRecDepth 100000 in
set_option maxHeartbeats 4000000 in
theorem abc : sumB [97, 98, 99] = [186, 120, 22, 191, 143, 1, 207, 234, 65, 65, 64, 222, 93, 174, 34, 35, 176, 3, 97, 163, 150, 23, 122, 156, 180, 16, 255, 97, 242, 0, 21, 173] := by
  decide +kernel
end Go.Proofs.Ytohgkcgeanofnaa
