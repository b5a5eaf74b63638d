/- Pack, plain: what a reader takes. -/
import Derived.Test.YtanieolnaiihmaaPkPlain
namespace Go.Proofs.Ytanieolnaiihmaa
open Go.RowKit

/-- The reader at byte k, n read so far. -/
def numR (k n : Nat) : List UInt8 → Option (Nat × List UInt8)
  | [] => none
  | c :: r => if 10 ≤ k then none else if (k = 9 ∧ 1 < c.toNat) ∨ (0 < k ∧ c.toNat = 0) then none else
    if c.toNat < 128 then some (n + c.toNat % 128 * 128 ^ k, r) else numR (k + 1) (n + c.toNat % 128 * 128 ^ k) r
def val : List UInt8 → Nat
  | [] => 0
  | b :: l => b.toNat % 128 + 128 * val l
theorem val_snoc (l : List UInt8) (c : UInt8) : val (l ++ [c]) = val l + c.toNat % 128 * 128 ^ l.length := by
  induction l with
  | nil => simp [val]
  | cons b l ih => rw [List.cons_append, val, ih, val, List.length_cons, Nat.pow_succ, Nat.mul_add, Nat.add_assoc]; congr 2; rw [Nat.mul_left_comm, Nat.mul_comm 128 (128 ^ l.length)]
theorem val_lt (l : List UInt8) : val l < 128 ^ l.length := by
  induction l with
  | nil => simp [val]
  | cons b l ih => rw [val, List.length_cons, Nat.pow_succ]; have := Nat.mod_lt b.toNat (show 0 < 128 by omega); omega
theorem numB_inj_len (n : Nat) : numB n ≠ [] := fun h => by have := numB_pos n; rw [h] at this; simp at this
/-- The canonical spelling: nothing follows that is nought. -/
theorem numB_val (pre : List UInt8) (c : UInt8) (hp : ∀ b ∈ pre, 128 ≤ b.toNat) (hc : c.toNat < 128) : numB (val (pre ++ [c])) = pre ++ [c] ↔ (pre = [] ∨ c.toNat ≠ 0) := by
  induction pre with
  | nil =>
    have : val [c] = c.toNat := by simp [val]; omega
    rw [List.nil_append, this, numB_small hc]
    simp
  | cons b pre ih =>
    have hb := hp b (by simp)
    have ih := ih (fun x hx => hp x (by simp [hx]))
    have hbm : UInt8.ofNat (b.toNat % 128 + 128) = b := by
      apply UInt8.toNat.inj
      have := b.toNat_lt
      rw [UInt8.toNat_ofNat', Nat.mod_eq_of_lt (by omega)]; omega
    rw [List.cons_append, val]
    constructor
    · intro h
      right
      intro h0
      by_cases hs : b.toNat % 128 + 128 * val (pre ++ [c]) < 128
      · rw [numB_small hs] at h
        have := congrArg List.length h
        simp at this
      · rw [numB_big hs, List.cons.injEq] at h
        have h2 := h.2
        rw [show (b.toNat % 128 + 128 * val (pre ++ [c])) / 128 = val (pre ++ [c]) by omega] at h2
        rcases ih.1 h2 with rfl | h3
        · have : val ([] ++ [c]) = 0 := by simp [val, h0]
          rw [this] at hs; omega
        · exact h3 h0
    · intro h
      have h0 : c.toNat ≠ 0 := h.resolve_left (by simp)
      have hv : 1 ≤ val (pre ++ [c]) := by
        rw [val_snoc]
        have h1 : 0 < 128 ^ pre.length := Nat.pow_pos (by omega)
        have h2 : 1 * 1 ≤ c.toNat % 128 * 128 ^ pre.length := Nat.mul_le_mul (by omega) h1
        omega
      rw [numB_big (by omega), show (b.toNat % 128 + 128 * val (pre ++ [c])) / 128 = val (pre ++ [c]) by omega, show (b.toNat % 128 + 128 * val (pre ++ [c])) % 128 = b.toNat % 128 by omega, hbm, ih.2 (.inr h0)]
/-- What the reader has behind it is what it takes. -/
theorem numR_some (l : List UInt8) : ∀ (pre : List UInt8) (n : Nat) (r : List UInt8), (∀ b ∈ pre, 128 ≤ b.toNat) → numR pre.length (val pre) l = some (n, r) → pre ++ l = numB n ++ r ∧ n < 18446744073709551616 := by
  induction l with
  | nil => intro pre n r _ h; simp [numR] at h
  | cons c l ih =>
    intro pre n r hp h
    rw [numR] at h
    split at h
    · cases h
    · split at h
      · cases h
      · rename_i h10 hbad
        rw [← val_snoc] at h
        split at h
        · rename_i hc
          injection h with h
          injection h with h1 h2
          subst h1; subst h2
          have hcan := (numB_val pre c hp hc).2 (by
            rcases pre with _ | ⟨b, pre⟩
            · exact .inl rfl
            · right; intro h0; exact hbad (.inr ⟨by simp, h0⟩))
          refine ⟨by rw [hcan]; simp, ?_⟩
          have hv := val_lt (pre ++ [c])
          rw [val_snoc] at *
          by_cases h9 : pre.length = 9
          · have hc1 : c.toNat ≤ 1 := by
              rcases Nat.lt_or_ge 1 c.toNat with h | h
              · exact absurd (.inl ⟨h9, h⟩) hbad
              · exact h
            have hvp := val_lt pre
            rw [h9] at hvp ⊢
            have : c.toNat % 128 * 128 ^ 9 ≤ 1 * 128 ^ 9 := Nat.mul_le_mul_right _ (by omega)
            omega
          · have hle : (pre ++ [c]).length ≤ 9 := by simp; omega
            have : 128 ^ (pre ++ [c]).length ≤ 128 ^ 9 := Nat.pow_le_pow_right (by omega) hle
            omega
        · rename_i hc
          have := ih (pre ++ [c]) n r (by intro b hb; rcases List.mem_append.1 hb with hb | hb; exact hp b hb; simp at hb; subst hb; omega) (by rw [List.length_append]; exact h)
          simpa using this
theorem numR_numB (n : Nat) : ∀ (pre r : List UInt8) (k acc : Nat), k = pre.length → n * 128 ^ k < 18446744073709551616 → (0 < k → 0 < n) → numR k acc (numB n ++ r) = some (acc + n * 128 ^ k, r) := by
  induction n using Nat.strongRecOn with
  | _ n ih =>
    intro pre r k acc hk hn h0
    have hk10 : n ≠ 0 ∨ k = 0 := by omega
    have hk9 : ¬ 10 ≤ k := by
      intro h
      rcases hk10 with h1 | h1
      · have h2 : 128 ^ 10 ≤ 128 ^ k := Nat.pow_le_pow_right (by omega) h
        have h3 : 1 * 128 ^ k ≤ n * 128 ^ k := Nat.mul_le_mul_right _ (by omega)
        omega
      · omega
    have hb9 : k = 9 → n ≤ 1 := by
      rintro rfl
      omega
    by_cases hs : n < 128
    · rw [numB_small hs, List.singleton_append, numR, if_neg hk9]
      have ht : (UInt8.ofNat n).toNat = n := by rw [UInt8.toNat_ofNat', Nat.mod_eq_of_lt (by omega)]
      rw [ht, if_neg (by rintro (⟨h1, h2⟩ | ⟨h1, h2⟩); have := hb9 h1; omega; have := h0 h1; omega), if_pos hs, Nat.mod_eq_of_lt hs]
    · rw [numB_big hs, List.cons_append, numR, if_neg hk9]
      have ht : (UInt8.ofNat (n % 128 + 128)).toNat = n % 128 + 128 := by rw [UInt8.toNat_ofNat', Nat.mod_eq_of_lt (by omega)]
      have hmul : n / 128 * 128 ^ (k + 1) ≤ n * 128 ^ k := by
        rw [Nat.pow_succ, Nat.mul_comm (128 ^ k) 128, ← Nat.mul_assoc]
        exact Nat.mul_le_mul_right _ (Nat.div_mul_le_self n 128)
      rw [ht, if_neg (by rintro (⟨h1, h2⟩ | ⟨h1, h2⟩); have := hb9 h1; omega; omega), if_neg (by omega),
        ih (n / 128) (by omega) (0 :: pre) r (k + 1) _ (by rw [hk]; rfl) (by omega) (by omega)]
      congr 2
      rw [Nat.add_assoc]
      congr 1
      rw [show (n % 128 + 128) % 128 = n % 128 by omega, Nat.pow_succ, Nat.mul_comm (128 ^ k) 128, ← Nat.mul_assoc, ← Nat.add_mul]
      congr 1
      omega
/-- The walk's own words for one byte more. -/
theorem or_step (n k c : Nat) (hn : n < 128 ^ k) (hk : k ≤ 9) (h9 : k = 9 → c ≤ 1) (hc : c < 256) :
    bits BinOp.or IntKind.u64 (n : Int) (IntKind.u64.wrap (IntKind.u64.wrap (bits BinOp.and IntKind.u8 (c : Int) 127) * 2 ^ (7 * k))) = ((n + c % 128 * 128 ^ k : Nat) : Int) ∧ n + c % 128 * 128 ^ k < 18446744073709551616 := by
  have e1 := u8_and_nat c 127 hc (by omega)
  rw [nat_mask7, show ((127 : Nat) : Int) = 127 from rfl] at e1
  have hpow : (2 : Int) ^ (7 * k) = ((128 ^ k : Nat) : Int) := by
    rw [Int.pow_mul]; simp
  have hb : c % 128 * 128 ^ k ≤ 128 ^ 9 := by
    by_cases h : k = 9
    · subst h
      have := h9 rfl
      have : c % 128 * 128 ^ 9 ≤ 1 * 128 ^ 9 := Nat.mul_le_mul_right _ (by omega)
      omega
    · have h1 : c % 128 * 128 ^ k ≤ 128 * 128 ^ k := Nat.mul_le_mul_right _ (by omega)
      have h2 : 128 * 128 ^ k = 128 ^ (k + 1) := by rw [Nat.pow_succ, Nat.mul_comm]
      have h3 : 128 ^ (k + 1) ≤ 128 ^ 9 := Nat.pow_le_pow_right (by omega) (by omega)
      omega
  have hn9 : n < 128 ^ 9 := Nat.lt_of_lt_of_le hn (Nat.pow_le_pow_right (by omega) hk)
  have e2 : IntKind.u64.wrap ((c % 128 : Nat) : Int) = ((c % 128 : Nat) : Int) := IntWalk.u64_in _ (by omega)
  rw [e1, e2, hpow, ← Int.natCast_mul, IntWalk.u64_in _ (by omega), bits_or_u64_nat _ _ (by omega) (by omega)]
  have hj : c % 128 * 128 ^ k ||| n = c % 128 * 128 ^ k + n := nat_join (7 * k) _ _ (by rw [Nat.pow_mul]; exact Nat.mul_mod_left _ _) (by rw [Nat.pow_mul]; exact hn)
  rw [Nat.or_comm, hj, Nat.add_comm]
  exact ⟨rfl, by omega⟩
theorem step_lt (n k c : Nat) (hn : n < 128 ^ k) : n + c % 128 * 128 ^ k < 128 ^ (k + 1) := by
  have h1 : c % 128 * 128 ^ k ≤ 127 * 128 ^ k := Nat.mul_le_mul_right _ (by omega)
  rw [Nat.pow_succ]; omega
theorem numR_bad {k n : Nat} {c : UInt8} {r : List UInt8} (h : 10 ≤ k ∨ (k = 9 ∧ 1 < c.toNat) ∨ (0 < k ∧ c.toNat = 0)) : numR k n (c :: r) = none := by
  rw [numR]
  split
  · rfl
  · rw [if_pos (h.resolve_left (by assumption))]
theorem numR_end {k n : Nat} {c : UInt8} {r : List UInt8} (h10 : k < 10) (h : ¬ ((k = 9 ∧ 1 < c.toNat) ∨ (0 < k ∧ c.toNat = 0))) (hc : c.toNat < 128) : numR k n (c :: r) = some (n + c.toNat % 128 * 128 ^ k, r) := by
  rw [numR, if_neg (by omega), if_neg h, if_pos hc]
theorem numR_go {k n : Nat} {c : UInt8} {r : List UInt8} (h10 : k < 10) (h : ¬ ((k = 9 ∧ 1 < c.toNat) ∨ (0 < k ∧ c.toNat = 0))) (hc : ¬ c.toNat < 128) : numR k n (c :: r) = numR (k + 1) (n + c.toNat % 128 * 128 ^ k) r := by
  rw [numR, if_neg (by omega), if_neg h, if_neg hc]
theorem numR_ten {n : Nat} (l : List UInt8) : numR 10 n l = none := by
  cases l with
  | nil => rfl
  | cons c r => exact numR_bad (.inl (by omega))
theorem drop_cons (s : ByteArray) (k : Nat) (h : k < s.size) : s.data.toList.drop k = s[k] :: s.data.toList.drop (k + 1) := by
  rw [List.drop_eq_getElem_cons (by simpa using h)]; rfl
def rdNum (l : List UInt8) : Nat × Nat × List UInt8 := match numR 0 0 l with
  | some (n, r) => (n, 0, r)
  | none => (0, 1, l)
theorem rdNum_ok {l : List UInt8} {n : Nat} {r : List UInt8} (h : numR 0 0 l = some (n, r)) : rdNum l = (n, 0, r) := by unfold rdNum; rw [h]
theorem rdNum_no {l : List UInt8} (h : numR 0 0 l = none) : rdNum l = (0, 1, l) := by unfold rdNum; rw [h]
theorem rdNum_numB (n : Nat) (r : List UInt8) (hn : n < 18446744073709551616) : rdNum (numB n ++ r) = (n, 0, r) := by
  have := numR_numB n [] r 0 0 rfl (by simpa using hn) (by omega)
  exact rdNum_ok (by simpa using this)
theorem numR0_some {l : List UInt8} {n : Nat} {r : List UInt8} (h : numR 0 0 l = some (n, r)) : l = numB n ++ r ∧ n < 18446744073709551616 := by
  have := numR_some l [] n r (by simp) (by simpa [val] using h)
  simpa using this
end Go.Proofs.Ytanieolnaiihmaa
