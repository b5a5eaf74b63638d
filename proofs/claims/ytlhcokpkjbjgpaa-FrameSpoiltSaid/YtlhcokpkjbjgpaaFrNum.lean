/- Frames: frame.number, walked; four bytes as a number. -/
import Derived.Test.YtlhcokpkjbjgpaaFrSealF
namespace Go.Proofs.Ytlhcokpkjbjgpaa
open Go.RowKit

def be4 (l : List UInt8) : Nat := (l.take 4).foldl (fun n b => 256 * n + b.toNat) 0
theorem be4_four (a b c d : UInt8) (r : List UInt8) : be4 (a :: b :: c :: d :: r) = ((a.toNat * 256 + b.toNat) * 256 + c.toNat) * 256 + d.toNat := by
  simp [be4]; omega
theorem four_be4 (a b c d : UInt8) : fourB (((a.toNat * 256 + b.toNat) * 256 + c.toNat) * 256 + d.toNat) = [a, b, c, d] := by
  have ha := a.toNat_lt; have hb := b.toNat_lt; have hc := c.toNat_lt; have hd := d.toNat_lt
  unfold fourB
  rw [show (((a.toNat * 256 + b.toNat) * 256 + c.toNat) * 256 + d.toNat) / 16777216 = a.toNat by omega,
    show (((a.toNat * 256 + b.toNat) * 256 + c.toNat) * 256 + d.toNat) / 65536 % 256 = b.toNat by omega,
    show (((a.toNat * 256 + b.toNat) * 256 + c.toNat) * 256 + d.toNat) / 256 % 256 = c.toNat by omega,
    show (((a.toNat * 256 + b.toNat) * 256 + c.toNat) * 256 + d.toNat) % 256 = d.toNat by omega]
  simp
theorem be4_fourB (n : Nat) (h : n < 4294967296) (r : List UInt8) : be4 (fourB n ++ r) = n := by
  unfold fourB
  simp only [List.cons_append, List.nil_append]
  rw [be4_four]
  simp only [UInt8.toNat_ofNat']
  omega
theorem be4_lt (l : List UInt8) : be4 l < 4294967296 := by
  have key : ∀ (l : List UInt8) (k n : Nat), l.length ≤ k → l.foldl (fun n b => 256 * n + b.toNat) n < 256 ^ k * (n + 1) := by
    intro l
    induction l with
    | nil => intro k n _; have := Nat.one_le_pow k 256 (by omega); simp only [List.foldl_nil]; calc n < n + 1 := by omega
        _ = 1 * (n + 1) := by omega
        _ ≤ _ := Nat.mul_le_mul_right _ this
    | cons b l ih =>
      intro k n hk
      obtain ⟨k, rfl⟩ : ∃ k', k = k' + 1 := ⟨k - 1, by simp at hk; omega⟩
      have hb := b.toNat_lt
      have h1 := ih k (256 * n + b.toNat) (by simp at hk; omega)
      simp only [List.foldl_cons]
      refine Nat.lt_of_lt_of_le h1 ?_
      rw [Nat.pow_succ, Nat.mul_assoc]
      exact Nat.mul_le_mul_left _ (by omega)
  have := key (l.take 4) 4 0 (by rw [List.length_take]; omega)
  unfold be4
  omega
theorem list4 (l : List UInt8) (h : 4 ≤ l.length) : ∃ a b c d r, l = a :: b :: c :: d :: r := by
  match l, h with
  | a :: b :: c :: d :: r, _ => exact ⟨a, b, c, d, r, rfl⟩
theorem four_take (l : List UInt8) (h : 4 ≤ l.length) : fourB (be4 l) = l.take 4 := by
  obtain ⟨a, b, c, d, r, rfl⟩ := list4 l h
  rw [be4_four, four_be4]; rfl
theorem be4_get (s : ByteArray) (h : 4 ≤ s.size) : be4 s.data.toList = ((s[0].toNat * 256 + s[1].toNat) * 256 + s[2].toNat) * 256 + s[3].toNat := by
  have h4 : 4 ≤ s.data.toList.length := by simpa using h
  obtain ⟨a, b, c, d, r, e⟩ := list4 s.data.toList h4
  have g : ∀ i (hi : i < s.size), some s[i] = s.data.toList[i]? := fun i hi => by
    rw [List.getElem?_eq_getElem (by simpa using hi)]; rfl
  rw [e, be4_four]
  have e0 := g 0 (by omega); have e1 := g 1 (by omega); have e2 := g 2 (by omega); have e3 := g 3 (by omega)
  rw [e] at e0 e1 e2 e3
  simp at e0 e1 e2 e3
  rw [e0, e1, e2, e3]
theorem or_join (q i y : Nat) (hy : y < 2 ^ i) : (q * 2 ^ i) ||| y = q * 2 ^ i + y := by
  rw [Nat.mul_comm, ← Nat.two_pow_add_eq_or_of_lt hy]
theorem or4 (a b c d : Nat) (ha : a < 256) (hb : b < 256) (hc : c < 256) (hd : d < 256) :
    bits BinOp.or IntKind.u32 (bits BinOp.or IntKind.u32 (bits BinOp.or IntKind.u32 ((a : Int) % 4294967296 * 16777216 % 4294967296) ((b : Int) % 4294967296 * 65536 % 4294967296)) ((c : Int) % 4294967296 * 256 % 4294967296)) ((d : Int) % 4294967296) = ((((a * 256 + b) * 256 + c) * 256 + d : Nat) : Int) := by
  rw [show ((a : Int) % 4294967296 * 16777216 % 4294967296) = ((a * 2 ^ 24 : Nat) : Int) by omega, show ((b : Int) % 4294967296 * 65536 % 4294967296) = ((b * 65536 : Nat) : Int) by omega,
    show ((c : Int) % 4294967296 * 256 % 4294967296) = ((c * 256 : Nat) : Int) by omega, show ((d : Int) % 4294967296) = ((d : Nat) : Int) by omega]
  rw [bits_or_u32_nat _ _ (by omega) (by omega), or_join a 24 (b * 65536) (by omega), show a * 2 ^ 24 + b * 65536 = (a * 256 + b) * 2 ^ 16 by omega,
    bits_or_u32_nat _ _ (by omega) (by omega), or_join (a * 256 + b) 16 (c * 256) (by omega), show (a * 256 + b) * 2 ^ 16 + c * 256 = ((a * 256 + b) * 256 + c) * 2 ^ 8 by omega,
    bits_or_u32_nat _ _ (by omega) (by omega), or_join ((a * 256 + b) * 256 + c) 8 d (by omega)]
set_option maxHeartbeats 400000 in
theorem number_any (w : World) (s : ByteArray) (h : 4 ≤ s.size) :
    Calls Try.prog 23 #[.string s] w fun e w' => e = .returned (.int .u32 (be4 s.data.toList : Int)) ∧ ∃ m, w' = w.drewN m := by
  have k0 : 0 < s.size := by omega
  have k1 : 1 < s.size := by omega
  have k2 : 2 < s.size := by omega
  have k3 : 3 < s.size := by omega
  have h0 : (0 : Int) < (s.size : Int) := by omega
  have h1 : (1 : Int) < (s.size : Int) := by omega
  have h2 : (2 : Int) < (s.size : Int) := by omega
  have h3 : (3 : Int) < (s.size : Int) := by omega
  have hv := or4 s[0].toNat s[1].toNat s[2].toNat s[3].toNat s[0].toNat_lt s[1].toNat_lt s[2].toNat_lt s[3].toNat_lt
  rw [← be4_get s h] at hv
  have HV := Lib.hid hv
  clear hv
  go_enter Try.func23, Try.ntmps23
  go_wp2
  go_quiet (fail)
  go_wp2
  go_ret
  exact ⟨congrArg (fun z => Ending.returned (Value.int .u32 z)) HV.out, _, rfl⟩
end Go.Proofs.Ytlhcokpkjbjgpaa
