/- Frames: four neighbouring bytes that are spoilt give another sum. Plain. -/
import Derived.Test.YtlhcokpkjbjgpaaFrJoins
namespace Go.Proofs.Ytlhcokpkjbjgpaa

theorem xor_even (r t : Nat) : cstep (r ^^^ 2 * t) = cstep r ^^^ t := by
  have h1 : (r ^^^ 2 * t) % 2 = r % 2 := by
    have := Nat.xor_mod_two_pow (a := r) (b := 2 * t) (n := 1)
    rw [Nat.pow_one] at this
    rw [this, Nat.mul_mod_right, Nat.xor_zero]
  have h2 : (r ^^^ 2 * t) / 2 = r / 2 ^^^ t := by
    have := Nat.xor_div_two_pow (a := r) (b := 2 * t) (n := 1)
    rw [Nat.pow_one] at this
    rw [this, Nat.mul_div_cancel_left _ (by omega)]
  unfold cstep
  rw [h1, h2]
  split
  · rw [Nat.xor_assoc, Nat.xor_comm t poly, ← Nat.xor_assoc]
  · rfl
theorem citer_shift : ∀ (k r t : Nat), citer k (r ^^^ 2 ^ k * t) = citer k r ^^^ t
  | 0, r, t => by simp [citer]
  | k + 1, r, t => by
    rw [citer, citer, Nat.pow_succ, Nat.mul_assoc, citer_shift k r (2 * t), xor_even]
theorem citer_add : ∀ (m k r : Nat), citer m (citer k r) = citer (k + m) r
  | 0, k, r => rfl
  | m + 1, k, r => by rw [← Nat.add_assoc, citer, citer, citer_add m k r]
/-- The word of the bytes. -/
def leW : List UInt8 → Nat
  | [] => 0
  | b :: l => b.toNat ^^^ 256 * leW l
theorem fold_word : ∀ (l : List UInt8) (r : Nat), l.foldl cbyte r = citer (8 * l.length) (r ^^^ leW l)
  | [], r => by simp [leW, citer]
  | b :: l, r => by
    rw [List.foldl_cons, fold_word l (cbyte r b), cbyte]
    have h := citer_shift 8 (r ^^^ b.toNat) (leW l)
    rw [show 2 ^ 8 = 256 from rfl] at h
    rw [← h, citer_add, leW, List.length_cons, Nat.xor_assoc, show 8 + 8 * l.length = 8 * (l.length + 1) by omega]
theorem cstep_inj {a b : Nat} (ha : a < 4294967296) (hb : b < 4294967296) (h : cstep a = cstep b) : a = b := by
  have top : ∀ r, r < 4294967296 → (2147483648 ≤ cstep r ↔ r % 2 = 1) := by
    intro r hr
    unfold cstep
    constructor
    · intro h
      by_cases ho : r % 2 = 1
      · exact ho
      · rw [if_neg ho] at h; omega
    · intro ho
      rw [if_pos ho]
      have h1 : (r / 2 ^^^ poly).testBit 31 = true := by
        rw [Nat.testBit_xor]
        have e1 : (r / 2).testBit 31 = false := Nat.testBit_lt_two_pow (by omega)
        have e2 : poly.testBit 31 = true := by decide
        rw [e1, e2]; rfl
      have := Nat.ge_two_pow_of_testBit h1
      omega
  have hp := (top a ha).symm.trans ((by rw [h] : (2147483648 ≤ cstep a) ↔ (2147483648 ≤ cstep b)).trans (top b hb))
  have key : a / 2 = b / 2 := by
    unfold cstep at h
    by_cases ho : a % 2 = 1
    · rw [if_pos ho, if_pos (hp.1 ho)] at h
      have := congrArg (· ^^^ poly) h
      simpa [Nat.xor_assoc] using this
    · rw [if_neg ho, if_neg (fun hb => ho (hp.2 hb))] at h
      exact h
  have : a % 2 = b % 2 := by
    rcases Nat.mod_two_eq_zero_or_one a with h0 | h0
    · rcases Nat.mod_two_eq_zero_or_one b with h1 | h1
      · omega
      · exact absurd (hp.2 h1) (by omega)
    · have := hp.1 h0; omega
  omega
theorem citer_inj : ∀ (k : Nat) {a b : Nat}, a < 4294967296 → b < 4294967296 → citer k a = citer k b → a = b
  | 0, _, _, _, _, h => h
  | k + 1, _, _, ha, hb, h => citer_inj k ha hb (cstep_inj (citer_lt ha k) (citer_lt hb k) h)
theorem leW_lt : ∀ (l : List UInt8), leW l < 256 ^ l.length
  | [] => by simp [leW]
  | b :: l => by
    have h := leW_lt l
    rw [leW, List.length_cons]
    have h1 : (256 : Nat) ^ (l.length + 1) = 2 ^ (8 * (l.length + 1)) := by rw [Nat.pow_mul]
    rw [h1]
    refine Nat.xor_lt_two_pow ?_ ?_
    · have := b.toNat_lt
      have : (2 : Nat) ^ 8 ≤ 2 ^ (8 * (l.length + 1)) := Nat.pow_le_pow_right (by omega) (by omega)
      omega
    · rw [← h1, Nat.pow_succ]; omega
theorem leW_inj : ∀ (x y : List UInt8), x.length = y.length → leW x = leW y → x = y
  | [], [], _, _ => rfl
  | a :: x, b :: y, hl, h => by
    have low : ∀ (c : UInt8) (t : Nat), (c.toNat ^^^ 256 * t) % 256 = c.toNat ∧ (c.toNat ^^^ 256 * t) / 256 = t := by
      intro c t
      have hc := c.toNat_lt
      have h1 := Nat.xor_mod_two_pow (a := c.toNat) (b := 256 * t) (n := 8)
      have h2 := Nat.xor_div_two_pow (a := c.toNat) (b := 256 * t) (n := 8)
      rw [show 2 ^ 8 = 256 from rfl] at h1 h2
      rw [h1, h2, Nat.mul_mod_right, Nat.xor_zero, Nat.mul_div_cancel_left _ (by omega), Nat.div_eq_of_lt (by omega), Nat.zero_xor, Nat.mod_eq_of_lt (by omega)]
      exact ⟨rfl, rfl⟩
    rw [leW, leW] at h
    have ha := low a (leW x)
    have hb := low b (leW y)
    rw [h] at ha
    have e1 : a = b := UInt8.toNat_inj.1 (ha.1.symm.trans hb.1)
    have e2 := leW_inj x y (by simpa using hl) (ha.2.symm.trans hb.2)
    rw [e1, e2]
theorem fold_inj (l : List UInt8) : ∀ {a b : Nat}, a < 4294967296 → b < 4294967296 → l.foldl cbyte a = l.foldl cbyte b → a = b := by
  induction l with
  | nil => intro a b _ _ h; exact h
  | cons c l ih =>
    intro a b ha hb h
    have h1 := ih (cbyte_lt c ha) (cbyte_lt c hb) h
    unfold cbyte at h1
    have hc : c.toNat < 4294967296 := by have := c.toNat_lt; omega
    have h2 := citer_inj 8 (xor_lt ha hc) (xor_lt hb hc) h1
    have := congrArg (· ^^^ c.toNat) h2
    simpa [Nat.xor_assoc] using this
theorem crc_burst (pre x y post : List UInt8) (hl : x.length = y.length) (h4 : x.length ≤ 4) (h : crc (pre ++ x ++ post) = crc (pre ++ y ++ post)) : x = y := by
  unfold crc at h
  rw [List.foldl_append, List.foldl_append, List.foldl_append, List.foldl_append] at h
  have hr := foldl_cbyte_lt pre creg (by unfold creg; omega)
  generalize pre.foldl cbyte creg = r at h hr
  have h1 := fold_inj post (foldl_cbyte_lt x r hr) (foldl_cbyte_lt y r hr) h
  rw [fold_word, fold_word, ← hl] at h1
  have lt : ∀ z : List UInt8, z.length ≤ 4 → leW z < 4294967296 := fun z hz => by
    have h2 := leW_lt z
    have : (256 : Nat) ^ z.length ≤ 256 ^ 4 := Nat.pow_le_pow_right (by omega) hz
    omega
  have h2 := citer_inj _ (xor_lt hr (lt x h4)) (xor_lt hr (lt y (by omega))) h1
  have h3 := congrArg (r ^^^ ·) h2
  simp only [← Nat.xor_assoc, Nat.xor_self, Nat.zero_xor] at h3
  exact leW_inj x y hl h3
theorem sum_burst (pre x y post : List UInt8) (hl : x.length = y.length) (h4 : x.length ≤ 4) (h : sumB (pre ++ x ++ post) = sumB (pre ++ y ++ post)) : x = y := by
  refine crc_burst pre x y post hl h4 ?_
  have h1 := crc_lt (pre ++ x ++ post)
  have h2 := crc_lt (pre ++ y ++ post)
  unfold sumB at h
  omega
/-- i bytes of w laid into l from f on. -/
def patch (l w : List UInt8) (f i : Nat) : List UInt8 := l.take f ++ w.take i ++ l.drop (f + i)
theorem patch_zero (l w : List UInt8) (f : Nat) : patch l w f 0 = l := by simp [patch]
theorem patch_len (l w : List UInt8) (f i : Nat) (h : f + i ≤ l.length) (hw : i ≤ w.length) : (patch l w f i).length = l.length := by
  simp only [patch, List.length_append, List.length_take, List.length_drop]; omega
theorem patch_set (l w : List UInt8) (f i : Nat) (h : f + i < l.length) (hw : i < w.length) : (patch l w f i).set (f + i) w[i] = patch l w f (i + 1) := by
  unfold patch
  rw [List.drop_eq_getElem_cons h, List.take_succ_eq_append_getElem hw]
  have hl : (l.take f ++ w.take i).length = f + i := by simp only [List.length_append, List.length_take]; omega
  rw [List.set_append_right _ _ (by omega), hl, Nat.sub_self, List.set_cons_zero]
  simp only [List.append_assoc, List.cons_append, List.nil_append, Nat.add_assoc]
theorem patch_mid (a b p w : List UInt8) (ha : a.length = 4) (hb : b.length = 4) (hw : w.length = 4) : patch (a ++ b ++ p) w 4 4 = a ++ (w ++ p) := by
  unfold patch
  have h : (a ++ b).length = 8 := by rw [List.length_append, ha, hb]
  rw [List.take_of_length_le (l := w) (by omega), List.drop_left' h, List.append_assoc a b p, List.take_left' ha, List.append_assoc]
theorem patch_end (h p w : List UInt8) (j i : Nat) (h8 : h.length = 8) : patch (h ++ p) w (8 + j) i = h ++ patch p w j i := by
  unfold patch
  have e1 : (h ++ p).take (8 + j) = h ++ p.take j := by rw [← h8, List.take_length_add_append]
  have e2 : (h ++ p).drop (8 + j + i) = p.drop (j + i) := by rw [Nat.add_assoc, ← h8, List.drop_length_add_append]
  rw [e1, e2]
  simp only [List.append_assoc]
theorem be4_congr {a b : List UInt8} (h : a.take 4 = b.take 4) : be4 a = be4 b := by unfold be4; rw [h]
/-- A frame in which up to four neighbouring bytes are laid anew, in its sum or in its payload. -/
theorem spoil (p w : List UInt8) (f i : Nat) (hp : p.length ≤ 65536) (hw : w.length = 4) (hf : f = 4 ∨ ∃ j, j < p.length ∧ f = 8 + j) (hi : i ≤ 4) (hfi : f + i ≤ (frameB p).length) (h4 : f = 4 → i = 4) (hne : patch (frameB p) w f i ≠ frameB p) :
    firstR (patch (frameB p) w f i) 0 = ([], 0, 1) := by
  have hl := frameB_len p
  have hpl := patch_len (frameB p) w f i hfi (by omega)
  have hin := first_in (l := patch (frameB p) w f i) (k := 0) (by omega)
  rw [show ((0 : Nat) : Int) = 0 from rfl] at hin
  rw [hin]
  have e1 : frameB p = fourB p.length ++ fourB (sumB (fourB p.length ++ p)) ++ p := rfl
  rcases hf with rfl | ⟨j, hj, rfl⟩
  · obtain rfl := h4 rfl
    have e2 : patch (frameB p) w 4 4 = fourB p.length ++ (w ++ p) := patch_mid _ _ p w (fourB_len _) (fourB_len _) hw
    have hb : be4 (patch (frameB p) w 4 4) = p.length := by rw [e2]; exact be4_fourB _ (by omega) _
    refine at_bad (l := patch (frameB p) w 4 4) (k := 0) (r := patch (frameB p) w 4 4) rfl ?_
    rw [hb]
    have e3 : (patch (frameB p) w 4 4).take 4 = fourB p.length := by rw [e2]; exact List.take_left' (fourB_len _)
    have e4 : ((patch (frameB p) w 4 4).drop 8).take p.length = p := by
      rw [e2, ← List.append_assoc, List.drop_left' (by rw [List.length_append, fourB_len, hw]), List.take_of_length_le (Nat.le_refl _)]
    have e5 : (patch (frameB p) w 4 4).drop 4 = w ++ p := by rw [e2]; exact List.drop_left' (fourB_len _)
    rw [e3, e4, e5]
    intro hs
    apply hne
    have e6 : be4 (w ++ p) = be4 w := be4_congr (by rw [List.take_append_of_le_length (by omega)])
    have e7 := four_take w (by omega)
    rw [← e6, ← hs, List.take_of_length_le (by omega)] at e7
    rw [e2, e1, ← e7, List.append_assoc]
  · have hij : j + i ≤ p.length := by omega
    have e2 : patch (frameB p) w (8 + j) i = fourB p.length ++ fourB (sumB (fourB p.length ++ p)) ++ patch p w j i := patch_end _ p w j i (by rw [List.length_append]; rfl)
    have hp2 := patch_len p w j i hij (by omega)
    have hb : be4 (patch (frameB p) w (8 + j) i) = p.length := by rw [e2, List.append_assoc]; exact be4_fourB _ (by omega) _
    refine at_bad (l := patch (frameB p) w (8 + j) i) (k := 0) (r := patch (frameB p) w (8 + j) i) rfl ?_
    rw [hb]
    have e3 : (patch (frameB p) w (8 + j) i).take 4 = fourB p.length := by rw [e2, List.append_assoc]; exact List.take_left' (fourB_len _)
    have e4 : ((patch (frameB p) w (8 + j) i).drop 8).take p.length = patch p w j i := by
      rw [e2, List.drop_left' (by rw [List.length_append]; rfl), List.take_of_length_le (by omega)]
    have e5 : be4 ((patch (frameB p) w (8 + j) i).drop 4) = sumB (fourB p.length ++ p) := by
      rw [e2, List.append_assoc, List.drop_left' (fourB_len _)]
      exact be4_fourB _ (sumB_lt _) _
    rw [e3, e4, e5]
    intro hs
    apply hne
    rw [e2, e1]
    congr 1
    have e6 : p = p.take j ++ (p.drop j).take i ++ p.drop (j + i) := by
      rw [List.append_assoc, ← List.drop_drop, List.take_append_drop, List.take_append_drop]
    have hx : (w.take i).length = ((p.drop j).take i).length := by simp only [List.length_take, List.length_drop]; omega
    have h7 := sum_burst (fourB p.length ++ p.take j) (w.take i) ((p.drop j).take i) (p.drop (j + i)) hx (by rw [List.length_take]; omega) (by
      have h8 : fourB p.length ++ p.take j ++ (p.drop j).take i ++ p.drop (j + i) = fourB p.length ++ p := by
        rw [List.append_assoc, List.append_assoc, ← List.append_assoc (p.take j), ← e6]
      rw [h8, ← hs]
      unfold patch
      simp only [List.append_assoc])
    unfold patch
    rw [h7]
    exact e6.symm
end Go.Proofs.Ytlhcokpkjbjgpaa
