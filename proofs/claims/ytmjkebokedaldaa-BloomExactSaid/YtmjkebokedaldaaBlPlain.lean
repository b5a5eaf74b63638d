/- Bloom, plain: the code's filter is the reference's; what it answers. -/
import Derived.Test.YtmjkebokedaldaaBlRef
namespace Go.Proofs.Ytmjkebokedaldaa

theorem fbit_eq (l : List UInt8) (p : Nat) : fbit l p = (l.getD (p / 8) 0).toNat.testBit (p % 8) := by
  unfold fbit hv
  rw [Nat.testBit_eq_decide_div_mod_eq]
  rfl
theorem getD_set {α : Type} (l : List α) (i j : Nat) (a d : α) (h : i < l.length) : (l.set i a).getD j d = if i = j then a else l.getD j d := by
  rw [List.getD_eq_getElem?_getD, List.getElem?_set, List.getD_eq_getElem?_getD]
  by_cases e : i = j
  · subst e; simp [h]
  · simp [e]
theorem fbit_setb (l : List UInt8) (p q : Nat) (h : p / 8 < l.length) : fbit (setb l p) q = (fbit l q || p == q) := by
  rw [fbit_eq, fbit_eq]
  unfold setb
  rw [getD_set _ _ _ _ _ h]
  have hlt : (l.getD (p / 8) 0).toNat ||| 2 ^ (p % 8) < 2 ^ 8 := Nat.or_lt_two_pow (UInt8.toNat_lt _) (Nat.pow_lt_pow_right (by omega) (by omega))
  by_cases e : p / 8 = q / 8
  · rw [if_pos e, UInt8.toNat_ofNat', Nat.mod_eq_of_lt (by omega), Nat.testBit_or, Nat.testBit_two_pow, e]
    congr 1
    rw [Bool.eq_iff_iff]
    simp only [decide_eq_true_eq, beq_iff_eq]
    omega
  · rw [if_neg e]
    have : (p == q) = false := by rw [beq_eq_false_iff_ne]; intro h; exact e (by rw [h])
    rw [this, Bool.or_false]
theorem fbit_setk (m h : Nat) (l : List UInt8) (hm : m = 8 * l.length) (h0 : 0 < m) (j q : Nat) : fbit (setk m h j l) q = (fbit l q || (List.range j).any fun i => prb h i m == q) := by
  induction j with
  | zero => simp [setk]
  | succ j ih =>
    have hp := prb_lt h j m h0
    rw [setk, fbit_setb _ _ _ (by rw [setk_length]; omega), ih, List.range_succ, List.any_append]
    simp [Bool.or_assoc]
/-- The probes of the keys, as a question. -/
def hit (m : Nat) (ks : List ByteArray) (q : Nat) : Bool := ks.any fun k => (List.range 4).any fun i => prb (hsh k.data.toList) i m == q
theorem fbit_fold (m : Nat) (h0 : 0 < m) (ks : List ByteArray) : ∀ l : List UInt8, m = 8 * l.length → ∀ q, fbit (ks.foldl (fun l k => setk m (hsh k.data.toList) 4 l) l) q = (fbit l q || hit m ks q) := by
  induction ks with
  | nil => intro l _ q; simp [hit]
  | cons k ks ih =>
    intro l hm q
    rw [List.foldl_cons, ih _ (by rw [setk_length]; exact hm), fbit_setk m _ l hm h0]
    simp [hit, Bool.or_assoc]
theorem getD_replicate {α : Type} (n i : Nat) (a : α) : (List.replicate n a).getD i a = a := by
  rw [List.getD_eq_getElem?_getD, List.getElem?_replicate]; split <;> rfl
theorem fbit_bldTo (N : Nat) (h0 : 0 < N) (ks : List ByteArray) (q : Nat) : fbit (bldTo N ks) q = hit (8 * N) ks q := by
  unfold bldTo
  rw [fbit_fold (8 * N) (by omega) ks _ (by simp)]
  rw [fbit_eq, getD_replicate]
  simp
theorem bytes_ext (a b : List UInt8) (hl : a.length = b.length) (h : ∀ q, q < 8 * a.length → fbit a q = fbit b q) : a = b := by
  apply List.ext_getElem hl
  intro i h1 h2
  apply UInt8.toNat.inj
  apply Nat.eq_of_testBit_eq
  intro j
  by_cases hj : j < 8
  · have := h (8 * i + j) (by omega)
    rw [fbit_eq, fbit_eq, show (8 * i + j) / 8 = i by omega, show (8 * i + j) % 8 = j by omega] at this
    rw [List.getD_eq_getElem?_getD, List.getElem?_eq_getElem h1, List.getD_eq_getElem?_getD, List.getElem?_eq_getElem h2] at this
    exact this
  · have hp : 2 ^ 8 ≤ 2 ^ j := Nat.pow_le_pow_right (by omega) (by omega)
    have ha := a[i].toNat_lt
    have hb := b[i].toNat_lt
    rw [Nat.testBit_lt_two_pow (by omega), Nat.testBit_lt_two_pow (by omega)]
theorem rsk_getD (m h : Nat) (l : List Bool) (hm : m = l.length) (h0 : 0 < m) (j q : Nat) : (rsk m h j l).getD q false = (l.getD q false || (List.range j).any fun i => prb h i m == q) := by
  induction j with
  | zero => simp [rsk]
  | succ j ih =>
    have hp := prb_lt h j m h0
    rw [rsk, getD_set _ _ _ _ _ (by rw [rsk_length]; omega), ih, List.range_succ, List.any_append]
    by_cases e : prb h j m = q
    · simp [e]
    · have e' : (prb h j m == q) = false := beq_eq_false_iff_ne.2 e
      simp [e, e']
theorem rst_fold (m : Nat) (h0 : 0 < m) (ks : List ByteArray) : ∀ l : List Bool, m = l.length → ∀ q, (ks.foldl (fun l k => rsk m (hsh k.data.toList) 4 l) l).getD q false = (l.getD q false || hit m ks q) := by
  induction ks with
  | nil => intro l _ q; simp [hit]
  | cons k ks ih =>
    intro l hm q
    rw [List.foldl_cons, ih _ (by rw [rsk_length]; exact hm), rsk_getD m _ l hm h0]
    simp [hit, Bool.or_assoc]
theorem rst_getD (N : Nat) (h0 : 0 < N) (ks : List ByteArray) (q : Nat) : (rst N ks).getD q false = hit (8 * N) ks q := by
  unfold rst
  rw [rst_fold (8 * N) (by omega) ks _ (by simp), getD_replicate]
  simp
theorem pk_testBit (P : List Bool) (i t : Nat) : ∀ s, s < t → t ≤ 8 → (pk P i t).testBit s = P.getD (8 * i + (7 - (t - 1 - s))) false := by
  induction t with
  | zero => intro s hs; omega
  | succ t ih =>
    intro s hs ht
    rw [pk]
    cases s with
    | zero =>
      rw [Nat.testBit_zero, show t + 1 - 1 - 0 = t by omega]
      cases P.getD (8 * i + (7 - t)) false <;> simp
    | succ s =>
      rw [Nat.testBit_succ, show (2 * pk P i t + if P.getD (8 * i + (7 - t)) false = true then 1 else 0) / 2 = pk P i t by split <;> omega, ih s (by omega) (by omega)]
      congr 3
      omega
theorem fbit_pks (P : List Bool) (n q : Nat) (hq : q < 8 * n) : fbit (pks P n) q = P.getD q false := by
  have hi : q / 8 < n := by omega
  rw [fbit_eq]
  unfold pks
  rw [List.getD_eq_getElem?_getD, List.getElem?_map, List.getElem?_range hi]
  simp only [Option.map_some, Option.getD_some]
  have h1 := pk_lt P (q / 8) 8
  rw [UInt8.toNat_ofNat', Nat.mod_eq_of_lt (by omega), pk_testBit P _ 8 _ (by omega) (by omega)]
  congr 1
  omega
theorem blen_pos {n : Nat} (h : 0 < n) : 0 < blen n := by unfold blen; omega
theorem bld_length (ks : List ByteArray) : (bld ks).length = if ks = [] then 0 else blen ks.length := by
  unfold bld; split
  · rfl
  · rw [bldTo_length]
theorem length_pos_of {α : Type} {l : List α} (h : l ≠ []) : 0 < l.length := List.length_pos_iff.2 h
/-- P7.1: the two filters are one. -/
theorem rbld_eq (ks : List ByteArray) : rbld ks = bld ks := by
  unfold rbld bld
  split
  · rfl
  · rename_i h
    have h0 := blen_pos (length_pos_of h)
    refine bytes_ext _ _ (by rw [pks_length, bldTo_length]) (fun q hq => ?_)
    rw [pks_length] at hq
    rw [fbit_pks _ _ _ hq, rst_getD _ h0, fbit_bldTo _ h0]
/-- P7.2: none of its keys is denied. -/
theorem may_bld (ks : List ByteArray) (k : ByteArray) (hk : k ∈ ks) : may (bld ks) k.data.toList = true := by
  have hne : ks ≠ [] := fun e => by rw [e] at hk; cases hk
  have h0 := blen_pos (length_pos_of hne)
  have hb : bld ks = bldTo (blen ks.length) ks := by unfold bld; rw [if_neg hne]
  rw [hb]
  refine may_yes (by rw [bldTo_length]; omega) (fun i hi => ?_)
  rw [bldTo_length, fbit_bldTo _ h0]
  unfold hit
  rw [List.any_eq_true]
  refine ⟨k, hk, ?_⟩
  rw [List.any_eq_true]
  exact ⟨i, by simpa using hi, by simp⟩
theorem bld_reverse (ks : List ByteArray) : bld ks.reverse = bld ks := by
  unfold bld
  by_cases h : ks = []
  · simp [h]
  · rw [if_neg (by simpa using h), if_neg h, List.length_reverse]
    have h0 := blen_pos (length_pos_of h)
    refine bytes_ext _ _ (by rw [bldTo_length, bldTo_length]) (fun q _ => ?_)
    rw [fbit_bldTo _ h0, fbit_bldTo _ h0]
    simp [hit]
theorem bld_nil_iff (ks : List ByteArray) : bld ks = [] ↔ ks = [] := by
  constructor
  · intro h
    have := congrArg List.length h
    rw [bld_length] at this
    split at this
    · assumption
    · rename_i hn
      have := blen_pos (length_pos_of hn)
      simp_all
  · rintro rfl; rfl
/-- P7.3: with more bits set nothing more is denied. -/
def orb (a b : List UInt8) : List UInt8 := (List.range a.length).map fun i => if i < b.length then UInt8.ofNat ((a.getD i 0).toNat ||| (b.getD i 0).toNat) else a.getD i 0
theorem orb_length (a b : List UInt8) : (orb a b).length = a.length := by simp [orb]
theorem orb_nil (b : List UInt8) : orb [] b = [] := rfl
theorem fbit_orb (a b : List UInt8) (q : Nat) (hq : q < 8 * a.length) (h : fbit a q = true) : fbit (orb a b) q = true := by
  have hi : q / 8 < a.length := by omega
  rw [fbit_eq] at *
  unfold orb
  rw [List.getD_eq_getElem?_getD, List.getElem?_map, List.getElem?_range hi]
  simp only [Option.map_some, Option.getD_some]
  split
  · have hlt : (a.getD (q / 8) 0).toNat ||| (b.getD (q / 8) 0).toNat < 2 ^ 8 := Nat.or_lt_two_pow (UInt8.toNat_lt _) (UInt8.toNat_lt _)
    rw [UInt8.toNat_ofNat', Nat.mod_eq_of_lt (by omega), Nat.testBit_or, h, Bool.true_or]
  · exact h
theorem may_orb (a b key : List UInt8) (h : may a key = true) : may (orb a b) key = true := by
  by_cases h0 : a = []
  · rw [h0, may_nil] at h; cases h
  · have hp := length_pos_of h0
    unfold may at h
    rw [if_neg h0, List.all_eq_true] at h
    refine may_yes (by rw [orb_length]; omega) (fun i hi => ?_)
    rw [orb_length]
    exact fbit_orb a b _ (prb_lt _ _ _ (by omega)) (h i (by simpa using hi))
end Go.Proofs.Ytmjkebokedaldaa
