/- Keys: the reference's part and Split, in plain words. -/
import Derived.Test.YtaphfjomlignhaaDoorOrSplit
import Derived.Test.YtaphfjomlignhaaDoorOrCmpP
namespace Go.Proofs.YtaphfjomlignhaaDoor
/-- What the reference's part answers. -/
def PartAns (l : List UInt8) (p : Nat) (x : Pt) (q : Nat) : Prop :=
  x.right ∧ x.fits ∧ p < q ∧ q ≤ l.length + 9 ∧ (partK x).length ≤ 9 * (q - p) ∧ x.text.size ≤ l.length ∧
    ∀ (y : Pt) c, y.right → y.fits → l.drop p = partK y ++ c → y = x ∧ q = p + (partK y).length
/-- What the reading of a text keeps. -/
def TxtSt (l : List UInt8) (p : Nat) (t : List UInt8) (i : Nat) : Prop :=
  p + 1 + t.length ≤ i ∧ ∀ t' c, l.drop (p + 1) = esc t' ++ (0 :: 0 :: c) → ∃ t'', t' = t ++ t'' ∧ l.drop i = esc t'' ++ (0 :: 0 :: c)
theorem txtSt_start (l : List UInt8) (p : Nat) : TxtSt l p [] (p + 1) := ⟨by simp, fun t' c h => ⟨t', rfl, h⟩⟩
theorem txtSt_ne {l t : List UInt8} {p i : Nat} (h : TxtSt l p t i) (hi : i < l.length) (h0 : l[i] ≠ 0) : TxtSt l p (t ++ [l[i]]) (i + 1) := by
  refine ⟨by have := h.1; simp; omega, fun t' c ht => ?_⟩
  obtain ⟨t'', h1, h2⟩ := h.2 t' c ht
  rw [List.drop_eq_getElem_cons hi] at h2
  cases t'' with
  | nil =>
    have h4 : l[i] :: l.drop (i + 1) = 0 :: 0 :: c := h2
    injection h4 with h5 _
    exact absurd h5 h0
  | cons a t'' =>
    by_cases ha : a = 0
    · subst ha; rw [esc_zero] at h2
      injection h2 with h5 _
      exact absurd h5 h0
    · rw [esc_ne a ha] at h2
      simp only [List.cons_append, List.cons.injEq] at h2
      exact ⟨t'', by rw [h1, h2.1]; simp, h2.2⟩
theorem txtSt_zero {l t : List UInt8} {p i : Nat} (h : TxtSt l p t i) (hi : i + 1 < l.length) (h0 : l[i]'(by omega) = 0) (h1 : l[i + 1] ≠ 0) : TxtSt l p (t ++ [0]) (i + 2) := by
  refine ⟨by have := h.1; simp; omega, fun t' c ht => ?_⟩
  obtain ⟨t'', h3, h2⟩ := h.2 t' c ht
  rw [List.drop_eq_getElem_cons (show i < l.length by omega), List.drop_eq_getElem_cons hi, h0] at h2
  cases t'' with
  | nil =>
    have h4 : (0 : UInt8) :: l[i + 1] :: l.drop (i + 1 + 1) = 0 :: 0 :: c := h2
    injection h4 with _ h5
    injection h5 with h6 _
    exact absurd h6 h1
  | cons a t'' =>
    by_cases ha : a = 0
    · subst ha; rw [esc_zero] at h2
      have h4 : (0 : UInt8) :: l[i + 1] :: l.drop (i + 2) = 0 :: 255 :: (esc t'' ++ (0 :: 0 :: c)) := h2
      injection h4 with _ h5
      injection h5 with _ h7
      exact ⟨t'', by rw [h3]; simp, h7⟩
    · rw [esc_ne a ha] at h2
      injection h2 with h4 _
      exact absurd h4.symm ha
theorem pt2_right (t : ByteArray) : Pt.right ⟨2, 0, t⟩ := .inr ⟨rfl, rfl⟩
theorem pt1_right (n : Int) : Pt.right ⟨1, n, ⟨#[]⟩⟩ := .inl ⟨rfl, rfl⟩
theorem esc_le (l : List UInt8) : (esc l).length ≤ 2 * l.length := by
  induction l with
  | nil => simp [esc]
  | cons a l ih => rw [esc_cons, List.length_append, List.length_cons]; split <;> simp <;> omega
theorem txt_ans {l : List UInt8} {p i : Nat} {t : ByteArray} (hp : p < l.length) (h1 : l[p] ≠ 1) (h : TxtSt l p t.data.toList i) (hi : i ≤ l.length)
    (hend : l.length ≤ i + 1 ∨ ∃ h : i + 1 < l.length, l[i]'(by omega) = 0 ∧ l[i + 1] = 0) : PartAns l p ⟨2, 0, t⟩ (i + 2) := by
  have hts : t.data.toList.length = t.size := by simp
  have hle := h.1
  have he := esc_le t.data.toList
  have hpk : (partK ⟨2, 0, t⟩).length = 3 + (esc t.data.toList).length := by
    rw [show partK ⟨2, 0, t⟩ = 2 :: (esc t.data.toList ++ [0, 0]) from rfl]; simp; omega
  refine ⟨pt2_right t, ⟨by show (-9223372036854775808 : Int) ≤ 0; decide, by show (0 : Int) ≤ 9223372036854775807; decide⟩, by omega, by omega, by rw [hpk]; omega, by show t.size ≤ _; omega, ?_⟩
  rintro ⟨K, N, T⟩ c hr hf hd
  rw [List.drop_eq_getElem_cons hp] at hd
  rcases hr with ⟨hk, _⟩ | ⟨hk, hn⟩
  · simp only at hk
    subst hk
    rw [show partK ⟨1, N, T⟩ = 1 :: be8 (upN N) from rfl] at hd
    injection hd with hd _
    exact absurd hd h1
  · simp only at hk hn
    subst hk; subst hn
    rw [show partK ⟨2, 0, T⟩ = 2 :: (esc T.data.toList ++ [0, 0]) from rfl] at hd
    simp only [List.cons_append, List.append_assoc, List.cons.injEq, List.nil_append] at hd
    obtain ⟨_, hd⟩ := hd
    obtain ⟨t'', h3, h4⟩ := h.2 _ _ hd
    have hl4 := congrArg List.length h4
    simp only [List.length_drop, List.length_append, List.length_cons] at hl4
    rcases hend with hend | ⟨hlt, z0, z1⟩
    · omega
    · rw [List.drop_eq_getElem_cons (show i < l.length by omega), List.drop_eq_getElem_cons hlt, z0, z1] at h4
      have ht : t'' = [] := by
        cases t'' with
        | nil => rfl
        | cons a t'' =>
          by_cases ha : a = 0
          · subst ha; rw [esc_zero] at h4
            have h5 : (0 : UInt8) :: 0 :: l.drop (i + 2) = 0 :: 255 :: (esc t'' ++ (0 :: 0 :: c)) := h4
            injection h5 with _ h6
            injection h6 with h7 _
            exact absurd h7 (by decide)
          · rw [esc_ne a ha] at h4
            injection h4 with h5 _
            exact absurd h5.symm ha
      subst ht
      rw [List.append_nil] at h3
      have hT : T = t := by
        apply ByteArray.ext; apply Array.ext'; exact h3
      subst hT
      refine ⟨rfl, ?_⟩
      have hl := congrArg List.length hd
      simp only [List.length_drop, List.length_append, List.length_cons, esc, List.flatMap_nil, List.length_nil] at hl hl4
      rw [hpk]
      simp only [esc]
      omega
/-- The number that bytes say. -/
def numOf (u : Nat) : Int := (u : Int) - 9223372036854775808
theorem num_ans {l : List UInt8} {p i : Nat} (hp : p < l.length) (h1 : l[p] = 1) (hi : i ≤ 8) (hend : i = 8 ∨ p + 1 + i = l.length) (N : Int) (hN : N = numOf (unB ((l.drop (p + 1)).take i))) : PartAns l p ⟨1, N, ⟨#[]⟩⟩ (p + 9) := by
  have hpk : ∀ n T, (partK ⟨1, n, T⟩).length = 9 := fun n T => by rw [show partK ⟨1, n, T⟩ = 1 :: be8 (upN n) from rfl]; simp [be8_len]
  have hb := unB_pow ((l.drop (p + 1)).take i)
  have hb2 : unB ((l.drop (p + 1)).take i) < 18446744073709551616 := by
    refine Nat.lt_of_lt_of_le hb ?_
    refine Nat.le_trans (Nat.pow_le_pow_right (by decide) (List.length_take_le _ _)) ?_
    exact Nat.pow_le_pow_right (n := 256) (by decide) hi
  refine ⟨pt1_right N, ⟨by show _ ≤ N; rw [hN]; unfold numOf; omega, by show N ≤ _; rw [hN]; unfold numOf; omega⟩, by omega, by omega, by rw [hpk]; omega, Nat.zero_le _, ?_⟩
  rintro ⟨K, M, T⟩ c hr hf hd
  rw [List.drop_eq_getElem_cons hp, h1] at hd
  rcases hr with ⟨hk, ht⟩ | ⟨hk, hn⟩
  · simp only at hk ht
    subst hk
    have hT := empty_ba ht
    subst hT
    rw [show partK ⟨1, M, ⟨#[]⟩⟩ = 1 :: be8 (upN M) from rfl] at hd
    simp only [List.cons_append, List.cons.injEq, true_and] at hd
    have hl := congrArg List.length hd
    simp only [List.length_drop, List.length_append, be8_len] at hl
    have hi8 : i = 8 := by omega
    subst hi8
    have ht8 : (l.drop (p + 1)).take 8 = be8 (upN M) := by rw [hd, List.take_left' (be8_len _)]
    have hM := hf
    have hm1 : -9223372036854775808 ≤ M := hM.1
    have hm2 : M ≤ 9223372036854775807 := hM.2
    rw [ht8, unB_be8 _ (up_lt M hm2)] at hN
    have : N = M := by rw [hN]; unfold numOf upN; omega
    subst this
    exact ⟨rfl, by rw [hpk]⟩
  · simp only at hk hn
    subst hk
    rw [show partK ⟨2, M, T⟩ = 2 :: (esc T.data.toList ++ [0, 0]) from rfl] at hd
    injection hd with hd _
    exact absurd hd (by decide)
/-- What the reference's Split keeps. -/
def RSt (l : List UInt8) (ps : List Pt) (p : Nat) : Prop :=
  allR ps ∧ allF ps ∧ (∀ x ∈ ps, x.text.size ≤ l.length) ∧ ps.length ≤ p ∧ ps.length ≤ l.length ∧ (bytesK ps).length ≤ 9 * p ∧ p ≤ l.length + 9 ∧
    ∀ qs, allR qs → allF qs → bytesK qs = l → ∃ rs, qs = ps ++ rs ∧ l.drop p = bytesK rs
theorem rst_start (l : List UInt8) : RSt l [] 0 := ⟨by intro x hx; simp at hx, by intro x hx; simp at hx, by intro x hx; simp at hx, by simp, by simp, by simp [bytesK], by omega, fun qs _ _ h => ⟨qs, rfl, by simp [h]⟩⟩
theorem rst_step {l : List UInt8} {ps : List Pt} {p q : Nat} {x : Pt} (h : RSt l ps p) (hp : p < l.length) (ha : PartAns l p x q) : RSt l (ps ++ [x]) q := by
  obtain ⟨h1, h2, h3, h4, h5, h6, h7, h8⟩ := h
  obtain ⟨a1, a2, a3, a4, a5, a6, a7⟩ := ha
  refine ⟨fun y hy => ?_, fun y hy => ?_, fun y hy => ?_, by simp; omega, by simp; omega, ?_, a4, fun qs r1 r2 r3 => ?_⟩
  · rcases List.mem_append.1 hy with hy | hy
    · exact h1 y hy
    · rw [List.mem_singleton.1 hy]; exact a1
  · rcases List.mem_append.1 hy with hy | hy
    · exact h2 y hy
    · rw [List.mem_singleton.1 hy]; exact a2
  · rcases List.mem_append.1 hy with hy | hy
    · exact h3 y hy
    · rw [List.mem_singleton.1 hy]; exact a6
  · rw [bytesK_append, List.length_append, show bytesK [x] = partK x by simp [bytesK]]; omega
  · obtain ⟨rs, e1, e2⟩ := h8 qs r1 r2 r3
    cases rs with
    | nil =>
      have := congrArg List.length e2
      simp [bytesK] at this; omega
    | cons y rs =>
      rw [bytesK_cons] at e2
      obtain ⟨e3, e4⟩ := a7 y _ (r1 y (by rw [e1]; simp)) (r2 y (by rw [e1]; simp)) e2
      refine ⟨rs, by rw [e1, e3]; simp, ?_⟩
      rw [e4, ← List.drop_drop, e2, List.drop_left]
theorem rst_end {l : List UInt8} {ps : List Pt} {p : Nat} (h : RSt l ps p) (hp : l.length ≤ p) : (bytesK ps = l ∧ SplitAns l ps 0) ∨ (bytesK ps ≠ l ∧ SplitAns l [] 3) := by
  obtain ⟨h1, h2, h3, h4, h5, h6, h7, h8⟩ := h
  by_cases he : bytesK ps = l
  · exact .inl ⟨he, .inl ⟨rfl, h1, h2, he.symm, h3, h5⟩⟩
  · refine .inr ⟨he, .inr ⟨rfl, rfl, fun qs r1 r2 r3 => ?_⟩⟩
    obtain ⟨rs, e1, e2⟩ := h8 qs r1 r2 r3.symm
    rw [List.drop_of_length_le hp] at e2
    cases rs with
    | nil => rw [List.append_nil] at e1; exact he (by rw [← e1, r3])
    | cons y rs =>
      rw [bytesK_cons] at e2
      have := congrArg List.length e2
      have hn := partK_ne y
      cases hk : partK y with
      | nil => exact hn hk
      | cons a b => rw [hk] at this; simp at this
end Go.Proofs.YtaphfjomlignhaaDoor
