/- Keys: what bytes are the key of parts, in plain words. -/
import Derived.Test.YtaphfjomlignhaaDoorOrKey
namespace Go.Proofs.YtaphfjomlignhaaDoor
/-- Bytes as a number, the highest ahead. -/
def unB (l : List UInt8) : Nat := l.foldl (fun n b => 256 * n + b.toNat) 0
theorem unB_snoc (l : List UInt8) (b : UInt8) : unB (l ++ [b]) = 256 * unB l + b.toNat := by simp [unB]
theorem list8 (l : List UInt8) (h : 8 ≤ l.length) : ∃ a b c d e f g i r, l = a :: b :: c :: d :: e :: f :: g :: i :: r := by
  match l, h with
  | a :: b :: c :: d :: e :: f :: g :: i :: r, _ => exact ⟨a, b, c, d, e, f, g, i, r, rfl⟩
theorem unB8 (a b c d e f g i : UInt8) : unB [a, b, c, d, e, f, g, i] = ((((((a.toNat * 256 + b.toNat) * 256 + c.toNat) * 256 + d.toNat) * 256 + e.toNat) * 256 + f.toNat) * 256 + g.toNat) * 256 + i.toNat := by
  simp [unB]; omega
theorem be8_eq (u : Nat) : be8 u = [UInt8.ofNat (u / 72057594037927936), UInt8.ofNat (u / 281474976710656), UInt8.ofNat (u / 1099511627776), UInt8.ofNat (u / 4294967296), UInt8.ofNat (u / 16777216), UInt8.ofNat (u / 65536), UInt8.ofNat (u / 256), UInt8.ofNat u] := by
  simp [be8, List.range_succ]
theorem be8_unB (l : List UInt8) (h : l.length = 8) : be8 (unB l) = l := by
  obtain ⟨a, b, c, d, e, f, g, i, r, rfl⟩ := list8 l (by omega)
  have hr : r = [] := by simp at h; exact h
  subst hr
  have ha := a.toNat_lt; have hb := b.toNat_lt; have hc := c.toNat_lt; have hd := d.toNat_lt
  have he := e.toNat_lt; have hf := f.toNat_lt; have hg := g.toNat_lt; have hi := i.toNat_lt
  rw [unB8, be8_eq]
  have key : ∀ (x : UInt8) (n : Nat), n % 256 = x.toNat → UInt8.ofNat n = x := fun x n h => UInt8.toNat_inj.1 (by rw [UInt8.toNat_ofNat']; exact h)
  rw [key a _ (by omega), key b _ (by omega), key c _ (by omega), key d _ (by omega), key e _ (by omega), key f _ (by omega), key g _ (by omega), key i _ (by omega)]
theorem unB_be8 (u : Nat) (h : u < 18446744073709551616) : unB (be8 u) = u := by
  rw [be8_eq, unB8]
  simp only [UInt8.toNat_ofNat']
  omega
theorem unB_lt (l : List UInt8) (h : l.length = 8) : unB l < 18446744073709551616 := by
  obtain ⟨a, b, c, d, e, f, g, i, r, rfl⟩ := list8 l (by omega)
  have hr : r = [] := by simp at h; exact h
  subst hr
  have ha := a.toNat_lt; have hb := b.toNat_lt; have hc := c.toNat_lt; have hd := d.toNat_lt
  have he := e.toNat_lt; have hf := f.toNat_lt; have hg := g.toNat_lt; have hi := i.toNat_lt
  rw [unB8]; omega
theorem esc_zero (l : List UInt8) : esc (0 :: l) = 0 :: 255 :: esc l := by rw [esc_cons, if_pos rfl]; rfl
theorem esc_ne (b : UInt8) (h : b ≠ 0) (l : List UInt8) : esc (b :: l) = b :: esc l := by rw [esc_cons, if_neg h]; rfl
theorem esc_append (a b : List UInt8) : esc (a ++ b) = esc a ++ esc b := by simp [esc]
theorem text_free : ∀ (t t' c c' : List UInt8), esc t ++ (0 :: 0 :: c) = esc t' ++ (0 :: 0 :: c') → t = t' ∧ c = c' := by
  intro t
  induction t with
  | nil =>
    intro t' c c' h
    cases t' with
    | nil => simpa [esc] using h
    | cons b t' =>
      by_cases hb : b = 0
      · subst hb; rw [esc_zero] at h; simp [esc] at h
      · rw [esc_ne b hb] at h; simp [esc] at h; exact absurd h.1.symm hb
  | cons a t ih =>
    intro t' c c' h
    cases t' with
    | nil =>
      by_cases ha : a = 0
      · subst ha; rw [esc_zero] at h; simp [esc] at h
      · rw [esc_ne a ha] at h; simp [esc] at h; exact absurd h.1 ha
    | cons b t' =>
      by_cases ha : a = 0 <;> by_cases hb : b = 0
      · subst ha; subst hb
        rw [esc_zero, esc_zero] at h
        simp at h
        obtain ⟨h1, h2⟩ := ih t' c c' h
        exact ⟨by rw [h1], h2⟩
      · subst ha
        rw [esc_zero, esc_ne b hb] at h
        simp at h; exact absurd h.1.symm hb
      · subst hb
        rw [esc_zero, esc_ne a ha] at h
        simp at h; exact absurd h.1 ha
      · rw [esc_ne a ha, esc_ne b hb] at h
        simp at h
        obtain ⟨h1, h2⟩ := ih t' c c' h.2
        exact ⟨by rw [h.1, h1], h2⟩
def Pt.fits (x : Pt) : Prop := -9223372036854775808 ≤ x.num ∧ x.num ≤ 9223372036854775807
theorem empty_ba {s : ByteArray} (h : s.size = 0) : s = ⟨#[]⟩ := by
  have : s.data.toList = [] := List.eq_nil_of_length_eq_zero (by simpa using h)
  apply ByteArray.ext; apply Array.ext'; simpa using this
theorem partK_free {x y : Pt} (hx : x.right) (hy : y.right) (fx : x.fits) (fy : y.fits) {c c' : List UInt8} (h : partK x ++ c = partK y ++ c') : x = y ∧ c = c' := by
  obtain ⟨K, N, T⟩ := x
  obtain ⟨K', N', T'⟩ := y
  rcases hx with ⟨h1, h2⟩ | ⟨h1, h2⟩ <;> rcases hy with ⟨h3, h4⟩ | ⟨h3, h4⟩ <;> simp only at h1 h2 h3 h4 <;> subst h1 <;> subst h3
  · have e1 := empty_ba h2
    have e2 := empty_ba h4
    subst e1; subst e2
    simp only [partK, if_true, numK, List.cons_append, List.cons.injEq, true_and] at h
    have hl := List.append_inj h (by rw [be8_len, be8_len])
    have hu : upN N = upN N' := by
      have := congrArg unB hl.1
      rwa [unB_be8 _ (up_lt N fx.2), unB_be8 _ (up_lt N' fy.2)] at this
    refine ⟨?_, hl.2⟩
    have fx1 := fx.1; have fy1 := fy.1
    simp only at fx1 fy1
    unfold upN at hu
    have : N = N' := by omega
    rw [this]
  · exfalso
    simp [partK, numK, textK] at h
  · exfalso
    simp [partK, numK, textK] at h
  · subst h2; subst h4
    have k2 : ((2 : Int) = 1) = False := by simp
    simp only [partK, k2, if_false, textK, List.cons_append, List.cons.injEq, true_and, List.append_assoc, List.nil_append] at h
    obtain ⟨h5, h6⟩ := text_free _ _ _ _ h
    refine ⟨?_, h6⟩
    have : T = T' := ByteArray.ext (Array.toList_inj.1 h5)
    rw [this]
def allF (l : List Pt) : Prop := ∀ x ∈ l, x.fits
theorem bytesK_cons (x : Pt) (l : List Pt) : bytesK (x :: l) = partK x ++ bytesK l := by simp [bytesK]
theorem bytesK_append (a b : List Pt) : bytesK (a ++ b) = bytesK a ++ bytesK b := by simp [bytesK]
theorem partK_ne (x : Pt) : partK x ≠ [] := by unfold partK; split <;> simp [numK, textK]
/-- What stands ahead of the rest is told by the bytes. -/
theorem bytesK_free : ∀ (ps qs : List Pt) (c : List UInt8), allR ps → allR qs → allF ps → allF qs → bytesK ps ++ c = bytesK qs → ∃ rs, qs = ps ++ rs ∧ c = bytesK rs := by
  intro ps
  induction ps with
  | nil => intro qs c _ _ _ _ h; exact ⟨qs, rfl, by simpa [bytesK] using h⟩
  | cons x ps ih =>
    intro qs c h1 h2 f1 f2 h
    cases qs with
    | nil =>
      rw [bytesK_cons, List.append_assoc] at h
      exact absurd (List.append_eq_nil_iff.1 (show partK x ++ (bytesK ps ++ c) = [] from h)).1 (partK_ne x)
    | cons y qs =>
      rw [bytesK_cons, bytesK_cons, List.append_assoc] at h
      obtain ⟨rfl, h'⟩ := partK_free (h1 x (by simp)) (h2 y (by simp)) (f1 x (by simp)) (f2 y (by simp)) h
      obtain ⟨rs, rfl, h''⟩ := ih qs c (fun z hz => h1 z (by simp [hz])) (fun z hz => h2 z (by simp [hz])) (fun z hz => f1 z (by simp [hz])) (fun z hz => f2 z (by simp [hz])) h'
      exact ⟨rs, rfl, h''⟩
theorem bytesK_inj {ps qs : List Pt} (h1 : allR ps) (h2 : allR qs) (f1 : allF ps) (f2 : allF qs) (h : bytesK ps = bytesK qs) : qs = ps := by
  obtain ⟨rs, e, h'⟩ := bytesK_free ps qs [] h1 h2 f1 f2 (by simpa using h)
  cases rs with
  | nil => simpa using e
  | cons z rs => rw [bytesK_cons] at h'; have := List.append_eq_nil_iff.1 h'.symm; exact absurd this.1 (partK_ne z)
end Go.Proofs.YtaphfjomlignhaaDoor
