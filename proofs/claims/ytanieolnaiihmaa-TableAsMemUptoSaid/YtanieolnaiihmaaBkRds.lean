/- Pack's readers, once more. -/
import Derived.Test.YtanieolnaiihmaaBkRRd2
namespace Go.Proofs.Ytanieolnaiihmaa
open Go.RowKit

theorem rdint_f (w : World) (g : Nat) (s : ByteArray) (n : Int) (e : Nat) (r : List UInt8) (hrd : rdInt s.data.toList = (n, e, r)) (h : Rdr w 155 g s) (hs : s.size ≤ 140737488351232) :
    Calls Try.prog 100 #[.pointer (some ⟨g, 0, none⟩)] w fun e' w' => e' = .returned (.tuple #[.int .i64 n, .int .i64 (e : Int)]) ∧ Took w 155 g r w' := by
  have := rdint_any w g s h hs; rw [hrd] at this; exact this
theorem rrdint_f (w : World) (g : Nat) (s : ByteArray) (n : Int) (e : Nat) (r : List UInt8) (hrd : rdInt s.data.toList = (n, e, r)) (h : Rdr w 141 g s) (hs : s.size ≤ 140737488351232) :
    Calls Try.prog 87 #[.pointer (some ⟨g, 0, none⟩)] w fun e' w' => e' = .returned (.tuple #[.int .i64 n, .int .i64 (e : Int)]) ∧ Took w 141 g r w' := by
  have := rrdint_any w g s h hs; rw [hrd] at this; exact this
theorem rdtext_f (w : World) (g : Nat) (s : ByteArray) (n : List UInt8) (e : Nat) (r : List UInt8) (hrd : rdText s.data.toList = (n, e, r)) (h : Rdr w 155 g s) (hs : s.size ≤ 140737488351232) :
    Calls Try.prog 108 #[.pointer (some ⟨g, 0, none⟩)] w fun e' w' => (∃ t : ByteArray, t.data.toList = n ∧ e' = .returned (.tuple #[.string t, .int .i64 (e : Int)])) ∧ Took w 155 g r w' := by
  have := rdtext_any w g s h hs; rw [hrd] at this; exact this
theorem rrdtext_f (w : World) (g : Nat) (s : ByteArray) (n : List UInt8) (e : Nat) (r : List UInt8) (hrd : rdText s.data.toList = (n, e, r)) (h : Rdr w 141 g s) (hs : s.size ≤ 140737488351232) :
    Calls Try.prog 86 #[.pointer (some ⟨g, 0, none⟩)] w fun e' w' => (∃ t : ByteArray, t.data.toList = n ∧ e' = .returned (.tuple #[.string t, .int .i64 (e : Int)])) ∧ Took w 141 g r w' := by
  have := rrdtext_any w g s h hs; rw [hrd] at this; exact this
theorem rdInt_len (l : List UInt8) : (rdInt l).2.2.length ≤ l.length := rdNum_len l
theorem rdText_len (l : List UInt8) : (rdText l).2.2.length ≤ l.length := by
  have := rdNum_len l
  unfold rdText
  split
  · exact Nat.le_refl _
  · simp only [List.length_drop]; omega
theorem fold_unfold (u : Nat) : fold (unfold_ u) = u := by
  unfold fold unfold_
  split <;> split <;> omega
theorem unfold_lo (u : Nat) (hu : u < 18446744073709551616) : -9223372036854775808 ≤ unfold_ u ∧ unfold_ u ≤ 9223372036854775807 := by unfold unfold_; split <;> omega
theorem unfold_fold (x : Int) : unfold_ (fold x) = x := by
  unfold fold unfold_
  split <;> split <;> omega
/-- What is taken was written so. -/
theorem num_back {l : List UInt8} {n : Nat} {r : List UInt8} (h : rdNum l = (n, 0, r)) : l = numB n ++ r ∧ n < 18446744073709551616 := by
  unfold rdNum at h
  split at h
  · rename_i m q hq
    injection h with a b
    injection b with _ c
    subst a; subst c
    exact numR0_some hq
  · injection h with _ b
    injection b with b _
    omega
theorem int_back {l : List UInt8} {x : Int} {r : List UInt8} (h : rdInt l = (x, 0, r)) : l = intB x ++ r ∧ -9223372036854775808 ≤ x ∧ x ≤ 9223372036854775807 := by
  unfold rdInt at h
  injection h with a b
  obtain ⟨n, hn⟩ : ∃ n, n = (rdNum l).1 := ⟨_, rfl⟩
  have h1 : rdNum l = (n, 0, r) := by rw [hn, ← b]
  obtain ⟨h2, h3⟩ := num_back h1
  rw [← hn] at a
  subst a
  exact ⟨by unfold intB; rw [fold_unfold]; exact h2, unfold_lo n h3⟩
theorem text_back {l : List UInt8} {t r : List UInt8} (h : rdText l = (t, 0, r)) : l = textB t ++ r := by
  unfold rdText at h
  split at h
  · injection h with _ b
    injection b with b _
    omega
  · rename_i hc
    obtain ⟨n, e, q, hq⟩ : ∃ n e q, rdNum l = (n, e, q) := ⟨_, _, _, rfl⟩
    rw [hq] at h hc
    simp only [not_or, Decidable.not_not, Nat.not_lt] at hc
    obtain ⟨rfl, hc⟩ := hc
    injection h with a b
    injection b with _ c
    simp only at a c
    have h1 := (num_back hq).1
    have hl : t.length = n := by rw [← a, List.length_take]; omega
    rw [h1, textB, hl, ← a, ← c, List.append_assoc, List.take_append_drop]
theorem rdText_err {l : List UInt8} {t : List UInt8} {e : Nat} {r : List UInt8} (h : rdText l = (t, e, r)) : e = 0 ∨ (e = 1 ∧ r = l) := by
  unfold rdText at h
  split at h
  · injection h with a b; injection b with b c; exact .inr ⟨b.symm, c.symm⟩
  · injection h with a b; injection b with b c; exact .inl b.symm
theorem rdNum_err' {l : List UInt8} {n e : Nat} {r : List UInt8} (h : rdNum l = (n, e, r)) : e = 0 ∨ (e = 1 ∧ r = l) := by
  rcases rdNum_err h with ⟨h, _⟩ | ⟨h, _, h2⟩
  · exact .inl h
  · exact .inr ⟨h, h2⟩
theorem rdInt_err {l : List UInt8} {x : Int} {e : Nat} {r : List UInt8} (h : rdInt l = (x, e, r)) : e = 0 ∨ (e = 1 ∧ r = l) := by
  unfold rdInt at h
  injection h with _ b
  exact rdNum_err' (n := (rdNum l).1) (by rw [← b])
theorem rdInt_intB (x : Int) (r : List UInt8) (h0 : -9223372036854775808 ≤ x) (h1 : x ≤ 9223372036854775807) : rdInt (intB x ++ r) = (x, 0, r) := by
  unfold rdInt intB
  rw [rdNum_numB _ _ (fold_lt h0 h1)]
  simp only [unfold_fold]
theorem rdText_textB (s r : List UInt8) (h : s.length < 18446744073709551616) : rdText (textB s ++ r) = (s, 0, r) := by
  unfold rdText textB
  rw [List.append_assoc, rdNum_numB _ _ h]
  rw [if_neg (by simp)]
  simp
end Go.Proofs.Ytanieolnaiihmaa
