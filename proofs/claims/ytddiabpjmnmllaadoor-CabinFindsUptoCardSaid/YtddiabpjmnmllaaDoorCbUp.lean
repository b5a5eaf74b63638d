/- Cabins: a row's letters in great letters, in plain words: a text with other signs is as long only if it holds no letters alone. -/
import Derived.Test.YtddiabpjmnmllaaDoorCbP
import Derived.Lib.MapLaws
import Derived.Shelf.Strings.CaseAny
namespace Go.Proofs.YtddiabpjmnmllaaDoor
open Go.RowKit Go.Lib
theorem enc_high {r : Int} (h : ¬ (0 ≤ r ∧ r ≤ 127)) : ∃ c t, encodeRune r = c :: t ∧ 128 ≤ c.toNat := by
  have hb := encodeRuneZ_byte r
  have key : ∀ (x : Int) (t : List Int), encodeRuneZ r = x :: t → 128 ≤ x → ∃ c t, encodeRune r = c :: t ∧ 128 ≤ c.toNat := by
    intro x t e hx
    have h1 := hb x (by rw [e]; simp)
    refine ⟨x.toNat.toUInt8, t.map fun x => x.toNat.toUInt8, by unfold encodeRune; rw [e]; rfl, ?_⟩
    have : (x.toNat.toUInt8).toNat = x.toNat := by
      rw [Nat.toUInt8_eq, UInt8.toNat_ofNat']
      omega
    rw [this]; omega
  unfold encodeRuneZ at key
  rw [if_neg h] at key
  split at key
  · rename_i h2; exact key _ _ rfl (by omega)
  · split at key
    · rename_i h2; exact key _ _ rfl (by omega)
    · split at key
      · rename_i h2; exact key _ _ rfl (by omega)
      · exact key _ _ rfl (by omega)
theorem enc_low {r : Int} (h : ∀ c ∈ encodeRune r, c.toNat < 128) : 0 ≤ r ∧ r ≤ 127 := by
  apply Classical.byContradiction
  intro hn
  obtain ⟨c, t, e, hc⟩ := enc_high hn
  have := h c (by rw [e]; simp)
  omega
theorem enc_one {r : Int} (h : 0 ≤ r ∧ r ≤ 127) : encodeRune r = [r.toNat.toUInt8] := by
  unfold encodeRune
  rw [encodeRuneZ_one h.1 h.2]; rfl
theorem upper_bad : toUpperU ((65533 : Nat) : Int) = 65533 := by kernel_rfl
/-- Where all that comes out is small, nothing grows, and what stays as long was small. -/
theorem upper_small : ∀ (n : Nat) (l : List UInt8), l.length ≤ n → (∀ c ∈ toUpperD l, c.toNat < 128) → (toUpperD l).length ≤ l.length ∧ ((toUpperD l).length = l.length → ∀ c ∈ l, c.toNat < 128) := by
  intro n
  induction n with
  | zero =>
    intro l hl _
    obtain rfl := List.eq_nil_of_length_eq_zero (by omega : l.length = 0)
    exact ⟨by simp [toUpperD, mapD_nil], fun _ c hc => by cases hc⟩
  | succ n ih =>
    intro l hl h
    cases l with
    | nil => exact ⟨by simp [toUpperD, mapD_nil], fun _ c hc => by cases hc⟩
    | cons b t =>
      have hne : (b :: t) ≠ [] := by simp
      have hstep : toUpperD (b :: t) = (if 0 ≤ toUpperU (decodeL (b :: t)).1 then encodeRune (toUpperU (decodeL (b :: t)).1) else []) ++ toUpperD ((b :: t).drop (decodeL (b :: t)).2) := mapD_step toUpperU (b :: t) hne
      have hw1 := decodeL_width (b :: t)
      have hw2 := decodeL_le (b :: t) hne
      have hr := toUpperU_range (decodeL (b :: t)).1 (decodeL_rune _)
      rw [if_pos hr.1] at hstep
      rw [hstep] at h ⊢
      have hE : ∀ c ∈ encodeRune (toUpperU (decodeL (b :: t)).1), c.toNat < 128 := fun c hc => h c (List.mem_append.2 (.inl hc))
      have hT : ∀ c ∈ toUpperD ((b :: t).drop (decodeL (b :: t)).2), c.toNat < 128 := fun c hc => h c (List.mem_append.2 (.inr hc))
      have hlow := enc_low hE
      obtain ⟨i1, i2⟩ := ih ((b :: t).drop (decodeL (b :: t)).2) (by rw [List.length_drop]; simp only [List.length_cons] at hl ⊢; omega) hT
      rw [List.length_drop] at i1 i2
      rw [List.length_append, enc_one hlow]
      simp only [List.length_cons, List.length_nil] at i1 i2 hw2 ⊢
      refine ⟨by omega, fun he c hc => ?_⟩
      have hw : (decodeL (b :: t)).2 = 1 := by omega
      rw [hw] at i1 i2 he
      have hall := i2 (by omega)
      rcases List.mem_cons.1 hc with rfl | hc
      · by_cases hbad : (decodeL (c :: t)).1 = 65533
        · rw [hbad, upper_bad] at hlow; omega
        · have henc := encode_decode (c :: t) hne (fun g => hbad g.1)
          rw [hw] at henc
          have h1 : encodeRune ((decodeL (c :: t)).1 : Int) = [c] := henc
          by_cases hs : 0 ≤ ((decodeL (c :: t)).1 : Int) ∧ ((decodeL (c :: t)).1 : Int) ≤ 127
          · rw [enc_one hs] at h1
            injection h1 with h1
            rw [← h1, Int.toNat_natCast, Nat.toUInt8_eq, UInt8.toNat_ofNat']
            omega
          · exfalso
            have hl2 : (encodeRune ((decodeL (c :: t)).1 : Int)).length = 1 := by rw [h1]; rfl
            unfold encodeRune at hl2
            rw [List.length_map] at hl2
            unfold encodeRuneZ at hl2
            rw [if_neg hs] at hl2
            split at hl2
            · simp at hl2
            · split at hl2
              · simp at hl2
              · split at hl2 <;> simp at hl2
      · exact hall c (by simpa using hc)
end Go.Proofs.YtddiabpjmnmllaaDoor
