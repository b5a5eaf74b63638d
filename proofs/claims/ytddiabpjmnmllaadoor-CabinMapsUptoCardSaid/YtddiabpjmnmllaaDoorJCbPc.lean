/- Cabins, in plain words: rows, seats, spots. -/
import Derived.Test.YtddiabpjmnmllaaDoorRow
import Derived.Lib.Case
import Derived.Lib.MapLaws
import Derived.Shelf.Strings.CaseAny
import Derived.Lib.Replace
import Derived.Lib.SplitLaws
import Derived.Lib.IndexBytes
import Derived.Lib.SlicesS
namespace Go.Proofs.YtddiabpjmnmllaaDoor
open Go.RowKit Go.Lib
/-- The letter as a great one; 0: it is none. -/
def greatB (c : UInt8) : UInt8 := if 97 ≤ c.toNat ∧ c.toNat ≤ 122 then c - 32 else if 65 ≤ c.toNat ∧ c.toNat ≤ 90 then c else 0
/-- A row's letters, judged one by one: did a block just begin, how many, the last. -/
def seatsGo : Bool → Nat → UInt8 → List UInt8 → Bool
  | dot, n, _, [] => !dot && decide (1 ≤ n ∧ n ≤ 6)
  | dot, n, last, c :: t => if c = 46 then (if dot then false else seatsGo true n last t) else if greatB c = 0 ∨ (greatB c).toNat ≤ last.toNat then false else seatsGo false (n + 1) (greatB c) t
def seatsOk (s : ByteArray) : Bool := seatsGo true 0 0 s.data.toList
/-- The letters rise. -/
def risesGo : UInt8 → List UInt8 → Bool
  | _, [] => true
  | last, c :: t => decide (65 ≤ c.toNat ∧ c.toNat ≤ 90 ∧ last.toNat < c.toNat) && risesGo c t
/-- No block is empty. -/
def dotsOk : Bool → List UInt8 → Bool
  | dot, [] => !dot
  | dot, c :: t => if c = 46 then (if dot then false else dotsOk true t) else dotsOk false t
def noDots (l : List UInt8) : List UInt8 := l.filter (fun c => decide (c ≠ 46))
theorem upper_great {c : UInt8} (h : c ≠ 46) (ha : c.toNat < 128) : (65 ≤ (upperB c).toNat ∧ (upperB c).toNat ≤ 90 → greatB c = upperB c) ∧ (greatB c ≠ 0 → greatB c = upperB c ∧ 65 ≤ (upperB c).toNat ∧ (upperB c).toNat ≤ 90) ∧ upperB c ≠ 46 := by
  have key : ∀ i : Fin 128, UInt8.ofNat i.val ≠ 46 → (65 ≤ (upperB (UInt8.ofNat i.val)).toNat ∧ (upperB (UInt8.ofNat i.val)).toNat ≤ 90 → greatB (UInt8.ofNat i.val) = upperB (UInt8.ofNat i.val)) ∧ (greatB (UInt8.ofNat i.val) ≠ 0 → greatB (UInt8.ofNat i.val) = upperB (UInt8.ofNat i.val) ∧ 65 ≤ (upperB (UInt8.ofNat i.val)).toNat ∧ (upperB (UInt8.ofNat i.val)).toNat ≤ 90) ∧ upperB (UInt8.ofNat i.val) ≠ 46 := by decide +kernel
  have := key ⟨c.toNat, ha⟩
  simp only [UInt8.ofNat_toNat] at this
  exact this h
theorem upper_dot : upperB 46 = 46 := by decide
theorem great_zero : (0 : UInt8).toNat = 0 := rfl
theorem noDots_cons (c : UInt8) (t : List UInt8) : noDots (c :: t) = if c = 46 then noDots t else c :: noDots t := by
  unfold noDots
  rw [List.filter_cons]
  by_cases h : c = 46 <;> simp [h]
theorem noDots_le (l : List UInt8) : (noDots l).length ≤ l.length := List.length_filter_le _ _
/-- Judged letter by letter, or all at once. -/
theorem seats_go : ∀ (l : List UInt8) (dot : Bool) (n : Nat) (last : UInt8), (∀ c ∈ l, c.toNat < 128) → n ≤ 6 →
    seatsGo dot n last l = (risesGo last (noDots (l.map upperB)) && decide (1 ≤ n + (noDots (l.map upperB)).length ∧ n + (noDots (l.map upperB)).length ≤ 6) && dotsOk dot l) := by
  intro l
  induction l with
  | nil =>
    intro dot n last _ _
    simp only [seatsGo, List.map_nil, noDots, List.filter_nil, risesGo, List.length_nil, Nat.add_zero, Bool.true_and, dotsOk]
    rw [Bool.and_comm]
  | cons c t ih =>
    intro dot n last ha hn
    have hat := fun x hx => ha x (List.mem_cons_of_mem c hx)
    have hac := ha c (by simp)
    rw [List.map_cons, noDots_cons]
    by_cases hc : c = 46
    · subst hc
      rw [upper_dot, if_pos rfl]
      simp only [seatsGo, dotsOk, if_true]
      cases dot with
      | true => simp
      | false => simp only [Bool.false_eq_true, if_false]; exact ih true n last hat hn
    · obtain ⟨h1, h2, h3⟩ := upper_great hc hac
      rw [if_neg h3]
      simp only [seatsGo, dotsOk, if_neg hc, risesGo, List.length_cons]
      by_cases hg : greatB c = 0 ∨ (greatB c).toNat ≤ last.toNat
      · rw [if_pos hg]
        have : decide (65 ≤ (upperB c).toNat ∧ (upperB c).toNat ≤ 90 ∧ last.toNat < (upperB c).toNat) = false := by
          refine decide_eq_false fun h => ?_
          have e := h1 ⟨h.1, h.2.1⟩
          rcases hg with hg | hg
          · rw [← e, hg] at h; have := h.1; rw [great_zero] at this; omega
          · rw [e] at hg; omega
        rw [this]; simp
      · rw [if_neg hg]
        have hg0 : greatB c ≠ 0 := fun h => hg (.inl h)
        obtain ⟨e, r1, r2⟩ := h2 hg0
        have hlt : last.toNat < (upperB c).toNat := by
          rw [← e]; exact Nat.lt_of_not_le fun h => hg (.inr h)
        rw [decide_eq_true (⟨r1, r2, hlt⟩ : 65 ≤ (upperB c).toNat ∧ (upperB c).toNat ≤ 90 ∧ last.toNat < (upperB c).toNat), Bool.true_and, e]
        by_cases h6 : n + 1 ≤ 6
        · rw [ih false (n + 1) (upperB c) hat h6, show n + 1 + (noDots (t.map upperB)).length = n + ((noDots (t.map upperB)).length + 1) by omega]
        · have hno : ∀ (l : List UInt8) (dot : Bool) (n : Nat) (last : UInt8), 6 < n → seatsGo dot n last l = false := by
            intro l
            induction l with
            | nil => intro dot n last h; simp only [seatsGo]; rw [decide_eq_false (by omega)]; simp
            | cons c t ih =>
              intro dot n last h
              simp only [seatsGo]
              split
              · split
                · rfl
                · exact ih _ _ _ h
              · split
                · rfl
                · exact ih _ _ _ (by omega)
          rw [hno t false (n + 1) _ (by omega), decide_eq_false (by omega)]; simp
end Go.Proofs.YtddiabpjmnmllaaDoor
/- Cabins: a row's letters in great letters, in plain words: a text with other signs is as long only if it holds no letters alone. -/
namespace Go.Proofs.YtddiabpjmnmllaaDoor
open Go.RowKit Go.Lib
theorem enc_high {r : Int} (h : ¬ (0 ≤ r ∧ r ≤ 127)) : ∃ c t, encodeRune r = c :: t ∧ 128 ≤ c.toNat := by
  have hb := encodeRuneZ_byte r
  have key : ∀ (x : Int) (t : List Int), encodeRuneZ r = x :: t → 128 ≤ x → ∃ c t, encodeRune r = c :: t ∧ 128 ≤ c.toNat := by
    intro x t e hx
    have h1 := hb x (by rw [e]; simp)
    refine ⟨x.toNat.toUInt8, t.map fun x => x.toNat.toUInt8, by unfold encodeRune; rw [e]; rfl, ?_⟩
    have : (x.toNat.toUInt8).toNat = x.toNat := by
      rw [Nat.toUInt8_eq, UInt8.toNat_ofNat']
      omega
    rw [this]; omega
  unfold encodeRuneZ at key
  rw [if_neg h] at key
  split at key
  · rename_i h2; exact key _ _ rfl (by omega)
  · split at key
    · rename_i h2; exact key _ _ rfl (by omega)
    · split at key
      · rename_i h2; exact key _ _ rfl (by omega)
      · exact key _ _ rfl (by omega)
theorem enc_low {r : Int} (h : ∀ c ∈ encodeRune r, c.toNat < 128) : 0 ≤ r ∧ r ≤ 127 := by
  apply Classical.byContradiction
  intro hn
  obtain ⟨c, t, e, hc⟩ := enc_high hn
  have := h c (by rw [e]; simp)
  omega
theorem enc_one {r : Int} (h : 0 ≤ r ∧ r ≤ 127) : encodeRune r = [r.toNat.toUInt8] := by
  unfold encodeRune
  rw [encodeRuneZ_one h.1 h.2]; rfl
theorem upper_bad : toUpperU ((65533 : Nat) : Int) = 65533 := by kernel_rfl
/-- Where all that comes out is small, nothing grows, and what stays as long was small. -/
theorem upper_small : ∀ (n : Nat) (l : List UInt8), l.length ≤ n → (∀ c ∈ toUpperD l, c.toNat < 128) → (toUpperD l).length ≤ l.length ∧ ((toUpperD l).length = l.length → ∀ c ∈ l, c.toNat < 128) := by
  intro n
  induction n with
  | zero =>
    intro l hl _
    obtain rfl := List.eq_nil_of_length_eq_zero (by omega : l.length = 0)
    exact ⟨by simp [toUpperD, mapD_nil], fun _ c hc => by cases hc⟩
  | succ n ih =>
    intro l hl h
    cases l with
    | nil => exact ⟨by simp [toUpperD, mapD_nil], fun _ c hc => by cases hc⟩
    | cons b t =>
      have hne : (b :: t) ≠ [] := by simp
      have hstep : toUpperD (b :: t) = (if 0 ≤ toUpperU (decodeL (b :: t)).1 then encodeRune (toUpperU (decodeL (b :: t)).1) else []) ++ toUpperD ((b :: t).drop (decodeL (b :: t)).2) := mapD_step toUpperU (b :: t) hne
      have hw1 := decodeL_width (b :: t)
      have hw2 := decodeL_le (b :: t) hne
      have hr := toUpperU_range (decodeL (b :: t)).1 (decodeL_rune _)
      rw [if_pos hr.1] at hstep
      rw [hstep] at h ⊢
      have hE : ∀ c ∈ encodeRune (toUpperU (decodeL (b :: t)).1), c.toNat < 128 := fun c hc => h c (List.mem_append.2 (.inl hc))
      have hT : ∀ c ∈ toUpperD ((b :: t).drop (decodeL (b :: t)).2), c.toNat < 128 := fun c hc => h c (List.mem_append.2 (.inr hc))
      have hlow := enc_low hE
      obtain ⟨i1, i2⟩ := ih ((b :: t).drop (decodeL (b :: t)).2) (by rw [List.length_drop]; simp only [List.length_cons] at hl ⊢; omega) hT
      rw [List.length_drop] at i1 i2
      rw [List.length_append, enc_one hlow]
      simp only [List.length_cons, List.length_nil] at i1 i2 hw2 ⊢
      refine ⟨by omega, fun he c hc => ?_⟩
      have hw : (decodeL (b :: t)).2 = 1 := by omega
      rw [hw] at i1 i2 he
      have hall := i2 (by omega)
      rcases List.mem_cons.1 hc with rfl | hc
      · by_cases hbad : (decodeL (c :: t)).1 = 65533
        · rw [hbad, upper_bad] at hlow; omega
        · have henc := encode_decode (c :: t) hne (fun g => hbad g.1)
          rw [hw] at henc
          have h1 : encodeRune ((decodeL (c :: t)).1 : Int) = [c] := henc
          by_cases hs : 0 ≤ ((decodeL (c :: t)).1 : Int) ∧ ((decodeL (c :: t)).1 : Int) ≤ 127
          · rw [enc_one hs] at h1
            injection h1 with h1
            rw [← h1, Int.toNat_natCast, Nat.toUInt8_eq, UInt8.toNat_ofNat']
            omega
          · exfalso
            have hl2 : (encodeRune ((decodeL (c :: t)).1 : Int)).length = 1 := by rw [h1]; rfl
            unfold encodeRune at hl2
            rw [List.length_map] at hl2
            unfold encodeRuneZ at hl2
            rw [if_neg hs] at hl2
            split at hl2
            · simp at hl2
            · split at hl2
              · simp at hl2
              · split at hl2 <;> simp at hl2
      · exact hall c (by simpa using hc)
end Go.Proofs.YtddiabpjmnmllaaDoor
/- Cabins: a row's text cut at its dots, and its dots struck, in plain words. -/
namespace Go.Proofs.YtddiabpjmnmllaaDoor
open Go.RowKit Go.Lib
theorem index_skip {c d : UInt8} {s : List UInt8} {i : Nat} (hc : ¬ c = d) (hi : index s [d] = i) : index (c :: s) [d] = ((i + 1 : Nat) : Int) := by
  rw [index_one] at hi ⊢
  have hcb : (c == d) = false := beq_eq_false_iff_ne.2 hc
  rw [indexByte]
  simp only [hcb, Bool.false_eq_true, if_false, hi]
  have : ((i : Int) == -1) = false := beq_eq_false_iff_ne.2 (by omega)
  simp only [this, Bool.false_eq_true, if_false]
  omega
theorem replaceK_dots : ∀ s : List UInt8, replaceK [46] [] (count s [46]) s = noDots s := by
  intro s
  induction s with
  | nil => rw [count_one]; rfl
  | cons c s ih =>
    by_cases hc : c = 46
    · subst hc
      have hi : index ((46 : UInt8) :: s) [46] = ((0 : Nat) : Int) := by rw [index_one]; simp [indexByte]
      rw [count_cons_eq, Nat.add_comm, replaceK_hit _ _ _ _ 0 hi, noDots_cons, if_pos rfl]
      simpa using ih
    · rw [count_cons_ne c 46 s hc, noDots_cons, if_neg hc]
      cases hk : count s [46] with
      | zero =>
        rw [hk] at ih
        rw [replaceK] at ih ⊢
        rw [← ih]
      | succ k =>
        obtain ⟨i, hi⟩ := index_of_count (s := s) (old := [46]) (by omega)
        rw [hk, replaceK_hit _ _ _ _ i hi] at ih
        rw [replaceK_hit _ _ _ _ (i + 1) (index_skip hc hi), ← ih]
        simp
theorem replace_dots (s : List UInt8) : replaceAll s [46] [] = noDots s := by
  unfold replaceAll replace replaceNum
  rw [if_neg (by decide), if_pos (.inl (by decide))]
  exact replaceK_dots s
/-- A row's blocks. -/
def piecesL : List UInt8 → List (List UInt8)
  | [] => [[]]
  | c :: t => if c = 46 then [] :: piecesL t else match piecesL t with
    | p :: ps => (c :: p) :: ps
    | [] => [[c]]
theorem pieces_ne : ∀ s, piecesL s ≠ [] := by
  intro s
  cases s with
  | nil => simp [piecesL]
  | cons c t =>
    unfold piecesL
    split
    · simp
    · split <;> simp
theorem splitK_pieces : ∀ s : List UInt8, splitK [46] 0 (count s [46]) s = piecesL s := by
  intro s
  induction s with
  | nil => rw [count_one]; rfl
  | cons c s ih =>
    by_cases hc : c = 46
    · subst hc
      have hi : index ((46 : UInt8) :: s) [46] = ((0 : Nat) : Int) := by rw [index_one]; simp [indexByte]
      rw [count_cons_eq, Nat.add_comm, splitK, hi, piecesL, if_pos rfl, ← ih]
      simp
    · rw [count_cons_ne c 46 s hc, piecesL, if_neg hc, ← ih]
      cases hk : count s [46] with
      | zero => rfl
      | succ k =>
        obtain ⟨i, hi⟩ := index_of_count (s := s) (old := [46]) (by omega)
        have h1 : ((i : Int) == -1) = false := beq_eq_false_iff_ne.2 (by omega)
        have h2 : (((i + 1 : Nat) : Int) == -1) = false := beq_eq_false_iff_ne.2 (by omega)
        rw [splitK, splitK, hi, index_skip hc hi, h1, h2]
        simp
theorem dots_pieces : ∀ (s : List UInt8), (dotsOk true s = true ↔ ([] : List UInt8) ∉ piecesL s) ∧ (dotsOk false s = true ↔ ([] : List UInt8) ∉ (piecesL s).tail) := by
  intro s
  induction s with
  | nil => exact ⟨by simp [dotsOk, piecesL], by simp [dotsOk, piecesL]⟩
  | cons c t ih =>
    by_cases hc : c = 46
    · subst hc
      refine ⟨by simp [dotsOk, piecesL], ?_⟩
      simp only [dotsOk, piecesL, if_true, Bool.false_eq_true, if_false, List.tail_cons]
      exact ih.1
    · obtain ⟨p, ps, hp⟩ : ∃ p ps, piecesL t = p :: ps := by
        cases h : piecesL t with
        | nil => exact absurd h (pieces_ne t)
        | cons p ps => exact ⟨p, ps, rfl⟩
      have h2 := ih.2
      rw [hp] at h2
      simp only [List.tail_cons] at h2
      refine ⟨?_, ?_⟩
      · simp only [dotsOk, piecesL, if_neg hc, hp, h2]
        simp
      · simp only [dotsOk, piecesL, if_neg hc, hp, h2, List.tail_cons]
theorem bytes_nil {b : ByteArray} (h : b.data.toList = []) : b = ⟨#[]⟩ := by
  cases b with
  | mk d => cases d with
    | mk l => simp at h; subst h; rfl
theorem contains_pieces (s : ByteArray) : containsS (splitB ⟨#[46]⟩ 0 (countB s ⟨#[46]⟩) s) ⟨#[]⟩ = !dotsOk true s.data.toList := by
  have hd := splitB_data ⟨#[46]⟩ 0 (countB s ⟨#[46]⟩) s
  have e : countB s ⟨#[46]⟩ = count s.data.toList [46] := rfl
  rw [e] at hd ⊢
  have hp : (splitB ⟨#[46]⟩ 0 (count s.data.toList [46]) s).map (·.data.toList) = piecesL s.data.toList := hd.trans (splitK_pieces _)
  rw [Bool.eq_iff_iff, containsS_iff, Bool.not_eq_true', ← Bool.not_eq_true, (dots_pieces s.data.toList).1, Classical.not_not, ← hp, List.mem_map]
  constructor
  · exact fun h => ⟨_, h, rfl⟩
  · rintro ⟨b, hb, e⟩
    rw [← bytes_nil e]; exact hb
theorem rises_small : ∀ (l : List UInt8) (last : UInt8), risesGo last l = true → ∀ c ∈ l, c.toNat < 128 := by
  intro l
  induction l with
  | nil => intro _ _ c hc; cases hc
  | cons d t ih =>
    intro last h c hc
    simp only [risesGo, Bool.and_eq_true, decide_eq_true_eq] at h
    rcases List.mem_cons.1 hc with rfl | hc
    · omega
    · exact ih d h.2 c hc
theorem seats_small : ∀ (l : List UInt8) (dot : Bool) (n : Nat) (last : UInt8), seatsGo dot n last l = true → ∀ c ∈ l, c.toNat < 128 := by
  intro l
  induction l with
  | nil => intro _ _ _ _ c hc; cases hc
  | cons d t ih =>
    intro dot n last h c hc
    simp only [seatsGo] at h
    split at h
    · rename_i h46
      split at h
      · cases h
      · rcases List.mem_cons.1 hc with rfl | hc
        · rw [h46]; decide
        · exact ih _ _ _ h c hc
    · split at h
      · cases h
      · rename_i hg
        rcases List.mem_cons.1 hc with rfl | hc
        · rcases Nat.lt_or_ge c.toNat 128 with h8 | h8
          · exact h8
          · exfalso
            refine hg (.inl ?_)
            unfold greatB
            rw [if_neg (by omega), if_neg (by omega)]
        · exact ih _ _ _ h c hc
/-- A row's letters, as the program judges them. -/
theorem letters_ok (s : ByteArray) : seatsOk s = (risesGo 0 (noDots (toUpperD s.data.toList)) && decide (1 ≤ (noDots (toUpperD s.data.toList)).length ∧ (noDots (toUpperD s.data.toList)).length ≤ 6) && decide ((toUpperD s.data.toList).length = s.data.toList.length) && dotsOk true s.data.toList) := by
  unfold seatsOk
  by_cases ha : ∀ c ∈ s.data.toList, c.toNat < 128
  · rw [toUpperD_ascii _ ha, seats_go _ true 0 0 ha (by omega)]
    unfold toUpperA
    rw [Nat.zero_add, List.length_map, decide_eq_true (rfl : s.data.toList.length = s.data.toList.length), Bool.and_true]
  · have h1 : seatsGo true 0 0 s.data.toList = false := Bool.eq_false_iff.2 fun h => ha (seats_small _ _ _ _ h)
    rw [h1]
    symm
    rw [Bool.eq_false_iff]
    intro h
    simp only [Bool.and_eq_true, decide_eq_true_eq] at h
    obtain ⟨⟨⟨h2, _⟩, h3⟩, _⟩ := h
    have hs := rises_small _ _ h2
    refine ha ((upper_small _ _ (Nat.le_refl _) fun c hc => ?_).2 h3)
    by_cases hc46 : c = 46
    · rw [hc46]; decide
    · exact hs c (List.mem_filter.2 ⟨hc, by simpa using hc46⟩)
end Go.Proofs.YtddiabpjmnmllaaDoor
