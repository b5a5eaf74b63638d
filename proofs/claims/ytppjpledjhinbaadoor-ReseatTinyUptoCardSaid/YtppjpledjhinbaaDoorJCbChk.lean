/- Cabins, in plain words: rows, seats, spots. -/
import Derived.Test.YtppjpledjhinbaaDoorJVMap
import Derived.Lib.Case
import Derived.Lib.MapLaws
import Derived.Shelf.Strings.CaseAny
import Derived.Lib.Replace
import Derived.Lib.SplitLaws
import Derived.Lib.IndexBytes
import Derived.Lib.SlicesS
import Derived.Shelf.Strings.Builder1
import Derived.Shelf.Strings.Builder2
import Derived.Shelf.Strings.OnBuilder
import Derived.Shelf.Small.Utf8
import Derived.Shelf.Strings.BuilderF
import Derived.Shelf.Strings.BuilderK
import Derived.Shelf.Strings.BuilderRune
import Derived.Shelf.Utf8.RuneCount
import Derived.Shelf.Strings.Search1
import Derived.Shelf.Strings.Search2
import Derived.Shelf.Strings.Search3
import Derived.Shelf.Strings.Count
import Derived.Shelf.LaysM
import Derived.Shelf.Strings.Shaped
import Derived.Shelf.Strings.Split
import Derived.Shelf.Strings.Replace
import Derived.Shelf.Strings.SplitShaped
import Derived.Shelf.Unicode.Latin
import Derived.Shelf.Unicode.Decode
import Derived.Shelf.Strings.RuneCount
import Derived.Shelf.Strings.Explode
import Derived.Shelf.Unicode.DecodeSlow
import Derived.Shelf.Unicode.DecodeAny
import Derived.Shelf.Unicode.CaseLookup
import Derived.Shelf.Unicode.CaseConvert
import Derived.Shelf.Unicode.CaseTo
import Derived.Shelf.Unicode.CaseLaid
import Derived.Shelf.Strings.MapAny
import Derived.Shelf.Slices.Turned
import Derived.Ground.Names2Prog
import Derived.Shelf.Slices.Delete
import Derived.Shelf.Slices.Cells
import Derived.Shelf.Slices.Empties
import Derived.Test.YtppjpledjhinbaaDoorProg
import Derived.Laws.IdiomStrings
namespace Go.Proofs.YtppjpledjhinbaaDoor
open Go.RowKit Go.Lib
/-- The letter as a great one; 0: it is none. -/
def greatB (c : UInt8) : UInt8 := if 97 ≤ c.toNat ∧ c.toNat ≤ 122 then c - 32 else if 65 ≤ c.toNat ∧ c.toNat ≤ 90 then c else 0
/-- A row's letters, judged one by one: did a block just begin, how many, the last. -/
def seatsGo : Bool → Nat → UInt8 → List UInt8 → Bool
  | dot, n, _, [] => !dot && decide (1 ≤ n ∧ n ≤ 6)
  | dot, n, last, c :: t => if c = 46 then (if dot then false else seatsGo true n last t) else if greatB c = 0 ∨ (greatB c).toNat ≤ last.toNat then false else seatsGo false (n + 1) (greatB c) t
def seatsOk (s : ByteArray) : Bool := seatsGo true 0 0 s.data.toList
/-- The letters rise. -/
def risesGo : UInt8 → List UInt8 → Bool
  | _, [] => true
  | last, c :: t => decide (65 ≤ c.toNat ∧ c.toNat ≤ 90 ∧ last.toNat < c.toNat) && risesGo c t
/-- No block is empty. -/
def dotsOk : Bool → List UInt8 → Bool
  | dot, [] => !dot
  | dot, c :: t => if c = 46 then (if dot then false else dotsOk true t) else dotsOk false t
def noDots (l : List UInt8) : List UInt8 := l.filter (fun c => decide (c ≠ 46))
theorem upper_great {c : UInt8} (h : c ≠ 46) (ha : c.toNat < 128) : (65 ≤ (upperB c).toNat ∧ (upperB c).toNat ≤ 90 → greatB c = upperB c) ∧ (greatB c ≠ 0 → greatB c = upperB c ∧ 65 ≤ (upperB c).toNat ∧ (upperB c).toNat ≤ 90) ∧ upperB c ≠ 46 := by
  have key : ∀ i : Fin 128, UInt8.ofNat i.val ≠ 46 → (65 ≤ (upperB (UInt8.ofNat i.val)).toNat ∧ (upperB (UInt8.ofNat i.val)).toNat ≤ 90 → greatB (UInt8.ofNat i.val) = upperB (UInt8.ofNat i.val)) ∧ (greatB (UInt8.ofNat i.val) ≠ 0 → greatB (UInt8.ofNat i.val) = upperB (UInt8.ofNat i.val) ∧ 65 ≤ (upperB (UInt8.ofNat i.val)).toNat ∧ (upperB (UInt8.ofNat i.val)).toNat ≤ 90) ∧ upperB (UInt8.ofNat i.val) ≠ 46 := by decide +kernel
  have := key ⟨c.toNat, ha⟩
  simp only [UInt8.ofNat_toNat] at this
  exact this h
theorem upper_dot : upperB 46 = 46 := by decide
theorem great_zero : (0 : UInt8).toNat = 0 := rfl
theorem noDots_cons (c : UInt8) (t : List UInt8) : noDots (c :: t) = if c = 46 then noDots t else c :: noDots t := by
  unfold noDots
  rw [List.filter_cons]
  by_cases h : c = 46 <;> simp [h]
theorem noDots_le (l : List UInt8) : (noDots l).length ≤ l.length := List.length_filter_le _ _
/-- Judged letter by letter, or all at once. -/
theorem seats_go : ∀ (l : List UInt8) (dot : Bool) (n : Nat) (last : UInt8), (∀ c ∈ l, c.toNat < 128) → n ≤ 6 →
    seatsGo dot n last l = (risesGo last (noDots (l.map upperB)) && decide (1 ≤ n + (noDots (l.map upperB)).length ∧ n + (noDots (l.map upperB)).length ≤ 6) && dotsOk dot l) := by
  intro l
  induction l with
  | nil =>
    intro dot n last _ _
    simp only [seatsGo, List.map_nil, noDots, List.filter_nil, risesGo, List.length_nil, Nat.add_zero, Bool.true_and, dotsOk]
    rw [Bool.and_comm]
  | cons c t ih =>
    intro dot n last ha hn
    have hat := fun x hx => ha x (List.mem_cons_of_mem c hx)
    have hac := ha c (by simp)
    rw [List.map_cons, noDots_cons]
    by_cases hc : c = 46
    · subst hc
      rw [upper_dot, if_pos rfl]
      simp only [seatsGo, dotsOk, if_true]
      cases dot with
      | true => simp
      | false => simp only [Bool.false_eq_true, if_false]; exact ih true n last hat hn
    · obtain ⟨h1, h2, h3⟩ := upper_great hc hac
      rw [if_neg h3]
      simp only [seatsGo, dotsOk, if_neg hc, risesGo, List.length_cons]
      by_cases hg : greatB c = 0 ∨ (greatB c).toNat ≤ last.toNat
      · rw [if_pos hg]
        have : decide (65 ≤ (upperB c).toNat ∧ (upperB c).toNat ≤ 90 ∧ last.toNat < (upperB c).toNat) = false := by
          refine decide_eq_false fun h => ?_
          have e := h1 ⟨h.1, h.2.1⟩
          rcases hg with hg | hg
          · rw [← e, hg] at h; have := h.1; rw [great_zero] at this; omega
          · rw [e] at hg; omega
        rw [this]; simp
      · rw [if_neg hg]
        have hg0 : greatB c ≠ 0 := fun h => hg (.inl h)
        obtain ⟨e, r1, r2⟩ := h2 hg0
        have hlt : last.toNat < (upperB c).toNat := by
          rw [← e]; exact Nat.lt_of_not_le fun h => hg (.inr h)
        rw [decide_eq_true (⟨r1, r2, hlt⟩ : 65 ≤ (upperB c).toNat ∧ (upperB c).toNat ≤ 90 ∧ last.toNat < (upperB c).toNat), Bool.true_and, e]
        by_cases h6 : n + 1 ≤ 6
        · rw [ih false (n + 1) (upperB c) hat h6, show n + 1 + (noDots (t.map upperB)).length = n + ((noDots (t.map upperB)).length + 1) by omega]
        · have hno : ∀ (l : List UInt8) (dot : Bool) (n : Nat) (last : UInt8), 6 < n → seatsGo dot n last l = false := by
            intro l
            induction l with
            | nil => intro dot n last h; simp only [seatsGo]; rw [decide_eq_false (by omega)]; simp
            | cons c t ih =>
              intro dot n last h
              simp only [seatsGo]
              split
              · split
                · rfl
                · exact ih _ _ _ h
              · split
                · rfl
                · exact ih _ _ _ (by omega)
          rw [hno t false (n + 1) _ (by omega), decide_eq_false (by omega)]; simp
end Go.Proofs.YtppjpledjhinbaaDoor
/- Cabins: a row's letters in great letters, in plain words: a text with other signs is as long only if it holds no letters alone. -/
namespace Go.Proofs.YtppjpledjhinbaaDoor
open Go.RowKit Go.Lib
theorem enc_high {r : Int} (h : ¬ (0 ≤ r ∧ r ≤ 127)) : ∃ c t, encodeRune r = c :: t ∧ 128 ≤ c.toNat := by
  have hb := encodeRuneZ_byte r
  have key : ∀ (x : Int) (t : List Int), encodeRuneZ r = x :: t → 128 ≤ x → ∃ c t, encodeRune r = c :: t ∧ 128 ≤ c.toNat := by
    intro x t e hx
    have h1 := hb x (by rw [e]; simp)
    refine ⟨x.toNat.toUInt8, t.map fun x => x.toNat.toUInt8, by unfold encodeRune; rw [e]; rfl, ?_⟩
    have : (x.toNat.toUInt8).toNat = x.toNat := by
      rw [Nat.toUInt8_eq, UInt8.toNat_ofNat']
      omega
    rw [this]; omega
  unfold encodeRuneZ at key
  rw [if_neg h] at key
  split at key
  · rename_i h2; exact key _ _ rfl (by omega)
  · split at key
    · rename_i h2; exact key _ _ rfl (by omega)
    · split at key
      · rename_i h2; exact key _ _ rfl (by omega)
      · exact key _ _ rfl (by omega)
theorem enc_low {r : Int} (h : ∀ c ∈ encodeRune r, c.toNat < 128) : 0 ≤ r ∧ r ≤ 127 := by
  apply Classical.byContradiction
  intro hn
  obtain ⟨c, t, e, hc⟩ := enc_high hn
  have := h c (by rw [e]; simp)
  omega
theorem enc_one {r : Int} (h : 0 ≤ r ∧ r ≤ 127) : encodeRune r = [r.toNat.toUInt8] := by
  unfold encodeRune
  rw [encodeRuneZ_one h.1 h.2]; rfl
theorem upper_bad : toUpperU ((65533 : Nat) : Int) = 65533 := by kernel_rfl
/-- Where all that comes out is small, nothing grows, and what stays as long was small. -/
theorem upper_small : ∀ (n : Nat) (l : List UInt8), l.length ≤ n → (∀ c ∈ toUpperD l, c.toNat < 128) → (toUpperD l).length ≤ l.length ∧ ((toUpperD l).length = l.length → ∀ c ∈ l, c.toNat < 128) := by
  intro n
  induction n with
  | zero =>
    intro l hl _
    obtain rfl := List.eq_nil_of_length_eq_zero (by omega : l.length = 0)
    exact ⟨by simp [toUpperD, mapD_nil], fun _ c hc => by cases hc⟩
  | succ n ih =>
    intro l hl h
    cases l with
    | nil => exact ⟨by simp [toUpperD, mapD_nil], fun _ c hc => by cases hc⟩
    | cons b t =>
      have hne : (b :: t) ≠ [] := by simp
      have hstep : toUpperD (b :: t) = (if 0 ≤ toUpperU (decodeL (b :: t)).1 then encodeRune (toUpperU (decodeL (b :: t)).1) else []) ++ toUpperD ((b :: t).drop (decodeL (b :: t)).2) := mapD_step toUpperU (b :: t) hne
      have hw1 := decodeL_width (b :: t)
      have hw2 := decodeL_le (b :: t) hne
      have hr := toUpperU_range (decodeL (b :: t)).1 (decodeL_rune _)
      rw [if_pos hr.1] at hstep
      rw [hstep] at h ⊢
      have hE : ∀ c ∈ encodeRune (toUpperU (decodeL (b :: t)).1), c.toNat < 128 := fun c hc => h c (List.mem_append.2 (.inl hc))
      have hT : ∀ c ∈ toUpperD ((b :: t).drop (decodeL (b :: t)).2), c.toNat < 128 := fun c hc => h c (List.mem_append.2 (.inr hc))
      have hlow := enc_low hE
      obtain ⟨i1, i2⟩ := ih ((b :: t).drop (decodeL (b :: t)).2) (by rw [List.length_drop]; simp only [List.length_cons] at hl ⊢; omega) hT
      rw [List.length_drop] at i1 i2
      rw [List.length_append, enc_one hlow]
      simp only [List.length_cons, List.length_nil] at i1 i2 hw2 ⊢
      refine ⟨by omega, fun he c hc => ?_⟩
      have hw : (decodeL (b :: t)).2 = 1 := by omega
      rw [hw] at i1 i2 he
      have hall := i2 (by omega)
      rcases List.mem_cons.1 hc with rfl | hc
      · by_cases hbad : (decodeL (c :: t)).1 = 65533
        · rw [hbad, upper_bad] at hlow; omega
        · have henc := encode_decode (c :: t) hne (fun g => hbad g.1)
          rw [hw] at henc
          have h1 : encodeRune ((decodeL (c :: t)).1 : Int) = [c] := henc
          by_cases hs : 0 ≤ ((decodeL (c :: t)).1 : Int) ∧ ((decodeL (c :: t)).1 : Int) ≤ 127
          · rw [enc_one hs] at h1
            injection h1 with h1
            rw [← h1, Int.toNat_natCast, Nat.toUInt8_eq, UInt8.toNat_ofNat']
            omega
          · exfalso
            have hl2 : (encodeRune ((decodeL (c :: t)).1 : Int)).length = 1 := by rw [h1]; rfl
            unfold encodeRune at hl2
            rw [List.length_map] at hl2
            unfold encodeRuneZ at hl2
            rw [if_neg hs] at hl2
            split at hl2
            · simp at hl2
            · split at hl2
              · simp at hl2
              · split at hl2 <;> simp at hl2
      · exact hall c (by simpa using hc)
end Go.Proofs.YtppjpledjhinbaaDoor
/- Cabins: a row's text cut at its dots, and its dots struck, in plain words. -/
namespace Go.Proofs.YtppjpledjhinbaaDoor
open Go.RowKit Go.Lib
theorem index_skip {c d : UInt8} {s : List UInt8} {i : Nat} (hc : ¬ c = d) (hi : index s [d] = i) : index (c :: s) [d] = ((i + 1 : Nat) : Int) := by
  rw [index_one] at hi ⊢
  have hcb : (c == d) = false := beq_eq_false_iff_ne.2 hc
  rw [indexByte]
  simp only [hcb, Bool.false_eq_true, if_false, hi]
  have : ((i : Int) == -1) = false := beq_eq_false_iff_ne.2 (by omega)
  simp only [this, Bool.false_eq_true, if_false]
  omega
theorem replaceK_dots : ∀ s : List UInt8, replaceK [46] [] (count s [46]) s = noDots s := by
  intro s
  induction s with
  | nil => rw [count_one]; rfl
  | cons c s ih =>
    by_cases hc : c = 46
    · subst hc
      have hi : index ((46 : UInt8) :: s) [46] = ((0 : Nat) : Int) := by rw [index_one]; simp [indexByte]
      rw [count_cons_eq, Nat.add_comm, replaceK_hit _ _ _ _ 0 hi, noDots_cons, if_pos rfl]
      simpa using ih
    · rw [count_cons_ne c 46 s hc, noDots_cons, if_neg hc]
      cases hk : count s [46] with
      | zero =>
        rw [hk] at ih
        rw [replaceK] at ih ⊢
        rw [← ih]
      | succ k =>
        obtain ⟨i, hi⟩ := index_of_count (s := s) (old := [46]) (by omega)
        rw [hk, replaceK_hit _ _ _ _ i hi] at ih
        rw [replaceK_hit _ _ _ _ (i + 1) (index_skip hc hi), ← ih]
        simp
theorem replace_dots (s : List UInt8) : replaceAll s [46] [] = noDots s := by
  unfold replaceAll replace replaceNum
  rw [if_neg (by decide), if_pos (.inl (by decide))]
  exact replaceK_dots s
/-- A row's blocks. -/
def piecesL : List UInt8 → List (List UInt8)
  | [] => [[]]
  | c :: t => if c = 46 then [] :: piecesL t else match piecesL t with
    | p :: ps => (c :: p) :: ps
    | [] => [[c]]
theorem pieces_ne : ∀ s, piecesL s ≠ [] := by
  intro s
  cases s with
  | nil => simp [piecesL]
  | cons c t =>
    unfold piecesL
    split
    · simp
    · split <;> simp
theorem splitK_pieces : ∀ s : List UInt8, splitK [46] 0 (count s [46]) s = piecesL s := by
  intro s
  induction s with
  | nil => rw [count_one]; rfl
  | cons c s ih =>
    by_cases hc : c = 46
    · subst hc
      have hi : index ((46 : UInt8) :: s) [46] = ((0 : Nat) : Int) := by rw [index_one]; simp [indexByte]
      rw [count_cons_eq, Nat.add_comm, splitK, hi, piecesL, if_pos rfl, ← ih]
      simp
    · rw [count_cons_ne c 46 s hc, piecesL, if_neg hc, ← ih]
      cases hk : count s [46] with
      | zero => rfl
      | succ k =>
        obtain ⟨i, hi⟩ := index_of_count (s := s) (old := [46]) (by omega)
        have h1 : ((i : Int) == -1) = false := beq_eq_false_iff_ne.2 (by omega)
        have h2 : (((i + 1 : Nat) : Int) == -1) = false := beq_eq_false_iff_ne.2 (by omega)
        rw [splitK, splitK, hi, index_skip hc hi, h1, h2]
        simp
theorem dots_pieces : ∀ (s : List UInt8), (dotsOk true s = true ↔ ([] : List UInt8) ∉ piecesL s) ∧ (dotsOk false s = true ↔ ([] : List UInt8) ∉ (piecesL s).tail) := by
  intro s
  induction s with
  | nil => exact ⟨by simp [dotsOk, piecesL], by simp [dotsOk, piecesL]⟩
  | cons c t ih =>
    by_cases hc : c = 46
    · subst hc
      refine ⟨by simp [dotsOk, piecesL], ?_⟩
      simp only [dotsOk, piecesL, if_true, Bool.false_eq_true, if_false, List.tail_cons]
      exact ih.1
    · obtain ⟨p, ps, hp⟩ : ∃ p ps, piecesL t = p :: ps := by
        cases h : piecesL t with
        | nil => exact absurd h (pieces_ne t)
        | cons p ps => exact ⟨p, ps, rfl⟩
      have h2 := ih.2
      rw [hp] at h2
      simp only [List.tail_cons] at h2
      refine ⟨?_, ?_⟩
      · simp only [dotsOk, piecesL, if_neg hc, hp, h2]
        simp
      · simp only [dotsOk, piecesL, if_neg hc, hp, h2, List.tail_cons]
theorem bytes_nil {b : ByteArray} (h : b.data.toList = []) : b = ⟨#[]⟩ := by
  cases b with
  | mk d => cases d with
    | mk l => simp at h; subst h; rfl
theorem contains_pieces (s : ByteArray) : containsS (splitB ⟨#[46]⟩ 0 (countB s ⟨#[46]⟩) s) ⟨#[]⟩ = !dotsOk true s.data.toList := by
  have hd := splitB_data ⟨#[46]⟩ 0 (countB s ⟨#[46]⟩) s
  have e : countB s ⟨#[46]⟩ = count s.data.toList [46] := rfl
  rw [e] at hd ⊢
  have hp : (splitB ⟨#[46]⟩ 0 (count s.data.toList [46]) s).map (·.data.toList) = piecesL s.data.toList := hd.trans (splitK_pieces _)
  rw [Bool.eq_iff_iff, containsS_iff, Bool.not_eq_true', ← Bool.not_eq_true, (dots_pieces s.data.toList).1, Classical.not_not, ← hp, List.mem_map]
  constructor
  · exact fun h => ⟨_, h, rfl⟩
  · rintro ⟨b, hb, e⟩
    rw [← bytes_nil e]; exact hb
theorem rises_small : ∀ (l : List UInt8) (last : UInt8), risesGo last l = true → ∀ c ∈ l, c.toNat < 128 := by
  intro l
  induction l with
  | nil => intro _ _ c hc; cases hc
  | cons d t ih =>
    intro last h c hc
    simp only [risesGo, Bool.and_eq_true, decide_eq_true_eq] at h
    rcases List.mem_cons.1 hc with rfl | hc
    · omega
    · exact ih d h.2 c hc
theorem seats_small : ∀ (l : List UInt8) (dot : Bool) (n : Nat) (last : UInt8), seatsGo dot n last l = true → ∀ c ∈ l, c.toNat < 128 := by
  intro l
  induction l with
  | nil => intro _ _ _ _ c hc; cases hc
  | cons d t ih =>
    intro dot n last h c hc
    simp only [seatsGo] at h
    split at h
    · rename_i h46
      split at h
      · cases h
      · rcases List.mem_cons.1 hc with rfl | hc
        · rw [h46]; decide
        · exact ih _ _ _ h c hc
    · split at h
      · cases h
      · rename_i hg
        rcases List.mem_cons.1 hc with rfl | hc
        · rcases Nat.lt_or_ge c.toNat 128 with h8 | h8
          · exact h8
          · exfalso
            refine hg (.inl ?_)
            unfold greatB
            rw [if_neg (by omega), if_neg (by omega)]
        · exact ih _ _ _ h c hc
/-- A row's letters, as the program judges them. -/
theorem letters_ok (s : ByteArray) : seatsOk s = (risesGo 0 (noDots (toUpperD s.data.toList)) && decide (1 ≤ (noDots (toUpperD s.data.toList)).length ∧ (noDots (toUpperD s.data.toList)).length ≤ 6) && decide ((toUpperD s.data.toList).length = s.data.toList.length) && dotsOk true s.data.toList) := by
  unfold seatsOk
  by_cases ha : ∀ c ∈ s.data.toList, c.toNat < 128
  · rw [toUpperD_ascii _ ha, seats_go _ true 0 0 ha (by omega)]
    unfold toUpperA
    rw [Nat.zero_add, List.length_map, decide_eq_true (rfl : s.data.toList.length = s.data.toList.length), Bool.and_true]
  · have h1 : seatsGo true 0 0 s.data.toList = false := Bool.eq_false_iff.2 fun h => ha (seats_small _ _ _ _ h)
    rw [h1]
    symm
    rw [Bool.eq_false_iff]
    intro h
    simp only [Bool.and_eq_true, decide_eq_true_eq] at h
    obtain ⟨⟨⟨h2, _⟩, h3⟩, _⟩ := h
    have hs := rises_small _ _ h2
    refine ha ((upper_small _ _ (Nat.le_refl _) fun c hc => ?_).2 h3)
    by_cases hc46 : c = 46
    · rw [hc46]; decide
    · exact hs c (List.mem_filter.2 ⟨hc, by simpa using hc46⟩)
end Go.Proofs.YtppjpledjhinbaaDoor
/- Contracts of the library, laid at this program (printed by the kit's lay-shelf and lay-plain, cut by shelfcut.py; the numbers are this seat's). -/
namespace Go.Proofs
open Go.Shelf
def Tryd.lays158_ren : Go.Shelf.Ren := ⟨fun | 158 => 75 | 165 => 83 | 166 => 84 | 167 => 85 | 169 => 86 | 230 => 87 | 203 => 88 | 240 => 94 | 241 => 95 | 197 => 96 | 118 => 97 | 168 => 98 | 270 => 99 | 262 => 100 | 276 => 105 | 277 => 106 | 260 => 107 | 242 => 108 | 313 => 109 | 278 => 113 | 274 => 114 | 275 => 115 | n => n, fun | 9 => 9 | 4 => 4 | 3 => 3 | 5 => 5 | 72 => 174 | 0 => 0 | 76 => 177 | 75 => 176 | 107 => 182 | 70 => 172 | 20 => 20 | 37 => 160 | 127 => 187 | 21 => 21 | 105 => 188 | 164 => 195 | 162 => 201 | 203 => 199 | 119 => 204 | 46 => 54 | 139 => 207 | 138 => 206 | 51 => 208 | 160 => 209 | 208 => 216 | 206 => 214 | 80 => 180 | n => n, fun | 13 => 0 | 3 => 2 | 4 => 3 | n => n⟩
theorem Tryd.lays158 : Go.Proofs.Lays.n158 Tryd.prog Tryd.lays158_ren := {
  mixed := by kernel_rfl
  f118 := Tryd.func97.trans (congrArg some (by kernel_rfl))
  f158 := Tryd.func75.trans (congrArg some (by kernel_rfl))
  f165 := Tryd.func83.trans (congrArg some (by kernel_rfl))
  f166 := Tryd.func84.trans (congrArg some (by kernel_rfl))
  f167 := Tryd.func85.trans (congrArg some (by kernel_rfl))
  f168 := Tryd.func98.trans (congrArg some (by kernel_rfl))
  f169 := Tryd.func86.trans (congrArg some (by kernel_rfl))
  f197 := Tryd.func96.trans (congrArg some (by kernel_rfl))
  f203 := Tryd.func88.trans (congrArg some (by kernel_rfl))
  f230 := Tryd.func87.trans (congrArg some (by kernel_rfl))
  f240 := Tryd.func94.trans (congrArg some (by kernel_rfl))
  f241 := Tryd.func95.trans (congrArg some (by kernel_rfl))
  f242 := Tryd.func108.trans (congrArg some (by kernel_rfl))
  f260 := Tryd.func107.trans (congrArg some (by kernel_rfl))
  f262 := Tryd.func100.trans (congrArg some (by kernel_rfl))
  f270 := Tryd.func99.trans (congrArg some (by kernel_rfl))
  f274 := Tryd.func114.trans (congrArg some (by kernel_rfl))
  f275 := Tryd.func115.trans (congrArg some (by kernel_rfl))
  f276 := Tryd.func105.trans (congrArg some (by kernel_rfl))
  f277 := Tryd.func106.trans (congrArg some (by kernel_rfl))
  f278 := Tryd.func113.trans (congrArg some (by kernel_rfl))
  f313 := Tryd.func109.trans (congrArg some (by kernel_rfl))
  t0 := Tryd.underlying0
  a0 := Tryd.isAgg0
  z0 := Tryd.sizeOf0
  v0 := Tryd.zeroValue0
  t3 := Tryd.underlying3
  a3 := Tryd.isAgg3
  z3 := Tryd.sizeOf3
  v3 := Tryd.zeroValue3
  t4 := Tryd.underlying4
  a4 := Tryd.isAgg4
  z4 := Tryd.sizeOf4
  v4 := Tryd.zeroValue4
  t5 := Tryd.underlying5
  a5 := Tryd.isAgg5
  z5 := Tryd.sizeOf5
  v5 := Tryd.zeroValue5
  t9 := Tryd.underlying9
  a9 := Tryd.isAgg9
  z9 := Tryd.sizeOf9
  v9 := Tryd.zeroValue9
  t20 := Tryd.underlying20
  a20 := Tryd.isAgg20
  z20 := Tryd.sizeOf20
  v20 := Tryd.zeroValue20
  t21 := Tryd.underlying21
  a21 := Tryd.isAgg21
  z21 := Tryd.sizeOf21
  v21 := Tryd.zeroValue21
  t37 := Tryd.underlying160
  a37 := Tryd.isAgg160
  z37 := Tryd.sizeOf160
  v37 := Tryd.zeroValue160
  t46 := Tryd.underlying54
  a46 := Tryd.isAgg54
  z46 := Tryd.sizeOf54
  v46 := Tryd.zeroValue54
  t51 := Tryd.underlying208
  a51 := Tryd.isAgg208
  z51 := Tryd.sizeOf208
  v51 := Tryd.zeroValue208
  t70 := Tryd.underlying172
  a70 := Tryd.isAgg172
  z70 := Tryd.sizeOf172
  v70 := Tryd.zeroValue172
  t72 := Tryd.underlying174
  a72 := Tryd.isAgg174
  z72 := Tryd.sizeOf174
  v72 := Tryd.zeroValue174
  t75 := Tryd.underlying176
  a75 := Tryd.isAgg176
  z75 := Tryd.sizeOf176
  v75 := Tryd.zeroValue176
  t76 := Tryd.underlying177
  a76 := Tryd.isAgg177
  z76 := Tryd.sizeOf177
  v76 := Tryd.zeroValue177
  t105 := Tryd.underlying188
  a105 := Tryd.isAgg188
  z105 := Tryd.sizeOf188
  v105 := Tryd.zeroValue188
  t107 := Tryd.underlying182
  a107 := Tryd.isAgg182
  z107 := Tryd.sizeOf182
  v107 := Tryd.zeroValue182
  t119 := Tryd.underlying204
  a119 := Tryd.isAgg204
  z119 := Tryd.sizeOf204
  t127 := Tryd.underlying187
  a127 := Tryd.isAgg187
  z127 := Tryd.sizeOf187
  v127 := Tryd.zeroValue187
  t138 := Tryd.underlying206
  a138 := Tryd.isAgg206
  z138 := Tryd.sizeOf206
  v138 := Tryd.zeroValue206
  t139 := Tryd.underlying207
  a139 := Tryd.isAgg207
  z139 := Tryd.sizeOf207
  v139 := Tryd.zeroValue207
  t160 := Tryd.underlying209
  a160 := Tryd.isAgg209
  z160 := Tryd.sizeOf209
  v160 := Tryd.zeroValue209
  t162 := Tryd.underlying201
  a162 := Tryd.isAgg201
  z162 := Tryd.sizeOf201
  v162 := Tryd.zeroValue201
  t164 := Tryd.underlying195
  a164 := Tryd.isAgg195
  z164 := Tryd.sizeOf195
  v164 := Tryd.zeroValue195
  t203 := Tryd.underlying199
  a203 := Tryd.isAgg199
  z203 := Tryd.sizeOf199
  v203 := Tryd.zeroValue199
  t206 := Tryd.underlying214
  a206 := Tryd.isAgg214
  z206 := Tryd.sizeOf214
  v206 := Tryd.zeroValue214
  t208 := Tryd.underlying216
  a208 := Tryd.isAgg216
  z208 := Tryd.sizeOf216
  v208 := Tryd.zeroValue216
  g3 := by kernel_rfl
  g4 := by kernel_rfl
  g13 := by kernel_rfl }
theorem Tryd.Builder_Extra_158 : Builder.Extra Tryd.prog Tryd.lays158_ren := {
  sizeBuilder := by kernel_rfl
  liesBuilder := by kernel_rfl
  t5 := Tryd.underlying5
  a5 := Tryd.isAgg5
  z5 := Tryd.sizeOf5
  v5 := Tryd.zeroValue5
  infoByte := by kernel_rfl
  cellsByte := by kernel_rfl
  sizeByte := by kernel_rfl
  neB5 := by decide }
def Tryd.lays143_ren : Go.Shelf.Ren := ⟨fun | 143 => 102 | 219 => 112 | 217 => 116 | 225 => 117 | 224 => 118 | 267 => 119 | 266 => 120 | 314 => 121 | n => n, fun | 9 => 9 | 3 => 3 | 4 => 4 | 5 => 5 | 46 => 54 | 146 => 217 | 51 => 208 | n => n, fun | 1 => 1 | n => n⟩
theorem Tryd.lays143 : Go.Proofs.Lays.n143 Tryd.prog Tryd.lays143_ren := {
  mixed := by kernel_rfl
  f143 := Tryd.func102.trans (congrArg some (by kernel_rfl))
  f217 := Tryd.func116.trans (congrArg some (by kernel_rfl))
  f219 := Tryd.func112.trans (congrArg some (by kernel_rfl))
  f224 := Tryd.func118.trans (congrArg some (by kernel_rfl))
  f225 := Tryd.func117.trans (congrArg some (by kernel_rfl))
  f266 := Tryd.func120.trans (congrArg some (by kernel_rfl))
  f267 := Tryd.func119.trans (congrArg some (by kernel_rfl))
  f314 := Tryd.func121.trans (congrArg some (by kernel_rfl))
  t3 := Tryd.underlying3
  a3 := Tryd.isAgg3
  z3 := Tryd.sizeOf3
  v3 := Tryd.zeroValue3
  t4 := Tryd.underlying4
  a4 := Tryd.isAgg4
  z4 := Tryd.sizeOf4
  v4 := Tryd.zeroValue4
  t5 := Tryd.underlying5
  a5 := Tryd.isAgg5
  z5 := Tryd.sizeOf5
  v5 := Tryd.zeroValue5
  t9 := Tryd.underlying9
  a9 := Tryd.isAgg9
  z9 := Tryd.sizeOf9
  v9 := Tryd.zeroValue9
  t46 := Tryd.underlying54
  a46 := Tryd.isAgg54
  z46 := Tryd.sizeOf54
  v46 := Tryd.zeroValue54
  t51 := Tryd.underlying208
  a51 := Tryd.isAgg208
  z51 := Tryd.sizeOf208
  v51 := Tryd.zeroValue208
  t146 := Tryd.underlying217
  a146 := Tryd.isAgg217
  z146 := Tryd.sizeOf217
  v146 := Tryd.zeroValue217
  g1 := by kernel_rfl }
open Go.RowKit Go.Lib in
/-- strings.Index: "Index returns the index of the first instance of substr in s, or -1 if substr is not present in s.": AT A substr OF ONE BYTE c: IT RETURNS 'Lib.indexByte s c'; the world is as it was. (LAID: no walk: one application.) -/
theorem Tryd.strings_Index_one (s : ByteArray) (c : UInt8) (w : World) :
    Calls Tryd.prog 102 #[.string s, .string ⟨#[c]⟩] w fun e w' => e = .returned (.int .i64 (Lib.indexByte s.data.toList c)) ∧ w' = w := Any.strings_Index_one Tryd.lays143 s c w
def Tryd.lays146_ren : Go.Shelf.Ren := ⟨fun | 146 => 78 | 221 => 91 | 268 => 103 | 138 => 101 | 143 => 102 | 195 => 110 | 197 => 96 | 218 => 111 | 219 => 112 | 260 => 107 | 217 => 116 | 225 => 117 | 224 => 118 | 267 => 119 | 266 => 120 | 314 => 121 | n => n, fun | 9 => 9 | 31 => 162 | 3 => 3 | 4 => 4 | 0 => 0 | 105 => 188 | 21 => 21 | 5 => 5 | 46 => 54 | 119 => 204 | 139 => 207 | 138 => 206 | 146 => 217 | 51 => 208 | n => n, fun | 1 => 1 | 3 => 2 | 4 => 3 | n => n⟩
theorem Tryd.lays146 : Go.Proofs.Lays.n146 Tryd.prog Tryd.lays146_ren := {
  mixed := by kernel_rfl
  f138 := Tryd.func101.trans (congrArg some (by kernel_rfl))
  f143 := Tryd.func102.trans (congrArg some (by kernel_rfl))
  f146 := Tryd.func78.trans (congrArg some (by kernel_rfl))
  f195 := Tryd.func110.trans (congrArg some (by kernel_rfl))
  f197 := Tryd.func96.trans (congrArg some (by kernel_rfl))
  f217 := Tryd.func116.trans (congrArg some (by kernel_rfl))
  f218 := Tryd.func111.trans (congrArg some (by kernel_rfl))
  f219 := Tryd.func112.trans (congrArg some (by kernel_rfl))
  f221 := Tryd.func91.trans (congrArg some (by kernel_rfl))
  f224 := Tryd.func118.trans (congrArg some (by kernel_rfl))
  f225 := Tryd.func117.trans (congrArg some (by kernel_rfl))
  f260 := Tryd.func107.trans (congrArg some (by kernel_rfl))
  f266 := Tryd.func120.trans (congrArg some (by kernel_rfl))
  f267 := Tryd.func119.trans (congrArg some (by kernel_rfl))
  f268 := Tryd.func103.trans (congrArg some (by kernel_rfl))
  f314 := Tryd.func121.trans (congrArg some (by kernel_rfl))
  t0 := Tryd.underlying0
  a0 := Tryd.isAgg0
  z0 := Tryd.sizeOf0
  v0 := Tryd.zeroValue0
  t3 := Tryd.underlying3
  a3 := Tryd.isAgg3
  z3 := Tryd.sizeOf3
  v3 := Tryd.zeroValue3
  t4 := Tryd.underlying4
  a4 := Tryd.isAgg4
  z4 := Tryd.sizeOf4
  v4 := Tryd.zeroValue4
  t5 := Tryd.underlying5
  a5 := Tryd.isAgg5
  z5 := Tryd.sizeOf5
  v5 := Tryd.zeroValue5
  t9 := Tryd.underlying9
  a9 := Tryd.isAgg9
  z9 := Tryd.sizeOf9
  v9 := Tryd.zeroValue9
  t21 := Tryd.underlying21
  a21 := Tryd.isAgg21
  z21 := Tryd.sizeOf21
  v21 := Tryd.zeroValue21
  t31 := Tryd.underlying162
  a31 := Tryd.isAgg162
  z31 := Tryd.sizeOf162
  v31 := Tryd.zeroValue162
  t46 := Tryd.underlying54
  a46 := Tryd.isAgg54
  z46 := Tryd.sizeOf54
  v46 := Tryd.zeroValue54
  t51 := Tryd.underlying208
  a51 := Tryd.isAgg208
  z51 := Tryd.sizeOf208
  v51 := Tryd.zeroValue208
  t105 := Tryd.underlying188
  a105 := Tryd.isAgg188
  z105 := Tryd.sizeOf188
  v105 := Tryd.zeroValue188
  t119 := Tryd.underlying204
  a119 := Tryd.isAgg204
  z119 := Tryd.sizeOf204
  t138 := Tryd.underlying206
  a138 := Tryd.isAgg206
  z138 := Tryd.sizeOf206
  v138 := Tryd.zeroValue206
  t139 := Tryd.underlying207
  a139 := Tryd.isAgg207
  z139 := Tryd.sizeOf207
  v139 := Tryd.zeroValue207
  t146 := Tryd.underlying217
  a146 := Tryd.isAgg217
  z146 := Tryd.sizeOf217
  v146 := Tryd.zeroValue217
  g1 := by kernel_rfl
  g3 := by kernel_rfl
  g4 := by kernel_rfl }
open Go.RowKit Go.Lib in
/-- strings.Split. (LAID: no walk: one application.) -/
theorem Tryd.strings_Split (s sep : ByteArray) (m : Int) (w : World) (hs : s.size < 4294967281) (hm : w.cell? ⟨1, 0, none⟩ = some (.int .i64 m)) (h1 : 1 ≤ sep.size) :
    Calls Tryd.prog 78 #[.string s, .string sep] w fun e w' =>
      e = .returned (.slice (some ⟨w.heap.size, 0, none⟩) (Lib.countB s sep + 1) (Lib.countB s sep + 1)) ∧ w' = w.alloc (.cells ((Lib.splitB sep 0 (Lib.countB s sep) s).map Value.string).toArray 9) := Any.strings_Split Tryd.lays146 (by kernel_rfl) s sep m w hs hm h1
def Tryd.lays155_ren : Go.Shelf.Ren := ⟨fun | 155 => 76 | 154 => 89 | 138 => 101 | 165 => 83 | 143 => 102 | 166 => 84 | 197 => 96 | 169 => 86 | 195 => 110 | 218 => 111 | 240 => 94 | 241 => 95 | 219 => 112 | 260 => 107 | 276 => 105 | 277 => 106 | 217 => 116 | 225 => 117 | 224 => 118 | 267 => 119 | 266 => 120 | 314 => 121 | n => n, fun | 9 => 9 | 3 => 3 | 4 => 4 | 72 => 174 | 0 => 0 | 76 => 177 | 105 => 188 | 21 => 21 | 5 => 5 | 70 => 172 | 20 => 20 | 37 => 160 | 75 => 176 | 127 => 187 | 164 => 195 | 46 => 54 | 119 => 204 | 139 => 207 | 138 => 206 | 146 => 217 | 51 => 208 | 80 => 180 | n => n, fun | 1 => 1 | 3 => 2 | 4 => 3 | n => n⟩
theorem Tryd.lays155 : Go.Proofs.Lays.n155 Tryd.prog Tryd.lays155_ren := {
  mixed := by kernel_rfl
  f138 := Tryd.func101.trans (congrArg some (by kernel_rfl))
  f143 := Tryd.func102.trans (congrArg some (by kernel_rfl))
  f154 := Tryd.func89.trans (congrArg some (by kernel_rfl))
  f155 := Tryd.func76.trans (congrArg some (by kernel_rfl))
  f165 := Tryd.func83.trans (congrArg some (by kernel_rfl))
  f166 := Tryd.func84.trans (congrArg some (by kernel_rfl))
  f169 := Tryd.func86.trans (congrArg some (by kernel_rfl))
  f195 := Tryd.func110.trans (congrArg some (by kernel_rfl))
  f197 := Tryd.func96.trans (congrArg some (by kernel_rfl))
  f217 := Tryd.func116.trans (congrArg some (by kernel_rfl))
  f218 := Tryd.func111.trans (congrArg some (by kernel_rfl))
  f219 := Tryd.func112.trans (congrArg some (by kernel_rfl))
  f224 := Tryd.func118.trans (congrArg some (by kernel_rfl))
  f225 := Tryd.func117.trans (congrArg some (by kernel_rfl))
  f240 := Tryd.func94.trans (congrArg some (by kernel_rfl))
  f241 := Tryd.func95.trans (congrArg some (by kernel_rfl))
  f260 := Tryd.func107.trans (congrArg some (by kernel_rfl))
  f266 := Tryd.func120.trans (congrArg some (by kernel_rfl))
  f267 := Tryd.func119.trans (congrArg some (by kernel_rfl))
  f276 := Tryd.func105.trans (congrArg some (by kernel_rfl))
  f277 := Tryd.func106.trans (congrArg some (by kernel_rfl))
  f314 := Tryd.func121.trans (congrArg some (by kernel_rfl))
  t0 := Tryd.underlying0
  a0 := Tryd.isAgg0
  z0 := Tryd.sizeOf0
  v0 := Tryd.zeroValue0
  t3 := Tryd.underlying3
  a3 := Tryd.isAgg3
  z3 := Tryd.sizeOf3
  v3 := Tryd.zeroValue3
  t4 := Tryd.underlying4
  a4 := Tryd.isAgg4
  z4 := Tryd.sizeOf4
  v4 := Tryd.zeroValue4
  t5 := Tryd.underlying5
  a5 := Tryd.isAgg5
  z5 := Tryd.sizeOf5
  v5 := Tryd.zeroValue5
  t9 := Tryd.underlying9
  a9 := Tryd.isAgg9
  z9 := Tryd.sizeOf9
  v9 := Tryd.zeroValue9
  t20 := Tryd.underlying20
  a20 := Tryd.isAgg20
  z20 := Tryd.sizeOf20
  v20 := Tryd.zeroValue20
  t21 := Tryd.underlying21
  a21 := Tryd.isAgg21
  z21 := Tryd.sizeOf21
  v21 := Tryd.zeroValue21
  t37 := Tryd.underlying160
  a37 := Tryd.isAgg160
  z37 := Tryd.sizeOf160
  v37 := Tryd.zeroValue160
  t46 := Tryd.underlying54
  a46 := Tryd.isAgg54
  z46 := Tryd.sizeOf54
  v46 := Tryd.zeroValue54
  t51 := Tryd.underlying208
  a51 := Tryd.isAgg208
  z51 := Tryd.sizeOf208
  v51 := Tryd.zeroValue208
  t70 := Tryd.underlying172
  a70 := Tryd.isAgg172
  z70 := Tryd.sizeOf172
  v70 := Tryd.zeroValue172
  t72 := Tryd.underlying174
  a72 := Tryd.isAgg174
  z72 := Tryd.sizeOf174
  v72 := Tryd.zeroValue174
  t75 := Tryd.underlying176
  a75 := Tryd.isAgg176
  z75 := Tryd.sizeOf176
  v75 := Tryd.zeroValue176
  t76 := Tryd.underlying177
  a76 := Tryd.isAgg177
  z76 := Tryd.sizeOf177
  v76 := Tryd.zeroValue177
  t105 := Tryd.underlying188
  a105 := Tryd.isAgg188
  z105 := Tryd.sizeOf188
  v105 := Tryd.zeroValue188
  t119 := Tryd.underlying204
  a119 := Tryd.isAgg204
  z119 := Tryd.sizeOf204
  t127 := Tryd.underlying187
  a127 := Tryd.isAgg187
  z127 := Tryd.sizeOf187
  v127 := Tryd.zeroValue187
  t138 := Tryd.underlying206
  a138 := Tryd.isAgg206
  z138 := Tryd.sizeOf206
  v138 := Tryd.zeroValue206
  t139 := Tryd.underlying207
  a139 := Tryd.isAgg207
  z139 := Tryd.sizeOf207
  v139 := Tryd.zeroValue207
  t146 := Tryd.underlying217
  a146 := Tryd.isAgg217
  z146 := Tryd.sizeOf217
  v146 := Tryd.zeroValue217
  t164 := Tryd.underlying195
  a164 := Tryd.isAgg195
  z164 := Tryd.sizeOf195
  v164 := Tryd.zeroValue195
  g1 := by kernel_rfl
  g3 := by kernel_rfl
  g4 := by kernel_rfl }
theorem Tryd.Builder_Extra_155 : Builder.Extra Tryd.prog Tryd.lays155_ren := {
  sizeBuilder := by kernel_rfl
  liesBuilder := by kernel_rfl
  t5 := Tryd.underlying5
  a5 := Tryd.isAgg5
  z5 := Tryd.sizeOf5
  v5 := Tryd.zeroValue5
  infoByte := by kernel_rfl
  cellsByte := by kernel_rfl
  sizeByte := by kernel_rfl
  neB5 := by decide }
open Go.RowKit Go.Lib in
/-- strings.ReplaceAll: "ReplaceAll returns a copy of the string s with all non-overlapping instances of old replaced by new.": AT AN old THAT IS NOT EMPTY: 'Lib.replaceAll s old new'. (LAID: no walk: one application.) -/
theorem Tryd.strings_ReplaceAll (s old new : ByteArray) (m : Int) (w : World) (hs : s.size < 4294967281) (hm : w.cell? ⟨1, 0, none⟩ = some (.int .i64 m)) (h1 : 1 ≤ old.size) (hlen : s.size + Lib.countB s old * new.size ≤ 140737488355328) :
    Calls Tryd.prog 76 #[.string s, .string old, .string new] w fun e w' =>
      e = .returned (.string ⟨(Lib.replaceAll s.data.toList old.data.toList new.data.toList).toArray⟩) ∧ Below w.heap.size w w' := Any.strings_ReplaceAll Tryd.lays155 Tryd.Builder_Extra_155 s old new m w hs hm h1 hlen
open Go.RowKit Go.Lib in
/-- **strings.ToUpper AT EVERY STRING, VALID UTF-8 OR NOT.** (LAID: no walk: one application.) -/
theorem Tryd.strings_ToUpper_any (s : ByteArray) (w : World) (hs : s.size < 35184372088832) (hV : CaseVar 0 caseA w) (hT : Lib.Utf8Tabs 2 3 w) :
    Calls Tryd.prog 75 #[.string s] w fun e w' => e = .returned (.string ⟨(Lib.toUpperD s.data.toList).toArray⟩) ∧ Below w.heap.size w w' := Any.strings_ToUpper_any Tryd.lays158 Tryd.Builder_Extra_158 s w hs hV hT
def Tryd.lays110_ren : Go.Shelf.Ren := ⟨fun | 110 => 77 | 109 => 90 | n => n, fun | 31 => 162 | 9 => 9 | 4 => 4 | 3 => 3 | 0 => 0 | n => n, fun | n => n⟩
theorem Tryd.lays110 : Go.Proofs.Lays.n110 Tryd.prog Tryd.lays110_ren := {
  mixed := by kernel_rfl
  f109 := Tryd.func90.trans (congrArg some (by kernel_rfl))
  f110 := Tryd.func77.trans (congrArg some (by kernel_rfl))
  t0 := Tryd.underlying0
  a0 := Tryd.isAgg0
  z0 := Tryd.sizeOf0
  v0 := Tryd.zeroValue0
  t3 := Tryd.underlying3
  a3 := Tryd.isAgg3
  z3 := Tryd.sizeOf3
  v3 := Tryd.zeroValue3
  t4 := Tryd.underlying4
  a4 := Tryd.isAgg4
  z4 := Tryd.sizeOf4
  v4 := Tryd.zeroValue4
  t9 := Tryd.underlying9
  a9 := Tryd.isAgg9
  z9 := Tryd.sizeOf9
  v9 := Tryd.zeroValue9
  t31 := Tryd.underlying162
  a31 := Tryd.isAgg162
  z31 := Tryd.sizeOf162
  v31 := Tryd.zeroValue162 }
open Go.Lib in
/-- slices.Contains at []string: "Contains reports whether v is present in s.": IT RETURNS 'Lib.containsS (the elements) v', which is true just where v is among them ('Lib.containsS_iff'); the world is as it was. ITS CALLEE slices.Index IS MET BY ITS OWN CONTRACT OFF THE SHELF (lay that first): no loop is walked here. (LAID: no walk: one application.) -/
theorem Tryd.slices_Contains_string (b off n c : Nat) (zs : List ByteArray) (x : ByteArray) (w : World) (hz : n ≤ zs.length) (hbig : n ≤ 9223372036854775807) (hc : ∀ j, j < zs.length → w.cell? ⟨b, off + j, none⟩ = some (.string (zs.getD j ByteArray.empty))) :
    Calls Tryd.prog 77 #[.slice (some ⟨b, off, none⟩) n c, .string x] w fun e w' => e = .returned (.bool (Lib.containsS (zs.take n) x)) ∧ w' = w := Any.slices_Contains_string Tryd.lays110 b off n c zs x w hz hbig hc
open Go.Lib in
/-- The same at a slice of length 0, a nil one too. (LAID: no walk: one application.) -/
theorem Tryd.slices_Contains_string_empty (a : Option Addr) (c : Nat) (x : ByteArray) (w : World) :
    Calls Tryd.prog 77 #[.slice a 0 c, .string x] w fun e w' => e = .returned (.bool false) ∧ w' = w := Any.slices_Contains_string_empty Tryd.lays110 a c x w
end Go.Proofs
/- Bytes in a block of the call's own that may be written: what '[]byte(s)' makes. -/
namespace Go.Proofs.YtppjpledjhinbaaDoor
open Go.RowKit

/-- Block g holds the bytes l from its head on, and they may be written. -/
structure Bts (w : World) (g : Nat) (l : List UInt8) : Prop where
  lt : g < w.heap.size
  cell : ∀ j (h : j < l.length), w.cell? ⟨g, j, none⟩ = some (.int .u8 (l[j].toNat : Int))
  free : ∀ j, j < l.length → w.frozen? ⟨g, j, none⟩ = false
theorem rd_bytes0 (w : World) (s : ByteArray) (cap : Nat) (e : TypeId) (fr : Nat × Nat) (j : Nat) (h : j < s.data.toList.length) : (w.alloc (.cells (bytesRow s cap) e fr)).cell? ⟨w.heap.size, j, none⟩ = some (.int .u8 (s.data.toList[j].toNat : Int)) := by
  rw [World.cell?_alloc_mark]
  unfold bytesRow
  rw [Array.getElem?_append_left (by simpa using h)]
  simp at h
  simp [h]
section
variable {w w' : World} {g : Nat} {l : List UInt8}
theorem Bts.made (w : World) (s : ByteArray) (cap : Nat) (e : TypeId) : Bts (w.alloc (.cells (bytesRow s cap) e ((bytesRow s cap).size, (bytesRow s cap).size + 1))) w.heap.size s.data.toList := by
  have hsz : s.data.toList.length ≤ (bytesRow s cap).size := by simp [bytesRow]
  refine ⟨by simp, fun j h => ?_, fun j h => ?_⟩
  · have hr := rd_bytes0 w s cap e ((bytesRow s cap).size, (bytesRow s cap).size + 1)
    exact hr j h
  · rw [World.frozen?_alloc_mark]
    simp; omega
theorem Bts.drewN (h : Bts w g l) (n : Nat) : Bts (w.drewN n) g l := ⟨h.lt, h.cell, h.free⟩
theorem Bts.drew (h : Bts w g l) : Bts w.drew g l := ⟨h.lt, h.cell, h.free⟩
theorem Bts.below {B : Nat} (h : Bts w g l) (hb : Below B w w') (hg : g < B) : Bts w' g l :=
  ⟨Nat.lt_of_lt_of_le h.lt hb.size, fun j hj => (hb.cell (p := ⟨g, j, none⟩) hg).trans (h.cell j hj), fun j hj => (hb.frozen (p := ⟨g, j, none⟩) hg).trans (h.free j hj)⟩
theorem Bts.set (h : Bts w g l) (k : Nat) (hk : k < l.length) (b : UInt8) : Bts (w.setCell ⟨g, k, none⟩ (.int .u8 (b.toNat : Int))) g (l.set k b) := by
  refine ⟨by simpa using h.lt, fun j hj => ?_, fun j hj => ?_⟩
  · have hj' : j < l.length := by simpa using hj
    by_cases e : k = j
    · subst e
      rw [World.cell?_setCell_same _ _ _ (h.cell k hk)]
      simp
    · rw [World.cell?_setCell_other _ _ _ _ (by simp), h.cell j hj']
      simp [List.getElem_set_ne e]
  · rw [World.frozen?_setCell]
    exact h.free j (by simpa using hj)
theorem Bts.take (h : Bts w g l) (n : Nat) : Bts w g (l.take n) :=
  ⟨h.lt, fun j hj => by rw [h.cell j (by rw [List.length_take] at hj; omega)]; simp, fun j hj => h.free j (by rw [List.length_take] at hj; omega)⟩
theorem Bts.conv {P : Program} {src dst e : TypeId} (h : Bts w g l) (hs : P.underlying src = some (.slice e)) (he : P.underlying e = some (.int .u8)) (hd : P.underlying dst = some .string) (n cap : Nat) (hn : n = l.length) :
    (convert src dst (.slice (some ⟨g, 0, none⟩) n cap)).run P w = .ok (.string ⟨l.toArray⟩) w := by
  subst hn
  exact run_convert_bytes_back (P := P) w src dst e ⟨g, 0, none⟩ cap l hs he hd (fun j hj => by rw [add_zero_off]; exact h.cell j hj)
end
end Go.Proofs.YtppjpledjhinbaaDoor
/- Cabins: cabin.letters, walked: a row's letters are judged as they are one by one. -/
namespace Go.Proofs.YtppjpledjhinbaaDoor
open Go.RowKit Go.Lib
/-- The library's variables that this program reads hold what start-up code lays. -/
def LibAt (w : World) (m : Int) : Prop := CaseVar 0 caseA w ∧ Lib.Utf8Tabs 2 3 w ∧ w.cell? ⟨1, 0, none⟩ = some (.int .i64 m)
theorem LibAt.below {w w' : World} {m : Int} (h : LibAt w m) (hb : Below w.heap.size w w') : LibAt w' m :=
  ⟨CaseVar_below h.1 hb, Utf8Tabs_below h.2.1 hb, (hb.cell (World.block_lt_of_cell? w _ h.2.2)).trans h.2.2⟩
theorem btw_any (w : World) (n lo hi : Int) (r : Bool) (h : (decide (lo ≤ n) && decide (n ≤ hi)) = r) :
    Calls Tryd.prog 64 #[.int .i64 n, .int .i64 lo, .int .i64 hi] w fun e w' => e = .returned (.bool r) ∧ w' = w := by
  subst h
  go_enter Tryd.func64, Tryd.ntmps64
  by_cases h1 : lo ≤ n
  · have s1 : decide (lo ≤ n) = true := decide_eq_true h1
    by_cases h2 : n ≤ hi
    · have s2 : decide (n ≤ hi) = true := decide_eq_true h2
      clear h1 h2
      go_wp2
      go_ret
      exact ⟨ret_bool (by rw [s1, s2]; rfl), rfl⟩
    · have s2 : decide (n ≤ hi) = false := decide_eq_false h2
      clear h1 h2
      go_wp2
      go_ret
      exact ⟨ret_bool (by rw [s1, s2]; rfl), rfl⟩
  · have s1 : decide (lo ≤ n) = false := decide_eq_false h1
    clear h1
    go_wp2
    go_ret
    exact ⟨ret_bool (by rw [s1]; rfl), rfl⟩
theorem upper_len4 : ∀ (n : Nat) (l : List UInt8), l.length ≤ n → (toUpperD l).length ≤ 4 * l.length := by
  intro n
  induction n with
  | zero =>
    intro l hl
    obtain rfl := List.eq_nil_of_length_eq_zero (by omega : l.length = 0)
    simp [toUpperD, mapD_nil]
  | succ n ih =>
    intro l hl
    cases l with
    | nil => simp [toUpperD, mapD_nil]
    | cons b t =>
      have hne : (b :: t) ≠ [] := by simp
      have hstep : toUpperD (b :: t) = (if 0 ≤ toUpperU (decodeL (b :: t)).1 then encodeRune (toUpperU (decodeL (b :: t)).1) else []) ++ toUpperD ((b :: t).drop (decodeL (b :: t)).2) := mapD_step toUpperU (b :: t) hne
      have hw1 := decodeL_width (b :: t)
      have hw2 := decodeL_le (b :: t) hne
      have he : (if 0 ≤ toUpperU (decodeL (b :: t)).1 then encodeRune (toUpperU (decodeL (b :: t)).1) else []).length ≤ 4 := by
        split
        · have := (encodeRuneZ_length (toUpperU (decodeL (b :: t)).1)).2
          simpa [encodeRune] using this
        · simp
      have hi := ih ((b :: t).drop (decodeL (b :: t)).2) (by rw [List.length_drop]; simp only [List.length_cons] at hl ⊢; omega)
      rw [List.length_drop] at hi
      rw [hstep, List.length_append]
      omega
theorem below_drewL {B : Nat} {w w1 : World} (h : Below B w w1) : Below B w w1.drew := ⟨h.os, h.tape, h.output, h.size, h.block⟩
/-- The letter ahead. -/
def prevB (A : List UInt8) (k : Nat) : UInt8 := if k = 0 then 0 else A.getD (k - 1) 0
theorem rises_at {A : List UInt8} {k : Nat} (hk : k < A.length) : risesGo (prevB A k) (A.drop k) = (decide (65 ≤ A[k].toNat ∧ A[k].toNat ≤ 90 ∧ (prevB A k).toNat < A[k].toNat) && risesGo (prevB A (k + 1)) (A.drop (k + 1))) := by
  rw [List.drop_eq_getElem_cons hk, risesGo]
  have : prevB A (k + 1) = A[k] := by
    unfold prevB
    rw [if_neg (by omega), Nat.add_sub_cancel, List.getD_eq_getElem?_getD, List.getElem?_eq_getElem hk]
    rfl
  rw [this]
set_option maxHeartbeats 4000000 in
set_option maxRecDepth 20000 in
theorem letters_any (s : ByteArray) (w : World) (m : Int) (hL : LibAt w m) (hs : s.size ≤ 1048576) :
    Calls Tryd.prog 65 #[.string s] w fun e w' => e = .returned (.bool (seatsOk s)) ∧ Below w.heap.size w w' := by
  have hsl : s.data.toList.length = s.size := by simp
  have hok := letters_ok s
  have hul := upper_len4 _ s.data.toList (Nat.le_refl _)
  rw [hsl] at hul hok
  obtain ⟨U, hU⟩ : ∃ U, toUpperD s.data.toList = U := ⟨_, rfl⟩
  have hup := Tryd.strings_ToUpper_any s w (by omega) hL.1 hL.2.1
  rw [hU] at hok hul hup
  obtain ⟨R, hR⟩ : ∃ R, seatsOk s = R := ⟨_, rfl⟩
  rw [hR] at hok ⊢
  have HL := Lib.hid hL
  have HUP := Lib.hid hup
  have HOK := Lib.hid hok
  have hnd := noDots_le U
  have hUs : (⟨U.toArray⟩ : ByteArray).size = U.length := rfl
  have hcb := countB_le ⟨#[46]⟩ (by decide) _ (⟨U.toArray⟩ : ByteArray) (Nat.le_refl _)
  have hcv := fun w s => run_bytes_of_string (P := Tryd.prog) w 9 160 5 s Tryd.underlying9 Tryd.underlying160 Tryd.underlying5
  have HRP := Lib.hid (fun (W : World) (hW : LibAt W m) => Tryd.strings_ReplaceAll ⟨U.toArray⟩ ⟨#[46]⟩ ⟨#[]⟩ m W (by omega) hW.2.2 (by decide) (by
    show (⟨U.toArray⟩ : ByteArray).size + Lib.countB (⟨U.toArray⟩ : ByteArray) ⟨#[46]⟩ * 0 ≤ _
    omega))
  have hrd : (⟨U.toArray⟩ : ByteArray).data.toList = U := rfl
  simp only [show (⟨#[46]⟩ : ByteArray).data.toList = [46] from rfl, show (⟨#[]⟩ : ByteArray).data.toList = [] from rfl, hrd, replace_dots] at HRP
  obtain ⟨A, hA⟩ : ∃ A, noDots U = A := ⟨_, rfl⟩
  rw [hA] at hok hnd HRP HOK
  have hAs : (⟨A.toArray⟩ : ByteArray).size = A.length := rfl
  clear hL hU hok hup hcb hrd hA hR
  go_enter Tryd.func65, Tryd.ntmps65
  go_wp2_with fail
  refine HUP.out.mono ?_
  rintro e w1 ⟨rfl, hb1⟩
  have HL1 := Lib.hid (HL.out.below hb1)
  have HB1 := Lib.hid hb1
  clear hb1 HUP HL
  go_wp2_with fail
  refine (HRP.out _ HL1.out).mono ?_
  rintro e w2 ⟨rfl, hb2⟩
  have HL2 := Lib.hid (HL1.out.below hb2)
  have HB2 := Lib.hid (HB1.out.trans (hb2.mono HB1.out.size))
  clear hb2 HRP HL1 HB1
  obtain ⟨T, hT⟩ : ∃ T : ByteArray, (⟨A.toArray⟩ : ByteArray) = T := ⟨_, rfl⟩
  have HTA : Hid (T.data.toList = A) := Lib.hid (by rw [← hT])
  rw [hT] at hAs ⊢
  have hTs : T.size ≤ 4194304 := by omega
  have HAS := Lib.hid hAs
  clear hAs
  have HB := Lib.hid (Bts.made w2 T (grownCap w2 T.size 0 5) 5).drew
  have HW := Lib.hid (below_drewL ((Below.refl w2.heap.size w2).alloc (Nat.le_refl _) (.cells (bytesRow T (grownCap w2 T.size 0 5)) 5 ((bytesRow T (grownCap w2 T.size 0 5)).size, (bytesRow T (grownCap w2 T.size 0 5)).size + 1))))
  clear hT
  go_wp2
  generalize hc1 : grownCap w2 T.size 0 5 = cap at *
  clear hc1 hcv
  generalize (w2.alloc (.cells (bytesRow T cap) 5 ((bytesRow T cap).size, (bytesRow T cap).size + 1))).drew = w3 at HB HW ⊢
  have HL3 := Lib.hid (HL2.out.below HW.out)
  have HB3 := Lib.hid (HB2.out.trans (HW.out.mono HB2.out.size))
  go_loop [14] (fun i => ∃ k : Nat, k ≤ T.size ∧ i = .int .i64 (k : Int) ∧ Hid (risesGo 0 A = risesGo (prevB A k) (A.drop k))) (fun i => T.size - (intOf i).toNat)
  case atStart => exact ⟨0, Nat.zero_le _, rfl, Lib.hid (by unfold prevB; rw [if_pos rfl]; rfl)⟩
  case round =>
    obtain ⟨k, hk, rfl, hG⟩ := hrel
    by_cases hlt : k < T.size
    · have hkA : k < A.length := by rw [← HAS.out]; exact hlt
      have hkT : k < T.data.toList.length := by rw [HTA.out]; exact hkA
      have c0 := HB.out.cell k hkT
      have hra := rises_at hkA
      have hce : T.data.toList[k] = A[k] := by simp only [HTA.out]
      rw [hce] at c0
      obtain ⟨c, hc⟩ : ∃ c, A[k] = c := ⟨_, rfl⟩
      rw [hc] at c0 hra
      have hG2 := hG.out
      rw [hra] at hG2
      have HG2 := Lib.hid hG2
      clear hG2 hra hce hkT hG
      by_cases h1 : c.toNat < 65
      · have s1 : decide ((c.toNat : Int) < 65) = true := decide_eq_true (by omega)
        have HF : Hid (R = false) := Lib.hid (by
          rw [HOK.out, HG2.out, decide_eq_false (by omega)]; simp)
        clear HG2 HOK hc h1
        go_wp2
        go_ret
        exact ⟨ret_bool HF.out.symm, HB3.out⟩
      · have s1 : decide ((c.toNat : Int) < 65) = false := decide_eq_false (by omega)
        by_cases h2 : 90 < c.toNat
        · have s2 : decide ((c.toNat : Int) > 90) = true := decide_eq_true (by omega)
          have HF : Hid (R = false) := Lib.hid (by
            rw [HOK.out, HG2.out, decide_eq_false (by omega)]; simp)
          clear HG2 HOK hc h1 h2
          go_wp2
          go_ret
          exact ⟨ret_bool HF.out.symm, HB3.out⟩
        · have s2 : decide ((c.toNat : Int) > 90) = false := decide_eq_false (by omega)
          cases k with
          | zero =>
            have HG3 : Hid (risesGo 0 A = risesGo (prevB A (0 + 1)) (A.drop (0 + 1))) := Lib.hid (by
              rw [HG2.out, decide_eq_true (⟨by omega, by omega, by unfold prevB; rw [if_pos rfl]; show 0 < c.toNat; omega⟩ : 65 ≤ c.toNat ∧ c.toNat ≤ 90 ∧ (prevB A 0).toNat < c.toNat), Bool.true_and])
            clear HG2 hc h1 h2
            go_wp2
            go_round
            case rel => exact ⟨0 + 1, by omega, by go_num, HG3⟩
            case measure => simp [intOf]; omega
          | succ k =>
            have hpk : prevB A (k + 1) = A[k] := by
              unfold prevB
              rw [if_neg (by omega), Nat.add_sub_cancel, List.getD_eq_getElem?_getD, List.getElem?_eq_getElem (by omega)]
              rfl
            rw [hpk] at HG2
            have hkT : k < T.size := by omega
            have hTk : T[k] = A[k] := by
              have h9 : T[k] = T.data.toList[k]'(by rw [HTA.out]; omega) := rfl
              rw [h9]; simp only [HTA.out]
            obtain ⟨d, hd⟩ : ∃ d, A[k] = d := ⟨_, rfl⟩
            rw [hd] at HG2 hTk
            clear hpk hd hc
            have hwk : IntKind.i64.wrap (k : Int) = (k : Int) := IntWalk.i64_in _ (by omega)
            have i1 : (0 : Int) ≤ (k : Int) := by omega
            have i2 : (k : Int) < (T.size : Int) := by omega
            by_cases h3 : c.toNat ≤ d.toNat
            · have s4 : decide (c.toNat ≤ d.toNat) = true := decide_eq_true h3
              have HF : Hid (R = false) := Lib.hid (by
                rw [HOK.out, HG2.out, decide_eq_false (by omega)]; simp)
              clear HG2 HOK h1 h2
              go_wp2
              go_ret
              exact ⟨ret_bool HF.out.symm, HB3.out⟩
            · have s4 : decide (c.toNat ≤ d.toNat) = false := decide_eq_false h3
              have HG3 : Hid (risesGo 0 A = risesGo (prevB A (k + 1 + 1)) (A.drop (k + 1 + 1))) := Lib.hid (by
                rw [HG2.out, decide_eq_true (⟨by omega, by omega, by omega⟩ : 65 ≤ c.toNat ∧ c.toNat ≤ 90 ∧ d.toNat < c.toNat), Bool.true_and])
              clear HG2 h1 h2
              go_wp2
              go_round
              case rel => exact ⟨k + 1 + 1, by omega, by go_num, HG3⟩
              case measure => simp [intOf]; omega
    · have hkk : k = A.length := by rw [← HAS.out]; omega
      have hG2 := hG.out
      rw [hkk, List.drop_eq_nil_of_le (Nat.le_refl _)] at hG2
      have hR := HOK.out
      rw [hG2] at hR
      simp only [risesGo, Bool.true_and] at hR
      obtain ⟨r1, hr1⟩ : ∃ r1, (decide ((1 : Int) ≤ (T.size : Int)) && decide ((T.size : Int) ≤ 6)) = r1 := ⟨_, rfl⟩
      have hr1' : decide (1 ≤ A.length ∧ A.length ≤ 6) = r1 := by
        rw [← hr1, Bool.eq_iff_iff, Bool.and_eq_true, decide_eq_true_eq, decide_eq_true_eq, decide_eq_true_eq, HAS.out]
        omega
      obtain ⟨r2, hr2⟩ : ∃ r2, ((U.length : Int) == (s.size : Int)) = r2 := ⟨_, rfl⟩
      have hr2' : decide (U.length = s.size) = r2 := by
        rw [← hr2, Bool.eq_iff_iff, decide_eq_true_eq, beq_iff_eq]
        omega
      rw [hr1', hr2'] at hR
      have HR := Lib.hid hR
      have HBT := Lib.hid (fun W => btw_any W (T.size : Int) 1 6 r1 hr1)
      have hz : ¬ (k : Int) < (T.size : Int) := by omega
      clear hG hG2 hR hkk hr1 hr1' hr2' HOK
      go_wp2_with fail
      refine (HBT.out _).mono ?_
      rintro e w4 ⟨rfl, rfl⟩
      clear HBT
      cases r1 with
      | false =>
        have HF : Hid (R = false) := Lib.hid (by rw [HR.out]; simp)
        clear HR
        go_wp2
        go_ret
        exact ⟨ret_bool HF.out.symm, HB3.out⟩
      | true =>
        cases r2 with
        | false =>
          have HF : Hid (R = false) := Lib.hid (by rw [HR.out]; simp)
          clear HR
          go_wp2
          go_ret
          exact ⟨ret_bool HF.out.symm, HB3.out⟩
        | true =>
          have HF : Hid (R = dotsOk true s.data.toList) := Lib.hid (by rw [HR.out]; simp)
          clear HR
          have HSP := Lib.hid (Tryd.strings_Split s ⟨#[46]⟩ m w4 (by omega) HL3.out.2.2 (by decide))
          have hsl2 : (splitB ⟨#[46]⟩ 0 (countB s ⟨#[46]⟩) s).length = countB s ⟨#[46]⟩ + 1 := splitB_all ⟨#[46]⟩ (by decide) 0 _ s rfl
          have hcp := contains_pieces s
          have hcs := countB_le ⟨#[46]⟩ (by decide) _ s (Nat.le_refl _)
          obtain ⟨Z, hZ⟩ : ∃ Z, splitB ⟨#[46]⟩ 0 (countB s ⟨#[46]⟩) s = Z := ⟨_, rfl⟩
          obtain ⟨q, hq⟩ : ∃ q, countB s ⟨#[46]⟩ = q := ⟨_, rfl⟩
          rw [hZ, hq] at HSP
          rw [hZ] at hsl2 hcp
          rw [hq] at hsl2 hcs
          have HCP := Lib.hid hcp
          have HCT := Lib.hid (Tryd.slices_Contains_string w4.heap.size 0 (q + 1) (q + 1) Z ⟨#[]⟩ (w4.alloc (.cells (Z.map Value.string).toArray 9)) (by omega) (by omega) (fun j hj => by
            rw [Nat.zero_add, cell_of_row _ w4.heap.size j _ _ _ (heap_alloc_new w4 _)]
            simp [hj, List.getD_eq_getElem?_getD]))
          rw [← hsl2, List.take_length] at HCT
          rw [HCP.out] at HCT
          have HB4 := Lib.hid (HB3.out.trans ((Below.refl w4.heap.size w4).alloc (Nat.le_refl _) (.cells (Z.map Value.string).toArray 9) |>.mono HB3.out.size))
          rw [← hsl2] at HSP
          clear hZ hq hcp hcs hsl2
          go_wp2_with fail
          refine HSP.out.mono ?_
          rintro e w5 ⟨rfl, rfl⟩
          go_wp2_with fail
          refine HCT.out.mono ?_
          rintro e w6 ⟨rfl, rfl⟩
          go_wp2
          go_ret
          exact ⟨ret_bool (by rw [HF.out]), HB4.out⟩
end Go.Proofs.YtppjpledjhinbaaDoor
/- Cabins: great, the reference's seats, and both Checks, walked. -/
namespace Go.Proofs.YtppjpledjhinbaaDoor
open Go.RowKit Go.Lib
set_option maxHeartbeats 1000000 in
theorem great_any (w : World) (c : UInt8) :
    Calls Tryd.prog 41 #[.int .u8 (c.toNat : Int)] w fun e w' => e = .returned (.int .u8 ((greatB c).toNat : Int)) ∧ w' = w := by
  have hc := c.toNat_lt
  go_enter Tryd.func41, Tryd.ntmps41
  unfold greatB
  by_cases h1 : 97 ≤ c.toNat
  · have s1 : decide ((c.toNat : Int) ≥ 97) = true := decide_eq_true (by omega)
    by_cases h2 : c.toNat ≤ 122
    · have s2 : decide ((c.toNat : Int) ≤ 122) = true := decide_eq_true (by omega)
      have e : (c - 32).toNat = c.toNat - 32 := by
        rw [UInt8.toNat_sub_of_le]
        · rfl
        · rw [UInt8.le_iff_toNat_le]; show 32 ≤ c.toNat; omega
      have hw : IntKind.u8.wrap ((c.toNat : Int) - 32) = ((c - 32).toNat : Int) := by
        rw [e]; unfold IntKind.wrap; simp [IntKind.bits, IntKind.signed]; omega
      rw [if_pos ⟨h1, h2⟩]
      have HW := Lib.hid hw
      clear e
      go_wp2
      go_ret
      exact ⟨by rw [← HW.out]; first | rfl | (simp only [hw]), rfl⟩
    · have s2 : decide ((c.toNat : Int) ≤ 122) = false := decide_eq_false (by omega)
      have s3 : decide ((c.toNat : Int) ≥ 65) = true := decide_eq_true (by omega)
      have s4 : decide ((c.toNat : Int) ≤ 90) = false := decide_eq_false (by omega)
      rw [if_neg (by omega), if_neg (by omega)]
      go_wp2
      go_ret
      exact ⟨rfl, rfl⟩
  · have s1 : decide ((c.toNat : Int) ≥ 97) = false := decide_eq_false (by omega)
    rw [if_neg (by omega)]
    by_cases h3 : 65 ≤ c.toNat
    · have s3 : decide ((c.toNat : Int) ≥ 65) = true := decide_eq_true (by omega)
      by_cases h4 : c.toNat ≤ 90
      · have s4 : decide ((c.toNat : Int) ≤ 90) = true := decide_eq_true (by omega)
        rw [if_pos ⟨h3, h4⟩]
        go_wp2
        go_ret
        exact ⟨rfl, rfl⟩
      · have s4 : decide ((c.toNat : Int) ≤ 90) = false := decide_eq_false (by omega)
        rw [if_neg (by omega)]
        go_wp2
        go_ret
        exact ⟨rfl, rfl⟩
    · have s3 : decide ((c.toNat : Int) ≥ 65) = false := decide_eq_false (by omega)
      rw [if_neg (by omega)]
      go_wp2
      go_ret
      exact ⟨rfl, rfl⟩
/-- Did a block begin at place k? -/
def dotAt (l : List UInt8) (k : Nat) : Bool := if k = 0 then true else decide (l.getD (k - 1) 0 = 46)
theorem seats_long : ∀ (l : List UInt8) (dot : Bool) (n : Nat) (last : UInt8), seatsGo dot n last l = true → n ≤ 6 := by
  intro l
  induction l with
  | nil => intro dot n last h; simp only [seatsGo, Bool.and_eq_true, decide_eq_true_eq] at h; omega
  | cons c t ih =>
    intro dot n last h
    simp only [seatsGo] at h
    split at h
    · split at h
      · cases h
      · exact ih _ _ _ h
    · split at h
      · cases h
      · have := ih _ _ _ h; omega
theorem dotAt_succ {l : List UInt8} {k : Nat} (hk : k < l.length) : dotAt l (k + 1) = decide (l[k] = 46) := by
  unfold dotAt
  rw [if_neg (by omega), Nat.add_sub_cancel, List.getD_eq_getElem?_getD, List.getElem?_eq_getElem hk]
  rfl
theorem byte_at {s : ByteArray} {k : Nat} (h : k < s.size) (h2 : k < s.data.toList.length) : s[k] = s.data.toList[k] := rfl
set_option maxHeartbeats 4000000 in
set_option maxRecDepth 20000 in
theorem rseats_any (s : ByteArray) (w : World) (hs : s.size ≤ 1048576) :
    Calls Tryd.prog 40 #[.string s] w fun e w' => e = .returned (.bool (seatsOk s)) ∧ w' = w := by
  have hsl : s.data.toList.length = s.size := rfl
  obtain ⟨L, hL⟩ : ∃ L, s.data.toList = L := ⟨_, rfl⟩
  have hok : seatsOk s = seatsGo true 0 0 L := by rw [← hL]; rfl
  obtain ⟨R, hR⟩ : ∃ R, seatsOk s = R := ⟨_, rfl⟩
  rw [hR] at hok ⊢
  have hat : ∀ (k : Nat) (h : k < s.size) (h2 : k < L.length), s[k] = L[k] := fun k h h2 => by subst hL; exact byte_at h h2
  have HAT := Lib.hid hat
  have HOK := Lib.hid hok
  rw [hL] at hsl
  have HSL := Lib.hid hsl
  have HGR := Lib.hid (fun c => great_any w c)
  clear hL hok hR hat hsl
  go_enter Tryd.func40, Tryd.ntmps40
  go_wp2
  go_loop [3, 4, 5] (fun nv lv i => ∃ (k n : Nat) (last : UInt8), k ≤ s.size ∧ n ≤ k ∧ i = .int .i64 (k : Int) ∧ nv = .int .i64 (n : Int) ∧ lv = .int .u8 (last.toNat : Int) ∧ Hid (R = seatsGo (dotAt L k) n last (L.drop k)) ∧ Hid (dotAt L k = true → k = 0 ∨ k < s.size)) (fun _ _ i => s.size - (intOf i).toNat)
  case atStart => exact ⟨0, 0, 0, Nat.zero_le _, Nat.le_refl _, rfl, rfl, rfl, HOK, Lib.hid (fun _ => .inl rfl)⟩
  case round =>
    obtain ⟨k, n, last, hk, hnk, rfl, rfl, rfl, hG, hD⟩ := hrel
    by_cases hlt : k < s.size
    · have hkL : k < L.length := by rw [HSL.out]; exact hlt
      have hTk := HAT.out k hlt hkL
      have hG2 := hG.out
      rw [List.drop_eq_getElem_cons hkL] at hG2
      have hds := dotAt_succ hkL
      obtain ⟨c, hc⟩ : ∃ c, L[k] = c := ⟨_, rfl⟩
      rw [hc] at hTk hG2 hds
      have HG2 := Lib.hid hG2
      have HDS := Lib.hid hds
      have i1 : (0 : Int) ≤ (k : Int) := by omega
      have i2 : (k : Int) < (s.size : Int) := by omega
      clear hG2 hds hc hG hD
      by_cases h46 : c = 46
      · subst h46
        cases k with
        | zero =>
          have HF : Hid (R = false) := Lib.hid (by rw [HG2.out]; rfl)
          clear HG2 HDS HOK
          go_wp2
          go_ret
          exact ⟨ret_bool HF.out.symm, rfl⟩
        | succ k =>
          have hkL' : k < L.length := by omega
          have hTk2 := HAT.out k (by omega) hkL'
          have hdk := dotAt_succ hkL'
          obtain ⟨d, hd⟩ : ∃ d, L[k] = d := ⟨_, rfl⟩
          rw [hd] at hTk2 hdk
          rw [hdk] at HG2
          have hwk : IntKind.i64.wrap (k : Int) = (k : Int) := IntWalk.i64_in _ (by omega)
          have hws : IntKind.i64.wrap ((s.size : Int) - 1) = (s.size : Int) - 1 := IntWalk.i64_in _ (by omega)
          have i3 : (0 : Int) ≤ (k : Int) := by omega
          have i4 : (k : Int) < (s.size : Int) := by omega
          have z0 : (((k : Int) + 1) == 0) = false := beq_eq_false_iff_ne.2 (by omega)
          clear hd hdk
          by_cases hlast : k + 1 + 1 = s.size
          · have z1 : (((k : Int) + 1) == (s.size : Int) - 1) = true := beq_iff_eq.2 (by omega)
            have HF : Hid (R = false) := Lib.hid (by
              rw [HG2.out, List.drop_eq_nil_of_le (by rw [HSL.out]; omega)]
              simp [seatsGo])
            clear HG2 HDS HOK hlast
            go_wp2
            go_ret
            exact ⟨ret_bool HF.out.symm, rfl⟩
          · have z1 : (((k : Int) + 1) == (s.size : Int) - 1) = false := beq_eq_false_iff_ne.2 (by omega)
            by_cases hd46 : d = 46
            · subst hd46
              have HF : Hid (R = false) := Lib.hid (by
                rw [HG2.out]
                simp [seatsGo])
              clear HG2 HDS HOK
              go_wp2
              go_ret
              exact ⟨ret_bool HF.out.symm, rfl⟩
            · have z2 : ((d.toNat : Int) == 46) = false := beq_eq_false_iff_ne.2 fun h => hd46 (by
                have : d.toNat = 46 := by omega
                exact UInt8.toNat_inj.1 this)
              have z3 : (d.toNat == 46) = false := beq_eq_false_iff_ne.2 fun h => hd46 (UInt8.toNat_inj.1 h)
              have HG3 : Hid (R = seatsGo (dotAt L (k + 1 + 1)) n last (L.drop (k + 1 + 1))) := Lib.hid (by
                rw [HG2.out, HDS.out]
                simp [seatsGo, hd46])
              have HD3 : Hid (dotAt L (k + 1 + 1) = true → k + 1 + 1 = 0 ∨ k + 1 + 1 < s.size) := Lib.hid (fun _ => .inr (by omega))
              clear HG2 HDS hd46
              go_wp2
              go_round
              case rel => exact ⟨k + 1 + 1, n, last, by omega, by omega, by go_num, rfl, rfl, HG3, HD3⟩
              case measure => simp [intOf]; omega
      · have z2 : ((c.toNat : Int) == 46) = false := beq_eq_false_iff_ne.2 fun h => h46 (by
          have : c.toNat = 46 := by omega
          exact UInt8.toNat_inj.1 this)
        have z3 : (c.toNat == 46) = false := beq_eq_false_iff_ne.2 fun h => h46 (UInt8.toNat_inj.1 h)
        have hstep : R = if greatB c = 0 ∨ (greatB c).toNat ≤ last.toNat then false else seatsGo false (n + 1) (greatB c) (L.drop (k + 1)) := by
          rw [HG2.out]; simp only [seatsGo, if_neg h46]
        have hdk : dotAt L (k + 1) = false := by rw [HDS.out]; exact decide_eq_false h46
        have hgr := HGR.out c
        obtain ⟨g, hg⟩ : ∃ g, greatB c = g := ⟨_, rfl⟩
        rw [hg] at hstep hgr
        have HST := Lib.hid hstep
        have HDK := Lib.hid hdk
        clear hstep hdk hg HG2 HDS h46
        go_wp2_with fail
        refine hgr.mono ?_
        rintro e w2 ⟨rfl, rfl⟩
        by_cases h0 : g = 0
        · subst h0
          have HF : Hid (R = false) := Lib.hid (by rw [HST.out, if_pos (.inl rfl)])
          clear HST HOK hgr
          go_wp2
          go_ret
          exact ⟨ret_bool HF.out.symm, rfl⟩
        · have y1 : ((g.toNat : Int) == 0) = false := beq_eq_false_iff_ne.2 fun h => h0 (by
            have : g.toNat = 0 := by omega
            exact UInt8.toNat_inj.1 this)
          have y2 : (g.toNat == 0) = false := beq_eq_false_iff_ne.2 fun h => h0 (UInt8.toNat_inj.1 h)
          by_cases h1 : g.toNat ≤ last.toNat
          · have y3 : decide (g.toNat ≤ last.toNat) = true := decide_eq_true h1
            have y4 : decide ((g.toNat : Int) ≤ (last.toNat : Int)) = true := decide_eq_true (by omega)
            have HF : Hid (R = false) := Lib.hid (by rw [HST.out, if_pos (.inr h1)])
            clear HST HOK hgr
            go_wp2
            go_ret
            exact ⟨ret_bool HF.out.symm, rfl⟩
          · have y3 : decide (g.toNat ≤ last.toNat) = false := decide_eq_false h1
            have y4 : decide ((g.toNat : Int) ≤ (last.toNat : Int)) = false := decide_eq_false (by omega)
            have HG3 : Hid (R = seatsGo (dotAt L (k + 1)) (n + 1) g (L.drop (k + 1))) := Lib.hid (by
              rw [HST.out, HDK.out, if_neg (fun h => h.elim h0 h1)])
            have HD3 : Hid (dotAt L (k + 1) = true → k + 1 = 0 ∨ k + 1 < s.size) := Lib.hid (fun h => by rw [HDK.out] at h; cases h)
            clear HST HDK hgr
            go_wp2
            go_round
            case rel => exact ⟨k + 1, n + 1, g, by omega, by omega, by go_num, by go_num, rfl, HG3, HD3⟩
            case measure => simp [intOf]; omega
    · have hG2 := hG.out
      rw [List.drop_eq_nil_of_le (by rw [HSL.out]; omega)] at hG2
      have hR2 : R = (decide ((n : Int) ≥ 1) && decide ((n : Int) ≤ 6)) := by
        rw [hG2]
        simp only [seatsGo]
        cases hdd : dotAt L k with
        | true =>
          rcases hD.out hdd with h | h
          · have hn0 : n = 0 := by omega
            subst hn0; rfl
          · omega
        | false =>
          rw [Bool.not_false, Bool.true_and, Bool.eq_iff_iff, Bool.and_eq_true, decide_eq_true_eq, decide_eq_true_eq, decide_eq_true_eq]
          omega
      have hz : ¬ (k : Int) < (s.size : Int) := by omega
      have HR := Lib.hid hR2
      clear hG hG2 hR2 hD HOK
      by_cases h1 : 1 ≤ n
      · have y1 : decide ((n : Int) ≥ 1) = true := decide_eq_true (by omega)
        by_cases h2 : n ≤ 6
        · have y2 : decide ((n : Int) ≤ 6) = true := decide_eq_true (by omega)
          go_wp2
          go_ret
          exact ⟨ret_bool (by rw [HR.out, y1, y2]; rfl), rfl⟩
        · have y2 : decide ((n : Int) ≤ 6) = false := decide_eq_false (by omega)
          go_wp2
          go_ret
          exact ⟨ret_bool (by rw [HR.out, y1, y2]; rfl), rfl⟩
      · have y1 : decide ((n : Int) ≥ 1) = false := decide_eq_false (by omega)
        go_wp2
        go_ret
        exact ⟨ret_bool (by rw [HR.out, y1]; rfl), rfl⟩
end Go.Proofs.YtppjpledjhinbaaDoor
