/- Cabins: SplitSeq's value; a row's spots piece by piece. -/
import Derived.Test.YtddiabpjmnmllaaDoorRgSplit
import Derived.Test.YtddiabpjmnmllaaDoorRgMarks
import Derived.Test.YtddiabpjmnmllaaDoorCbSpP
import Derived.Test.YtddiabpjmnmllaaDoorCbChk2
namespace Go.Proofs.YtddiabpjmnmllaaDoor
open Go.RowKit Go.Lib
theorem splitSeq_any (w : World) (s : ByteArray) :
    Calls Tryd.prog 46 #[.string s, .string ⟨#[46]⟩] w fun e w' => e = .returned (.func (.func 71) #[] #[.pointer (some ⟨w.heap.size + 1, 0, none⟩), .pointer (some ⟨w.heap.size, 0, none⟩), .pointer (some ⟨w.heap.size + 2, 0, none⟩)]) ∧
      w' = ((w.alloc (.cells #[.string s] 9)).alloc (.cells #[.string ⟨#[46]⟩] 9)).alloc (.cells #[.int .i64 0] 3) := by
  go_enter Tryd.func46, Tryd.ntmps46
  go_wp2
  go_ret
  exact ⟨rfl, rfl⟩
/-- A row's spots, block by block. -/
def spotsP (r : MRow) : List (List UInt8) → Int → List MSpot
  | [], _ => []
  | z :: zs, b => z.map (fun c => spotOf r c b) ++ spotsP r zs (b + 1)
theorem spots_pieces (r : MRow) : ∀ (l : List UInt8) (b : Int), spotsP r (piecesL l) b = spotsB r l b := by
  intro l
  induction l with
  | nil => intro b; simp [piecesL, spotsP, spotsB]
  | cons c t ih =>
    intro b
    by_cases hc : c = 46
    · subst hc
      simp only [piecesL, spotsB, if_true, spotsP, List.map_nil, List.nil_append]
      exact ih (b + 1)
    · obtain ⟨p, ps, hp⟩ : ∃ p ps, piecesL t = p :: ps := by
        cases h : piecesL t with
        | nil => exact absurd h (pieces_ne t)
        | cons p ps => exact ⟨p, ps, rfl⟩
      have h2 := ih b
      rw [hp] at h2
      simp only [piecesL, spotsB, if_neg hc, hp, spotsP, List.map_cons, List.cons_append]
      rw [← h2]; rfl
theorem pieces_count : ∀ l : List UInt8, (piecesL l).length = dotsN l + 1 := by
  intro l
  induction l with
  | nil => rfl
  | cons c t ih =>
    by_cases hc : c = 46
    · subst hc; simp [piecesL, dotsN, ih]
    · obtain ⟨p, ps, hp⟩ : ∃ p ps, piecesL t = p :: ps := by
        cases h : piecesL t with
        | nil => exact absurd h (pieces_ne t)
        | cons p ps => exact ⟨p, ps, rfl⟩
      rw [hp] at ih
      simp only [piecesL, dotsN, if_neg hc, hp, List.length_cons] at ih ⊢
      exact ih
theorem pieces_letters : ∀ (l : List UInt8), ∀ z ∈ piecesL l, ∀ c ∈ z, c ∈ l ∧ c ≠ 46 := by
  intro l
  induction l with
  | nil => intro z hz c hc; simp [piecesL] at hz; subst hz; cases hc
  | cons d t ih =>
    intro z hz c hc
    by_cases hd : d = 46
    · subst hd
      simp only [piecesL, if_true] at hz
      rcases List.mem_cons.1 hz with rfl | hz
      · cases hc
      · obtain ⟨h1, h2⟩ := ih z hz c hc
        exact ⟨List.mem_cons_of_mem _ h1, h2⟩
    · obtain ⟨p, ps, hp⟩ : ∃ p ps, piecesL t = p :: ps := by
        cases h : piecesL t with
        | nil => exact absurd h (pieces_ne t)
        | cons p ps => exact ⟨p, ps, rfl⟩
      rw [hp] at ih
      simp only [piecesL, if_neg hd, hp] at hz
      rcases List.mem_cons.1 hz with rfl | hz
      · rcases List.mem_cons.1 hc with rfl | hc
        · exact ⟨by simp, hd⟩
        · obtain ⟨h1, h2⟩ := ih p (by simp) c hc
          exact ⟨List.mem_cons_of_mem _ h1, h2⟩
      · obtain ⟨h1, h2⟩ := ih z (by simp [hz]) c hc
        exact ⟨List.mem_cons_of_mem _ h1, h2⟩
/-- The pieces as the library makes them. -/
theorem pieces_of (s : ByteArray) : (splitB ⟨#[46]⟩ 0 (countB s ⟨#[46]⟩) s).map (·.data.toList) = piecesL s.data.toList := by
  have hd := splitB_data ⟨#[46]⟩ 0 (countB s ⟨#[46]⟩) s
  exact hd.trans (splitK_pieces _)
theorem great_up {c : UInt8} (h : greatB c ≠ 0) : (97 ≤ c.toNat → greatB c = c - 32 ∧ (c - 32).toNat = c.toNat - 32 ∧ greatB c ≠ c) ∧ (¬ 97 ≤ c.toNat → greatB c = c) := by
  unfold greatB at h ⊢
  have hl := c.toNat_lt
  by_cases h1 : 97 ≤ c.toNat ∧ c.toNat ≤ 122
  · rw [if_pos h1]
    have e : (c - 32).toNat = c.toNat - 32 := by
      rw [UInt8.toNat_sub_of_le]
      · rfl
      · rw [UInt8.le_iff_toNat_le]; show 32 ≤ c.toNat; omega
    refine ⟨fun _ => ⟨rfl, e, fun h2 => ?_⟩, fun h2 => absurd h1.1 h2⟩
    have := congrArg UInt8.toNat h2
    omega
  · rw [if_neg h1] at h ⊢
    by_cases h2 : 65 ≤ c.toNat ∧ c.toNat ≤ 90
    · rw [if_pos h2]
      exact ⟨fun h3 => by omega, fun _ => rfl⟩
    · rw [if_neg h2] at h
      exact absurd rfl h
theorem spotsP_append (r : MRow) : ∀ (a b : List (List UInt8)) (k : Int), spotsP r (a ++ b) k = spotsP r a k ++ spotsP r b (k + a.length) := by
  intro a
  induction a with
  | nil => intro b k; simp [spotsP]
  | cons z a ih =>
    intro b k
    simp only [List.cons_append, spotsP, ih, List.append_assoc, List.length_cons]
    rw [show k + 1 + (a.length : Int) = k + ((a.length + 1 : Nat) : Int) by omega]
theorem spotsAll_len : ∀ (l : List MRow) (b : Int), (∀ r ∈ l, r.seats.data.toList.length ≤ 11) → (spotsAll l b).length ≤ 11 * l.length := by
  intro l
  induction l with
  | nil => intro b _; simp [spotsAll]
  | cons r t ih =>
    intro b h
    have h1 := h r (by simp)
    have h2 := ih (b + dotsN r.seats.data.toList + 1) fun x hx => h x (by simp [hx])
    have h3 := spotsB_len r r.seats.data.toList b
    simp only [spotsAll, List.length_append, List.length_cons]; omega
end Go.Proofs.YtddiabpjmnmllaaDoor
