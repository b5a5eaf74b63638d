/- Keys: the order of the bytes is the order of what they hold, in plain words (begun). -/
import Derived.Test.YtaphfjomlignhaaDoorOrSplP
import Derived.Test.YtaphfjomlignhaaDoorOrEndP
namespace Go.Proofs.YtaphfjomlignhaaDoor
theorem less_append (p : List UInt8) (c c' : List UInt8) : Op.bytesLess (p ++ c) (p ++ c') = true ↔ Op.bytesLess c c' = true := by
  induction p with
  | nil => rfl
  | cons a p ih => rw [List.cons_append, List.cons_append, less_cons, ih]; simp
theorem less_head (a b : UInt8) (x y : List UInt8) (h : a ≠ b) : Op.bytesLess (a :: x) (b :: y) = true ↔ a.toNat < b.toNat := by
  rw [less_cons]
  have : a.toNat ≠ b.toNat := fun e => h (UInt8.toNat_inj.1 e)
  simp [this]
theorem text_less : ∀ (t t' c c' : List UInt8), t ≠ t' → (Op.bytesLess (esc t ++ (0 :: 0 :: c)) (esc t' ++ (0 :: 0 :: c')) = true ↔ Op.bytesLess t t' = true) := by
  intro t
  induction t with
  | nil =>
    intro t' c c' h
    cases t' with
    | nil => exact absurd rfl h
    | cons b t' =>
      by_cases hb : b = 0
      · subst hb
        rw [esc_zero, nil_less]
        simp [esc, less_cons]
      · rw [esc_ne b hb, nil_less]
        have h0 : b.toNat ≠ 0 := fun e => hb (UInt8.toNat_inj.1 e)
        simp [esc, less_cons]; omega
  | cons a t ih =>
    intro t' c c' h
    cases t' with
    | nil =>
      rw [less_nil]
      by_cases ha : a = 0
      · subst ha
        rw [esc_zero]
        simp [esc, less_cons]
      · rw [esc_ne a ha]
        have h0 : a.toNat ≠ 0 := fun e => ha (UInt8.toNat_inj.1 e)
        simp [esc, less_cons, h0]
    | cons b t' =>
      by_cases hab : a = b
      · subst hab
        have ht : t ≠ t' := fun e => h (by rw [e])
        have hi := ih t' c c' ht
        rw [less_cons]
        by_cases ha : a = 0
        · subst ha
          rw [esc_zero, esc_zero, show (0 :: 255 :: esc t) ++ (0 :: 0 :: c) = [0, 255] ++ (esc t ++ (0 :: 0 :: c)) from rfl, show (0 :: 255 :: esc t') ++ (0 :: 0 :: c') = [0, 255] ++ (esc t' ++ (0 :: 0 :: c')) from rfl, less_append, hi]
          simp
        · rw [esc_ne a ha, esc_ne a ha, List.cons_append, List.cons_append, less_cons, hi]
      · rw [less_head a b t t' hab]
        have e1 : ∃ x, esc (a :: t) ++ (0 :: 0 :: c) = a :: x := by
          by_cases ha : a = 0
          · subst ha; exact ⟨_, by rw [esc_zero]; rfl⟩
          · exact ⟨_, by rw [esc_ne a ha]; rfl⟩
        have e2 : ∃ x, esc (b :: t') ++ (0 :: 0 :: c') = b :: x := by
          by_cases hb : b = 0
          · subst hb; exact ⟨_, by rw [esc_zero]; rfl⟩
          · exact ⟨_, by rw [esc_ne b hb]; rfl⟩
        obtain ⟨x, hx⟩ := e1
        obtain ⟨y, hy⟩ := e2
        rw [hx, hy, less_head a b x y hab]
theorem unB_cons (a : UInt8) (l : List UInt8) : unB (a :: l) = a.toNat * 256 ^ l.length + unB l := by
  have key : ∀ (l : List UInt8) (n : Nat), l.foldl (fun n b => 256 * n + b.toNat) n = n * 256 ^ l.length + unB l := by
    intro l
    induction l with
    | nil => intro n; simp [unB]
    | cons b l ih =>
      intro n
      have h0 := ih (256 * n + b.toNat)
      have h1 := ih (256 * 0 + b.toNat)
      simp only [List.foldl_cons, List.length_cons, unB] at h0 h1 ⊢
      rw [h0, h1, Nat.pow_succ]
      simp only [Nat.mul_zero, Nat.zero_add, Nat.add_mul]
      have : 256 * n * 256 ^ l.length = n * (256 ^ l.length * 256) := by rw [Nat.mul_comm 256 n, Nat.mul_assoc, Nat.mul_comm 256]
      omega
  have := key l a.toNat
  simpa [unB] using this
theorem unB_pow (l : List UInt8) : unB l < 256 ^ l.length := by
  induction l with
  | nil => simp [unB]
  | cons a l ih =>
    have ha := a.toNat_lt
    rw [unB_cons, List.length_cons, Nat.pow_succ]
    have h1 : a.toNat * 256 ^ l.length ≤ 255 * 256 ^ l.length := Nat.mul_le_mul_right _ (by omega)
    omega
theorem row_less : ∀ (l l' c c' : List UInt8), l.length = l'.length → l ≠ l' → (Op.bytesLess (l ++ c) (l' ++ c') = true ↔ unB l < unB l') := by
  intro l
  induction l with
  | nil =>
    intro l' c c' h hn
    cases l' with
    | nil => exact absurd rfl hn
    | cons b l' => simp at h
  | cons a l ih =>
    intro l' c c' h hn
    cases l' with
    | nil => simp at h
    | cons b l' =>
      have hl : l.length = l'.length := by simpa using h
      rw [List.cons_append, List.cons_append, less_cons, unB_cons, unB_cons, ← hl]
      have h1 := unB_pow l
      have h2 := unB_pow l'
      rw [← hl] at h2
      by_cases hab : a = b
      · subst hab
        have hi := ih l' c c' hl (fun e => hn (by rw [e]))
        rw [hi]; simp
      · have hne : a.toNat ≠ b.toNat := fun e => hab (UInt8.toNat_inj.1 e)
        simp only [hne, false_and, or_false]
        constructor
        · intro hlt
          have : (a.toNat + 1) * 256 ^ l.length ≤ b.toNat * 256 ^ l.length := Nat.mul_le_mul_right _ hlt
          rw [Nat.add_mul] at this
          omega
        · intro hlt
          apply Classical.byContradiction
          intro hge
          have : (b.toNat + 1) * 256 ^ l.length ≤ a.toNat * 256 ^ l.length := Nat.mul_le_mul_right _ (by omega)
          rw [Nat.add_mul] at this
          omega
/-- Ahead of another part. -/
def ptLess (x y : Pt) : Prop := x.kind < y.kind ∨ (x.kind = y.kind ∧ (x.num < y.num ∨ (x.num = y.num ∧ Op.bytesLess x.text.data.toList y.text.data.toList = true)))
theorem partK_less {x y : Pt} (hx : x.right) (hy : y.right) (fx : x.fits) (fy : y.fits) (hne : x ≠ y) (c c' : List UInt8) : Op.bytesLess (partK x ++ c) (partK y ++ c') = true ↔ ptLess x y := by
  obtain ⟨K, N, T⟩ := x
  obtain ⟨K', N', T'⟩ := y
  rcases hx with ⟨h1, h2⟩ | ⟨h1, h2⟩ <;> rcases hy with ⟨h3, h4⟩ | ⟨h3, h4⟩ <;> simp only at h1 h2 h3 h4 <;> subst h1 <;> subst h3
  · have e1 := empty_ba h2
    have e2 := empty_ba h4
    subst e1; subst e2
    have hN : N ≠ N' := fun e => hne (by rw [e])
    rw [kx1 rfl, kx1 rfl]
    unfold numK ptLess
    rw [List.cons_append, List.cons_append, less_cons]
    have fx1 := fx.1; have fy1 := fy.1; have fx2 := fx.2; have fy2 := fy.2
    simp only at fx1 fy1 fx2 fy2
    have hu : unB (be8 (upN N)) = upN N := unB_be8 _ (up_lt N fx2)
    have hu' : unB (be8 (upN N')) = upN N' := unB_be8 _ (up_lt N' fy2)
    have hb : be8 (upN N) ≠ be8 (upN N') := fun e => by
      have := congrArg unB e
      rw [hu, hu'] at this
      unfold upN at this
      omega
    have hr := row_less (be8 (upN N)) (be8 (upN N')) c c' (by rw [be8_len, be8_len]) hb
    rw [hr, hu, hu']
    unfold upN
    simp only
    constructor
    · rintro (h | ⟨_, h⟩)
      · omega
      · exact .inr ⟨trivial, .inl (by omega)⟩
    · rintro (h | ⟨_, h | ⟨h, _⟩⟩)
      · omega
      · exact .inr ⟨trivial, by omega⟩
      · exact absurd h hN
  · rw [kx1 rfl, kx2 (by show ¬ (2 : Int) = 1; decide)]
    simp [numK, textK, ptLess, less_cons]
  · rw [kx2 (by show ¬ (2 : Int) = 1; decide), kx1 rfl]
    simp [numK, textK, ptLess, less_cons]
  · subst h2; subst h4
    have hT : T.data.toList ≠ T'.data.toList := fun e => hne (by rw [ByteArray.ext (Array.toList_inj.1 e)])
    rw [kx2 (by show ¬ (2 : Int) = 1; decide), kx2 (by show ¬ (2 : Int) = 1; decide)]
    unfold textK ptLess
    have h1 := text_less T.data.toList T'.data.toList c c' hT
    simp only [List.cons_append, List.append_assoc, List.nil_append]
    rw [less_cons, h1]
    simp
/-- A list of parts ahead of another. -/
def lessL : List Pt → List Pt → Prop
  | _, [] => False
  | [], _ :: _ => True
  | x :: a, y :: b => (x ≠ y ∧ ptLess x y) ∨ (x = y ∧ lessL a b)
theorem bytesK_less : ∀ (a b : List Pt), allR a → allR b → allF a → allF b → (Op.bytesLess (bytesK a) (bytesK b) = true ↔ lessL a b) := by
  intro a
  induction a with
  | nil =>
    intro b _ _ _ _
    cases b with
    | nil => simp [bytesK, lessL, less_nil]
    | cons y b =>
      have hne := partK_ne y
      rw [bytesK_cons]
      cases h : partK y with
      | nil => exact absurd h hne
      | cons d t => simp [bytesK, lessL, Op.bytesLess]
  | cons x a ih =>
    intro b h1 h2 f1 f2
    cases b with
    | nil => simp [bytesK, lessL, less_nil]
    | cons y b =>
      rw [bytesK_cons, bytesK_cons, lessL]
      by_cases hxy : x = y
      · subst hxy
        rw [less_append, ih b (fun z hz => h1 z (by simp [hz])) (fun z hz => h2 z (by simp [hz])) (fun z hz => f1 z (by simp [hz])) (fun z hz => f2 z (by simp [hz]))]
        simp
      · rw [partK_less (h1 x (by simp)) (h2 y (by simp)) (f1 x (by simp)) (f2 y (by simp)) hxy]
        simp [hxy]
end Go.Proofs.YtaphfjomlignhaaDoor
