/- Slices of structs, as cells: whatever the struct. -/
import Derived.Test.YtddiabpjmnmllaaDoorRow
namespace Go.Proofs.YtddiabpjmnmllaaDoor
open Go.RowKit
/-- The elements' cells, one behind the other. -/
def catv {α : Type} (f : α → List Value) (l : List α) : List Value := l.flatMap f
section
variable {α : Type} {f : α → List Value} {m : Nat}
theorem catv_cons (x : α) (l : List α) : catv f (x :: l) = f x ++ catv f l := by simp [catv]
theorem catv_nil : catv f [] = [] := rfl
theorem catv_append (a b : List α) : catv f (a ++ b) = catv f a ++ catv f b := by simp [catv]
theorem catv_one (x : α) : catv f [x] = f x := by simp [catv]
theorem catv_length (hf : ∀ x, (f x).length = m) (l : List α) : (catv f l).length = l.length * m := by
  induction l with
  | nil => simp [catv]
  | cons x l ih => rw [catv_cons, List.length_append, ih, hf, List.length_cons, Nat.add_mul]; omega
theorem catv_get (hf : ∀ x, (f x).length = m) : ∀ (l : List α) (k j : Nat) (h : k < l.length), j < m → (catv f l)[k * m + j]? = (f l[k])[j]? := by
  intro l
  induction l with
  | nil => intro k j h; simp at h
  | cons x l ih =>
    intro k j h hj
    have hl := hf x
    rw [catv_cons]
    cases k with
    | zero => rw [Nat.zero_mul, Nat.zero_add, List.getElem?_append_left (by omega)]; rfl
    | succ k =>
      have e : (k + 1) * m = k * m + m := Nat.succ_mul k m
      rw [List.getElem?_append_right (by omega), hl, show (k + 1) * m + j - m = k * m + j by omega]
      exact ih k j (by simpa using h) hj
theorem catv_cell (h1 : ∀ x, ∀ u ∈ f x, u.oneCell' = true) (l : List α) : ∀ u ∈ catv f l, u.oneCell' = true := by
  intro u hu
  simp only [catv, List.mem_flatMap] at hu
  obtain ⟨x, _, hx⟩ := hu
  exact h1 x u hx
theorem catv_take (hf : ∀ x, (f x).length = m) (l : List α) (k : Nat) : (catv f l).take (k * m) = catv f (l.take k) := by
  induction l generalizing k with
  | nil => simp [catv]
  | cons x l ih =>
    have hl := hf x
    cases k with
    | zero => simp [catv]
    | succ k =>
      have e : (k + 1) * m = k * m + m := Nat.succ_mul k m
      rw [catv_cons, List.take_succ_cons, catv_cons, ← ih, List.take_append, hl, List.take_of_length_le (by omega), show (k + 1) * m - m = k * m by omega]
theorem addr_flat (b off j : Nat) : (⟨b, off, none⟩ : Addr).add j = ⟨b, off + j, none⟩ := by unfold Addr.add; split <;> simp_all
theorem rd_catlen {w : World} {B n : Nat} {A : Option Addr} {l : List α} (hf : ∀ x, (f x).length = m) (hm : 0 < m) (h : Rd w B m A n (catv f l)) : n = l.length := by
  have := h.len
  rw [catv_length hf] at this
  exact (Nat.eq_of_mul_eq_mul_right hm this).symm
/-- Element k, cell by cell. -/
theorem Rd.elem {w : World} {B n k : Nat} {A : Option Addr} {l : List α} (hf : ∀ x, (f x).length = m) (hm : 0 < m) (h : Rd w B m A n (catv f l)) (hk : k < n) :
    ∃ b off, A = some ⟨b, off, none⟩ ∧ b < B ∧ ∃ hs : k < l.length, ∀ j u, (f l[k])[j]? = some u → w.cell? ⟨b, off + k * m + j, none⟩ = some u := by
  have hs : k < l.length := by rw [← rd_catlen hf hm h]; exact hk
  obtain ⟨ad, e, hb, hc⟩ := h.at_ (by omega)
  obtain ⟨b, off, spot⟩ := ad
  have h0 : (catv f l)[0]? = some ((f l[0])[0]'(by rw [hf]; exact hm)) := by
    have := catv_get hf l 0 0 (by omega) hm
    rw [Nat.zero_mul, Nat.zero_add] at this
    rw [this, List.getElem?_eq_getElem]
  have hz := hc 0 _ h0
  have hspot : spot = none := by simpa [Addr.add] using World.cell?_spot hz
  subst hspot
  refine ⟨b, off, e, hb, hs, fun j u hu => ?_⟩
  have hj : j < m := by rw [← hf l[k]]; exact (List.getElem?_eq_some_iff.1 hu).1
  have := hc (k * m + j) u (by rw [catv_get hf l k j hs hj]; exact hu)
  rw [addr_flat, ← Nat.add_assoc] at this
  exact this
end
end Go.Proofs.YtddiabpjmnmllaaDoor
