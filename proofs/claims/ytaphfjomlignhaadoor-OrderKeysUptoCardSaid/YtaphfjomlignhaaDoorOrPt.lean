/- Parts of keys, as cells. -/
import Derived.Test.YtaphfjomlignhaaDoorRow
namespace Go.Proofs.YtaphfjomlignhaaDoor
open Go.RowKit

/-- A part. -/
structure Pt where
  kind : Int
  num : Int
  text : ByteArray
def Pt.cells (x : Pt) : List Value := [.int .i64 x.kind, .int .i64 x.num, .string x.text]
def ptv (l : List Pt) : List Value := l.flatMap Pt.cells
/-- What a part that came in may hold. -/
def Pt.ok (x : Pt) : Prop := (-9223372036854775808 ≤ x.kind ∧ x.kind ≤ 9223372036854775807) ∧ (-9223372036854775808 ≤ x.num ∧ x.num ≤ 9223372036854775807) ∧ x.text.size ≤ 140737488351232
theorem ptv_cons (x : Pt) (l : List Pt) : ptv (x :: l) = x.cells ++ ptv l := by simp [ptv]
theorem ptv_append (a b : List Pt) : ptv (a ++ b) = ptv a ++ ptv b := by simp [ptv]
theorem ptv_one (x : Pt) : ptv [x] = x.cells := by simp [ptv]
theorem ptv_length (l : List Pt) : (ptv l).length = l.length * 3 := by
  induction l with
  | nil => rfl
  | cons i l ih => rw [ptv_cons, List.length_append, ih, List.length_cons, Pt.cells]; simp only [List.length_cons, List.length_nil]; omega
theorem ptv_cell (l : List Pt) : ∀ u ∈ ptv l, u.oneCell' = true := by
  intro u hu
  simp only [ptv, List.mem_flatMap, Pt.cells] at hu
  obtain ⟨x, _, hx⟩ := hu
  simp only [List.mem_cons, List.not_mem_nil, or_false] at hx
  rcases hx with rfl | rfl | rfl <;> rfl
theorem ptv_get (l : List Pt) : ∀ (k j : Nat) (h : k < l.length), j < 3 → (ptv l)[3 * k + j]? = l[k].cells[j]? := by
  induction l with
  | nil => intro k j h; simp at h
  | cons i l ih =>
    intro k j h hj
    rw [ptv_cons]
    have hl : i.cells.length = 3 := rfl
    cases k with
    | zero => rw [List.getElem?_append_left (by omega)]; simp
    | succ k =>
      rw [List.getElem?_append_right (by omega), hl, show 3 * (k + 1) + j - 3 = 3 * k + j by omega]
      exact ih k j (by simpa using h) hj
theorem add_flat (b off j : Nat) : (⟨b, off, none⟩ : Addr).add j = ⟨b, off + j, none⟩ := by unfold Addr.add; split <;> simp_all
theorem Rd.pt {w : World} {B n k : Nat} {A : Option Addr} {l : List Pt} (h : Rd w B 3 A n (ptv l)) (hk : k < n) :
    ∃ b off, A = some ⟨b, off, none⟩ ∧ b < B ∧ ∃ hs : k < l.length, w.cell? ⟨b, off + k * 3, none⟩ = some (.int .i64 l[k].kind) ∧ w.cell? ⟨b, off + k * 3 + 1, none⟩ = some (.int .i64 l[k].num) ∧ w.cell? ⟨b, off + k * 3 + 2, none⟩ = some (.string l[k].text) := by
  have hs : k < l.length := by have := h.len; rw [ptv_length] at this; omega
  obtain ⟨ad, e, hb, hc⟩ := h.at_ (by omega)
  have h0 := hc _ _ (by have := ptv_get l k 0 hs (by omega); simpa [Pt.cells] using this)
  have h1 := hc _ _ (by have := ptv_get l k 1 hs (by omega); simpa [Pt.cells] using this)
  have h2 := hc _ _ (by have := ptv_get l k 2 hs (by omega); simpa [Pt.cells] using this)
  obtain ⟨b, off, spot⟩ := ad
  have hz := hc _ _ (by have := ptv_get l 0 0 (by omega) (by omega); simpa [Pt.cells] using this)
  have hspot : spot = none := by simpa [Addr.add] using World.cell?_spot hz
  subst hspot
  rw [add_flat, show 3 * k = k * 3 by omega] at h0
  rw [add_flat, show off + (3 * k + 1) = off + k * 3 + 1 by omega] at h1
  rw [add_flat, show off + (3 * k + 2) = off + k * 3 + 2 by omega] at h2
  exact ⟨b, off, e, hb, hs, h0, h1, h2⟩
theorem rd_ptlen {w : World} {B n : Nat} {A : Option Addr} {l : List Pt} (h : Rd w B 3 A n (ptv l)) : n = l.length := by have := h.len; rw [ptv_length] at this; omega
end Go.Proofs.YtaphfjomlignhaaDoor
