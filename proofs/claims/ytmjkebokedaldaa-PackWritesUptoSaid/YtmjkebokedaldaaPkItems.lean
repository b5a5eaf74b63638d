/- Pack: the items of the laws, as cells. -/
import Derived.Test.YtmjkebokedaldaaPkUnlike
namespace Go.Proofs.Ytmjkebokedaldaa
open Go.RowKit

/-- A thing that is put, or asked for. -/
structure Item where
  k : Int
  n : Nat
  s : ByteArray
def itemv (l : List Item) : List Value := l.flatMap fun i => [Value.int .i64 i.k, Value.int .u64 (i.n : Int), Value.string i.s]
theorem itemv_length (l : List Item) : (itemv l).length = l.length * 3 := by
  induction l with
  | nil => rfl
  | cons i l ih => simp only [itemv, List.flatMap_cons, List.length_append, List.length_cons, List.length_nil] at *; omega
theorem itemv_get (l : List Item) : ∀ (k j : Nat) (h : k < l.length), j < 3 → (itemv l)[3 * k + j]? = [Value.int .i64 l[k].k, Value.int .u64 (l[k].n : Int), Value.string l[k].s][j]? := by
  induction l with
  | nil => intro k j h; simp at h
  | cons i l ih =>
    intro k j h hj
    have e : itemv (i :: l) = [Value.int .i64 i.k, Value.int .u64 (i.n : Int), Value.string i.s] ++ itemv l := by simp [itemv]
    rw [e]
    cases k with
    | zero => rw [List.getElem?_append_left (by simp; omega)]; simp
    | succ k =>
      rw [List.getElem?_append_right (by simp; omega)]
      have := ih k j (by simpa using h) hj
      simp only [List.length_cons, List.length_nil, List.getElem_cons_succ]
      rw [show 3 * (k + 1) + j - (0 + 1 + 1 + 1) = 3 * k + j by omega]
      exact this
theorem add_plain' (b off j : Nat) : (⟨b, off, none⟩ : Addr).add j = ⟨b, off + j, none⟩ := by unfold Addr.add; split <;> simp_all
theorem Rd.item {w : World} {B n k : Nat} {A : Option Addr} {l : List Item} (h : Rd w B 3 A n (itemv l)) (hk : k < n) :
    ∃ b off, A = some ⟨b, off, none⟩ ∧ b < B ∧ ∃ hs : k < l.length, w.cell? ⟨b, off + k * 3, none⟩ = some (.int .i64 l[k].k) ∧ w.cell? ⟨b, off + k * 3 + 1, none⟩ = some (.int .u64 (l[k].n : Int)) ∧ w.cell? ⟨b, off + k * 3 + 2, none⟩ = some (.string l[k].s) := by
  have hs : k < l.length := by have := h.len; rw [itemv_length] at this; omega
  obtain ⟨ad, e, hb, hc⟩ := h.at_ (by omega)
  have h0 := hc _ _ (by have := itemv_get l k 0 hs (by omega); simpa using this)
  have h1 := hc _ _ (by have := itemv_get l k 1 hs (by omega); simpa using this)
  have h2 := hc _ _ (by have := itemv_get l k 2 hs (by omega); simpa using this)
  obtain ⟨b, off, spot⟩ := ad
  have hz := hc _ _ (by have := itemv_get l 0 0 (by omega) (by omega); simpa using this)
  have hspot : spot = none := by simpa [Addr.add] using World.cell?_spot hz
  subst hspot
  rw [add_plain', show 3 * k = k * 3 by omega] at h0
  rw [add_plain', show off + (3 * k + 1) = off + k * 3 + 1 by omega] at h1
  rw [add_plain', show off + (3 * k + 2) = off + k * 3 + 2 by omega] at h2
  exact ⟨b, off, e, hb, hs, h0, h1, h2⟩
/-- What an item may hold. -/
def Item.ok (i : Item) : Prop := -9223372036854775808 ≤ i.k ∧ i.k ≤ 9223372036854775807 ∧ i.n < 18446744073709551616 ∧ i.s.size ≤ 140737488351232
end Go.Proofs.Ytmjkebokedaldaa
