/- Entries (versions of keys), as cells. -/
import Derived.Test.YtanieolnaiihmaaRow
namespace Go.Proofs.Ytanieolnaiihmaa
open Go.RowKit

/-- A version. -/
structure Ent where
  key : ByteArray
  seq : Int
  dead : Bool
  val : ByteArray
def Ent.cells (x : Ent) : List Value := [.string x.key, .int .i64 x.seq, .bool x.dead, .string x.val]
def Ent.agg (x : Ent) : Value := .agg #[.string x.key, .int .i64 x.seq, .bool x.dead, .string x.val]
def entv (l : List Ent) : List Value := l.flatMap Ent.cells
/-- What an entry that came in may hold. -/
def Ent.ok (x : Ent) : Prop := -9223372036854775808 ≤ x.seq ∧ x.seq ≤ 9223372036854775807 ∧ x.key.size ≤ 140737488351232 ∧ x.val.size ≤ 140737488351232
theorem entv_cons (x : Ent) (l : List Ent) : entv (x :: l) = x.cells ++ entv l := by simp [entv]
theorem entv_append (a b : List Ent) : entv (a ++ b) = entv a ++ entv b := by simp [entv]
theorem entv_one (x : Ent) : entv [x] = x.cells := by simp [entv]
theorem entv_length (l : List Ent) : (entv l).length = l.length * 4 := by
  induction l with
  | nil => rfl
  | cons i l ih => rw [entv_cons, List.length_append, ih, List.length_cons, Ent.cells]; simp only [List.length_cons, List.length_nil]; omega
theorem entv_cell (l : List Ent) : ∀ u ∈ entv l, u.oneCell' = true := by
  intro u hu
  simp only [entv, List.mem_flatMap, Ent.cells] at hu
  obtain ⟨x, _, hx⟩ := hu
  simp only [List.mem_cons, List.not_mem_nil, or_false] at hx
  rcases hx with rfl | rfl | rfl | rfl <;> rfl
theorem entv_get (l : List Ent) : ∀ (k j : Nat) (h : k < l.length), j < 4 → (entv l)[4 * k + j]? = l[k].cells[j]? := by
  induction l with
  | nil => intro k j h; simp at h
  | cons i l ih =>
    intro k j h hj
    rw [entv_cons]
    have hl : i.cells.length = 4 := rfl
    cases k with
    | zero => rw [List.getElem?_append_left (by omega)]; simp
    | succ k =>
      rw [List.getElem?_append_right (by omega), hl, show 4 * (k + 1) + j - 4 = 4 * k + j by omega]
      exact ih k j (by simpa using h) hj
theorem add_flat (b off j : Nat) : (⟨b, off, none⟩ : Addr).add j = ⟨b, off + j, none⟩ := by unfold Addr.add; split <;> simp_all
theorem Rd.ent {w : World} {B n k : Nat} {A : Option Addr} {l : List Ent} (h : Rd w B 4 A n (entv l)) (hk : k < n) :
    ∃ b off, A = some ⟨b, off, none⟩ ∧ b < B ∧ ∃ hs : k < l.length, w.cell? ⟨b, off + k * 4, none⟩ = some (.string l[k].key) ∧ w.cell? ⟨b, off + k * 4 + 1, none⟩ = some (.int .i64 l[k].seq) ∧ w.cell? ⟨b, off + k * 4 + 2, none⟩ = some (.bool l[k].dead) ∧ w.cell? ⟨b, off + k * 4 + 3, none⟩ = some (.string l[k].val) := by
  have hs : k < l.length := by have := h.len; rw [entv_length] at this; omega
  obtain ⟨ad, e, hb, hc⟩ := h.at_ (by omega)
  have h0 := hc _ _ (by have := entv_get l k 0 hs (by omega); simpa [Ent.cells] using this)
  have h1 := hc _ _ (by have := entv_get l k 1 hs (by omega); simpa [Ent.cells] using this)
  have h2 := hc _ _ (by have := entv_get l k 2 hs (by omega); simpa [Ent.cells] using this)
  have h3 := hc _ _ (by have := entv_get l k 3 hs (by omega); simpa [Ent.cells] using this)
  obtain ⟨b, off, spot⟩ := ad
  have hz := hc _ _ (by have := entv_get l 0 0 (by omega) (by omega); simpa [Ent.cells] using this)
  have hspot : spot = none := by simpa [Addr.add] using World.cell?_spot hz
  subst hspot
  rw [add_flat, show 4 * k = k * 4 by omega] at h0
  rw [add_flat, show off + (4 * k + 1) = off + k * 4 + 1 by omega] at h1
  rw [add_flat, show off + (4 * k + 2) = off + k * 4 + 2 by omega] at h2
  rw [add_flat, show off + (4 * k + 3) = off + k * 4 + 3 by omega] at h3
  exact ⟨b, off, e, hb, hs, h0, h1, h2, h3⟩
theorem rd_entlen {w : World} {B n : Nat} {A : Option Addr} {l : List Ent} (h : Rd w B 4 A n (entv l)) : n = l.length := by have := h.len; rw [entv_length] at this; omega
/-- Does the first version stand ahead of the second? -/
def lessK (K : ByteArray) (S : Int) (K' : ByteArray) (S' : Int) : Bool := Op.bytesLess K.toList K'.toList || (K.toList == K'.toList) && decide (S' < S)
def lessE (x y : Ent) : Bool := lessK x.key x.seq y.key y.seq
set_option maxHeartbeats 400000 in
theorem less_is (w : World) (K : ByteArray) (S : Int) (D : Bool) (V : ByteArray) (K' : ByteArray) (S' : Int) (D' : Bool) (V' : ByteArray) (r : Bool) (h : lessK K S K' S' = r) :
    Calls Try.prog 88 #[.agg #[.string K, .int .i64 S, .bool D, .string V], .agg #[.string K', .int .i64 S', .bool D', .string V']] w fun e w' => e = .returned (.bool r) ∧ Below w.heap.size w w' := by
  subst h
  go_enter Try.func88, Try.ntmps88
  go_wp2
  all_goals
    go_ret
    exact ⟨ret_bool (by simp_all [lessK]), ((Below.refl _ _).alloc (Nat.le_refl _) _).alloc (by simp) _⟩
end Go.Proofs.Ytanieolnaiihmaa
