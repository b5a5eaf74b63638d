/- Merging versions: the reference's insert, walked. -/
import Derived.Test.YtcfgmkiohmbdlaaMgRis
import Derived.Deep.Slices
namespace Go.Proofs.Ytcfgmkiohmbdlaa
open Go.RowKit
theorem mg_take (l : List Ent) (k : Nat) : (entv l).take (k * 4) = entv (l.take k) := by
  induction l generalizing k with
  | nil => simp [entv]
  | cons x l ih =>
    cases k with
    | zero => simp [entv]
    | succ k =>
      rw [entv_cons, List.take_succ_cons, entv_cons, ← ih]
      have hl : x.cells.length = 4 := rfl
      rw [List.take_append, hl, show (k + 1) * 4 - 4 = k * 4 by omega, List.take_of_length_le (by omega)]
theorem mg_drop (l : List Ent) (k : Nat) : (entv l).drop (k * 4) = entv (l.drop k) := by
  induction l generalizing k with
  | nil => simp [entv]
  | cons x l ih =>
    cases k with
    | zero => simp [entv]
    | succ k =>
      rw [entv_cons, List.drop_succ_cons, ← ih]
      have hl : x.cells.length = 4 := rfl
      rw [List.drop_append, hl, show (k + 1) * 4 - 4 = k * 4 by omega, List.drop_eq_nil_of_le (by omega), List.nil_append]
theorem Rd.dropG {w : World} {B size n : Nat} {ad : Addr} {xs : List Value} (h : Rd w B size (some ad) n xs) (k : Nat) (hk : k ≤ n) : Rd w B size (some (ad.add (k * size))) (n - k) (xs.drop (k * size)) :=
  ⟨by rw [List.length_drop, h.len, Nat.sub_mul], fun h0 => by
    obtain ⟨ad', e, hb, hc⟩ := h.at_ (by omega)
    injection e with e
    subst e
    refine ⟨_, rfl, by rw [block_add]; exact hb, fun j u hu => ?_⟩
    rw [Deep.add_add]
    exact hc _ u (by rw [List.getElem?_drop] at hu; exact hu)⟩
theorem mg_ne {a b : ByteArray} (h : ¬ a = b) : (a.toList == b.toList) = false := by
  rw [beq_eq_false_iff_ne]
  intro e
  rw [ByteArray.toList_eq, ByteArray.toList_eq] at e
  exact h (bytes_eq e)
theorem bel_drewG {w w' : World} (h : Below w.drew.heap.size w.drew w') : Below w.heap.size w w' := ⟨h.os, h.tape, h.output, h.size, h.block⟩
theorem below_drewG {B : Nat} {w w' : World} (h : Below B w w') (n : Nat) : Below B w (w'.drewN n) := ⟨h.os, h.tape, h.output, h.size, h.block⟩
/-- The place of an insertion. -/
theorem ins_at_same {S L : List Ent} {x : Ent} {q : Nat} (h : MergeOf S L) (hq : q < L.length) (he : cmpE L[q] x = 0) : mergeL (S ++ [x]) = L :=
  (MergeOf.is (ins_same h (List.getElem_mem hq) he)).symm
theorem ins_at_new {S L : List Ent} {x : Ent} {p : Nat} (h : MergeOf S L) (hp : p ≤ L.length) (ha : ∀ y ∈ L.drop p, cmpE x y < 0) (hb : ∀ hq : 0 < p, cmpE (L[p - 1]'(by omega)) x < 0) : mergeL (S ++ [x]) = L.take p ++ x :: L.drop p :=
  (MergeOf.is (ins_new_at h hp (ahead_of h.1 hp hb) ha)).symm
/-- What the reference's 'insert' answers. -/
def RInsPost (w : World) (l : List Ent) (e : Ending) (w' : World) : Prop := ∃ A n c, e = .returned (.slice A n c) ∧ n ≤ c ∧ Rd w' w'.heap.size 4 A n (entv l) ∧ Below w.heap.size w w'
/-- The same, and it lies in new memory (from block B on). -/
def RNewPost (B : Nat) (w : World) (l : List Ent) (e : Ending) (w' : World) : Prop := ∃ A n c, e = .returned (.slice A n c) ∧ n ≤ c ∧ Rd w' w'.heap.size 4 A n (entv l) ∧ Below w.heap.size w w' ∧ (0 < n → ∃ ad, A = some ad ∧ B ≤ ad.block)
theorem RNewPost.plain {B : Nat} {w : World} {l : List Ent} {e : Ending} {w' : World} (h : RNewPost B w l e w') : RInsPost w l e w' := by
  obtain ⟨A, n, c, h1, h2, h3, h4, _⟩ := h
  exact ⟨A, n, c, h1, h2, h3, h4⟩
theorem own_from {w : World} {base size n c : Nat} {e : TypeId} {A : Option Addr} {xs : List Value} (h : w.ownsRow base e size (.slice A n c) n xs) : 0 < n → ∃ ad, A = some ad ∧ base ≤ ad.block := fun hn => by
  obtain ⟨g, cap, e, hb, _⟩ := own_form h hn
  injection e with e
  exact ⟨_, e, hb⟩
end Go.Proofs.Ytcfgmkiohmbdlaa
