/- Keys: the law OrderRises, walked. -/
import Derived.Test.YtaphfjomlignhaaDoorOrRCmp
import Derived.Test.YtaphfjomlignhaaDoorOrEnds
import Derived.Test.YtaphfjomlignhaaDoorOrBack
namespace Go.Proofs.YtaphfjomlignhaaDoor
open Go.RowKit
theorem ptv_take (l : List Pt) (k : Nat) : ptv (l.take k) = (ptv l).take (k * 3) := by
  induction l generalizing k with
  | nil => simp [ptv]
  | cons x l ih =>
    cases k with
    | zero => simp [ptv]
    | succ k =>
      rw [List.take_succ_cons, ptv_cons, ptv_cons, ih, List.take_append]
      have : x.cells.length = 3 := rfl
      rw [this, show (k + 1) * 3 - 3 = k * 3 by omega, show x.cells.take ((k + 1) * 3) = x.cells from List.take_of_length_le (by rw [this]; omega)]
theorem rd_take {w : World} {B n k : Nat} {A : Option Addr} {l : List Pt} (h : Rd w B 3 A n (ptv l)) (hk : k ≤ n) : Rd w B 3 A k (ptv (l.take k)) := by
  rw [ptv_take]; exact h.take k hk
theorem cmpL_range (a b : List Pt) : cmpL a b = -1 ∨ cmpL a b = 0 ∨ cmpL a b = 1 := by
  have hI : ∀ x y : Int, cmpI x y = -1 ∨ cmpI x y = 0 ∨ cmpI x y = 1 := fun x y => by
    unfold cmpI; split
    · exact .inl rfl
    · split
      · exact .inr (.inr rfl)
      · exact .inr (.inl rfl)
  have hT : ∀ x y : ByteArray, cmpT x y = -1 ∨ cmpT x y = 0 ∨ cmpT x y = 1 := fun x y => by
    unfold cmpT; split
    · exact .inl rfl
    · split
      · exact .inr (.inl rfl)
      · exact .inr (.inr rfl)
  have hP : ∀ x y : Pt, cmpP x y = -1 ∨ cmpP x y = 0 ∨ cmpP x y = 1 := fun x y => by
    unfold cmpP; rw [orL3]; split
    · split
      · exact hT _ _
      · exact hI _ _
    · exact hI _ _
  induction a generalizing b with
  | nil => cases b <;> simp [cmpL]
  | cons x a ih =>
    cases b with
    | nil => simp [cmpL]
    | cons y b =>
      rw [cmpL]; split
      · exact ih b
      · exact hP x y
/-- What the law looks at. -/
theorem rises_cases {l l' : List Pt} (h1 : allR l) (h2 : allR l') (f1 : allF l) (f2 : allF l') {X Y : ByteArray} (hX : X.data.toList = bytesK l) (hY : Y.data.toList = bytesK l') :
    (cmpL l l' = -1 ∧ Op.bytesLess X.toList Y.toList = true ∧ (X.toList == Y.toList) = false) ∨ (cmpL l l' = 0 ∧ X = Y ∧ Op.bytesLess X.toList Y.toList = false) ∨
      (cmpL l l' = 1 ∧ Op.bytesLess X.toList Y.toList = false ∧ (X.toList == Y.toList) = false) := by
  have hb := bytesK_less l l' h1 h2 f1 f2
  rw [← cmpL_lt, ← hX, ← hY] at hb
  have hz := cmpL_zero l l'
  have hne : X = Y ↔ l = l' := by
    constructor
    · intro e; exact (bytesK_inj h1 h2 f1 f2 (by rw [← hX, ← hY, e])).symm
    · intro e; exact bytes_eq (by rw [hX, hY, e])
  rw [ByteArray.toList_eq, ByteArray.toList_eq]
  have hq : X ≠ Y → (X.data.toList == Y.data.toList) = false := fun h => beq_eq_false_iff_ne.2 fun e => h (bytes_eq e)
  rcases cmpL_range l l' with h | h | h
  · exact .inl ⟨h, hb.2 (by omega), hq fun e => by have := hz.2 (hne.1 e); omega⟩
  · exact .inr (.inl ⟨h, hne.2 (hz.1 h), Bool.eq_false_iff.2 fun e => by have := hb.1 e; omega⟩)
  · exact .inr (.inr ⟨h, Bool.eq_false_iff.2 fun e => by have := hb.1 e; omega, hq fun e => by have := hz.2 (hne.1 e); omega⟩)
def okL (l : List Pt) : Prop := ∀ x ∈ l, (-9223372036854775808 ≤ x.num ∧ x.num ≤ 9223372036854775807) ∧ x.text.size ≤ 1048576
theorem key_yes (w : World) (A : Option Addr) (n c : Nat) (l : List Pt) (m : Int) (hm : MaxAt w m) (hr : Rd w w.heap.size 3 A n (ptv l)) (hn : n ≤ 1048576) (hok : okL l) (hl : (bytesK l).length ≤ 67108864) (hR : allR l) {X : ByteArray} (hX : X.data.toList = bytesK l) :
    Calls Tryd.prog 14 #[.slice A n c] w fun e w' => e = .returned (.tuple #[.string X, .int .i64 0]) ∧ Below w.heap.size w w' := by
  have h := key_any w A n c l m hm.1 hm.2 hr hn hok (by omega)
  rw [keyR_ok hR, ← hX, back_str] at h
  exact h
theorem key_no (w : World) (A : Option Addr) (n c : Nat) (l : List Pt) (m : Int) (hm : MaxAt w m) (hr : Rd w w.heap.size 3 A n (ptv l)) (hn : n ≤ 1048576) (hok : okL l) (hl : (bytesK l).length ≤ 67108864) (hR : ¬ allR l) :
    Calls Tryd.prog 14 #[.slice A n c] w fun e w' => e = .returned (.tuple #[.string ⟨#[]⟩, .int .i64 3]) ∧ Below w.heap.size w w' := by
  have h := key_any w A n c l m hm.1 hm.2 hr hn hok (by omega)
  rw [show keyR l = ([], 3) from if_neg hR] at h
  exact h
theorem has_key (l : List Pt) : ∃ X : ByteArray, X.data.toList = bytesK l := ⟨⟨(bytesK l).toArray⟩, rfl⟩
end Go.Proofs.YtaphfjomlignhaaDoor
