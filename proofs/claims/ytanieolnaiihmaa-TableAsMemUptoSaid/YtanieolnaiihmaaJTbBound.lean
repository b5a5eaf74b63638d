/- Blocks: a bound on a block's bytes. -/
import Derived.Test.YtanieolnaiihmaaBkEnc
import Derived.Test.YtanieolnaiihmaaJBulkEnt
import Derived.Test.YtanieolnaiihmaaJTbOpP
namespace Go.Proofs.Ytanieolnaiihmaa
open Go.RowKit
theorem entsB_bound (l : List Ent) : ∀ (last : List UInt8), (∀ x ∈ l, (-9223372036854775808 ≤ x.seq ∧ x.seq ≤ 9223372036854775807) ∧ x.key.size ≤ 1048576 ∧ x.val.size ≤ 1048576) → (entsB last l).length ≤ (l.map fun x => 25 * (x.key.size + x.val.size + 2)).sum := by
  induction l with
  | nil => intro last _; simp [entsB]
  | cons x l ih =>
    intro last h
    obtain ⟨⟨h0, h1⟩, h2, h3⟩ := h x List.mem_cons_self
    have hk : x.kl.length = x.key.size := by simp [Ent.kl]
    have hv : x.vl.length = x.val.size := by simp [Ent.vl]
    have a := (entB_len last x h0 h1 (by omega) (by omega)).1
    have b := ih x.kl fun y hy => h y (List.mem_cons_of_mem _ hy)
    rw [entsB, List.length_append, List.map_cons, List.sum_cons]
    omega
theorem sum_mul (l : List Ent) : (l.map fun x => 25 * (x.key.size + x.val.size + 2)).sum = 25 * (l.map fun x => x.key.size + x.val.size + 2).sum := by
  induction l with
  | nil => simp
  | cons x l ih => simp only [List.map_cons, List.sum_cons, ih]; omega
theorem blockB_bound {l : List Ent} {m : Nat} (hl : ∀ x ∈ l, (-9223372036854775808 ≤ x.seq ∧ x.seq ≤ 9223372036854775807) ∧ x.key.size ≤ m ∧ x.val.size ≤ m) (hm : m ≤ 1048576) (hn : l.length ≤ m) (hs : (l.map fun x => x.key.size + x.val.size + 2).sum ≤ 2 * m) : (blockB l).length ≤ 10 + 50 * m := by
  have a := numB_len10 l.length (by omega)
  have b := entsB_bound l [] fun x hx => ⟨(hl x hx).1, by have := (hl x hx).2; omega, by have := (hl x hx).2; omega⟩
  rw [sum_mul] at b
  unfold blockB
  rw [List.length_append]
  omega
end Go.Proofs.Ytanieolnaiihmaa
/- Tables: a bound on a table's bytes. -/
namespace Go.Proofs.Ytanieolnaiihmaa
open Go.RowKit
def wtP (l : List Ent) : Nat := (l.map fun x => x.key.size + x.val.size + 2).sum
theorem wtP_append (a b : List Ent) : wtP (a ++ b) = wtP a + wtP b := by unfold wtP; rw [List.map_append, List.sum_append]
theorem wtP_mem {l : List Ent} {x : Ent} (h : x ∈ l) : x.key.size ≤ wtP l := by
  induction l with
  | nil => cases h
  | cons y l ih =>
    have e : wtP (y :: l) = y.key.size + y.val.size + 2 + wtP l := by simp [wtP]
    rw [e]
    rcases List.mem_cons.1 h with rfl | h
    · omega
    · have := ih h; omega
theorem wtP_len (l : List Ent) : 2 * l.length ≤ wtP l := by
  induction l with
  | nil => simp
  | cons y l ih =>
    have e : wtP (y :: l) = y.key.size + y.val.size + 2 + wtP l := by simp [wtP]
    rw [e, List.length_cons]; omega
theorem last_le (l : List Ent) (k : Nat) : (lastE l k).size ≤ wtP (partE l k) := by
  unfold lastE
  cases hx : (partE l k).getLast? with
  | none => exact Nat.zero_le _
  | some x => exact wtP_mem (List.mem_of_getLast? hx)
section
variable {l : List Ent} (hl : ∀ x ∈ l, (-9223372036854775808 ≤ x.seq ∧ x.seq ≤ 9223372036854775807) ∧ x.key.size ≤ 1048576 ∧ x.val.size ≤ 1048576)
include hl
theorem part_wt (k : Nat) : (blockB (partE l k)).length ≤ 10 + 25 * wtP (partE l k) := by
  have b := entsB_bound (partE l k) [] (fun x hx => hl x (partE_mem hx))
  rw [sum_mul] at b
  have a := numB_len10 (partE l k).length (by rw [partE_len]; omega)
  unfold blockB wtP
  rw [List.length_append]
  omega
theorem at_wt : ∀ k, atE l k ≤ 18 * k + 25 * wtP (l.take (8 * k)) := by
  intro k
  induction k with
  | zero => simp [atE]
  | succ k ih =>
    have hb := part_wt hl k
    rw [← take_part, wtP_append]
    simp only [atE]
    omega
theorem idx_wt (hn : l.length ≤ 1048576) (hw : wtP l ≤ 2097152) : ∀ k, k ≤ partN l → (idxE l k).length ≤ 10 + 20 * k + wtP (l.take (8 * k)) := by
  intro k
  induction k with
  | zero =>
    intro _
    have := numB_len10 (partN l) (by unfold partN; omega)
    simp only [idxE]
    omega
  | succ k ih =>
    intro hk
    have h1 := ih (by omega)
    have h3 := last_le l k
    have hs : wtP (l.take (8 * (k + 1))) = wtP (l.take (8 * k)) + wtP (partE l k) := by rw [← take_part, wtP_append]
    have hle : ∀ j, wtP (l.take j) ≤ wtP l := fun j => by
      have := wtP_append (l.take j) (l.drop j)
      rw [List.take_append_drop] at this
      omega
    have h6 := hle (8 * (k + 1))
    have h7 := at_wt hl k
    have h8 := hle (8 * k)
    have h2 := textB_le (lastE l k).data.toList (by show (lastE l k).size < _; omega)
    have h4 : (lastE l k).data.toList.length = (lastE l k).size := rfl
    have hpk : k ≤ 1048576 := by unfold partN at hk; omega
    have h5 := numB_len10 (atE l k) (by omega)
    rw [hs]
    simp only [idxE, List.length_append]
    omega
theorem bld_bound (hn : l.length ≤ 1048576) (hw : wtP l ≤ 2097152) : (sealB (allP l)).length ≤ 134217728 := by
  have hp : partN l ≤ 131073 := by unfold partN; omega
  have h1 := at_wt hl (partN l)
  have h2 := idx_wt hl hn hw (partN l) (Nat.le_refl _)
  have h3 := bldN_le l
  rw [take_all] at h1 h2
  have h5 := numB_len10 (atE l (partN l)) (by omega)
  have h6 := numB_len10 l.length (by omega)
  unfold allP
  rw [sealT_append, List.length_append, pays_len]
  simp only [sealB, List.flatMap_cons, List.flatMap_nil, List.append_nil, List.length_append, frameB_len, toB_data, footE, magicB, List.length_cons, List.length_nil]
  omega
theorem bldT_bound (hn : l.length ≤ 1048576) (hw : wtP l ≤ 2097152) : (bldT l).1.length ≤ 134217728 := by
  have h := bld_bound hl hn hw
  unfold bldT
  split
  · unfold sealR
    split
    · exact h
    · simp
  · simp
theorem okE_upto (hn : l.length ≤ 1048576) : okE 1048576 l := by
  refine ⟨hl, ?_⟩
  calc l.length * (50 + 2 * 1048576) ≤ 1048576 * (50 + 2 * 1048576) := Nat.mul_le_mul_right _ hn
    _ ≤ 50000000000000 := by decide
end
end Go.Proofs.Ytanieolnaiihmaa
