/- Pack: what items are written as, and that it's read again. -/
import Derived.Test.YtmjkebokedaldaaPkOne
import Derived.Test.YtmjkebokedaldaaPkReads
namespace Go.Proofs.Ytmjkebokedaldaa
open Go.RowKit

def sg (n : Nat) : Int := wrap64 (n : Int)
theorem sg_ne (n : Nat) : (sg n != wrap64 (n : Int)) = false := by simp [sg]
theorem sg_lo (n : Nat) : -9223372036854775808 ≤ sg n := by unfold sg wrap64; omega
theorem sg_hi (n : Nat) : sg n ≤ 9223372036854775807 := by unfold sg wrap64; omega
def itemB (i : Item) : List UInt8 := if kd i.k = 0 then numB i.n else if kd i.k = 1 then intB (sg i.n) else textB i.s.data.toList
def itemsB (l : List Item) : List UInt8 := l.flatMap itemB
theorem itemB_0 {i : Item} {K : Int} {N : Nat} (hN : i.n = N) (hK : i.k = K) (h : kd K = 0) : itemB i = numB N := by subst hN; subst hK; unfold itemB; rw [if_pos h]
theorem itemB_1 {i : Item} {K : Int} {N : Nat} (hN : i.n = N) (hK : i.k = K) (h : kd K = 1) : itemB i = intB (sg N) := by subst hN; subst hK; unfold itemB; rw [if_neg (by omega), if_pos h]
theorem itemB_2 {i : Item} {K : Int} {T : ByteArray} (hT : i.s = T) (hK : i.k = K) (h : kd K = 2) : itemB i = textB T.data.toList := by subst hT; subst hK; unfold itemB; rw [if_neg (by omega), if_neg (by omega)]
theorem itemB_len (i : Item) (h : i.ok) : (itemB i).length ≤ 10 + i.s.size := by
  obtain ⟨_, _, hn, hs⟩ := h
  unfold itemB
  split
  · have := numB_len10 i.n hn; omega
  · split
    · have := intB_len (sg i.n) (sg_lo _) (sg_hi _); omega
    · unfold textB
      have h1 : i.s.data.toList.length = i.s.size := by simp
      have := numB_len10 i.s.data.toList.length (by omega)
      rw [List.length_append]
      omega
theorem itemsB_len (l : List Item) (h : ∀ i ∈ l, i.ok) (hb : (l.map fun i => i.s.size + 2).sum ≤ 1048576) : (itemsB l).length ≤ 5242880 := by
  have key : (itemsB l).length ≤ 5 * (l.map fun i => i.s.size + 2).sum := by
    clear hb
    induction l with
    | nil => simp [itemsB]
    | cons i l ih =>
      have h1 := ih fun x hx => h x (List.mem_cons_of_mem _ hx)
      have h2 := itemB_len i (h i List.mem_cons_self)
      have h3 : itemsB (i :: l) = itemB i ++ itemsB l := by simp [itemsB]
      rw [h3, List.length_append, List.map_cons, List.sum_cons]
      omega
  omega
theorem itemsB_take (l : List Item) (k : Nat) (h : k < l.length) : itemsB (l.take (k + 1)) = itemsB (l.take k) ++ itemB l[k] := by
  have : l.take (k + 1) = l.take k ++ [l[k]] := by rw [List.take_add_one, List.getElem?_eq_getElem h]; rfl
  unfold itemsB
  rw [this, List.flatMap_append, List.flatMap_cons, List.flatMap_nil, List.append_nil]
theorem itemsB_drop (l : List Item) (k : Nat) (h : k < l.length) : itemsB (l.drop k) = itemB l[k] ++ itemsB (l.drop (k + 1)) := by
  unfold itemsB
  rw [List.drop_eq_getElem_cons h, List.flatMap_cons]
theorem itemsB_take_len (l : List Item) (k : Nat) : (itemsB (l.take k)).length ≤ (itemsB l).length := by
  have : itemsB l = itemsB (l.take k) ++ itemsB (l.drop k) := by
    unfold itemsB; rw [← List.flatMap_append, List.take_append_drop]
  rw [this, List.length_append]; omega
theorem itemsB_drop_len (l : List Item) (k : Nat) : (itemsB (l.drop k)).length ≤ (itemsB l).length := by
  have : itemsB l = itemsB (l.take k) ++ itemsB (l.drop k) := by
    unfold itemsB; rw [← List.flatMap_append, List.take_append_drop]
  rw [this, List.length_append]; omega
theorem cell_lt {w : World} {a : Addr} {v : Value} (h : w.cell? a = some v) : a.block < w.heap.size := by
  unfold World.cell? at h
  split at h
  · rename_i hb; exact (Array.getElem?_eq_some_iff.1 hb).1
  · cases h
theorem took_cell {w w' : World} {T : TypeId} {g h i : Nat} {r : List UInt8} {u : Value} (ht : Took w T g r w') (hne : h ≠ g) (hc : w.cell? ⟨h, i, none⟩ = some u) : w'.cell? ⟨h, i, none⟩ = some u := by
  obtain ⟨_, _, _, hu⟩ := ht
  exact (hu.cell (p := ⟨h, i, none⟩) (cell_lt hc) hne).trans hc
theorem rdInt_intB (x : Int) (r : List UInt8) (h0 : -9223372036854775808 ≤ x) (h1 : x ≤ 9223372036854775807) : rdInt (intB x ++ r) = (x, 0, r) := by
  unfold rdInt intB
  rw [rdNum_numB _ _ (fold_lt h0 h1)]
  simp only [unfold_fold]
theorem rdText_textB (s r : List UInt8) (h : s.length < 18446744073709551616) : rdText (textB s ++ r) = (s, 0, r) := by
  unfold rdText textB
  rw [List.append_assoc, rdNum_numB _ _ h]
  rw [if_neg (by simp)]
  simp
theorem size_list {s : ByteArray} {l : List UInt8} (h : s.data.toList = l) : s.size = l.length := by rw [← h]; simp
theorem below_upd_wr' {w0 w w' : World} {g : Nat} {v : Value} {base : Nat} {bs : List UInt8} (hb : Below w0.heap.size w0 w) (h : Wr w base g v bs) (hbase : w0.heap.size ≤ base) (hg : w0.heap.size ≤ g) (hu : Upd (WrS g v) w w') : Below w0.heap.size w0 w' :=
  hb.trans (hu.below (fun k hk => by
    rintro (e | e)
    · omega
    · have := (h.own.lt _ e).1; omega) hb.size)
theorem wr_drew' {w : World} {base g : Nat} {v : Value} {bs : List UInt8} (h : Wr w base g v bs) (n : Nat) : Wr (w.drewN n) base g v bs := ⟨h.blk, h.own⟩
end Go.Proofs.Ytmjkebokedaldaa
