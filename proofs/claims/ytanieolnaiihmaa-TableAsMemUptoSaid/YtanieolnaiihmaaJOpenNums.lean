/- Slices of numbers that came in, opened (the '..UptoSaid' form: with their bulk). -/
import Derived.Test.YtanieolnaiihmaaJBulkStr
import Derived.Test.YtanieolnaiihmaaNums
namespace Go.Proofs.Ytanieolnaiihmaa
open Go.RowKit Go.ChangeShapes Go.WideShapes Go.ChangeAt

section
variable {H : Type} {enc : TypeId × Value → H} {P : Program} {w : World} {held : Bool}
theorem bulk_lits (k : IntKind) (l : List Int) : Rows.uptoBulkAll (lits (H := H) k l) = l.length := by
  induction l with
  | nil => simp [lits, Rows.uptoBulkAll]
  | cons s l ih =>
    simp only [lits, List.map_cons] at ih ⊢
    simp only [Rows.uptoBulkAll, Rows.uptoBulk, ih, List.length_cons]
    omega
theorem open_numsB {t e : TypeId} {k : IntKind} {v : Value} {d : DataW H} {p : List MemPlace} {b r} (ht : P.underlying t = some (.slice e)) (he : P.underlying e = some (.int k)) (hc : P.cellsOf e = 1)
    (hval : Value.okWide P w r b t v) (h : DataW.Trod enc P w 0 (fun _ => true) held t v d p) :
    ∃ A n c, ∃ l : List Int, v = .slice A n c ∧ Rd w w.heap.size 1 A n (l.map fun x => Value.int k x) ∧ (∀ x ∈ l, (Lit.int k x).wf = true) ∧ l.length + 1 ≤ Rows.uptoBulk d := by
  have hlt := lt_of_trod h
  obtain ⟨a0, n, c, rfl⟩ := okWide_slice ht hval
  obtain ⟨fuel, hf⟩ := h
  rcases open_ints ht he hc hf with ⟨hcs, hx⟩ | ⟨a, len', cap', zs, hcs, _, hl, hm, hz, hx, hcell, hwf⟩
  · simp [Value.cells] at hcs
    obtain ⟨rfl, rfl, rfl⟩ := hcs
    injection hx with hx _
    rw [hx]
    exact ⟨none, 0, 0, [], rfl, Rd.nil, by simp, by simp [Rows.uptoBulk]⟩
  · simp [Value.cells] at hcs
    obtain ⟨rfl, rfl, rfl⟩ := hcs
    simp only [if_true] at hz
    simp only [Prod.mk.injEq] at hx
    obtain ⟨rfl, rfl⟩ := hx
    refine ⟨some a, n, c, zs.take n, rfl, ⟨by rw [List.length_map, List.length_take]; omega, fun hn => ⟨a, rfl, ?_, ?_⟩⟩, fun x hx => hwf x (List.mem_of_mem_take hx), ?_⟩
    · exact hlt (.cell a.block (a.off + 0)) (by simp only [MemPlace.row, List.mem_map, List.mem_range]; exact ⟨0, by omega, rfl⟩)
    · intro j u hu
      have hj : j < (zs.take n).length := by have := (List.getElem?_eq_some_iff.1 hu).1; simpa using this
      have hj2 : j < n ∧ j < zs.length := by rw [List.length_take] at hj; omega
      rw [hcell j hj2.2, ← hu, List.getElem?_map, List.getElem?_eq_getElem hj, List.getElem_take, List.getD_eq_getElem?_getD, List.getElem?_eq_getElem hj2.2]
      rfl
    · simp only [Rows.uptoBulk, bulk_lits, List.length_take, List.length_drop]
      omega
theorem open_i64sB {t e : TypeId} {v : Value} {d : DataW H} {p : List MemPlace} {b r} (ht : P.underlying t = some (.slice e)) (he : P.underlying e = some (.int .i64)) (hc : P.cellsOf e = 1)
    (hval : Value.okWide P w r b t v) (h : DataW.Trod enc P w 0 (fun _ => true) held t v d p) :
    ∃ A n c, ∃ l : List Int, v = .slice A n c ∧ Rd w w.heap.size 1 A n (i64v l) ∧ (∀ x ∈ l, -9223372036854775808 ≤ x ∧ x ≤ 9223372036854775807) ∧ l.length + 1 ≤ Rows.uptoBulk d := by
  obtain ⟨A, n, c, l, h1, h2, h3, h4⟩ := open_numsB ht he hc hval h
  exact ⟨A, n, c, l, h1, h2, fun x hx => bounds_i64 (h3 x hx), h4⟩
theorem open_u64sB {t e : TypeId} {v : Value} {d : DataW H} {p : List MemPlace} {b r} (ht : P.underlying t = some (.slice e)) (he : P.underlying e = some (.int .u64)) (hc : P.cellsOf e = 1)
    (hval : Value.okWide P w r b t v) (h : DataW.Trod enc P w 0 (fun _ => true) held t v d p) :
    ∃ A n c, ∃ l : List Nat, v = .slice A n c ∧ Rd w w.heap.size 1 A n (u64v l) ∧ (∀ x ∈ l, x < 18446744073709551616) ∧ l.length + 1 ≤ Rows.uptoBulk d := by
  obtain ⟨A, n, c, l, h1, h2, h3, h4⟩ := open_numsB ht he hc hval h
  refine ⟨A, n, c, l.map Int.toNat, h1, ?_, ?_, by rw [List.length_map]; exact h4⟩
  · have : u64v (l.map Int.toNat) = l.map fun x => Value.int .u64 x := by
      unfold u64v
      rw [List.map_map]
      refine List.map_congr_left fun x hx => ?_
      have := bounds_u64 (h3 x hx)
      show Value.int .u64 ((x.toNat : Nat) : Int) = _
      rw [Int.toNat_of_nonneg this.1]
    rw [this]; exact h2
  · intro x hx
    obtain ⟨y, hy, rfl⟩ := List.mem_map.1 hx
    have := bounds_u64 (h3 y hy)
    omega
end
end Go.Proofs.Ytanieolnaiihmaa
