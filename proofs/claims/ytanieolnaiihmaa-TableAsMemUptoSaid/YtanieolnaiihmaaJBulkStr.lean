/- For the '..UptoSaid' statements: a slice of strings, opened with the bound. -/
import Derived.Test.YtanieolnaiihmaaJBulkEnt
namespace Go.Proofs.Ytanieolnaiihmaa
open Go.RowKit Go.ChangeShapes Go.WideShapes Go.ChangeAt

section
variable {H : Type} {enc : TypeId × Value → H} {P : Program} {w : World} {held : Bool}
theorem bulk_strs (l : List ByteArray) : Rows.uptoBulkAll (strs (H := H) l) = (l.map fun s => s.size + 1).sum := by
  induction l with
  | nil => simp [strs, Rows.uptoBulkAll]
  | cons s l ih =>
    simp only [strs, List.map_cons] at ih ⊢
    simp only [Rows.uptoBulkAll, Rows.uptoBulk, List.sum_cons, ih]
    simp
theorem open_strsB {t e : TypeId} {v : Value} {d : DataW H} {p : List MemPlace} {b r} (ht : P.underlying t = some (.slice e)) (he : P.underlying e = some .string) (hc : P.cellsOf e = 1) (hb : P.bytesOf e = 16)
    (hval : Value.okWide P w r b t v) (h : DataW.Trod enc P w 0 (fun _ => true) held t v d p) (hsz : ∀ n ∈ d.weights P t, n ≤ reachBytes) :
    ∃ A n c, ∃ ss : List ByteArray, v = .slice A n c ∧ Rd w w.heap.size 1 A n (strv ss) ∧ n * 16 ≤ 140737488351232 ∧ (∀ s ∈ ss, s.size ≤ 140737488351232) ∧ (ss.map fun s => s.size + 1).sum ≤ Rows.uptoBulk d := by
  have hlt := lt_of_trod h
  obtain ⟨a0, n, c, rfl⟩ := okWide_slice ht hval
  obtain ⟨fuel, hf⟩ := h
  rcases open_strings ht he hc hf with ⟨hcs, _⟩ | ⟨a, len', cap', ss, hcs, _, hl, hm, hz, hx, hcell, _⟩
  · simp [Value.cells] at hcs
    obtain ⟨rfl, rfl, rfl⟩ := hcs
    exact ⟨none, 0, 0, [], rfl, Rd.nil, by omega, by simp, by simp⟩
  · simp [Value.cells] at hcs
    obtain ⟨rfl, rfl, rfl⟩ := hcs
    simp only [if_true] at hz
    simp only [Prod.mk.injEq] at hx
    obtain ⟨rfl, rfl⟩ := hx
    have h1 := hsz ((ss.take n).length * 16 + (ss.drop n).length * 16) (by
      simp only [DataW.weights, ht, hb, strs, List.length_map, ← Nat.add_mul]
      exact List.mem_cons_self)
    rw [reach_eq] at h1
    simp only [List.length_take, List.length_drop] at h1
    refine ⟨some a, n, c, ss.take n, rfl, ⟨by rw [strv_length, List.length_take]; omega, fun hn => ⟨a, rfl, ?_, ?_⟩⟩, by omega, ?_, ?_⟩
    · exact hlt (.cell a.block (a.off + 0)) (by simp only [MemPlace.row, List.mem_map, List.mem_range]; exact ⟨0, by omega, rfl⟩)
    · intro j u hu
      have hj : j < (strv (ss.take n)).length := (List.getElem?_eq_some_iff.1 hu).1
      rw [strv_length, List.length_take] at hj
      rw [hcell j (by omega), ← hu, strv_get _ _ (by rw [List.length_take]; omega), List.getElem_take, List.getD_eq_getElem?_getD, List.getElem?_eq_getElem (by omega)]
      rfl
    · intro s hs
      have hd : (DataW.lit (.string s.data.toList) : DataW H) ∈ strs (ss.take n) := List.mem_map.2 ⟨s, hs, rfl⟩
      have h2 := hsz s.data.toList.length (by
        simp only [DataW.weights, ht]
        refine List.mem_cons_of_mem _ (List.mem_append.2 (.inl (weightsAll_mem hd _ ?_)))
        simp [DataW.weights])
      rw [reach_eq] at h2
      simpa using h2
    · simp only [Rows.uptoBulk]
      rw [bulk_strs]
      omega
theorem open_strB {t : TypeId} {v : Value} {d : DataW H} {p : List MemPlace} {b r} {base : Nat} {spare : Nat → Bool} (ht : P.underlying t = some .string) (hval : Value.okWide P w r b t v)
    (h : DataW.Trod enc P w base spare held t v d p) (hsz : ∀ n ∈ d.weights P t, n ≤ reachBytes) :
    ∃ s : ByteArray, v = .string s ∧ s.size ≤ 140737488351232 ∧ s.size + 1 ≤ Rows.uptoBulk d := by
  obtain ⟨s, rfl, rfl, rfl, _⟩ := ChangeMaps.open_string ht hval h
  exact ⟨s, rfl, hsz _ (by simp [DataW.weights]), by simp [Rows.uptoBulk]⟩
end
end Go.Proofs.Ytanieolnaiihmaa
