/- Arguments opened, each in one term: what the form says of a value that is read, in this seat's own words (Rd). -/
import Derived.Test.YtddiabpjmnmllaaDoorMem
import Derived.ProofKit
import Derived.SizedLaws
import Derived.SliceStrings
import Derived.ChangeOld
import Derived.OpenShut
namespace Go.Proofs.YtddiabpjmnmllaaDoor
open Go.RowKit Go.ChangeShapes Go.WideShapes Go.ChangeAt

section
variable {H : Type} {enc : TypeId × Value → H} {P : Program} {w : World} {base : Nat} {spare : Nat → Bool} {held : Bool}

theorem lt_of_trod {t : TypeId} {v : Value} {d : DataW H} {p : List MemPlace} (h : DataW.Trod enc P w base spare held t v d p) : ∀ x ∈ p, x.block < w.heap.size := by
  obtain ⟨m, hm⟩ := h
  exact DataW.trod_lt m _ _ _ hm
theorem sz_at {ts : List TypeId} {ds : List (DataW H)} (h : (DataW.weightsEach P ts ds).all (· ≤ reachBytes) = true) (j : Nat) {t : TypeId} {d : DataW H} (ht : ts[j]? = some t) (hd : ds[j]? = some d) : ∀ n ∈ d.weights P t, n ≤ reachBytes := by
  intro n hn
  have := List.all_eq_true.1 h _ (DataW.weights_mem_each ht hd n hn)
  simpa using this
theorem reach_eq : reachBytes = 140737488351232 := rfl
theorem weightsAll_mem {e : TypeId} : ∀ {l : List (DataW H)} {d : DataW H}, d ∈ l → ∀ n ∈ d.weights P e, n ∈ DataW.weightsAll P e l
  | d0 :: r, d, hd, n, hn => by
    simp only [DataW.weightsAll, List.mem_append]
    rcases List.mem_cons.1 hd with rfl | h
    · exact .inl hn
    · exact .inr (weightsAll_mem h n hn)

/-- A string. -/
theorem open_str {t : TypeId} {v : Value} {d : DataW H} {p : List MemPlace} {b r} (ht : P.underlying t = some .string) (hval : Value.okWide P w r b t v)
    (h : DataW.Trod enc P w base spare held t v d p) (hsz : ∀ n ∈ d.weights P t, n ≤ reachBytes) :
    ∃ s : ByteArray, v = .string s ∧ s.size ≤ 140737488351232 := by
  obtain ⟨s, rfl, rfl, rfl, _⟩ := ChangeMaps.open_string ht hval h
  exact ⟨s, rfl, hsz _ (by simp [DataW.weights])⟩

/-- Numbers. -/
theorem open_u64 {t : TypeId} {v : Value} {d : DataW H} {p : List MemPlace} {b r} (ht : P.underlying t = some (.int .u64)) (hval : Value.okWide P w r b t v) (h : DataW.Trod enc P w base spare held t v d p) :
    ∃ n : Nat, v = .int .u64 (n : Int) ∧ n < 18446744073709551616 := by
  obtain ⟨x, rfl, rfl, rfl, wx⟩ := open_int ht hval h
  obtain ⟨h0, h1⟩ := bounds_u64 wx
  exact ⟨x.toNat, by rw [Int.toNat_of_nonneg h0], by omega⟩
theorem open_i64 {t : TypeId} {v : Value} {d : DataW H} {p : List MemPlace} {b r} (ht : P.underlying t = some (.int .i64)) (hval : Value.okWide P w r b t v) (h : DataW.Trod enc P w base spare held t v d p) :
    ∃ x : Int, v = .int .i64 x ∧ -9223372036854775808 ≤ x ∧ x ≤ 9223372036854775807 := by
  obtain ⟨x, rfl, rfl, rfl, wx⟩ := open_int ht hval h
  obtain ⟨h0, h1⟩ := bounds_i64 wx
  exact ⟨x, rfl, h0, h1⟩

/-- A slice of strings. -/
theorem open_strs {t e : TypeId} {v : Value} {d : DataW H} {p : List MemPlace} {b r} (ht : P.underlying t = some (.slice e)) (he : P.underlying e = some .string) (hc : P.cellsOf e = 1) (hb : P.bytesOf e = 16)
    (hval : Value.okWide P w r b t v) (h : DataW.Trod enc P w 0 (fun _ => true) held t v d p) (hsz : ∀ n ∈ d.weights P t, n ≤ reachBytes) :
    ∃ A n c, ∃ ss : List ByteArray, v = .slice A n c ∧ Rd w w.heap.size 1 A n (strv ss) ∧ n * 16 ≤ 140737488351232 ∧ ∀ s ∈ ss, s.size ≤ 140737488351232 := by
  have hlt := lt_of_trod h
  obtain ⟨a0, n, c, rfl⟩ := okWide_slice ht hval
  obtain ⟨fuel, hf⟩ := h
  rcases open_strings ht he hc hf with ⟨hcs, _⟩ | ⟨a, len', cap', ss, hcs, _, hl, hm, hz, hx, hcell, _⟩
  · simp [Value.cells] at hcs
    obtain ⟨rfl, rfl, rfl⟩ := hcs
    exact ⟨none, 0, 0, [], rfl, Rd.nil, by omega, by simp⟩
  · simp [Value.cells] at hcs
    obtain ⟨rfl, rfl, rfl⟩ := hcs
    simp only [if_true] at hz
    simp only [Prod.mk.injEq] at hx
    obtain ⟨rfl, rfl⟩ := hx
    have h1 := hsz ((ss.take n).length * 16 + (ss.drop n).length * 16) (by
      simp only [DataW.weights, ht, hb, strs, List.length_map, ← Nat.add_mul]
      exact List.mem_cons_self)
    rw [reach_eq] at h1
    simp only [List.length_take, List.length_drop] at h1
    refine ⟨some a, n, c, ss.take n, rfl, ⟨by rw [strv_length, List.length_take]; omega, fun hn => ⟨a, rfl, ?_, ?_⟩⟩, by omega, ?_⟩
    · exact hlt (.cell a.block (a.off + 0)) (by simp only [MemPlace.row, List.mem_map, List.mem_range]; exact ⟨0, by omega, rfl⟩)
    · intro j u hu
      have hj : j < (strv (ss.take n)).length := (List.getElem?_eq_some_iff.1 hu).1
      rw [strv_length, List.length_take] at hj
      rw [hcell j (by omega), ← hu, strv_get _ _ (by rw [List.length_take]; omega), List.getElem_take, List.getD_eq_getElem?_getD, List.getElem?_eq_getElem (by omega)]
      rfl
    · intro s hs
      have hd : (DataW.lit (.string s.data.toList) : DataW H) ∈ strs (ss.take n) := List.mem_map.2 ⟨s, hs, rfl⟩
      have h2 := hsz s.data.toList.length (by
        simp only [DataW.weights, ht]
        refine List.mem_cons_of_mem _ (List.mem_append.2 (.inl (weightsAll_mem hd _ ?_)))
        simp [DataW.weights])
      rw [reach_eq] at h2
      simpa using h2
end
end Go.Proofs.YtddiabpjmnmllaaDoor
