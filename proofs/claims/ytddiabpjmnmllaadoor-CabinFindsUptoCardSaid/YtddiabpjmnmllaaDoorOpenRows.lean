/- A slice of structs whose fields are one cell each, opened row by row. -/
import Derived.Test.YtddiabpjmnmllaaDoorOpen
import Derived.Deep.Slices
import Derived.Deep.Fields
namespace Go.Proofs.YtddiabpjmnmllaaDoor
open Go.RowKit Go.ChangeShapes Go.WideShapes Go.ChangeAt

section
variable {H : Type} {enc : TypeId × Value → H} {P : Program} {w : World} {held : Bool}

theorem open_rows {t e : TypeId} {fs : Array Field} {v : Value} {d : DataW H} {p : List MemPlace} {b r} (ht : P.underlying t = some (.slice e)) (he : P.underlying e = some (.struct fs))
    (hone : Deep.oneCellFields P fs = true) (hC : P.cellsOf e = fs.size) (hpos : 0 < fs.size) (hval : Value.okWide P w r b t v) (h : DataW.Trod enc P w 0 (fun _ => true) held t v d p) (hsz : ∀ n ∈ d.weights P t, n ≤ reachBytes) :
    ∃ A n c, ∃ V : Nat → Nat → Value, v = .slice A n c ∧ n * P.bytesOf e ≤ 140737488351232 ∧
      (0 < n → ∃ ad, A = some ad ∧ ad.block < w.heap.size ∧ ∀ i j, i < n → j < fs.size → w.cell? (ad.add (i * fs.size + j)) = some (V i j)) ∧
      ∀ (i j : Nat) (f : Field), i < n → fs[j]? = some f → ∃ (y : DataW H × List MemPlace) (fuel : Nat), DataW.trod enc P w 0 (fun _ => true) held fuel f.type [V i j] = some y ∧ ∀ k ∈ y.1.weights P f.type, k ≤ 140737488351232 := by
  have hlt := lt_of_trod h
  obtain ⟨a0, n, c, rfl⟩ := okWide_slice ht hval
  obtain ⟨fuel, hf⟩ := h
  rcases Deep.open_slice ht hf with ⟨hcs, _⟩ | ⟨a, len', cap', m, fu, D, Pl, hcs, _, hl, hm, hmm, hx, hi⟩
  · simp [Value.cells] at hcs
    obtain ⟨rfl, rfl, rfl⟩ := hcs
    exact ⟨none, 0, 0, fun _ _ => undef, rfl, by omega, fun h => absurd h (by omega), fun i j f h => absurd h (by omega)⟩
  · simp [Value.cells] at hcs
    obtain ⟨rfl, rfl, rfl⟩ := hcs
    simp only [if_true] at hmm
    subst hmm
    simp only [Prod.mk.injEq] at hx
    obtain ⟨rfl, rfl⟩ := hx
    have row : ∀ i, i < n → ∃ (ys : List (DataW H × List MemPlace)) (nn : Nat), D i = .agg (ys.map (·.1)) ∧
        ∀ (j : Nat) (f : Field), fs[j]? = some f → ∃ (u : Value) (y : DataW H × List MemPlace), w.cell? (a.add (i * fs.size + j)) = some u ∧ ys[j]? = some y ∧ DataW.trod enc P w 0 (fun _ => true) held nn f.type [u] = some y := by
      intro i hin
      obtain ⟨cs', hc, ht'⟩ := hi i (by omega)
      rw [hC] at hc
      obtain ⟨ys, n', _, hy, hlen, hyl, hf'⟩ := DataW.trod_struct he ht'
      obtain ⟨_, hcl, hat⟩ := World.cells?_some hc
      simp only [Prod.mk.injEq] at hy
      refine ⟨ys, n', hy.1, fun j f hj => ?_⟩
      obtain ⟨ho, hk⟩ := Deep.hone_of hone j f hj
      have hjl : j < fs.size := (Array.getElem?_eq_some_iff.1 hj).1
      have hcell := hat j hjl
      have hv : cs'[j]? = some (cs'[j]'(by omega)) := List.getElem?_eq_getElem (by omega)
      have h1 := hf' j f hj
      rw [ho, hk, List.drop_eq_getElem_cons (by omega)] at h1
      have hys : ys[j]? = some (ys[j]'(by omega)) := List.getElem?_eq_getElem (by omega)
      exact ⟨_, _, by rw [← Deep.add_add, hcell, hv], hys, h1.trans hys⟩
    refine ⟨some a, n, m, fun i j => (w.cell? (a.add (i * fs.size + j))).getD undef, rfl, ?_, fun hn => ⟨a, rfl, ?_, fun i j hin hj => ?_⟩, fun i j f hin hj => ?_⟩
    · have := hsz (((List.range n).map D).length * P.bytesOf e + ((List.range (m - n)).map fun j => D (n + j)).length * P.bytesOf e) (by
        simp only [DataW.weights, ht, ← Nat.add_mul]
        exact List.mem_cons_self)
      rw [reach_eq] at this
      simp only [List.length_map, List.length_range] at this
      omega
    · exact hlt (.cell a.block (a.off + 0)) (List.mem_append.2 (.inl (by
        simp only [MemPlace.row, List.mem_map, List.mem_range]
        exact ⟨0, by rw [hC]; exact Nat.mul_pos (by omega) hpos, rfl⟩)))
    · obtain ⟨ys, nn, _, hrow⟩ := row i hin
      obtain ⟨u, y, hu, _⟩ := hrow j fs[j] (Array.getElem?_eq_getElem hj)
      simp only [hu, Option.getD_some]
    · obtain ⟨ys, nn, hD, hrow⟩ := row i hin
      obtain ⟨u, y, hu, hyj, htr⟩ := hrow j f hj
      refine ⟨y, nn, by simp only [hu, Option.getD_some]; exact htr, fun k hk => ?_⟩
      have hd : D i ∈ (List.range n).map D := List.mem_map.2 ⟨i, List.mem_range.2 hin, rfl⟩
      have := hsz k (by
        simp only [DataW.weights, ht]
        refine List.mem_cons_of_mem _ (List.mem_append.2 (.inl (weightsAll_mem hd k ?_)))
        rw [hD]
        simp only [DataW.weights, he]
        exact DataW.weights_mem_each (j := j) (t := f.type) (d := y.1) (by rw [List.getElem?_map, Array.getElem?_toList, hj]; rfl) (by rw [List.getElem?_map, hyj]; rfl) k hk)
      rw [reach_eq] at this
      exact this
/-- The rows as cells. -/
theorem rd_of_rows {B n m : Nat} {A : Option Addr} {V : Nat → Nat → Value} {xs : List Value} (hm : 0 < m) (hlen : xs.length = n * m)
    (hc : 0 < n → ∃ ad, A = some ad ∧ ad.block < B ∧ ∀ i j, i < n → j < m → w.cell? (ad.add (i * m + j)) = some (V i j)) (hx : ∀ i j, i < n → j < m → xs[i * m + j]? = some (V i j)) : Rd w B m A n xs :=
  ⟨hlen, fun hn => by
    obtain ⟨ad, e, hb, hcell⟩ := hc hn
    refine ⟨ad, e, hb, fun k u hu => ?_⟩
    have hk : k < n * m := by rw [← hlen]; exact (List.getElem?_eq_some_iff.1 hu).1
    have hi : k / m < n := by rw [Nat.div_lt_iff_lt_mul hm]; exact hk
    have hj : k % m < m := Nat.mod_lt _ hm
    have e1 : k / m * m + k % m = k := by rw [Nat.mul_comm]; exact Nat.div_add_mod k m
    have h1 := hcell _ _ hi hj
    have h2 := hx _ _ hi hj
    rw [e1] at h1 h2
    rw [h1, ← h2, hu]⟩
theorem field_int {t : TypeId} {k : IntKind} {v : Value} {y : DataW H × List MemPlace} {fuel : Nat} (ht : P.underlying t = some (.int k)) (h : DataW.trod enc P w 0 (fun _ => true) held fuel t [v] = some y) : ∃ n, v = .int k n ∧ (Lit.int k n).wf = true := by
  obtain ⟨n, hv, _, hw⟩ := DataW.trod_int ht h
  exact ⟨n, by simpa using hv, hw⟩
theorem field_str {t : TypeId} {v : Value} {y : DataW H × List MemPlace} {fuel : Nat} (ht : P.underlying t = some .string) (h : DataW.trod enc P w 0 (fun _ => true) held fuel t [v] = some y) (hs : ∀ k ∈ y.1.weights P t, k ≤ 140737488351232) : ∃ s : ByteArray, v = .string s ∧ s.size ≤ 140737488351232 := by
  obtain ⟨s, hv, rfl, _⟩ := DataW.trod_string ht h
  exact ⟨s, by simpa using hv, hs _ (by simp [DataW.weights])⟩
theorem field_bool {t : TypeId} {v : Value} {y : DataW H × List MemPlace} {fuel : Nat} (ht : P.underlying t = some .bool) (h : DataW.trod enc P w 0 (fun _ => true) held fuel t [v] = some y) : ∃ b, v = .bool b := by
  obtain ⟨b, hv, _⟩ := DataW.trod_bool ht h
  exact ⟨b, by simpa using hv⟩
end
end Go.Proofs.YtddiabpjmnmllaaDoor
