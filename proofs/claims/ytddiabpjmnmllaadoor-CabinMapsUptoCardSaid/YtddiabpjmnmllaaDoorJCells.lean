/- Arguments opened, each in one term: what the form says of a value that is read, in this seat's own words (Rd). -/
import Derived.Test.YtddiabpjmnmllaaDoorMem
import Derived.ProofKit
import Derived.SizedLaws
import Derived.SliceStrings
import Derived.ChangeOld
import Derived.OpenShut
import Derived.Deep.Slices
import Derived.Deep.Fields
import Derived.Test.YtddiabpjmnmllaaDoorRows
import Derived.Deep.CondSized
import Derived.Test.YtddiabpjmnmllaaDoorRow
namespace Go.Proofs.YtddiabpjmnmllaaDoor
open Go.RowKit Go.ChangeShapes Go.WideShapes Go.ChangeAt

section
variable {H : Type} {enc : TypeId × Value → H} {P : Program} {w : World} {base : Nat} {spare : Nat → Bool} {held : Bool}

theorem lt_of_trod {t : TypeId} {v : Value} {d : DataW H} {p : List MemPlace} (h : DataW.Trod enc P w base spare held t v d p) : ∀ x ∈ p, x.block < w.heap.size := by
  obtain ⟨m, hm⟩ := h
  exact DataW.trod_lt m _ _ _ hm
theorem sz_at {ts : List TypeId} {ds : List (DataW H)} (h : (DataW.weightsEach P ts ds).all (· ≤ reachBytes) = true) (j : Nat) {t : TypeId} {d : DataW H} (ht : ts[j]? = some t) (hd : ds[j]? = some d) : ∀ n ∈ d.weights P t, n ≤ reachBytes := by
  intro n hn
  have := List.all_eq_true.1 h _ (DataW.weights_mem_each ht hd n hn)
  simpa using this
theorem reach_eq : reachBytes = 140737488351232 := rfl
theorem weightsAll_mem {e : TypeId} : ∀ {l : List (DataW H)} {d : DataW H}, d ∈ l → ∀ n ∈ d.weights P e, n ∈ DataW.weightsAll P e l
  | d0 :: r, d, hd, n, hn => by
    simp only [DataW.weightsAll, List.mem_append]
    rcases List.mem_cons.1 hd with rfl | h
    · exact .inl hn
    · exact .inr (weightsAll_mem h n hn)

/-- A string. -/
theorem open_str {t : TypeId} {v : Value} {d : DataW H} {p : List MemPlace} {b r} (ht : P.underlying t = some .string) (hval : Value.okWide P w r b t v)
    (h : DataW.Trod enc P w base spare held t v d p) (hsz : ∀ n ∈ d.weights P t, n ≤ reachBytes) :
    ∃ s : ByteArray, v = .string s ∧ s.size ≤ 140737488351232 := by
  obtain ⟨s, rfl, rfl, rfl, _⟩ := ChangeMaps.open_string ht hval h
  exact ⟨s, rfl, hsz _ (by simp [DataW.weights])⟩

/-- Numbers. -/
theorem open_u64 {t : TypeId} {v : Value} {d : DataW H} {p : List MemPlace} {b r} (ht : P.underlying t = some (.int .u64)) (hval : Value.okWide P w r b t v) (h : DataW.Trod enc P w base spare held t v d p) :
    ∃ n : Nat, v = .int .u64 (n : Int) ∧ n < 18446744073709551616 := by
  obtain ⟨x, rfl, rfl, rfl, wx⟩ := open_int ht hval h
  obtain ⟨h0, h1⟩ := bounds_u64 wx
  exact ⟨x.toNat, by rw [Int.toNat_of_nonneg h0], by omega⟩
theorem open_i64 {t : TypeId} {v : Value} {d : DataW H} {p : List MemPlace} {b r} (ht : P.underlying t = some (.int .i64)) (hval : Value.okWide P w r b t v) (h : DataW.Trod enc P w base spare held t v d p) :
    ∃ x : Int, v = .int .i64 x ∧ -9223372036854775808 ≤ x ∧ x ≤ 9223372036854775807 := by
  obtain ⟨x, rfl, rfl, rfl, wx⟩ := open_int ht hval h
  obtain ⟨h0, h1⟩ := bounds_i64 wx
  exact ⟨x, rfl, h0, h1⟩

/-- A slice of strings. -/
theorem open_strs {t e : TypeId} {v : Value} {d : DataW H} {p : List MemPlace} {b r} (ht : P.underlying t = some (.slice e)) (he : P.underlying e = some .string) (hc : P.cellsOf e = 1) (hb : P.bytesOf e = 16)
    (hval : Value.okWide P w r b t v) (h : DataW.Trod enc P w 0 (fun _ => true) held t v d p) (hsz : ∀ n ∈ d.weights P t, n ≤ reachBytes) :
    ∃ A n c, ∃ ss : List ByteArray, v = .slice A n c ∧ Rd w w.heap.size 1 A n (strv ss) ∧ n * 16 ≤ 140737488351232 ∧ ∀ s ∈ ss, s.size ≤ 140737488351232 := by
  have hlt := lt_of_trod h
  obtain ⟨a0, n, c, rfl⟩ := okWide_slice ht hval
  obtain ⟨fuel, hf⟩ := h
  rcases open_strings ht he hc hf with ⟨hcs, _⟩ | ⟨a, len', cap', ss, hcs, _, hl, hm, hz, hx, hcell, _⟩
  · simp [Value.cells] at hcs
    obtain ⟨rfl, rfl, rfl⟩ := hcs
    exact ⟨none, 0, 0, [], rfl, Rd.nil, by omega, by simp⟩
  · simp [Value.cells] at hcs
    obtain ⟨rfl, rfl, rfl⟩ := hcs
    simp only [if_true] at hz
    simp only [Prod.mk.injEq] at hx
    obtain ⟨rfl, rfl⟩ := hx
    have h1 := hsz ((ss.take n).length * 16 + (ss.drop n).length * 16) (by
      simp only [DataW.weights, ht, hb, strs, List.length_map, ← Nat.add_mul]
      exact List.mem_cons_self)
    rw [reach_eq] at h1
    simp only [List.length_take, List.length_drop] at h1
    refine ⟨some a, n, c, ss.take n, rfl, ⟨by rw [strv_length, List.length_take]; omega, fun hn => ⟨a, rfl, ?_, ?_⟩⟩, by omega, ?_⟩
    · exact hlt (.cell a.block (a.off + 0)) (by simp only [MemPlace.row, List.mem_map, List.mem_range]; exact ⟨0, by omega, rfl⟩)
    · intro j u hu
      have hj : j < (strv (ss.take n)).length := (List.getElem?_eq_some_iff.1 hu).1
      rw [strv_length, List.length_take] at hj
      rw [hcell j (by omega), ← hu, strv_get _ _ (by rw [List.length_take]; omega), List.getElem_take, List.getD_eq_getElem?_getD, List.getElem?_eq_getElem (by omega)]
      rfl
    · intro s hs
      have hd : (DataW.lit (.string s.data.toList) : DataW H) ∈ strs (ss.take n) := List.mem_map.2 ⟨s, hs, rfl⟩
      have h2 := hsz s.data.toList.length (by
        simp only [DataW.weights, ht]
        refine List.mem_cons_of_mem _ (List.mem_append.2 (.inl (weightsAll_mem hd _ ?_)))
        simp [DataW.weights])
      rw [reach_eq] at h2
      simpa using h2
end
end Go.Proofs.YtddiabpjmnmllaaDoor
/- A slice of structs whose fields are one cell each, opened row by row. -/
namespace Go.Proofs.YtddiabpjmnmllaaDoor
open Go.RowKit Go.ChangeShapes Go.WideShapes Go.ChangeAt

section
variable {H : Type} {enc : TypeId × Value → H} {P : Program} {w : World} {held : Bool}

theorem open_rows {t e : TypeId} {fs : Array Field} {v : Value} {d : DataW H} {p : List MemPlace} {b r} (ht : P.underlying t = some (.slice e)) (he : P.underlying e = some (.struct fs))
    (hone : Deep.oneCellFields P fs = true) (hC : P.cellsOf e = fs.size) (hpos : 0 < fs.size) (hval : Value.okWide P w r b t v) (h : DataW.Trod enc P w 0 (fun _ => true) held t v d p) (hsz : ∀ n ∈ d.weights P t, n ≤ reachBytes) :
    ∃ A n c, ∃ V : Nat → Nat → Value, v = .slice A n c ∧ n * P.bytesOf e ≤ 140737488351232 ∧
      (0 < n → ∃ ad, A = some ad ∧ ad.block < w.heap.size ∧ ∀ i j, i < n → j < fs.size → w.cell? (ad.add (i * fs.size + j)) = some (V i j)) ∧
      ∀ (i j : Nat) (f : Field), i < n → fs[j]? = some f → ∃ (y : DataW H × List MemPlace) (fuel : Nat), DataW.trod enc P w 0 (fun _ => true) held fuel f.type [V i j] = some y ∧ ∀ k ∈ y.1.weights P f.type, k ≤ 140737488351232 := by
  have hlt := lt_of_trod h
  obtain ⟨a0, n, c, rfl⟩ := okWide_slice ht hval
  obtain ⟨fuel, hf⟩ := h
  rcases Deep.open_slice ht hf with ⟨hcs, _⟩ | ⟨a, len', cap', m, fu, D, Pl, hcs, _, hl, hm, hmm, hx, hi⟩
  · simp [Value.cells] at hcs
    obtain ⟨rfl, rfl, rfl⟩ := hcs
    exact ⟨none, 0, 0, fun _ _ => undef, rfl, by omega, fun h => absurd h (by omega), fun i j f h => absurd h (by omega)⟩
  · simp [Value.cells] at hcs
    obtain ⟨rfl, rfl, rfl⟩ := hcs
    simp only [if_true] at hmm
    subst hmm
    simp only [Prod.mk.injEq] at hx
    obtain ⟨rfl, rfl⟩ := hx
    have row : ∀ i, i < n → ∃ (ys : List (DataW H × List MemPlace)) (nn : Nat), D i = .agg (ys.map (·.1)) ∧
        ∀ (j : Nat) (f : Field), fs[j]? = some f → ∃ (u : Value) (y : DataW H × List MemPlace), w.cell? (a.add (i * fs.size + j)) = some u ∧ ys[j]? = some y ∧ DataW.trod enc P w 0 (fun _ => true) held nn f.type [u] = some y := by
      intro i hin
      obtain ⟨cs', hc, ht'⟩ := hi i (by omega)
      rw [hC] at hc
      obtain ⟨ys, n', _, hy, hlen, hyl, hf'⟩ := DataW.trod_struct he ht'
      obtain ⟨_, hcl, hat⟩ := World.cells?_some hc
      simp only [Prod.mk.injEq] at hy
      refine ⟨ys, n', hy.1, fun j f hj => ?_⟩
      obtain ⟨ho, hk⟩ := Deep.hone_of hone j f hj
      have hjl : j < fs.size := (Array.getElem?_eq_some_iff.1 hj).1
      have hcell := hat j hjl
      have hv : cs'[j]? = some (cs'[j]'(by omega)) := List.getElem?_eq_getElem (by omega)
      have h1 := hf' j f hj
      rw [ho, hk, List.drop_eq_getElem_cons (by omega)] at h1
      have hys : ys[j]? = some (ys[j]'(by omega)) := List.getElem?_eq_getElem (by omega)
      exact ⟨_, _, by rw [← Deep.add_add, hcell, hv], hys, h1.trans hys⟩
    refine ⟨some a, n, m, fun i j => (w.cell? (a.add (i * fs.size + j))).getD undef, rfl, ?_, fun hn => ⟨a, rfl, ?_, fun i j hin hj => ?_⟩, fun i j f hin hj => ?_⟩
    · have := hsz (((List.range n).map D).length * P.bytesOf e + ((List.range (m - n)).map fun j => D (n + j)).length * P.bytesOf e) (by
        simp only [DataW.weights, ht, ← Nat.add_mul]
        exact List.mem_cons_self)
      rw [reach_eq] at this
      simp only [List.length_map, List.length_range] at this
      omega
    · exact hlt (.cell a.block (a.off + 0)) (List.mem_append.2 (.inl (by
        simp only [MemPlace.row, List.mem_map, List.mem_range]
        exact ⟨0, by rw [hC]; exact Nat.mul_pos (by omega) hpos, rfl⟩)))
    · obtain ⟨ys, nn, _, hrow⟩ := row i hin
      obtain ⟨u, y, hu, _⟩ := hrow j fs[j] (Array.getElem?_eq_getElem hj)
      simp only [hu, Option.getD_some]
    · obtain ⟨ys, nn, hD, hrow⟩ := row i hin
      obtain ⟨u, y, hu, hyj, htr⟩ := hrow j f hj
      refine ⟨y, nn, by simp only [hu, Option.getD_some]; exact htr, fun k hk => ?_⟩
      have hd : D i ∈ (List.range n).map D := List.mem_map.2 ⟨i, List.mem_range.2 hin, rfl⟩
      have := hsz k (by
        simp only [DataW.weights, ht]
        refine List.mem_cons_of_mem _ (List.mem_append.2 (.inl (weightsAll_mem hd k ?_)))
        rw [hD]
        simp only [DataW.weights, he]
        exact DataW.weights_mem_each (j := j) (t := f.type) (d := y.1) (by rw [List.getElem?_map, Array.getElem?_toList, hj]; rfl) (by rw [List.getElem?_map, hyj]; rfl) k hk)
      rw [reach_eq] at this
      exact this
/-- The rows as cells. -/
theorem rd_of_rows {B n m : Nat} {A : Option Addr} {V : Nat → Nat → Value} {xs : List Value} (hm : 0 < m) (hlen : xs.length = n * m)
    (hc : 0 < n → ∃ ad, A = some ad ∧ ad.block < B ∧ ∀ i j, i < n → j < m → w.cell? (ad.add (i * m + j)) = some (V i j)) (hx : ∀ i j, i < n → j < m → xs[i * m + j]? = some (V i j)) : Rd w B m A n xs :=
  ⟨hlen, fun hn => by
    obtain ⟨ad, e, hb, hcell⟩ := hc hn
    refine ⟨ad, e, hb, fun k u hu => ?_⟩
    have hk : k < n * m := by rw [← hlen]; exact (List.getElem?_eq_some_iff.1 hu).1
    have hi : k / m < n := by rw [Nat.div_lt_iff_lt_mul hm]; exact hk
    have hj : k % m < m := Nat.mod_lt _ hm
    have e1 : k / m * m + k % m = k := by rw [Nat.mul_comm]; exact Nat.div_add_mod k m
    have h1 := hcell _ _ hi hj
    have h2 := hx _ _ hi hj
    rw [e1] at h1 h2
    rw [h1, ← h2, hu]⟩
theorem field_int {t : TypeId} {k : IntKind} {v : Value} {y : DataW H × List MemPlace} {fuel : Nat} (ht : P.underlying t = some (.int k)) (h : DataW.trod enc P w 0 (fun _ => true) held fuel t [v] = some y) : ∃ n, v = .int k n ∧ (Lit.int k n).wf = true := by
  obtain ⟨n, hv, _, hw⟩ := DataW.trod_int ht h
  exact ⟨n, by simpa using hv, hw⟩
theorem field_str {t : TypeId} {v : Value} {y : DataW H × List MemPlace} {fuel : Nat} (ht : P.underlying t = some .string) (h : DataW.trod enc P w 0 (fun _ => true) held fuel t [v] = some y) (hs : ∀ k ∈ y.1.weights P t, k ≤ 140737488351232) : ∃ s : ByteArray, v = .string s ∧ s.size ≤ 140737488351232 := by
  obtain ⟨s, hv, rfl, _⟩ := DataW.trod_string ht h
  exact ⟨s, by simpa using hv, hs _ (by simp [DataW.weights])⟩
theorem field_bool {t : TypeId} {v : Value} {y : DataW H × List MemPlace} {fuel : Nat} (ht : P.underlying t = some .bool) (h : DataW.trod enc P w 0 (fun _ => true) held fuel t [v] = some y) : ∃ b, v = .bool b := by
  obtain ⟨b, hv, _⟩ := DataW.trod_bool ht h
  exact ⟨b, by simpa using hv⟩
end
end Go.Proofs.YtddiabpjmnmllaaDoor
/- For the '..UptoSaid' statements: what the bound gives of slices of rows and of strings. -/
namespace Go.Proofs.YtddiabpjmnmllaaDoor
open Go.RowKit Go.ChangeShapes Go.WideShapes Go.ChangeAt

section
variable {H : Type} {enc : TypeId × Value → H} {P : Program} {w : World} {held : Bool}

theorem bulkAll_sum (l : List (DataW H)) : Rows.uptoBulkAll l = (l.map Rows.uptoBulk).sum := by
  induction l with
  | nil => simp [Rows.uptoBulkAll]
  | cons x l ih => simp only [Rows.uptoBulkAll, ih, List.map_cons, List.sum_cons]
theorem le_sum {l : List Nat} {x : Nat} (h : x ∈ l) : x ≤ l.sum := by
  induction l with
  | nil => cases h
  | cons a l ih =>
    simp only [List.sum_cons]
    rcases List.mem_cons.1 h with rfl | h
    · omega
    · have := ih h; omega
theorem sum_le_map {α : Type} {f g : α → Nat} {l : List α} (h : ∀ x ∈ l, f x ≤ g x) : (l.map f).sum ≤ (l.map g).sum := by
  induction l with
  | nil => simp
  | cons a l ih =>
    simp only [List.map_cons, List.sum_cons]
    have h1 := h a List.mem_cons_self
    have h2 := ih fun x hx => h x (List.mem_cons_of_mem _ hx)
    omega
/-- The bound of a part. -/
theorem bulk_mem {l : List (DataW H)} {d : DataW H} (h : d ∈ l) : Rows.uptoBulk d ≤ Rows.uptoBulkAll l := by
  rw [bulkAll_sum]
  exact le_sum (List.mem_map.2 ⟨d, h, rfl⟩)
theorem bulk_le {l : List (DataW H)} (hk : Rows.uptoSmall H l = true) : Rows.uptoBulkAll l ≤ 1048576 := of_decide_eq_true hk
theorem bulk_at {l : List (DataW H)} (hk : Rows.uptoSmall H l = true) {d : DataW H} (h : d ∈ l) : Rows.uptoBulk d ≤ 1048576 := Nat.le_trans (bulk_mem h) (bulk_le hk)

theorem open_rowsB {t e : TypeId} {fs : Array Field} {v : Value} {d : DataW H} {p : List MemPlace} {b r} (ht : P.underlying t = some (.slice e)) (he : P.underlying e = some (.struct fs))
    (hone : Deep.oneCellFields P fs = true) (hC : P.cellsOf e = fs.size) (hpos : 0 < fs.size) (hval : Value.okWide P w r b t v) (h : DataW.Trod enc P w 0 (fun _ => true) held t v d p) (hsz : ∀ n ∈ d.weights P t, n ≤ reachBytes) :
    ∃ A n c, ∃ V : Nat → Nat → Value, ∃ β : Nat → Nat, v = .slice A n c ∧ n * P.bytesOf e ≤ 140737488351232 ∧
      (0 < n → ∃ ad, A = some ad ∧ ad.block < w.heap.size ∧ ∀ i j, i < n → j < fs.size → w.cell? (ad.add (i * fs.size + j)) = some (V i j)) ∧
      ((List.range n).map β).sum ≤ Rows.uptoBulk d ∧
      ∀ i, i < n → ∃ ys : List (DataW H × List MemPlace), (ys.map fun y => Rows.uptoBulk y.1).sum + 1 ≤ β i ∧
        ∀ (j : Nat) (f : Field), fs[j]? = some f → ∃ (y : DataW H × List MemPlace) (fuel : Nat), y ∈ ys ∧ DataW.trod enc P w 0 (fun _ => true) held fuel f.type [V i j] = some y ∧ ∀ k ∈ y.1.weights P f.type, k ≤ 140737488351232 := by
  have hlt := lt_of_trod h
  obtain ⟨a0, n, c, rfl⟩ := okWide_slice ht hval
  obtain ⟨fuel, hf⟩ := h
  rcases Deep.open_slice ht hf with ⟨hcs, _⟩ | ⟨a, len', cap', m, fu, D, Pl, hcs, _, hl, hm, hmm, hx, hi⟩
  · simp [Value.cells] at hcs
    obtain ⟨rfl, rfl, rfl⟩ := hcs
    exact ⟨none, 0, 0, fun _ _ => undef, fun _ => 0, rfl, by omega, fun h => absurd h (by omega), by simp, fun i h => absurd h (by omega)⟩
  · simp [Value.cells] at hcs
    obtain ⟨rfl, rfl, rfl⟩ := hcs
    simp only [if_true] at hmm
    subst hmm
    simp only [Prod.mk.injEq] at hx
    obtain ⟨rfl, rfl⟩ := hx
    have row : ∀ i, i < n → ∃ (ys : List (DataW H × List MemPlace)) (nn : Nat), D i = .agg (ys.map (·.1)) ∧
        ∀ (j : Nat) (f : Field), fs[j]? = some f → ∃ (u : Value) (y : DataW H × List MemPlace), w.cell? (a.add (i * fs.size + j)) = some u ∧ ys[j]? = some y ∧ DataW.trod enc P w 0 (fun _ => true) held nn f.type [u] = some y := by
      intro i hin
      obtain ⟨cs', hc, ht'⟩ := hi i (by omega)
      rw [hC] at hc
      obtain ⟨ys, n', _, hy, hlen, hyl, hf'⟩ := DataW.trod_struct he ht'
      obtain ⟨_, hcl, hat⟩ := World.cells?_some hc
      simp only [Prod.mk.injEq] at hy
      refine ⟨ys, n', hy.1, fun j f hj => ?_⟩
      obtain ⟨ho, hk⟩ := Deep.hone_of hone j f hj
      have hjl : j < fs.size := (Array.getElem?_eq_some_iff.1 hj).1
      have hcell := hat j hjl
      have hv : cs'[j]? = some (cs'[j]'(by omega)) := List.getElem?_eq_getElem (by omega)
      have h1 := hf' j f hj
      rw [ho, hk, List.drop_eq_getElem_cons (by omega)] at h1
      have hys : ys[j]? = some (ys[j]'(by omega)) := List.getElem?_eq_getElem (by omega)
      exact ⟨_, _, by rw [← Deep.add_add, hcell, hv], hys, h1.trans hys⟩
    refine ⟨some a, n, m, fun i j => (w.cell? (a.add (i * fs.size + j))).getD undef, fun i => Rows.uptoBulk (D i), rfl, ?_, fun hn => ⟨a, rfl, ?_, fun i j hin hj => ?_⟩, ?_, fun i hin => ?_⟩
    · have := hsz (((List.range n).map D).length * P.bytesOf e + ((List.range (m - n)).map fun j => D (n + j)).length * P.bytesOf e) (by
        simp only [DataW.weights, ht, ← Nat.add_mul]
        exact List.mem_cons_self)
      rw [reach_eq] at this
      simp only [List.length_map, List.length_range] at this
      omega
    · exact hlt (.cell a.block (a.off + 0)) (List.mem_append.2 (.inl (by
        simp only [MemPlace.row, List.mem_map, List.mem_range]
        exact ⟨0, by rw [hC]; exact Nat.mul_pos (by omega) hpos, rfl⟩)))
    · obtain ⟨ys, nn, _, hrow⟩ := row i hin
      obtain ⟨u, y, hu, _⟩ := hrow j fs[j] (Array.getElem?_eq_getElem hj)
      simp only [hu, Option.getD_some]
    · simp only [Rows.uptoBulk]
      rw [bulkAll_sum, List.map_map]
      have : ((List.range n).map (Rows.uptoBulk ∘ D)).sum = ((List.range n).map fun i => Rows.uptoBulk (D i)).sum := rfl
      omega
    · obtain ⟨ys, nn, hD, hrow⟩ := row i hin
      refine ⟨ys, ?_, fun j f hj => ?_⟩
      · simp only [hD, Rows.uptoBulk]
        rw [bulkAll_sum, List.map_map]
        exact Nat.le_refl _
      · obtain ⟨u, y, hu, hyj, htr⟩ := hrow j f hj
        refine ⟨y, nn, List.mem_of_getElem? hyj, by simp only [hu, Option.getD_some]; exact htr, fun k hk => ?_⟩
        have hd : D i ∈ (List.range n).map D := List.mem_map.2 ⟨i, List.mem_range.2 hin, rfl⟩
        have := hsz k (by
          simp only [DataW.weights, ht]
          refine List.mem_cons_of_mem _ (List.mem_append.2 (.inl (weightsAll_mem hd k ?_)))
          rw [hD]
          simp only [DataW.weights, he]
          exact DataW.weights_mem_each (j := j) (t := f.type) (d := y.1) (by rw [List.getElem?_map, Array.getElem?_toList, hj]; rfl) (by rw [List.getElem?_map, hyj]; rfl) k hk)
        rw [reach_eq] at this
        exact this
theorem field_strB {t : TypeId} {v : Value} {y : DataW H × List MemPlace} {fuel : Nat} (ht : P.underlying t = some .string) (h : DataW.trod enc P w 0 (fun _ => true) held fuel t [v] = some y) (hs : ∀ k ∈ y.1.weights P t, k ≤ 140737488351232) : ∃ s : ByteArray, v = .string s ∧ s.size ≤ 140737488351232 ∧ Rows.uptoBulk y.1 = s.size + 1 := by
  obtain ⟨s, hv, rfl, _⟩ := DataW.trod_string ht h
  exact ⟨s, by simpa using hv, hs _ (by simp [DataW.weights]), by simp [Rows.uptoBulk]⟩
end
end Go.Proofs.YtddiabpjmnmllaaDoor
/- Slices of structs, as cells: whatever the struct. -/
namespace Go.Proofs.YtddiabpjmnmllaaDoor
open Go.RowKit
/-- The elements' cells, one behind the other. -/
def catv {α : Type} (f : α → List Value) (l : List α) : List Value := l.flatMap f
section
variable {α : Type} {f : α → List Value} {m : Nat}
theorem catv_cons (x : α) (l : List α) : catv f (x :: l) = f x ++ catv f l := by simp [catv]
theorem catv_nil : catv f [] = [] := rfl
theorem catv_append (a b : List α) : catv f (a ++ b) = catv f a ++ catv f b := by simp [catv]
theorem catv_one (x : α) : catv f [x] = f x := by simp [catv]
theorem catv_length (hf : ∀ x, (f x).length = m) (l : List α) : (catv f l).length = l.length * m := by
  induction l with
  | nil => simp [catv]
  | cons x l ih => rw [catv_cons, List.length_append, ih, hf, List.length_cons, Nat.add_mul]; omega
theorem catv_get (hf : ∀ x, (f x).length = m) : ∀ (l : List α) (k j : Nat) (h : k < l.length), j < m → (catv f l)[k * m + j]? = (f l[k])[j]? := by
  intro l
  induction l with
  | nil => intro k j h; simp at h
  | cons x l ih =>
    intro k j h hj
    have hl := hf x
    rw [catv_cons]
    cases k with
    | zero => rw [Nat.zero_mul, Nat.zero_add, List.getElem?_append_left (by omega)]; rfl
    | succ k =>
      have e : (k + 1) * m = k * m + m := Nat.succ_mul k m
      rw [List.getElem?_append_right (by omega), hl, show (k + 1) * m + j - m = k * m + j by omega]
      exact ih k j (by simpa using h) hj
theorem catv_cell (h1 : ∀ x, ∀ u ∈ f x, u.oneCell' = true) (l : List α) : ∀ u ∈ catv f l, u.oneCell' = true := by
  intro u hu
  simp only [catv, List.mem_flatMap] at hu
  obtain ⟨x, _, hx⟩ := hu
  exact h1 x u hx
theorem catv_take (hf : ∀ x, (f x).length = m) (l : List α) (k : Nat) : (catv f l).take (k * m) = catv f (l.take k) := by
  induction l generalizing k with
  | nil => simp [catv]
  | cons x l ih =>
    have hl := hf x
    cases k with
    | zero => simp [catv]
    | succ k =>
      have e : (k + 1) * m = k * m + m := Nat.succ_mul k m
      rw [catv_cons, List.take_succ_cons, catv_cons, ← ih, List.take_append, hl, List.take_of_length_le (by omega), show (k + 1) * m - m = k * m by omega]
theorem addr_flat (b off j : Nat) : (⟨b, off, none⟩ : Addr).add j = ⟨b, off + j, none⟩ := by unfold Addr.add; split <;> simp_all
theorem rd_catlen {w : World} {B n : Nat} {A : Option Addr} {l : List α} (hf : ∀ x, (f x).length = m) (hm : 0 < m) (h : Rd w B m A n (catv f l)) : n = l.length := by
  have := h.len
  rw [catv_length hf] at this
  exact (Nat.eq_of_mul_eq_mul_right hm this).symm
/-- Element k, cell by cell. -/
theorem Rd.elem {w : World} {B n k : Nat} {A : Option Addr} {l : List α} (hf : ∀ x, (f x).length = m) (hm : 0 < m) (h : Rd w B m A n (catv f l)) (hk : k < n) :
    ∃ b off, A = some ⟨b, off, none⟩ ∧ b < B ∧ ∃ hs : k < l.length, ∀ j u, (f l[k])[j]? = some u → w.cell? ⟨b, off + k * m + j, none⟩ = some u := by
  have hs : k < l.length := by rw [← rd_catlen hf hm h]; exact hk
  obtain ⟨ad, e, hb, hc⟩ := h.at_ (by omega)
  obtain ⟨b, off, spot⟩ := ad
  have h0 : (catv f l)[0]? = some ((f l[0])[0]'(by rw [hf]; exact hm)) := by
    have := catv_get hf l 0 0 (by omega) hm
    rw [Nat.zero_mul, Nat.zero_add] at this
    rw [this, List.getElem?_eq_getElem]
  have hz := hc 0 _ h0
  have hspot : spot = none := by simpa [Addr.add] using World.cell?_spot hz
  subst hspot
  refine ⟨b, off, e, hb, hs, fun j u hu => ?_⟩
  have hj : j < m := by rw [← hf l[k]]; exact (List.getElem?_eq_some_iff.1 hu).1
  have := hc (k * m + j) u (by rw [catv_get hf l k j hs hj]; exact hu)
  rw [addr_flat, ← Nat.add_assoc] at this
  exact this
end
end Go.Proofs.YtddiabpjmnmllaaDoor
