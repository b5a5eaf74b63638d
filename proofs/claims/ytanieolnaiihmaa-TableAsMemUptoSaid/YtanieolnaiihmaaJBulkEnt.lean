/- Arguments opened, each in one term: what the form says of a value that is read, in this seat's own words (Rd). -/
import Derived.Test.YtanieolnaiihmaaMem
import Derived.ProofKit
import Derived.SizedLaws
import Derived.SliceStrings
import Derived.ChangeOld
import Derived.OpenShut
import Derived.Deep.Slices
import Derived.Deep.Fields
import Derived.Test.YtanieolnaiihmaaRows
import Derived.Deep.CondSized
import Derived.Test.YtanieolnaiihmaaEnt
namespace Go.Proofs.Ytanieolnaiihmaa
open Go.RowKit Go.ChangeShapes Go.WideShapes Go.ChangeAt

section
variable {H : Type} {enc : TypeId × Value → H} {P : Program} {w : World} {base : Nat} {spare : Nat → Bool} {held : Bool}

theorem lt_of_trod {t : TypeId} {v : Value} {d : DataW H} {p : List MemPlace} (h : DataW.Trod enc P w base spare held t v d p) : ∀ x ∈ p, x.block < w.heap.size := by
  obtain ⟨m, hm⟩ := h
  exact DataW.trod_lt m _ _ _ hm
theorem sz_at {ts : List TypeId} {ds : List (DataW H)} (h : (DataW.weightsEach P ts ds).all (· ≤ reachBytes) = true) (j : Nat) {t : TypeId} {d : DataW H} (ht : ts[j]? = some t) (hd : ds[j]? = some d) : ∀ n ∈ d.weights P t, n ≤ reachBytes := by
  intro n hn
  have := List.all_eq_true.1 h _ (DataW.weights_mem_each ht hd n hn)
  simpa using this
theorem reach_eq : reachBytes = 140737488351232 := rfl
theorem weightsAll_mem {e : TypeId} : ∀ {l : List (DataW H)} {d : DataW H}, d ∈ l → ∀ n ∈ d.weights P e, n ∈ DataW.weightsAll P e l
  | d0 :: r, d, hd, n, hn => by
    simp only [DataW.weightsAll, List.mem_append]
    rcases List.mem_cons.1 hd with rfl | h
    · exact .inl hn
    · exact .inr (weightsAll_mem h n hn)

/-- A string. -/
theorem open_str {t : TypeId} {v : Value} {d : DataW H} {p : List MemPlace} {b r} (ht : P.underlying t = some .string) (hval : Value.okWide P w r b t v)
    (h : DataW.Trod enc P w base spare held t v d p) (hsz : ∀ n ∈ d.weights P t, n ≤ reachBytes) :
    ∃ s : ByteArray, v = .string s ∧ s.size ≤ 140737488351232 := by
  obtain ⟨s, rfl, rfl, rfl, _⟩ := ChangeMaps.open_string ht hval h
  exact ⟨s, rfl, hsz _ (by simp [DataW.weights])⟩

/-- Numbers. -/
theorem open_u64 {t : TypeId} {v : Value} {d : DataW H} {p : List MemPlace} {b r} (ht : P.underlying t = some (.int .u64)) (hval : Value.okWide P w r b t v) (h : DataW.Trod enc P w base spare held t v d p) :
    ∃ n : Nat, v = .int .u64 (n : Int) ∧ n < 18446744073709551616 := by
  obtain ⟨x, rfl, rfl, rfl, wx⟩ := open_int ht hval h
  obtain ⟨h0, h1⟩ := bounds_u64 wx
  exact ⟨x.toNat, by rw [Int.toNat_of_nonneg h0], by omega⟩
theorem open_i64 {t : TypeId} {v : Value} {d : DataW H} {p : List MemPlace} {b r} (ht : P.underlying t = some (.int .i64)) (hval : Value.okWide P w r b t v) (h : DataW.Trod enc P w base spare held t v d p) :
    ∃ x : Int, v = .int .i64 x ∧ -9223372036854775808 ≤ x ∧ x ≤ 9223372036854775807 := by
  obtain ⟨x, rfl, rfl, rfl, wx⟩ := open_int ht hval h
  obtain ⟨h0, h1⟩ := bounds_i64 wx
  exact ⟨x, rfl, h0, h1⟩

/-- A slice of strings. -/
theorem open_strs {t e : TypeId} {v : Value} {d : DataW H} {p : List MemPlace} {b r} (ht : P.underlying t = some (.slice e)) (he : P.underlying e = some .string) (hc : P.cellsOf e = 1) (hb : P.bytesOf e = 16)
    (hval : Value.okWide P w r b t v) (h : DataW.Trod enc P w 0 (fun _ => true) held t v d p) (hsz : ∀ n ∈ d.weights P t, n ≤ reachBytes) :
    ∃ A n c, ∃ ss : List ByteArray, v = .slice A n c ∧ Rd w w.heap.size 1 A n (strv ss) ∧ n * 16 ≤ 140737488351232 ∧ ∀ s ∈ ss, s.size ≤ 140737488351232 := by
  have hlt := lt_of_trod h
  obtain ⟨a0, n, c, rfl⟩ := okWide_slice ht hval
  obtain ⟨fuel, hf⟩ := h
  rcases open_strings ht he hc hf with ⟨hcs, _⟩ | ⟨a, len', cap', ss, hcs, _, hl, hm, hz, hx, hcell, _⟩
  · simp [Value.cells] at hcs
    obtain ⟨rfl, rfl, rfl⟩ := hcs
    exact ⟨none, 0, 0, [], rfl, Rd.nil, by omega, by simp⟩
  · simp [Value.cells] at hcs
    obtain ⟨rfl, rfl, rfl⟩ := hcs
    simp only [if_true] at hz
    simp only [Prod.mk.injEq] at hx
    obtain ⟨rfl, rfl⟩ := hx
    have h1 := hsz ((ss.take n).length * 16 + (ss.drop n).length * 16) (by
      simp only [DataW.weights, ht, hb, strs, List.length_map, ← Nat.add_mul]
      exact List.mem_cons_self)
    rw [reach_eq] at h1
    simp only [List.length_take, List.length_drop] at h1
    refine ⟨some a, n, c, ss.take n, rfl, ⟨by rw [strv_length, List.length_take]; omega, fun hn => ⟨a, rfl, ?_, ?_⟩⟩, by omega, ?_⟩
    · exact hlt (.cell a.block (a.off + 0)) (by simp only [MemPlace.row, List.mem_map, List.mem_range]; exact ⟨0, by omega, rfl⟩)
    · intro j u hu
      have hj : j < (strv (ss.take n)).length := (List.getElem?_eq_some_iff.1 hu).1
      rw [strv_length, List.length_take] at hj
      rw [hcell j (by omega), ← hu, strv_get _ _ (by rw [List.length_take]; omega), List.getElem_take, List.getD_eq_getElem?_getD, List.getElem?_eq_getElem (by omega)]
      rfl
    · intro s hs
      have hd : (DataW.lit (.string s.data.toList) : DataW H) ∈ strs (ss.take n) := List.mem_map.2 ⟨s, hs, rfl⟩
      have h2 := hsz s.data.toList.length (by
        simp only [DataW.weights, ht]
        refine List.mem_cons_of_mem _ (List.mem_append.2 (.inl (weightsAll_mem hd _ ?_)))
        simp [DataW.weights])
      rw [reach_eq] at h2
      simpa using h2
end
end Go.Proofs.Ytanieolnaiihmaa
/- A slice of structs whose fields are one cell each, opened row by row. -/
namespace Go.Proofs.Ytanieolnaiihmaa
open Go.RowKit Go.ChangeShapes Go.WideShapes Go.ChangeAt

section
variable {H : Type} {enc : TypeId × Value → H} {P : Program} {w : World} {held : Bool}

theorem open_rows {t e : TypeId} {fs : Array Field} {v : Value} {d : DataW H} {p : List MemPlace} {b r} (ht : P.underlying t = some (.slice e)) (he : P.underlying e = some (.struct fs))
    (hone : Deep.oneCellFields P fs = true) (hC : P.cellsOf e = fs.size) (hpos : 0 < fs.size) (hval : Value.okWide P w r b t v) (h : DataW.Trod enc P w 0 (fun _ => true) held t v d p) (hsz : ∀ n ∈ d.weights P t, n ≤ reachBytes) :
    ∃ A n c, ∃ V : Nat → Nat → Value, v = .slice A n c ∧ n * P.bytesOf e ≤ 140737488351232 ∧
      (0 < n → ∃ ad, A = some ad ∧ ad.block < w.heap.size ∧ ∀ i j, i < n → j < fs.size → w.cell? (ad.add (i * fs.size + j)) = some (V i j)) ∧
      ∀ (i j : Nat) (f : Field), i < n → fs[j]? = some f → ∃ (y : DataW H × List MemPlace) (fuel : Nat), DataW.trod enc P w 0 (fun _ => true) held fuel f.type [V i j] = some y ∧ ∀ k ∈ y.1.weights P f.type, k ≤ 140737488351232 := by
  have hlt := lt_of_trod h
  obtain ⟨a0, n, c, rfl⟩ := okWide_slice ht hval
  obtain ⟨fuel, hf⟩ := h
  rcases Deep.open_slice ht hf with ⟨hcs, _⟩ | ⟨a, len', cap', m, fu, D, Pl, hcs, _, hl, hm, hmm, hx, hi⟩
  · simp [Value.cells] at hcs
    obtain ⟨rfl, rfl, rfl⟩ := hcs
    exact ⟨none, 0, 0, fun _ _ => undef, rfl, by omega, fun h => absurd h (by omega), fun i j f h => absurd h (by omega)⟩
  · simp [Value.cells] at hcs
    obtain ⟨rfl, rfl, rfl⟩ := hcs
    simp only [if_true] at hmm
    subst hmm
    simp only [Prod.mk.injEq] at hx
    obtain ⟨rfl, rfl⟩ := hx
    have row : ∀ i, i < n → ∃ (ys : List (DataW H × List MemPlace)) (nn : Nat), D i = .agg (ys.map (·.1)) ∧
        ∀ (j : Nat) (f : Field), fs[j]? = some f → ∃ (u : Value) (y : DataW H × List MemPlace), w.cell? (a.add (i * fs.size + j)) = some u ∧ ys[j]? = some y ∧ DataW.trod enc P w 0 (fun _ => true) held nn f.type [u] = some y := by
      intro i hin
      obtain ⟨cs', hc, ht'⟩ := hi i (by omega)
      rw [hC] at hc
      obtain ⟨ys, n', _, hy, hlen, hyl, hf'⟩ := DataW.trod_struct he ht'
      obtain ⟨_, hcl, hat⟩ := World.cells?_some hc
      simp only [Prod.mk.injEq] at hy
      refine ⟨ys, n', hy.1, fun j f hj => ?_⟩
      obtain ⟨ho, hk⟩ := Deep.hone_of hone j f hj
      have hjl : j < fs.size := (Array.getElem?_eq_some_iff.1 hj).1
      have hcell := hat j hjl
      have hv : cs'[j]? = some (cs'[j]'(by omega)) := List.getElem?_eq_getElem (by omega)
      have h1 := hf' j f hj
      rw [ho, hk, List.drop_eq_getElem_cons (by omega)] at h1
      have hys : ys[j]? = some (ys[j]'(by omega)) := List.getElem?_eq_getElem (by omega)
      exact ⟨_, _, by rw [← Deep.add_add, hcell, hv], hys, h1.trans hys⟩
    refine ⟨some a, n, m, fun i j => (w.cell? (a.add (i * fs.size + j))).getD undef, rfl, ?_, fun hn => ⟨a, rfl, ?_, fun i j hin hj => ?_⟩, fun i j f hin hj => ?_⟩
    · have := hsz (((List.range n).map D).length * P.bytesOf e + ((List.range (m - n)).map fun j => D (n + j)).length * P.bytesOf e) (by
        simp only [DataW.weights, ht, ← Nat.add_mul]
        exact List.mem_cons_self)
      rw [reach_eq] at this
      simp only [List.length_map, List.length_range] at this
      omega
    · exact hlt (.cell a.block (a.off + 0)) (List.mem_append.2 (.inl (by
        simp only [MemPlace.row, List.mem_map, List.mem_range]
        exact ⟨0, by rw [hC]; exact Nat.mul_pos (by omega) hpos, rfl⟩)))
    · obtain ⟨ys, nn, _, hrow⟩ := row i hin
      obtain ⟨u, y, hu, _⟩ := hrow j fs[j] (Array.getElem?_eq_getElem hj)
      simp only [hu, Option.getD_some]
    · obtain ⟨ys, nn, hD, hrow⟩ := row i hin
      obtain ⟨u, y, hu, hyj, htr⟩ := hrow j f hj
      refine ⟨y, nn, by simp only [hu, Option.getD_some]; exact htr, fun k hk => ?_⟩
      have hd : D i ∈ (List.range n).map D := List.mem_map.2 ⟨i, List.mem_range.2 hin, rfl⟩
      have := hsz k (by
        simp only [DataW.weights, ht]
        refine List.mem_cons_of_mem _ (List.mem_append.2 (.inl (weightsAll_mem hd k ?_)))
        rw [hD]
        simp only [DataW.weights, he]
        exact DataW.weights_mem_each (j := j) (t := f.type) (d := y.1) (by rw [List.getElem?_map, Array.getElem?_toList, hj]; rfl) (by rw [List.getElem?_map, hyj]; rfl) k hk)
      rw [reach_eq] at this
      exact this
/-- The rows as cells. -/
theorem rd_of_rows {B n m : Nat} {A : Option Addr} {V : Nat → Nat → Value} {xs : List Value} (hm : 0 < m) (hlen : xs.length = n * m)
    (hc : 0 < n → ∃ ad, A = some ad ∧ ad.block < B ∧ ∀ i j, i < n → j < m → w.cell? (ad.add (i * m + j)) = some (V i j)) (hx : ∀ i j, i < n → j < m → xs[i * m + j]? = some (V i j)) : Rd w B m A n xs :=
  ⟨hlen, fun hn => by
    obtain ⟨ad, e, hb, hcell⟩ := hc hn
    refine ⟨ad, e, hb, fun k u hu => ?_⟩
    have hk : k < n * m := by rw [← hlen]; exact (List.getElem?_eq_some_iff.1 hu).1
    have hi : k / m < n := by rw [Nat.div_lt_iff_lt_mul hm]; exact hk
    have hj : k % m < m := Nat.mod_lt _ hm
    have e1 : k / m * m + k % m = k := by rw [Nat.mul_comm]; exact Nat.div_add_mod k m
    have h1 := hcell _ _ hi hj
    have h2 := hx _ _ hi hj
    rw [e1] at h1 h2
    rw [h1, ← h2, hu]⟩
theorem field_int {t : TypeId} {k : IntKind} {v : Value} {y : DataW H × List MemPlace} {fuel : Nat} (ht : P.underlying t = some (.int k)) (h : DataW.trod enc P w 0 (fun _ => true) held fuel t [v] = some y) : ∃ n, v = .int k n ∧ (Lit.int k n).wf = true := by
  obtain ⟨n, hv, _, hw⟩ := DataW.trod_int ht h
  exact ⟨n, by simpa using hv, hw⟩
theorem field_str {t : TypeId} {v : Value} {y : DataW H × List MemPlace} {fuel : Nat} (ht : P.underlying t = some .string) (h : DataW.trod enc P w 0 (fun _ => true) held fuel t [v] = some y) (hs : ∀ k ∈ y.1.weights P t, k ≤ 140737488351232) : ∃ s : ByteArray, v = .string s ∧ s.size ≤ 140737488351232 := by
  obtain ⟨s, hv, rfl, _⟩ := DataW.trod_string ht h
  exact ⟨s, by simpa using hv, hs _ (by simp [DataW.weights])⟩
theorem field_bool {t : TypeId} {v : Value} {y : DataW H × List MemPlace} {fuel : Nat} (ht : P.underlying t = some .bool) (h : DataW.trod enc P w 0 (fun _ => true) held fuel t [v] = some y) : ∃ b, v = .bool b := by
  obtain ⟨b, hv, _⟩ := DataW.trod_bool ht h
  exact ⟨b, by simpa using hv⟩
end
end Go.Proofs.Ytanieolnaiihmaa
/- For the '..UptoSaid' statements: what the bound gives of slices of rows and of strings. -/
namespace Go.Proofs.Ytanieolnaiihmaa
open Go.RowKit Go.ChangeShapes Go.WideShapes Go.ChangeAt

section
variable {H : Type} {enc : TypeId × Value → H} {P : Program} {w : World} {held : Bool}

theorem bulkAll_sum (l : List (DataW H)) : Rows.uptoBulkAll l = (l.map Rows.uptoBulk).sum := by
  induction l with
  | nil => simp [Rows.uptoBulkAll]
  | cons x l ih => simp only [Rows.uptoBulkAll, ih, List.map_cons, List.sum_cons]
theorem le_sum {l : List Nat} {x : Nat} (h : x ∈ l) : x ≤ l.sum := by
  induction l with
  | nil => cases h
  | cons a l ih =>
    simp only [List.sum_cons]
    rcases List.mem_cons.1 h with rfl | h
    · omega
    · have := ih h; omega
theorem sum_le_map {α : Type} {f g : α → Nat} {l : List α} (h : ∀ x ∈ l, f x ≤ g x) : (l.map f).sum ≤ (l.map g).sum := by
  induction l with
  | nil => simp
  | cons a l ih =>
    simp only [List.map_cons, List.sum_cons]
    have h1 := h a List.mem_cons_self
    have h2 := ih fun x hx => h x (List.mem_cons_of_mem _ hx)
    omega
/-- The bound of a part. -/
theorem bulk_mem {l : List (DataW H)} {d : DataW H} (h : d ∈ l) : Rows.uptoBulk d ≤ Rows.uptoBulkAll l := by
  rw [bulkAll_sum]
  exact le_sum (List.mem_map.2 ⟨d, h, rfl⟩)
theorem bulk_le {l : List (DataW H)} (hk : Rows.uptoSmall H l = true) : Rows.uptoBulkAll l ≤ 1048576 := of_decide_eq_true hk
theorem bulk_at {l : List (DataW H)} (hk : Rows.uptoSmall H l = true) {d : DataW H} (h : d ∈ l) : Rows.uptoBulk d ≤ 1048576 := Nat.le_trans (bulk_mem h) (bulk_le hk)

theorem open_rowsB {t e : TypeId} {fs : Array Field} {v : Value} {d : DataW H} {p : List MemPlace} {b r} (ht : P.underlying t = some (.slice e)) (he : P.underlying e = some (.struct fs))
    (hone : Deep.oneCellFields P fs = true) (hC : P.cellsOf e = fs.size) (hpos : 0 < fs.size) (hval : Value.okWide P w r b t v) (h : DataW.Trod enc P w 0 (fun _ => true) held t v d p) (hsz : ∀ n ∈ d.weights P t, n ≤ reachBytes) :
    ∃ A n c, ∃ V : Nat → Nat → Value, ∃ β : Nat → Nat, v = .slice A n c ∧ n * P.bytesOf e ≤ 140737488351232 ∧
      (0 < n → ∃ ad, A = some ad ∧ ad.block < w.heap.size ∧ ∀ i j, i < n → j < fs.size → w.cell? (ad.add (i * fs.size + j)) = some (V i j)) ∧
      ((List.range n).map β).sum ≤ Rows.uptoBulk d ∧
      ∀ i, i < n → ∃ ys : List (DataW H × List MemPlace), (ys.map fun y => Rows.uptoBulk y.1).sum + 1 ≤ β i ∧
        ∀ (j : Nat) (f : Field), fs[j]? = some f → ∃ (y : DataW H × List MemPlace) (fuel : Nat), y ∈ ys ∧ DataW.trod enc P w 0 (fun _ => true) held fuel f.type [V i j] = some y ∧ ∀ k ∈ y.1.weights P f.type, k ≤ 140737488351232 := by
  have hlt := lt_of_trod h
  obtain ⟨a0, n, c, rfl⟩ := okWide_slice ht hval
  obtain ⟨fuel, hf⟩ := h
  rcases Deep.open_slice ht hf with ⟨hcs, _⟩ | ⟨a, len', cap', m, fu, D, Pl, hcs, _, hl, hm, hmm, hx, hi⟩
  · simp [Value.cells] at hcs
    obtain ⟨rfl, rfl, rfl⟩ := hcs
    exact ⟨none, 0, 0, fun _ _ => undef, fun _ => 0, rfl, by omega, fun h => absurd h (by omega), by simp, fun i h => absurd h (by omega)⟩
  · simp [Value.cells] at hcs
    obtain ⟨rfl, rfl, rfl⟩ := hcs
    simp only [if_true] at hmm
    subst hmm
    simp only [Prod.mk.injEq] at hx
    obtain ⟨rfl, rfl⟩ := hx
    have row : ∀ i, i < n → ∃ (ys : List (DataW H × List MemPlace)) (nn : Nat), D i = .agg (ys.map (·.1)) ∧
        ∀ (j : Nat) (f : Field), fs[j]? = some f → ∃ (u : Value) (y : DataW H × List MemPlace), w.cell? (a.add (i * fs.size + j)) = some u ∧ ys[j]? = some y ∧ DataW.trod enc P w 0 (fun _ => true) held nn f.type [u] = some y := by
      intro i hin
      obtain ⟨cs', hc, ht'⟩ := hi i (by omega)
      rw [hC] at hc
      obtain ⟨ys, n', _, hy, hlen, hyl, hf'⟩ := DataW.trod_struct he ht'
      obtain ⟨_, hcl, hat⟩ := World.cells?_some hc
      simp only [Prod.mk.injEq] at hy
      refine ⟨ys, n', hy.1, fun j f hj => ?_⟩
      obtain ⟨ho, hk⟩ := Deep.hone_of hone j f hj
      have hjl : j < fs.size := (Array.getElem?_eq_some_iff.1 hj).1
      have hcell := hat j hjl
      have hv : cs'[j]? = some (cs'[j]'(by omega)) := List.getElem?_eq_getElem (by omega)
      have h1 := hf' j f hj
      rw [ho, hk, List.drop_eq_getElem_cons (by omega)] at h1
      have hys : ys[j]? = some (ys[j]'(by omega)) := List.getElem?_eq_getElem (by omega)
      exact ⟨_, _, by rw [← Deep.add_add, hcell, hv], hys, h1.trans hys⟩
    refine ⟨some a, n, m, fun i j => (w.cell? (a.add (i * fs.size + j))).getD undef, fun i => Rows.uptoBulk (D i), rfl, ?_, fun hn => ⟨a, rfl, ?_, fun i j hin hj => ?_⟩, ?_, fun i hin => ?_⟩
    · have := hsz (((List.range n).map D).length * P.bytesOf e + ((List.range (m - n)).map fun j => D (n + j)).length * P.bytesOf e) (by
        simp only [DataW.weights, ht, ← Nat.add_mul]
        exact List.mem_cons_self)
      rw [reach_eq] at this
      simp only [List.length_map, List.length_range] at this
      omega
    · exact hlt (.cell a.block (a.off + 0)) (List.mem_append.2 (.inl (by
        simp only [MemPlace.row, List.mem_map, List.mem_range]
        exact ⟨0, by rw [hC]; exact Nat.mul_pos (by omega) hpos, rfl⟩)))
    · obtain ⟨ys, nn, _, hrow⟩ := row i hin
      obtain ⟨u, y, hu, _⟩ := hrow j fs[j] (Array.getElem?_eq_getElem hj)
      simp only [hu, Option.getD_some]
    · simp only [Rows.uptoBulk]
      rw [bulkAll_sum, List.map_map]
      have : ((List.range n).map (Rows.uptoBulk ∘ D)).sum = ((List.range n).map fun i => Rows.uptoBulk (D i)).sum := rfl
      omega
    · obtain ⟨ys, nn, hD, hrow⟩ := row i hin
      refine ⟨ys, ?_, fun j f hj => ?_⟩
      · simp only [hD, Rows.uptoBulk]
        rw [bulkAll_sum, List.map_map]
        exact Nat.le_refl _
      · obtain ⟨u, y, hu, hyj, htr⟩ := hrow j f hj
        refine ⟨y, nn, List.mem_of_getElem? hyj, by simp only [hu, Option.getD_some]; exact htr, fun k hk => ?_⟩
        have hd : D i ∈ (List.range n).map D := List.mem_map.2 ⟨i, List.mem_range.2 hin, rfl⟩
        have := hsz k (by
          simp only [DataW.weights, ht]
          refine List.mem_cons_of_mem _ (List.mem_append.2 (.inl (weightsAll_mem hd k ?_)))
          rw [hD]
          simp only [DataW.weights, he]
          exact DataW.weights_mem_each (j := j) (t := f.type) (d := y.1) (by rw [List.getElem?_map, Array.getElem?_toList, hj]; rfl) (by rw [List.getElem?_map, hyj]; rfl) k hk)
        rw [reach_eq] at this
        exact this
theorem field_strB {t : TypeId} {v : Value} {y : DataW H × List MemPlace} {fuel : Nat} (ht : P.underlying t = some .string) (h : DataW.trod enc P w 0 (fun _ => true) held fuel t [v] = some y) (hs : ∀ k ∈ y.1.weights P t, k ≤ 140737488351232) : ∃ s : ByteArray, v = .string s ∧ s.size ≤ 140737488351232 ∧ Rows.uptoBulk y.1 = s.size + 1 := by
  obtain ⟨s, hv, rfl, _⟩ := DataW.trod_string ht h
  exact ⟨s, by simpa using hv, hs _ (by simp [DataW.weights]), by simp [Rows.uptoBulk]⟩
end
end Go.Proofs.Ytanieolnaiihmaa
/- A list of versions, opened, with the bound. -/
namespace Go.Proofs.Ytanieolnaiihmaa
open Go.RowKit Go.ChangeShapes Go.WideShapes Go.ChangeAt
instance : Inhabited Ent := ⟨⟨⟨#[]⟩, 0, false, ⟨#[]⟩⟩⟩
theorem mk_ent {V0 V1 V2 V3 : Value} {m : Nat} (h0 : ∃ s : ByteArray, V0 = .string s ∧ s.size ≤ m) (h1 : ∃ k, V1 = .int .i64 k ∧ (Lit.int .i64 k).wf = true) (h2 : ∃ b, V2 = .bool b) (h3 : ∃ s : ByteArray, V3 = .string s ∧ s.size ≤ m) :
    ∃ x : Ent, (V0 = .string x.key ∧ V1 = .int .i64 x.seq ∧ V2 = .bool x.dead ∧ V3 = .string x.val) ∧ (-9223372036854775808 ≤ x.seq ∧ x.seq ≤ 9223372036854775807) ∧ x.key.size ≤ m ∧ x.val.size ≤ m := by
  obtain ⟨s, rfl, hs⟩ := h0
  obtain ⟨k, rfl, hk⟩ := h1
  obtain ⟨b, rfl⟩ := h2
  obtain ⟨t, rfl, ht⟩ := h3
  exact ⟨⟨s, k, b, t⟩, ⟨rfl, rfl, rfl, rfl⟩, by have := hk; simp [Lit.wf] at this; exact this, hs, ht⟩
theorem ent_ok_of_mem {α : Type} {l : List α} {f : α → Ent} {P : Ent → Prop} (h : ∀ i ∈ l, P (f i)) : ∀ x ∈ l.map f, P x := by
  intro x hx
  obtain ⟨i, hi, rfl⟩ := List.mem_map.1 hx
  exact h i hi
set_option maxRecDepth 20000 in
theorem open_entsB {H : Type} {enc : TypeId × Value → H} {w : World} {held : Bool} {v : Value} {d : DataW H} {p : List MemPlace} {b r} (hval : Value.okWide Try.prog w r b 31 v)
    (h : DataW.Trod enc Try.prog w 0 (fun _ => true) held 31 v d p) (hsz : ∀ n ∈ d.weights Try.prog 31, n ≤ reachBytes) :
    ∃ A n c, ∃ l : List Ent, v = .slice A n c ∧ Rd w w.heap.size 4 A n (entv l) ∧ n ≤ Rows.uptoBulk d ∧ (∀ x ∈ l, (-9223372036854775808 ≤ x.seq ∧ x.seq ≤ 9223372036854775807) ∧ x.key.size ≤ Rows.uptoBulk d ∧ x.val.size ≤ Rows.uptoBulk d) ∧
      (l.map fun x => x.key.size + x.val.size + 2).sum ≤ 2 * Rows.uptoBulk d := by
  obtain ⟨A, n, c, V, β, rfl, hn, hc, hβ, hf⟩ := open_rowsB Try.underlying31 Try.underlying41 (by kernel_rfl) (by kernel_rfl) (by decide) hval h hsz
  obtain ⟨I, hI⟩ := Deep.choose_lt (n := n) (p := fun i (x : Ent) => (V i 0 = .string x.key ∧ V i 1 = .int .i64 x.seq ∧ V i 2 = .bool x.dead ∧ V i 3 = .string x.val) ∧ (-9223372036854775808 ≤ x.seq ∧ x.seq ≤ 9223372036854775807) ∧ x.key.size + 2 ≤ β i ∧ x.val.size + 2 ≤ β i) (fun i hi => by
    obtain ⟨ys, hsum, hfi⟩ := hf i hi
    obtain ⟨y0, f0, m0, t0, z0⟩ := hfi 0 _ rfl
    obtain ⟨y1, f1, _, t1, _⟩ := hfi 1 _ rfl
    obtain ⟨y2, f2, _, t2, _⟩ := hfi 2 _ rfl
    obtain ⟨y3, f3, m3, t3, z3⟩ := hfi 3 _ rfl
    obtain ⟨s, hs, _, hs2⟩ := field_strB Try.underlying9 t0 z0
    obtain ⟨t, ht, _, ht2⟩ := field_strB Try.underlying9 t3 z3
    have h0 := le_sum (l := ys.map fun y => Rows.uptoBulk y.1) (List.mem_map.2 ⟨y0, m0, rfl⟩)
    have h3 := le_sum (l := ys.map fun y => Rows.uptoBulk y.1) (List.mem_map.2 ⟨y3, m3, rfl⟩)
    obtain ⟨x, hx, hq, hk, hv⟩ := mk_ent (m := β i - 2) ⟨s, hs, by omega⟩ (field_int Try.underlying3 t1) (field_bool Try.underlying4 t2) ⟨t, ht, by omega⟩
    exact ⟨x, hx, hq, by omega, by omega⟩)
  have hb1 : ∀ i, i < n → β i ≤ Rows.uptoBulk d := fun i hi => Nat.le_trans (le_sum (List.mem_map.2 ⟨i, List.mem_range.2 hi, rfl⟩)) hβ
  have hn1 : n ≤ Rows.uptoBulk d := by
    have h1 : ((List.range n).map fun _ => 1).sum ≤ ((List.range n).map β).sum := sum_le_map fun i hi => by
      have := (hI i (List.mem_range.1 hi)).2.2.1
      omega
    have h2 : ((List.range n).map fun _ => 1).sum = n := by rw [List.map_const', List.sum_replicate_nat, List.length_range, Nat.mul_one]
    omega
  refine ⟨A, n, c, (List.range n).map I, rfl, rd_of_rows (by omega) (by rw [entv_length]; simp) hc (fun i j hi hj => ?_), hn1, ent_ok_of_mem fun i hi => ?_, ?_⟩
  · have hl : i < ((List.range n).map I).length := by simpa using hi
    rw [show i * 4 + j = 4 * i + j by omega, entv_get _ i j hl hj]
    obtain ⟨⟨e0, e1, e2, e3⟩, _⟩ := hI i hi
    simp only [List.getElem_map, List.getElem_range]
    rcases (show j = 0 ∨ j = 1 ∨ j = 2 ∨ j = 3 by omega) with rfl | rfl | rfl | rfl
    · rw [e0]; rfl
    · rw [e1]; rfl
    · rw [e2]; rfl
    · rw [e3]; rfl
  · obtain ⟨_, hq, hk, hv⟩ := hI i (List.mem_range.1 hi)
    have := hb1 i (List.mem_range.1 hi)
    exact ⟨hq, by omega, by omega⟩
  · rw [List.map_map]
    have h1 : ((List.range n).map ((fun x : Ent => x.key.size + x.val.size + 2) ∘ I)).sum ≤ ((List.range n).map fun i => 2 * β i).sum := sum_le_map fun i hi => by
      obtain ⟨_, _, hk, hv⟩ := hI i (List.mem_range.1 hi)
      simp only [Function.comp]
      omega
    have h2 : ∀ k : Nat, ((List.range k).map fun i => 2 * β i).sum = 2 * ((List.range k).map β).sum := by
      intro k
      induction k with
      | zero => simp
      | succ k ih => rw [List.range_succ, List.map_append, List.map_append, List.sum_append, List.sum_append, ih]; simp; omega
    rw [h2] at h1
    omega
end Go.Proofs.Ytanieolnaiihmaa
