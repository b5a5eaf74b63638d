/- A network, arcs, edges that came in, opened. -/
import Derived.Test.YtmekcpbcgelliaaOpenRows
import Derived.Test.YtmekcpbcgelliaaFlMem
import Derived.Deep.Strs
import Derived.Lib.SmallJoins
namespace Go.Proofs.Ytmekcpbcgelliaa
open Go.RowKit Go.ChangeShapes Go.WideShapes Go.ChangeAt

section
variable {H : Type} {enc : TypeId × Value → H} {P : Program} {w : World} {held : Bool}
/-- A slice of structs in a cell, opened row by row. -/
theorem open_rowsC {t e : TypeId} {fs : Array Field} {v : Value} {d : DataW H} {p : List MemPlace} {fuel : Nat} (ht : P.underlying t = some (.slice e)) (he : P.underlying e = some (.struct fs))
    (hone : Deep.oneCellFields P fs = true) (hC : P.cellsOf e = fs.size) (hpos : 0 < fs.size) (hf : DataW.trod enc P w 0 (fun _ => true) held fuel t [v] = some (d, p)) (hsz : ∀ n ∈ d.weights P t, n ≤ reachBytes) :
    ∃ A n c, ∃ V : Nat → Nat → Value, v = .slice A n c ∧ n * P.bytesOf e ≤ 140737488351232 ∧
      (0 < n → ∃ ad, A = some ad ∧ ad.block < w.heap.size ∧ ∀ i j, i < n → j < fs.size → w.cell? (ad.add (i * fs.size + j)) = some (V i j)) ∧
      ∀ (i j : Nat) (f : Field), i < n → fs[j]? = some f → ∃ (y : DataW H × List MemPlace) (fuel : Nat), DataW.trod enc P w 0 (fun _ => true) held fuel f.type [V i j] = some y ∧ ∀ k ∈ y.1.weights P f.type, k ≤ 140737488351232 := by
  have hlt := DataW.trod_lt fuel _ _ _ hf
  rcases Deep.open_slice ht hf with ⟨hcs, _⟩ | ⟨a, len', cap', m, fu, D, Pl, hcs, _, hl, hm, hmm, hx, hi⟩
  · obtain rfl : v = .slice none 0 0 := by simpa using hcs
    exact ⟨none, 0, 0, fun _ _ => undef, rfl, by omega, fun h => absurd h (by omega), fun i j f h => absurd h (by omega)⟩
  · obtain rfl : v = .slice (some a) len' cap' := by simpa using hcs
    simp only [if_true] at hmm
    subst hmm
    simp only [Prod.mk.injEq] at hx
    obtain ⟨rfl, rfl⟩ := hx
    have row : ∀ i, i < len' → ∃ (ys : List (DataW H × List MemPlace)) (nn : Nat), D i = .agg (ys.map (·.1)) ∧
        ∀ (j : Nat) (f : Field), fs[j]? = some f → ∃ (u : Value) (y : DataW H × List MemPlace), w.cell? (a.add (i * fs.size + j)) = some u ∧ ys[j]? = some y ∧ DataW.trod enc P w 0 (fun _ => true) held nn f.type [u] = some y := by
      intro i hin
      obtain ⟨cs', hc, ht'⟩ := hi i (by omega)
      rw [hC] at hc
      obtain ⟨ys, n', _, hy, hlen, hyl, hf'⟩ := DataW.trod_struct he ht'
      obtain ⟨_, hcl, hat⟩ := World.cells?_some hc
      simp only [Prod.mk.injEq] at hy
      refine ⟨ys, n', hy.1, fun j f hj => ?_⟩
      obtain ⟨ho, hk⟩ := Deep.hone_of hone j f hj
      have hjl : j < fs.size := (Array.getElem?_eq_some_iff.1 hj).1
      have hcell := hat j hjl
      have hv : cs'[j]? = some (cs'[j]'(by omega)) := List.getElem?_eq_getElem (by omega)
      have h1 := hf' j f hj
      rw [ho, hk, List.drop_eq_getElem_cons (by omega)] at h1
      have hys : ys[j]? = some (ys[j]'(by omega)) := List.getElem?_eq_getElem (by omega)
      exact ⟨_, _, by rw [← Deep.add_add, hcell, hv], hys, h1.trans hys⟩
    refine ⟨some a, len', m, fun i j => (w.cell? (a.add (i * fs.size + j))).getD undef, rfl, ?_, fun hn => ⟨a, rfl, ?_, fun i j hin hj => ?_⟩, fun i j f hin hj => ?_⟩
    · have := hsz (((List.range len').map D).length * P.bytesOf e + ((List.range (m - len')).map fun j => D (len' + j)).length * P.bytesOf e) (by
        simp only [DataW.weights, ht, ← Nat.add_mul]
        exact List.mem_cons_self)
      rw [reach_eq] at this
      simp only [List.length_map, List.length_range] at this
      omega
    · exact hlt (.cell a.block (a.off + 0)) (List.mem_append.2 (.inl (by
        simp only [MemPlace.row, List.mem_map, List.mem_range]
        exact ⟨0, by rw [hC]; exact Nat.mul_pos (by omega) hpos, rfl⟩)))
    · obtain ⟨ys, nn, _, hrow⟩ := row i hin
      obtain ⟨u, y, hu, _⟩ := hrow j fs[j] (Array.getElem?_eq_getElem hj)
      simp only [hu, Option.getD_some]
    · obtain ⟨ys, nn, hD, hrow⟩ := row i hin
      obtain ⟨u, y, hu, hyj, htr⟩ := hrow j f hj
      refine ⟨y, nn, by simp only [hu, Option.getD_some]; exact htr, fun k hk => ?_⟩
      have hd : D i ∈ (List.range len').map D := List.mem_map.2 ⟨i, List.mem_range.2 hin, rfl⟩
      have := hsz k (by
        simp only [DataW.weights, ht]
        refine List.mem_cons_of_mem _ (List.mem_append.2 (.inl (weightsAll_mem hd k ?_)))
        rw [hD]
        simp only [DataW.weights, he]
        exact DataW.weights_mem_each (j := j) (t := f.type) (d := y.1) (by rw [List.getElem?_map, Array.getElem?_toList, hj]; rfl) (by rw [List.getElem?_map, hyj]; rfl) k hk)
      rw [reach_eq] at this
      exact this
end
theorem open_arcs {H : Type} {enc : TypeId × Value → H} {w : World} {held : Bool} {v : Value} {d : DataW H} {p : List MemPlace} {fuel : Nat} (hf : DataW.trod enc Try.prog w 0 (fun _ => true) held fuel 22 [v] = some (d, p)) (hsz : ∀ n ∈ d.weights Try.prog 22, n ≤ reachBytes) :
    ∃ A n c, ∃ l : List Ar, v = .slice A n c ∧ Rd w w.heap.size 4 A n (arv l) ∧ n * 32 ≤ 140737488351232 := by
  obtain ⟨A, n, c, V, rfl, hn, hc, hf⟩ := open_rowsC Try.underlying22 Try.underlying28 (by kernel_rfl) (by kernel_rfl) (by decide) hf hsz
  obtain ⟨I, hI⟩ := Deep.choose_lt (n := n) (p := fun i (x : Ar) => V i 0 = .int .i64 x.1 ∧ V i 1 = .int .i64 x.2.1 ∧ V i 2 = .int .i64 x.2.2.1 ∧ V i 3 = .int .i64 x.2.2.2) (fun i hi => by
    obtain ⟨y0, f0, t0, _⟩ := hf i 0 _ hi rfl
    obtain ⟨y1, f1, t1, _⟩ := hf i 1 _ hi rfl
    obtain ⟨y2, f2, t2, _⟩ := hf i 2 _ hi rfl
    obtain ⟨y3, f3, t3, _⟩ := hf i 3 _ hi rfl
    obtain ⟨a, ha, _⟩ := field_int Try.underlying3 t0
    obtain ⟨b, hb, _⟩ := field_int Try.underlying3 t1
    obtain ⟨c, hc, _⟩ := field_int Try.underlying3 t2
    obtain ⟨d, hd, _⟩ := field_int Try.underlying3 t3
    exact ⟨(a, b, c, d), ha, hb, hc, hd⟩)
  have hby : Try.prog.bytesOf 28 = 32 := by kernel_rfl
  rw [hby] at hn
  refine ⟨A, n, c, (List.range n).map I, rfl, rd_of_rows (by omega) (by rw [arv_length]; simp) hc (fun i j hi hj => ?_), hn⟩
  have hl : i < ((List.range n).map I).length := by simpa using hi
  have hj4 : j < 4 := hj
  rw [show i * (4 : Nat) + j = 4 * i + j by omega, arv_get _ i j hl hj4]
  obtain ⟨e0, e1, e2, e3⟩ := hI i hi
  simp only [List.getElem_map, List.getElem_range]
  rcases (show j = 0 ∨ j = 1 ∨ j = 2 ∨ j = 3 by omega) with rfl | rfl | rfl | rfl
  · rw [e0]; rfl
  · rw [e1]; rfl
  · rw [e2]; rfl
  · rw [e3]; rfl
theorem open_net {H : Type} {enc : TypeId × Value → H} {w : World} {held : Bool} {v : Value} {d : DataW H} {p : List MemPlace} {b r} (hval : Value.okWide Try.prog w r b 24 v)
    (h : DataW.Trod enc Try.prog w 0 (fun _ => true) held 24 v d p) (hsz : ∀ n ∈ d.weights Try.prog 24, n ≤ reachBytes) :
    ∃ (N S T : Int) (A : Option Addr) (k c : Nat) (l : List Ar), v = .agg #[.int .i64 N, .int .i64 S, .int .i64 T, .slice A k c] ∧ Rd w w.heap.size 4 A k (arv l) ∧ k * 32 ≤ 140737488351232 := by
  obtain ⟨cs, rfl, hs⟩ := okWide_struct Try.underlying24 hval
  obtain ⟨fuel, hf⟩ := h
  obtain ⟨y0, y1, y2, y3, n, hx, hl, h0, h1, h2, h3⟩ := Go.Joins.trod_struct4 Try.underlying24 hf
  have h4 : Try.prog.cellsOf 24 = 4 := by kernel_rfl
  rw [h4] at hs
  obtain ⟨c0, c1, c2, c3, rfl⟩ : ∃ c0 c1 c2 c3, cs = #[c0, c1, c2, c3] := by
    match cs, hs with
    | ⟨[c0, c1, c2, c3]⟩, _ => exact ⟨c0, c1, c2, c3, rfl⟩
  have k1 : Try.prog.cellsOf 3 = 1 := by kernel_rfl
  have k2 : Try.prog.cellsOf 22 = 1 := by kernel_rfl
  simp only [Value.cells, List.drop_zero, k1] at h0
  simp only [Value.cells, k1] at h1
  simp only [Value.cells, k1] at h2
  simp only [Value.cells, k2] at h3
  obtain ⟨a, e0, _, _⟩ := DataW.trod_int (P := Try.prog) Try.underlying3 h0
  obtain ⟨m, e1, _, _⟩ := DataW.trod_int (P := Try.prog) Try.underlying3 h1
  obtain ⟨m2, e2, _, _⟩ := DataW.trod_int (P := Try.prog) Try.underlying3 h2
  have g0 : c0 = .int .i64 a := by simpa using e0
  have g1 : c1 = .int .i64 m := by simpa using e1
  have g2 : c2 = .int .i64 m2 := by simpa using e2
  simp only [Prod.mk.injEq] at hx
  obtain ⟨rfl, _⟩ := hx
  have h3' : DataW.trod enc Try.prog w 0 (fun _ => true) held n 22 [c3] = some (y3.1, y3.2) := by simpa using h3
  obtain ⟨A, k, c, l, rfl, hr, hk⟩ := open_arcs h3' fun z hz => hsz z (by
    simp only [DataW.weights, Try.underlying24]
    exact DataW.weights_mem_each (j := 3) (t := 22) (d := y3.1) rfl rfl z hz)
  exact ⟨a, m, m2, A, k, c, l, by rw [g0, g1, g2], hr, hk⟩
theorem open_edges0 {H : Type} {enc : TypeId × Value → H} {w : World} {held : Bool} {v : Value} {d : DataW H} {p : List MemPlace} {fuel : Nat} (hf : DataW.trod enc Try.prog w 0 (fun _ => true) held fuel 34 [v] = some (d, p)) (hsz : ∀ n ∈ d.weights Try.prog 34, n ≤ reachBytes) :
    ∃ A n c, ∃ l : List Eg, v = .slice A n c ∧ Rd w w.heap.size 2 A n (edgv l) ∧ n * 16 ≤ 140737488351232 := by
  obtain ⟨A, n, c, V, rfl, hn, hc, hf⟩ := open_rowsC Try.underlying34 Try.underlying37 (by kernel_rfl) (by kernel_rfl) (by decide) hf hsz
  obtain ⟨I, hI⟩ := Deep.choose_lt (n := n) (p := fun i (x : Eg) => V i 0 = .int .i64 x.1 ∧ V i 1 = .int .i64 x.2) (fun i hi => by
    obtain ⟨y0, f0, t0, _⟩ := hf i 0 _ hi rfl
    obtain ⟨y1, f1, t1, _⟩ := hf i 1 _ hi rfl
    obtain ⟨a, ha, _⟩ := field_int Try.underlying3 t0
    obtain ⟨b, hb, _⟩ := field_int Try.underlying3 t1
    exact ⟨(a, b), ha, hb⟩)
  have hby : Try.prog.bytesOf 37 = 16 := by kernel_rfl
  rw [hby] at hn
  refine ⟨A, n, c, (List.range n).map I, rfl, rd_of_rows (by omega) (by rw [edgv_length]; simp) hc (fun i j hi hj => ?_), hn⟩
  have hl : i < ((List.range n).map I).length := by simpa using hi
  have hj2 : j < 2 := hj
  rw [show i * (2 : Nat) + j = 2 * i + j by omega, edgv_get _ i j hl hj2]
  obtain ⟨e0, e1⟩ := hI i hi
  simp only [List.getElem_map, List.getElem_range]
  rcases (show j = 0 ∨ j = 1 by omega) with rfl | rfl
  · rw [e0]; rfl
  · rw [e1]; rfl
theorem open_edges {H : Type} {enc : TypeId × Value → H} {w : World} {held : Bool} {v : Value} {d : DataW H} {p : List MemPlace} {b r} (hval : Value.okWide Try.prog w r b 34 v)
    (h : DataW.Trod enc Try.prog w 0 (fun _ => true) held 34 v d p) (hsz : ∀ n ∈ d.weights Try.prog 34, n ≤ reachBytes) : ∃ A n c, ∃ l : List Eg, v = .slice A n c ∧ Rd w w.heap.size 2 A n (edgv l) ∧ n * 16 ≤ 140737488351232 := by
  obtain ⟨a0, n, c, rfl⟩ := okWide_slice Try.underlying34 hval
  obtain ⟨fuel, hf⟩ := h
  exact open_edges0 hf hsz
end Go.Proofs.Ytmekcpbcgelliaa
