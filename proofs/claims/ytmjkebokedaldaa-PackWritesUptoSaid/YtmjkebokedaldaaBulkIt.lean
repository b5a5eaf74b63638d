/- The items of the laws of pack, opened, with the bound. -/
import Derived.Test.YtmjkebokedaldaaBulk
import Derived.Test.YtmjkebokedaldaaOpenIt
namespace Go.Proofs.Ytmjkebokedaldaa
open Go.RowKit Go.ChangeShapes Go.WideShapes Go.ChangeAt

theorem open_itemsB {H : Type} {enc : TypeId × Value → H} {w : World} {held : Bool} {v : Value} {d : DataW H} {p : List MemPlace} {b r} (hval : Value.okWide Try.prog w r b 48 v)
    (h : DataW.Trod enc Try.prog w 0 (fun _ => true) held 48 v d p) (hsz : ∀ n ∈ d.weights Try.prog 48, n ≤ reachBytes) :
    ∃ A n c, ∃ l : List Item, v = .slice A n c ∧ Rd w w.heap.size 3 A n (itemv l) ∧ n * 32 ≤ 140737488351232 ∧ (∀ i ∈ l, i.ok) ∧ (l.map fun i => i.s.size + 2).sum ≤ Rows.uptoBulk d := by
  obtain ⟨A, n, c, V, β, rfl, hn, hc, hβ, hf⟩ := open_rowsB Try.underlying48 Try.underlying50 (by kernel_rfl) (by kernel_rfl) (by decide) hval h hsz
  rw [show Try.prog.bytesOf 50 = 32 by kernel_rfl] at hn
  obtain ⟨I, hI⟩ := Deep.choose_lt (n := n) (p := fun i (x : Item) => x.ok ∧ V i 0 = .int .i64 x.k ∧ V i 1 = .int .u64 (x.n : Int) ∧ V i 2 = .string x.s ∧ x.s.size + 2 ≤ β i) (fun i hi => by
    obtain ⟨ys, hsum, hfi⟩ := hf i hi
    obtain ⟨y0, f0, _, t0, _⟩ := hfi 0 _ rfl
    obtain ⟨y1, f1, _, t1, _⟩ := hfi 1 _ rfl
    obtain ⟨y2, f2, m2, t2, z2⟩ := hfi 2 _ rfl
    obtain ⟨s, hs, hs1, hs2⟩ := field_strB Try.underlying9 t2 z2
    obtain ⟨x, hx, e0, e1, e2⟩ := mk_item (field_int Try.underlying3 t0) (field_int Try.underlying27 t1) ⟨s, hs, hs1⟩
    refine ⟨x, hx, e0, e1, e2, ?_⟩
    have h1 : x.s = s := by rw [e2] at hs; injection hs
    have h2 := le_sum (l := ys.map fun y => Rows.uptoBulk y.1) (List.mem_map.2 ⟨y2, m2, rfl⟩)
    rw [h1]
    omega)
  refine ⟨A, n, c, (List.range n).map I, rfl, rd_of_rows (by omega) (by rw [itemv_length]; simp) hc (fun i j hi hj => ?_), hn, fun x hx => ?_, ?_⟩
  · have hl : i < ((List.range n).map I).length := by simpa using hi
    rw [show i * 3 + j = 3 * i + j by omega, itemv_get _ i j hl hj]
    obtain ⟨_, e0, e1, e2, _⟩ := hI i hi
    simp only [List.getElem_map, List.getElem_range]
    rcases (show j = 0 ∨ j = 1 ∨ j = 2 by omega) with rfl | rfl | rfl
    · rw [e0]; rfl
    · rw [e1]; rfl
    · rw [e2]; rfl
  · obtain ⟨i, hi, rfl⟩ := List.mem_map.1 hx
    exact (hI i (List.mem_range.1 hi)).1
  · rw [List.map_map]
    refine Nat.le_trans (sum_le_map (g := β) fun i hi => ?_) hβ
    exact (hI i (List.mem_range.1 hi)).2.2.2.2
end Go.Proofs.Ytmjkebokedaldaa
