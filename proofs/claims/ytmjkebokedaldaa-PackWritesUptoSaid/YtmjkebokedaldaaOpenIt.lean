/- The items of the laws of pack, opened. -/
import Derived.Test.YtmjkebokedaldaaOpenRows
import Derived.Test.YtmjkebokedaldaaPkItems
namespace Go.Proofs.Ytmjkebokedaldaa
open Go.RowKit Go.ChangeShapes Go.WideShapes Go.ChangeAt

theorem mk_item {V0 V1 V2 : Value} (h0 : ∃ k : Int, V0 = .int .i64 k ∧ (Lit.int .i64 k).wf = true) (h1 : ∃ n : Int, V1 = .int .u64 n ∧ (Lit.int .u64 n).wf = true) (h2 : ∃ s : ByteArray, V2 = .string s ∧ s.size ≤ 140737488351232) :
    ∃ i : Item, i.ok ∧ V0 = .int .i64 i.k ∧ V1 = .int .u64 (i.n : Int) ∧ V2 = .string i.s := by
  obtain ⟨k, rfl, wk⟩ := h0
  obtain ⟨n, rfl, wn⟩ := h1
  obtain ⟨s, rfl, hs⟩ := h2
  have bk := bounds_i64 wk
  have bn := bounds_u64 wn
  exact ⟨⟨k, n.toNat, s⟩, ⟨bk.1, bk.2, by simp only; omega, hs⟩, rfl, by rw [Int.toNat_of_nonneg (by omega)], rfl⟩
instance : Inhabited Item := ⟨⟨0, 0, ByteArray.empty⟩⟩
theorem open_items {H : Type} {enc : TypeId × Value → H} {w : World} {held : Bool} {v : Value} {d : DataW H} {p : List MemPlace} {b r} (hval : Value.okWide Try.prog w r b 48 v)
    (h : DataW.Trod enc Try.prog w 0 (fun _ => true) held 48 v d p) (hsz : ∀ n ∈ d.weights Try.prog 48, n ≤ reachBytes) :
    ∃ A n c, ∃ l : List Item, v = .slice A n c ∧ Rd w w.heap.size 3 A n (itemv l) ∧ n * 32 ≤ 140737488351232 ∧ ∀ i ∈ l, i.ok := by
  obtain ⟨A, n, c, V, rfl, hn, hc, hf⟩ := open_rows Try.underlying48 Try.underlying50 (by kernel_rfl) (by kernel_rfl) (by decide) hval h hsz
  rw [show Try.prog.bytesOf 50 = 32 by kernel_rfl] at hn
  obtain ⟨I, hI⟩ := Deep.choose_lt (n := n) (p := fun i (x : Item) => x.ok ∧ V i 0 = .int .i64 x.k ∧ V i 1 = .int .u64 (x.n : Int) ∧ V i 2 = .string x.s) (fun i hi => by
    obtain ⟨y0, f0, t0, _⟩ := hf i 0 _ hi rfl
    obtain ⟨y1, f1, t1, _⟩ := hf i 1 _ hi rfl
    obtain ⟨y2, f2, t2, z2⟩ := hf i 2 _ hi rfl
    exact mk_item (field_int Try.underlying3 t0) (field_int Try.underlying27 t1) (field_str Try.underlying9 t2 z2))
  refine ⟨A, n, c, (List.range n).map I, rfl, rd_of_rows (by omega) (by rw [itemv_length]; simp) hc (fun i j hi hj => ?_), hn, fun x hx => ?_⟩
  · have hl : i < ((List.range n).map I).length := by simpa using hi
    rw [show i * 3 + j = 3 * i + j by omega, itemv_get _ i j hl hj]
    obtain ⟨_, e0, e1, e2⟩ := hI i hi
    simp only [List.getElem_map, List.getElem_range]
    rcases (show j = 0 ∨ j = 1 ∨ j = 2 by omega) with rfl | rfl | rfl
    · rw [e0]; rfl
    · rw [e1]; rfl
    · rw [e2]; rfl
  · obtain ⟨i, hi, rfl⟩ := List.mem_map.1 hx
    exact (hI i (List.mem_range.1 hi)).1
end Go.Proofs.Ytmjkebokedaldaa
