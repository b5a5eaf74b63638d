/- A list of versions, opened, with the bound. -/
import Derived.Test.YtcfgmkiohmbdlaaBulk
import Derived.Test.YtcfgmkiohmbdlaaEnt
namespace Go.Proofs.Ytcfgmkiohmbdlaa
open Go.RowKit Go.ChangeShapes Go.WideShapes Go.ChangeAt
instance : Inhabited Ent := ⟨⟨⟨#[]⟩, 0, false, ⟨#[]⟩⟩⟩
theorem mk_ent {V0 V1 V2 V3 : Value} {m : Nat} (h0 : ∃ s : ByteArray, V0 = .string s ∧ s.size ≤ m) (h1 : ∃ k, V1 = .int .i64 k ∧ (Lit.int .i64 k).wf = true) (h2 : ∃ b, V2 = .bool b) (h3 : ∃ s : ByteArray, V3 = .string s ∧ s.size ≤ m) :
    ∃ x : Ent, (V0 = .string x.key ∧ V1 = .int .i64 x.seq ∧ V2 = .bool x.dead ∧ V3 = .string x.val) ∧ (-9223372036854775808 ≤ x.seq ∧ x.seq ≤ 9223372036854775807) ∧ x.key.size ≤ m ∧ x.val.size ≤ m := by
  obtain ⟨s, rfl, hs⟩ := h0
  obtain ⟨k, rfl, hk⟩ := h1
  obtain ⟨b, rfl⟩ := h2
  obtain ⟨t, rfl, ht⟩ := h3
  exact ⟨⟨s, k, b, t⟩, ⟨rfl, rfl, rfl, rfl⟩, by have := hk; simp [Lit.wf] at this; exact this, hs, ht⟩
theorem ent_ok_of_mem {α : Type} {l : List α} {f : α → Ent} {P : Ent → Prop} (h : ∀ i ∈ l, P (f i)) : ∀ x ∈ l.map f, P x := by
  intro x hx
  obtain ⟨i, hi, rfl⟩ := List.mem_map.1 hx
  exact h i hi
set_option maxRecDepth 20000 in
theorem open_entsB {H : Type} {enc : TypeId × Value → H} {w : World} {held : Bool} {v : Value} {d : DataW H} {p : List MemPlace} {b r} (hval : Value.okWide Try.prog w r b 22 v)
    (h : DataW.Trod enc Try.prog w 0 (fun _ => true) held 22 v d p) (hsz : ∀ n ∈ d.weights Try.prog 22, n ≤ reachBytes) :
    ∃ A n c, ∃ l : List Ent, v = .slice A n c ∧ Rd w w.heap.size 4 A n (entv l) ∧ n ≤ Rows.uptoBulk d ∧ (∀ x ∈ l, (-9223372036854775808 ≤ x.seq ∧ x.seq ≤ 9223372036854775807) ∧ x.key.size ≤ Rows.uptoBulk d ∧ x.val.size ≤ Rows.uptoBulk d) ∧
      (l.map fun x => x.key.size + x.val.size + 2).sum ≤ 2 * Rows.uptoBulk d := by
  obtain ⟨A, n, c, V, β, rfl, hn, hc, hβ, hf⟩ := open_rowsB Try.underlying22 Try.underlying26 (by kernel_rfl) (by kernel_rfl) (by decide) hval h hsz
  obtain ⟨I, hI⟩ := Deep.choose_lt (n := n) (p := fun i (x : Ent) => (V i 0 = .string x.key ∧ V i 1 = .int .i64 x.seq ∧ V i 2 = .bool x.dead ∧ V i 3 = .string x.val) ∧ (-9223372036854775808 ≤ x.seq ∧ x.seq ≤ 9223372036854775807) ∧ x.key.size + 2 ≤ β i ∧ x.val.size + 2 ≤ β i) (fun i hi => by
    obtain ⟨ys, hsum, hfi⟩ := hf i hi
    obtain ⟨y0, f0, m0, t0, z0⟩ := hfi 0 _ rfl
    obtain ⟨y1, f1, _, t1, _⟩ := hfi 1 _ rfl
    obtain ⟨y2, f2, _, t2, _⟩ := hfi 2 _ rfl
    obtain ⟨y3, f3, m3, t3, z3⟩ := hfi 3 _ rfl
    obtain ⟨s, hs, _, hs2⟩ := field_strB Try.underlying9 t0 z0
    obtain ⟨t, ht, _, ht2⟩ := field_strB Try.underlying9 t3 z3
    have h0 := le_sum (l := ys.map fun y => Rows.uptoBulk y.1) (List.mem_map.2 ⟨y0, m0, rfl⟩)
    have h3 := le_sum (l := ys.map fun y => Rows.uptoBulk y.1) (List.mem_map.2 ⟨y3, m3, rfl⟩)
    obtain ⟨x, hx, hq, hk, hv⟩ := mk_ent (m := β i - 2) ⟨s, hs, by omega⟩ (field_int Try.underlying3 t1) (field_bool Try.underlying4 t2) ⟨t, ht, by omega⟩
    exact ⟨x, hx, hq, by omega, by omega⟩)
  have hb1 : ∀ i, i < n → β i ≤ Rows.uptoBulk d := fun i hi => Nat.le_trans (le_sum (List.mem_map.2 ⟨i, List.mem_range.2 hi, rfl⟩)) hβ
  have hn1 : n ≤ Rows.uptoBulk d := by
    have h1 : ((List.range n).map fun _ => 1).sum ≤ ((List.range n).map β).sum := sum_le_map fun i hi => by
      have := (hI i (List.mem_range.1 hi)).2.2.1
      omega
    have h2 : ((List.range n).map fun _ => 1).sum = n := by rw [List.map_const', List.sum_replicate_nat, List.length_range, Nat.mul_one]
    omega
  refine ⟨A, n, c, (List.range n).map I, rfl, rd_of_rows (by omega) (by rw [entv_length]; simp) hc (fun i j hi hj => ?_), hn1, ent_ok_of_mem fun i hi => ?_, ?_⟩
  · have hl : i < ((List.range n).map I).length := by simpa using hi
    rw [show i * 4 + j = 4 * i + j by omega, entv_get _ i j hl hj]
    obtain ⟨⟨e0, e1, e2, e3⟩, _⟩ := hI i hi
    simp only [List.getElem_map, List.getElem_range]
    rcases (show j = 0 ∨ j = 1 ∨ j = 2 ∨ j = 3 by omega) with rfl | rfl | rfl | rfl
    · rw [e0]; rfl
    · rw [e1]; rfl
    · rw [e2]; rfl
    · rw [e3]; rfl
  · obtain ⟨_, hq, hk, hv⟩ := hI i (List.mem_range.1 hi)
    have := hb1 i (List.mem_range.1 hi)
    exact ⟨hq, by omega, by omega⟩
  · rw [List.map_map]
    have h1 : ((List.range n).map ((fun x : Ent => x.key.size + x.val.size + 2) ∘ I)).sum ≤ ((List.range n).map fun i => 2 * β i).sum := sum_le_map fun i hi => by
      obtain ⟨_, _, hk, hv⟩ := hI i (List.mem_range.1 hi)
      simp only [Function.comp]
      omega
    have h2 : ∀ k : Nat, ((List.range k).map fun i => 2 * β i).sum = 2 * ((List.range k).map β).sum := by
      intro k
      induction k with
      | zero => simp
      | succ k ih => rw [List.range_succ, List.map_append, List.map_append, List.sum_append, List.sum_append, ih]; simp; omega
    rw [h2] at h1
    omega
end Go.Proofs.Ytcfgmkiohmbdlaa
