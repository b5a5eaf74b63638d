/- A list of parts, opened, with the bound. -/
import Derived.Test.YtaphfjomlignhaaDoorBulk
import Derived.Test.YtaphfjomlignhaaDoorOrKey
namespace Go.Proofs.YtaphfjomlignhaaDoor
open Go.RowKit Go.ChangeShapes Go.WideShapes Go.ChangeAt
instance : Inhabited Pt := ⟨⟨0, 0, ⟨#[]⟩⟩⟩
theorem mk_pt {V0 V1 V2 : Value} {m : Nat} (h0 : ∃ k, V0 = .int .i64 k ∧ (Lit.int .i64 k).wf = true) (h1 : ∃ k, V1 = .int .i64 k ∧ (Lit.int .i64 k).wf = true) (h2 : ∃ s : ByteArray, V2 = .string s ∧ s.size ≤ m) :
    ∃ x : Pt, (V0 = .int .i64 x.kind ∧ V1 = .int .i64 x.num ∧ V2 = .string x.text) ∧ (-9223372036854775808 ≤ x.num ∧ x.num ≤ 9223372036854775807) ∧ x.text.size ≤ m := by
  obtain ⟨k, rfl, hk⟩ := h0
  obtain ⟨k1, rfl, hk1⟩ := h1
  obtain ⟨s, rfl, hs⟩ := h2
  exact ⟨⟨k, k1, s⟩, ⟨rfl, rfl, rfl⟩, by have := hk1; simp [Lit.wf] at this; exact this, hs⟩
theorem pt_of_mem {α : Type} {l : List α} {f : α → Pt} {P : Pt → Prop} (h : ∀ i ∈ l, P (f i)) : ∀ x ∈ l.map f, P x := by
  intro x hx
  obtain ⟨i, hi, rfl⟩ := List.mem_map.1 hx
  exact h i hi
theorem partK_len (x : Pt) : (partK x).length ≤ 9 + 2 * x.text.size := by
  have h := esc_len x.text.data.toList
  have h2 : x.text.data.toList.length = x.text.size := by simp
  unfold partK
  split
  · simp [numK, be8_len]
  · simp [textK]; omega
theorem bytesK_len (l : List Pt) : (bytesK l).length ≤ (l.map fun x => 9 + 2 * x.text.size).sum := by
  induction l with
  | nil => simp [bytesK]
  | cons x l ih =>
    have h := partK_len x
    have e : bytesK (x :: l) = partK x ++ bytesK l := by simp [bytesK]
    rw [e, List.length_append, List.map_cons, List.sum_cons]; omega
theorem open_ptsB {H : Type} {enc : TypeId × Value → H} {w : World} {held : Bool} {v : Value} {d : DataW H} {p : List MemPlace} {b r} (hval : Value.okWide Tryd.prog w r b 27 v)
    (h : DataW.Trod enc Tryd.prog w 0 (fun _ => true) held 27 v d p) (hsz : ∀ n ∈ d.weights Tryd.prog 27, n ≤ reachBytes) :
    ∃ A n c, ∃ l : List Pt, v = .slice A n c ∧ Rd w w.heap.size 3 A n (ptv l) ∧ n ≤ Rows.uptoBulk d ∧ (∀ x ∈ l, (-9223372036854775808 ≤ x.num ∧ x.num ≤ 9223372036854775807) ∧ x.text.size ≤ Rows.uptoBulk d) ∧
      (bytesK l).length ≤ 9 * Rows.uptoBulk d := by
  obtain ⟨A, n, c, V, β, rfl, hn, hc, hβ, hf⟩ := open_rowsB Tryd.underlying27 Tryd.underlying31 (by kernel_rfl) (by kernel_rfl) (by decide) hval h hsz
  obtain ⟨I, hI⟩ := Deep.choose_lt (n := n) (p := fun i (x : Pt) => (V i 0 = .int .i64 x.kind ∧ V i 1 = .int .i64 x.num ∧ V i 2 = .string x.text) ∧ (-9223372036854775808 ≤ x.num ∧ x.num ≤ 9223372036854775807) ∧ x.text.size + 2 ≤ β i) (fun i hi => by
    obtain ⟨ys, hsum, hfi⟩ := hf i hi
    obtain ⟨y0, f0, m0, t0, z0⟩ := hfi 0 _ rfl
    obtain ⟨y1, f1, _, t1, _⟩ := hfi 1 _ rfl
    obtain ⟨y2, f2, m2, t2, z2⟩ := hfi 2 _ rfl
    obtain ⟨t, ht, _, ht2⟩ := field_strB Tryd.underlying9 t2 z2
    have h2 := le_sum (l := ys.map fun y => Rows.uptoBulk y.1) (List.mem_map.2 ⟨y2, m2, rfl⟩)
    obtain ⟨x, hx, hq, hk⟩ := mk_pt (m := β i - 2) (field_int Tryd.underlying3 t0) (field_int Tryd.underlying3 t1) ⟨t, ht, by omega⟩
    exact ⟨x, hx, hq, by omega⟩)
  have hb1 : ∀ i, i < n → β i ≤ Rows.uptoBulk d := fun i hi => Nat.le_trans (le_sum (List.mem_map.2 ⟨i, List.mem_range.2 hi, rfl⟩)) hβ
  have hn1 : n ≤ Rows.uptoBulk d := by
    have h1 : ((List.range n).map fun _ => 1).sum ≤ ((List.range n).map β).sum := sum_le_map fun i hi => by
      have := (hI i (List.mem_range.1 hi)).2.2
      omega
    have h2 : ((List.range n).map fun _ => 1).sum = n := by rw [List.map_const', List.sum_replicate_nat, List.length_range, Nat.mul_one]
    omega
  refine ⟨A, n, c, (List.range n).map I, rfl, rd_of_rows (by omega) (by rw [ptv_length]; simp) hc (fun i j hi hj => ?_), hn1, pt_of_mem fun i hi => ?_, ?_⟩
  · have hl : i < ((List.range n).map I).length := by simpa using hi
    rw [show i * 3 + j = 3 * i + j by omega, ptv_get _ i j hl hj]
    obtain ⟨⟨e0, e1, e2⟩, _⟩ := hI i hi
    simp only [List.getElem_map, List.getElem_range]
    rcases (show j = 0 ∨ j = 1 ∨ j = 2 by omega) with rfl | rfl | rfl
    · rw [e0]; rfl
    · rw [e1]; rfl
    · rw [e2]; rfl
  · obtain ⟨_, hq, hk⟩ := hI i (List.mem_range.1 hi)
    have := hb1 i (List.mem_range.1 hi)
    exact ⟨hq, by omega⟩
  · refine Nat.le_trans (bytesK_len _) ?_
    rw [List.map_map]
    have h1 : ((List.range n).map ((fun x : Pt => 9 + 2 * x.text.size) ∘ I)).sum ≤ ((List.range n).map fun i => 9 * β i).sum := sum_le_map fun i hi => by
      have hk := (hI i (List.mem_range.1 hi)).2.2
      simp only [Function.comp]
      omega
    have h2 : ∀ k : Nat, ((List.range k).map fun i => 9 * β i).sum = 9 * ((List.range k).map β).sum := by
      intro k
      induction k with
      | zero => simp
      | succ k ih => rw [List.range_succ, List.map_append, List.map_append, List.sum_append, List.sum_append, ih]; simp; omega
    rw [h2] at h1
    omega
end Go.Proofs.YtaphfjomlignhaaDoor
