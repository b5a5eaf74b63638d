/- slices.Delete, Clone, Index at []Rider and []int, walked (printed by wip/tools/gen_del.py). -/
import Derived.Test.YtppjpledjhinbaaDoorJGtClear
import Derived.Lib.SliceRun
import Derived.Deep.RegionLaw
namespace Go.Proofs.YtppjpledjhinbaaDoor
open Go.RowKit Go.Lib
theorem setCells_row {g : Nat} (T : TypeId) : ∀ (vs : List Value) (o : Nat) (W : World) (cur : Array Value), W.heap[g]? = some (.cells cur T (0, 0)) →
    ∃ cur', (W.setCells g o vs).heap[g]? = some (.cells cur' T (0, 0)) ∧ (∀ i, i < o → cur'[i]? = cur[i]?) ∧ (∀ i, i < vs.length → o + i < cur.size → cur'[o + i]? = vs[i]?) ∧ Upd (fun k => k = g) W (W.setCells g o vs) ∧ cur'.size = cur.size := by
  intro vs
  induction vs with
  | nil => intro o W cur h; exact ⟨cur, h, fun _ _ => rfl, fun i hi => by simp at hi, Upd.refl _ _, rfl⟩
  | cons v vs ih =>
    intro o W cur h
    have h1 := heap_setCell_same W g o _ _ v h
    obtain ⟨cur', h2, h3, h6, h4, h5⟩ := ih (o + 1) _ _ h1
    refine ⟨cur', h2, fun i hi => ?_, fun i hi hs => ?_, ((Upd.refl (fun k => k = g) W).setCell ⟨g, o, none⟩ rfl v).trans h4 (fun _ _ h => h), by rw [h5]; simp⟩
    · rw [h3 i (by omega), Array.getElem?_setIfInBounds_ne (by omega)]
    · cases i with
      | zero => rw [Nat.add_zero, h3 o (by omega), Array.getElem?_setIfInBounds_self_of_lt (by omega)]; rfl
      | succ i =>
        rw [show o + (i + 1) = o + 1 + i by omega, h6 i (by simpa using hi) (by simp; omega)]
        rfl
/-- An owned row's cells, one by one. -/
theorem own_look {W : World} {base size n c g : Nat} {e : TypeId} {xs : List Value} (h : W.ownsRow base e size (.slice (some ⟨g, 0, none⟩) n c) n xs) (hn : 0 < n) : ∃ cur, W.heap[g]? = some (.cells cur e (0, 0)) ∧ base ≤ g ∧ n ≤ c ∧ c ≤ maxLen ∧ cur.size = c * size ∧ cur.toList.take (n * size) = xs := by
  rcases h.2 with ⟨h1, _⟩ | ⟨g', cap, cur, h1, h2, h3, h4, h5, h6, h7⟩
  · cases h1
  · injection h1 with h1 _ h8
    injection h1 with h1
    injection h1 with h1
    subst h1 h8
    exact ⟨cur, h3, h2, h4, h5, h6, h7⟩
/-- One element struck out: cells moved to the left, then zeros behind. -/
theorem own_strike {W : World} {base size n c g i : Nat} {e : TypeId} {xs z : List Value} (h : W.ownsRow base e size (.slice (some ⟨g, 0, none⟩) n c) n xs) (hi : i < n) :
    ((W.drew.setCells g (i * size) (xs.drop ((i + 1) * size))).setCells g ((n - 1) * size) z).ownsRow base e size (.slice (some ⟨g, 0, none⟩) (n - 1) c) (n - 1) (xs.take (i * size) ++ xs.drop ((i + 1) * size)) ∧
    Upd (fun k => k = g) W ((W.drew.setCells g (i * size) (xs.drop ((i + 1) * size))).setCells g ((n - 1) * size) z) := by
  obtain ⟨cur, h1, h2, h3, h4, h5, h6⟩ := own_look h (by omega)
  have hxl := h.1
  obtain ⟨c1, a1, a2, a3, a4, a5⟩ := setCells_row (g := g) e (xs.drop ((i + 1) * size)) (i * size) W.drew cur h1
  obtain ⟨c2, b1, b2, _, b4, b5⟩ := setCells_row (g := g) e z ((n - 1) * size) _ c1 a1
  have e1 : n * size = (n - 1) * size + size := by rw [← Nat.succ_mul]; congr 1; omega
  have e2 : (i + 1) * size = i * size + size := Nat.succ_mul i size
  have e3 : i * size ≤ (n - 1) * size := Nat.mul_le_mul_right _ (by omega)
  have e4 : (n - 1) * size ≤ c * size := Nat.mul_le_mul_right _ (by omega)
  have hlen : (xs.take (i * size) ++ xs.drop ((i + 1) * size)).length = (n - 1) * size := by rw [List.length_append, List.length_take, List.length_drop, hxl]; omega
  have e5 : n * size ≤ c * size := Nat.mul_le_mul_right _ h3
  refine ⟨⟨hlen, .inr ⟨g, c, c2, rfl, h2, b1, by omega, h4, by rw [b5, a5, h5], ?_⟩⟩, ((Upd.refl (fun k => k = g) W).drewN 1).trans (a4.trans b4 (fun _ _ h => h)) (fun _ _ h => h)⟩
  apply List.ext_getElem?
  intro j
  by_cases hj : j < (n - 1) * size
  · rw [List.getElem?_take_of_lt hj, Array.getElem?_toList, b2 j hj]
    by_cases hji : j < i * size
    · rw [a2 j hji, List.getElem?_append_left (by rw [List.length_take, hxl]; omega), List.getElem?_take_of_lt hji, ← h6, List.getElem?_take_of_lt (by omega), Array.getElem?_toList]
    · obtain ⟨d, rfl⟩ : ∃ d, j = i * size + d := ⟨j - i * size, by omega⟩
      rw [a3 d (by rw [List.length_drop, hxl]; omega) (by rw [h5]; omega), List.getElem?_append_right (by rw [List.length_take, hxl]; omega), List.length_take, hxl, Nat.min_eq_left (by omega), show i * size + d - i * size = d by omega]
  · rw [List.getElem?_eq_none (by rw [List.length_take]; omega), List.getElem?_eq_none (by rw [hlen]; omega)]
theorem run_clear_rdr {W : World} {g o m c : Nat} (hm : m = 1) (h : ∀ j, j < 5 → (W.cell? ⟨g, o + j, none⟩).isSome = true ∧ W.frozen? ⟨g, o + j, none⟩ = false) : ∃ vs, ∀ ty, (Builtin.clear_ #[23] ty #[.slice (some ⟨g, o, none⟩) m c]).run Tryd.prog W = .ok (.tuple #[]) (W.setCells g o vs) := by
  subst hm
  have hst := run_storeCells_cells (P := Tryd.prog) g o [.int .i64 0, .bool false, .bool false, .int .i64 0, .int .u8 0] 0 W (fun j hj => (h j hj).1) (fun j hj => (h j hj).2) (by decide)
  simp only [Nat.add_zero] at hst
  have hz : (Builtin.zeroCells (Value.agg #[.int .i64 0, .bool false, .bool false, .int .i64 0, .int .u8 0]).cells 1).toList = [.int .i64 0, .bool false, .bool false, .int .i64 0, .int .u8 0] := by first | kernel_rfl | decide | (simp [Builtin.zeroCells, Value.cells]; decide)
  refine ⟨[.int .i64 0, .bool false, .bool false, .int .i64 0, .int .u8 0], fun ty => ?_⟩
  simp [Builtin.clear_, run_underlying Tryd.underlying23, Tryd.zeroValue30, hz, hst]
set_option maxHeartbeats 8000000 in
set_option maxRecDepth 20000 in
/-- slices.Delete(s, i, i+1). -/
theorem del_rdr (w : World) (base g n c i : Nat) (xs : List Value) (ho : w.ownsRow base 30 5 (.slice (some ⟨g, 0, none⟩) n c) n xs) (hi : i < n) (h1 : ∀ u ∈ xs, u.oneCell' = true) (hn : n ≤ 1000000) :
    Calls Tryd.prog 61 #[.slice (some ⟨g, 0, none⟩) n c, .int .i64 i, .int .i64 ((i : Int) + 1)] w fun e w' => e = .returned (.slice (some ⟨g, 0, none⟩) (n - 1) c) ∧ w'.ownsRow base 30 5 (.slice (some ⟨g, 0, none⟩) (n - 1) c) (n - 1) (xs.take (i * 5) ++ xs.drop ((i + 1) * 5)) ∧ Upd (fun k => k = g) w w' := by
  obtain ⟨i0, hi0, hz0, hz1, hz2⟩ := info_parts rdr_info
  obtain ⟨cur, hg, hlo, hnc, hcm, hcs, hxs⟩ := own_look ho (by omega)
  obtain ⟨news, hnews⟩ : ∃ news, xs.drop ((i + 1) * 5) = news := ⟨_, rfl⟩
  have hlen : news.length = (n - (i + 1)) * 5 := by rw [← hnews, List.length_drop, ho.1]; omega
  have hcur : ∀ j, j < n * 5 → cur[j]? = xs[j]? := fun j hj => by rw [← hxs, List.getElem?_take_of_lt hj, Array.getElem?_toList]
  obtain ⟨A, hA, hsrc⟩ : ∃ A : Addr, (if c = i + 1 then some (⟨g, 0, none⟩ : Addr) else some ⟨g, (i + 1) * 5, none⟩) = some A ∧ Hid (∀ t u, news[t]? = some u → w.drew.cell? (A.add t) = some u) := by
    by_cases h : c = i + 1
    · refine ⟨⟨g, 0, none⟩, by simp [h], fun t u hu => ?_⟩
      have := (List.getElem?_eq_some_iff.1 hu).1
      omega
    · refine ⟨⟨g, (i + 1) * 5, none⟩, by simp [h], fun t u hu => ?_⟩
      have ht := (List.getElem?_eq_some_iff.1 hu).1
      rw [Addr.add_lit]
      show w.cell? _ = _
      rw [cell_of_row _ _ _ _ _ _ hg, hcur _ (by omega), ← hu, ← hnews, List.getElem?_drop]
  have s1 : Hid (news.length = (n - (i + 1)) * 5) := Lib.hid hlen
  have s2 : Hid (∀ u ∈ news, u.oneCell' = true) := Lib.hid (fun u hu => h1 u (by rw [← hnews] at hu; exact List.mem_of_mem_drop hu))
  have s3 : Hid (∀ t, t < news.length → (w.drew.cell? ⟨g, 0 + i * 5 + t, none⟩).isSome = true ∧ w.drew.frozen? ⟨g, 0 + i * 5 + t, none⟩ = false) := Lib.hid (fun t ht => by
    refine ⟨?_, frozen_of_row _ _ _ _ _ hg⟩
    show (w.cell? _).isSome = true
    rw [cell_of_row _ _ _ _ _ _ hg, Array.getElem?_eq_getElem (by omega)]
    rfl)
  obtain ⟨W1, hW1⟩ : ∃ W1, w.drew.setCells g (0 + i * 5) news = W1 := ⟨_, rfl⟩
  have hcl := run_clear_rdr (W := W1) (g := g) (o := (n - 1) * 5) (m := n - (n - 1)) (c := c - (n - 1)) (by omega) (fun j hj => by
    obtain ⟨cur', q1, _, _, _, q5⟩ := setCells_row (g := g) 30 news (0 + i * 5) w.drew cur hg
    rw [hW1] at q1
    refine ⟨?_, frozen_of_row _ _ _ _ _ q1⟩
    rw [cell_of_row _ _ _ _ _ _ q1, Array.getElem?_eq_getElem (by omega)]
    rfl)
  obtain ⟨vs, hcl⟩ := hcl
  have HRES : Hid ((W1.setCells g ((n - 1) * 5) vs).ownsRow base 30 5 (.slice (some ⟨g, 0, none⟩) (n - 1) c) (n - 1) (xs.take (i * 5) ++ xs.drop ((i + 1) * 5)) ∧ Upd (fun k => k = g) w (W1.setCells g ((n - 1) * 5) vs)) := Lib.hid (by
    have := own_strike (z := vs) ho hi
    rw [hnews, show i * 5 = 0 + i * 5 by omega, hW1] at this
    rw [hnews, show i * 5 = 0 + i * 5 by omega]
    exact this)
  have hW : Hid (w.drew.setCells g (0 + i * 5) news = W1) := hW1
  have k1 : (i : Int) + 1 = ((i + 1 : Nat) : Int) := by omega
  rw [k1]
  have hij : ¬ ((i : Int) = ((i + 1 : Nat) : Int)) := by omega
  have hic : i ≤ c := by omega
  have hjc : i + 1 ≤ c := by omega
  have hjn : (i : Int) + 1 ≤ (n : Int) := by omega
  have hj0 : (0 : Int) ≤ (i : Int) + 1 := by omega
  have hsum : i + (n - (i + 1)) = n - 1 := by omega
  have HSUM := Lib.hid hsum
  clear hW1 ho hg hcur hnews hlen hxs hcs h1 hlo k1 hsum
  go_enter Tryd.func61, Tryd.ntmps61
  go_wp2_with fail
  go_region_law (refine step_append_room rfl (.tmp 22) (.tmp 25) 23 rfl 30 i0 5 Tryd.underlying23 hi0 hz1 g 0 i c (by simp [Act.eval, Act.put]) A (n - (i + 1)) (c - (i + 1)) news (by simp [Act.eval, Act.put]) s1.out hsrc.out s2.out (by omega) s3.out ?_; rw [hW.out, HSUM.out])
  go_wp2
  go_ret
  exact ⟨rfl, HRES.out.1, HRES.out.2⟩
theorem run_clear_int {W : World} {g o m c : Nat} (hm : m = 1) (h : ∀ j, j < 1 → (W.cell? ⟨g, o + j, none⟩).isSome = true ∧ W.frozen? ⟨g, o + j, none⟩ = false) : ∃ vs, ∀ ty, (Builtin.clear_ #[61] ty #[.slice (some ⟨g, o, none⟩) m c]).run Tryd.prog W = .ok (.tuple #[]) (W.setCells g o vs) := by
  subst hm
  have hst := run_storeCells_cells (P := Tryd.prog) g o [.int .i64 0] 0 W (fun j hj => (h j hj).1) (fun j hj => (h j hj).2) (by decide)
  simp only [Nat.add_zero] at hst
  have hz : (Builtin.zeroCells (Value.int .i64 0).cells 1).toList = [.int .i64 0] := by first | kernel_rfl | decide | (simp [Builtin.zeroCells, Value.cells]; decide)
  refine ⟨[.int .i64 0], fun ty => ?_⟩
  simp [Builtin.clear_, run_underlying Tryd.underlying61, Tryd.zeroValue3, hz, hst]
set_option maxHeartbeats 8000000 in
set_option maxRecDepth 20000 in
/-- slices.Delete(s, i, i+1). -/
theorem del_int (w : World) (base g n c i : Nat) (xs : List Value) (ho : w.ownsRow base 3 1 (.slice (some ⟨g, 0, none⟩) n c) n xs) (hi : i < n) (h1 : ∀ u ∈ xs, u.oneCell' = true) (hn : n ≤ 1000000) :
    Calls Tryd.prog 63 #[.slice (some ⟨g, 0, none⟩) n c, .int .i64 i, .int .i64 ((i : Int) + 1)] w fun e w' => e = .returned (.slice (some ⟨g, 0, none⟩) (n - 1) c) ∧ w'.ownsRow base 3 1 (.slice (some ⟨g, 0, none⟩) (n - 1) c) (n - 1) (xs.take (i * 1) ++ xs.drop ((i + 1) * 1)) ∧ Upd (fun k => k = g) w w' := by
  obtain ⟨i0, hi0, hz0, hz1, hz2⟩ := info_parts int_infoG
  obtain ⟨cur, hg, hlo, hnc, hcm, hcs, hxs⟩ := own_look ho (by omega)
  obtain ⟨news, hnews⟩ : ∃ news, xs.drop ((i + 1) * 1) = news := ⟨_, rfl⟩
  have hlen : news.length = (n - (i + 1)) * 1 := by rw [← hnews, List.length_drop, ho.1]; omega
  have hcur : ∀ j, j < n * 1 → cur[j]? = xs[j]? := fun j hj => by rw [← hxs, List.getElem?_take_of_lt hj, Array.getElem?_toList]
  obtain ⟨A, hA, hsrc⟩ : ∃ A : Addr, (if c = i + 1 then some (⟨g, 0, none⟩ : Addr) else some ⟨g, i + 1, none⟩) = some A ∧ Hid (∀ t u, news[t]? = some u → w.drew.cell? (A.add t) = some u) := by
    by_cases h : c = i + 1
    · refine ⟨⟨g, 0, none⟩, by simp [h], fun t u hu => ?_⟩
      have := (List.getElem?_eq_some_iff.1 hu).1
      omega
    · refine ⟨⟨g, i + 1, none⟩, by simp [h], fun t u hu => ?_⟩
      have ht := (List.getElem?_eq_some_iff.1 hu).1
      rw [Addr.add_lit]
      show w.cell? _ = _
      rw [cell_of_row _ _ _ _ _ _ hg, hcur _ (by omega), ← hu, ← hnews, List.getElem?_drop]
      rw [Nat.mul_one]
  have s1 : Hid (news.length = (n - (i + 1)) * 1) := Lib.hid hlen
  have s2 : Hid (∀ u ∈ news, u.oneCell' = true) := Lib.hid (fun u hu => h1 u (by rw [← hnews] at hu; exact List.mem_of_mem_drop hu))
  have s3 : Hid (∀ t, t < news.length → (w.drew.cell? ⟨g, 0 + i * 1 + t, none⟩).isSome = true ∧ w.drew.frozen? ⟨g, 0 + i * 1 + t, none⟩ = false) := Lib.hid (fun t ht => by
    refine ⟨?_, frozen_of_row _ _ _ _ _ hg⟩
    show (w.cell? _).isSome = true
    rw [cell_of_row _ _ _ _ _ _ hg, Array.getElem?_eq_getElem (by omega)]
    rfl)
  obtain ⟨W1, hW1⟩ : ∃ W1, w.drew.setCells g (0 + i * 1) news = W1 := ⟨_, rfl⟩
  have hcl := run_clear_int (W := W1) (g := g) (o := n - 1) (m := n - (n - 1)) (c := c - (n - 1)) (by omega) (fun j hj => by
    obtain ⟨cur', q1, _, _, _, q5⟩ := setCells_row (g := g) 3 news (0 + i * 1) w.drew cur hg
    rw [hW1] at q1
    refine ⟨?_, frozen_of_row _ _ _ _ _ q1⟩
    rw [cell_of_row _ _ _ _ _ _ q1, Array.getElem?_eq_getElem (by omega)]
    rfl)
  obtain ⟨vs, hcl⟩ := hcl
  have HRES : Hid ((W1.setCells g (n - 1) vs).ownsRow base 3 1 (.slice (some ⟨g, 0, none⟩) (n - 1) c) (n - 1) (xs.take (i * 1) ++ xs.drop ((i + 1) * 1)) ∧ Upd (fun k => k = g) w (W1.setCells g (n - 1) vs)) := Lib.hid (by
    have := own_strike (z := vs) ho hi
    rw [show (n - 1) * 1 = n - 1 by omega] at this
    rw [hnews, show i * 1 = 0 + i * 1 by omega, hW1] at this
    rw [hnews, show i * 1 = 0 + i * 1 by omega]
    exact this)
  have hW : Hid (w.drew.setCells g (0 + i * 1) news = W1) := hW1
  have k1 : (i : Int) + 1 = ((i + 1 : Nat) : Int) := by omega
  rw [k1]
  have hij : ¬ ((i : Int) = ((i + 1 : Nat) : Int)) := by omega
  have hic : i ≤ c := by omega
  have hjc : i + 1 ≤ c := by omega
  have hjn : (i : Int) + 1 ≤ (n : Int) := by omega
  have hj0 : (0 : Int) ≤ (i : Int) + 1 := by omega
  have hsum : i + (n - (i + 1)) = n - 1 := by omega
  have HSUM := Lib.hid hsum
  clear hW1 ho hg hcur hnews hlen hxs hcs h1 hlo k1 hsum
  go_enter Tryd.func63, Tryd.ntmps63
  go_wp2_with fail
  go_region_law (refine step_append_room rfl (.tmp 22) (.tmp 25) 61 rfl 3 i0 1 Tryd.underlying61 hi0 hz1 g 0 i c (by simp [Act.eval, Act.put]) A (n - (i + 1)) (c - (i + 1)) news (by simp [Act.eval, Act.put]) s1.out hsrc.out s2.out (by omega) s3.out ?_; rw [hW.out, HSUM.out])
  go_wp2
  go_ret
  exact ⟨rfl, HRES.out.1, HRES.out.2⟩
set_option maxHeartbeats 4000000 in
set_option maxRecDepth 20000 in
/-- slices.Clone of riders. -/
theorem clone_rdr (w : World) (A : Option Addr) (n c : Nat) (I : List MSit) (hr : Rd w w.heap.size 5 A n (catv sitC I)) (hn : n ≤ 1000000) :
    Calls Tryd.prog 62 #[.slice A n c] w fun e w' => ∃ v, e = .returned v ∧ w'.ownsRow w.heap.size 30 5 v n (catv sitC I) ∧ Below w.heap.size w w' := by
  obtain ⟨i0, hi0, hz0, hz1, hz2⟩ := info_parts rdr_info
  have HR := Lib.hid hr
  cases A with
  | none =>
    have h0 : n = 0 := by
      rcases Nat.eq_zero_or_pos n with h | h
      · exact h
      · obtain ⟨ad, e, _⟩ := hr.at_ h; cases e
    subst h0
    have hnil := fun (W : World) => Lib.run_eql_slice_nil (P := Tryd.prog) W 23 30 none 0 c 0 0 Tryd.underlying23
    have hl0 : catv sitC I = [] := List.eq_nil_of_length_eq_zero (by rw [hr.len])
    rw [hl0]
    clear hr
    go_enter Tryd.func62, Tryd.ntmps62
    go_wp2
    go_ret
    exact ⟨_, rfl, World.ownsRow_nil _ _ _ _, Below.refl _ _⟩
  | some ad =>
    clear hr
    have hnil := fun (W : World) => Lib.run_eql_slice_nil (P := Tryd.prog) W 23 30 (some ad) n c 0 0 Tryd.underlying23
    go_enter Tryd.func62, Tryd.ntmps62
    have hb0 : Below w.heap.size w (w.alloc (.cells #[] 30)) := (Below.refl _ _).alloc (Nat.le_refl _) _
    have ho0 : (w.alloc (.cells #[] 30)).ownsRow w.heap.size 30 5 (.slice (some ⟨w.heap.size, 0, none⟩) 0 0) 0 [] := ⟨rfl, .inr ⟨w.heap.size, 0, #[], rfl, Nat.le_refl _, heap_alloc_new _ _, Nat.le_refl _, by decide, by simp, rfl⟩⟩
    have hr1 := HR.out.below hb0
    go_wp2_with (at_builtin; refine wpList_app rfl (.tmp 5) (.tmp 6) 23 rfl w.heap.size 30 i0 _ 5 32 Tryd.underlying23 hi0 hz0 hz1 hz2 rfl (by omega) _ 0 [] w.heap.size (some ad) n c (catv sitC I) rfl (by exact ho0) rfl (by exact hr1) (catv_cell sitC_cell I) ?c1 ?c2 ?c3 ?_)
    case c1 => omega
    case c2 => unfold maxLen; omega
    case c3 => exact hb0.size
    intro v3 w3 ho3 hu3 hat3
    have hb3 : Below w.heap.size w w3 := hb0.trans (hu3.below (fun q hq e => by have := (ho0.lt q e).1; omega) hb0.size)
    have HO3 := Lib.hid ho3
    have HB3 := Lib.hid hb3
    clear ho3 hu3 hat3 hb3 ho0 hr1 hb0
    go_wp2
    go_ret
    exact ⟨_, rfl, HO3.out, HB3.out⟩
set_option maxHeartbeats 4000000 in
set_option maxRecDepth 20000 in
/-- slices.Index of a place that stands in a row of places. -/
theorem index_any (w : World) (A : Option Addr) (n c : Nat) (L : List Int) (i : Nat) (hr : Rd w w.heap.size 1 A n (L.map (Value.int .i64))) (hi : i < L.length) (h0 : ∀ (j : Nat) (hj : j < L.length), j < i → L[j] ≠ L[i]) (hn : n ≤ 1000000) (hsp : ∀ ad, A = some ad → ∃ b o, ad = ⟨b, o, none⟩) :
    Calls Tryd.prog 60 #[.slice A n c, .int .i64 L[i]] w fun e w' => e = .returned (.int .i64 i) ∧ Below w.heap.size w w' := by
  have hnl : n = L.length := by have := hr.len; simpa using this.symm
  have HR := Lib.hid hr
  have H0 := Lib.hid h0
  obtain ⟨x, hx⟩ : ∃ x, L[i] = x := ⟨_, rfl⟩
  rw [hx]
  have HX := Lib.hid hx
  have HSP := Lib.hid hsp
  clear hr h0 hx hsp
  go_enter Tryd.func60, Tryd.ntmps60
  go_wp2
  go_loopw [8] (fun iv wx => ∃ k : Nat, iv = .int .i64 (k : Int) ∧ k ≤ i ∧ Hid (Below w.heap.size w wx)) (fun iv _ => n - (intOf iv).toNat)
  case atStart => exact ⟨0, rfl, Nat.zero_le _, Lib.hid (Below.refl _ _)⟩
  case round =>
    obtain ⟨k, rfl, hk, hB⟩ := hrel
    have hkn : k < n := by omega
    have hki : (k : Int) < (n : Int) := by omega
    have hk0 : (0 : Int) ≤ (k : Int) := by omega
    obtain ⟨ad, rfl, hlt, hcc⟩ := (HR.out.below hB.out).at_ (by omega)
    obtain ⟨y, hy⟩ : ∃ y, L[k] = y := ⟨_, rfl⟩
    have c0 : wr.cell? (ad.add k) = some (.int .i64 y) := hcc k _ (by rw [List.getElem?_map, List.getElem?_eq_getElem (by omega), hy]; rfl)
    have hsp : ∃ b o, ad = ⟨b, o, none⟩ := HSP.out ad rfl
    obtain ⟨b, o, rfl⟩ := hsp
    rw [Addr.add_lit] at c0
    have HB := Lib.hid hB.out
    clear hcc hlt hB
    by_cases hlt : k < i
    · have hne : ¬ x = y := fun e => H0.out k (by omega) hlt (by rw [hy, HX.out]; exact e.symm)
      have HY := Lib.hid hy
      clear hy
      go_wp2
      go_roundw
      case rel => exact ⟨k + 1, by go_num, hlt, HB⟩
      case measure => simp [intOf]; omega
    · obtain rfl : k = i := by omega
      obtain rfl : x = y := by rw [← hy, ← HX.out]
      clear hy
      go_wp2
      go_ret
      exact ⟨rfl, HB.out⟩
end Go.Proofs.YtppjpledjhinbaaDoor
/- The gate's queue: drop, walked (printed by wip/tools/gen_drop.py out of wip/in/gtdrop.in). -/
namespace Go.Proofs.YtppjpledjhinbaaDoor
open Go.RowKit Go.Lib
theorem own_low {W : World} {base base' size n : Nat} {e : TypeId} {v : Value} {xs : List Value} (h : W.ownsRow base e size v n xs) (hb : base' ≤ base) : W.ownsRow base' e size v n xs := by
  refine ⟨h.1, ?_⟩
  rcases h.2 with h1 | ⟨g, cap, cur, h1, h2, h3⟩
  · exact .inl h1
  · exact .inr ⟨g, cap, cur, h1, Nat.le_trans hb h2, h3⟩
/-- How many can be seated (of no more than twenty, on a right map). -/
noncomputable def seatN (l : List MRow) (rs : List MSit) : Int := Classical.epsilon fun k => SeatedIs l rs k
theorem seatN_is {l : List MRow} {rs : List MSit} {k : Int} (h : SeatedIs l rs k) : k = seatN l rs := h.uniq (Classical.epsilon_spec (p := fun k => SeatedIs l rs k) ⟨k, h⟩)
theorem seatN_ok {l : List MRow} {rs : List MSit} {k : Int} (h : SeatedIs l rs k) : SeatedIs l rs (seatN l rs) := seatN_is h ▸ h
/-- A queue in memory: a hall, and the places of those who are in. -/
structure QAt (W : World) (base Q H : Nat) (rv u pv : Value) (I : List MSit) (P : List Int) : Prop where
  box : W.heap[Q]? = some (.cells #[.pointer (some ⟨H, 0, none⟩), pv] 115 (0, 0))
  lo : base ≤ Q
  hall : HallAt W base H rv u I
  pl : W.ownsRow base 3 1 pv P.length (P.map (Value.int .i64))
section
variable {W W' : World} {base Q H : Nat} {rv u pv : Value} {I : List MSit} {P : List Int}
theorem QAt.below (h : QAt W base Q H rv u pv I P) (hb : Below W.heap.size W W') : QAt W' base Q H rv u pv I P :=
  ⟨box_keep h.box (Upd.of_below (S := fun _ => False) hb) id, h.lo, h.hall.below hb, own_below h.pl hb⟩
theorem QAt.cells (h : QAt W base Q H rv u pv I P) : W.cell? ⟨Q, 0, none⟩ = some (.pointer (some ⟨H, 0, none⟩)) ∧ W.cell? ⟨Q, 1, none⟩ = some pv := by
  constructor <;> rw [cell_of_row _ _ _ _ _ _ h.box] <;> rfl
theorem QAt.hlt (h : QAt W base Q H rv u pv I P) : Q < W.heap.size := (Array.getElem?_eq_some_iff.1 h.box).1
theorem QAt.ne (h : QAt W base Q H rv u pv I P) : Q ≠ H := by
  rintro rfl
  have h1 := h.box
  rw [h.hall.box] at h1
  simp at h1
theorem QAt.ne_u (h : QAt W base Q H rv u pv I P) : u.ownBlock ≠ some Q ∧ u.ownBlock ≠ some H ∧ pv.ownBlock ≠ some Q ∧ pv.ownBlock ≠ some H := by
  refine ⟨fun e => ?_, fun e => ?_, fun e => ?_, fun e => ?_⟩
  · obtain ⟨cs, h1⟩ := own_typed h.hall.inn e
    rw [h.box] at h1; simp at h1
  · obtain ⟨cs, h1⟩ := own_typed h.hall.inn e
    rw [h.hall.box] at h1; simp at h1
  · obtain ⟨cs, h1⟩ := own_typed h.pl e
    rw [h.box] at h1; simp at h1
  · obtain ⟨cs, h1⟩ := own_typed h.pl e
    rw [h.hall.box] at h1; simp at h1
end
def DropAns (w : World) (base Q H : Nat) (rv u pv : Value) (I I' : List MSit) (P P' : List Int) (b : Bool) (w' : World) : Prop :=
  Upd (fun k => k = Q ∨ k = H ∨ pv.ownBlock = some k) w w' ∧
  if b = true then QAt w' base Q H rv u pv I P else ∃ u' pv', QAt w' base Q H rv u' pv' I' P' ∧ pv'.ownBlock = pv.ownBlock
theorem drop_end {w wz w6 : World} {base Q H gi gp g2 m ci cp c2 : Nat} {rv : Value} {I I' : List MSit} {P P' : List Int} (h0 : QAt w base Q H rv (.slice (some ⟨gi, 0, none⟩) m ci) (.slice (some ⟨gp, 0, none⟩) m cp) I P) (hbz : Below w.heap.size w wz) (hb : base ≤ w.heap.size)
    (ho3 : wz.ownsRow base 30 5 (.slice (some ⟨g2, 0, none⟩) (m - 1) c2) (m - 1) (catv sitC I')) (hg2 : w.heap.size ≤ g2) (hIl : I'.length = m - 1) (hPl : P'.length = m - 1)
    (ho6 : w6.ownsRow base 3 1 (.slice (some ⟨gp, 0, none⟩) (m - 1) cp) (m - 1) (P'.map (Value.int .i64))) (hu6 : Upd (fun k => k = gp) (wz.setCell ⟨H, 1, none⟩ (.slice (some ⟨g2, 0, none⟩) (m - 1) c2)) w6) :
    DropAns w base Q H rv (.slice (some ⟨gi, 0, none⟩) m ci) (.slice (some ⟨gp, 0, none⟩) m cp) I I' P P' false (w6.setCell ⟨Q, 1, none⟩ (.slice (some ⟨gp, 0, none⟩) (m - 1) cp)) := by
  have hz := h0.below hbz
  have hQH := h0.ne
  obtain ⟨_, _, n3, n4⟩ := h0.ne_u
  have hgpQ : gp ≠ Q := fun e => n3 (by rw [e]; rfl)
  have hgpH : gp ≠ H := fun e => n4 (by rw [e]; rfl)
  have hg2Q : g2 ≠ Q := fun e => by have := h0.hlt; omega
  have hg2H : g2 ≠ H := fun e => by have := h0.hall.hlt; omega
  have hgpl : gp < w.heap.size := (h0.pl.lt gp rfl).2
  have u1 : Upd (fun k => k = H) wz (wz.setCell ⟨H, 1, none⟩ (.slice (some ⟨g2, 0, none⟩) (m - 1) c2)) := (Upd.refl (fun k => k = H) wz).setCell ⟨H, 1, none⟩ rfl _
  have u3 : Upd (fun k => k = Q) w6 (w6.setCell ⟨Q, 1, none⟩ (.slice (some ⟨gp, 0, none⟩) (m - 1) cp)) := (Upd.refl (fun k => k = Q) w6).setCell ⟨Q, 1, none⟩ rfl _
  have b1 := heap_setCell_same wz H 1 _ _ (.slice (some ⟨g2, 0, none⟩) (m - 1) c2) hz.hall.box
  have bq6 := box_keep (box_keep hz.box u1 hQH) hu6 (Ne.symm hgpQ)
  have bh6 := box_keep b1 hu6 (Ne.symm hgpH)
  have bq7 := heap_setCell_same w6 Q 1 _ _ (.slice (some ⟨gp, 0, none⟩) (m - 1) cp) bq6
  have bh7 := box_keep bh6 u3 (Ne.symm hQH)
  have io : ∀ k, (Value.slice (some ⟨g2, 0, none⟩) (m - 1) c2).ownBlock = some k → k = g2 := fun k e => by simp only [Value.ownBlock, Option.some.injEq] at e; exact e.symm
  have po : ∀ k, (Value.slice (some ⟨gp, 0, none⟩) (m - 1) cp).ownBlock = some k → k = gp := fun k e => by simp only [Value.ownBlock, Option.some.injEq] at e; exact e.symm
  have hg2p : g2 ≠ gp := by omega
  refine ⟨?_, ?_⟩
  · have t1 : Upd (fun k => k = Q ∨ k = H ∨ (Value.slice (some ⟨gp, 0, none⟩) m cp).ownBlock = some k) w wz := (Upd.of_below (S := fun _ => False) hbz).mono (fun _ _ h => h.elim)
    refine ((t1.trans u1 (fun q _ e => .inr (.inl e))).trans hu6 (fun q _ e => .inr (.inr (by rw [e]; rfl)))).trans u3 (fun q _ e => .inl e)
  · rw [if_neg (by decide)]
    refine ⟨.slice (some ⟨g2, 0, none⟩) (m - 1) c2, .slice (some ⟨gp, 0, none⟩) (m - 1) cp, ⟨by simpa using bq7, h0.lo, ⟨by simpa using bh7, h0.hall.lo, ?_⟩, ?_⟩, rfl⟩
    · rw [hIl]
      exact own_upd (own_upd (own_upd ho3 u1 (fun q e e2 => hg2H ((io q e).symm.trans e2))) hu6 (fun q e e2 => hg2p ((io q e).symm.trans e2))) u3 (fun q e e2 => hg2Q ((io q e).symm.trans e2))
    · rw [hPl]
      exact own_upd ho6 u3 (fun q e e2 => hgpQ ((po q e).symm.trans e2))
theorem take_drop_map (P : List Int) (i : Nat) (hi : i < P.length) : (P.map (Value.int .i64)).take (i * 1) ++ (P.map (Value.int .i64)).drop ((i + 1) * 1) = (P.eraseIdx i).map (Value.int .i64) := by
  rw [Nat.mul_one, Nat.mul_one, List.eraseIdx_eq_take_drop_succ, List.map_append, List.map_take, List.map_drop]
theorem take_drop_cat (I : List MSit) (i : Nat) : (catv sitC I).take (i * 5) ++ (catv sitC I).drop ((i + 1) * 5) = catv sitC (I.eraseIdx i) := by
  have h1 : ∀ (k : Nat) (L : List MSit), (catv sitC L).take (k * 5) = catv sitC (L.take k) ∧ (catv sitC L).drop (k * 5) = catv sitC (L.drop k) := by
    intro k
    induction k with
    | zero => intro L; simp [catv]
    | succ k ih =>
      intro L
      cases L with
      | nil => simp [catv]
      | cons x t =>
        have e : catv sitC (x :: t) = sitC x ++ catv sitC t := by rw [show x :: t = [x] ++ t from rfl, catv_append, catv_one]
        have hl := sitC_len x
        obtain ⟨a, b⟩ := ih t
        constructor
        · rw [e, show (k + 1) * 5 = (sitC x).length + k * 5 by omega, List.take_length_add_append, a, List.take_succ_cons, show x :: t.take k = [x] ++ t.take k from rfl, catv_append, catv_one]
        · rw [e, show (k + 1) * 5 = (sitC x).length + k * 5 by omega, List.drop_length_add_append, b, List.drop_succ_cons]
  rw [(h1 i I).1, (h1 (i + 1) I).2, ← catv_append, List.eraseIdx_eq_take_drop_succ]
set_option maxHeartbeats 8000000 in
set_option maxRecDepth 20000 in
theorem drop_any (w : World) (mm : Int) (A : Option Addr) (n c : Nat) (l : List MRow) (hr : Rd w w.heap.size 5 A n (catv rowC l)) (hf : ∀ r ∈ l, r.fits) (hLib : LibAt w mm) (hE : errC l = 0) (base Q H : Nat) (u pv : Value) (I : List MSit) (P : List Int) (h : QAt w base Q H (.slice A n c) u pv I P) (hfi : ∀ x ∈ I, x.seat.fits) (hIl : I.length = P.length) (h20 : P.length ≤ 20)
    (hb : base ≤ w.heap.size) (i : Nat) (hi : i < P.length) (hnd : ∀ (j : Nat) (hj : j < P.length), j < i → P[j] ≠ P[i]) :
    Calls Tryd.prog 48 #[.pointer (some ⟨Q, 0, none⟩), .int .i64 P[i]] w fun e w' => e = .returned (.bool (!decide (seatN l (I.eraseIdx i) < seatN l I))) ∧ DropAns w base Q H (.slice A n c) u pv I (I.eraseIdx i) P (P.eraseIdx i) (decide (seatN l (I.eraseIdx i) < seatN l I)) w' := by
  obtain ⟨m, hm⟩ : ∃ m, P.length = m := ⟨_, rfl⟩
  have hIm : I.length = m := by omega
  have hpl := h.pl
  rw [hm] at hpl
  have hinn := h.hall.inn
  rw [hIm] at hinn
  obtain ⟨gp, cp, rfl, hgp, hgl, hcp, _⟩ := own_form hpl (by omega)
  obtain ⟨gi, ci, rfl, hgi, hgil, hci, _⟩ := own_form hinn (by omega)
  obtain ⟨x, hx⟩ : ∃ x, P[i] = x := ⟨_, rfl⟩
  have HIX := Lib.hid (fun W (hW : Below w.heap.size w W) => index_any W _ m cp P i ((Rd.own hpl |>.below hW).mono hW.size) hi hnd (by omega) (fun ad e => ⟨gp, 0, by injection e with e; exact e.symm⟩))
  have HCL := Lib.hid (fun W (hW : Below w.heap.size w W) => clone_rdr W _ m ci I ((Rd.own hinn |>.below hW).mono hW.size) (by omega))
  have HMI := Lib.hid (fun W (hW : Below w.heap.size w W) => hmost_any W mm A n c l ((hr.below hW).mono hW.size) hf (hLib.below hW) hE H ((h.hall.below hW).cells.1) _ m ci I ((Rd.own hinn |>.below hW).mono hW.size) hfi (by omega))
  obtain ⟨I', hI'⟩ : ∃ I', I.eraseIdx i = I' := ⟨_, rfl⟩
  obtain ⟨P', hP'⟩ : ∃ P', P.eraseIdx i = P' := ⟨_, rfl⟩
  have hIl' : I'.length = m - 1 := by rw [← hI', List.length_eraseIdx_of_lt (by omega), hIm]
  have hPl' : P'.length = m - 1 := by rw [← hP', List.length_eraseIdx_of_lt (by omega), hm]
  have hfi' : ∀ x ∈ I', x.seat.fits := fun x hx => hfi x (by rw [← hI'] at hx; exact (List.eraseIdx_sublist ..).subset hx)
  have HMD := Lib.hid (fun W (hW : Below w.heap.size w W) A2 c2 (hr2 : Rd W W.heap.size 5 A2 (m - 1) (catv sitC I')) => hmost_any W mm A n c l ((hr.below hW).mono hW.size) hf (hLib.below hW) hE H ((h.hall.below hW).cells.1) A2 (m - 1) c2 I' hr2 hfi' (by omega))
  have H0 := Lib.hid h
  have HTD : Hid ((catv sitC I).take (i * 5) ++ (catv sitC I).drop ((i + 1) * 5) = catv sitC I' ∧ (P.map (Value.int .i64)).take (i * 1) ++ (P.map (Value.int .i64)).drop ((i + 1) * 1) = P'.map (Value.int .i64)) := Lib.hid ⟨by rw [take_drop_cat, hI'], by rw [take_drop_map P i hi, hP']⟩
  have HLN := Lib.hid (And.intro hIl' hPl')
  have hi' : i < m := by omega
  have hm20 : m ≤ 20 := by omega
  have HPL := Lib.hid hpl
  have HNN := Lib.hid (And.intro hm hIm)
  obtain ⟨q0, q1⟩ := h.cells
  rw [hx] at HIX ⊢
  rw [hI', hP']
  obtain ⟨K1, hK1⟩ : ∃ K, seatN l I' = K := ⟨_, rfl⟩
  obtain ⟨K2, hK2⟩ : ∃ K, seatN l I = K := ⟨_, rfl⟩
  rw [hK1, hK2]
  have HK := Lib.hid (And.intro hK1 hK2)
  clear hK1 hK2
  clear hr hf hLib hE h hfi hfi' hnd hx hI' hP' hgp hgi hgil hgl hpl hinn hIl' hPl' hi hIl h20 hm hIm
  go_enter Tryd.func48, Tryd.ntmps48
  go_wp2_with fail
  refine (HIX.out _ (Below.refl _ _)).mono ?_
  rintro e w1 ⟨rfl, hb1⟩
  obtain ⟨q0, q1⟩ := (H0.out.below hb1).cells
  obtain ⟨p0, p1⟩ := (H0.out.below hb1).hall.cells
  have HB1 := Lib.hid hb1
  clear hb1
  go_wp2_with fail
  refine (HCL.out _ HB1.out).mono ?_
  rintro e w2 ⟨v2, rfl, ho2, hb2⟩
  have HB2 := Lib.hid (HB1.out.trans (hb2.mono HB1.out.size))
  obtain ⟨g2, c2, rfl, hg2, hg2l, hc2, _⟩ := own_form ho2 (by omega)
  have HDL := Lib.hid (del_rdr w2 w1.heap.size g2 m c2 i (catv sitC I) ho2 hi' (catv_cell sitC_cell I) (by omega))
  have hg2w : w.heap.size ≤ g2 := Nat.le_trans HB1.out.size hg2
  have HUP2 := Lib.hid (fun w3 (hu : Upd (fun k => k = g2) w2 w3) => HB2.out.trans (hu.below (fun q hq e => by omega) HB2.out.size))
  clear ho2 hb2 hg2
  go_wp2_with fail
  refine HDL.out.mono ?_
  rintro e w3 ⟨rfl, ho3, hu3⟩
  rw [HTD.out.1] at ho3
  have hb3 := HUP2.out w3 hu3
  have HO3 := Lib.hid (own_low (base' := base) ho3 (Nat.le_trans hb HB1.out.size))
  have HB3 := Lib.hid hb3
  obtain ⟨q0, q1⟩ := (H0.out.below hb3).cells
  obtain ⟨p0, p1⟩ := (H0.out.below hb3).hall.cells
  have hQl : Q < w3.heap.size := Nat.lt_of_lt_of_le H0.out.hlt HB3.out.size
  have hHl : H < w3.heap.size := Nat.lt_of_lt_of_le H0.out.hall.hlt HB3.out.size
  clear ho3 hu3 HDL HB2 HCL hb3 HUP2 hg2l
  have HG2 := Lib.hid hg2w
  clear hg2w
  have hbb := Below.refl w3.heap.size w3
  have MK : Hid (∀ W, Below w3.heap.size w3 W → Below w3.heap.size w3 W ∧ W.cell? ⟨Q, 0, none⟩ = some (.pointer (some ⟨H, 0, none⟩)) ∧ W.cell? ⟨H, 1, none⟩ = some (.slice (some ⟨gi, 0, none⟩) m ci)) := Lib.hid (fun W hW => ⟨hW, (hW.cell (p := ⟨Q, 0, none⟩) hQl).trans q0, (hW.cell (p := ⟨H, 1, none⟩) hHl).trans p1⟩)
  have MS1 : Hid (∀ W, Below w3.heap.size w3 W → Calls Tryd.prog 59 #[.pointer (some ⟨H, 0, none⟩), .slice (some ⟨g2, 0, none⟩) (m - 1) c2] W fun e w' => e = .returned (.int .i64 (seatN l I')) ∧ Below W.heap.size W w') := Lib.hid (fun W hW => (HMD.out W (HB3.out.trans (hW.mono HB3.out.size)) _ c2 ((Rd.own HO3.out |>.below hW).mono hW.size)).mono (fun e w' ⟨k, e1, e2, e3⟩ => ⟨by rw [e1, seatN_is e2], e3⟩))
  have MS2 : Hid (∀ W, Below w3.heap.size w3 W → Calls Tryd.prog 59 #[.pointer (some ⟨H, 0, none⟩), .slice (some ⟨gi, 0, none⟩) m ci] W fun e w' => e = .returned (.int .i64 (seatN l I)) ∧ Below W.heap.size W w') := Lib.hid (fun W hW => (HMI.out W (HB3.out.trans (hW.mono HB3.out.size))).mono (fun e w' ⟨k, e1, e2, e3⟩ => ⟨by rw [e1, seatN_is e2], e3⟩))
  rw [HK.out.1] at MS1
  rw [HK.out.2] at MS2
  clear p0 q1 HMD HMI
  go_wp2_with fail
  refine wp_region_held_drew (S := fun W => Below w3.heap.size w3 W ∧ W.cell? ⟨Q, 0, none⟩ = some (.pointer (some ⟨H, 0, none⟩)) ∧ W.cell? ⟨H, 1, none⟩ = some (.slice (some ⟨gi, 0, none⟩) m ci)) (by kernel_rfl) (by exact MK.out _ (Below.drew hbb)) (fun hHeld => ?_)
  refine wpAnyH_take (i := 0) (v := ?_) rfl (by kernel_rfl) (by kernel_rfl) (by kernel_rfl) (fun _ _ _ h => h) (Or.inl ⟨by kernel_rfl, ?_⟩) (by assumption) ?_
  rotate_left
  · (intro w hSw; (try dsimp only at hSw); go_simp; try with_reducible rfl)
  try simp only [Act.put, List.getElem_toArray, List.getElem_cons_succ, List.getElem_cons_zero, List.setIfInBounds_toArray, List.set_cons_zero, List.set_cons_succ]
  refine wpAnyH_take (i := 1) (v := ?_) rfl (by kernel_rfl) (by kernel_rfl) (by kernel_rfl) (fun _ _ _ h => h) (Or.inl ⟨by kernel_rfl, ?_⟩) (by assumption) ?_
  rotate_left
  · (intro w hSw; (try dsimp only at hSw); go_simp; try with_reducible rfl)
  try simp only [Act.put, List.getElem_toArray, List.getElem_cons_succ, List.getElem_cons_zero, List.setIfInBounds_toArray, List.set_cons_zero, List.set_cons_succ]
  refine wpAnyH_take (i := 2) (v := ?_) rfl (by kernel_rfl) (by kernel_rfl) (by kernel_rfl) (fun _ _ _ h => h) (Or.inl ⟨by kernel_rfl, ?_⟩) (by assumption) ?_
  rotate_left
  · (intro w hSw; (try dsimp only at hSw); go_simp; try with_reducible rfl)
  try simp only [Act.put, List.getElem_toArray, List.getElem_cons_succ, List.getElem_cons_zero, List.setIfInBounds_toArray, List.set_cons_zero, List.set_cons_succ]
  refine wpAnyH_take (i := 3) (v := ?_) rfl (by kernel_rfl) (by kernel_rfl) (by kernel_rfl) (fun _ _ _ h => h) (Or.inl ⟨by kernel_rfl, ?_⟩) (by assumption) ?_
  rotate_left
  · (intro w hSw; (try dsimp only at hSw); go_simp; try with_reducible rfl)
  try simp only [Act.put, List.getElem_toArray, List.getElem_cons_succ, List.getElem_cons_zero, List.setIfInBounds_toArray, List.set_cons_zero, List.set_cons_succ]
  refine wpAnyH_take (i := 4) (v := ?_) rfl (by kernel_rfl) (by kernel_rfl) (by kernel_rfl) (fun _ _ _ h => h) (Or.inl ⟨by kernel_rfl, ?_⟩) (by assumption) ?_
  rotate_left
  · (intro w hSw; (try dsimp only at hSw); go_simp; try with_reducible rfl)
  try simp only [Act.put, List.getElem_toArray, List.getElem_cons_succ, List.getElem_cons_zero, List.setIfInBounds_toArray, List.set_cons_zero, List.set_cons_succ]
  refine wpAnyH_take (i := 6) (v := ?_) rfl (by kernel_rfl) (by kernel_rfl) (by kernel_rfl) (fun _ _ _ h => h) (Or.inl ⟨by kernel_rfl, ?_⟩) (by assumption) ?_
  rotate_left
  · (intro w hSw; (try dsimp only at hSw); go_simp; try with_reducible rfl)
  try simp only [Act.put, List.getElem_toArray, List.getElem_cons_succ, List.getElem_cons_zero, List.setIfInBounds_toArray, List.set_cons_zero, List.set_cons_succ]
  refine wpAnyH_take (i := 7) (v := ?_) rfl (by kernel_rfl) (by kernel_rfl) (by kernel_rfl) (fun _ _ _ h => h) (Or.inl ⟨by kernel_rfl, ?_⟩) (by assumption) ?_
  rotate_left
  · (intro w hSw; (try dsimp only at hSw); go_simp; try with_reducible rfl)
  try simp only [Act.put, List.getElem_toArray, List.getElem_cons_succ, List.getElem_cons_zero, List.setIfInBounds_toArray, List.set_cons_zero, List.set_cons_succ]
  refine wpAnyH_take (i := 8) (v := ?_) rfl (by kernel_rfl) (by kernel_rfl) (by kernel_rfl) (fun _ _ _ h => h) (Or.inl ⟨by kernel_rfl, ?_⟩) (by assumption) ?_
  rotate_left
  · (intro w hSw; (try dsimp only at hSw); go_simp; try with_reducible rfl)
  try simp only [Act.put, List.getElem_toArray, List.getElem_cons_succ, List.getElem_cons_zero, List.setIfInBounds_toArray, List.set_cons_zero, List.set_cons_succ]
  refine wpAnyH_take (i := 9) (v := ?_) rfl (by kernel_rfl) (by kernel_rfl) (by kernel_rfl) (fun _ _ _ h => h) (Or.inl ⟨by kernel_rfl, ?_⟩) (by assumption) ?_
  rotate_left
  · (intro w hSw; (try dsimp only at hSw); go_simp; try with_reducible rfl)
  try simp only [Act.put, List.getElem_toArray, List.getElem_cons_succ, List.getElem_cons_zero, List.setIfInBounds_toArray, List.set_cons_zero, List.set_cons_succ]
  refine wpAnyH_take (i := 10) (v := ?_) rfl (by kernel_rfl) (by kernel_rfl) (by kernel_rfl) (fun _ _ _ h => h) (Or.inl ⟨by kernel_rfl, ?_⟩) (by assumption) ?_
  rotate_left
  · (intro w hSw; (try dsimp only at hSw); go_simp; try with_reducible rfl)
  try simp only [Act.put, List.getElem_toArray, List.getElem_cons_succ, List.getElem_cons_zero, List.setIfInBounds_toArray, List.set_cons_zero, List.set_cons_succ]
  refine wpAnyH_take (i := 11) (v := ?_) rfl (by kernel_rfl) (by kernel_rfl) (by kernel_rfl) (fun _ _ _ h => h) (Or.inl ⟨by kernel_rfl, ?_⟩) (by assumption) ?_
  rotate_left
  · (intro w hSw; (try dsimp only at hSw); go_simp; try with_reducible rfl)
  try simp only [Act.put, List.getElem_toArray, List.getElem_cons_succ, List.getElem_cons_zero, List.setIfInBounds_toArray, List.set_cons_zero, List.set_cons_succ]
  refine wpAnyH_take (i := 12) (v := ?_) rfl (by kernel_rfl) (by kernel_rfl) (by kernel_rfl) (fun _ _ _ h => h) (Or.inl ⟨by kernel_rfl, ?_⟩) (by assumption) ?_
  rotate_left
  · (intro w hSw; (try dsimp only at hSw); go_simp; try with_reducible rfl)
  try simp only [Act.put, List.getElem_toArray, List.getElem_cons_succ, List.getElem_cons_zero, List.setIfInBounds_toArray, List.set_cons_zero, List.set_cons_succ]
  refine wpAnyH_take (i := 13) (v := ?_) rfl (by kernel_rfl) (by kernel_rfl) (by kernel_rfl) (fun _ _ _ h => h) (Or.inl ⟨by kernel_rfl, ?_⟩) (by assumption) ?_
  rotate_left
  · (intro w hSw; (try dsimp only at hSw); go_simp; try with_reducible rfl)
  try simp only [Act.put, List.getElem_toArray, List.getElem_cons_succ, List.getElem_cons_zero, List.setIfInBounds_toArray, List.set_cons_zero, List.set_cons_succ]
  refine wpAnyH_take (i := 14) (v := ?_) rfl (by kernel_rfl) (by kernel_rfl) (by kernel_rfl) (fun _ _ _ h => h) (Or.inl ⟨by kernel_rfl, ?_⟩) (by assumption) ?_
  rotate_left
  · (intro w hSw; (try dsimp only at hSw); go_simp; try with_reducible rfl)
  try simp only [Act.put, List.getElem_toArray, List.getElem_cons_succ, List.getElem_cons_zero, List.setIfInBounds_toArray, List.set_cons_zero, List.set_cons_succ]
  refine wpAnyH_take (i := 15) (v := ?_) rfl (by kernel_rfl) (by kernel_rfl) (by kernel_rfl) (fun _ _ _ h => h) (Or.inl ⟨by kernel_rfl, ?_⟩) (by assumption) ?_
  rotate_left
  · (intro w hSw; (try dsimp only at hSw); go_simp; try with_reducible rfl)
  try simp only [Act.put, List.getElem_toArray, List.getElem_cons_succ, List.getElem_cons_zero, List.setIfInBounds_toArray, List.set_cons_zero, List.set_cons_succ]
  refine wpAnyH_take (i := 16) (v := ?_) rfl (by kernel_rfl) (by kernel_rfl) (by kernel_rfl) (fun _ _ _ h => h) (Or.inl ⟨by kernel_rfl, ?_⟩) (by assumption) ?_
  rotate_left
  · (intro w hSw; (try dsimp only at hSw); go_simp; try with_reducible rfl)
  try simp only [Act.put, List.getElem_toArray, List.getElem_cons_succ, List.getElem_cons_zero, List.setIfInBounds_toArray, List.set_cons_zero, List.set_cons_succ]
  refine wpAnyH_ready (rs := [5]) (by kernel_rfl) (by simp) ?_
  refine AllReadyH.cons rfl (fun K hK => ?_) AllReadyH.nil
  go_simp
  go_at_call 59
  refine (MS1.out _ (Below.drew hbb)).mono ?_
  rintro e wy ⟨rfl, hbwy⟩
  have hwy : Below w3.heap.size w3 wy := ((Below.drew hbb)).trans (hbwy.mono ((Below.drew hbb)).size)
  clear hbwy
  go_wp2_with fail
  refine hK.out _ _ (by exact MK.out _ (by first | assumption | exact Below.drew hbb)) (fun hHeld => ?_)
  clear hK K
  try simp only [Act.put, List.getElem_toArray, List.getElem_cons_succ, List.getElem_cons_zero, List.setIfInBounds_toArray, List.set_cons_zero, List.set_cons_succ]
  refine wpAnyH_ready (rs := [17]) (by kernel_rfl) (by simp) ?_
  refine AllReadyH.cons rfl (fun K hK => ?_) AllReadyH.nil
  go_simp
  go_at_call 59
  refine (MS2.out _ hwy).mono ?_
  rintro e wz ⟨rfl, hbwz⟩
  have hwz : Below w3.heap.size w3 wz := (hwy).trans (hbwz.mono (hwy).size)
  clear hbwz
  go_wp2_with fail
  refine hK.out _ _ (by exact MK.out _ (by first | assumption | exact Below.drew hbb)) (fun hHeld => ?_)
  clear hK K
  try simp only [Act.put, List.getElem_toArray, List.getElem_cons_succ, List.getElem_cons_zero, List.setIfInBounds_toArray, List.set_cons_zero, List.set_cons_succ]
  refine wpAnyH_take (i := 18) (v := ?_) rfl (by kernel_rfl) (by kernel_rfl) (by kernel_rfl) (fun _ _ _ h => h) (Or.inl ⟨by kernel_rfl, ?_⟩) (by assumption) ?_
  rotate_left
  · (intro w hSw; (try dsimp only at hSw); go_simp; try with_reducible rfl)
  try simp only [Act.put, List.getElem_toArray, List.getElem_cons_succ, List.getElem_cons_zero, List.setIfInBounds_toArray, List.set_cons_zero, List.set_cons_succ]
  refine wpAnyH_done (by kernel_rfl) ?_ _
  clear hHeld MK MS1 MS2
  have hzz : Below w.heap.size w wz := HB3.out.trans (hwz.mono HB3.out.size)
  have HO4 := Lib.hid (own_below HO3.out hwz)
  have hq4 := H0.out.below hzz
  obtain ⟨q0, q1⟩ := hq4.cells
  obtain ⟨p0, p1⟩ := hq4.hall.cells
  have f1 : wz.frozen? ⟨H, 1, none⟩ = false := frozen_of_row _ _ _ _ _ hq4.hall.box
  by_cases hlt : K1 < K2
  · have HQ4 := Lib.hid hq4
    have HZZ := Lib.hid hzz
    clear hq4 hzz hwz hbb
    go_wp2
    go_ret
    refine ⟨ret_bool (by simp [hlt]), (Upd.of_below (S := fun _ => False) HZZ.out).mono (fun _ _ h => h.elim), ?_⟩
    rw [if_pos (by simpa using hlt)]
    exact HQ4.out
  · have hQH := hq4.ne
    have u1 : Upd (fun k => k = H) wz (wz.setCell ⟨H, 1, none⟩ (.slice (some ⟨g2, 0, none⟩) (m - 1) c2)) := (Upd.refl (fun k => k = H) wz).setCell ⟨H, 1, none⟩ rfl _
    have bq5 := box_keep hq4.box u1 hQH
    have q1s : (wz.setCell ⟨H, 1, none⟩ (.slice (some ⟨g2, 0, none⟩) (m - 1) c2)).cell? ⟨Q, 1, none⟩ = some (.slice (some ⟨gp, 0, none⟩) m cp) := by rw [cell_of_row _ _ 1 _ _ _ bq5]; rfl
    obtain ⟨_, _, n3, n4⟩ := hq4.ne_u
    have hpl5 := own_upd (own_below HPL.out hzz) u1 (fun q e e2 => n4 (by rw [← e2]; exact e))
    have HDI := Lib.hid (del_int _ base gp m cp i (P.map (Value.int .i64)) hpl5 hi' (fun u hu => by obtain ⟨x, _, rfl⟩ := List.mem_map.1 hu; rfl) (by omega))
    have HBQ5 := Lib.hid bq5
    have HGQ := Lib.hid (show gp ≠ Q from fun e => n3 (by rw [e]; rfl))
    have HZZ := Lib.hid hzz
    clear hq4 hzz hwz hbb u1 bq5 hpl5 n3 n4 hQH p0
    go_wp2_with fail
    refine HDI.out.mono ?_
    rintro e w6 ⟨rfl, ho6, hu6⟩
    rw [HTD.out.2] at ho6
    have bq6 := box_keep HBQ5.out hu6 (Ne.symm HGQ.out)
    have q16 : w6.cell? ⟨Q, 1, none⟩ = some (.slice (some ⟨gp, 0, none⟩) m cp) := by rw [cell_of_row _ _ 1 _ _ _ bq6]; rfl
    have f6 : w6.frozen? ⟨Q, 1, none⟩ = false := frozen_of_row _ _ _ _ _ bq6
    have HEND := Lib.hid (drop_end H0.out HZZ.out hb HO4.out HG2.out HLN.out.1 HLN.out.2 ho6 hu6)
    clear bq6 ho6 hu6
    go_wp2
    go_ret
    refine ⟨ret_bool (by simp [hlt]), ?_⟩
    rw [decide_eq_false (by omega : ¬ K1 < K2)]
    exact HEND.out
end Go.Proofs.YtppjpledjhinbaaDoor
