/- Matchings: a queue of numbers, of the call's own: 'q = q[1:]', 'q = append(q, x)'. -/
import Derived.Test.YtegpanfcjfcaeaaDoorJFlMem
import Derived.Test.YtegpanfcjfcaeaaDoorJFlP3
import Derived.Laws.CopyOwn
import Derived.Deep.RegionLaw
import Derived.Deep.CutBlock
import Derived.Deep.DeepCutAuto
namespace Go.Proofs.YtegpanfcjfcaeaaDoor
open Go.RowKit
/-- The slice value v owns the numbers T, from some place of its row on. -/
def OwnQ (w : World) (base : Nat) (v : Value) (T : List Nat) : Prop :=
  (v = .slice none 0 0 ∧ T = []) ∨
  ∃ g off cap cur, v = .slice (some ⟨g, off, none⟩) T.length cap ∧ base ≤ g ∧ w.heap[g]? = some (.cells cur 3 (0, 0)) ∧ T.length ≤ cap ∧ cap ≤ maxLen ∧ off + cap ≤ cur.size ∧ (cur.toList.drop off).take T.length = natv T
section
variable {w w' : World} {base : Nat} {v : Value} {T : List Nat}
theorem OwnQ.nil : OwnQ w base (.slice none 0 0) [] := .inl ⟨rfl, rfl⟩
theorem OwnQ.lt (h : OwnQ w base v T) : ∀ k, v.ownBlock = some k → base ≤ k ∧ k < w.heap.size := by
  intro k hk
  rcases h with ⟨rfl, _⟩ | ⟨g, off, cap, cur, rfl, hb, hg, _⟩
  · simp [Value.ownBlock] at hk
  · simp [Value.ownBlock] at hk
    subst hk
    exact ⟨hb, (Array.getElem?_eq_some_iff.1 hg).1⟩
theorem OwnQ.upd {S : Nat → Prop} (h : OwnQ w base v T) (hu : Upd S w w') (hs : ∀ k, v.ownBlock = some k → ¬ S k) : OwnQ w' base v T := by
  rcases h with hn | ⟨g, off, cap, cur, rfl, hb, hg, rest⟩
  · exact .inl hn
  · exact .inr ⟨g, off, cap, cur, rfl, hb, (hu.block g (Array.getElem?_eq_some_iff.1 hg).1 (hs g rfl)).trans hg, rest⟩
theorem OwnQ.shape (h : OwnQ w base v T) : ∃ A c, v = .slice A T.length c := by
  rcases h with ⟨rfl, rfl⟩ | ⟨g, off, cap, cur, rfl, _⟩
  · exact ⟨_, _, rfl⟩
  · exact ⟨_, _, rfl⟩
theorem OwnQ.holds {g off n c : Nat} (h : OwnQ w base (.slice (some ⟨g, off, none⟩) n c) T) : ∀ j u, (natv T)[j]? = some u → w.cell? ⟨g, off + j, none⟩ = some u := by
  rcases h with ⟨hv, _⟩ | ⟨g', off', cap, cur, hv, hb, hg, h1, h2, h3, h4⟩
  · cases hv
  · injection hv with e1 e2 e3
    injection e1 with e1
    injection e1 with e1 e4
    subst e1; subst e4
    intro j u hu
    have hlt : j < (natv T).length := (List.getElem?_eq_some_iff.1 hu).1
    rw [cell_of_row w g (off + j) cur _ _ hg]
    rw [← h4, List.getElem?_take, if_pos (by rw [natv_length] at hlt; exact hlt), List.getElem?_drop] at hu
    simpa using hu
/-- The first one, and what is left. -/
theorem OwnQ.head {A : Option Addr} {n c a : Nat} (h : OwnQ w base (.slice A n c) (a :: T)) :
    ∃ g off, A = some ⟨g, off, none⟩ ∧ n = T.length + 1 ∧ 1 ≤ c ∧ w.cell? ⟨g, off, none⟩ = some (.int .i64 (a : Int)) ∧ base ≤ g ∧ g < w.heap.size ∧
      (c = 1 → OwnQ w base (.slice (some ⟨g, off, none⟩) T.length 0) T) ∧ OwnQ w base (.slice (some ⟨g, off + 1, none⟩) T.length (c - 1)) T := by
  have h0 := h
  rcases h with ⟨_, hv⟩ | ⟨g, off, cap, cur, hv, hb, hg, h1, h2, h3, h4⟩
  · cases hv
  · injection hv with e1 e2 e3
    subst e1; subst e2; subst e3
    have hc := h0.holds 0 (.int .i64 (a : Int)) (by simp [natv])
    simp only [List.length_cons] at h1
    refine ⟨g, off, rfl, by simp, by omega, hc, hb, (Array.getElem?_eq_some_iff.1 hg).1, fun e => ?_, ?_⟩
    · subst e
      have hT : T = [] := List.eq_nil_of_length_eq_zero (by omega)
      subst hT
      exact .inr ⟨g, off, 0, cur, rfl, hb, hg, Nat.le_refl _, Nat.zero_le _, by omega, by simp [natv]⟩
    · refine .inr ⟨g, off + 1, c - 1, cur, rfl, hb, hg, by omega, by omega, by omega, ?_⟩
      rw [← List.drop_drop]
      have e : (cur.toList.drop off).take (T.length + 1) = natv (a :: T) := h4
      have e2 := congrArg (List.drop 1) e
      rw [List.drop_take] at e2
      simpa [natv] using e2
end
theorem piece_set {l : List Value} {off n : Nat} (v : Value) (h : off + n < l.length) : ((l.set (off + n) v).drop off).take (n + 1) = (l.drop off).take n ++ [v] := by
  apply List.ext_getElem?
  intro j
  rw [List.getElem?_take, List.getElem?_drop, List.getElem?_set, List.getElem?_append, List.length_take, List.length_drop, List.getElem?_take, List.getElem?_drop]
  have hm : min n (l.length - off) = n := by omega
  rw [hm]
  by_cases h1 : j < n
  · rw [if_pos (by omega), if_neg (by omega), if_pos h1, if_pos h1]
  · rw [if_neg h1]
    by_cases h2 : j = n
    · subst h2
      rw [if_pos (by omega), if_pos rfl, if_pos h, Nat.sub_self]
      rfl
    · rw [if_neg (by omega), List.getElem?_eq_none (by simp; omega)]
/-- 'append(q, b)' runs. -/
theorem pushQ_run (W : World) (v : Value) (T : List Nat) (b base : Nat) (h : OwnQ W base v T) (hbase : base ≤ W.heap.size) (hl : T.length + 1 ≤ 1048576) :
    ∃ v' w', (Builtin.append_ #[69, 69] 69 #[v, .slice (some ⟨W.heap.size, 0, none⟩) 1 1]).run Tryd.prog (W.alloc (.cells #[.int .i64 (b : Int)] 3)) = .ok v' w' ∧
      OwnQ w' base v' (T ++ [b]) ∧ Upd (fun k => v.ownBlock = some k) W w' := by
  obtain ⟨i0, hi0, hz0, hz1, hz2⟩ := info_parts int_info
  have hnew : ∀ j u, [Value.int .i64 (b : Int)][j]? = some u → (W.alloc (.cells #[.int .i64 (b : Int)] 3)).cell? ((⟨W.heap.size, 0, none⟩ : Addr).add j) = some u := fun j u hu => by
    rw [add_zero_off, cell_of_row _ W.heap.size j _ _ (0, 0) (heap_alloc_new W _)]
    simpa using hu
  have h1c : ∀ u ∈ [Value.int .i64 (b : Int)], u.oneCell' = true := by intro u hu; simp only [List.mem_singleton] at hu; subst hu; rfl
  have hlen : (T ++ [b]).length = T.length + 1 := by simp
  rcases h with ⟨rfl, rfl⟩ | ⟨g, off, cap, cur, rfl, hb, hg, h1, h2, h3, h4⟩
  · obtain ⟨v', w', hrun, h2, h3, _, _⟩ := run_append_own_at (P := Tryd.prog) (W.alloc (.cells #[.int .i64 (b : Int)] 3)) base 69 69 3 i0 (.int .i64 0) 1 8 Tryd.underlying69 hi0 hz0 hz1 hz2 rfl (by omega) (.slice none 0 0) 0 [] (World.ownsRow_nil _ _ _ _) ⟨W.heap.size, 0, none⟩ 1 1 [.int .i64 (b : Int)] rfl
      hnew h1c (by unfold maxLen; omega) (by omega) (by simp; omega)
    refine ⟨v', w', hrun, ?_, Upd.of_grown (grown_pre h3)⟩
    rcases h2.2 with ⟨_, h⟩ | ⟨g, cap, cur, rfl, a1, a2, a3, a4, a5, a6⟩
    · omega
    · exact .inr ⟨g, 0, cap, cur, rfl, a1, a2, a3, a4, by omega, by simpa [natv] using a6⟩
  · have hgl : g < W.heap.size := (Array.getElem?_eq_some_iff.1 hg).1
    have hg' : (W.alloc (.cells #[.int .i64 (b : Int)] 3)).heap[g]? = some (.cells cur 3 (0, 0)) := (Below.heap_alloc W _ g hgl).trans hg
    have hold : OwnQ W base (.slice (some ⟨g, off, none⟩) T.length cap) T := .inr ⟨g, off, cap, cur, rfl, hb, hg, h1, h2, h3, h4⟩
    have htl : cur.toList.length = cur.size := Array.length_toList
    by_cases hroom : T.length + 1 ≤ cap
    · have hr := run_append_room_cells (P := Tryd.prog) (W.alloc (.cells #[.int .i64 (b : Int)] 3)) 69 69 3 i0 Tryd.underlying69 hi0 g off T.length cap ⟨W.heap.size, 0, none⟩ 1 1 [.int .i64 (b : Int)] (by rw [hz1]; rfl) hnew h1c hroom
        (fun j hj => by
          obtain rfl : j = 0 := by simpa using hj
          rw [hz1, Nat.mul_one, Nat.add_zero, cell_of_row _ g _ _ _ _ hg', Array.getElem?_eq_getElem (by omega)]
          rfl)
        (fun j _ => frozen_of_row _ g _ _ _ hg')
      rw [hz1, Nat.mul_one] at hr
      have hset : ((W.alloc (.cells #[.int .i64 (b : Int)] 3)).setCells g (off + T.length) [.int .i64 (b : Int)]).heap[g]? = some (.cells (cur.setIfInBounds (off + T.length) (.int .i64 (b : Int))) 3 (0, 0)) := heap_setCell_same _ g (off + T.length) _ _ _ hg'
      have hu : Upd (fun k => k = g) W ((W.alloc (.cells #[.int .i64 (b : Int)] 3)).setCells g (off + T.length) [.int .i64 (b : Int)]) :=
        ((Upd.refl (fun k => k = g) W).alloc _).setCell ⟨g, off + T.length, none⟩ rfl _
      refine ⟨_, _, hr, .inr ⟨g, off, cap, _, by rw [hlen], hb, hset, by rw [hlen]; exact hroom, h2, by rw [Array.size_setIfInBounds]; exact h3, ?_⟩, hu.mono fun k _ e => by rw [e]; rfl⟩
      rw [hlen, Array.toList_setIfInBounds, piece_set _ (by omega), h4, natv_append]
      rfl
    · have hr := run_append_grow (P := Tryd.prog) (W.alloc (.cells #[.int .i64 (b : Int)] 3)) 69 69 3 i0 (.int .i64 0) Tryd.underlying69 hi0 hz0 ⟨g, off, none⟩ T.length cap (natv T) (by rw [hz1, natv_length, Nat.mul_one])
        (fun j u hu => by
          rw [add_flat, (Upd.cell (S := fun _ => False) ((Upd.refl _ W).alloc _) hgl (fun h => h))]
          exact hold.holds j u hu) ⟨W.heap.size, 0, none⟩ 1 1 [.int .i64 (b : Int)] (by rw [hz1]; rfl) hnew (by omega) (by omega) (by rw [hz2]; exact growslice_fits (by omega) (by omega))
      have hge := grownCap_ge (W.alloc (.cells #[.int .i64 (b : Int)] 3)) (T.length + 1) cap 3
      have hcm2 : grownCap (W.alloc (.cells #[.int .i64 (b : Int)] 3)) (T.length + 1) cap 3 ≤ maxLen := grownCap_le_maxLen _ (T.length + 1) cap 3 (by unfold maxLen; omega)
      refine ⟨_, _, hr, .inr ⟨(W.alloc (.cells #[.int .i64 (b : Int)] 3)).heap.size, 0, _, _, by rw [hlen], by simp; omega, heap_alloc_new (W.alloc _).drew _, by rw [hlen]; exact hge, hcm2, ?_, ?_⟩, ⟨rfl, rfl, rfl, by simp; omega, fun k hk _ => by
        rw [heap_alloc_old (W.alloc _).drew _ (by simp; omega)]
        exact Below.heap_alloc W _ k hk⟩⟩
      · have hz1' : (Value.int IntKind.i64 0).cells.size = 1 := rfl
        simp only [Array.size_append, List.size_toArray, size_zeroCells, hz1', natv_length, List.length_cons, List.length_nil]
        omega
      · simp only [Array.toList_append, List.append_assoc, List.drop_zero]
        rw [← List.append_assoc, hlen, natv_append]
        have e3 : (natv T ++ [Value.int .i64 (b : Int)]).length = T.length + 1 := by rw [List.length_append, natv_length]; rfl
        rw [← e3]
        exact List.take_left
/-- 'append(q, b)', b in the newest block. -/
theorem wpList_pushQ {ops : Array Oper} {rest : List Oper} {o : Oper} {a : Act} {Q : Exit → Act → World → Prop} {W : World} (hgd : o.guard = none) (s x : Operand)
    (ho : o.op = .call { callee := .builtin .append, args := #[s, x], argTypes := #[69, 69] }) (hty : o.type = 69)
    (v : Value) (T : List Nat) (b base : Nat) (hs : a.eval s = v) (hown : OwnQ W base v T) (hx : a.eval x = .slice (some ⟨W.heap.size, 0, none⟩) 1 1) (hbase : base ≤ W.heap.size) (hl : T.length + 1 ≤ 1048576)
    (h : ∀ v' w', OwnQ w' base v' (T ++ [b]) → Upd (fun k => v.ownBlock = some k) W w' → wpList Tryd.prog ops Q rest (a.put o.dst v') w') : wpList Tryd.prog ops Q (o :: rest) a (W.alloc (.cells #[.int .i64 (b : Int)] 3)) := by
  refine wpList_plain hgd fun K hK => ?_
  obtain ⟨v', w', hr, h2, h3⟩ := pushQ_run W v T b base hown hbase hl
  rw [← hty] at hr
  unfold Oper.wp execOp
  rw [hty] at hr
  simp only [ho, hty, resolve, invoke, builtin, Sem.run_bind, Sem.run_pure, Result.andThen_ok, List.map_toArray, List.map_cons, List.map_nil, hs, hx, hr]
  exact hK _ _ (h v' w' h2 h3)
end Go.Proofs.YtegpanfcjfcaeaaDoor
/- Matchings: rows of numbers, and slices.Repeat of one number, walked. -/
namespace Go.Proofs.YtegpanfcjfcaeaaDoor
open Go.RowKit
set_option maxHeartbeats 1000000 in
theorem mul64_one (w : World) (n : Nat) (hn : n ≤ 200) :
    Calls Tryd.prog 106 #[.int .u64 1, .int .u64 n] w fun e w' => e = .returned (.tuple #[.int .u64 0, .int .u64 n]) ∧ w' = w := by
  have hA : bits BinOp.and IntKind.u64 1 4294967295 = 1 := by decide
  have hB : bits BinOp.and IntKind.u64 (n : Int) 4294967295 = (n : Int) := by
    have := bits_and_u64_nat n 4294967295 (by omega) (by decide)
    rw [show ((4294967295 : Nat) : Int) = 4294967295 from rfl] at this
    rw [this, nat_mask32]; omega
  have hD : (n : Int) / 4294967296 = 0 := by omega
  have hW : IntKind.u64.wrap (n : Int) = (n : Int) := by rw [IntKind.wrap_u64]; omega
  have hC : bits BinOp.and IntKind.u64 0 4294967295 = 0 := by decide
  have hZ : IntKind.u64.wrap 0 = 0 := by decide
  go_enter Tryd.func106, Tryd.ntmps106
  go_wp2
  go_ret2
  refine ⟨ret_two ?_ ?_, rfl⟩
  · simp [hA, hB, hD, hW, hC, hZ]
  · simp [hA, hB, hD, hW, hC, hZ]
theorem mul_one' (w : World) (n : Nat) (hn : n ≤ 200) :
    Calls Tryd.prog 93 #[.int .u64 1, .int .u64 n] w fun e w' => e = .returned (.tuple #[.int .u64 0, .int .u64 n]) ∧ w' = w := by
  go_enter Tryd.func93, Tryd.ntmps93
  go_wp2_with fail
  refine (mul64_one _ n hn).mono ?_
  rintro e w1 ⟨rfl, rfl⟩
  go_wp2
  go_ret2
  exact ⟨rfl, rfl⟩
/-- k numbers are laid, n - k are still to come. -/
def repN (k n : Nat) : List Int := List.replicate k (-1) ++ List.replicate (n - k) 0
theorem repN_len {k n : Nat} (h : k ≤ n) : (repN k n).length = n := by simp [repN]; omega
theorem repN_zero (n : Nat) : repN 0 n = List.replicate n 0 := by simp [repN]
theorem repN_full (n : Nat) : repN n n = List.replicate n (-1) := by simp [repN]
theorem splice_rep (k j n : Nat) (h : k + j ≤ n) : splice ((repN k n).map (Value.int .i64)) k ((List.replicate j (-1 : Int)).map (Value.int .i64)) = (repN (k + j) n).map (Value.int .i64) := by
  unfold splice repN
  simp only [List.map_append, List.map_replicate, List.length_replicate]
  rw [List.take_left' (by simp), ← List.append_assoc, List.replicate_append_replicate, List.drop_append, List.length_replicate]
  simp only [List.drop_replicate]
  rw [show k - (k + j) = 0 by omega, List.replicate_zero, List.nil_append, show n - k - (k + j - k) = n - (k + j) by omega]
theorem copy_rep_run (w : World) (ty : TypeId) (g k n c m cc : Nat) (ad : Addr) (hk : k ≤ n) (hr : Ints w g (repN k n)) (hsrc : ∀ j, j < m → w.cell? (ad.add j) = some (.int .i64 (-1))) (B : Nat) (w0 : World) (hb : Below B w0 w) (hBg : B ≤ g) :
    ∃ w', (Builtin.copy_ #[69, 69] ty #[.slice (some ⟨g, k, none⟩) (n - k) c, .slice (some ad) m cc]).run Tryd.prog w = .ok (.int .i64 ((min m (n - k) : Nat) : Int)) w' ∧ Ints w' g (repN (k + min m (n - k)) n) ∧ Below B w0 w' := by
  have hl : (repN k n).length = n := repN_len hk
  have h := run_copy_row (P := Tryd.prog) w 69 69 ty 3 g k (n - k) c ad m cc ((repN k n).map (Value.int .i64)).toArray 3 ((List.replicate (min m (n - k)) (-1 : Int)).map (Value.int .i64)) Tryd.underlying69 (by kernel_rfl) hr (by simp)
    (fun j v hv => by
      simp only [List.map_replicate, List.getElem?_replicate] at hv
      split at hv
      · injection hv with hv
        subst hv
        exact hsrc j (by omega)
      · cases hv) (by simp [hl]; omega) (fun v hv => by obtain ⟨x, _, rfl⟩ := List.mem_map.1 hv; rfl)
  have hs := splice_rep k (min m (n - k)) n (by omega)
  unfold splice at hs
  simp only [List.append_assoc] at h
  rw [hs] at h
  refine ⟨_, ?_, setRow_heap w g _ _ _ _ hr, below_setRow hb hBg _⟩
  rw [h]
  simp [goInt]
theorem wpList_copy_rep {ops : Array Oper} {rest : List Oper} {o : Oper} {a : Act} {w : World} {Q : Exit → Act → World → Prop} (hgd : o.guard = none) (d s : Operand)
    (ho : o.op = .call { callee := .builtin .copy, args := #[d, s], argTypes := #[69, 69] }) (g k n c m cc : Nat) (ad : Addr) (hd : a.eval d = .slice (some ⟨g, k, none⟩) (n - k) c) (hs : a.eval s = .slice (some ad) m cc)
    (hk : k ≤ n) (hr : Ints w g (repN k n)) (hsrc : ∀ j, j < m → w.cell? (ad.add j) = some (.int .i64 (-1))) (B : Nat) (w0 : World) (hb : Below B w0 w) (hBg : B ≤ g)
    (h : ∀ w', Ints w' g (repN (k + min m (n - k)) n) → Below B w0 w' → wpList Tryd.prog ops Q rest (a.put o.dst (.int .i64 ((min m (n - k) : Nat) : Int))) w') : wpList Tryd.prog ops Q (o :: rest) a w := by
  refine wpList_plain hgd fun K hK => ?_
  obtain ⟨w', hrun, h1, h2⟩ := copy_rep_run w o.type g k n c m cc ad hk hr hsrc B w0 hb hBg
  unfold Oper.wp
  simp [execOp, ho, resolve, invoke, builtin, hd, hs, hrun, Result.andThen]
  exact hK _ _ (h w' h1 h2)
theorem step_copy_rep {ops : Array Oper} {o : Oper} {a : Act} {w : World} {K : Act → World → Prop} {Q : Exit → Act → World → Prop} {E : Prop} (hgd : o.guard = none) (d s : Operand)
    (ho : o.op = .call { callee := .builtin .copy, args := #[d, s], argTypes := #[69, 69] }) (g k n c m cc : Nat) (ad : Addr) (hd : a.eval d = .slice (some ⟨g, k, none⟩) (n - k) c) (hs : a.eval s = .slice (some ad) m cc)
    (hk : k ≤ n) (hr : Ints w g (repN k n)) (hsrc : ∀ j, j < m → w.cell? (ad.add j) = some (.int .i64 (-1))) (B : Nat) (w0 : World) (hb : Below B w0 w) (hBg : B ≤ g)
    (h : ∀ w', Ints w' g (repN (k + min m (n - k)) n) → Below B w0 w' → K (a.put o.dst (.int .i64 ((min m (n - k) : Nat) : Int))) w') :
    if Region.wanted o (yielded ops a.tmps) = true then Oper.wp Tryd.prog o a w K Q else E := by
  have hw : Region.wanted o (yielded ops a.tmps) = true := by simp [Region.wanted, hgd]
  rw [if_pos hw]
  obtain ⟨w', hrun, h1, h2⟩ := copy_rep_run w o.type g k n c m cc ad hk hr hsrc B w0 hb hBg
  unfold Oper.wp
  simp [execOp, ho, resolve, invoke, builtin, hd, hs, hrun, Result.andThen]
  exact h w' h1 h2
set_option maxHeartbeats 4000000 in
set_option maxRecDepth 20000 in
theorem repeat_any (w : World) (g n : Nat) (hg : w.cell? ⟨g, 0, none⟩ = some (.int .i64 (-1))) (hgl : g < w.heap.size) (hn : n ≤ 200) :
    Calls Tryd.prog 83 #[.slice (some ⟨g, 0, none⟩) 1 1, .int .i64 n] w fun e w' => e = .returned (.slice (some ⟨w.heap.size, 0, none⟩) n n) ∧ Ints w' w.heap.size (List.replicate n (-1)) ∧ Below w.heap.size w w' := by
  have b1 : decide ((n : Int) < 0) = false := decide_eq_false (by omega)
  have b2 : IntKind.u64.wrap (n : Int) = (n : Int) := by rw [IntKind.wrap_u64]; omega
  have b3 : IntKind.i64.wrap (n : Int) = (n : Int) := IntWalk.i64_in _ (by omega)
  have b4 : decide ((n : Int) > 9223372036854775807) = false := decide_eq_false (by omega)
  go_enter Tryd.func83, Tryd.ntmps83
  go_wp2_with fail
  refine (mul_one' _ n hn).mono ?_
  rintro e w1 ⟨rfl, rfl⟩
  have hmk := fun w => mkints w n (by omega)
  have hw := made_ints w1 n
  have hbel := (Below.refl w1.heap.size w1).alloc (Nat.le_refl _) (.cells (Array.replicate n (Value.int .i64 0)) 3)
  have hc := (hbel.cell (p := ⟨g, 0, none⟩) hgl).trans hg
  rw [← repN_zero] at hw
  have HS : Hid (∀ j, j < 1 → (w1.alloc (.cells (Array.replicate n (Value.int .i64 0)) 3)).cell? ((⟨g, 0, none⟩ : Addr).add j) = some (.int .i64 (-1))) := Lib.hid fun j hj => by
    obtain rfl : j = 0 := by omega
    exact hc
  clear hc hg
  go_wp2_with ((refine wpList_copy_rep rfl (.tmp 31) (.tmp 32) rfl w1.heap.size 0 n n 1 1 ⟨g, 0, none⟩ rfl rfl (Nat.zero_le _) hw HS.out w1.heap.size w1 hbel (Nat.le_refl _) ?_))
  intro w2 hg2 hb2
  obtain ⟨k0, hk0⟩ : ∃ k0, k0 = min 1 n := ⟨_, rfl⟩
  rw [← hk0] at hg2 ⊢
  have HK0 := Lib.hid hk0
  clear hw hbel HS hmk hk0
  go_wp2
  go_loopw [8] (fun i wx => ∃ k : Nat, k ≤ n ∧ (0 < n → 0 < k) ∧ i = .int .i64 k ∧ Ints wx w1.heap.size (repN k n) ∧ Below w1.heap.size w1 wx) (fun i _ => n - (intOf i).toNat)
  case atStart => exact ⟨k0, by have := HK0.out; omega, by have := HK0.out; omega, rfl, hg2, hb2⟩
  case round =>
    obtain ⟨k, hk, hk0, rfl, hi, hb⟩ := hrel
    by_cases hlt : k < n
    · have i1 : (k : Int) < (n : Int) := by omega
      have b5 : decide ((k : Int) < (n : Int)) = true := decide_eq_true i1
      have hs : Hid (∀ j, j < k → wr.drew.cell? ((⟨w1.heap.size, 0, none⟩ : Addr).add j) = some (.int .i64 (-1))) := Lib.hid fun j hj => by
        rw [add_zero_off]
        have := hi.cell (k := j) (by rw [repN_len hk]; omega)
        rw [gi_get (by rw [repN_len hk]; omega)] at this
        unfold repN at this
        rw [List.getElem_append_left (by simpa using hj), List.getElem_replicate] at this
        exact this
      have hi' : Ints wr.drew w1.heap.size (repN k n) := hi
      have hb' : Below w1.heap.size w1 wr.drew := ⟨hb.os, hb.tape, hb.output, hb.size, hb.block⟩
      have b6 : (0 : Int) ≤ (k : Int) := by omega
      have b7 : (k : Int) ≤ (n : Int) := by omega
      have B8 : Hid (IntKind.i64.wrap ((k : Int) + ((min k (n - k) : Nat) : Int)) = ((k + min k (n - k) : Nat) : Int)) := Lib.hid (by rw [IntWalk.i64_in _ (by omega)]; omega)
      clear hi hb
      go_wp2
      go_region_law (refine step_copy_rep rfl (.tmp 41) (.tmp 44) rfl w1.heap.size k n (n - k) k n ⟨w1.heap.size, 0, none⟩ (by simp [Act.eval, Act.put]; omega) (by simp [Act.eval, Act.put]) hk hi' hs.out w1.heap.size w1 hb' (Nat.le_refl _) ?_; intro w4 hg4 hb4)
      all_goals go_wp2
      all_goals
        go_roundw
        case rel => exact ⟨k + min k (n - k), by omega, by omega, B8.out, hg4⟩
        case measure => rw [B8.out]; simp only [intOf]; omega
    · obtain rfl : k = n := by omega
      have b5 : decide ((k : Int) < (k : Int)) = false := decide_eq_false (by omega)
      rw [repN_full] at hi
      go_wp2
      go_ret
      exact ⟨rfl, hi, hb⟩
theorem none_any (w : World) (n : Nat) (hn : n ≤ 200) :
    Calls Tryd.prog 62 #[.int .i64 n] w fun e w' => ∃ g, e = .returned (.slice (some ⟨g, 0, none⟩) n n) ∧ w.heap.size ≤ g ∧ Ints w' g (List.replicate n (-1)) ∧ Below w.heap.size w w' := by
  go_enter Tryd.func62, Tryd.ntmps62
  have hb0 := (Below.refl w.heap.size w).alloc (Nat.le_refl _) (.cells #[.int .i64 (-1)] 3)
  have hz0 : w.heap.size < (w.alloc (.cells #[.int .i64 (-1)] 3)).heap.size := by simp
  have hc0 : (w.alloc (.cells #[.int .i64 (-1)] 3)).cell? ⟨w.heap.size, 0, none⟩ = some (.int .i64 (-1)) := by rw [cell_of_row _ w.heap.size 0 _ _ _ (heap_alloc_new w _)]; rfl
  go_wp2_with fail
  refine (repeat_any _ w.heap.size n hc0 hz0 hn).mono ?_
  rintro e w1 ⟨rfl, h1, h2⟩
  go_wp2
  go_ret
  exact ⟨(w.alloc (.cells #[.int .i64 (-1)] 3)).heap.size, by simp, Nat.le_of_lt hz0, h1, hb0.trans (h2.mono (Nat.le_of_lt hz0))⟩
end Go.Proofs.YtegpanfcjfcaeaaDoor
