/- Matchings: a queue of numbers, of the call's own: 'q = q[1:]', 'q = append(q, x)'. -/
import Derived.Test.YtmekcpbcgelliaaFlGraph
namespace Go.Proofs.Ytmekcpbcgelliaa
open Go.RowKit
/-- The slice value v owns the numbers T, from some place of its row on. -/
def OwnQ (w : World) (base : Nat) (v : Value) (T : List Nat) : Prop :=
  (v = .slice none 0 0 ∧ T = []) ∨
  ∃ g off cap cur, v = .slice (some ⟨g, off, none⟩) T.length cap ∧ base ≤ g ∧ w.heap[g]? = some (.cells cur 3 (0, 0)) ∧ T.length ≤ cap ∧ cap ≤ maxLen ∧ off + cap ≤ cur.size ∧ (cur.toList.drop off).take T.length = natv T
section
variable {w w' : World} {base : Nat} {v : Value} {T : List Nat}
theorem OwnQ.nil : OwnQ w base (.slice none 0 0) [] := .inl ⟨rfl, rfl⟩
theorem OwnQ.lt (h : OwnQ w base v T) : ∀ k, v.ownBlock = some k → base ≤ k ∧ k < w.heap.size := by
  intro k hk
  rcases h with ⟨rfl, _⟩ | ⟨g, off, cap, cur, rfl, hb, hg, _⟩
  · simp [Value.ownBlock] at hk
  · simp [Value.ownBlock] at hk
    subst hk
    exact ⟨hb, (Array.getElem?_eq_some_iff.1 hg).1⟩
theorem OwnQ.upd {S : Nat → Prop} (h : OwnQ w base v T) (hu : Upd S w w') (hs : ∀ k, v.ownBlock = some k → ¬ S k) : OwnQ w' base v T := by
  rcases h with hn | ⟨g, off, cap, cur, rfl, hb, hg, rest⟩
  · exact .inl hn
  · exact .inr ⟨g, off, cap, cur, rfl, hb, (hu.block g (Array.getElem?_eq_some_iff.1 hg).1 (hs g rfl)).trans hg, rest⟩
theorem OwnQ.shape (h : OwnQ w base v T) : ∃ A c, v = .slice A T.length c := by
  rcases h with ⟨rfl, rfl⟩ | ⟨g, off, cap, cur, rfl, _⟩
  · exact ⟨_, _, rfl⟩
  · exact ⟨_, _, rfl⟩
theorem OwnQ.holds {g off n c : Nat} (h : OwnQ w base (.slice (some ⟨g, off, none⟩) n c) T) : ∀ j u, (natv T)[j]? = some u → w.cell? ⟨g, off + j, none⟩ = some u := by
  rcases h with ⟨hv, _⟩ | ⟨g', off', cap, cur, hv, hb, hg, h1, h2, h3, h4⟩
  · cases hv
  · injection hv with e1 e2 e3
    injection e1 with e1
    injection e1 with e1 e4
    subst e1; subst e4
    intro j u hu
    have hlt : j < (natv T).length := (List.getElem?_eq_some_iff.1 hu).1
    rw [cell_of_row w g (off + j) cur _ _ hg]
    rw [← h4, List.getElem?_take, if_pos (by rw [natv_length] at hlt; exact hlt), List.getElem?_drop] at hu
    simpa using hu
/-- The first one, and what is left. -/
theorem OwnQ.head {A : Option Addr} {n c a : Nat} (h : OwnQ w base (.slice A n c) (a :: T)) :
    ∃ g off, A = some ⟨g, off, none⟩ ∧ n = T.length + 1 ∧ 1 ≤ c ∧ w.cell? ⟨g, off, none⟩ = some (.int .i64 (a : Int)) ∧ base ≤ g ∧ g < w.heap.size ∧
      (c = 1 → OwnQ w base (.slice (some ⟨g, off, none⟩) T.length 0) T) ∧ OwnQ w base (.slice (some ⟨g, off + 1, none⟩) T.length (c - 1)) T := by
  have h0 := h
  rcases h with ⟨_, hv⟩ | ⟨g, off, cap, cur, hv, hb, hg, h1, h2, h3, h4⟩
  · cases hv
  · injection hv with e1 e2 e3
    subst e1; subst e2; subst e3
    have hc := h0.holds 0 (.int .i64 (a : Int)) (by simp [natv])
    simp only [List.length_cons] at h1
    refine ⟨g, off, rfl, by simp, by omega, hc, hb, (Array.getElem?_eq_some_iff.1 hg).1, fun e => ?_, ?_⟩
    · subst e
      have hT : T = [] := List.eq_nil_of_length_eq_zero (by omega)
      subst hT
      exact .inr ⟨g, off, 0, cur, rfl, hb, hg, Nat.le_refl _, Nat.zero_le _, by omega, by simp [natv]⟩
    · refine .inr ⟨g, off + 1, c - 1, cur, rfl, hb, hg, by omega, by omega, by omega, ?_⟩
      rw [← List.drop_drop]
      have e : (cur.toList.drop off).take (T.length + 1) = natv (a :: T) := h4
      have e2 := congrArg (List.drop 1) e
      rw [List.drop_take] at e2
      simpa [natv] using e2
end
theorem piece_set {l : List Value} {off n : Nat} (v : Value) (h : off + n < l.length) : ((l.set (off + n) v).drop off).take (n + 1) = (l.drop off).take n ++ [v] := by
  apply List.ext_getElem?
  intro j
  rw [List.getElem?_take, List.getElem?_drop, List.getElem?_set, List.getElem?_append, List.length_take, List.length_drop, List.getElem?_take, List.getElem?_drop]
  have hm : min n (l.length - off) = n := by omega
  rw [hm]
  by_cases h1 : j < n
  · rw [if_pos (by omega), if_neg (by omega), if_pos h1, if_pos h1]
  · rw [if_neg h1]
    by_cases h2 : j = n
    · subst h2
      rw [if_pos (by omega), if_pos rfl, if_pos h, Nat.sub_self]
      rfl
    · rw [if_neg (by omega), List.getElem?_eq_none (by simp; omega)]
/-- 'append(q, b)' runs. -/
theorem pushQ_run (W : World) (v : Value) (T : List Nat) (b base : Nat) (h : OwnQ W base v T) (hbase : base ≤ W.heap.size) (hl : T.length + 1 ≤ 1048576) :
    ∃ v' w', (Builtin.append_ #[39, 39] 39 #[v, .slice (some ⟨W.heap.size, 0, none⟩) 1 1]).run Try.prog (W.alloc (.cells #[.int .i64 (b : Int)] 3)) = .ok v' w' ∧
      OwnQ w' base v' (T ++ [b]) ∧ Upd (fun k => v.ownBlock = some k) W w' := by
  obtain ⟨i0, hi0, hz0, hz1, hz2⟩ := info_parts int_info
  have hnew : ∀ j u, [Value.int .i64 (b : Int)][j]? = some u → (W.alloc (.cells #[.int .i64 (b : Int)] 3)).cell? ((⟨W.heap.size, 0, none⟩ : Addr).add j) = some u := fun j u hu => by
    rw [add_zero_off, cell_of_row _ W.heap.size j _ _ (0, 0) (heap_alloc_new W _)]
    simpa using hu
  have h1c : ∀ u ∈ [Value.int .i64 (b : Int)], u.oneCell' = true := by intro u hu; simp only [List.mem_singleton] at hu; subst hu; rfl
  have hlen : (T ++ [b]).length = T.length + 1 := by simp
  rcases h with ⟨rfl, rfl⟩ | ⟨g, off, cap, cur, rfl, hb, hg, h1, h2, h3, h4⟩
  · obtain ⟨v', w', hrun, h2, h3, _, _⟩ := run_append_own_at (P := Try.prog) (W.alloc (.cells #[.int .i64 (b : Int)] 3)) base 39 39 3 i0 (.int .i64 0) 1 8 Try.underlying39 hi0 hz0 hz1 hz2 rfl (by omega) (.slice none 0 0) 0 [] (World.ownsRow_nil _ _ _ _) ⟨W.heap.size, 0, none⟩ 1 1 [.int .i64 (b : Int)] rfl
      hnew h1c (by unfold maxLen; omega) (by omega) (by simp; omega)
    refine ⟨v', w', hrun, ?_, Upd.of_grown (grown_pre h3)⟩
    rcases h2.2 with ⟨_, h⟩ | ⟨g, cap, cur, rfl, a1, a2, a3, a4, a5, a6⟩
    · omega
    · exact .inr ⟨g, 0, cap, cur, rfl, a1, a2, a3, a4, by omega, by simpa [natv] using a6⟩
  · have hgl : g < W.heap.size := (Array.getElem?_eq_some_iff.1 hg).1
    have hg' : (W.alloc (.cells #[.int .i64 (b : Int)] 3)).heap[g]? = some (.cells cur 3 (0, 0)) := (Below.heap_alloc W _ g hgl).trans hg
    have hold : OwnQ W base (.slice (some ⟨g, off, none⟩) T.length cap) T := .inr ⟨g, off, cap, cur, rfl, hb, hg, h1, h2, h3, h4⟩
    have htl : cur.toList.length = cur.size := Array.length_toList
    by_cases hroom : T.length + 1 ≤ cap
    · have hr := run_append_room_cells (P := Try.prog) (W.alloc (.cells #[.int .i64 (b : Int)] 3)) 39 39 3 i0 Try.underlying39 hi0 g off T.length cap ⟨W.heap.size, 0, none⟩ 1 1 [.int .i64 (b : Int)] (by rw [hz1]; rfl) hnew h1c hroom
        (fun j hj => by
          obtain rfl : j = 0 := by simpa using hj
          rw [hz1, Nat.mul_one, Nat.add_zero, cell_of_row _ g _ _ _ _ hg', Array.getElem?_eq_getElem (by omega)]
          rfl)
        (fun j _ => frozen_of_row _ g _ _ _ hg')
      rw [hz1, Nat.mul_one] at hr
      have hset : ((W.alloc (.cells #[.int .i64 (b : Int)] 3)).setCells g (off + T.length) [.int .i64 (b : Int)]).heap[g]? = some (.cells (cur.setIfInBounds (off + T.length) (.int .i64 (b : Int))) 3 (0, 0)) := heap_setCell_same _ g (off + T.length) _ _ _ hg'
      have hu : Upd (fun k => k = g) W ((W.alloc (.cells #[.int .i64 (b : Int)] 3)).setCells g (off + T.length) [.int .i64 (b : Int)]) :=
        ((Upd.refl (fun k => k = g) W).alloc _).setCell ⟨g, off + T.length, none⟩ rfl _
      refine ⟨_, _, hr, .inr ⟨g, off, cap, _, by rw [hlen], hb, hset, by rw [hlen]; exact hroom, h2, by rw [Array.size_setIfInBounds]; exact h3, ?_⟩, hu.mono fun k _ e => by rw [e]; rfl⟩
      rw [hlen, Array.toList_setIfInBounds, piece_set _ (by omega), h4, natv_append]
      rfl
    · have hr := run_append_grow (P := Try.prog) (W.alloc (.cells #[.int .i64 (b : Int)] 3)) 39 39 3 i0 (.int .i64 0) Try.underlying39 hi0 hz0 ⟨g, off, none⟩ T.length cap (natv T) (by rw [hz1, natv_length, Nat.mul_one])
        (fun j u hu => by
          rw [add_flat, (Upd.cell (S := fun _ => False) ((Upd.refl _ W).alloc _) hgl (fun h => h))]
          exact hold.holds j u hu) ⟨W.heap.size, 0, none⟩ 1 1 [.int .i64 (b : Int)] (by rw [hz1]; rfl) hnew (by omega) (by omega) (by rw [hz2]; exact growslice_fits (by omega) (by omega))
      have hge := grownCap_ge (W.alloc (.cells #[.int .i64 (b : Int)] 3)) (T.length + 1) cap 3
      have hcm2 : grownCap (W.alloc (.cells #[.int .i64 (b : Int)] 3)) (T.length + 1) cap 3 ≤ maxLen := grownCap_le_maxLen _ (T.length + 1) cap 3 (by unfold maxLen; omega)
      refine ⟨_, _, hr, .inr ⟨(W.alloc (.cells #[.int .i64 (b : Int)] 3)).heap.size, 0, _, _, by rw [hlen], by simp; omega, heap_alloc_new (W.alloc _).drew _, by rw [hlen]; exact hge, hcm2, ?_, ?_⟩, ⟨rfl, rfl, rfl, by simp; omega, fun k hk _ => by
        rw [heap_alloc_old (W.alloc _).drew _ (by simp; omega)]
        exact Below.heap_alloc W _ k hk⟩⟩
      · have hz1' : (Value.int IntKind.i64 0).cells.size = 1 := rfl
        simp only [Array.size_append, List.size_toArray, size_zeroCells, hz1', natv_length, List.length_cons, List.length_nil]
        omega
      · simp only [Array.toList_append, List.append_assoc, List.drop_zero]
        rw [← List.append_assoc, hlen, natv_append]
        have e3 : (natv T ++ [Value.int .i64 (b : Int)]).length = T.length + 1 := by rw [List.length_append, natv_length]; rfl
        rw [← e3]
        exact List.take_left
/-- 'append(q, b)', b in the newest block. -/
theorem wpList_pushQ {ops : Array Oper} {rest : List Oper} {o : Oper} {a : Act} {Q : Exit → Act → World → Prop} {W : World} (hgd : o.guard = none) (s x : Operand)
    (ho : o.op = .call { callee := .builtin .append, args := #[s, x], argTypes := #[39, 39] }) (hty : o.type = 39)
    (v : Value) (T : List Nat) (b base : Nat) (hs : a.eval s = v) (hown : OwnQ W base v T) (hx : a.eval x = .slice (some ⟨W.heap.size, 0, none⟩) 1 1) (hbase : base ≤ W.heap.size) (hl : T.length + 1 ≤ 1048576)
    (h : ∀ v' w', OwnQ w' base v' (T ++ [b]) → Upd (fun k => v.ownBlock = some k) W w' → wpList Try.prog ops Q rest (a.put o.dst v') w') : wpList Try.prog ops Q (o :: rest) a (W.alloc (.cells #[.int .i64 (b : Int)] 3)) := by
  refine wpList_plain hgd fun K hK => ?_
  obtain ⟨v', w', hr, h2, h3⟩ := pushQ_run W v T b base hown hbase hl
  rw [← hty] at hr
  unfold Oper.wp execOp
  rw [hty] at hr
  simp only [ho, hty, resolve, invoke, builtin, Sem.run_bind, Sem.run_pure, Result.andThen_ok, List.map_toArray, List.map_cons, List.map_nil, hs, hx, hr]
  exact hK _ _ (h v' w' h2 h3)
end Go.Proofs.Ytmekcpbcgelliaa
