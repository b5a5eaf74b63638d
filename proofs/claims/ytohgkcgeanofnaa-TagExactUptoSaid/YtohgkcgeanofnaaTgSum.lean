/- Digests: a new one, and the digest of the parts, walked. -/
import Derived.Test.YtohgkcgeanofnaaTgEnd
import Derived.Great.BuildSlice
namespace Go.Proofs.Ytohgkcgeanofnaa
open Go.RowKit
theorem kt_one : (u32v Kt).toArray.all (·.oneCell') = true := by decide +kernel
/-- A whole value goes over the head of a row. -/
theorem wpList_store_head {P : Program} {ops : Array Oper} {rest : List Oper} {o : Oper} {a : Act} {w : World} {Q : Exit → Act → World → Prop} (hgd : o.guard = none) (ty : TypeId) (x y : Operand) (ho : o.op = .store ty x y)
    (hd : o.dst = none) (g : Nat) (cells : Array Value) (hx : a.eval x = .pointer (some ⟨g, 0, none⟩)) (hy : a.eval y = .agg cells)
    (t : TypeId) (old : Array Value) (hg : w.heap[g]? = some (.cells old t (0, 0))) (hi : (P.info? ty).map (·.size) = some cells.size)
    (hold : cells.size ≤ old.size) (h1 : cells.all (·.oneCell') = true)
    (h : wpList P ops Q rest a (w.setRow g (cells.toList ++ old.toList.drop cells.size).toArray)) : wpList P ops Q (o :: rest) a w := by
  refine wpList_plain hgd fun K hK => ?_
  have hst := run_storeCells_atG P g 0 t (0, 0) cells.toList 0 old w hg (.inl (Nat.le_refl _)) (by simpa using hold) (fun v hv => (Array.all_eq_true_iff_forall_mem.1 h1) v (by simpa using hv))
  have hrun : (storeVar ty ⟨g, 0, none⟩ (.agg cells)).run P w = .ok () (w.setRow g (cells.toList ++ old.toList.drop cells.size).toArray) := by
    cases hq : P.info? ty with
    | none => simp [hq] at hi
    | some i =>
      have hs : cells.size = i.size := by simp [hq] at hi; omega
      simp only [Nat.add_zero, List.take_zero, List.nil_append, Nat.zero_add, Array.length_toList] at hst
      simp [storeVar, sizeOf, typeInfo, hq, Value.cells, hs, hst]
  unfold Oper.wp execOp
  simp only [ho, hx, hy, Instr.storeAt, Instr.sureAddr, Sem.run_bind, Sem.run_pure, Result.andThen_ok, hrun]
  exact hK _ _ (by rw [hd]; exact h)
set_option maxHeartbeats 8000000 in
set_option maxRecDepth 20000 in
theorem rounds_any (w : World) : Calls Try.prog 22 #[] w fun e w' => e = .returned (.agg (u32v Kt).toArray) ∧ Below w.heap.size w w' := by
  have hg : (w.alloc (.cells (List.replicate 64 (Value.int .u32 0)).toArray 41)).heap[w.heap.size]? = some (.cells (List.replicate 64 (Value.int .u32 0)).toArray 41 (0, 0)) := heap_alloc_new _ _
  go_enter Try.func22, Try.ntmps22
  go_wp2_with (first
    | refine wpList_buildTo rfl 41 _ rfl (some 1) rfl (u32v Kt).toArray (by kernel_rfl) ?_
    | refine wpList_store_rowTo rfl 41 (.tmp 0) (.tmp 1) rfl rfl w.heap.size (u32v Kt).toArray rfl rfl 41 _ hg rfl rfl kt_one ?_)
  refine bodyPost_ret (results_cell_row rfl _ _ w.heap.size 41 (u32v Kt).toArray (0, 0) _ rfl (setRow_heap _ _ _ _ _ _ hg) rfl rfl rfl) rfl ?_
  exact ⟨rfl, below_setRow ((Below.refl _ _).alloc (Nat.le_refl _) _) (Nat.le_refl _) _⟩
set_option maxHeartbeats 8000000 in
set_option maxRecDepth 20000 in
theorem new_any (w : World) : Calls Try.prog 13 #[] w fun e w' => ∃ d, e = .returned (.pointer (some ⟨d, 0, none⟩)) ∧ Dg w' w.heap.size d H0 (.slice none 0 0) [] 0 ∧ Below w.heap.size w w' := by
  go_enter Try.func13, Try.ntmps13
  go_wp2_with fail
  refine (rounds_any w).mono ?_
  rintro e w1 ⟨rfl, hb1⟩
  obtain ⟨cs, hcs⟩ : ∃ cs, cs = (u32v (List.replicate 8 0 ++ Kt) ++ [Value.slice none 0 0, Value.int .u64 ((0 : Nat) : Int)]).toArray := ⟨_, rfl⟩
  have hsz : cs.size = 74 := by rw [hcs]; rfl
  have HCS := Lib.hid hcs
  clear hcs
  go_wp2_with (first
    | refine wpList_buildTo rfl 54 _ rfl (some 3) rfl cs (by rw [HCS.out]; kernel_rfl) ?_
    | refine wpList_store_head rfl 51 (.tmp 8) (.tmp 6) rfl rfl w1.heap.size (u32v H0).toArray rfl rfl 54 cs (heap_alloc_new w1 _) rfl (by rw [hsz]; decide) (by decide +kernel) ?_)
  go_ret
  have hd : RowD ((w1.alloc (.cells cs 54)).setRow w1.heap.size (u32v H0 ++ cs.toList.drop (u32v H0).toArray.size).toArray) w1.heap.size H0 (.slice none 0 0) 0 := by
    unfold RowD
    rw [setRow_heap _ _ _ _ _ _ (heap_alloc_new w1 (.cells cs 54)), HCS.out]
    rfl
  refine ⟨w1.heap.size, rfl, ⟨hd, rfl, H0_lt, .inl ⟨rfl, rfl⟩, hb1.size, by simp [Value.ownBlock], by decide⟩, below_setRow (hb1.alloc hb1.size _) hb1.size _⟩
/-- '[]byte(s)' in memory. -/
theorem rd_bytes (w : World) (s : ByteArray) (cap : Nat) (e : TypeId) (fr : Nat × Nat) : Rd (w.alloc (.cells (bytesRow s cap) e fr)).drew (w.heap.size + 1) 1 (some ⟨w.heap.size, 0, none⟩) s.data.toList.length (bytv s.data.toList) := by
  refine ⟨by simp [bytv], fun _ => ⟨_, rfl, by simp, fun j u hu => ?_⟩⟩
  rw [add_zero_off]
  show (w.alloc (.cells (bytesRow s cap) e fr)).cell? ⟨w.heap.size, j, none⟩ = some u
  rw [World.cell?_alloc_mark]
  have hj : j < (bytv s.data.toList).length := (List.getElem?_eq_some_iff.1 hu).1
  rw [bytv_length] at hj
  unfold bytesRow
  rw [Array.getElem?_append_left (by simpa using hj)]
  rw [bytv_get _ _ hj] at hu
  simp at hj
  simp [hj]
  simpa using hu
/-- The parts, one behind the other. -/
def allB (ps : List ByteArray) : List UInt8 := ps.flatMap (·.data.toList)
theorem allB_take (ps : List ByteArray) (k : Nat) (s : ByteArray) (h : ps[k]? = some s) : allB (ps.take (k + 1)) = allB (ps.take k) ++ s.data.toList := by
  unfold allB
  rw [List.take_add_one, h, List.flatMap_append]
  simp
set_option maxHeartbeats 8000000 in
set_option maxRecDepth 20000 in
theorem sum_any (w : World) (A : Option Addr) (n c : Nat) (ps : List ByteArray) (hr : Rd w w.heap.size 1 A n (strv ps)) (hn : n ≤ 17592186044416) (hs : ∀ p ∈ ps, p.size ≤ 140737488351232) :
    Calls Try.prog 7 #[.slice A n c] w fun e w' => e = .returned (.string ⟨(sumB (allB ps)).toArray⟩) ∧ Below w.heap.size w w' := by
  go_enter Try.func7, Try.ntmps7
  go_wp2_with fail
  refine (new_any w).mono ?_
  rintro e w1 ⟨d, rfl, hD1, hb1⟩
  go_wp2
  have hcv := fun w s => run_bytes_of_string (P := Try.prog) w 9 29 5 s Try.underlying9 Try.underlying29 Try.underlying5
  have hpl : ps.length = n := by have := hr.len; rw [strv_length] at this; omega
  go_loopw [5, 9] (fun _ i wx => ∃ (k : Nat) (rv : Value) (nk : Nat), k ≤ n ∧ i = .int .i64 k ∧ Dg wx w.heap.size d (fed H0 (allB (ps.take k))).1 rv (fed H0 (allB (ps.take k))).2 nk ∧ nk = (allB (ps.take k)).length % 18446744073709551616 ∧ Below w.heap.size w wx) (fun _ i _ => n - (intOf i).toNat)
  case atStart => exact ⟨0, _, 0, Nat.zero_le _, rfl, hD1, rfl, hb1⟩
  case round =>
    clear hD1 hb1
    obtain ⟨k, rv, nk, hk, rfl, hD, hnk, hB⟩ := hrel
    by_cases hlt : k < n
    · obtain ⟨ad, rfl, hA, hks, hc⟩ := (hr.below hB).str hlt
      obtain ⟨x, hx⟩ : ∃ x, x = ps[k] := ⟨_, rfl⟩
      rw [← hx] at hc
      have hxs : x.size ≤ 140737488351232 := by rw [hx]; exact hs _ (List.getElem_mem _)
      have ht : allB (ps.take (k + 1)) = allB (ps.take k) ++ x.data.toList := allB_take ps k x (by rw [hx]; exact List.getElem?_eq_getElem hks)
      have hxl : x.data.toList.length = x.size := by simp
      have HX := Lib.hid hx
      have HT := Lib.hid ht
      have HB := Lib.hid hB
      have HXL := Lib.hid hxl
      have HNK := Lib.hid hnk
      clear hx ht hB hxl hnk
      have m4 : (k : Int) < n := by omega
      go_wp2_with fail
      have hbr : Below w.heap.size wr (wr.alloc (.cells (bytesRow x (grownCap wr x.size 0 5)) 5 ((bytesRow x (grownCap wr x.size 0 5)).size, (bytesRow x (grownCap wr x.size 0 5)).size + 1))).drew := below_drew1 ((Below.refl _ _).alloc hD.le _)
      refine (add_any _ w.heap.size d _ rv _ nk (some ⟨wr.heap.size, 0, none⟩) x.size _ x.data.toList (hD.upd (S := fun _ => False) (((Upd.refl _ wr).alloc _).drewN 1) (fun _ _ _ h => h)) ?_ ?_).mono ?_
      · have h1 := rd_bytes wr x (grownCap wr x.size 0 5) 5 ((bytesRow x (grownCap wr x.size 0 5)).size, (bytesRow x (grownCap wr x.size 0 5)).size + 1)
        rw [HXL.out] at h1
        exact h1.mono (by simp [World.drew])
      · have := fed_rest (allB (ps.take k)) H0
        rw [HXL.out]
        omega
      rintro e w2 ⟨rfl, ⟨rv2, hD2⟩, hb2⟩
      rw [← fed_append, ← HT.out] at hD2
      go_wp2
      refine ⟨⟨k + 1, rv2, _, by omega, by go_num, hD2, ?_, (HB.out.trans hbr).trans hb2⟩, ?_⟩
      · rw [HT.out, HNK.out, List.length_append]
        omega
      · simp [intOf]; omega
    · obtain rfl : k = n := by omega
      have e1 : ps.take k = ps := List.take_of_length_le (by omega)
      rw [e1] at hD hnk
      go_wp2_with fail
      refine (end_any wr _ d _ rv _ nk hD (fed_rest _ _)).mono ?_
      rintro e w2 ⟨rfl, hb2⟩
      go_wp2
      go_ret
      exact ⟨rfl, hB.trans hb2⟩
end Go.Proofs.Ytohgkcgeanofnaa
