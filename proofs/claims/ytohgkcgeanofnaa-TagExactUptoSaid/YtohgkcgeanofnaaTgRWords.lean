/- Digests: the reference's words, walked. -/
import Derived.Test.YtohgkcgeanofnaaTgRTurn
namespace Go.Proofs.Ytohgkcgeanofnaa
open Go.RowKit
/-- The word i of 64 bytes, after j of its bytes. -/
def bej (b : List UInt8) (i : Nat) : Nat → Nat
  | 0 => 0
  | j + 1 => 256 * bej b i j + (b.getD (4 * i + j) 0).toNat
theorem bej_lt (b : List UInt8) (i : Nat) : ∀ j, j ≤ 4 → bej b i j < 256 ^ j
  | 0, _ => Nat.one_pos
  | j + 1, h => by
    have h1 := bej_lt b i j (by omega)
    have h2 := (b.getD (4 * i + j) 0).toNat_lt
    rw [bej, Nat.pow_succ]
    omega
theorem bej_four (b : List UInt8) (i : Nat) : bej b i 4 = be b i := by
  unfold be
  simp only [bej, Nat.add_zero]
  omega
theorem pad_set (b : List UInt8) (i j n x : Nat) : (wds b i ++ bej b i j :: List.replicate n 0).set i x = wds b i ++ x :: List.replicate n 0 := by
  rw [List.set_append_right _ _ (by rw [wds_length]; exact Nat.le_refl _), wds_length, Nat.sub_self, List.set_cons_zero]
theorem pad_at (b : List UInt8) (i x n : Nat) : (wds b i ++ x :: List.replicate n 0).getD i 0 = x := by
  rw [List.getD_eq_getElem?_getD, List.getElem?_append_right (by rw [wds_length]; exact Nat.le_refl _), wds_length, Nat.sub_self]
  rfl
theorem nw_fold2 (U V X Y : Nat) (hX : X < 4294967296) (hY : Y < 4294967296) :
    (bits BinOp.xor IntKind.u32 (bits BinOp.xor IntKind.u32 (rotr 17 Y : Int) (rotr 19 Y : Int)) ((Y : Int) / 1024) + (V : Int) + bits BinOp.xor IntKind.u32 (bits BinOp.xor IntKind.u32 (rotr 7 X : Int) (rotr 18 X : Int)) ((X : Int) / 8) + (U : Int)) % 4294967296 =
      (((U + V + sg0 X + sg1 Y) % 4294967296 : Nat) : Int) := by
  rw [← nw_fold U V X Y hX hY]
  congr 1
  omega
theorem u32v_one (l : List Nat) : (u32v l).toArray.all (·.oneCell') = true := by
  rw [Array.all_eq_true_iff_forall_mem]
  intro v hv
  rw [List.mem_toArray, u32v, List.mem_map] at hv
  obtain ⟨x, _, rfl⟩ := hv
  rfl
set_option maxHeartbeats 4000000 in
set_option maxRecDepth 20000 in
theorem rwords_any (w : World) (r ro bc : Nat) (b : List UInt8) (hb : Rd w w.heap.size 1 (some ⟨r, ro, none⟩) 64 (bytv b)) :
    Calls Try.prog 18 #[.slice (some ⟨r, ro, none⟩) 64 bc] w fun e w' => e = .returned (.agg (u32v (wds b 64)).toArray) ∧ Below w.heap.size w w' := by
  have hbl : b.length = 64 := by have := hb.len; rw [bytv_length] at this; omega
  go_enter Try.func18, Try.ntmps18
  go_wp2
  have hr3 : RowU ((w.alloc (.cells (List.replicate 64 (Value.int .u32 0)).toArray 41)).alloc (.cells (List.replicate 64 (Value.int .u32 0)).toArray 41)) (w.heap.size + 1) 41 (wds b 0 ++ List.replicate 64 0) := by
    have h1 := heap_alloc_new (w.alloc (.cells (List.replicate 64 (Value.int .u32 0)).toArray 41)) (.cells (List.replicate 64 (Value.int .u32 0)).toArray 41)
    have h2 : (w.alloc (.cells (List.replicate 64 (Value.int .u32 0)).toArray 41)).heap.size = w.heap.size + 1 := by simp
    rw [h2] at h1
    exact h1
  have hr2 : RowU ((w.alloc (.cells (List.replicate 64 (Value.int .u32 0)).toArray 41)).alloc (.cells (List.replicate 64 (Value.int .u32 0)).toArray 41)) w.heap.size 41 (List.replicate 64 0) := by
    unfold RowU
    rw [heap_alloc_old _ _ (by simp)]
    exact heap_alloc_new w (.cells (List.replicate 64 (Value.int .u32 0)).toArray 41)
  have hbA : Below w.heap.size w ((w.alloc (.cells (List.replicate 64 (Value.int .u32 0)).toArray 41)).alloc (.cells (List.replicate 64 (Value.int .u32 0)).toArray 41)) := ((Below.refl _ _).alloc (Nat.le_refl _) _).alloc (by simp) _
  go_loopw [4, 5] (fun i _ wx => ∃ k : Nat, k ≤ 16 ∧ i = .int .i64 k ∧ RowU wx (w.heap.size + 1) 41 (wds b k ++ List.replicate (64 - k) 0) ∧ RowU wx w.heap.size 41 (List.replicate 64 0) ∧ Below w.heap.size w wx) (fun i _ _ => 16 - (intOf i).toNat)
  case atStart => exact ⟨0, Nat.zero_le _, rfl, hr3, hr2, hbA⟩
  case round =>
    clear hr3 hr2 hbA
    obtain ⟨k, hk, rfl, hr3, hr2, hbx⟩ := hrel
    by_cases hlt : k < 16
    · have hr3' : RowU wr (w.heap.size + 1) 41 (wds b k ++ bej b k 0 :: List.replicate (63 - k) 0) := by
        rw [show 64 - k = 63 - k + 1 by omega, List.replicate_succ] at hr3
        exact hr3
      clear hr3
      go_wp2
      try simp only [show decide ((k : Int) < 16) = true from decide_eq_true (by omega)]
      go_loopw [5] (fun jv wx => ∃ j : Nat, j ≤ 4 ∧ jv = .int .i64 j ∧ RowU wx (w.heap.size + 1) 41 (wds b k ++ bej b k j :: List.replicate (63 - k) 0) ∧ RowU wx w.heap.size 41 (List.replicate 64 0) ∧ Below w.heap.size w wx) (fun jv _ => 4 - (intOf jv).toNat)
      case atStart => exact ⟨0, Nat.zero_le _, rfl, hr3', hr2, hbx⟩
      case round =>
        clear hr3' hr2 hbx
        obtain ⟨j, hj, rfl, hr3, hr2, hbx⟩ := hrel
        by_cases hlj : j < 4
        · obtain ⟨ad, hA, _, hc⟩ := (hb.below hbx).at_ (by omega)
          injection hA with hA
          subst hA
          have c1 := hc (4 * k + j) _ (bytv_get b (4 * k + j) (by omega))
          rw [add_flat0] at c1
          obtain ⟨x, hx⟩ : ∃ x, x = b[4 * k + j]'(by omega) := ⟨_, rfl⟩
          rw [← hx] at c1
          have hx2 : x = b.getD (4 * k + j) 0 := by rw [hx, List.getD_eq_getElem?_getD, List.getElem?_eq_getElem (by omega)]; rfl
          have c0 := hr3.cell k (by rw [List.length_append, wds_length, List.length_cons]; omega)
          rw [pad_at] at c0
          have hf := hr3.free k
          obtain ⟨y, hy⟩ : ∃ y, y = bej b k j := ⟨_, rfl⟩
          rw [← hy] at c0
          have hyl : y < 16777216 := by
            have h1 := bej_lt b k j (by omega)
            have h2 : 256 ^ j ≤ 256 ^ 3 := Nat.pow_le_pow_right (by decide) (by omega)
            rw [hy]
            exact Nat.lt_of_lt_of_le h1 h2
          have HX := Lib.hid hx2
          have HY := Lib.hid hy
          have H3 := Lib.hid hr3
          have H2 := Lib.hid hr2
          clear hc hx hx2 hy hr3 hr2
          have n1 : (4 * (k : Int) + (j : Int)).toNat = 4 * k + j := by omega
          have m1 : 4 * (k : Int) + (j : Int) < 64 := by omega
          have l1 : 0 ≤ 4 * (k : Int) + (j : Int) := by omega
          have m5 : (k : Int) < 64 := by omega
          have o0 : IntKind.i64.wrap (4 * (k : Int)) = 4 * (k : Int) := IntWalk.i64_in _ (by omega)
          have o1 : IntKind.i64.wrap (4 * (k : Int) + (j : Int)) = 4 * (k : Int) + (j : Int) := IntWalk.i64_in _ (by omega)
          have hxl := x.toNat_lt
          go_wp2
          go_still_tail 15, (by kernel_rfl)
          change wpList _ _ _ _ _ wr.drew
          go_wp2
          have e1 : (256 : Int) * y + (x.toNat : Int) = ((256 * y + x.toNat : Nat) : Int) := by omega
          have e2 : 256 * y + x.toNat = bej b k (j + 1) := by rw [bej, ← HY.out, ← HX.out]
          rw [e1, e2]
          have hs3 : RowU (wr.setCell ⟨w.heap.size + 1, k, none⟩ (.int .u32 ((bej b k (j + 1) : Nat) : Int))).drew (w.heap.size + 1) 41 (wds b k ++ bej b k (j + 1) :: List.replicate (63 - k) 0) := by
            have h1 := H3.out.set k (bej b k (j + 1))
            rw [pad_set] at h1
            exact h1
          have hs2 : RowU (wr.setCell ⟨w.heap.size + 1, k, none⟩ (.int .u32 ((bej b k (j + 1) : Nat) : Int))).drew w.heap.size 41 (List.replicate 64 0) := by
            have h1 := heap_setCell_other wr ⟨w.heap.size + 1, k, none⟩ w.heap.size (.int .u32 ((bej b k (j + 1) : Nat) : Int)) (by simp)
            exact h1.trans H2.out
          have hbs := below_drew1 (hbx.setCell (p := ⟨w.heap.size + 1, k, none⟩) (Nat.le_succ _) (.int .u32 ((bej b k (j + 1) : Nat) : Int)))
          go_roundw
          case rel => exact ⟨j + 1, by omega, by go_num, hs3, hs2, hbs⟩
          case measure => simp [intOf]; omega
        · obtain rfl : j = 4 := by omega
          go_wp2
          refine ⟨⟨k + 1, by omega, by go_num, ?_, hr2, hbx⟩, ?_⟩
          · rw [bej_four] at hr3
            rw [wds, if_pos hlt, List.append_assoc, show 64 - (k + 1) = 63 - k by omega]
            exact hr3
          · simp [intOf]; omega
    · obtain rfl : k = 16 := by omega
      clear hb hbl
      go_wp2
      simp only [Int.cast_ofNat_Int]
      go_loopw [6, 7, 8, 9, 10] (fun i _ _ _ _ wx => ∃ k : Nat, 16 ≤ k ∧ k ≤ 64 ∧ i = .int .i64 k ∧ RowU wx (w.heap.size + 1) 41 (wds b k ++ List.replicate (64 - k) 0) ∧ RowU wx w.heap.size 41 (List.replicate 64 0) ∧ Below w.heap.size w wx) (fun i _ _ _ _ _ => 64 - (intOf i).toNat)
      case atStart => exact ⟨16, by omega, by omega, rfl, hr3, hr2, hbx⟩
      case round =>
        clear hr3 hr2 hbx
        obtain ⟨k, hk16, hk, rfl, hr3, hr2, hbx⟩ := hrel
        by_cases hlt : k < 64
        · obtain ⟨X, hX⟩ : ∃ X, X = (wds b k).getD (k - 15) 0 := ⟨_, rfl⟩
          obtain ⟨Y, hY⟩ : ∃ Y, Y = (wds b k).getD (k - 2) 0 := ⟨_, rfl⟩
          obtain ⟨U, hU⟩ : ∃ U, U = (wds b k).getD (k - 16) 0 := ⟨_, rfl⟩
          obtain ⟨V, hV⟩ : ∃ V, V = (wds b k).getD (k - 7) 0 := ⟨_, rfl⟩
          have hXl : X < 4294967296 := by rw [hX]; exact getD_lt (wds_lt b k) _
          have hYl : Y < 4294967296 := by rw [hY]; exact getD_lt (wds_lt b k) _
          have hll : (wds b k ++ List.replicate (64 - k) 0).length = 64 := by rw [List.length_append, wds_length, List.length_replicate]; omega
          have c15 := hr3.cell (k - 15) (by omega)
          have c2 := hr3.cell (k - 2) (by omega)
          have c16 := hr3.cell (k - 16) (by omega)
          have c7 := hr3.cell (k - 7) (by omega)
          have cz := hr3.cell k (by omega)
          have hf := hr3.free k
          rw [pad_getD _ _ _ _ (by omega), ← hX] at c15
          rw [pad_getD _ _ _ _ (by omega), ← hY] at c2
          rw [pad_getD _ _ _ _ (by omega), ← hU] at c16
          rw [pad_getD _ _ _ _ (by omega), ← hV] at c7
          generalize (wds b k ++ List.replicate (64 - k) 0).getD k 0 = Zz at cz
          have n0 : ((k : Int) - 15).toNat = k - 15 := by omega
          have n1 : ((k : Int) - 2).toNat = k - 2 := by omega
          have n2 : ((k : Int) - 16).toNat = k - 16 := by omega
          have n3 : ((k : Int) - 7).toNat = k - 7 := by omega
          have m0 : (k : Int) - 15 < 64 := by omega
          have m1 : (k : Int) - 2 < 64 := by omega
          have m2 : (k : Int) - 16 < 64 := by omega
          have m3 : (k : Int) - 7 < 64 := by omega
          have m4 : (k : Int) < 64 := by omega
          have l4 : (15 : Int) ≤ k := by omega
          have l5 : (2 : Int) ≤ k := by omega
          have l6 : (16 : Int) ≤ k := by omega
          have l7 : (7 : Int) ≤ k := by omega
          have l0 : 0 ≤ (k : Int) - 15 := by omega
          have l1 : 0 ≤ (k : Int) - 2 := by omega
          have l2 : 0 ≤ (k : Int) - 16 := by omega
          have l3 : 0 ≤ (k : Int) - 7 := by omega
          have o0 : IntKind.i64.wrap ((k : Int) - 15) = (k : Int) - 15 := IntWalk.i64_in _ (by omega)
          have o1 : IntKind.i64.wrap ((k : Int) - 2) = (k : Int) - 2 := IntWalk.i64_in _ (by omega)
          have o2 : IntKind.i64.wrap ((k : Int) - 16) = (k : Int) - 16 := IntWalk.i64_in _ (by omega)
          have o3 : IntKind.i64.wrap ((k : Int) - 7) = (k : Int) - 7 := IntWalk.i64_in _ (by omega)
          have HX := Lib.hid hX
          have HY := Lib.hid hY
          have HU := Lib.hid hU
          have HV := Lib.hid hV
          have HR := Lib.hid hr3
          have H2 := Lib.hid hr2
          clear hX hY hU hV hr3 hr2 hll
          go_wp2
          go_quiet (fail)
          go_wp2_with fail
          generalize hwq : wr.drewN nq = wq
          have c16 : wq.cell? ⟨w.heap.size + 1, k - 16, none⟩ = some (.int .u32 (U : Int)) := by rw [← hwq]; exact c16
          have c7 : wq.cell? ⟨w.heap.size + 1, k - 7, none⟩ = some (.int .u32 (V : Int)) := by rw [← hwq]; exact c7
          have cz : wq.cell? ⟨w.heap.size + 1, k, none⟩ = some (.int .u32 (Zz : Int)) := by rw [← hwq]; exact cz
          have hf : wq.frozen? ⟨w.heap.size + 1, k, none⟩ = false := by rw [← hwq]; exact hf
          have HW := Lib.hid hwq
          clear hwq
          refine (rturn_any _ X 7 7 hXl (by decide) rfl).mono ?_
          rintro e w2 ⟨rfl, hw⟩
          obtain rfl := hw.symm
          go_wp2_with fail
          refine (rturn_any _ X 18 18 hXl (by decide) rfl).mono ?_
          rintro e w2 ⟨rfl, hw⟩
          obtain rfl := hw.symm
          go_wp2_with fail
          refine (rshift_any _ X 3 3 hXl (by decide) rfl).mono ?_
          rintro e w2 ⟨rfl, hw⟩
          obtain rfl := hw.symm
          go_wp2_with fail
          refine (rturn_any _ Y 17 17 hYl (by decide) rfl).mono ?_
          rintro e w2 ⟨rfl, hw⟩
          obtain rfl := hw.symm
          go_wp2_with fail
          refine (rturn_any _ Y 19 19 hYl (by decide) rfl).mono ?_
          rintro e w2 ⟨rfl, hw⟩
          obtain rfl := hw.symm
          go_wp2_with fail
          refine (rshift_any _ Y 10 10 hYl (by decide) rfl).mono ?_
          rintro e w2 ⟨rfl, hw⟩
          obtain rfl := hw.symm
          go_wp2
          go_still_tail 15, (by kernel_rfl)
          change wpList _ _ _ _ _ wq.drew
          go_wp2
          rw [nw_fold2 U V X Y hXl hYl]
          have hx : (U + V + sg0 X + sg1 Y) % 4294967296 = nw (wds b k) k := by
            rw [HU.out, HV.out, HX.out, HY.out]
            rfl
          rw [hx]
          have hset : RowU (wq.setCell ⟨w.heap.size + 1, k, none⟩ (.int .u32 ((nw (wds b k) k : Nat) : Int))).drew (w.heap.size + 1) 41 (wds b (k + 1) ++ List.replicate (64 - (k + 1)) 0) := by
            have h0 : RowU wq (w.heap.size + 1) 41 (wds b k ++ List.replicate (64 - k) 0) := by rw [← HW.out]; exact HR.out
            have h1 := h0.set k (nw (wds b k) k)
            have h2 := wds_pad_set b k (63 - k)
            rw [if_neg (by omega)] at h2
            rw [show 64 - k = 63 - k + 1 by omega, h2] at h1
            rw [show 64 - (k + 1) = 63 - k by omega]
            exact h1
          have hs2 : RowU (wq.setCell ⟨w.heap.size + 1, k, none⟩ (.int .u32 ((nw (wds b k) k : Nat) : Int))).drew w.heap.size 41 (List.replicate 64 0) := by
            have h1 := heap_setCell_other wq ⟨w.heap.size + 1, k, none⟩ w.heap.size (.int .u32 ((nw (wds b k) k : Nat) : Int)) (by simp)
            rw [← HW.out] at h1 ⊢
            exact h1.trans H2.out
          have hbq : Below w.heap.size w wq := by rw [← HW.out]; exact below_drewNs hbx _
          have hbs := below_drew1 (hbq.setCell (p := ⟨w.heap.size + 1, k, none⟩) (Nat.le_succ _) (.int .u32 ((nw (wds b k) k : Nat) : Int)))
          refine ⟨⟨k + 1, by omega, by omega, by go_num, hset, hs2, hbs⟩, ?_⟩
          simp [intOf]; omega
        · obtain rfl : k = 64 := by omega
          have hr3 : RowU wr (w.heap.size + 1) 41 (wds b 64) := by simpa using hr3
          have hl64 : (u32v (wds b 64)).toArray.size = 64 := by rw [List.size_toArray, u32v_length, wds_length]
          obtain ⟨C, hC⟩ : ∃ C, C = (u32v (wds b 64)).toArray := ⟨_, rfl⟩
          have h1c : C.all (·.oneCell') = true := by rw [hC]; exact u32v_one _
          unfold RowU at hr3 hr2
          rw [← hC] at hr3 hl64
          have HC := Lib.hid hC
          clear hC
          go_wp2_with (first
            | refine wpList_load_row rfl 41 (.tmp 3) rfl (w.heap.size + 1) rfl 41 C (0, 0) _ hr3 rfl rfl (by rw [hl64]; rfl) ?_
            | refine wpList_store_rowTo rfl 41 (.tmp 2) (.tmp 77) rfl rfl w.heap.size C rfl rfl 41 _ hr2 (by rw [hl64]; rfl) (by rw [hl64]; rfl) h1c ?_)
          refine bodyPost_ret (results_cell_row rfl _ _ w.heap.size 41 C (0, 0) _ rfl (setRow_heap _ _ _ _ _ _ hr2) rfl rfl (by rw [hl64]; rfl)) rfl ?_
          exact ⟨by rw [HC.out], below_setRow hbx (Nat.le_refl _) _⟩
end Go.Proofs.Ytohgkcgeanofnaa
