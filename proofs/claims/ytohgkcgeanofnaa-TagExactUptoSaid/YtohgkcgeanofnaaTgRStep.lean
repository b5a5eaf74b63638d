/- Digests: the reference's step, walked. -/
import Derived.Test.YtohgkcgeanofnaaTgRWords
import Derived.Deep.RegionHeld3
import Derived.Deep.CutBlock
import Derived.Deep.DeepCutAuto
namespace Go.Proofs.Ytohgkcgeanofnaa
open Go.RowKit
theorem t1_fold2 (v4 v5 v6 v7 K X : Nat) (h4 : v4 < 4294967296) (h5 : v5 < 4294967296) (h6 : v6 < 4294967296) :
    IntKind.u32.wrap (IntKind.u32.wrap (IntKind.u32.wrap (IntKind.u32.wrap ((v7 : Int) + bits BinOp.xor IntKind.u32 (bits BinOp.xor IntKind.u32 (rotr 6 v4 : Int) (rotr 11 v4 : Int)) (rotr 25 v4 : Int)) +
      bits BinOp.xor IntKind.u32 (bits BinOp.and IntKind.u32 (v4 : Int) (v5 : Int)) (bits BinOp.and IntKind.u32 (bits BinOp.xor IntKind.u32 IntKind.u32.max (v4 : Int)) (v6 : Int))) + (K : Int)) + (X : Int)) =
      (((v7 + bg1 v4 + chx v4 v5 v6 + K + X) % 4294967296 : Nat) : Int) := t1_fold v4 v5 v6 v7 K X h4 h5 h6
theorem t2_fold3 (v0 v1 v2 : Nat) (h0 : v0 < 4294967296) (h1 : v1 < 4294967296) (h2 : v2 < 4294967296) :
    (bits BinOp.xor IntKind.u32 (bits BinOp.xor IntKind.u32 (rotr 2 v0 : Int) (rotr 13 v0 : Int)) (rotr 22 v0 : Int) +
      bits BinOp.xor IntKind.u32 (bits BinOp.xor IntKind.u32 (bits BinOp.and IntKind.u32 (v0 : Int) (v1 : Int)) (bits BinOp.and IntKind.u32 (v0 : Int) (v2 : Int))) (bits BinOp.and IntKind.u32 (v1 : Int) (v2 : Int))) % 4294967296 =
      (((bg0 v0 + mjx v0 v1 v2) % 4294967296 : Nat) : Int) := by
  rw [← t2_fold v0 v1 v2 h0 h1 h2, IntKind.wrap_u32]
theorem list8 {α : Type} (l : List α) (h : l.length = 8) : ∃ a0 a1 a2 a3 a4 a5 a6 a7, l = [a0, a1, a2, a3, a4, a5, a6, a7] := by
  match l, h with
  | [a0, a1, a2, a3, a4, a5, a6, a7], _ => exact ⟨_, _, _, _, _, _, _, _, rfl⟩
set_option maxHeartbeats 8000000 in
set_option maxRecDepth 20000 in
theorem rstep_any (w : World) (H W : List Nat) (hH : H.length = 8) (hHl : ∀ x ∈ H, x < 4294967296) (hW : W.length = 64) (hWl : ∀ x ∈ W, x < 4294967296) :
    Calls Try.prog 17 #[.agg (u32v H).toArray, .agg (u32v W).toArray] w fun e w' => e = .returned (.agg (u32v (addv H (rnds W H 64))).toArray) ∧ Below w.heap.size w w' := by
  obtain ⟨CW, hCW⟩ : ∃ CW, CW = (u32v W).toArray := ⟨_, rfl⟩
  have hCWs : CW.size = 64 := by rw [hCW, List.size_toArray, u32v_length, hW]
  obtain ⟨CH, hCH⟩ : ∃ CH, CH = (u32v H).toArray := ⟨_, rfl⟩
  have hCHs : CH.size = 8 := by rw [hCH, List.size_toArray, u32v_length, hH]
  have h1H : CH.all (·.oneCell') = true := by rw [hCH]; exact u32v_one _
  obtain ⟨W0, hW0⟩ : ∃ W0, W0 = (((w.alloc (.cells CH 38)).alloc (.cells CW 41)).alloc (.cells (List.replicate 8 (Value.int .u32 0)).toArray 38)) := ⟨_, rfl⟩
  have s1 : (w.alloc (.cells CH 38)).heap.size = w.heap.size + 1 := by simp
  have s2 : ((w.alloc (.cells CH 38)).alloc (.cells CW 41)).heap.size = w.heap.size + 2 := by simp
  have s3 : W0.heap.size = w.heap.size + 3 := by rw [hW0]; simp
  have r0 : W0.heap[w.heap.size]? = some (.cells CH 38 (0, 0)) := by
    rw [hW0, heap_alloc_old _ _ (by rw [s2]; omega), heap_alloc_old _ _ (by rw [s1]; omega)]
    exact heap_alloc_new w _
  have r1 : W0.heap[w.heap.size + 1]? = some (.cells CW 41 (0, 0)) := by
    rw [hW0, heap_alloc_old _ _ (by rw [s2]; omega), ← s1]
    exact heap_alloc_new _ _
  have r2 : W0.heap[w.heap.size + 2]? = some (.cells (List.replicate 8 (Value.int .u32 0)).toArray 38 (0, 0)) := by
    rw [hW0, ← s2]
    exact heap_alloc_new _ _
  have hb0 : Below w.heap.size w W0 := by
    rw [hW0]
    exact (((Below.refl _ _).alloc (Nat.le_refl _) _).alloc (by rw [s1]; omega) _).alloc (by rw [s2]; omega) _
  have r3 : (W0.alloc (.cells (List.replicate 8 (Value.int .u32 0)).toArray 38)).heap[w.heap.size + 3]? = some (.cells (List.replicate 8 (Value.int .u32 0)).toArray 38 (0, 0)) := by
    rw [← s3]
    exact heap_alloc_new _ _
  have q0 : RowU ((W0.alloc (.cells (List.replicate 8 (Value.int .u32 0)).toArray 38)).setRow (w.heap.size + 3) CH) w.heap.size 38 H := by
    unfold RowU
    rw [setRow_other _ _ _ _ (by omega), heap_alloc_old _ _ (by rw [s3]; omega), r0, hCH]
  have q1 : RowU ((W0.alloc (.cells (List.replicate 8 (Value.int .u32 0)).toArray 38)).setRow (w.heap.size + 3) CH) (w.heap.size + 1) 41 W := by
    unfold RowU
    rw [setRow_other _ _ _ _ (by omega), heap_alloc_old _ _ (by rw [s3]; omega), r1, hCW]
  have q2 : RowU ((W0.alloc (.cells (List.replicate 8 (Value.int .u32 0)).toArray 38)).setRow (w.heap.size + 3) CH) (w.heap.size + 2) 38 (List.replicate 8 0) := by
    unfold RowU
    rw [setRow_other _ _ _ _ (by omega), heap_alloc_old _ _ (by rw [s3]; omega), r2]
    rfl
  have q3 : RowU ((W0.alloc (.cells (List.replicate 8 (Value.int .u32 0)).toArray 38)).setRow (w.heap.size + 3) CH) (w.heap.size + 3) 38 H := by
    unfold RowU
    rw [setRow_heap _ _ _ _ _ _ r3, hCH]
  have hbB : Below w.heap.size w ((W0.alloc (.cells (List.replicate 8 (Value.int .u32 0)).toArray 38)).setRow (w.heap.size + 3) CH) := below_setRow (hb0.alloc (by rw [s3]; omega) _) (by omega) _
  obtain ⟨B3, hB3⟩ : ∃ B3, B3 = w.heap.size + 3 := ⟨_, rfl⟩
  subst hW0
  rw [← hCW, ← hCH]
  clear hCW hCH s1 s2 s3
  go_enter Try.func17, Try.ntmps17
  go_wp2_with (first
    | refine wpList_load_row rfl 38 (.tmp 2) rfl w.heap.size rfl 38 CH (0, 0) _ (by exact r0) rfl rfl (by rw [hCHs]; rfl) ?_
    | refine wpList_store_rowTo rfl 38 (.tmp 5) (.tmp 16) rfl rfl (w.heap.size + 3) CH rfl rfl 38 _ (by exact r3) (by rw [hCHs]; rfl) (by rw [hCHs]; rfl) h1H ?_)
  clear r0 r1 r2 r3 hb0 h1H hCHs hCWs
  go_loopw [6, 7, 8, 9, 10, 11, 12, 13, 14] (fun i _ _ _ _ _ _ _ _ wx => ∃ k : Nat, k ≤ 64 ∧ i = .int .i64 k ∧ RowU wx (w.heap.size + 3) 38 (rnds W H k) ∧ RowU wx w.heap.size 38 H ∧ RowU wx (w.heap.size + 1) 41 W ∧ RowU wx (w.heap.size + 2) 38 (List.replicate 8 0) ∧ Below w.heap.size w wx) (fun i _ _ _ _ _ _ _ _ _ => 64 - (intOf i).toNat)
  case atStart => exact ⟨0, Nat.zero_le _, rfl, q3, q0, q1, q2, hbB⟩
  case round =>
    clear q0 q1 q2 q3 hbB
    obtain ⟨k, hk, rfl, q3, q0, q1, q2, hbx⟩ := hrel
    by_cases hlt : k < 64
    · obtain ⟨v0, v1, v2, v3, v4, v5, v6, v7, hv8⟩ := list8 (rnds W H k) (rnds_length W H hH k)
      have hvl := rnds_lt W H hHl k
      rw [hv8] at q3 hvl
      have l0 : v0 < 4294967296 := hvl _ (by simp)
      have l1 : v1 < 4294967296 := hvl _ (by simp)
      have l2 : v2 < 4294967296 := hvl _ (by simp)
      have l4 : v4 < 4294967296 := hvl _ (by simp)
      have l5 : v5 < 4294967296 := hvl _ (by simp)
      have l6 : v6 < 4294967296 := hvl _ (by simp)
      have c0 : wr.cell? ⟨w.heap.size + 3, 0, none⟩ = some (.int .u32 (v0 : Int)) := q3.cell 0 (by simp)
      have c1 : wr.cell? ⟨w.heap.size + 3, 1, none⟩ = some (.int .u32 (v1 : Int)) := q3.cell 1 (by simp)
      have c2 : wr.cell? ⟨w.heap.size + 3, 2, none⟩ = some (.int .u32 (v2 : Int)) := q3.cell 2 (by simp)
      have c3 : wr.cell? ⟨w.heap.size + 3, 3, none⟩ = some (.int .u32 (v3 : Int)) := q3.cell 3 (by simp)
      have c4 : wr.cell? ⟨w.heap.size + 3, 4, none⟩ = some (.int .u32 (v4 : Int)) := q3.cell 4 (by simp)
      have c5 : wr.cell? ⟨w.heap.size + 3, 5, none⟩ = some (.int .u32 (v5 : Int)) := q3.cell 5 (by simp)
      have c6 : wr.cell? ⟨w.heap.size + 3, 6, none⟩ = some (.int .u32 (v6 : Int)) := q3.cell 6 (by simp)
      have c7 : wr.cell? ⟨w.heap.size + 3, 7, none⟩ = some (.int .u32 (v7 : Int)) := q3.cell 7 (by simp)
      obtain ⟨X, hX⟩ : ∃ X, X = W.getD k 0 := ⟨_, rfl⟩
      have cx := q1.cell k (by rw [hW]; exact hlt)
      rw [← hX] at cx
      obtain ⟨K, hK⟩ : ∃ K, K = Kt.getD k 0 := ⟨_, rfl⟩
      have Q0 := Lib.hid q0
      have Q1 := Lib.hid q1
      have Q2 := Lib.hid q2
      have Q3 := Lib.hid q3
      have H8 := Lib.hid hv8
      have HX := Lib.hid hX
      have HK := Lib.hid hK
      have HB := Lib.hid hbx
      clear q0 q1 q2 q3 hv8 hX hK hvl hbx
      have m4 : (k : Int) < 64 := by omega
      go_wp2
      go_quiet (fail)
      go_wp2
      generalize hwq : wr.drewN nq = wq
      have c3 : wq.cell? ⟨w.heap.size + 3, 3, none⟩ = some (.int .u32 (v3 : Int)) := by rw [← hwq]; exact c3
      have c7 : wq.cell? ⟨w.heap.size + 3, 7, none⟩ = some (.int .u32 (v7 : Int)) := by rw [← hwq]; exact c7
      have cx : wq.cell? ⟨w.heap.size + 1, k, none⟩ = some (.int .u32 (X : Int)) := by rw [← hwq]; exact cx
      have Q0 : Hid (RowU wq w.heap.size 38 H) := by rw [← hwq]; exact Q0
      have Q1 : Hid (RowU wq (w.heap.size + 1) 41 W) := by rw [← hwq]; exact Q1
      have Q2 : Hid (RowU wq (w.heap.size + 2) 38 (List.replicate 8 0)) := by rw [← hwq]; exact Q2
      have Q3 : Hid (RowU wq (w.heap.size + 3) 38 [v0, v1, v2, v3, v4, v5, v6, v7]) := by rw [← hwq]; exact Q3
      have HB : Hid (Below w.heap.size w wq) := by rw [← hwq]; exact below_drewNs HB.out _
      clear hwq
      have h3l : w.heap.size + 3 < wq.heap.size := Q3.out.lt
      have HS : Hid (∀ W', Below wq.heap.size wq W' → Below wq.heap.size wq W' ∧ W'.cell? ⟨w.heap.size + 3, 7, none⟩ = some (.int .u32 (v7 : Int)) ∧ W'.cell? ⟨w.heap.size + 1, k, none⟩ = some (.int .u32 (X : Int))) := Lib.hid fun W' hW' =>
        ⟨hW', (hW'.cell (p := ⟨w.heap.size + 3, 7, none⟩) h3l).trans c7, (hW'.cell (p := ⟨w.heap.size + 1, k, none⟩) (by show w.heap.size + 1 < _; omega)).trans cx⟩
      have HKK : Hid (∀ W', Below wq.heap.size wq W' → Calls Try.prog 25 #[.int .i64 (k : Int)] W' (fun e w' => e = .returned (.int .u32 (K : Int)) ∧ Below wq.heap.size wq w')) := Lib.hid fun W' hW' =>
        (rk_any W' k hlt).mono fun e w' h => ⟨by rw [HK.out]; exact h.1, hW'.trans (h.2.mono hW'.size)⟩
      have hbW0 : Below wq.heap.size wq wq := Below.refl _ _
      have hbW1 : Below wq.heap.size wq wq.drew := below_drew1 hbW0
      first
        | go_region_held3 (fun W' => Below wq.heap.size wq W' ∧ W'.cell? ⟨w.heap.size + 3, 7, none⟩ = some (.int .u32 (v7 : Int)) ∧ W'.cell? ⟨w.heap.size + 1, k, none⟩ = some (.int .u32 (X : Int))) (first | exact HS.out _ (by assumption) | assumption | fail) (first
          | (go_at_call 25; refine (HKK.out _ (by first | assumption | exact And.left (by assumption))).mono ?_; rintro e w2 ⟨rfl, hb2⟩)
          | (go_at_call_of 24 (Value.int .i64 6); refine (rturn_any _ v4 6 6 l4 (by decide) rfl).mono ?_; rintro e w2 ⟨rfl, rfl⟩)
          | (go_at_call_of 24 (Value.int .i64 11); refine (rturn_any _ v4 11 11 l4 (by decide) rfl).mono ?_; rintro e w2 ⟨rfl, rfl⟩)
          | (go_at_call 24; refine (rturn_any _ v4 25 25 l4 (by decide) rfl).mono ?_; rintro e w2 ⟨rfl, rfl⟩))
        | fail
      rw [t1_fold2 v4 v5 v6 v7 K X l4 l5 l6]
      obtain ⟨t1, ht1⟩ : ∃ t1, t1 = (v7 + bg1 v4 + chx v4 v5 v6 + K + X) % 4294967296 := ⟨_, rfl⟩
      rw [← ht1]
      have HT1 := Lib.hid ht1
      clear ht1 c0 c1 c2 c4 c5 c6 c7 cx HKK hbW0 hbW1 HS
      go_wp2_with fail
      refine (rturn_any _ v0 2 2 l0 (by decide) rfl).mono ?_
      rintro e w3 ⟨rfl, hw⟩
      obtain rfl := hw.symm
      go_wp2_with fail
      refine (rturn_any _ v0 13 13 l0 (by decide) rfl).mono ?_
      rintro e w3 ⟨rfl, hw⟩
      obtain rfl := hw.symm
      go_wp2_with fail
      refine (rturn_any _ v0 22 22 l0 (by decide) rfl).mono ?_
      rintro e w3 ⟨rfl, hw⟩
      obtain rfl := hw.symm
      go_upto_region 8 with (fail)
      first | rw [t2_fold3 v0 v1 v2 l0 l1 l2] | rw [t2_fold v0 v1 v2 l0 l1 l2]
      obtain ⟨t2, ht2⟩ : ∃ t2, t2 = (bg0 v0 + mjx v0 v1 v2) % 4294967296 := ⟨_, rfl⟩
      rw [← ht2]
      have HT2 := Lib.hid ht2
      clear ht2
      have c3 : w2.cell? ⟨w.heap.size + 3, 3, none⟩ = some (.int .u32 (v3 : Int)) := (hb2.cell (p := ⟨w.heap.size + 3, 3, none⟩) h3l).trans c3
      have r3 : w2.heap[w.heap.size + 3]? = some (.cells (u32v [v0, v1, v2, v3, v4, v5, v6, v7]).toArray 38 (0, 0)) := (hb2.block _ h3l).trans Q3.out
      obtain ⟨C8, hC8⟩ : ∃ C8, C8 = (u32v [v0, v1, v2, v3, v4, v5, v6, v7]).toArray := ⟨_, rfl⟩
      have hC8s : C8.size = 8 := by rw [hC8]; rfl
      rw [← hC8] at r3
      clear hC8
      obtain ⟨CN, hCN⟩ : ∃ CN : Array Value, CN = #[.int .u32 (((t1 : Int) + t2) % 4294967296), .int .u32 (v0 : Int), .int .u32 (v1 : Int), .int .u32 (v2 : Int), .int .u32 (((v3 : Int) + t1) % 4294967296), .int .u32 (v4 : Int), .int .u32 (v5 : Int), .int .u32 (v6 : Int)] := ⟨_, rfl⟩
      have hCNs : CN.size = 8 := by rw [hCN]; rfl
      have hCN1 : CN.all (·.oneCell') = true := by rw [hCN]; simp [Value.oneCell']
      have HCN := Lib.hid hCN
      clear hCN
      go_wp2_with (refine wpList_store_rowTo rfl 38 (.tmp 5) (.tmp 93) rfl rfl (w.heap.size + 3) CN rfl (by rw [HCN.out]; rfl) 38 _ (by exact r3) (by rw [hCNs]; rfl) (by rw [hC8s, hCNs]) hCN1 ?_)
      have p3 : RowU (w2.setRow (w.heap.size + 3) CN) (w.heap.size + 3) 38 (rnds W H (k + 1)) := by
        unfold RowU
        rw [setRow_heap _ _ _ _ _ _ r3, rnds, H8.out, ← HX.out, ← HK.out, HCN.out]
        have e1 : ((t1 : Int) + t2) % 4294967296 = (((v7 + bg1 v4 + chx v4 v5 v6 + K + X + (bg0 v0 + mjx v0 v1 v2)) % 4294967296 : Nat) : Int) := by rw [HT1.out, HT2.out]; omega
        have e2 : ((v3 : Int) + t1) % 4294967296 = (((v3 + (v7 + bg1 v4 + chx v4 v5 v6 + K + X)) % 4294967296 : Nat) : Int) := by rw [HT1.out]; omega
        rw [e1, e2]
        rfl
      have p0 : RowU (w2.setRow (w.heap.size + 3) CN) w.heap.size 38 H := (setRow_other _ _ _ _ (by omega)).trans ((hb2.block _ (by omega)).trans Q0.out)
      have p1 : RowU (w2.setRow (w.heap.size + 3) CN) (w.heap.size + 1) 41 W := (setRow_other _ _ _ _ (by omega)).trans ((hb2.block _ (by omega)).trans Q1.out)
      have p2 : RowU (w2.setRow (w.heap.size + 3) CN) (w.heap.size + 2) 38 (List.replicate 8 0) := (setRow_other _ _ _ _ (by omega)).trans ((hb2.block _ (by omega)).trans Q2.out)
      have pB : Below w.heap.size w (w2.setRow (w.heap.size + 3) CN) := below_setRow (HB.out.trans (hb2.mono HB.out.size)) (by omega) _
      refine ⟨⟨k + 1, by omega, by go_num, p3, p0, p1, p2, pB⟩, ?_⟩
      simp [intOf]; omega
    · obtain rfl : k = 64 := by omega
      obtain ⟨V, hV⟩ : ∃ V, V = rnds W H 64 := ⟨_, rfl⟩
      have hV8 : V.length = 8 := by rw [hV]; exact rnds_length W H hH 64
      rw [← hV] at q3
      have HVV := Lib.hid hV
      clear q1 hV
      have q0 : RowU wr w.heap.size 38 (mixv H V 0) := q0
      go_wp2
      simp only [Int.cast_ofNat_Int]
      go_loopw [15, 94] (fun _ i wx => ∃ j : Nat, j ≤ 8 ∧ i = .int .i64 j ∧ RowU wx w.heap.size 38 (mixv H V j) ∧ RowU wx (w.heap.size + 3) 38 V ∧ RowU wx (w.heap.size + 2) 38 (List.replicate 8 0) ∧ Below w.heap.size w wx) (fun _ i _ => 8 - (intOf i).toNat)
      case atStart => exact ⟨0, Nat.zero_le _, rfl, q0, q3, q2, hbx⟩
      case round =>
        clear q0 q3 q2 hbx
        obtain ⟨j, hj, rfl, q0, q3, q2, hbx⟩ := hrel
        by_cases hlt : j < 8
        · have ca := q0.cell j (by rw [mixv_length _ _ _ hH hV8 hj]; exact hlt)
          rw [mixv_getD _ _ _ hH hV8 hlt] at ca
          have cb := q3.cell j (by rw [hV8]; exact hlt)
          have cf := q0.free j
          obtain ⟨x, hx⟩ : ∃ x, x = H.getD j 0 := ⟨_, rfl⟩
          obtain ⟨y, hy⟩ : ∃ y, y = V.getD j 0 := ⟨_, rfl⟩
          rw [← hx] at ca
          rw [← hy] at cb
          have HX := Lib.hid hx
          have HY := Lib.hid hy
          have Q0 := Lib.hid q0
          have Q2 := Lib.hid q2
          have Q3 := Lib.hid q3
          clear hx hy q0 q2 q3
          have m4 : (j : Int) < 8 := by omega
          go_wp2
          go_still_tail 8, (by kernel_rfl)
          change wpList _ _ _ _ _ wr.drew
          go_wp2
          have e5 : ((x : Int) + y) % 4294967296 = ((((x + y) % 4294967296 : Nat)) : Int) := by omega
          rw [e5]
          have p0 : RowU (wr.setCell ⟨w.heap.size, j, none⟩ (.int .u32 (((x + y) % 4294967296 : Nat) : Int))).drew w.heap.size 38 (mixv H V (j + 1)) := by
            have h1 := Q0.out.set j ((x + y) % 4294967296)
            rw [HX.out, HY.out, mixv_set _ _ _ hH hV8 hlt, ← HX.out, ← HY.out] at h1
            exact h1
          have p3 : RowU (wr.setCell ⟨w.heap.size, j, none⟩ (.int .u32 (((x + y) % 4294967296 : Nat) : Int))).drew (w.heap.size + 3) 38 V := by
            have h1 := heap_setCell_other wr ⟨w.heap.size, j, none⟩ (w.heap.size + 3) (.int .u32 (((x + y) % 4294967296 : Nat) : Int)) (by simp)
            exact h1.trans Q3.out
          have p2 : RowU (wr.setCell ⟨w.heap.size, j, none⟩ (.int .u32 (((x + y) % 4294967296 : Nat) : Int))).drew (w.heap.size + 2) 38 (List.replicate 8 0) := by
            have h1 := heap_setCell_other wr ⟨w.heap.size, j, none⟩ (w.heap.size + 2) (.int .u32 (((x + y) % 4294967296 : Nat) : Int)) (by simp)
            exact h1.trans Q2.out
          refine ⟨⟨j + 1, by omega, by go_num, p0, p3, p2, below_drew1 (hbx.setCell (p := ⟨w.heap.size, j, none⟩) (Nat.le_refl _) _)⟩, ?_⟩
          simp [intOf]; omega
        · obtain rfl : j = 8 := by omega
          have hm : mixv H V 8 = addv H V := by
            unfold mixv
            rw [List.take_of_length_le (by unfold addv; rw [List.length_zipWith, hH, hV8]; decide), List.drop_of_length_le (by omega), List.append_nil]
          rw [hm] at q0
          obtain ⟨C, hC⟩ : ∃ C, C = (u32v (addv H V)).toArray := ⟨_, rfl⟩
          have hCs : C.size = 8 := by rw [hC, List.size_toArray, u32v_length]; unfold addv; rw [List.length_zipWith, hH, hV8]; rfl
          have h1c : C.all (·.oneCell') = true := by rw [hC]; exact u32v_one _
          unfold RowU at q0 q2
          rw [← hC] at q0
          have HC := Lib.hid hC
          clear hC q3
          go_wp2_with (first
            | refine wpList_load_row rfl 38 (.tmp 2) rfl w.heap.size rfl 38 C (0, 0) _ (by exact q0) rfl rfl (by rw [hCs]; rfl) ?_
            | refine wpList_store_rowTo rfl 38 (.tmp 4) (.tmp 106) rfl rfl (w.heap.size + 2) C rfl rfl 38 _ (by exact q2) (by rw [hCs]; rfl) (by rw [hCs]; rfl) h1c ?_)
          refine bodyPost_ret (results_cell_row rfl _ _ (w.heap.size + 2) 38 C (0, 0) _ rfl (setRow_heap _ _ _ _ _ _ q2) rfl rfl (by rw [hCs]; rfl)) rfl ?_
          exact ⟨by rw [HC.out, HVV.out], below_setRow hbx (by omega) _⟩
end Go.Proofs.Ytohgkcgeanofnaa
