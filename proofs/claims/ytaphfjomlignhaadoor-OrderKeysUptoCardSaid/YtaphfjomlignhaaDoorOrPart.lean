/- Keys: the reference's part, walked. -/
import Derived.Test.YtaphfjomlignhaaDoorOrPartP
import Derived.Test.YtaphfjomlignhaaDoorBytS
namespace Go.Proofs.YtaphfjomlignhaaDoor
open Go.RowKit
theorem nat_mul_u64 (u : Nat) (b : UInt8) (h : u < 72057594037927936) : IntKind.u64.wrap (256 * (u : Int) + IntKind.u64.wrap (b.toNat : Int)) = ((256 * u + b.toNat : Nat) : Int) := by
  have := b.toNat_lt
  rw [IntKind.wrap_u64, IntKind.wrap_u64]; omega
theorem num_wrap (u : Nat) (h : u < 18446744073709551616) : IntKind.i64.wrap (IntKind.u64.wrap ((u : Int) - 9223372036854775808)) = numOf u := by
  unfold numOf
  rw [IntKind.wrap_u64]
  rcases Nat.lt_or_ge u 9223372036854775808 with h1 | h1
  · rw [show ((u : Int) - 9223372036854775808) % 18446744073709551616 = (u : Int) + 9223372036854775808 by omega, IntKind.wrap_i64]; omega
  · rw [show ((u : Int) - 9223372036854775808) % 18446744073709551616 = (u : Int) - 9223372036854775808 by omega, IntKind.wrap_i64]; omega
theorem unB_take7 (l : List UInt8) (k : Nat) (h : k < 8) : unB (l.take k) < 72057594037927936 := by
  refine Nat.lt_of_lt_of_le (unB_pow _) ?_
  refine Nat.le_trans (Nat.pow_le_pow_right (by decide) (List.length_take_le k l)) ?_
  exact Nat.le_trans (Nat.pow_le_pow_right (n := 256) (by decide) (show k ≤ 7 by omega)) (by decide)
theorem unB_take8 (l : List UInt8) (k : Nat) (h : k ≤ 8) : unB (l.take k) < 18446744073709551616 := by
  refine Nat.lt_of_lt_of_le (unB_pow _) ?_
  refine Nat.le_trans (Nat.pow_le_pow_right (by decide) (List.length_take_le k l)) ?_
  exact Nat.le_trans (Nat.pow_le_pow_right (n := 256) (by decide) h) (by decide)
theorem drop_get (s : ByteArray) (p j : Nat) (h : p + 1 + j < s.size) : ((s.data.toList.drop (p + 1)).take (j + 1)) = ((s.data.toList.drop (p + 1)).take j) ++ [s[p + 1 + j]] := by
  have hl : j < (s.data.toList.drop (p + 1)).length := by rw [List.length_drop]; simp; omega
  rw [List.take_succ_eq_append_getElem hl]
  congr 2
  rw [List.getElem_drop]
  rfl
set_option maxHeartbeats 4000000 in
set_option maxRecDepth 20000 in
theorem rpart_any (w : World) (s : ByteArray) (p : Nat) (hs : s.size ≤ 1073741824) (hp : p < s.size) :
    Calls Tryd.prog 27 #[.string s, .int .i64 p] w fun e w' => ∃ x q, e = .returned (.tuple #[.agg #[.int .i64 x.kind, .int .i64 x.num, .string x.text], .int .i64 ((q : Nat) : Int)]) ∧ PartAns s.data.toList p x q ∧ Below w.heap.size w w' := by
  obtain ⟨i0, hi0, hz0, hz1, hz2⟩ := info_parts u8_info
  have R0 := heap_alloc_new w (.cells #[.int .i64 0, .int .i64 0, .string ⟨#[]⟩] 31)
  have hb0 : Below w.heap.size w (w.alloc (.cells #[.int .i64 0, .int .i64 0, .string ⟨#[]⟩] 31)) := (Below.refl _ _).alloc (Nat.le_refl _) _
  have hsA : (w.alloc (.cells #[.int .i64 0, .int .i64 0, .string ⟨#[]⟩] 31)).heap.size = w.heap.size + 1 := by simp
  have HB0 := Lib.hid hb0
  have HR0 := Lib.hid R0
  have HSL := Lib.hid (show s.data.toList.length = s.size by simp)
  clear hb0 R0
  go_enter Tryd.func27, Tryd.ntmps27
  go_upto_region 1 with (fail)
  generalize hWA : w.alloc (.cells #[.int .i64 0, .int .i64 0, .string ⟨#[]⟩] 31) = wA at HB0 HR0 hsA ⊢
  clear hWA
  have hpl : p < s.data.toList.length := by rw [HSL.out]; exact hp
  have hgp : s.data.toList[p] = s[p] := rfl
  have c0 : wA.cell? ⟨w.heap.size, 0, none⟩ = some (.int .i64 0) := by rw [cell_of_row _ _ 0 _ _ _ HR0.out]; rfl
  have c1 : wA.cell? ⟨w.heap.size, 1, none⟩ = some (.int .i64 0) := by rw [cell_of_row _ _ 1 _ _ _ HR0.out]; rfl
  have c2 : wA.cell? ⟨w.heap.size, 2, none⟩ = some (.string ⟨#[]⟩) := by rw [cell_of_row _ _ 2 _ _ _ HR0.out]; rfl
  by_cases hb : s[p] = 1
  · have hb1 : (((s[p]).toNat : Int) == 1) = true := by rw [hb]; rfl
    have HANS := Lib.hid (fun i (hi : i ≤ 8) he N hN => num_ans (i := i) hpl (hgp.trans hb) hi he N hN)
    have HD := Lib.hid (drop_get s p)
    clear hgp hb
    go_wp2
    go_loop [6, 7] (fun u i => ∃ j : Nat, j ≤ 8 ∧ p + 1 + j ≤ s.size ∧ i = .int .i64 ((j : Int) + 1) ∧ u = .int .u64 (unB ((s.data.toList.drop (p + 1)).take j) : Int)) (fun _ i => 9 - (intOf i).toNat)
    case atStart => exact ⟨0, Nat.zero_le _, by omega, rfl, rfl⟩
    case round =>
      obtain ⟨j, hj, hjs, rfl, rfl⟩ := hrel
      by_cases hlt : j < 8 ∧ p + 1 + j < s.size
      · obtain ⟨hl1, hl2⟩ := hlt
        have hd1 : (j : Int) + 1 ≤ 8 := by omega
        have hd2 : (j : Int) + 1 < (s.size : Int) - (p : Int) := by omega
        have hx1 : ((p : Int) + ((j : Int) + 1)).toNat = p + 1 + j := by omega
        have hx2 : 0 ≤ (p : Int) + ((j : Int) + 1) := by omega
        have hx3 : (p : Int) + ((j : Int) + 1) < (s.size : Int) := by omega
        have hu7 := unB_take7 (s.data.toList.drop (p + 1)) j hl1
        have hst : unB ((s.data.toList.drop (p + 1)).take (j + 1)) = 256 * unB ((s.data.toList.drop (p + 1)).take j) + (s[p + 1 + j]).toNat := by rw [HD.out j hl2, unB_snoc]
        obtain ⟨u, hu⟩ : ∃ u, unB ((s.data.toList.drop (p + 1)).take j) = u := ⟨_, rfl⟩
        rw [hu] at hu7 hst
        have HST := Lib.hid hst
        have HM1 := Lib.hid (nat_mul_u64 u s[p + 1 + j] hu7)
        rw [hu]
        clear hst hu
        go_wp2
        refine ⟨⟨j + 1, by omega, by omega, by go_num, ?_⟩, by simp [intOf]; omega⟩
        rw [HM1.out, HST.out]
      · have hend : j = 8 ∨ p + 1 + j = s.data.toList.length := by rw [HSL.out]; omega
        have hu8 := unB_take8 (s.data.toList.drop (p + 1)) j hj
        obtain ⟨u, hu⟩ : ∃ u, unB ((s.data.toList.drop (p + 1)).take j) = u := ⟨_, rfl⟩
        rw [hu] at hu8
        obtain ⟨z, hz⟩ : ∃ z, IntKind.i64.wrap (IntKind.u64.wrap ((u : Int) - 9223372036854775808)) = z := ⟨_, rfl⟩
        have HAN := Lib.hid (HANS.out j hj hend z (by rw [← hz, num_wrap u hu8, hu]))
        have hd : ¬ ((j : Int) + 1 ≤ 8 ∧ (j : Int) + 1 < (s.size : Int) - (p : Int)) := by omega
        rw [hu]
        clear hu hend hlt HANS HD
        have f : ∀ i, wA.frozen? ⟨w.heap.size, i, none⟩ = false := fun i => frozen_of_row wA _ i _ _ HR0.out
        have f0 := f 0
        have f1 := f 1
        have f2 := f 2
        clear f
        by_cases hd1 : (j : Int) + 1 ≤ 8
        · have hd2 : ¬ (j : Int) + 1 < (s.size : Int) - (p : Int) := fun h => hd ⟨hd1, h⟩
          clear hd
          go_wp2
          have hF := row3 wA w.heap.size _ _ _ _ (.int .i64 1) (.int .i64 z) (.string ⟨#[]⟩) HR0.out
          have HW := Lib.hid ((HB0.out.trans (hF.2.below (B := w.heap.size) (fun k hk e => by omega) HB0.out.size)))
          generalize ((wA.setCell ⟨w.heap.size, 0, none⟩ (.int .i64 1)).setCell ⟨w.heap.size, 1, none⟩ (.int .i64 z)).setCell ⟨w.heap.size, 2, none⟩ (.string ⟨#[]⟩) = wF at hF HW ⊢
          have r0 : wF.cell? ⟨w.heap.size, 0, none⟩ = some (.int .i64 1) := by rw [cell_of_row wF _ 0 _ _ _ hF.1]; rfl
          have r1 : wF.cell? ⟨w.heap.size, 1, none⟩ = some (.int .i64 z) := by rw [cell_of_row wF _ 1 _ _ _ hF.1]; rfl
          have r2 : wF.cell? ⟨w.heap.size, 2, none⟩ = some (.string ⟨#[]⟩) := by rw [cell_of_row wF _ 2 _ _ _ hF.1]; rfl
          exact bodyPost_ret (v := .tuple #[.agg #[.int .i64 1, .int .i64 z, .string ⟨#[]⟩], .int .i64 ((p + 9 : Nat) : Int)]) (by simp [results, Tryd.results27, go_sem, r0, r1, r2]) rfl ⟨⟨1, z, ⟨#[]⟩⟩, p + 9, rfl, HAN.out, HW.out⟩
        · clear hd
          go_wp2
          have hF := row3 wA w.heap.size _ _ _ _ (.int .i64 1) (.int .i64 z) (.string ⟨#[]⟩) HR0.out
          have HW := Lib.hid ((HB0.out.trans (hF.2.below (B := w.heap.size) (fun k hk e => by omega) HB0.out.size)))
          generalize ((wA.setCell ⟨w.heap.size, 0, none⟩ (.int .i64 1)).setCell ⟨w.heap.size, 1, none⟩ (.int .i64 z)).setCell ⟨w.heap.size, 2, none⟩ (.string ⟨#[]⟩) = wF at hF HW ⊢
          have r0 : wF.cell? ⟨w.heap.size, 0, none⟩ = some (.int .i64 1) := by rw [cell_of_row wF _ 0 _ _ _ hF.1]; rfl
          have r1 : wF.cell? ⟨w.heap.size, 1, none⟩ = some (.int .i64 z) := by rw [cell_of_row wF _ 1 _ _ _ hF.1]; rfl
          have r2 : wF.cell? ⟨w.heap.size, 2, none⟩ = some (.string ⟨#[]⟩) := by rw [cell_of_row wF _ 2 _ _ _ hF.1]; rfl
          exact bodyPost_ret (v := .tuple #[.agg #[.int .i64 1, .int .i64 z, .string ⟨#[]⟩], .int .i64 ((p + 9 : Nat) : Int)]) (by simp [results, Tryd.results27, go_sem, r0, r1, r2]) rfl ⟨⟨1, z, ⟨#[]⟩⟩, p + 9, rfl, HAN.out, HW.out⟩
  · have hb1 : (((s[p]).toNat : Int) == 1) = false := beq_eq_false_iff_ne.2 (fun h => hb (UInt8.toNat_inj.1 (by show (s[p]).toNat = 1; omega)))
    have HANS := Lib.hid (fun (i : Nat) (t : ByteArray) (h : TxtSt s.data.toList p t.data.toList i) hi he => txt_ans (i := i) (t := t) hpl (fun e => hb (hgp.symm.trans e)) h hi he)
    clear hgp hb c0 c1 c2
    go_wp2
    go_loopw [8, 9] (fun v iv wx => ∃ (i : Nat) (t : List UInt8), p + 1 ≤ i ∧ i ≤ s.size ∧ iv = .int .i64 i ∧ t.length ≤ i ∧ Hid (TxtSt s.data.toList p t i) ∧ Hid (OwnB wx wA.heap.size 5 v t) ∧ Hid (Below wA.heap.size wA wx)) (fun _ iv _ => s.size - (intOf iv).toNat)
    case atStart => exact ⟨p + 1, [], Nat.le_refl _, by omega, rfl, by simp, Lib.hid (txtSt_start _ _), Lib.hid (OwnB.of_own (World.ownsRow_nil _ _ _ _)), Lib.hid (Below.refl _ _)⟩
    case round =>
      obtain ⟨i, t, hpi, hi, rfl, htl, HST, HO, hW⟩ := hrel
      have hsz := hW.out.size
      have HR1 := Lib.hid ((hW.out.block _ (by omega)).trans HR0.out)
      by_cases hlt : i + 1 < s.size
      · have hi1 : i < s.size := by omega
        have hd : (i : Int) < (s.size : Int) - 1 := by omega
        have hil : i < s.data.toList.length := by rw [HSL.out]; exact hi1
        have hil2 : i + 1 < s.data.toList.length := by rw [HSL.out]; exact hlt
        have hg1 : s.data.toList[i] = s[i] := rfl
        have hg2 : s.data.toList[i + 1] = s[i + 1] := rfl
        have hx1 : ((i : Int) + 1).toNat = i + 1 := by omega
        by_cases hz : s[i] = 0
        · have hb0 : (((s[i]).toNat : Int) == 0) = true := by rw [hz]; rfl
          have hb0' : (((s[i]).toNat : Int) != 0) = false := by rw [hz]; rfl
          by_cases hy : s[i + 1] = 0
          · have hc0' : (((s[i + 1]).toNat : Int) != 0) = false := by rw [hy]; rfl
            have HEND : Hid (s.data.toList.length ≤ i + 1 ∨ ∃ h : i + 1 < s.data.toList.length, s.data.toList[i]'(by omega) = 0 ∧ s.data.toList[i + 1] = 0) := Lib.hid (.inr ⟨hil2, hg1.trans hz, hg2.trans hy⟩)
            clear hz hy hg1 hg2
            have hcv := OwnB.str (P := Tryd.prog) (w := wr) (src := 43) (dst := 9) (e := 5) Tryd.underlying43 Tryd.underlying5 Tryd.underlying9 HO.out
            obtain ⟨TT, hTT⟩ : ∃ TT : ByteArray, (⟨t.toArray⟩ : ByteArray) = TT := ⟨_, rfl⟩
            have htt : TT.data.toList = t := by rw [← hTT]
            rw [hTT] at hcv
            have HAN := Lib.hid (HANS.out i TT (by rw [htt]; exact HST.out) (by rw [HSL.out]; exact hi) HEND.out)
            clear hTT htt
            have c0 : wr.cell? ⟨w.heap.size, 0, none⟩ = some (.int .i64 0) := by rw [cell_of_row _ _ 0 _ _ _ HR1.out]; rfl
            have c1 : wr.cell? ⟨w.heap.size, 1, none⟩ = some (.int .i64 0) := by rw [cell_of_row _ _ 1 _ _ _ HR1.out]; rfl
            have c2 : wr.cell? ⟨w.heap.size, 2, none⟩ = some (.string ⟨#[]⟩) := by rw [cell_of_row _ _ 2 _ _ _ HR1.out]; rfl
            have f : ∀ i, wr.frozen? ⟨w.heap.size, i, none⟩ = false := fun i => frozen_of_row wr _ i _ _ HR1.out
            have f0 := f 0
            have f1 := f 1
            have f2 := f 2
            clear f
            go_wp2
            have hF := row3 wr w.heap.size _ _ _ _ (.int .i64 2) (.int .i64 0) (.string TT) HR1.out
            have HW := Lib.hid (((HB0.out.trans (hW.out.mono (by omega))).trans (hF.2.below (B := w.heap.size) (fun k hk e => by omega) (by omega))))
            generalize ((wr.setCell ⟨w.heap.size, 0, none⟩ (.int .i64 2)).setCell ⟨w.heap.size, 1, none⟩ (.int .i64 0)).setCell ⟨w.heap.size, 2, none⟩ (.string TT) = wF at hF HW ⊢
            have r0 : wF.cell? ⟨w.heap.size, 0, none⟩ = some (.int .i64 2) := by rw [cell_of_row wF _ 0 _ _ _ hF.1]; rfl
            have r1 : wF.cell? ⟨w.heap.size, 1, none⟩ = some (.int .i64 0) := by rw [cell_of_row wF _ 1 _ _ _ hF.1]; rfl
            have r2 : wF.cell? ⟨w.heap.size, 2, none⟩ = some (.string TT) := by rw [cell_of_row wF _ 2 _ _ _ hF.1]; rfl
            exact bodyPost_ret (v := .tuple #[.agg #[.int .i64 2, .int .i64 0, .string TT], .int .i64 ((i + 2 : Nat) : Int)]) (by simp [results, Tryd.results27, go_sem, r0, r1, r2]) rfl ⟨⟨2, 0, TT⟩, i + 2, rfl, HAN.out, HW.out⟩
          · have hc0 : (((s[i + 1]).toNat : Int) != 0) = true := by
              rw [bne_iff_ne]
              exact fun h => hy (UInt8.toNat_inj.1 (by show (s[i + 1]).toNat = 0; omega))
            have HST2 : Hid (TxtSt s.data.toList p (t ++ [s[i]]) (i + 2)) := Lib.hid (by rw [hz]; exact txtSt_zero HST.out hil2 (hg1.trans hz) (fun e => hy (hg2.symm.trans e)))
            clear hz hy hg1 hg2
            go_wp2_with (at_builtin; refine wpList_bpush wr rfl (.tmp 61) (.tmp 65) 43 rfl wA.heap.size 5 i0 Tryd.underlying43 hi0 hz0 hz1 hz2 _ t [s[i]] _ 1 1 rfl rfl rfl (by exact HO.out) rfl ?y1 ?y2 ?_)
            case y1 => omega
            case y2 => exact hsz
            intro v3 w3 ho3 hu3 _
            rw [← hsA] at ho3
            have HO3 := Lib.hid ho3
            have HW3 := Lib.hid (below_ownB hW.out hW.out.size HO.out (Nat.le_refl _) hu3)
            clear ho3 hu3 HO hW HR1
            go_wp2
            go_roundw
            case rel => exact ⟨i + 2, t ++ [s[i]], by omega, by omega, by go_num, by simp; omega, HST2, HO3, HW3⟩
            case measure => simp [intOf]; omega
        · have hb0 : (((s[i]).toNat : Int) == 0) = false := beq_eq_false_iff_ne.2 (fun h => hz (UInt8.toNat_inj.1 (by show (s[i]).toNat = 0; omega)))
          have hb0' : (((s[i]).toNat : Int) != 0) = true := by
            rw [bne_iff_ne]
            exact fun h => hz (UInt8.toNat_inj.1 (by show (s[i]).toNat = 0; omega))
          have HST2 : Hid (TxtSt s.data.toList p (t ++ [s[i]]) (i + 1)) := Lib.hid (by have := txtSt_ne HST.out hil (fun e => hz (hg1.symm.trans e)); exact this)
          clear hz hg1 hg2
          go_wp2_with (at_builtin; refine wpList_bpush wr rfl (.tmp 61) (.tmp 65) 43 rfl wA.heap.size 5 i0 Tryd.underlying43 hi0 hz0 hz1 hz2 _ t [s[i]] _ 1 1 rfl rfl rfl (by exact HO.out) rfl ?x1 ?x2 ?_)
          case x1 => omega
          case x2 => exact hsz
          intro v3 w3 ho3 hu3 _
          rw [← hsA] at ho3
          have HO3 := Lib.hid ho3
          have HW3 := Lib.hid (below_ownB hW.out hW.out.size HO.out (Nat.le_refl _) hu3)
          clear ho3 hu3 HO hW HR1
          go_wp2
          go_roundw
          case rel => exact ⟨i + 1, t ++ [s[i]], by omega, by omega, by go_num, by simp; omega, HST2, HO3, HW3⟩
          case measure => simp [intOf]; omega
      · have hd : ¬ (i : Int) < (s.size : Int) - 1 := by omega
        have HEND : Hid (s.data.toList.length ≤ i + 1 ∨ ∃ h : i + 1 < s.data.toList.length, s.data.toList[i]'(by omega) = 0 ∧ s.data.toList[i + 1] = 0) := Lib.hid (.inl (by rw [HSL.out]; omega))
        have hcv := OwnB.str (P := Tryd.prog) (w := wr) (src := 43) (dst := 9) (e := 5) Tryd.underlying43 Tryd.underlying5 Tryd.underlying9 HO.out
        obtain ⟨TT, hTT⟩ : ∃ TT : ByteArray, (⟨t.toArray⟩ : ByteArray) = TT := ⟨_, rfl⟩
        have htt : TT.data.toList = t := by rw [← hTT]
        rw [hTT] at hcv
        have HAN := Lib.hid (HANS.out i TT (by rw [htt]; exact HST.out) (by rw [HSL.out]; exact hi) HEND.out)
        clear hTT htt
        have c0 : wr.cell? ⟨w.heap.size, 0, none⟩ = some (.int .i64 0) := by rw [cell_of_row _ _ 0 _ _ _ HR1.out]; rfl
        have c1 : wr.cell? ⟨w.heap.size, 1, none⟩ = some (.int .i64 0) := by rw [cell_of_row _ _ 1 _ _ _ HR1.out]; rfl
        have c2 : wr.cell? ⟨w.heap.size, 2, none⟩ = some (.string ⟨#[]⟩) := by rw [cell_of_row _ _ 2 _ _ _ HR1.out]; rfl
        have f : ∀ i, wr.frozen? ⟨w.heap.size, i, none⟩ = false := fun i => frozen_of_row wr _ i _ _ HR1.out
        have f0 := f 0
        have f1 := f 1
        have f2 := f 2
        clear f
        go_wp2
        have hF := row3 wr w.heap.size _ _ _ _ (.int .i64 2) (.int .i64 0) (.string TT) HR1.out
        have HW := Lib.hid (((HB0.out.trans (hW.out.mono (by omega))).trans (hF.2.below (B := w.heap.size) (fun k hk e => by omega) (by omega))))
        generalize ((wr.setCell ⟨w.heap.size, 0, none⟩ (.int .i64 2)).setCell ⟨w.heap.size, 1, none⟩ (.int .i64 0)).setCell ⟨w.heap.size, 2, none⟩ (.string TT) = wF at hF HW ⊢
        have r0 : wF.cell? ⟨w.heap.size, 0, none⟩ = some (.int .i64 2) := by rw [cell_of_row wF _ 0 _ _ _ hF.1]; rfl
        have r1 : wF.cell? ⟨w.heap.size, 1, none⟩ = some (.int .i64 0) := by rw [cell_of_row wF _ 1 _ _ _ hF.1]; rfl
        have r2 : wF.cell? ⟨w.heap.size, 2, none⟩ = some (.string TT) := by rw [cell_of_row wF _ 2 _ _ _ hF.1]; rfl
        exact bodyPost_ret (v := .tuple #[.agg #[.int .i64 2, .int .i64 0, .string TT], .int .i64 ((i + 2 : Nat) : Int)]) (by simp [results, Tryd.results27, go_sem, r0, r1, r2]) rfl ⟨⟨2, 0, TT⟩, i + 2, rfl, HAN.out, HW.out⟩
end Go.Proofs.YtaphfjomlignhaaDoor
