/- Cabins: the reference's Spots, walked. -/
import Derived.Test.YtddiabpjmnmllaaDoorJFtOne
import Derived.Test.YtddiabpjmnmllaaDoorJStep
import Derived.StillTailTactics
import Derived.Deep.CutBlock
import Derived.Deep.DeepCutAuto
import Derived.Deep.RegionHeld3
import Derived.BigRegion
namespace Go.Proofs.YtddiabpjmnmllaaDoor
open Go.RowKit Go.Lib
theorem spot_info : (Tryd.prog.info? 35).map (fun i => (i.zero, i.size, i.bytes)) = some (some (.agg #[.int .i64 0, .int .u8 0, .int .i64 0, .int .i64 0, .int .i64 0, .bool false, .bool false]), 7, 48) := by kernel_rfl
theorem box_keep {S : Nat → Prop} {w w' : World} {h : Nat} {o : Obj} (hb : w.heap[h]? = some o) (hu : Upd S w w') (hs : ¬ S h) : w'.heap[h]? = some o :=
  (hu.block h (Array.getElem?_eq_some_iff.1 hb).1 hs).trans hb
set_option maxHeartbeats 8000000 in
set_option maxRecDepth 20000 in
theorem rspots_any (w : World) (A : Option Addr) (n c : Nat) (l : List MRow) (hr : Rd w w.heap.size 5 A n (catv rowC l)) (hf : ∀ r ∈ l, r.fits) :
    Calls Tryd.prog 27 #[.slice A n c] w fun e w' => ∃ v, e = .returned v ∧ w'.ownsRow w.heap.size 35 7 v (spotsL l).length (catv spotC (spotsL l)) ∧ Below w.heap.size w w' := by
  obtain ⟨i0, hi0, hz0, hz1, hz2⟩ := info_parts spot_info
  have HL := Lib.hid (rd_catlen rowC_len (by decide) hr)
  have HR := Lib.hid hr
  have HCK := Lib.hid (rcheck_any w A n c l hr hf)
  obtain ⟨F, hF⟩ : ∃ F, spotsL l = F := ⟨_, rfl⟩
  rw [hF]
  have HF0 := Lib.hid hF
  clear hr hf hF
  go_enter Tryd.func27, Tryd.ntmps27
  go_wp2_with fail
  refine HCK.out.mono ?_
  rintro e w1 ⟨rfl, hb1⟩
  have HB1 := Lib.hid hb1
  have HR1 := Lib.hid ((HR.out.below hb1).mono hb1.size)
  clear hb1 HCK HR
  unfold errC
  cases hck : checkL l with
  | false =>
    have HS : Hid (F = []) := Lib.hid (by rw [← HF0.out]; unfold spotsL; rw [hck]; rfl)
    simp only [Bool.false_eq_true, if_false]
    go_wp2
    go_ret
    rw [HS.out]
    exact ⟨_, rfl, World.ownsRow_nil _ _ _ _, HB1.out⟩
  | true =>
    have HF : Hid (spotsAll l 0 = F) := Lib.hid (by rw [← HF0.out]; unfold spotsL; rw [hck]; rfl)
    have hcg : checkGo 0 l = true ∧ l.length ≤ 6 := by
      unfold checkL at hck
      simp only [Bool.and_eq_true, decide_eq_true_eq] at hck
      exact ⟨hck.2, hck.1.2⟩
    have HROW := Lib.hid (check_rows l 0 hcg.1)
    have hn6 : n ≤ 6 := by rw [HL.out]; exact hcg.2
    simp only [if_true]
    clear hcg hck
    go_wp2
    go_loopw [3, 4, 14] (fun ov bv iv wx => ∃ (k : Nat) (b : Nat) (O : List MSpot), k ≤ n ∧ iv = .int .i64 (k : Int) ∧ bv = .int .i64 (b : Int) ∧ b ≤ 12 * k ∧ O.length ≤ 12 * k ∧ Hid (F = O ++ spotsAll (l.drop k) b) ∧ Hid (wx.ownsRow w1.heap.size 35 7 ov O.length (catv spotC O)) ∧ Hid (Below w1.heap.size w1 wx)) (fun _ _ iv _ => n - (intOf iv).toNat)
    case atStart => exact ⟨0, 0, [], Nat.zero_le _, rfl, rfl, Nat.le_refl _, Nat.le_refl _, Lib.hid HF.out.symm, Lib.hid (World.ownsRow_nil _ _ _ _), Lib.hid (Below.refl _ _)⟩
    case round =>
      obtain ⟨k, b, O, hk, rfl, rfl, hb, hO, hG, hOw, hW⟩ := hrel
      by_cases hlt : k < n
      · obtain ⟨gb, off, rfl, hgb, hs, hcc⟩ := (HR1.out.below hW.out).elem rowC_len (by decide) hlt
        have hG2 := hG.out
        rw [List.drop_eq_getElem_cons hs, spotsAll] at hG2
        have hrw := HROW.out l[k] (List.getElem_mem hs)
        obtain ⟨r, hr⟩ : ∃ r, l[k] = r := ⟨_, rfl⟩
        rw [hr] at hcc hG2 hrw
        obtain ⟨r1, r2, r3, r4, r5⟩ := r
        have c0 := hcc 0 _ rfl
        have c1 := hcc 1 _ rfl
        have c2 := hcc 2 _ rfl
        have c3 := hcc 3 _ rfl
        have c4 := hcc 4 _ rfl
        rw [Nat.add_zero] at c0
        simp only at hG2 hrw
        have hsh := seats_short hrw.1
        obtain ⟨L, hL⟩ : ∃ L, r5.data.toList = L := ⟨_, rfl⟩
        have hat : ∀ (j : Nat) (h : j < r5.size) (h2 : j < L.length), r5[j] = L[j] := fun j h h2 => by subst hL; exact byte_at h h2
        have hsl : L.length = r5.size := by rw [← hL]; rfl
        rw [hL] at hG2 hsh
        have HAT := Lib.hid hat
        have HSL := Lib.hid hsl
        have hr11 : r5.size ≤ 11 := by omega
        have hws := hW.out.size
        have hb2 : Below wr.heap.size wr (wr.alloc (.cells #[.int .i64 r1, .int .i64 r2, .int .i64 r3, .bool r4, .string r5] 41)) := (Below.refl _ _).alloc (Nat.le_refl _) _
        have HX : Hid ((wr.alloc (.cells #[.int .i64 r1, .int .i64 r2, .int .i64 r3, .bool r4, .string r5] 41)).heap[wr.heap.size]? = some (.cells (rowC ⟨r1, r2, r3, r4, r5⟩).toArray 41 (0, 0))) := Lib.hid (heap_alloc_new wr _)
        have HO2 := Lib.hid (own_below hOw.out hb2)
        have HW2 := Lib.hid (hW.out.trans (hb2.mono hws))
        have HNE : Hid (∀ g, u3.ownBlock = some g → g ≠ wr.heap.size) := Lib.hid (fun g e h => by have := (hOw.out.lt g e).2; omega)
        have HG2 : Hid (F = O ++ spotsB ⟨r1, r2, r3, r4, r5⟩ (L.drop 0) b ++ spotsAll (l.drop (k + 1)) ((b : Int) + dotsN (L.drop 0) + 1)) := Lib.hid (by rw [List.drop_zero, List.append_assoc]; exact hG2)
        obtain ⟨h, hh⟩ : ∃ h, wr.heap.size = h := ⟨_, rfl⟩
        rw [hh] at HX HNE
        clear hcc hG2 hr hL hsl hat hb2 hG hOw hW hsh hrw
        go_wp2
        clear hh
        go_loopw [3, 4, 7] (fun ov bv jv wx => ∃ (j b' : Nat) (O' : List MSpot), j ≤ r5.size ∧ jv = .int .i64 (j : Int) ∧ bv = .int .i64 (b' : Int) ∧ b' ≤ 12 * k + j ∧ O'.length ≤ 12 * k + j ∧ Hid (F = O' ++ spotsB ⟨r1, r2, r3, r4, r5⟩ (L.drop j) b' ++ spotsAll (l.drop (k + 1)) ((b' : Int) + dotsN (L.drop j) + 1)) ∧ Hid (wx.heap[h]? = some (.cells (rowC ⟨r1, r2, r3, r4, r5⟩).toArray 41 (0, 0))) ∧ Hid (wx.ownsRow w1.heap.size 35 7 ov O'.length (catv spotC O')) ∧ Hid (∀ g, ov.ownBlock = some g → g ≠ h) ∧ Hid (Below w1.heap.size w1 wx)) (fun _ _ jv _ => r5.size - (intOf jv).toNat)
        case atStart => exact ⟨0, b, O, Nat.zero_le _, rfl, rfl, by omega, by omega, HG2, HX, HO2, HNE, HW2⟩
        case round =>
          clear HG2 HX HO2 HNE HW2
          obtain ⟨j, b', O', hj, rfl, rfl, hb', hO', hG, hX, hOw, hNE, hW⟩ := hrel
          have y0 : wr.cell? ⟨h, 0, none⟩ = some (.int .i64 r1) := by rw [cell_of_row _ _ 0 _ _ _ hX.out]; rfl
          have y1 : wr.cell? ⟨h, 1, none⟩ = some (.int .i64 r2) := by rw [cell_of_row _ _ 1 _ _ _ hX.out]; rfl
          have y2 : wr.cell? ⟨h, 2, none⟩ = some (.int .i64 r3) := by rw [cell_of_row _ _ 2 _ _ _ hX.out]; rfl
          have y3 : wr.cell? ⟨h, 3, none⟩ = some (.bool r4) := by rw [cell_of_row _ _ 3 _ _ _ hX.out]; rfl
          have y4 : wr.cell? ⟨h, 4, none⟩ = some (.string r5) := by rw [cell_of_row _ _ 4 _ _ _ hX.out]; rfl
          by_cases hlt2 : j < r5.size
          · have hjL : j < L.length := by rw [HSL.out]; exact hlt2
            have hTk := HAT.out j hlt2 hjL
            have hG2 := hG.out
            rw [List.drop_eq_getElem_cons hjL] at hG2
            obtain ⟨c, hc⟩ : ∃ c, L[j] = c := ⟨_, rfl⟩
            rw [hc] at hTk hG2
            have i1 : (0 : Int) ≤ (j : Int) := by omega
            have i2 : (j : Int) < (r5.size : Int) := by omega
            clear hc hG
            by_cases h46 : c = 46
            · subst h46
              have HG3 : Hid (F = O' ++ spotsB ⟨r1, r2, r3, r4, r5⟩ (L.drop (j + 1)) ((b' + 1 : Nat) : Int) ++ spotsAll (l.drop (k + 1)) (((b' + 1 : Nat) : Int) + dotsN (L.drop (j + 1)) + 1)) := Lib.hid (by
                rw [hG2]
                simp only [spotsB, dotsN, if_true]
                rw [show ((b' : Int) + ((dotsN (L.drop (j + 1)) + 1 : Nat) : Int) + 1) = ((b' + 1 : Nat) : Int) + dotsN (L.drop (j + 1)) + 1 by omega, show ((b' : Int) + 1) = ((b' + 1 : Nat) : Int) by omega])
              clear hG2
              go_wp2
              go_roundw
              case rel => exact ⟨j + 1, b' + 1, O', by omega, by go_num, by go_num, by omega, by omega, HG3, hX, hOw, hNE, hW⟩
              case measure => simp [intOf]; omega
            · have z2 : ((c.toNat : Int) == 46) = false := beq_eq_false_iff_ne.2 fun g => h46 (by
                have : c.toNat = 46 := by omega
                exact UInt8.toNat_inj.1 this)
              have z3 : (c.toNat == 46) = false := beq_eq_false_iff_ne.2 fun g => h46 (UInt8.toNat_inj.1 g)
              have HG3 : Hid (F = (O' ++ [spotOf ⟨r1, r2, r3, r4, r5⟩ c b']) ++ spotsB ⟨r1, r2, r3, r4, r5⟩ (L.drop (j + 1)) b' ++ spotsAll (l.drop (k + 1)) ((b' : Int) + dotsN (L.drop (j + 1)) + 1)) := Lib.hid (by
                rw [hG2]
                simp only [spotsB, dotsN, if_neg h46]
                simp)
              clear hG2 h46
              go_wp2_with fail
              refine (great_any _ c).mono ?_
              rintro e w2 ⟨rfl, hw2⟩
              subst hw2
              go_upto_region 14 with (fail)
              have hhl := (Array.getElem?_eq_some_iff.1 hX.out).1
              have MK : Hid (∀ V : World, Below w1.heap.size w1 V → V.heap[h]? = some (.cells (rowC ⟨r1, r2, r3, r4, r5⟩).toArray 41 (0, 0)) → Below w1.heap.size w1 V ∧ V.cell? ⟨h, 0, none⟩ = some (.int .i64 r1) ∧ V.cell? ⟨h, 1, none⟩ = some (.int .i64 r2) ∧ V.cell? ⟨h, 2, none⟩ = some (.int .i64 r3) ∧ V.cell? ⟨h, 3, none⟩ = some (.bool r4) ∧ V.cell? ⟨h, 4, none⟩ = some (.string r5)) := Lib.hid (fun V hV hx =>
                ⟨hV, by rw [cell_of_row _ _ 0 _ _ _ hx]; rfl, by rw [cell_of_row _ _ 1 _ _ _ hx]; rfl, by rw [cell_of_row _ _ 2 _ _ _ hx]; rfl, by rw [cell_of_row _ _ 3 _ _ _ hx]; rfl, by rw [cell_of_row _ _ 4 _ _ _ hx]; rfl⟩)
              have hbd : Below w2.heap.size w2 w2.drew := ⟨rfl, rfl, rfl, Nat.le_refl _, fun _ _ => rfl⟩
              have HOD := Lib.hid (own_below hOw.out hbd)
              have HBD : Hid (Below w1.heap.size w1 w2.drew) := Lib.hid (hW.out.trans (hbd.mono hW.out.size))
              have HBA : Hid (∀ o, Below w1.heap.size w1 (w2.drew.alloc o)) := Lib.hid (fun o => HBD.out.alloc (by have := hW.out.size; exact this) o)
              have HXA : Hid (∀ o, (w2.drew.alloc o).heap[h]? = some (.cells (rowC ⟨r1, r2, r3, r4, r5⟩).toArray 41 (0, 0))) := Lib.hid (fun o => (Below.heap_alloc w2 o h hhl).trans hX.out)
              clear hbd
              go_region_held3 (fun V => Below w1.heap.size w1 V ∧ V.cell? ⟨h, 0, none⟩ = some (.int .i64 r1) ∧ V.cell? ⟨h, 1, none⟩ = some (.int .i64 r2) ∧ V.cell? ⟨h, 2, none⟩ = some (.int .i64 r3) ∧ V.cell? ⟨h, 3, none⟩ = some (.bool r4) ∧ V.cell? ⟨h, 4, none⟩ = some (.string r5))
                (first | exact MK.out _ hb4 hx4 | exact MK.out _ HBD.out hX.out | exact MK.out _ (HBA.out _) (HXA.out _) | exact MK.out _ hW.out hX.out)
                (first
                  | (refine step_app (by rfl) (.tmp 37) (.tmp 56) 56 (by rfl) w1.heap.size 35 i0 _ 7 48 Tryd.underlying56 hi0 hz0 hz1 hz2 rfl (by omega) u3 O'.length (catv spotC O') _ (some ⟨w2.heap.size, 0, none⟩) 1 1 _ (by rfl) (by exact HOD.out.alloc _) (by rfl) (rd_block (heap_alloc_new w2.drew _) rfl) (by simp [Value.oneCell']) (by omega) (by unfold maxLen; omega) (by simp; have := hW.out.size; omega) ?_
                     intro v4 w4 ho4 hu4 hat4
                     have hb4 : Below w1.heap.size w1 w4 := (HBA.out _).trans (hu4.below (fun i hi e => by have := (hOw.out.lt i e).1; omega) (HBA.out _).size)
                     have hx4 : w4.heap[h]? = some (.cells (rowC ⟨r1, r2, r3, r4, r5⟩).toArray 41 (0, 0)) := (hu4.block h (by simp; omega) (fun e => hNE.out h e rfl)).trans (HXA.out _))
                  | fail)
              have hbne : ((((greatB c).toNat : Int) != (c.toNat : Int)) = decide (greatB c ≠ c)) := by
                rw [Bool.eq_iff_iff, bne_iff_ne, decide_eq_true_eq]
                constructor
                · exact fun h1 h2 => h1 (by rw [h2])
                · exact fun h1 h2 => h1 (UInt8.toNat_inj.1 (by omega))
              have HO4 : Hid (w4.ownsRow w1.heap.size 35 7 v4 (O' ++ [spotOf ⟨r1, r2, r3, r4, r5⟩ c b']).length (catv spotC (O' ++ [spotOf ⟨r1, r2, r3, r4, r5⟩ c b']))) := Lib.hid (by
                rw [List.length_append, catv_append, catv_one]
                simp only [spotOf, spotC]
                rw [← hbne]
                exact ho4)
              have HX4 := Lib.hid hx4
              have HNE4 : Hid (∀ g, v4.ownBlock = some g → g ≠ h) := Lib.hid (fun g e e2 => by
                subst e2
                rcases hat4 with h1 | ⟨q, hq, h1⟩
                · exact hNE.out g (h1.symm.trans e) rfl
                · rw [e] at h1
                  injection h1 with h1
                  simp at hq
                  omega)
              have HB4 := Lib.hid hb4
              clear ho4 hu4 hat4 hb4 hx4 hX hOw hNE hW MK HOD HBA HBD HXA y0 y1 y2 y3 y4 hbne hhl
              go_wp2
              go_roundw
              case rel => exact ⟨j + 1, b', O' ++ [spotOf ⟨r1, r2, r3, r4, r5⟩ c b'], by omega, by go_num, rfl, by omega, by simp; omega, HG3, HX4, HO4, HNE4, HB4⟩
              case measure => simp [intOf]; omega
          · have hz : ¬ (j : Int) < (r5.size : Int) := by omega
            have hG2 := hG.out
            rw [List.drop_eq_nil_of_le (by rw [HSL.out]; omega)] at hG2
            have HG3 : Hid (F = O' ++ spotsAll (l.drop (k + 1)) ((b' + 1 : Nat) : Int)) := Lib.hid (by
              rw [hG2]
              simp only [spotsB, dotsN, List.append_nil]
              rw [show ((b' : Int) + ((0 : Nat) : Int) + 1) = ((b' + 1 : Nat) : Int) by omega])
            clear hG hG2
            go_wp2
            go_roundw
            case rel => exact ⟨k + 1, b' + 1, O', by omega, by go_num, by go_num, by omega, by omega, HG3, hOw, hW⟩
            case measure => simp [intOf]; omega
      · have hz : ¬ (k : Int) < (n : Int) := by omega
        have hG2 := hG.out
        rw [List.drop_eq_nil_of_le (by rw [← HL.out]; omega), spotsAll, List.append_nil] at hG2
        have HG2 := Lib.hid hG2
        have HBX := Lib.hid (HB1.out.trans (hW.out.mono HB1.out.size))
        have hs1 := HB1.out.size
        clear hG hG2
        go_wp2
        go_ret
        rw [HG2.out]
        exact ⟨_, rfl, own_mono hOw.out hs1, HBX.out⟩
end Go.Proofs.YtddiabpjmnmllaaDoor
