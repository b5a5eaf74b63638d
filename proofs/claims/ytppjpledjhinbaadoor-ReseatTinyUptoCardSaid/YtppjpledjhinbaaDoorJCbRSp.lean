/- Cabins: the reference's Spots, walked. -/
import Derived.Test.YtppjpledjhinbaaDoorJFtOne
import Derived.Test.YtppjpledjhinbaaDoorJVMap
import Derived.StillTailTactics
import Derived.Deep.CutBlock
import Derived.Deep.DeepCutAuto
import Derived.Deep.RegionHeld3
import Derived.BigRegion
import Derived.Test.YtppjpledjhinbaaDoorJRgSplit
namespace Go.Proofs.YtppjpledjhinbaaDoor
open Go.RowKit Go.Lib
theorem spot_info : (Tryd.prog.info? 105).map (fun i => (i.zero, i.size, i.bytes)) = some (some (.agg #[.int .i64 0, .int .u8 0, .int .i64 0, .int .i64 0, .int .i64 0, .bool false, .bool false]), 7, 48) := by kernel_rfl
theorem box_keep {S : Nat → Prop} {w w' : World} {h : Nat} {o : Obj} (hb : w.heap[h]? = some o) (hu : Upd S w w') (hs : ¬ S h) : w'.heap[h]? = some o :=
  (hu.block h (Array.getElem?_eq_some_iff.1 hb).1 hs).trans hb
set_option maxHeartbeats 8000000 in
set_option maxRecDepth 20000 in
theorem rspots_any (w : World) (A : Option Addr) (n c : Nat) (l : List MRow) (hr : Rd w w.heap.size 5 A n (catv rowC l)) (hf : ∀ r ∈ l, r.fits) :
    Calls Tryd.prog 21 #[.slice A n c] w fun e w' => ∃ v, e = .returned v ∧ w'.ownsRow w.heap.size 105 7 v (spotsL l).length (catv spotC (spotsL l)) ∧ Below w.heap.size w w' := by
  obtain ⟨i0, hi0, hz0, hz1, hz2⟩ := info_parts spot_info
  have HL := Lib.hid (rd_catlen rowC_len (by decide) hr)
  have HR := Lib.hid hr
  have HCK := Lib.hid (rcheck_any w A n c l hr hf)
  obtain ⟨F, hF⟩ : ∃ F, spotsL l = F := ⟨_, rfl⟩
  rw [hF]
  have HF0 := Lib.hid hF
  clear hr hf hF
  go_enter Tryd.func21, Tryd.ntmps21
  go_wp2_with fail
  refine HCK.out.mono ?_
  rintro e w1 ⟨rfl, hb1⟩
  have HB1 := Lib.hid hb1
  have HR1 := Lib.hid ((HR.out.below hb1).mono hb1.size)
  clear hb1 HCK HR
  unfold errC
  cases hck : checkL l with
  | false =>
    have HS : Hid (F = []) := Lib.hid (by rw [← HF0.out]; unfold spotsL; rw [hck]; rfl)
    simp only [Bool.false_eq_true, if_false]
    go_wp2
    go_ret
    rw [HS.out]
    exact ⟨_, rfl, World.ownsRow_nil _ _ _ _, HB1.out⟩
  | true =>
    have HF : Hid (spotsAll l 0 = F) := Lib.hid (by rw [← HF0.out]; unfold spotsL; rw [hck]; rfl)
    have hcg : checkGo 0 l = true ∧ l.length ≤ 6 := by
      unfold checkL at hck
      simp only [Bool.and_eq_true, decide_eq_true_eq] at hck
      exact ⟨hck.2, hck.1.2⟩
    have HROW := Lib.hid (check_rows l 0 hcg.1)
    have hn6 : n ≤ 6 := by rw [HL.out]; exact hcg.2
    simp only [if_true]
    clear hcg hck
    go_wp2
    go_loopw [3, 4, 14] (fun ov bv iv wx => ∃ (k : Nat) (b : Nat) (O : List MSpot), k ≤ n ∧ iv = .int .i64 (k : Int) ∧ bv = .int .i64 (b : Int) ∧ b ≤ 12 * k ∧ O.length ≤ 12 * k ∧ Hid (F = O ++ spotsAll (l.drop k) b) ∧ Hid (wx.ownsRow w1.heap.size 105 7 ov O.length (catv spotC O)) ∧ Hid (Below w1.heap.size w1 wx)) (fun _ _ iv _ => n - (intOf iv).toNat)
    case atStart => exact ⟨0, 0, [], Nat.zero_le _, rfl, rfl, Nat.le_refl _, Nat.le_refl _, Lib.hid HF.out.symm, Lib.hid (World.ownsRow_nil _ _ _ _), Lib.hid (Below.refl _ _)⟩
    case round =>
      obtain ⟨k, b, O, hk, rfl, rfl, hb, hO, hG, hOw, hW⟩ := hrel
      by_cases hlt : k < n
      · obtain ⟨gb, off, rfl, hgb, hs, hcc⟩ := (HR1.out.below hW.out).elem rowC_len (by decide) hlt
        have hG2 := hG.out
        rw [List.drop_eq_getElem_cons hs, spotsAll] at hG2
        have hrw := HROW.out l[k] (List.getElem_mem hs)
        obtain ⟨r, hr⟩ : ∃ r, l[k] = r := ⟨_, rfl⟩
        rw [hr] at hcc hG2 hrw
        obtain ⟨r1, r2, r3, r4, r5⟩ := r
        have c0 := hcc 0 _ rfl
        have c1 := hcc 1 _ rfl
        have c2 := hcc 2 _ rfl
        have c3 := hcc 3 _ rfl
        have c4 := hcc 4 _ rfl
        rw [Nat.add_zero] at c0
        simp only at hG2 hrw
        have hsh := seats_short hrw.1
        obtain ⟨L, hL⟩ : ∃ L, r5.data.toList = L := ⟨_, rfl⟩
        have hat : ∀ (j : Nat) (h : j < r5.size) (h2 : j < L.length), r5[j] = L[j] := fun j h h2 => by subst hL; exact byte_at h h2
        have hsl : L.length = r5.size := by rw [← hL]; rfl
        rw [hL] at hG2 hsh
        have HAT := Lib.hid hat
        have HSL := Lib.hid hsl
        have hr11 : r5.size ≤ 11 := by omega
        have hws := hW.out.size
        have hb2 : Below wr.heap.size wr (wr.alloc (.cells #[.int .i64 r1, .int .i64 r2, .int .i64 r3, .bool r4, .string r5] 72)) := (Below.refl _ _).alloc (Nat.le_refl _) _
        have HX : Hid ((wr.alloc (.cells #[.int .i64 r1, .int .i64 r2, .int .i64 r3, .bool r4, .string r5] 72)).heap[wr.heap.size]? = some (.cells (rowC ⟨r1, r2, r3, r4, r5⟩).toArray 72 (0, 0))) := Lib.hid (heap_alloc_new wr _)
        have HO2 := Lib.hid (own_below hOw.out hb2)
        have HW2 := Lib.hid (hW.out.trans (hb2.mono hws))
        have HNE : Hid (∀ g, u3.ownBlock = some g → g ≠ wr.heap.size) := Lib.hid (fun g e h => by have := (hOw.out.lt g e).2; omega)
        have HG2 : Hid (F = O ++ spotsB ⟨r1, r2, r3, r4, r5⟩ (L.drop 0) b ++ spotsAll (l.drop (k + 1)) ((b : Int) + dotsN (L.drop 0) + 1)) := Lib.hid (by rw [List.drop_zero, List.append_assoc]; exact hG2)
        obtain ⟨h, hh⟩ : ∃ h, wr.heap.size = h := ⟨_, rfl⟩
        rw [hh] at HX HNE
        clear hcc hG2 hr hL hsl hat hb2 hG hOw hW hsh hrw
        go_wp2
        clear hh
        go_loopw [3, 4, 7] (fun ov bv jv wx => ∃ (j b' : Nat) (O' : List MSpot), j ≤ r5.size ∧ jv = .int .i64 (j : Int) ∧ bv = .int .i64 (b' : Int) ∧ b' ≤ 12 * k + j ∧ O'.length ≤ 12 * k + j ∧ Hid (F = O' ++ spotsB ⟨r1, r2, r3, r4, r5⟩ (L.drop j) b' ++ spotsAll (l.drop (k + 1)) ((b' : Int) + dotsN (L.drop j) + 1)) ∧ Hid (wx.heap[h]? = some (.cells (rowC ⟨r1, r2, r3, r4, r5⟩).toArray 72 (0, 0))) ∧ Hid (wx.ownsRow w1.heap.size 105 7 ov O'.length (catv spotC O')) ∧ Hid (∀ g, ov.ownBlock = some g → g ≠ h) ∧ Hid (Below w1.heap.size w1 wx)) (fun _ _ jv _ => r5.size - (intOf jv).toNat)
        case atStart => exact ⟨0, b, O, Nat.zero_le _, rfl, rfl, by omega, by omega, HG2, HX, HO2, HNE, HW2⟩
        case round =>
          clear HG2 HX HO2 HNE HW2
          obtain ⟨j, b', O', hj, rfl, rfl, hb', hO', hG, hX, hOw, hNE, hW⟩ := hrel
          have y0 : wr.cell? ⟨h, 0, none⟩ = some (.int .i64 r1) := by rw [cell_of_row _ _ 0 _ _ _ hX.out]; rfl
          have y1 : wr.cell? ⟨h, 1, none⟩ = some (.int .i64 r2) := by rw [cell_of_row _ _ 1 _ _ _ hX.out]; rfl
          have y2 : wr.cell? ⟨h, 2, none⟩ = some (.int .i64 r3) := by rw [cell_of_row _ _ 2 _ _ _ hX.out]; rfl
          have y3 : wr.cell? ⟨h, 3, none⟩ = some (.bool r4) := by rw [cell_of_row _ _ 3 _ _ _ hX.out]; rfl
          have y4 : wr.cell? ⟨h, 4, none⟩ = some (.string r5) := by rw [cell_of_row _ _ 4 _ _ _ hX.out]; rfl
          by_cases hlt2 : j < r5.size
          · have hjL : j < L.length := by rw [HSL.out]; exact hlt2
            have hTk := HAT.out j hlt2 hjL
            have hG2 := hG.out
            rw [List.drop_eq_getElem_cons hjL] at hG2
            obtain ⟨c, hc⟩ : ∃ c, L[j] = c := ⟨_, rfl⟩
            rw [hc] at hTk hG2
            have i1 : (0 : Int) ≤ (j : Int) := by omega
            have i2 : (j : Int) < (r5.size : Int) := by omega
            clear hc hG
            by_cases h46 : c = 46
            · subst h46
              have HG3 : Hid (F = O' ++ spotsB ⟨r1, r2, r3, r4, r5⟩ (L.drop (j + 1)) ((b' + 1 : Nat) : Int) ++ spotsAll (l.drop (k + 1)) (((b' + 1 : Nat) : Int) + dotsN (L.drop (j + 1)) + 1)) := Lib.hid (by
                rw [hG2]
                simp only [spotsB, dotsN, if_true]
                rw [show ((b' : Int) + ((dotsN (L.drop (j + 1)) + 1 : Nat) : Int) + 1) = ((b' + 1 : Nat) : Int) + dotsN (L.drop (j + 1)) + 1 by omega, show ((b' : Int) + 1) = ((b' + 1 : Nat) : Int) by omega])
              clear hG2
              go_wp2
              go_roundw
              case rel => exact ⟨j + 1, b' + 1, O', by omega, by go_num, by go_num, by omega, by omega, HG3, hX, hOw, hNE, hW⟩
              case measure => simp [intOf]; omega
            · have z2 : ((c.toNat : Int) == 46) = false := beq_eq_false_iff_ne.2 fun g => h46 (by
                have : c.toNat = 46 := by omega
                exact UInt8.toNat_inj.1 this)
              have z3 : (c.toNat == 46) = false := beq_eq_false_iff_ne.2 fun g => h46 (UInt8.toNat_inj.1 g)
              have HG3 : Hid (F = (O' ++ [spotOf ⟨r1, r2, r3, r4, r5⟩ c b']) ++ spotsB ⟨r1, r2, r3, r4, r5⟩ (L.drop (j + 1)) b' ++ spotsAll (l.drop (k + 1)) ((b' : Int) + dotsN (L.drop (j + 1)) + 1)) := Lib.hid (by
                rw [hG2]
                simp only [spotsB, dotsN, if_neg h46]
                simp)
              clear hG2 h46
              go_wp2_with fail
              refine (great_any _ c).mono ?_
              rintro e w2 ⟨rfl, hw2⟩
              subst hw2
              go_upto_region 14 with (fail)
              have hhl := (Array.getElem?_eq_some_iff.1 hX.out).1
              have MK : Hid (∀ V : World, Below w1.heap.size w1 V → V.heap[h]? = some (.cells (rowC ⟨r1, r2, r3, r4, r5⟩).toArray 72 (0, 0)) → Below w1.heap.size w1 V ∧ V.cell? ⟨h, 0, none⟩ = some (.int .i64 r1) ∧ V.cell? ⟨h, 1, none⟩ = some (.int .i64 r2) ∧ V.cell? ⟨h, 2, none⟩ = some (.int .i64 r3) ∧ V.cell? ⟨h, 3, none⟩ = some (.bool r4) ∧ V.cell? ⟨h, 4, none⟩ = some (.string r5)) := Lib.hid (fun V hV hx =>
                ⟨hV, by rw [cell_of_row _ _ 0 _ _ _ hx]; rfl, by rw [cell_of_row _ _ 1 _ _ _ hx]; rfl, by rw [cell_of_row _ _ 2 _ _ _ hx]; rfl, by rw [cell_of_row _ _ 3 _ _ _ hx]; rfl, by rw [cell_of_row _ _ 4 _ _ _ hx]; rfl⟩)
              have hbd : Below w2.heap.size w2 w2.drew := ⟨rfl, rfl, rfl, Nat.le_refl _, fun _ _ => rfl⟩
              have HOD := Lib.hid (own_below hOw.out hbd)
              have HBD : Hid (Below w1.heap.size w1 w2.drew) := Lib.hid (hW.out.trans (hbd.mono hW.out.size))
              have HBA : Hid (∀ o, Below w1.heap.size w1 (w2.drew.alloc o)) := Lib.hid (fun o => HBD.out.alloc (by have := hW.out.size; exact this) o)
              have HXA : Hid (∀ o, (w2.drew.alloc o).heap[h]? = some (.cells (rowC ⟨r1, r2, r3, r4, r5⟩).toArray 72 (0, 0))) := Lib.hid (fun o => (Below.heap_alloc w2 o h hhl).trans hX.out)
              clear hbd
              go_region_held3 (fun V => Below w1.heap.size w1 V ∧ V.cell? ⟨h, 0, none⟩ = some (.int .i64 r1) ∧ V.cell? ⟨h, 1, none⟩ = some (.int .i64 r2) ∧ V.cell? ⟨h, 2, none⟩ = some (.int .i64 r3) ∧ V.cell? ⟨h, 3, none⟩ = some (.bool r4) ∧ V.cell? ⟨h, 4, none⟩ = some (.string r5))
                (first | exact MK.out _ hb4 hx4 | exact MK.out _ HBD.out hX.out | exact MK.out _ (HBA.out _) (HXA.out _) | exact MK.out _ hW.out hX.out)
                (first
                  | (refine step_app (by rfl) (.tmp 37) (.tmp 56) 44 (by rfl) w1.heap.size 105 i0 _ 7 48 Tryd.underlying44 hi0 hz0 hz1 hz2 rfl (by omega) u3 O'.length (catv spotC O') _ (some ⟨w2.heap.size, 0, none⟩) 1 1 _ (by rfl) (by exact HOD.out.alloc _) (by rfl) (rd_block (heap_alloc_new w2.drew _) rfl) (by simp [Value.oneCell']) (by omega) (by unfold maxLen; omega) (by simp; have := hW.out.size; omega) ?_
                     intro v4 w4 ho4 hu4 hat4
                     have hb4 : Below w1.heap.size w1 w4 := (HBA.out _).trans (hu4.below (fun i hi e => by have := (hOw.out.lt i e).1; omega) (HBA.out _).size)
                     have hx4 : w4.heap[h]? = some (.cells (rowC ⟨r1, r2, r3, r4, r5⟩).toArray 72 (0, 0)) := (hu4.block h (by simp; omega) (fun e => hNE.out h e rfl)).trans (HXA.out _))
                  | fail)
              have hbne : ((((greatB c).toNat : Int) != (c.toNat : Int)) = decide (greatB c ≠ c)) := by
                rw [Bool.eq_iff_iff, bne_iff_ne, decide_eq_true_eq]
                constructor
                · exact fun h1 h2 => h1 (by rw [h2])
                · exact fun h1 h2 => h1 (UInt8.toNat_inj.1 (by omega))
              have HO4 : Hid (w4.ownsRow w1.heap.size 105 7 v4 (O' ++ [spotOf ⟨r1, r2, r3, r4, r5⟩ c b']).length (catv spotC (O' ++ [spotOf ⟨r1, r2, r3, r4, r5⟩ c b']))) := Lib.hid (by
                rw [List.length_append, catv_append, catv_one]
                simp only [spotOf, spotC]
                rw [← hbne]
                exact ho4)
              have HX4 := Lib.hid hx4
              have HNE4 : Hid (∀ g, v4.ownBlock = some g → g ≠ h) := Lib.hid (fun g e e2 => by
                subst e2
                rcases hat4 with h1 | ⟨q, hq, h1⟩
                · exact hNE.out g (h1.symm.trans e) rfl
                · rw [e] at h1
                  injection h1 with h1
                  simp at hq
                  omega)
              have HB4 := Lib.hid hb4
              clear ho4 hu4 hat4 hb4 hx4 hX hOw hNE hW MK HOD HBA HBD HXA y0 y1 y2 y3 y4 hbne hhl
              go_wp2
              go_roundw
              case rel => exact ⟨j + 1, b', O' ++ [spotOf ⟨r1, r2, r3, r4, r5⟩ c b'], by omega, by go_num, rfl, by omega, by simp; omega, HG3, HX4, HO4, HNE4, HB4⟩
              case measure => simp [intOf]; omega
          · have hz : ¬ (j : Int) < (r5.size : Int) := by omega
            have hG2 := hG.out
            rw [List.drop_eq_nil_of_le (by rw [HSL.out]; omega)] at hG2
            have HG3 : Hid (F = O' ++ spotsAll (l.drop (k + 1)) ((b' + 1 : Nat) : Int)) := Lib.hid (by
              rw [hG2]
              simp only [spotsB, dotsN, List.append_nil]
              rw [show ((b' : Int) + ((0 : Nat) : Int) + 1) = ((b' + 1 : Nat) : Int) by omega])
            clear hG hG2
            go_wp2
            go_roundw
            case rel => exact ⟨k + 1, b' + 1, O', by omega, by go_num, by go_num, by omega, by omega, HG3, hOw, hW⟩
            case measure => simp [intOf]; omega
      · have hz : ¬ (k : Int) < (n : Int) := by omega
        have hG2 := hG.out
        rw [List.drop_eq_nil_of_le (by rw [← HL.out]; omega), spotsAll, List.append_nil] at hG2
        have HG2 := Lib.hid hG2
        have HBX := Lib.hid (HB1.out.trans (hW.out.mono HB1.out.size))
        have hs1 := HB1.out.size
        clear hG hG2
        go_wp2
        go_ret
        rw [HG2.out]
        exact ⟨_, rfl, own_mono hOw.out hs1, HBX.out⟩
end Go.Proofs.YtppjpledjhinbaaDoor
/- Cabins: cabin.Check, walked. -/
namespace Go.Proofs.YtppjpledjhinbaaDoor
open Go.RowKit Go.Lib
set_option maxHeartbeats 4000000 in
set_option maxRecDepth 20000 in
theorem check_any (w : World) (m : Int) (A : Option Addr) (n c : Nat) (l : List MRow) (hr : Rd w w.heap.size 5 A n (catv rowC l)) (hf : ∀ r ∈ l, r.fits) (hLib : LibAt w m) :
    Calls Tryd.prog 49 #[.slice A n c] w fun e w' => e = .returned (.int .i64 (errC l)) ∧ Below w.heap.size w w' := by
  have HL := Lib.hid (rd_catlen rowC_len (by decide) hr)
  have HR := Lib.hid hr
  have HF := Lib.hid hf
  have HLB := Lib.hid hLib
  obtain ⟨E, hE⟩ : ∃ E, errC l = E := ⟨_, rfl⟩
  have HE := Lib.hid hE
  rw [hE]
  have HBT := Lib.hid (fun W n lo hi r h => btw_any W n lo hi r h)
  clear hr hf hE hLib
  go_enter Tryd.func49, Tryd.ntmps49
  have bad : checkL l = false → E = 13 := fun h => by rw [← HE.out]; unfold errC; rw [h]; rfl
  have HBAD := Lib.hid bad
  clear bad
  obtain ⟨b0, hb0⟩ : ∃ b0, (decide ((1 : Int) ≤ (n : Int)) && decide ((n : Int) ≤ 6)) = b0 := ⟨_, rfl⟩
  have hb0' : decide (1 ≤ l.length ∧ l.length ≤ 6) = b0 := by
    rw [← hb0, Bool.eq_iff_iff, Bool.and_eq_true, decide_eq_true_eq, decide_eq_true_eq, decide_eq_true_eq, ← HL.out]
    omega
  have HB0 := Lib.hid hb0
  have hcl0 : checkL l = (b0 && checkGo 0 l) := by unfold checkL; rw [hb0']
  have HCL0 := Lib.hid hcl0
  clear hb0 hb0' hcl0
  go_wp2_with fail
  refine (HBT.out w _ _ _ b0 HB0.out).mono ?_
  rintro e w1 ⟨rfl, hw1⟩
  subst hw1
  cases b0 with
  | false =>
    have HX : Hid (E = 13) := Lib.hid (HBAD.out (by rw [HCL0.out]; rfl))
    go_wp2
    go_ret
    exact ⟨ret_int HX.out.symm, Below.refl _ _⟩
  | true =>
  have HCL : Hid (checkL l = checkGo 0 l) := Lib.hid (by rw [HCL0.out]; rfl)
  have HNB : Hid (1 ≤ n ∧ n ≤ 6) := Lib.hid (by have h := HB0.out; simp only [Bool.and_eq_true, decide_eq_true_eq] at h; omega)
  have hn6 := HNB.out.2
  clear HCL0 HB0
  go_wp2
  go_loopw [3, 12] (fun lv i wx => ∃ k : Nat, k ≤ n ∧ i = .int .i64 (k : Int) ∧ lv = .int .i64 (lastNum l k) ∧ Hid (0 ≤ lastNum l k ∧ lastNum l k ≤ 99) ∧ Hid (checkL l = checkGo (lastNum l k) (l.drop k)) ∧ Hid (Below w1.heap.size w1 wx)) (fun _ i _ => n - (intOf i).toNat)
  case atStart => exact ⟨0, Nat.zero_le _, rfl, by unfold lastNum; rw [if_pos rfl], Lib.hid (by unfold lastNum; rw [if_pos rfl]; omega), Lib.hid (by unfold lastNum; rw [if_pos rfl]; exact HCL.out), Lib.hid (Below.refl _ _)⟩
  case round =>
    obtain ⟨k, hk, rfl, rfl, hla0, hG, hW⟩ := hrel
    by_cases hlt : k < n
    · obtain ⟨b, off, rfl, hb, hs, hcc⟩ := (HR.out.below hW.out).elem rowC_len (by decide) hlt
      have hG2 := hG.out
      rw [List.drop_eq_getElem_cons hs, checkGo] at hG2
      have hln := lastNum_succ hs
      have hfit := HF.out l[k] (List.getElem_mem hs)
      obtain ⟨r, hr⟩ : ∃ r, l[k] = r := ⟨_, rfl⟩
      rw [hr] at hcc hG2 hln hfit
      obtain ⟨r1, r2, r3, r4, r5⟩ := r
      have c0 := hcc 0 _ rfl
      have c1 := hcc 1 _ rfl
      have c2 := hcc 2 _ rfl
      have c3 := hcc 3 _ rfl
      have c4 := hcc 4 _ rfl
      rw [Nat.add_zero] at c0
      rw [rowOk_iff] at hG2
      simp only at hG2 hln
      have hseat := letters_any r5
      obtain ⟨sb, hsb⟩ : ∃ sb, seatsOk r5 = sb := ⟨_, rfl⟩
      obtain ⟨last, hla⟩ : ∃ last, lastNum l k = last := ⟨_, rfl⟩
      rw [hsb, hla] at hG2
      rw [hsb] at hseat
      rw [hla] at hla0
      rw [hla]
      have hl0 := hla0.out
      obtain ⟨x1, hx1⟩ : ∃ x1, (decide (last + 1 ≤ r1) && decide (r1 ≤ 99)) = x1 := ⟨_, rfl⟩
      obtain ⟨x2, hx2⟩ : ∃ x2, (decide (1 ≤ r2) && decide (r2 ≤ 3)) = x2 := ⟨_, rfl⟩
      obtain ⟨x3, hx3⟩ : ∃ x3, (decide (0 ≤ r3) && decide (r3 ≤ 3)) = x3 := ⟨_, rfl⟩
      have e1 : decide (last < r1 ∧ r1 ≤ 99) = x1 := by
        rw [← hx1, Bool.eq_iff_iff, Bool.and_eq_true, decide_eq_true_eq, decide_eq_true_eq, decide_eq_true_eq]; omega
      have e2 : decide (1 ≤ r2 ∧ r2 ≤ 3) = x2 := by
        rw [← hx2, Bool.eq_iff_iff, Bool.and_eq_true, decide_eq_true_eq, decide_eq_true_eq, decide_eq_true_eq]
      have e3 : decide (0 ≤ r3 ∧ r3 ≤ 3) = x3 := by
        rw [← hx3, Bool.eq_iff_iff, Bool.and_eq_true, decide_eq_true_eq, decide_eq_true_eq, decide_eq_true_eq]
      rw [e1, e2, e3] at hG2
      have HG2 := Lib.hid hG2
      have HLN := Lib.hid hln
      have HX1 := Lib.hid hx1
      have HX2 := Lib.hid hx2
      have HX3 := Lib.hid hx3
      have hws := hW.out.size
      have hb2 : Below wr.heap.size wr (wr.alloc (.cells #[.int .i64 r1, .int .i64 r2, .int .i64 r3, .bool r4, .string r5] 72)) := (Below.refl _ _).alloc (Nat.le_refl _) _
      have hbw2 := hW.out.trans (hb2.mono hws)
      have HW2 := Lib.hid hbw2
      obtain ⟨w2, hw2⟩ : ∃ w2, w2 = wr.alloc (.cells #[.int .i64 r1, .int .i64 r2, .int .i64 r3, .bool r4, .string r5] 72) := ⟨_, rfl⟩
      rw [← hw2] at HW2 hbw2
      have HST := Lib.hid (hseat w2 m (HLB.out.below hbw2) hfit.2)
      have hy : w2.heap[wr.heap.size]? = some (.cells (rowC ⟨r1, r2, r3, r4, r5⟩).toArray 72 (0, 0)) := by rw [hw2]; exact heap_alloc_new wr _
      have HY := Lib.hid hy
      have y0 : w2.cell? ⟨wr.heap.size, 0, none⟩ = some (.int .i64 r1) := by rw [cell_of_row _ _ 0 _ _ _ hy]; rfl
      have y1 : w2.cell? ⟨wr.heap.size, 1, none⟩ = some (.int .i64 r2) := by rw [cell_of_row _ _ 1 _ _ _ hy]; rfl
      have y2 : w2.cell? ⟨wr.heap.size, 2, none⟩ = some (.int .i64 r3) := by rw [cell_of_row _ _ 2 _ _ _ hy]; rfl
      have y4 : w2.cell? ⟨wr.heap.size, 4, none⟩ = some (.string r5) := by rw [cell_of_row _ _ 4 _ _ _ hy]; rfl
      have hwl : IntKind.i64.wrap (last + 1) = last + 1 := IntWalk.i64_in _ (by omega)
      clear hcc hG2 hln hfit hr hsb hla hseat hb2 hG hW hla0 hx1 hx2 hx3 e1 e2 e3 hy hbw2
      go_upto_region 7 with (fail)
      rw [← hw2]
      clear hw2 c0 c1 c2 c3 c4
      go_wp2_with fail
      refine (HBT.out w2 _ _ _ x1 HX1.out).mono ?_
      rintro e w3 ⟨rfl, hw3⟩
      subst hw3
      cases x1 with
      | false =>
        have HX : Hid (E = 13) := Lib.hid (HBAD.out (by rw [HG2.out]; simp))
        go_wp2
        go_ret
        exact ⟨ret_int HX.out.symm, HW2.out⟩
      | true =>
      go_wp2_with fail
      refine (HBT.out w3 _ _ _ x2 HX2.out).mono ?_
      rintro e w4 ⟨rfl, hw4⟩
      subst hw4
      cases x2 with
      | false =>
        have HX : Hid (E = 13) := Lib.hid (HBAD.out (by rw [HG2.out]; simp))
        go_wp2
        go_ret
        exact ⟨ret_int HX.out.symm, HW2.out⟩
      | true =>
      go_wp2_with fail
      refine (HBT.out w4 _ _ _ x3 HX3.out).mono ?_
      rintro e w5 ⟨rfl, hw5⟩
      subst hw5
      cases x3 with
      | false =>
        have HX : Hid (E = 13) := Lib.hid (HBAD.out (by rw [HG2.out]; simp))
        go_wp2
        go_ret
        exact ⟨ret_int HX.out.symm, HW2.out⟩
      | true =>
      go_wp2_with fail
      refine HST.out.mono ?_
      rintro e w6 ⟨rfl, hb6⟩
      have HW6 := Lib.hid (HW2.out.trans (hb6.mono HW2.out.size))
      have z0 := (hb6.cell (p := ⟨wr.heap.size, 0, none⟩) (Array.getElem?_eq_some_iff.1 HY.out).1).trans y0
      have HX1' := HX1.out
      clear hb6 y0 y1 y2 y4
      cases sb with
      | false =>
        have HX : Hid (E = 13) := Lib.hid (HBAD.out (by rw [HG2.out]; simp))
        go_wp2
        go_ret
        exact ⟨ret_int HX.out.symm, HW6.out⟩
      | true =>
        have HG3 : Hid (checkL l = checkGo (lastNum l (k + 1)) (l.drop (k + 1))) := Lib.hid (by rw [HG2.out, HLN.out]; rfl)
        have HLN2 : Hid (r1 = lastNum l (k + 1)) := Lib.hid HLN.out.symm
        have hrng : 0 ≤ r1 ∧ r1 ≤ 99 := by
          simp only [Bool.and_eq_true, decide_eq_true_eq] at HX1'
          omega
        have HRG : Hid (0 ≤ lastNum l (k + 1) ∧ lastNum l (k + 1) ≤ 99) := Lib.hid (by rw [HLN.out]; exact hrng)
        clear HG2 HLN HST HX1' HX1 HX2 HX3 hrng
        go_wp2
        go_roundw
        case rel => exact ⟨k + 1, by omega, by go_num, by rw [HLN2.out], HRG, HG3, HW6⟩
        case measure => simp [intOf]; omega
    · have hG2 := hG.out
      rw [List.drop_eq_nil_of_le (by rw [← HL.out]; omega), checkGo] at hG2
      have HX : Hid (E = 0) := Lib.hid (by rw [← HE.out]; unfold errC; rw [hG2]; rfl)
      have hz : ¬ (k : Int) < (n : Int) := by omega
      clear hG2 hG
      go_wp2
      go_ret
      exact ⟨ret_int HX.out.symm, hW.out⟩
end Go.Proofs.YtppjpledjhinbaaDoor
/- Cabins: SplitSeq's value; a row's spots piece by piece. -/
namespace Go.Proofs.YtppjpledjhinbaaDoor
open Go.RowKit Go.Lib
theorem splitSeq_any (w : World) (s : ByteArray) :
    Calls Tryd.prog 79 #[.string s, .string ⟨#[46]⟩] w fun e w' => e = .returned (.func (.func 104) #[] #[.pointer (some ⟨w.heap.size + 1, 0, none⟩), .pointer (some ⟨w.heap.size, 0, none⟩), .pointer (some ⟨w.heap.size + 2, 0, none⟩)]) ∧
      w' = ((w.alloc (.cells #[.string s] 9)).alloc (.cells #[.string ⟨#[46]⟩] 9)).alloc (.cells #[.int .i64 0] 3) := by
  go_enter Tryd.func79, Tryd.ntmps79
  go_wp2
  go_ret
  exact ⟨rfl, rfl⟩
/-- A row's spots, block by block. -/
def spotsP (r : MRow) : List (List UInt8) → Int → List MSpot
  | [], _ => []
  | z :: zs, b => z.map (fun c => spotOf r c b) ++ spotsP r zs (b + 1)
theorem spots_pieces (r : MRow) : ∀ (l : List UInt8) (b : Int), spotsP r (piecesL l) b = spotsB r l b := by
  intro l
  induction l with
  | nil => intro b; simp [piecesL, spotsP, spotsB]
  | cons c t ih =>
    intro b
    by_cases hc : c = 46
    · subst hc
      simp only [piecesL, spotsB, if_true, spotsP, List.map_nil, List.nil_append]
      exact ih (b + 1)
    · obtain ⟨p, ps, hp⟩ : ∃ p ps, piecesL t = p :: ps := by
        cases h : piecesL t with
        | nil => exact absurd h (pieces_ne t)
        | cons p ps => exact ⟨p, ps, rfl⟩
      have h2 := ih b
      rw [hp] at h2
      simp only [piecesL, spotsB, if_neg hc, hp, spotsP, List.map_cons, List.cons_append]
      rw [← h2]; rfl
theorem pieces_count : ∀ l : List UInt8, (piecesL l).length = dotsN l + 1 := by
  intro l
  induction l with
  | nil => rfl
  | cons c t ih =>
    by_cases hc : c = 46
    · subst hc; simp [piecesL, dotsN, ih]
    · obtain ⟨p, ps, hp⟩ : ∃ p ps, piecesL t = p :: ps := by
        cases h : piecesL t with
        | nil => exact absurd h (pieces_ne t)
        | cons p ps => exact ⟨p, ps, rfl⟩
      rw [hp] at ih
      simp only [piecesL, dotsN, if_neg hc, hp, List.length_cons] at ih ⊢
      exact ih
theorem pieces_letters : ∀ (l : List UInt8), ∀ z ∈ piecesL l, ∀ c ∈ z, c ∈ l ∧ c ≠ 46 := by
  intro l
  induction l with
  | nil => intro z hz c hc; simp [piecesL] at hz; subst hz; cases hc
  | cons d t ih =>
    intro z hz c hc
    by_cases hd : d = 46
    · subst hd
      simp only [piecesL, if_true] at hz
      rcases List.mem_cons.1 hz with rfl | hz
      · cases hc
      · obtain ⟨h1, h2⟩ := ih z hz c hc
        exact ⟨List.mem_cons_of_mem _ h1, h2⟩
    · obtain ⟨p, ps, hp⟩ : ∃ p ps, piecesL t = p :: ps := by
        cases h : piecesL t with
        | nil => exact absurd h (pieces_ne t)
        | cons p ps => exact ⟨p, ps, rfl⟩
      rw [hp] at ih
      simp only [piecesL, if_neg hd, hp] at hz
      rcases List.mem_cons.1 hz with rfl | hz
      · rcases List.mem_cons.1 hc with rfl | hc
        · exact ⟨by simp, hd⟩
        · obtain ⟨h1, h2⟩ := ih p (by simp) c hc
          exact ⟨List.mem_cons_of_mem _ h1, h2⟩
      · obtain ⟨h1, h2⟩ := ih z (by simp [hz]) c hc
        exact ⟨List.mem_cons_of_mem _ h1, h2⟩
/-- The pieces as the library makes them. -/
theorem pieces_of (s : ByteArray) : (splitB ⟨#[46]⟩ 0 (countB s ⟨#[46]⟩) s).map (·.data.toList) = piecesL s.data.toList := by
  have hd := splitB_data ⟨#[46]⟩ 0 (countB s ⟨#[46]⟩) s
  exact hd.trans (splitK_pieces _)
theorem great_up {c : UInt8} (h : greatB c ≠ 0) : (97 ≤ c.toNat → greatB c = c - 32 ∧ (c - 32).toNat = c.toNat - 32 ∧ greatB c ≠ c) ∧ (¬ 97 ≤ c.toNat → greatB c = c) := by
  unfold greatB at h ⊢
  have hl := c.toNat_lt
  by_cases h1 : 97 ≤ c.toNat ∧ c.toNat ≤ 122
  · rw [if_pos h1]
    have e : (c - 32).toNat = c.toNat - 32 := by
      rw [UInt8.toNat_sub_of_le]
      · rfl
      · rw [UInt8.le_iff_toNat_le]; show 32 ≤ c.toNat; omega
    refine ⟨fun _ => ⟨rfl, e, fun h2 => ?_⟩, fun h2 => absurd h1.1 h2⟩
    have := congrArg UInt8.toNat h2
    omega
  · rw [if_neg h1] at h ⊢
    by_cases h2 : 65 ≤ c.toNat ∧ c.toNat ≤ 90
    · rw [if_pos h2]
      exact ⟨fun h3 => by omega, fun _ => rfl⟩
    · rw [if_neg h2] at h
      exact absurd rfl h
theorem spotsP_append (r : MRow) : ∀ (a b : List (List UInt8)) (k : Int), spotsP r (a ++ b) k = spotsP r a k ++ spotsP r b (k + a.length) := by
  intro a
  induction a with
  | nil => intro b k; simp [spotsP]
  | cons z a ih =>
    intro b k
    simp only [List.cons_append, spotsP, ih, List.append_assoc, List.length_cons]
    rw [show k + 1 + (a.length : Int) = k + ((a.length + 1 : Nat) : Int) by omega]
theorem spotsAll_len : ∀ (l : List MRow) (b : Int), (∀ r ∈ l, r.seats.data.toList.length ≤ 11) → (spotsAll l b).length ≤ 11 * l.length := by
  intro l
  induction l with
  | nil => intro b _; simp [spotsAll]
  | cons r t ih =>
    intro b h
    have h1 := h r (by simp)
    have h2 := ih (b + dotsN r.seats.data.toList + 1) fun x hx => h x (by simp [hx])
    have h3 := spotsB_len r r.seats.data.toList b
    simp only [spotsAll, List.length_append, List.length_cons]; omega
end Go.Proofs.YtppjpledjhinbaaDoor
/- Seats, and people, compared. -/
namespace Go.Proofs.YtppjpledjhinbaaDoor
open Go.RowKit Go.Lib
theorem fldSeat : Tryd.prog.underlying 26 = some (.struct (Tryd.prog.fieldsOf 26)) := by kernel_rfl
theorem hldSeat : Tryd.prog.stoodInHeld 26 = false := by kernel_rfl
theorem fldWho : Tryd.prog.underlying 28 = some (.struct (Tryd.prog.fieldsOf 28)) := by kernel_rfl
theorem hldWho : Tryd.prog.stoodInHeld 28 = false := by kernel_rfl
theorem seat_eqIn (w : World) (a b : MSeat) : (Op.equalIn 10000 26 (.agg #[.int .i64 a.num, .int .u8 (a.ltr.toNat : Int)]) (.agg #[.int .i64 b.num, .int .u8 (b.ltr.toNat : Int)])).run Tryd.prog w = .ok (decide (a = b)) w := by
  have u3 := Tryd.underlying3
  have u5 := Tryd.underlying5
  rw [show (10000 : Nat) = 9999 + 1 from rfl, run_equalIn_agg w 9999 26 _ _ fldSeat hldSeat]
  simp only [Program.fieldsOf, Tryd.underlying26]
  obtain ⟨an, al⟩ := a
  obtain ⟨bn, bl⟩ := b
  go_simp
  have e : al ≠ bl → ¬ al.toNat = bl.toNat := fun h h' => h (UInt8.toNat_inj.1 h')
  by_cases h1 : an = bn <;> by_cases h2 : al = bl <;> simp [h1, h2]
  exact fun h => e h2 (by omega)
theorem seat_eql (w : World) (a b : MSeat) : (binOp .eql 26 (.agg #[.int .i64 a.num, .int .u8 (a.ltr.toNat : Int)]) (.agg #[.int .i64 b.num, .int .u8 (b.ltr.toNat : Int)])).run Tryd.prog w = .ok (.bool (decide (a = b))) w := by
  rw [run_eql_struct, seat_eqIn]; rfl
theorem seat_neq (w : World) (a b : MSeat) : (binOp .neq 26 (.agg #[.int .i64 a.num, .int .u8 (a.ltr.toNat : Int)]) (.agg #[.int .i64 b.num, .int .u8 (b.ltr.toNat : Int)])).run Tryd.prog w = .ok (.bool (!decide (a = b))) w := by
  rw [run_neq_struct, seat_eqIn]; rfl
theorem who_eqIn (w : World) (a b : MWho) : (Op.equalIn 10000 28 (.agg #[.int .i64 a.cab, .bool a.fit, .bool a.inf]) (.agg #[.int .i64 b.cab, .bool b.fit, .bool b.inf])).run Tryd.prog w = .ok (decide (a = b)) w := by
  have u3 := Tryd.underlying3
  have u4 := Tryd.underlying4
  rw [show (10000 : Nat) = 9999 + 1 from rfl, run_equalIn_agg w 9999 28 _ _ fldWho hldWho]
  simp only [Program.fieldsOf, Tryd.underlying28]
  obtain ⟨ac, af, ai⟩ := a
  obtain ⟨bc, bf, bi⟩ := b
  go_simp
  by_cases h1 : ac = bc <;> by_cases h2 : af = bf <;> by_cases h3 : ai = bi <;> simp [h1, h2, h3]
theorem who_neq (w : World) (a b : MWho) : (binOp .neq 28 (.agg #[.int .i64 a.cab, .bool a.fit, .bool a.inf]) (.agg #[.int .i64 b.cab, .bool b.fit, .bool b.inf])).run Tryd.prog w = .ok (.bool (!decide (a = b))) w := by
  rw [run_neq_struct, who_eqIn]; rfl
end Go.Proofs.YtppjpledjhinbaaDoor
