/- Merging versions: the reference's View, walked. -/
import Derived.Test.YtcfgmkiohmbdlaaMgRMrg
import Derived.Test.YtcfgmkiohmbdlaaMgRVwP
namespace Go.Proofs.Ytcfgmkiohmbdlaa
open Go.RowKit
theorem mg_eq {a b : ByteArray} (h : a = b) : (a.toList == b.toList) = true := by subst h; exact beq_self_eq_true _
set_option maxHeartbeats 4000000 in
set_option maxRecDepth 20000 in
theorem rview_any (w : World) (A : Option Addr) (n c : Nat) (l : List Ent) (a : Int) (hr : Rd w w.heap.size 4 A n (entv l)) (hn : n ≤ 1048576) :
    Calls Try.prog 18 #[.slice A n c, .int .i64 a] w (RInsPost w (viewL (mergeL l) a)) := by
  obtain ⟨i0, hi0, hz0, hz1, hz2⟩ := info_parts ent_info2
  have hln := rd_entlen hr
  have hb0 : Below w.heap.size w (w.alloc (.cells #[.slice A n c] 22)) := (Below.refl _ _).alloc (Nat.le_refl _) _
  have hc := rmerge_any _ _ 1 1 _ _ (ls_one (c := c) hr) (by decide) (by simp; omega)
  rw [show [l].flatten = l by simp] at hc
  have hml := mergeL_len l
  have hri := rise_merge l
  obtain ⟨M, hM⟩ : ∃ M, mergeL l = M := ⟨_, rfl⟩
  rw [hM] at hc hml hri ⊢
  have HRI := Lib.hid hri
  have hmn : M.length ≤ 1048576 := by omega
  have HMN := Lib.hid hmn
  have HB0 := Lib.hid hb0
  have HC := Lib.hid hc
  clear hr hc hb0 hM hri hln hml hmn
  go_enter Try.func18, Try.ntmps18
  go_wp2_with fail
  refine HC.out.mono ?_
  rintro e w1 ⟨A1, m, c1, rfl, hmc, hr1, hb1, -⟩
  have hml := rd_entlen hr1
  have hm : m ≤ 1048576 := by rw [hml]; exact HMN.out
  have HML := Lib.hid hml
  have HR1 := Lib.hid hr1
  have HB1 := Lib.hid (bel_go HB0.out hb1)
  clear hml hr1 hb1 HC HB0
  go_wp2
  go_loopw [5, 6, 7, 14] (fun ov lv av iv wx => ∃ k : Nat, k ≤ m ∧ iv = .int .i64 k ∧ ∃ any last, lv = .string last ∧ av = .bool any ∧ Hid (VInv M a k any last) ∧ Hid (((M.take k).filter (viewP M a)).length ≤ k ∧ wx.ownsRow w1.heap.size 26 4 ov ((M.take k).filter (viewP M a)).length (entv ((M.take k).filter (viewP M a)))) ∧ Hid (Below w1.heap.size w1 wx)) (fun _ _ _ iv _ => m - (intOf iv).toNat)
  case atStart => exact ⟨0, Nat.zero_le _, rfl, false, _, rfl, rfl, Lib.hid (vinv_start _ _ _), Lib.hid ⟨by simp, World.ownsRow_nil _ _ _ _⟩, Lib.hid (Below.refl _ _)⟩
  case round =>
    obtain ⟨k, hk, rfl, any, last, rfl, rfl, HV, HO, HW⟩ := hrel
    by_cases hlt : k < m
    · obtain ⟨b, off, rfl, hbb, hs, e0, e1, e2, e3⟩ := (HR1.out.below HW.out).ent hlt
      have hfs := filter_step (p := viewP M a) hs
      have hvn := vinv_new (a := a) HV.out hs
      have hvx := vinv_next (a := a) hs
      have hvs : any = true → M[k].key = last → viewP M a M[k] = false := fun h1 h2 => view_same HRI.out (h1 ▸ HV.out) hs h2
      have hvf := view_first (a := a) HRI.out HV.out hs
      obtain ⟨x, hx⟩ : ∃ x, M[k] = x := ⟨_, rfl⟩
      rw [hx] at e0 e1 e2 e3 hfs hvn hvx hvs hvf
      obtain ⟨x1, x2, x3, x4⟩ := x
      simp only at e0 e1 e2 e3 hvn hvx hvs hvf
      obtain ⟨O, hO⟩ : ∃ O, (M.take k).filter (viewP M a) = O := ⟨_, rfl⟩
      rw [hO] at HO hfs
      have HFS := Lib.hid hfs
      have HVN := Lib.hid hvn
      have HVX := Lib.hid hvx
      have HVS := Lib.hid hvs
      have HVF := Lib.hid hvf
      have hws := HW.out.size
      have hb2 : Below wr.heap.size wr (wr.alloc (.cells #[.string x1, .int .i64 x2, .bool x3, .string x4] 26)) := (Below.refl _ _).alloc (Nat.le_refl _) _
      have HO2 := Lib.hid (own_below HO.out.2 hb2)
      have HW2 := Lib.hid (bel_go HW.out hb2)
      have HOL := Lib.hid HO.out.1
      clear hx hO hfs hvn hvx hvs hvf hb2 HO HV
      have keep : viewP M a ⟨x1, x2, x3, x4⟩ = false → ∀ (W : World) (ov : Value), W.ownsRow w1.heap.size 26 4 ov O.length (entv O) → Hid (((M.take (k + 1)).filter (viewP M a)).length ≤ k + 1 ∧ W.ownsRow w1.heap.size 26 4 ov ((M.take (k + 1)).filter (viewP M a)).length (entv ((M.take (k + 1)).filter (viewP M a)))) := fun h W ov ho => Lib.hid (by
        rw [HFS.out, h]
        simp only [Bool.false_eq_true, if_false, List.append_nil]
        exact ⟨Nat.le_trans HOL.out (Nat.le_succ _), ho⟩)
      have HK := Lib.hid keep
      clear keep
      by_cases h1 : a < x2
      · have s1 : decide (x2 > a) = true := decide_eq_true h1
        have HO3 := HK.out (view_new h1) _ _ HO2.out
        have HV3 := Lib.hid (HVN.out h1)
        clear h1 HK HO2 HFS HVN HVX HVS HVF
        go_wp2
        go_roundw
        case rel => exact ⟨k + 1, by omega, by go_num, any, last, rfl, rfl, HV3, HO3, HW2⟩
        case measure => simp [intOf]; omega
      · have s1 : decide (x2 > a) = false := decide_eq_false h1
        have hle : x2 ≤ a := by omega
        by_cases h2 : any = true ∧ x1 = last
        · obtain ⟨rfl, rfl⟩ := h2
          have HO3 := HK.out (HVS.out rfl rfl) _ _ HO2.out
          have HV3 := Lib.hid (HVX.out hle)
          clear h1 hle HK HO2 HFS HVN HVX HVS HVF
          go_wp2
          go_roundw
          case rel => exact ⟨k + 1, by omega, by go_num, true, _, rfl, rfl, HV3, HO3, HW2⟩
          case measure => simp [intOf]; omega
        · have hvp : viewP M a ⟨x1, x2, x3, x4⟩ = !x3 := HVF.out hle (fun g1 g2 => h2 ⟨g1, g2⟩)
          have HVP := Lib.hid hvp
          have HV3 := Lib.hid (HVX.out hle)
          have key : ∀ P : Prop, (any = false → P) → (any = true → (x1.toList == last.toList) = false → P) → P := fun P g1 g2 => by
            cases any with
            | false => exact g1 rfl
            | true => exact g2 rfl (mg_ne fun g => h2 ⟨rfl, g⟩)
          clear h1 hle h2 hvp HVN HVX HVS HVF
          refine key _ (fun q1 => ?_) (fun q1 q2 => ?_)
          all_goals
            subst q1
            clear key
            cases x3 with
            | true =>
              have HO3 := HK.out HVP.out _ _ HO2.out
              clear HK HO2 HFS HVP
              go_wp2
              go_roundw
              case rel => exact ⟨k + 1, by omega, by go_num, true, _, rfl, rfl, HV3, HO3, HW2⟩
              case measure => simp [intOf]; omega
            | false =>
              have HFS2 : Hid ((M.take (k + 1)).filter (viewP M a) = O ++ [⟨x1, x2, false, x4⟩]) := Lib.hid (by rw [HFS.out, HVP.out]; rfl)
              have hol := HOL.out
              clear HK HFS HVP
              go_upto_region 9 with (fail)
              obtain ⟨w3, hw3⟩ : ∃ w3, w3 = wr.alloc (.cells #[.string x1, .int .i64 x2, .bool false, .string x4] 26) := ⟨_, rfl⟩
              have y0 : w3.cell? ⟨wr.heap.size, 0, none⟩ = some (.string x1) := by rw [hw3, cell_of_row _ _ 0 _ _ _ (heap_alloc_new wr _)]; rfl
              have y1 : w3.cell? ⟨wr.heap.size, 1, none⟩ = some (.int .i64 x2) := by rw [hw3, cell_of_row _ _ 1 _ _ _ (heap_alloc_new wr _)]; rfl
              have y2 : w3.cell? ⟨wr.heap.size, 2, none⟩ = some (.bool false) := by rw [hw3, cell_of_row _ _ 2 _ _ _ (heap_alloc_new wr _)]; rfl
              have y3 : w3.cell? ⟨wr.heap.size, 3, none⟩ = some (.string x4) := by rw [hw3, cell_of_row _ _ 3 _ _ _ (heap_alloc_new wr _)]; rfl
              rw [← hw3] at HO2 HW2 ⊢
              have hbs3 := HW2.out.size
              clear hw3
              go_wp2_with (at_builtin; refine wpList_push (w := w3) rfl (.tmp 36) (.tmp 38) 22 rfl w1.heap.size 26 i0 _ 4 48 Try.underlying22 hi0 hz0 hz1 hz2 rfl (by decide) _ O.length (entv O) #[.string x1, .int .i64 x2, .bool false, .string x4] rfl (by exact HO2.out) rfl rfl (by simp [Value.oneCell']) ?a2 ?a3 ?a4 ?_)
              case a2 => omega
              case a3 => unfold maxLen; omega
              case a4 => exact hbs3
              intro v4 w4 hown4 hu4 _
              have HO4 : Hid (((M.take (k + 1)).filter (viewP M a)).length ≤ k + 1 ∧ w4.ownsRow w1.heap.size 26 4 v4 ((M.take (k + 1)).filter (viewP M a)).length (entv ((M.take (k + 1)).filter (viewP M a)))) := Lib.hid (by
                rw [HFS2.out, List.length_append, entv_append, entv_one]
                exact ⟨by simp; omega, hown4⟩)
              have HW4 := Lib.hid (below_row HW2.out hbs3 HO2.out (Nat.le_refl _) hu4)
              clear hown4 hu4 HO2 HW2
              go_wp2
              go_roundw
              case rel => exact ⟨k + 1, by omega, by go_num, true, _, rfl, rfl, HV3, HO4, HW4⟩
              case measure => simp [intOf]; omega
    · have HF : Hid (RInsPost w (viewL M a) (.returned u5) wr) := Lib.hid (by
        have h := HO.out.2
        rw [List.take_of_length_le (by rw [← HML.out]; omega)] at h
        obtain ⟨A9, c9, h9⟩ := own_shape h
        subst h9
        exact ⟨A9, _, c9, rfl, own_cap h, Rd.own h, bel_go HB1.out HW.out⟩)
      have hz : ¬ (k : Int) < (m : Int) := by omega
      clear HO
      go_wp2
      go_ret
      exact HF.out
end Go.Proofs.Ytcfgmkiohmbdlaa
