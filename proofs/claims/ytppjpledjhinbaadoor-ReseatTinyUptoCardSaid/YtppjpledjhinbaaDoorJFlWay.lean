/- Flows: way, walked. -/
import Derived.Test.YtppjpledjhinbaaDoorJFlWayP
import Derived.Deep.RegionHeld3
import Derived.Deep.CutBlock
import Derived.Deep.DeepCutAuto
namespace Go.Proofs.YtppjpledjhinbaaDoor
open Go.RowKit
/-- Three new rows of noughts. -/
structure W3 (w wc : World) (n B1 B2 B3 : Nat) : Prop where
  i1 : Ints wc B1 (List.replicate n 0)
  i2 : Ints wc B2 (List.replicate n 0)
  i3 : Ints wc B3 (List.replicate n 0)
  lo : w.heap.size ≤ B1 ∧ w.heap.size ≤ B2 ∧ w.heap.size ≤ B3
  ne : B1 ≠ B2 ∧ B1 ≠ B3 ∧ B2 ≠ B3
  upd : Upd (fun _ => False) w wc
theorem Ints.zeros {w : World} {g n : Nat} (h : w.heap[g]? = some (.cells (Array.replicate n (Value.int .i64 0)) 3 (0, 0))) : Ints w g (List.replicate n 0) := by
  unfold Ints
  rw [h]
  congr 2
  apply Array.ext'
  simp
theorem at3 (w : World) (o : Obj) : (((w.alloc o).alloc o).alloc o).drew.heap[w.heap.size]? = some o ∧ (((w.alloc o).alloc o).alloc o).drew.heap[w.heap.size + 1]? = some o ∧ (((w.alloc o).alloc o).alloc o).drew.heap[w.heap.size + 1 + 1]? = some o ∧ Upd (fun _ => False) w (((w.alloc o).alloc o).alloc o).drew := by
  have z1 : (w.alloc o).heap.size = w.heap.size + 1 := by simp
  have z2 : ((w.alloc o).alloc o).heap.size = w.heap.size + 1 + 1 := by simp
  have a1 := heap_alloc_new w o
  have a2 := heap_alloc_new (w.alloc o) o
  have a3 := heap_alloc_new ((w.alloc o).alloc o) o
  rw [z1] at a2
  rw [z2] at a3
  refine ⟨?_, ?_, a3, (((Upd.refl _ w).alloc o).alloc o |>.alloc o).drewN 1⟩
  · show (((w.alloc o).alloc o).alloc o).heap[w.heap.size]? = _
    rw [Below.heap_alloc _ _ _ (by omega), Below.heap_alloc _ _ _ (by omega)]
    exact a1
  · show (((w.alloc o).alloc o).alloc o).heap[w.heap.size + 1]? = _
    rw [Below.heap_alloc _ _ _ (by omega)]
    exact a2
/-- The search's rows in memory. -/
structure WMem (wx : World) (BY DI WA base : Nat) (qv : Value) (st : WSt) : Prop where
  by_ : Ints wx BY st.by_
  di : Ints wx DI st.di
  wa : Ints wx WA st.wa
  q : OwnQ wx base qv st.todo
theorem WMem.upd {wx wy : World} {BY DI WA base : Nat} {qv : Value} {st : WSt} (h : WMem wx BY DI WA base qv st) (hu : Upd (fun _ => False) wx wy) : WMem wy BY DI WA base qv st :=
  ⟨h.by_.upd hu (fun h => h), h.di.upd hu (fun h => h), h.wa.upd hu (fun h => h), h.q.upd hu (fun _ _ h => h)⟩
set_option maxHeartbeats 16000000 in
set_option maxRecDepth 20000 in
theorem way_any (w : World) (F : Nat → Prop) (P N R : Nat) (av : Value) (nodes s t : Nat) (value paid : Int) (nw : Nw) (rows : List (List Nat)) (room : List Int) (costs : Bool) (π : Nat → Int) (hA : NetA w F P N R av nodes s t value paid nw rows room) (hf : WFix nw costs room s nodes π)
    (hout : ∀ v j, j ∈ nearOf rows v ↔ j < 2 * nw.m ∧ rfr nw j = v) (hself : ∀ j, j < 2 * nw.m → rto nw j ≠ rfr nw j) (hlens : ∀ v, (nearOf rows v).length ≤ 1048576) (hm : nw.m ≤ 4000) :
    Calls Tryd.prog 82 #[.pointer (some ⟨P, 0, none⟩), .bool costs] w fun e w' => ∃ BY st, e = .returned (.slice (some ⟨BY, 0, none⟩) nodes nodes) ∧ w.heap.size ≤ BY ∧ Ints w' BY st.by_ ∧ WEnd nw costs room s nodes st ∧ Below w.heap.size w w' := by
  have hnn := hf.nn
  have hsn := hf.sn
  have HF := Lib.hid hf
  have HOUT := Lib.hid hout
  have HSELF := Lib.hid hself
  have HLENS := Lib.hid hlens
  have hmk := fun w => mkints w nodes (by omega)
  have hplt := hA.plt
  have MK : Hid (∀ V, Upd (fun _ => False) w V → V.cell? ⟨P, 1, none⟩ = some (.slice (some ⟨N, 0, none⟩) nodes nodes)) := Lib.hid fun V hV => (hA.upd hV (fun _ _ h => h) (fun h => h) (fun _ h => h)).c1
  have HA := Lib.hid hA
  have u0 : Upd (fun _ => False) w w := Upd.refl _ _
  clear hf hout hself hlens hA
  go_enter Tryd.func82, Tryd.ntmps82
  go_upto_region 1 with (fail)
  go_cut [5, 6, 7] (fun v5 v6 v7 wc => ∃ B1 B2 B3, v5 = .slice (some ⟨B1, 0, none⟩) nodes nodes ∧ v6 = .slice (some ⟨B2, 0, none⟩) nodes nodes ∧ v7 = .slice (some ⟨B3, 0, none⟩) nodes nodes ∧ Hid (W3 w wc nodes B1 B2 B3))
  case first =>
    go_region_held3 (fun V => V.cell? ⟨P, 1, none⟩ = some (.slice (some ⟨N, 0, none⟩) nodes nodes))
      (exact MK.out _ (by repeat first | exact Upd.refl _ _ | refine Upd.drewN ?_ 1 | refine Upd.alloc ?_ _))
      (fail)
    all_goals clear hmk
    all_goals go_wp2
    all_goals go_meet
    all_goals (case rel =>
      obtain ⟨k1, k2, k3, k4⟩ := at3 w (.cells (Array.replicate nodes (Value.int .i64 0)) 3)
      exact ⟨_, _, _, rfl, rfl, rfl, Lib.hid ⟨Ints.zeros (by first | exact k1 | exact k2 | exact k3), Ints.zeros (by first | exact k1 | exact k2 | exact k3), Ints.zeros (by first | exact k1 | exact k2 | exact k3), by omega, by omega, k4⟩⟩)
  case rest =>
    obtain ⟨BY, DI, WA, rfl, rfl, rfl, hW⟩ := hcut
    have h1 := hW.out.i1
    have h2 := hW.out.i2
    obtain ⟨l1, l2, l3⟩ := hW.out.lo
    obtain ⟨n1, n2, n3⟩ := hW.out.ne
    have HI1 := Lib.hid h1
    have HI2 := Lib.hid h2
    have HI3 := Lib.hid hW.out.i3
    have HU := Lib.hid hW.out.upd
    clear h1 h2
    have HNA : Hid (∀ V, Upd (fun k => w.heap.size ≤ k) w V → NetA V F P N R av nodes s t value paid nw rows room) := Lib.hid fun V hV =>
      HA.out.upd hV (fun k hk e => by have := HA.out.flt k hk; omega) (by omega) (fun hm' => by have := (HA.out.arcs hm').lt; omega)
    have hu0 : Upd (fun k => w.heap.size ≤ k) w wc := HU.out.mono (fun _ _ h => h.elim)
    go_wp2
    go_loopw [35] (fun i wx => ∃ k : Nat, k ≤ nodes ∧ i = .int .i64 k ∧ Ints wx BY (repC (-1) k nodes) ∧ Ints wx DI (repC FAR k nodes) ∧ Ints wx WA (List.replicate nodes 0) ∧ Upd (fun k => w.heap.size ≤ k) w wx) (fun i _ => nodes - (intOf i).toNat)
    case atStart => exact ⟨0, Nat.zero_le _, rfl, by rw [repC_zero]; exact HI1.out, by rw [repC_zero]; exact HI2.out, HI3.out, hu0⟩
    case round =>
      clear HI1 HI2 HI3 HU hu0 hmk u0 MK
      obtain ⟨k, hk, rfl, h1, h2, h3, hu⟩ := hrel
      by_cases hlt : k < nodes
      · have b0 := h1.cell (k := k) (by rw [repC_len hk]; exact hlt)
        have b1 := h1.free k
        have huB : Upd (fun j => j = BY) wr (wr.setCell ⟨BY, k, none⟩ (.int .i64 (-1))) := (Upd.refl (fun j => j = BY) wr).setCell ⟨BY, k, none⟩ rfl _
        have h1' := h1.set k (-1)
        rw [repC_set hlt] at h1'
        have h2' := h2.upd huB (fun e => n1 e.symm)
        have h3' := h3.upd huB (fun e => n2 e.symm)
        have d0 := h2'.cell (k := k) (by rw [repC_len hk]; exact hlt)
        have d1 := h2'.free k
        have huD : Upd (fun j => j = DI) (wr.setCell ⟨BY, k, none⟩ (.int .i64 (-1))) ((wr.setCell ⟨BY, k, none⟩ (.int .i64 (-1))).setCell ⟨DI, k, none⟩ (.int .i64 FAR)) := (Upd.refl (fun j => j = DI) _).setCell ⟨DI, k, none⟩ rfl _
        have h2'' := h2'.set k FAR
        rw [repC_set hlt] at h2''
        have G1 := Lib.hid (h1'.upd huD n1)
        have G2 := Lib.hid h2''
        have G3 := Lib.hid (h3'.upd huD (fun e => n3 e.symm))
        have GU : Hid (Upd (fun k => w.heap.size ≤ k) w ((wr.setCell ⟨BY, k, none⟩ (.int .i64 (-1))).setCell ⟨DI, k, none⟩ (.int .i64 FAR))) := Lib.hid ((hu.setCell ⟨BY, k, none⟩ l1 _).setCell ⟨DI, k, none⟩ l2 _)
        unfold FAR at G1 G2 G3 GU
        clear h1 h2 h3 hu huB h1' h2' h3' huD h2''
        go_wp2
        go_roundw
        case rel => exact ⟨k + 1, by omega, by go_num, G1.out, G2.out, G3.out, GU.out⟩
        case measure => simp [intOf]; omega
      · obtain rfl : k = nodes := by omega
        rw [repC_full] at h1 h2
        have hA7 := HNA.out wr hu
        have c2 := hA7.c2
        have d0 := h2.cell (k := s) (by simpa using hsn)
        have d1 := h2.free s
        have huD : Upd (fun j => j = DI) wr (wr.setCell ⟨DI, s, none⟩ (.int .i64 0)) := (Upd.refl (fun j => j = DI) wr).setCell ⟨DI, s, none⟩ rfl _
        have g1 := h1.upd huD n1
        have g2 := h2.set s 0
        have g3 := h3.upd huD (fun e => n3 e.symm)
        have gu : Upd (fun k => w.heap.size ≤ k) w (wr.setCell ⟨DI, s, none⟩ (.int .i64 0)) := hu.setCell ⟨DI, s, none⟩ l2 _
        have e2 := (HNA.out _ gu).c2
        have G1 := Lib.hid g1
        have G2 := Lib.hid g2
        have G3 := Lib.hid g3
        have GU := Lib.hid gu
        clear h1 h2 h3 hu huD g1 g2 g3 gu hA7
        go_upto_region 8 with (fail)
        generalize wr.setCell ⟨DI, s, none⟩ (.int .i64 0) = w8 at G1 G2 G3 GU e2 ⊢
        have lt1 := G1.out.lt
        have lt2 := G2.out.lt
        have lt3 := G3.out.lt
        have ua : Upd (fun _ => False) w8 (w8.alloc (.cells #[.int .i64 (s : Int)] 3)) := (Upd.refl _ _).alloc _
        have hq : OwnQ (w8.alloc (.cells #[.int .i64 (s : Int)] 3)) w8.heap.size (.slice (some ⟨w8.heap.size, 0, none⟩) 1 1) [s] :=
          .inr ⟨w8.heap.size, 0, 1, _, rfl, Nat.le_refl _, heap_alloc_new w8 _, Nat.le_refl _, by unfold maxLen; omega, by simp, by simp [natv]⟩
        have hwm : WMem (w8.alloc (.cells #[.int .i64 (s : Int)] 3)) BY DI WA w8.heap.size (.slice (some ⟨w8.heap.size, 0, none⟩) 1 1) ⟨List.replicate k (-1), (List.replicate k FAR).set s 0, List.replicate k 0, [s]⟩ :=
          ⟨G1.out.upd ua (fun h => h), G2.out.upd ua (fun h => h), G3.out.upd ua (fun h => h), hq⟩
        have hz : w8.heap.size ≤ (w8.alloc (.cells #[.int .i64 (s : Int)] 3)).heap.size := ua.size
        have hu8 := GU.out.alloc (.cells #[.int .i64 (s : Int)] 3)
        have HWM := Lib.hid hwm
        have HU8 := Lib.hid hu8
        have HST := Lib.hid (way_start HF.out)
        have hbase : w.heap.size ≤ w8.heap.size := GU.out.size
        obtain ⟨base, hb⟩ : ∃ base, w8.heap.size = base := ⟨_, rfl⟩
        rw [hb] at HWM hz lt1 lt2 lt3 hbase
        have HB := Lib.hid hb
        obtain ⟨fuel, hfuel⟩ : ∃ fuel : Nat, 2 * sm k (gi ((List.replicate k FAR).set s 0)) + 1 ≤ (fuel : Int) := ⟨(2 * sm k (gi ((List.replicate k FAR).set s 0)) + 1).toNat, Int.self_le_toNat _⟩
        have HFU := Lib.hid hfuel
        clear hq hwm hu8 hfuel hb G1 G2 G3 GU ua c2 d0 d1
        go_wp2
        rw [HB.out]
        go_loopg [9] fuel (fun gk qv wx => ∃ st : WSt, Hid (WInv nw costs room s k π (fun _ _ => True) st) ∧ Hid (2 * sm k (gi st.di) + (st.todo.length : Nat) ≤ (gk : Int)) ∧ Hid (WMem wx BY DI WA base qv st) ∧ base ≤ wx.heap.size ∧ Hid (Upd (fun k => w.heap.size ≤ k) w wx))
        case atStart => exact ⟨_, HST, HFU, HWM, hz, HU8⟩
        case round =>
          clear HWM HU8 HST hz e2 HFU
          obtain ⟨⟨by_, di, wa, todo⟩, hI, hme, hM, hz, hu⟩ := hrel
          cases todo with
          | nil =>
            have hq := hM.out.q
            obtain ⟨A', c', rfl⟩ := hq.shape
            have HE := Lib.hid (way_end HF.out hI.out rfl)
            have HIB := Lib.hid hM.out.by_
            have HBB := Lib.hid (hu.out.below (B := w.heap.size) (fun k hk e => by omega) (Nat.le_refl _))
            clear hI hme hM hu hq
            go_wp2
            go_ret
            exact ⟨BY, rfl, l1, _, HIB.out, HE.out, HBB.out⟩
          | cons v T =>
            obtain ⟨hv, hmv, hvT, hpop⟩ := way_pop hI.out rfl
            have hcnt := hI.out.count
            simp only [List.length_cons] at hcnt
            have hq := hM.out.q
            have hby := hM.out.by_
            have hdi := hM.out.di
            have hwa := hM.out.wa
            obtain ⟨A', c', rfl⟩ := hq.shape
            obtain ⟨g, off, rfl, hnl, hc1, hcell, hgb, hgl, hq1, hq2⟩ := hq.head
            have hlw : wa.length = k := hI.out.lw
            have w0 := hwa.cell (k := v) (by show v < wa.length; omega)
            have w1 := hwa.free v
            have huW : Upd (fun j => j = WA) wr (wr.setCell ⟨WA, v, none⟩ (.int .i64 0)) := (Upd.refl (fun j => j = WA) wr).setCell ⟨WA, v, none⟩ rfl _
            have G1 := Lib.hid (hby.upd huW n2)
            have G2 := Lib.hid (hdi.upd huW n3)
            have G3 := Lib.hid (hwa.set v 0)
            have GU := Lib.hid (hu.out.setCell (p := ⟨WA, v, none⟩) l3 (.int .i64 0))
            have HQ1 := Lib.hid hq1
            have HQ2 := Lib.hid hq2
            have HPOP := Lib.hid hpop
            have HME : Hid (2 * sm k (gi di) + (T.length : Nat) ≤ ((gk - 1 : Nat) : Int) ∧ gk - 1 < gk) := Lib.hid (by
              have h1 : 2 * sm k (gi di) + ((T.length + 1 : Nat) : Int) ≤ (gk : Int) := hme.out
              have h0 : 0 ≤ sm k (gi di) := sm_nonneg fun x hx => (hI.out.lo HF.out hx).1
              generalize sm k (gi di) = z at h0 h1 ⊢
              generalize T.length = tl at h1 ⊢
              have h2 : 1 ≤ gk := by omega
              exact ⟨by omega, by omega⟩)
            have hzS : base ≤ (wr.setCell ⟨WA, v, none⟩ (.int .i64 0)).heap.size := Nat.le_trans hz huW.size
            have huWq : Hid (∀ q, OwnQ wr base q T → OwnQ (wr.setCell ⟨WA, v, none⟩ (.int .i64 0)) base q T) := Lib.hid fun q hq => hq.upd huW (fun j hj e => by have := (hq.lt j hj).1; omega)
            clear hq hq1 hq2 hpop hme hby hdi hwa hM hI huW
            rw [List.length_cons]
            go_upto_region 11 with (fail)
            go_cut [9] (fun v9 wc => wc = wr ∧ Hid (OwnQ wr base v9 T))
            case first =>
              by_cases hc : c' = 1
              · have hq := Lib.hid (HQ1.out hc)
                clear HQ1 HQ2
                go_wp2
                all_goals go_meet
                all_goals (case rel => exact ⟨rfl, hq⟩)
              · have hq := HQ2
                clear HQ1 HQ2
                go_wp2
                all_goals go_meet
                all_goals (case rel => exact ⟨rfl, hq⟩)
            case rest =>
              obtain ⟨rfl, hq⟩ := hcut
              have hqS := Lib.hid (huWq.out _ hq.out)
              clear HQ1 HQ2 hq huWq
              obtain ⟨A, c, hcN, hrow⟩ := HA.out.row (a := v) hv
              have HROW := Lib.hid hrow
              obtain ⟨L, hL⟩ : ∃ L, L = (nearOf rows v).length := ⟨_, rfl⟩
              have hlen := HLENS.out v
              rw [← hL] at hcN hlen
              have HL := Lib.hid hL
              clear hrow hL
              have hAS := HNA.out _ GU.out
              have e1 := hAS.c1
              have e3 : (wc.setCell ⟨WA, v, none⟩ (.int .i64 0)).cell? ⟨N, v, none⟩ = some (.slice A L c) := (GU.out.cell (p := ⟨N, v, none⟩) (HA.out.flt _ HA.out.nr.at_) (by have := HA.out.flt _ HA.out.nr.at_; show ¬ w.heap.size ≤ N; omega)).trans hcN
              clear hAS hcN
              go_upto_region 13 with (fail)
              generalize wc.setCell ⟨WA, v, none⟩ (.int .i64 0) = wS at G1 G2 G3 GU hqS hzS e1 e3 ⊢
              go_wp2
              go_loopw [75, 9] (fun iv qv wx => ∃ (j : Nat) (st : WSt), j ≤ L ∧ iv = .int .i64 j ∧ Hid (WInv nw costs room s k π (fun u x => u ≠ v ∨ (u = v ∧ x ∈ (nearOf rows v).take j)) st) ∧ (gi st.di v < FAR ∧ v ∉ st.todo) ∧ Hid (2 * sm k (gi st.di) + (st.todo.length : Nat) ≤ ((gk - 1 : Nat) : Int)) ∧ Hid (WMem wx BY DI WA base qv st) ∧ base ≤ wx.heap.size ∧ Hid (Upd (fun k => w.heap.size ≤ k) w wx)) (fun iv _ _ => L - (intOf iv).toNat)
              case atStart => exact ⟨0, ⟨by_, di, wa.set v 0, T⟩, Nat.zero_le _, rfl, Lib.hid (HPOP.out.weak fun u x h => by
                rcases h with h | ⟨_, h⟩
                · exact h
                · simp at h), ⟨hmv, hvT⟩, Lib.hid HME.out.1, Lib.hid ⟨G1.out, G2.out, G3.out, hqS.out⟩, hzS, GU⟩
              case round =>
                clear G1 G2 G3 GU hqS hzS e1 e3 HPOP hcell w0 w1 hu hz
                obtain ⟨j, ⟨by2, di2, wa2, T2⟩, hj, rfl, hI, ⟨hmv2, hvT2⟩, hme, hM, hz, hu⟩ := hrel
                by_cases hlt : j < L
                · have hjl : j < (nearOf rows v).length := by rw [← HL.out]; exact hlt
                  obtain ⟨g2, hAg, hgF, hcell2⟩ := HROW.out j hjl
                  subst hAg
                  obtain ⟨x, hx⟩ : ∃ x, (nearOf rows v)[j] = x := ⟨_, rfl⟩
                  have hxm := (HOUT.out v x).1 (by rw [← hx]; exact List.getElem_mem hjl)
                  obtain ⟨hx2, hxv⟩ := hxm
                  have htk : (nearOf rows v).take (j + 1) = (nearOf rows v).take j ++ [x] := by rw [List.take_succ_eq_append_getElem hjl, hx]
                  rw [hx] at hcell2
                  have r0 : wr.cell? ⟨g2, j, none⟩ = some (.int .i64 (x : Int)) := (hu.out.cell (p := ⟨g2, j, none⟩) (HA.out.flt _ hgF) (by have := HA.out.flt _ hgF; show ¬ w.heap.size ≤ g2; omega)).trans hcell2
                  have hAr := HNA.out _ hu.out
                  obtain ⟨ca, rfl⟩ := hAr.some (by omega)
                  have hat := hAr.arcs (by omega)
                  have p0 := hAr.c0
                  have a0 := hat.c0 hx2
                  have a1 := hat.c1 hx2
                  have a2 := hat.c2 hx2
                  have hstep := way_step HF.out hI.out hv hmv2 hvT2 hx2 hxv (by have := HSELF.out x hx2; rwa [hxv] at this)
                  have hbn := (HF.out.rto hx2).1
                  have hcle := HF.out.cle hx2
                  obtain ⟨b, hb⟩ : ∃ b, rto nw x = b := ⟨_, rfl⟩
                  obtain ⟨rm, hrm⟩ : ∃ rm, gi room x = rm := ⟨_, rfl⟩
                  obtain ⟨cs, hcs⟩ : ∃ cs, rc nw x = cs := ⟨_, rfl⟩
                  have hlod := hI.out.lo HF.out hv
                  have hlob := hI.out.lo HF.out (v := b) (by rw [← hb]; exact hbn)
                  have hld : di2.length = k := hI.out.ld
                  have hlb2 : by2.length = k := hI.out.lb
                  have hlw2 : wa2.length = k := hI.out.lw
                  have hc2 := hI.out.count
                  have hcb : -1000 ≤ cs ∧ cs ≤ 1000 := by
                    have := HF.out.c1 (x / 2) (by omega)
                    rw [← hcs]
                    unfold rc
                    split <;> omega
                  obtain ⟨st', hst⟩ : ∃ st', wayStep nw costs room s v x ⟨by2, di2, wa2, T2⟩ = st' := ⟨_, rfl⟩
                  rw [hst] at hstep
                  have HJ : Hid (Hid (WInv nw costs room s k π (fun u x => u ≠ v ∨ (u = v ∧ x ∈ (nearOf rows v).take (j + 1))) st') ∧ (gi st'.di v < FAR ∧ v ∉ st'.todo) ∧ Hid (2 * sm k (gi st'.di) + (st'.todo.length : Nat) ≤ ((gk - 1 : Nat) : Int))) := Lib.hid (by
                    obtain ⟨s1, s2, s3, s4⟩ := hstep
                    refine ⟨Lib.hid (s1.weak fun u y hy => ?_), ⟨?_, s3⟩, Lib.hid ?_⟩
                    · rcases hy with hy | ⟨hy, hm'⟩
                      · exact .inl (.inl hy)
                      · rw [htk] at hm'
                        rcases List.mem_append.1 hm' with hm' | hm'
                        · exact .inl (.inr ⟨hy, hm'⟩)
                        · simp only [List.mem_singleton] at hm'
                          exact .inr ⟨hy, hm'⟩
                    · rw [s2]; exact hmv2
                    · exact Int.le_trans s4 hme.out)
                  unfold wayStep at hst
                  rw [hb] at a0 hbn hst
                  rw [hrm] at a1 hst
                  rw [hcs] at a2
                  obtain ⟨dd, hdd⟩ : ∃ dd, gi di2 v + cst nw costs x = dd := ⟨_, rfl⟩
                  have hdc : dd = gi di2 v + (if costs = true then cs else 0) := by rw [← hdd, ← hcs]; rfl
                  have dv := hM.out.di.cell (k := v) (by show v < di2.length; omega)
                  have db := hM.out.di.cell (k := b) (by show b < di2.length; omega)
                  obtain ⟨d0, hd0⟩ : ∃ d0, gi di2 v = d0 := ⟨_, rfl⟩
                  obtain ⟨d1, hd1⟩ : ∃ d1, gi di2 b = d1 := ⟨_, rfl⟩
                  simp only at hst hlod hlob hc2
                  rw [hdd, hd1] at hst
                  rw [hd0] at hdc dv hlod
                  rw [hd1] at db hlob
                  have HST := Lib.hid hst
                  have HD0 := Lib.hid hd0
                  have HD1 := Lib.hid hd1
                  have hu6 := hu.out.alloc (.cells #[.int .i64 (b : Int), .int .i64 rm, .int .i64 cs] 171)
                  have uE : Upd (fun _ => False) wr (wr.alloc (.cells #[.int .i64 (b : Int), .int .i64 rm, .int .i64 cs] 171)) := (Upd.refl _ _).alloc _
                  have hE := heap_alloc_new wr (.cells #[.int .i64 (b : Int), .int .i64 rm, .int .i64 cs] 171)
                  have hzE : wr.heap.size < (wr.alloc (.cells #[.int .i64 (b : Int), .int .i64 rm, .int .i64 cs] 171)).heap.size := by simp
                  have HM6 : Hid (WMem (wr.alloc (.cells #[.int .i64 (b : Int), .int .i64 rm, .int .i64 cs] 171)) BY DI WA base u9 ⟨by2, di2, wa2, T2⟩) := Lib.hid ⟨hM.out.by_.upd uE (fun h => h), hM.out.di.upd uE (fun h => h), hM.out.wa.upd uE (fun h => h), hM.out.q.upd uE (fun _ _ h => h)⟩
                  have HU6 := Lib.hid hu6
                  have hz6 : base ≤ (wr.alloc (.cells #[.int .i64 (b : Int), .int .i64 rm, .int .i64 cs] 171)).heap.size := by omega
                  clear hx hcell2 htk hAr hat hst hstep hme hb hrm hcs hdd hd0 hd1 hI hM hu hu6 uE hcle
                  have hwz : IntKind.i64.wrap (d0 + cs) = d0 + cs := IntWalk.i64_in _ (by unfold FAR at hlod; omega)
                  go_upto_region 17 with (fail)
                  obtain ⟨E, hEe⟩ : ∃ E, wr.heap.size = E := ⟨_, rfl⟩
                  rw [hEe] at hE hzE
                  rw [hEe]
                  generalize wr.alloc (.cells #[.int .i64 (b : Int), .int .i64 rm, .int .i64 cs] 171) = wE at hE hzE HM6 HU6 hz6 ⊢
                  have e0 : wE.cell? ⟨E, 0, none⟩ = some (.int .i64 (b : Int)) := by rw [cell_of_row wE E 0 _ _ _ hE]; rfl
                  have e1 : wE.cell? ⟨E, 1, none⟩ = some (.int .i64 rm) := by rw [cell_of_row wE E 1 _ _ _ hE]; rfl
                  have e2 : wE.cell? ⟨E, 2, none⟩ = some (.int .i64 cs) := by rw [cell_of_row wE E 2 _ _ _ hE]; rfl
                  have f0 := HM6.out.di.cell (k := b) (by show b < di2.length; omega)
                  simp only at f0
                  rw [HD1.out] at f0
                  have f1 := HM6.out.di.cell (k := v) (by show v < di2.length; omega)
                  simp only at f1
                  rw [HD0.out] at f1
                  have g0 : wE.cell? ⟨P, 2, none⟩ = some (.int .i64 (s : Int)) := (HNA.out _ HU6.out).c2
                  have hEb : base ≤ E := by omega
                  clear hE dv db a0 a1 a2 r0 p0 HD0 HD1
                  go_upto_region 18 with (fail)
                  clear f1
                  go_cut [90] (fun v wc => v = .bool costs ∧ Hid (wE = wc))
                  case first =>
                    go_wp2
                    go_meet
                    case rel => exact ⟨rfl, Lib.hid rfl⟩
                  case rest =>
                  obtain ⟨rfl, hwc⟩ := hcut
                  have hwc2 := hwc.out
                  subst hwc2
                  clear hwc
                  go_step
                  go_cut [14] (fun v14 wc => v14 = .int .i64 dd ∧ Hid (wE = wc))
                  case first =>
                    cases costs
                    · have hdd : dd = d0 := by simpa using hdc
                      clear hdc hwz HST HJ
                      subst hdd
                      go_wp2
                      go_meet
                      case rel => exact ⟨rfl, Lib.hid rfl⟩
                    · have hdd : dd = d0 + cs := by simpa using hdc
                      clear hdc HST HJ
                      subst hdd
                      go_wp2
                      go_meet
                      case rel => exact ⟨rfl, Lib.hid rfl⟩
                  case rest =>
                    obtain ⟨rfl, hwc⟩ := hcut
                    have hwc2 := hwc.out
                    subst hwc2
                    clear hwc
                    have hsh : ∃ A' c', u9 = Value.slice A' T2.length c' := HM6.out.q.shape
                    obtain ⟨A', c', hu9⟩ := hsh
                    subst hu9
                    clear hdc hwz e2 hlod hcb hmv2 hvT2
                    go_upto_region 20 with (fail)
                    by_cases h1 : rm = 0
                    · subst h1
                      have hr := HST.out
                      rw [if_pos (.inl rfl)] at hr
                      subst hr
                      clear HST
                      go_quiet (fail)
                      go_wp2
                      go_roundw
                      case rel => exact ⟨j + 1, _, by omega, by go_num, HJ.out.1, HJ.out.2.1, HJ.out.2.2, Lib.hid (HM6.out.upd ((Upd.refl _ wE).drewN _)), hz6, Lib.hid (HU6.out.drewN _)⟩
                      case measure => simp [intOf]; omega
                    by_cases h2 : d1 ≤ dd
                    · have b1 : (rm == 0) = false := beq_eq_false_iff_ne.2 h1
                      have b2 : decide (d1 ≤ dd) = true := decide_eq_true h2
                      have hr := HST.out
                      rw [if_pos (.inr (.inl h2))] at hr
                      subst hr
                      clear HST
                      go_quiet (fail)
                      go_wp2
                      go_roundw
                      case rel => exact ⟨j + 1, _, by omega, by go_num, HJ.out.1, HJ.out.2.1, HJ.out.2.2, Lib.hid (HM6.out.upd ((Upd.refl _ wE).drewN _)), hz6, Lib.hid (HU6.out.drewN _)⟩
                      case measure => simp [intOf]; omega
                    by_cases h3 : b = s
                    · subst h3
                      have b1 : (rm == 0) = false := beq_eq_false_iff_ne.2 h1
                      have b2 : decide (d1 ≤ dd) = false := decide_eq_false h2
                      have hr := HST.out
                      rw [if_pos (.inr (.inr rfl))] at hr
                      subst hr
                      clear HST
                      go_quiet (fail)
                      go_wp2
                      go_roundw
                      case rel => exact ⟨j + 1, _, by omega, by go_num, HJ.out.1, HJ.out.2.1, HJ.out.2.2, Lib.hid (HM6.out.upd ((Upd.refl _ wE).drewN _)), hz6, Lib.hid (HU6.out.drewN _)⟩
                      case measure => simp [intOf]; omega
                    have b1 : (rm == 0) = false := beq_eq_false_iff_ne.2 h1
                    have b2 : decide (d1 ≤ dd) = false := decide_eq_false h2
                    have b3 : ((b : Int) == (s : Int)) = false := beq_eq_false_iff_ne.2 (by omega)
                    go_quiet (fail)
                    clear b1 b2 b3
                    go_upto_region 21 with (fail)
                    have hu7 : Upd (fun _ => False) wE (wE.drewN nq) := (Upd.refl _ wE).drewN nq
                    have HM7 := Lib.hid (HM6.out.upd hu7)
                    have HU7 := Lib.hid (HU6.out.drewN nq)
                    have hz7 : base ≤ (wE.drewN nq).heap.size := hz6
                    have hzE7 : E < (wE.drewN nq).heap.size := hzE
                    have e7 : (wE.drewN nq).cell? ⟨E, 0, none⟩ = some (.int .i64 (b : Int)) := e0
                    clear HM6 HU6 hz6 e0 e1 f0 g0 hu7 hzE
                    generalize wE.drewN nq = wd at HM7 HU7 hz7 hzE7 e7 ⊢
                    have hr := HST.out
                    rw [if_neg (by omega)] at hr
                    have HR := Lib.hid hr
                    clear hr HST h1 h2 h3 hlob
                    have q0 := HM7.out.di.cell (k := b) (by show b < di2.length; omega)
                    have q1 := HM7.out.di.free b
                    have huD : Upd (fun j => j = DI) wd (wd.setCell ⟨DI, b, none⟩ (.int .i64 dd)) := (Upd.refl (fun j => j = DI) wd).setCell ⟨DI, b, none⟩ rfl _
                    have p0 := (HM7.out.by_.upd huD n1).cell (k := b) (by show b < by2.length; omega)
                    have p1 := (HM7.out.by_.upd huD n1).free b
                    have e7' : (wd.setCell ⟨DI, b, none⟩ (.int .i64 dd)).cell? ⟨E, 0, none⟩ = some (.int .i64 (b : Int)) := (huD.cell (p := ⟨E, 0, none⟩) hzE7 (by show ¬ E = DI; omega)).trans e7
                    have hzD : E < (wd.setCell ⟨DI, b, none⟩ (.int .i64 dd)).heap.size := Nat.lt_of_lt_of_le hzE7 huD.size
                    have huB : Upd (fun j => j = BY) (wd.setCell ⟨DI, b, none⟩ (.int .i64 dd)) ((wd.setCell ⟨DI, b, none⟩ (.int .i64 dd)).setCell ⟨BY, b, none⟩ (.int .i64 (x : Int))) := (Upd.refl (fun j => j = BY) _).setCell ⟨BY, b, none⟩ rfl _
                    have HX : Hid (WMem ((wd.setCell ⟨DI, b, none⟩ (.int .i64 dd)).setCell ⟨BY, b, none⟩ (.int .i64 (x : Int))) BY DI WA base (.slice A' T2.length c') ⟨by2.set b (x : Int), di2.set b dd, wa2, T2⟩ ∧ Upd (fun k => w.heap.size ≤ k) w ((wd.setCell ⟨DI, b, none⟩ (.int .i64 dd)).setCell ⟨BY, b, none⟩ (.int .i64 (x : Int))) ∧ base ≤ ((wd.setCell ⟨DI, b, none⟩ (.int .i64 dd)).setCell ⟨BY, b, none⟩ (.int .i64 (x : Int))).heap.size ∧ E < ((wd.setCell ⟨DI, b, none⟩ (.int .i64 dd)).setCell ⟨BY, b, none⟩ (.int .i64 (x : Int))).heap.size ∧ ((wd.setCell ⟨DI, b, none⟩ (.int .i64 dd)).setCell ⟨BY, b, none⟩ (.int .i64 (x : Int))).cell? ⟨E, 0, none⟩ = some (.int .i64 (b : Int))) := Lib.hid
                      ⟨⟨(HM7.out.by_.upd huD n1).set b x, (HM7.out.di.set b dd).upd huB (fun e => n1 e.symm), (HM7.out.wa.upd huD (fun e => n3 e.symm)).upd huB (fun e => n2 e.symm), (HM7.out.q.upd huD (fun j hj e => by have := (HM7.out.q.lt j hj).1; omega)).upd huB (fun j hj e => by have := (HM7.out.q.lt j hj).1; omega)⟩,
                        (HU7.out.setCell ⟨DI, b, none⟩ l2 _).setCell ⟨BY, b, none⟩ l1 _, Nat.le_trans (Nat.le_trans hz7 huD.size) huB.size, Nat.lt_of_lt_of_le hzD huB.size, (huB.cell (p := ⟨E, 0, none⟩) hzD (by show ¬ E = BY; omega)).trans e7'⟩
                    clear huD huB HM7 HU7
                    go_cut [14] (fun v14 wc => v14 = .int .i64 dd ∧ Hid (WMem wc BY DI WA base (.slice A' T2.length c') ⟨by2.set b (x : Int), di2.set b dd, wa2, T2⟩ ∧ Upd (fun k => w.heap.size ≤ k) w wc ∧ base ≤ wc.heap.size ∧ E < wc.heap.size ∧ wc.cell? ⟨E, 0, none⟩ = some (.int .i64 (b : Int))))
                    case first =>
                      go_region_held3 (fun V => V.cell? ⟨E, 0, none⟩ = some (.int .i64 (b : Int))) (first | assumption | exact HX.out.2.2.2.2 | fail) (fail)
                      all_goals go_wp2
                      all_goals go_meet
                      all_goals (case rel => exact ⟨rfl, Lib.hid ⟨HX.out.1.upd ((Upd.refl _ _).drewN 1), HX.out.2.1.drewN 1, HX.out.2.2.1, HX.out.2.2.2.1, HX.out.2.2.2.2⟩⟩)
                    case rest =>
                      obtain ⟨rfl, hX⟩ := hcut
                      obtain ⟨x1, x2, x3, x4, x5⟩ := hX.out
                      have HM8 := Lib.hid x1
                      have HU8 := Lib.hid x2
                      have w0 := x1.wa.cell (k := b) (by show b < wa2.length; omega)
                      simp only at w0
                      clear HX hX x1 x2 q0 q1 p0 p1 e7 e7' hz7 hzE7 hzD
                      by_cases h4 : gi wa2 b = 0
                      · rw [h4] at w0
                        have hr := HR.out
                        rw [if_pos h4] at hr
                        subst hr
                        clear HR h4
                        have w1 := HM8.out.wa.free b
                        have huW : Upd (fun j => j = WA) wc (wc.setCell ⟨WA, b, none⟩ (.int .i64 1)) := (Upd.refl (fun j => j = WA) wc).setCell ⟨WA, b, none⟩ rfl _
                        have G1 := Lib.hid (HM8.out.by_.upd huW n2)
                        have G2 := Lib.hid (HM8.out.di.upd huW n3)
                        have G3 := Lib.hid (HM8.out.wa.set b 1)
                        have GQ := Lib.hid (HM8.out.q.upd huW (fun j hj e => by have := (HM8.out.q.lt j hj).1; omega))
                        have GU := Lib.hid (HU8.out.setCell (p := ⟨WA, b, none⟩) l3 (.int .i64 1))
                        have hz9 : base ≤ (wc.setCell ⟨WA, b, none⟩ (.int .i64 1)).heap.size := Nat.le_trans x3 huW.size
                        have e9 : (wc.setCell ⟨WA, b, none⟩ (.int .i64 1)).cell? ⟨E, 0, none⟩ = some (.int .i64 (b : Int)) := (huW.cell (p := ⟨E, 0, none⟩) x4 (by show ¬ E = WA; omega)).trans x5
                        have hlen1 : T2.length + 1 ≤ 1048576 := by omega
                        clear HM8 HU8 huW
                        go_upto_region 24 with (fail)
                        generalize wc.setCell ⟨WA, b, none⟩ (.int .i64 1) = wS9 at G1 G2 G3 GQ GU hz9 e9 ⊢
                        have hq9 : OwnQ wS9 base (.slice A' T2.length c') T2 := GQ.out
                        go_wp2_with (at_builtin; refine wpList_pushQ rfl (.tmp 136) (.tmp 139) rfl rfl _ _ b base rfl hq9 rfl hz9 hlen1 ?_)
                        intro v4 w4 hq4 hu4
                        have hn4 : ∀ j, j < base → ¬ (Value.slice A' T2.length c').ownBlock = some j := fun j hj e => by have := (hq9.lt j e).1; omega
                        have M4 := Lib.hid (⟨G1.out.upd hu4 (hn4 BY (by omega)), G2.out.upd hu4 (hn4 DI (by omega)), G3.out.upd hu4 (hn4 WA (by omega)), hq4⟩ : WMem w4 BY DI WA base v4 ⟨by2.set b (x : Int), di2.set b dd, wa2.set b 1, T2 ++ [b]⟩)
                        have U4 := Lib.hid (GU.out.trans hu4 (fun j _ e => by have := (hq9.lt j e).1; omega))
                        have hz4 : base ≤ w4.heap.size := Nat.le_trans hz9 hu4.size
                        clear G1 G2 G3 GQ GU hq9 hq4 hu4 hn4 e9 w0 w1
                        go_wp2
                        go_roundw
                        case rel => exact ⟨j + 1, _, by omega, by go_num, HJ.out.1, HJ.out.2.1, HJ.out.2.2, M4, hz4, U4⟩
                        case measure => simp [intOf]; omega
                      · have b4 : (gi wa2 b == 0) = false := beq_eq_false_iff_ne.2 h4
                        have hr := HR.out
                        rw [if_neg h4] at hr
                        subst hr
                        clear HR h4
                        go_wp2
                        go_roundw
                        case rel => exact ⟨j + 1, _, by omega, by go_num, HJ.out.1, HJ.out.2.1, HJ.out.2.2, HM8, x3, HU8⟩
                        case measure => simp [intOf]; omega
                · obtain rfl : j = L := by omega
                  have hend : Hid (WInv nw costs room s k π (fun _ _ => True) ⟨by2, di2, wa2, T2⟩) := Lib.hid (by
                    have h := hI.out
                    rw [HL.out, List.take_length] at h
                    exact ⟨h.lb, h.ld, h.lw, h.ds, h.bs, h.pot, h.unm, h.par, h.pth, h.wa01, h.wat, h.tn, h.nd, h.up, fun u i hu hmu hut _ hi hiu => h.clo u i hu hmu hut (by
                      by_cases e : u = v
                      · exact .inr ⟨e, (HOUT.out v i).2 ⟨hi, by rw [hiu, e]⟩⟩
                      · exact .inl e) hi hiu⟩)
                  obtain ⟨A', c', rfl⟩ := hM.out.q.shape
                  clear hI
                  go_wp2
                  go_roundg (gk - 1)
                  case measure => exact HME.out.2
                  case rel => exact ⟨_, hend, hme, hM, hz, hu⟩
end Go.Proofs.YtppjpledjhinbaaDoor
