/- The law's count, walked. -/
import Derived.Test.YtppjpledjhinbaaDoorJRsOlds
import Derived.Test.YtppjpledjhinbaaDoorJRsStays
import Derived.Test.YtppjpledjhinbaaDoorJCbRSp
import Derived.Deep.RegionHeld3
namespace Go.Proofs.YtppjpledjhinbaaDoor
open Go.RowKit Go.Lib
theorem sit_infoC : (Tryd.prog.info? 51).map (fun i => (i.zero, i.size, i.bytes)) = some (some (.agg #[.int .i64 0, .bool false, .bool false, .int .i64 0, .int .u8 0]), 5, 32) := by kernel_rfl
/-- Of the first i. -/
def sitS (rs : List MSit) (S : List MSeat) (i : Nat) : List MSit := (((rs.zip S).take i).filter fun p => decide (p.2 ≠ seatZ)).map fun p => ⟨p.1.who, p.2⟩
def keptS (rs : List MSit) (S : List MSeat) (i : Nat) : Nat := (((S.zip (oldsL rs)).take i).filter fun p => decide (p.1 ≠ seatZ) && decide (p.1 = p.2)).length
theorem sitS_all (rs : List MSit) (S : List MSeat) (h : S.length = rs.length) : sitS rs S rs.length = sitL rs S := by
  unfold sitS sitL
  rw [List.take_of_length_le (by rw [List.length_zip, h, Nat.min_self]; exact Nat.le_refl _)]
theorem keptS_all (rs : List MSit) (S : List MSeat) (h : S.length = rs.length) : keptS rs S rs.length = keptL rs S := by
  unfold keptS keptL
  rw [List.take_of_length_le (by rw [List.length_zip, oldsL_len, h, Nat.min_self]; exact Nat.le_refl _)]
theorem sitS_next (rs : List MSit) (S : List MSeat) {i : Nat} (hi : i < rs.length) (h : i < S.length) : sitS rs S (i + 1) = if S[i] = seatZ then sitS rs S i else sitS rs S i ++ [⟨rs[i].who, S[i]⟩] := by
  unfold sitS
  rw [List.take_succ_eq_append_getElem (by rw [List.length_zip]; omega), List.filter_append, List.map_append, List.getElem_zip]
  by_cases e : S[i] = seatZ
  · rw [if_pos e]; simp [e]
  · rw [if_neg e]; simp [e]
theorem keptS_next (rs : List MSit) (S : List MSeat) {i : Nat} (hi : i < rs.length) (h : i < S.length) : keptS rs S (i + 1) = if S[i] ≠ seatZ ∧ S[i] = (oldsL rs)[i]'(by rw [oldsL_len]; exact hi) then keptS rs S i + 1 else keptS rs S i := by
  unfold keptS
  rw [List.take_succ_eq_append_getElem (by rw [List.length_zip, oldsL_len]; omega), List.filter_append, List.length_append, List.getElem_zip]
  by_cases e : S[i] = seatZ
  · rw [if_neg (fun x => x.1 e)]; simp [e]
  · by_cases e2 : S[i] = (oldsL rs)[i]'(by rw [oldsL_len]; exact hi)
    · rw [if_pos ⟨e, e2⟩]; simp [e, ← e2]
    · rw [if_neg (fun x => e2 x.2)]; simp [e2]
theorem sitS_len (rs : List MSit) (S : List MSeat) (i : Nat) : (sitS rs S i).length ≤ i := by
  unfold sitS
  rw [List.length_map]
  exact Nat.le_trans (List.length_filter_le _ _) (by rw [List.length_take]; omega)
theorem keptS_le (rs : List MSit) (S : List MSeat) (i : Nat) : keptS rs S i ≤ i := by
  unfold keptS
  exact Nat.le_trans (List.length_filter_le _ _) (by rw [List.length_take]; omega)
set_option maxHeartbeats 8000000 in
set_option maxRecDepth 20000 in
theorem rcount_any (w : World) (A : Option Addr) (n c : Nat) (l : List MRow) (hr : Rd w w.heap.size 5 A n (catv rowC l)) (hf : ∀ r ∈ l, r.fits) (A1 : Option Addr) (n1 c1 : Nat) (rs : List MSit) (hr1 : Rd w w.heap.size 5 A1 n1 (catv sitC rs)) (hf1 : ∀ x ∈ rs, x.seat.fits) (hn1 : n1 ≤ 1048576) (A3 : Option Addr) (c3 : Nat) (S : List MSeat) (hr3 : Rd w w.heap.size 2 A3 n1 (catv seatC S)) :
    Calls Tryd.prog 20 #[.slice A n c, .slice A1 n1 c1, .slice A3 n1 c3] w fun e w' => e = .returned (.tuple #[.int .i64 ((sitL rs S).length : Int), .int .i64 (keptL rs S : Int), .bool (decide (allE l (sitL rs S) = 0))]) ∧ Below w.heap.size w w' := by
  obtain ⟨i1, hi1, hy0, hy1, hy2⟩ := info_parts sit_infoC
  have HL1 := Lib.hid (rd_catlen sitC_len (by decide) hr1).symm
  have HL3 := Lib.hid (rd_catlen seatC_len (by decide) hr3).symm
  have HOL := Lib.hid (rolds_any w A1 n1 c1 rs hr1 hf1 hn1)
  have HAL := Lib.hid (fun (W : World) (hW : Below w.heap.size w W) (A2 : Option Addr) (n2 c2 : Nat) (q : List MSit) (hr2 : Rd W W.heap.size 5 A2 n2 (catv sitC q)) (hq : q.length ≤ 1048576) => rall_any W A n c l A2 n2 c2 q ((hr.below hW).mono hW.size) hf hr2 (by omega))
  have HR1 := Lib.hid hr1
  have HR3 := Lib.hid hr3
  clear hr hf hr1 hf1 hr3
  go_enter Tryd.func20, Tryd.ntmps20
  go_wp2_with fail
  refine HOL.out.mono ?_
  rintro e w2 ⟨v2, rfl, ho2, hb2⟩
  obtain ⟨A2, c2, rfl⟩ := own_shape ho2
  have HO2 := Lib.hid ho2
  have HB2 := Lib.hid hb2
  clear ho2 hb2 HOL
  go_wp2
  go_loopw [23, 9, 10] (fun iv su kv wx => ∃ (i : Nat) (sv : Value) (kk : Nat), iv = .int .i64 (i : Int) ∧ sv = su ∧ kv = .int .i64 (kk : Int) ∧ i ≤ n1 ∧ Hid (kk = keptS rs S i) ∧ Hid (wx.ownsRow w2.heap.size 51 5 sv (sitS rs S i).length (catv sitC (sitS rs S i))) ∧ Hid (Below w2.heap.size w2 wx)) (fun iv _ _ _ => n1 - (intOf iv).toNat)
  case atStart => exact ⟨0, _, 0, rfl, rfl, rfl, Nat.zero_le _, Lib.hid (by simp [keptS]), Lib.hid (by
    have : sitS rs S 0 = [] := by simp [sitS]
    rw [this]; exact World.ownsRow_nil _ _ _ _), Lib.hid (Below.refl _ _)⟩
  case round =>
    obtain ⟨i, sv, kk, rfl, rfl, rfl, hi, hkk, hO, hB⟩ := hrel
    by_cases hlt : i < n1
    · have hir : i < rs.length := by rw [HL1.out]; exact hlt
      have hiS : i < S.length := by rw [HL3.out]; exact hlt
      have hbx := HB2.out.trans (hB.out.mono HB2.out.size)
      obtain ⟨gs, offs, e, hgs, _, hcs⟩ := (HR3.out.below hbx).elem seatC_len (by decide) hlt
      subst e
      have hio : i < (oldsL rs).length := by rw [oldsL_len]; exact hir
      have hn1 := sitS_next rs S hir hiS
      have hn2 := keptS_next rs S hir hiS
      obtain ⟨go', offo, hgo, hA2, hco⟩ : ∃ go' offo, go' < w2.heap.size ∧ A2 = some ⟨go', offo, none⟩ ∧ ∀ U : World, Below w2.heap.size w2 U → U.cell? ⟨go', offo + i * 2, none⟩ = some (.int .i64 ((oldsL rs)[i]'hio).num) ∧ U.cell? ⟨go', offo + i * 2 + 1, none⟩ = some (.int .u8 (((oldsL rs)[i]'hio).ltr.toNat : Int)) := by
        obtain ⟨g, o, e, hg, _, _⟩ := (Rd.own HO2.out).elem seatC_len (by decide) hlt
        refine ⟨g, o, hg, e, fun U hU => ?_⟩
        obtain ⟨g2, o2, e2, _, _, hcc⟩ := ((Rd.own HO2.out).below hU).elem seatC_len (by decide) hlt
        rw [e] at e2
        simp only [Option.some.injEq, Addr.mk.injEq, and_true] at e2
        obtain ⟨rfl, rfl⟩ := e2
        exact ⟨hcc 0 _ rfl, hcc 1 _ rfl⟩
      subst hA2
      obtain ⟨gb, off, hgb, hA1, hcx⟩ : ∃ gb off, gb < w.heap.size ∧ A1 = some ⟨gb, off, none⟩ ∧ ∀ U : World, Below w.heap.size w U → U.cell? ⟨gb, off + i * 5, none⟩ = some (.int .i64 rs[i].who.cab) ∧ U.cell? ⟨gb, off + i * 5 + 1, none⟩ = some (.bool rs[i].who.fit) ∧ U.cell? ⟨gb, off + i * 5 + 2, none⟩ = some (.bool rs[i].who.inf) := by
        obtain ⟨g, o, e, hg, _, _⟩ := HR1.out.elem sitC_len (by decide) hlt
        refine ⟨g, o, hg, e, fun U hU => ?_⟩
        obtain ⟨g2, o2, e2, _, _, hcc⟩ := (HR1.out.below hU).elem sitC_len (by decide) hlt
        rw [e] at e2
        simp only [Option.some.injEq, Addr.mk.injEq, and_true] at e2
        obtain ⟨rfl, rfl⟩ := e2
        exact ⟨hcc 0 _ rfl, hcc 1 _ rfl, hcc 2 _ rfl⟩
      subst hA1
      obtain ⟨s, hs⟩ : ∃ s, S[i] = s := ⟨_, rfl⟩
      obtain ⟨o, ho⟩ : ∃ o, (oldsL rs)[i]'hio = o := ⟨_, rfl⟩
      obtain ⟨x, hx⟩ : ∃ x, rs[i].who = x := ⟨_, rfl⟩
      rw [hs] at hcs hn1 hn2
      rw [ho] at hn2 hco
      rw [hx] at hn1 hcx
      obtain ⟨sn, sl⟩ := s
      obtain ⟨on, ol⟩ := o
      obtain ⟨xc, xf, xi⟩ := x
      have d0 := hcs 0 (.int .i64 sn) rfl
      have d1 := hcs 1 (.int .u8 (sl.toNat : Int)) rfl
      rw [Nat.add_zero] at d0
      obtain ⟨q, hq⟩ : ∃ q, sitS rs S i = q := ⟨_, rfl⟩
      have hql := sitS_len rs S i
      have hkl := keptS_le rs S i
      rw [← hkk.out] at hn2 hkl
      rw [hq] at hn1 hO hql
      obtain ⟨na, hna⟩ : ∃ na, q.length = na := ⟨_, rfl⟩
      rw [hna] at hO hql
      have HNA := Lib.hid hna
      obtain ⟨X, hX⟩ : ∃ X, wr.heap.size = X := ⟨_, rfl⟩
      obtain ⟨V, hV⟩ : ∃ V, wr.alloc (.cells #[.int .i64 sn, .int .u8 (sl.toNat : Int)] 26) = V := ⟨_, rfl⟩
      have hbV : Below wr.heap.size wr V := by rw [← hV]; exact (Below.refl _ _).alloc (Nat.le_refl _) _
      have xV : V.heap[X]? = some (.cells #[.int .i64 sn, .int .u8 (sl.toNat : Int)] 26 (0, 0)) := by rw [← hV, ← hX]; exact heap_alloc_new wr _
      have HOV := Lib.hid (own_below hO.out hbV)
      have hbV2 := hB.out.trans (hbV.mono hB.out.size)
      have HBV := Lib.hid hbV2
      have HB0V := Lib.hid (HB2.out.trans (hbV2.mono HB2.out.size))
      have HXV := Lib.hid xV
      have HN1 := Lib.hid hn1
      have HN2 := Lib.hid hn2
      have HCX := Lib.hid hcx
      have HCO := Lib.hid hco
      obtain ⟨eqb, heqb⟩ : ∃ eqb, decide ((⟨sn, sl⟩ : MSeat) = seatZ) = eqb := ⟨_, rfl⟩
      have hse : ∀ U : World, (Op.equalIn 10000 26 (.agg #[.int .i64 sn, .int .u8 (sl.toNat : Int)]) (.agg #[.int .i64 0, .int .u8 0])).run Tryd.prog U = .ok eqb U := fun U => by rw [← heqb]; exact seat_eqIn U ⟨sn, sl⟩ seatZ
      have HQ := Lib.hid heqb
      obtain ⟨eqc, heqc⟩ : ∃ eqc, decide ((⟨sn, sl⟩ : MSeat) = ⟨on, ol⟩) = eqc := ⟨_, rfl⟩
      have hso : ∀ U : World, (Op.equalIn 10000 26 (.agg #[.int .i64 sn, .int .u8 (sl.toNat : Int)]) (.agg #[.int .i64 on, .int .u8 (ol.toNat : Int)])).run Tryd.prog U = .ok eqc U := fun U => by rw [← heqc]; exact seat_eqIn U ⟨sn, sl⟩ ⟨on, ol⟩
      have HQC := Lib.hid heqc
      have f0 : V.cell? ⟨X, 0, none⟩ = some (.int .i64 sn) := by rw [cell_of_row _ _ 0 _ _ _ xV]; rfl
      have f1 : V.cell? ⟨X, 1, none⟩ = some (.int .u8 (sl.toNat : Int)) := by rw [cell_of_row _ _ 1 _ _ _ xV]; rfl
      have hii : (i : Int) < (n1 : Int) := by omega
      have hi0' : (0 : Int) ≤ (i : Int) := by omega
      clear hcs hs ho hx hn1 hn2 hco hcx hq hna hbV xV hbV2 heqb heqc hO hB hbx hkk
      go_upto_region 9 with (fail)
      clear hV d0 d1
      cases eqb with
      | true =>
        have hz : (⟨sn, sl⟩ : MSeat) = seatZ := of_decide_eq_true HQ.out
        have HO6 : Hid (V.ownsRow w2.heap.size 51 5 sv (sitS rs S (i + 1)).length (catv sitC (sitS rs S (i + 1)))) := Lib.hid (by
          have h1 := HN1.out
          rw [if_pos hz] at h1
          rw [h1, HNA.out]; exact HOV.out)
        have HK6 : Hid (kk = keptS rs S (i + 1)) := Lib.hid (by
          have h1 := HN2.out
          rw [if_neg (fun h => h.1 hz)] at h1
          exact h1.symm)
        clear hso hz
        go_wp2
        go_roundw
        case rel => exact ⟨i + 1, _, kk, by go_num, rfl, rfl, hlt, HK6, HO6, HBV⟩
        case measure => (simp [intOf]; try omega)
      | false =>
        have hnz : ¬ (⟨sn, sl⟩ : MSeat) = seatZ := of_decide_eq_false HQ.out
        have HNZ := Lib.hid hnz
        have hVb : w.heap.size ≤ V.heap.size := HB0V.out.size
        have HC : Hid (∀ U : World, Below V.heap.size V U → (U.cell? ⟨gb, off + i * 5, none⟩ = some (.int .i64 xc) ∧ U.cell? ⟨gb, off + i * 5 + 1, none⟩ = some (.bool xf) ∧ U.cell? ⟨gb, off + i * 5 + 2, none⟩ = some (.bool xi)) ∧ U.cell? ⟨X, 0, none⟩ = some (.int .i64 sn) ∧ U.cell? ⟨X, 1, none⟩ = some (.int .u8 (sl.toNat : Int))) := Lib.hid (fun U hU => by
          have xU := box_keep HXV.out (Upd.of_below (S := fun _ => False) hU) id
          refine ⟨HCX.out U (HB0V.out.trans (hU.mono HB0V.out.size)), ?_, ?_⟩ <;> rw [cell_of_row _ _ _ _ _ _ xU] <;> rfl)
        have hbd : Below V.heap.size V V.drew := (Below.refl _ _).drew
        have hbA := hbd.alloc hbd.size (.cells #[.int .i64 xc, .bool xf, .bool xi, .int .i64 sn, .int .u8 (sl.toNat : Int)] 51)
        have HOD : Hid ((V.drew.alloc (.cells #[.int .i64 xc, .bool xf, .bool xi, .int .i64 sn, .int .u8 (sl.toNat : Int)] 51)).ownsRow w2.heap.size 51 5 sv na (catv sitC q)) := Lib.hid (own_below HOV.out hbA)
        have HONE : Hid (∀ u ∈ ([.int .i64 xc, .bool xf, .bool xi, .int .i64 sn, .int .u8 (sl.toNat : Int)] : List Value), u.oneCell' = true) := Lib.hid (by simp [Value.oneCell'])
        have HSZ : Hid (w2.heap.size ≤ (V.drew.alloc (.cells #[.int .i64 xc, .bool xf, .bool xi, .int .i64 sn, .int .u8 (sl.toNat : Int)] 51)).heap.size) := Lib.hid (Nat.le_trans HBV.out.size hbA.size)
        have HC6 : Hid (∀ U : World, Upd (fun k => sv.ownBlock = some k) (V.drew.alloc (.cells #[.int .i64 xc, .bool xf, .bool xi, .int .i64 sn, .int .u8 (sl.toNat : Int)] 51)) U → (U.cell? ⟨gb, off + i * 5, none⟩ = some (.int .i64 xc) ∧ U.cell? ⟨gb, off + i * 5 + 1, none⟩ = some (.bool xf) ∧ U.cell? ⟨gb, off + i * 5 + 2, none⟩ = some (.bool xi)) ∧ U.cell? ⟨X, 0, none⟩ = some (.int .i64 sn) ∧ U.cell? ⟨X, 1, none⟩ = some (.int .u8 (sl.toNat : Int))) := Lib.hid (fun U hU => by
          obtain ⟨⟨a0, a1, a2⟩, a3, a4⟩ := HC.out _ hbA
          have k1 : gb < (V.drew.alloc (.cells #[.int .i64 xc, .bool xf, .bool xi, .int .i64 sn, .int .u8 (sl.toNat : Int)] 51)).heap.size := Nat.lt_of_lt_of_le hgb (Nat.le_trans hVb hbA.size)
          have k2 : ¬ sv.ownBlock = some gb := fun e => by
            have h1 := (HOV.out.lt gb e).1
            have h2 := HB2.out.size
            omega
          have k3 : X < V.heap.size := (Array.getElem?_eq_some_iff.1 HXV.out).1
          have k3' : X < (V.drew.alloc (.cells #[.int .i64 xc, .bool xf, .bool xi, .int .i64 sn, .int .u8 (sl.toNat : Int)] 51)).heap.size := Nat.lt_of_lt_of_le k3 hbA.size
          have k4 : ¬ sv.ownBlock = some X := fun e => by
            obtain ⟨cs, hc⟩ := own_typed HOV.out e
            rw [HXV.out] at hc
            injection hc with hc
            injection hc with _ hc
            exact absurd hc (by decide)
          exact ⟨⟨(hU.cell (p := ⟨gb, off + i * 5, none⟩) k1 k2).trans a0, (hU.cell (p := ⟨gb, off + i * 5 + 1, none⟩) k1 k2).trans a1, (hU.cell (p := ⟨gb, off + i * 5 + 2, none⟩) k1 k2).trans a2⟩, (hU.cell (p := ⟨X, 0, none⟩) k3' k4).trans a3, (hU.cell (p := ⟨X, 1, none⟩) k3' k4).trans a4⟩)
        clear hnz
        go_upto_region 10 with (fail)
        go_region_held3 (fun U => (U.cell? ⟨gb, off + i * 5, none⟩ = some (.int .i64 xc) ∧ U.cell? ⟨gb, off + i * 5 + 1, none⟩ = some (.bool xf) ∧ U.cell? ⟨gb, off + i * 5 + 2, none⟩ = some (.bool xi)) ∧ U.cell? ⟨X, 0, none⟩ = some (.int .i64 sn) ∧ U.cell? ⟨X, 1, none⟩ = some (.int .u8 (sl.toNat : Int)))
          (first | exact hS6 | exact HC.out _ (by first | assumption | exact hbd | exact hbA))
          (first
            | (refine step_app (by rfl) (.tmp 31) (.tmp 39) 48 (by rfl) w2.heap.size 51 i1 _ 5 32 Tryd.underlying48 hi1 hy0 hy1 hy2 rfl (by omega) sv na (catv sitC q) _ (some ⟨V.heap.size, 0, none⟩) 1 1 ([.int .i64 xc, .bool xf, .bool xi, .int .i64 sn, .int .u8 (sl.toNat : Int)] : List Value) (by rfl) (by exact HOD.out) (by rfl) (rd_block (heap_alloc_new V.drew _) rfl) HONE.out (by omega) (by unfold maxLen; omega) (by exact HSZ.out) ?_
               intro v6 w6 ho6 hu6 _
               have hS6 := HC6.out w6 hu6)
            | fail)
        all_goals
          have hne : ∀ (b : Nat) (cs : Array Value) (t : TypeId), (V.drew.alloc (.cells #[.int .i64 xc, .bool xf, .bool xi, .int .i64 sn, .int .u8 (sl.toNat : Int)] 51)).heap[b]? = some (Obj.cells cs t (0, 0)) → t ≠ 51 → ¬ sv.ownBlock = some b := fun b cs t h1 h2 e => by
            obtain ⟨c5, h5⟩ := own_typed HOD.out e
            rw [h1] at h5
            injection h5 with h5
            injection h5 with _ h5
            exact h2 h5
          have xA := box_keep HXV.out (Upd.of_below (S := fun _ => False) hbA) id
          have x6 := box_keep xA hu6 (hne _ _ _ xA (by decide))
          have HB6 := Lib.hid ((HBV.out.trans (hbA.mono HBV.out.size)).trans (hu6.below (fun b hb e => by have := (HOV.out.lt b e).1; omega) HSZ.out))
          have g0 : w6.cell? ⟨X, 0, none⟩ = some (.int .i64 sn) := by rw [cell_of_row _ _ 0 _ _ _ x6]; rfl
          have g1 : w6.cell? ⟨X, 1, none⟩ = some (.int .u8 (sl.toNat : Int)) := by rw [cell_of_row _ _ 1 _ _ _ x6]; rfl
          obtain ⟨o0, o1⟩ := HCO.out w6 HB6.out
          have HO6 : Hid (w6.ownsRow w2.heap.size 51 5 v6 (sitS rs S (i + 1)).length (catv sitC (sitS rs S (i + 1)))) := Lib.hid (by
            have h1 := HN1.out
            rw [if_neg HNZ.out] at h1
            rw [h1, List.length_append, List.length_singleton, HNA.out, catv_append, catv_one]
            exact ho6)
          have hwk : IntKind.i64.wrap ((kk : Int) + 1) = (kk : Int) + 1 := IntWalk.i64_in _ (by omega)
          clear hne xA x6 ho6 hu6 hbA hbd f0 f1
          go_wp2
          go_quiet (fail)
          have HBQ : Hid (Below w2.heap.size w2 (w6.drewN nq)) := Lib.hid ⟨HB6.out.os, HB6.out.tape, HB6.out.output, HB6.out.size, HB6.out.block⟩
          have HOQ : Hid ((w6.drewN nq).ownsRow w2.heap.size 51 5 v6 (sitS rs S (i + 1)).length (catv sitC (sitS rs S (i + 1)))) := Lib.hid (own_below HO6.out ⟨rfl, rfl, rfl, Nat.le_refl _, fun _ _ => rfl⟩)
          clear HO6 HB6 g0 g1 o0 o1
          cases eqc with
          | true =>
            have HK6 : Hid (kk + 1 = keptS rs S (i + 1)) := Lib.hid (by
              have h1 := HN2.out
              rw [if_pos ⟨HNZ.out, of_decide_eq_true HQC.out⟩] at h1
              exact h1.symm)
            go_wp2
            go_roundw
            case rel => exact ⟨i + 1, _, kk + 1, by go_num, rfl, by go_num, hlt, HK6, HOQ, HBQ⟩
            case measure => (simp [intOf]; try omega)
          | false =>
            have HK6 : Hid (kk = keptS rs S (i + 1)) := Lib.hid (by
              have h1 := HN2.out
              rw [if_neg (fun h => (of_decide_eq_false HQC.out) h.2)] at h1
              exact h1.symm)
            go_wp2
            go_roundw
            case rel => exact ⟨i + 1, _, kk, by go_num, rfl, rfl, hlt, HK6, HOQ, HBQ⟩
            case measure => (simp [intOf]; try omega)
    · obtain rfl : i = n1 := by omega
      have hii : ¬ (i : Int) < (i : Int) := by omega
      have hO := hO.out
      have hk := hkk.out
      have hSr : S.length = rs.length := by rw [HL3.out, HL1.out]
      rw [show sitS rs S i = sitL rs S by rw [← HL1.out]; exact sitS_all rs S hSr] at hO
      rw [show keptS rs S i = keptL rs S by rw [← HL1.out]; exact keptS_all rs S hSr] at hk
      have HK2 := Lib.hid hk
      obtain ⟨q, hq⟩ : ∃ q, sitL rs S = q := ⟨_, rfl⟩
      have HQ2 := Lib.hid hq
      rw [hq] at hO
      obtain ⟨na, hna⟩ : ∃ na, q.length = na := ⟨_, rfl⟩
      have HNA2 := Lib.hid hna
      have hnl : na ≤ i := by
        have := sitS_len rs S i
        rw [show sitS rs S i = sitL rs S by rw [← HL1.out]; exact sitS_all rs S hSr, hq, hna] at this
        exact this
      rw [hna] at hO
      obtain ⟨Aq, cq, rfl⟩ := own_shape hO
      have hbx := HB2.out.trans (hB.out.mono HB2.out.size)
      have HA := Lib.hid (HAL.out wr hbx Aq na cq q (Rd.own hO) (by omega))
      obtain ⟨E, hE⟩ : ∃ E, allE l q = E := ⟨_, rfl⟩
      have HE2 := Lib.hid hE
      rw [hE] at HA
      have HBX := Lib.hid hbx
      clear hO hk hq hna hbx hkk hB hSr hE
      go_wp2_with fail
      refine HA.out.mono ?_
      rintro e w4 ⟨rfl, hb4⟩
      have HB4 := Lib.hid (HBX.out.trans (hb4.mono HBX.out.size))
      clear hb4 HA
      go_wp2
      go_ret3
      refine ⟨?_, HB4.out⟩
      rw [HQ2.out, HNA2.out, ← HK2.out, HE2.out]
      first | rfl | simp
end Go.Proofs.YtppjpledjhinbaaDoor
