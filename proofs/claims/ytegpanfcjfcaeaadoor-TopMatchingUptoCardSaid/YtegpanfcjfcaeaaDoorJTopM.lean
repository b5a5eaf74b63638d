/- TopMatching's walk. -/
import Derived.Test.YtegpanfcjfcaeaaDoorJTopLv
import Derived.Test.YtegpanfcjfcaeaaDoorJCbRSp
import Derived.Test.YtegpanfcjfcaeaaDoorJFtOne
namespace Go.Proofs.YtegpanfcjfcaeaaDoor
open Go.RowKit Go.Lib
theorem edge_info : (Tryd.prog.info? 40).map (fun i => (i.zero, i.size, i.bytes)) = some (some (.agg #[.int .i64 0, .int .i64 0]), 2, 16) := by kernel_rfl
theorem rdr_infoT : (Tryd.prog.info? 35).map (fun i => (i.zero, i.size, i.bytes)) = some (some (.agg #[.int .i64 0, .bool false, .bool false, .int .i64 0, .int .u8 0]), 5, 32) := by kernel_rfl
/-- The rider without its infant. -/
def noI (x : MSit) : MSit := ⟨⟨x.who.cab, x.who.fit, false⟩, x.seat⟩
/-- While edges and riders are gathered. -/
structure TpSt (w2 wx : World) (ev lv : Value) (A : Option Addr) (m c : Nat) (S : List MSpot) (E : List Eg) (q : List MSit) : Prop where
  ed : wx.ownsRow w2.heap.size 40 2 ev E.length (edgv E)
  rd : wx.ownsRow w2.heap.size 35 5 lv q.length (catv sitC q)
  sp : wx.ownsRow w2.heap.size 37 7 (.slice A m c) m (catv spotC S)
  bel : Below w2.heap.size w2 wx
theorem TpSt.below {w2 wx wy : World} {ev lv : Value} {A : Option Addr} {m c : Nat} {S : List MSpot} {E : List Eg} {q : List MSit} (h : TpSt w2 wx ev lv A m c S E q) (hb : Below wx.heap.size wx wy) : TpSt w2 wy ev lv A m c S E q :=
  ⟨own_below h.ed hb, own_below h.rd hb, own_below h.sp hb, h.bel.trans (hb.mono h.bel.size)⟩
theorem own_ne {w : World} {b1 s1 n1 b2 s2 n2 : Nat} {t1 t2 : TypeId} {v1 v2 : Value} {x1 x2 : List Value} (h1 : w.ownsRow b1 t1 s1 v1 n1 x1) (h2 : w.ownsRow b2 t2 s2 v2 n2 x2) (ht : t1 ≠ t2) : ∀ k, v1.ownBlock = some k → ¬ v2.ownBlock = some k := fun k e e2 => by
  obtain ⟨cs, hcs⟩ := own_typed h1 e
  obtain ⟨ds, hds⟩ := own_typed h2 e2
  rw [hcs] at hds
  injection hds with hds
  injection hds with _ hds
  exact ht hds
theorem own_nbox {w : World} {b2 s2 n2 g : Nat} {t1 t2 : TypeId} {v2 : Value} {x2 : List Value} {cs : Array Value} (h1 : w.heap[g]? = some (.cells cs t1 (0, 0))) (h2 : w.ownsRow b2 t2 s2 v2 n2 x2) (ht : t1 ≠ t2) : ¬ v2.ownBlock = some g := fun e2 => by
  obtain ⟨ds, hds⟩ := own_typed h2 e2
  rw [h1] at hds
  injection hds with hds
  injection hds with _ hds
  exact ht hds
set_option maxHeartbeats 8000000 in
set_option maxRecDepth 20000 in
theorem topm_any (w : World) (mm : Int) (A : Option Addr) (n c : Nat) (l : List MRow) (hr : Rd w w.heap.size 5 A n (catv rowC l)) (hf : ∀ r ∈ l, r.fits) (hLib : LibAt w mm) (A1 : Option Addr) (n1 c1 : Nat) (rs : List MSit) (hr1 : Rd w w.heap.size 5 A1 n1 (catv sitC rs)) (hf1 : ∀ x ∈ rs, x.seat.fits) :
    Calls Tryd.prog 3 #[.slice A n c, .slice A1 n1 c1] w fun e w' => e = .returned (.bool true) ∧ Below w.heap.size w w' := by
  obtain ⟨i0, hi0, hz0, hz1, hz2⟩ := info_parts rdr_infoT
  obtain ⟨i1, hi1, hy0, hy1, hy2⟩ := info_parts edge_info
  have HL1 := Lib.hid (rd_catlen sitC_len (by decide) hr1).symm
  have HLV := Lib.hid (fun (W : World) (hW : Below w.heap.size w W) => tlives_any W mm (hLib.below hW))
  have HCK := Lib.hid (fun (W : World) (hW : Below w.heap.size w W) => rcheck_any W A n c l ((hr.below hW).mono hW.size) hf)
  have HSP := Lib.hid (fun (W : World) (hW : Below w.heap.size w W) => rspots_any W A n c l ((hr.below hW).mono hW.size) hf)
  obtain ⟨Q, hQ⟩ : ∃ Q, rs.map noI = Q := ⟨_, rfl⟩
  have hQl : Q.length = rs.length := by rw [← hQ, List.length_map]
  have HMO := Lib.hid (fun (W : World) (hW : Below w.heap.size w W) (A2 : Option Addr) (n2 c2 : Nat) (hr2 : Rd W W.heap.size 5 A2 n2 (catv sitC Q)) (hE : errC l = 0) (h20 : Q.length ≤ 20) => most_ok W mm A n c l ((hr.below hW).mono hW.size) hf (hLib.below hW) A2 n2 c2 Q hr2 (fun x hx => by rw [← hQ] at hx; obtain ⟨y, hy, rfl⟩ := List.mem_map.1 hx; exact hf1 y hy) hE h20)
  have HTN := Lib.hid (fun (h20 : Q.length ≤ 20) => (fun nu h => top_nu (l := l) (rs := Q) (by omega) (fun x hx => by rw [← hQ] at hx; obtain ⟨y, hy, rfl⟩ := List.mem_map.1 hx; rfl) h : ∀ nu, NuIs (natE (edT (spotsL l) Q Q.length)) nu → (nu : Int) = seatedM l Q))
  have HR1 := Lib.hid hr1
  have HQL : Hid (Q.length = n1) := Lib.hid (hQl.trans HL1.out)
  have HQA : Hid (∀ k (hk : k < rs.length), ∃ h : k < Q.length, Q[k] = noI rs[k]) := Lib.hid (fun k hk => ⟨by omega, by subst hQ; simp⟩)
  have hSl := spots_len l
  obtain ⟨S, hS⟩ : ∃ S, spotsL l = S := ⟨_, rfl⟩
  obtain ⟨K, hK⟩ : ∃ K, seatedM l Q = K := ⟨_, rfl⟩
  obtain ⟨K2, hK2⟩ : ∃ K, keptM l Q = K := ⟨_, rfl⟩
  rw [hS] at HSP HTN hSl
  rw [hK] at HTN HMO
  rw [hK2] at HMO
  have HSL := Lib.hid hSl
  clear hr hf hLib hr1 hf1 hQ hQl hS hK hK2 hSl
  go_enter Tryd.func3, Tryd.ntmps3
  go_wp2_with fail
  refine (HLV.out _ (Below.refl _ _)).mono ?_
  rintro e w1 ⟨rfl, hb1⟩
  have HB1 := Lib.hid hb1
  clear hb1
  go_wp2_with fail
  refine (HCK.out _ HB1.out).mono ?_
  rintro e w2 ⟨rfl, hb2⟩
  have HB2 := Lib.hid (HB1.out.trans (hb2.mono HB1.out.size))
  clear hb2
  obtain ⟨E, hE⟩ : ∃ E, errC l = E := ⟨_, rfl⟩
  have HE := Lib.hid hE
  rw [hE]
  clear hE
  by_cases hE0 : E = 0
  · subst hE0
    by_cases hlt : 20 < n1
    · have hli : (20 : Int) < (n1 : Int) := by omega
      clear hlt
      go_wp2_with fail
      refine (HLV.out _ HB2.out).mono ?_
      rintro e w3 ⟨rfl, hb3⟩
      have HB3 := Lib.hid (HB2.out.trans (hb3.mono HB2.out.size))
      clear hb3
      go_wp2
      go_ret
      exact ⟨rfl, HB3.out⟩
    · have hli : ¬ (20 : Int) < (n1 : Int) := by omega
      have H20 : Hid (n1 ≤ 20) := Lib.hid (by omega)
      clear hlt
      go_wp2_with fail
      refine (HSP.out _ HB2.out).mono ?_
      rintro e w3 ⟨v3, rfl, ho3, hb3⟩
      obtain ⟨A3, c3, rfl⟩ := own_shape ho3
      have HO3 := Lib.hid ho3
      have HB3 := Lib.hid hb3
      obtain ⟨m, hm⟩ : ∃ m, S.length = m := ⟨_, rfl⟩
      rw [hm] at HO3 ⊢
      have HM := Lib.hid hm
      have hm66 : m ≤ 66 := by have := HSL.out; omega
      clear ho3 hb3 hm
      go_wp2
      go_loopw [34, 6, 7] (fun iv eu lu wx => ∃ (k : Nat) (ev lv : Value), iv = .int .i64 (k : Int) ∧ ev = eu ∧ lv = lu ∧ k ≤ n1 ∧ Hid (TpSt w2 wx ev lv A3 m c3 S (edT S Q k) (Q.take k))) (fun iv _ _ _ => n1 - (intOf iv).toNat)
      case atStart => exact ⟨0, _, _, rfl, rfl, rfl, Nat.zero_le _, Lib.hid ⟨World.ownsRow_nil _ _ _ _, World.ownsRow_nil _ _ _ _, HO3.out, HB3.out⟩⟩
      case round =>
        obtain ⟨k, ev, lv, rfl, rfl, rfl, hk, hst⟩ := hrel
        by_cases hkl : k < n1
        · have hkr : k < rs.length := by rw [HL1.out]; exact hkl
          have hbx := HB2.out.trans (hst.out.bel.mono HB2.out.size)
          obtain ⟨gb, off, e, hgb, hsl, hcc⟩ := (HR1.out.below hbx).elem sitC_len (by decide) hkl
          subst e
          obtain ⟨hkQ, hqk⟩ := HQA.out k hkr
          have htk := List.take_succ_eq_append_getElem hkQ
          have hed := edT_succ (S := S) (rs := Q) (i := k) hkQ
          rw [hqk] at htk hed
          obtain ⟨x, hx⟩ : ∃ x, rs[k] = x := ⟨_, rfl⟩
          rw [hx] at hcc htk hed
          obtain ⟨⟨xc, xf, xi⟩, ⟨xn, xl⟩⟩ := x
          have c0 := hcc 0 (.int .i64 xc) rfl
          have c1' := hcc 1 (.bool xf) rfl
          have c2' := hcc 2 (.bool xi) rfl
          have c3' := hcc 3 (.int .i64 xn) rfl
          have c4 := hcc 4 (.int .u8 (xl.toNat : Int)) rfl
          rw [Nat.add_zero] at c0
          obtain ⟨q, hq⟩ : ∃ q, Q.take k = q := ⟨_, rfl⟩
          rw [hq] at hst htk
          have hql : q.length = k := by rw [← hq, List.length_take]; omega
          obtain ⟨E0, hE0⟩ : ∃ E0, edT S Q k = E0 := ⟨_, rfl⟩
          have hE0l : E0.length ≤ k * S.length := by rw [← hE0]; exact edT_len S Q k
          rw [hE0] at hst hed
          obtain ⟨X, hX⟩ : ∃ X, wr.heap.size = X := ⟨_, rfl⟩
          obtain ⟨V, hV⟩ : ∃ V, wr.alloc (.cells #[.int .i64 xc, .bool xf, .bool xi, .int .i64 xn, .int .u8 (xl.toNat : Int)] 35) = V := ⟨_, rfl⟩
          have hbV : Below wr.heap.size wr V := by rw [← hV]; exact (Below.refl _ _).alloc (Nat.le_refl _) _
          have xV : V.heap[X]? = some (.cells #[.int .i64 xc, .bool xf, .bool xi, .int .i64 xn, .int .u8 (xl.toNat : Int)] 35 (0, 0)) := by rw [← hV, ← hX]; exact heap_alloc_new wr _
          obtain ⟨U, hU⟩ : ∃ U, V.setCell ⟨X, 2, none⟩ (.bool false) = U := ⟨_, rfl⟩
          have xU : U.heap[X]? = some (.cells #[.int .i64 xc, .bool xf, .bool false, .int .i64 xn, .int .u8 (xl.toNat : Int)] 35 (0, 0)) := by rw [← hU, heap_setCell_same V X 2 _ _ (.bool false) xV]; rfl
          have hbU : Below wr.heap.size wr U := by
            have hu : Upd (fun b => b = X) V U := by rw [← hU]; exact (Upd.refl (fun b => b = X) V).setCell ⟨X, 2, none⟩ rfl _
            exact hbV.trans (hu.below (fun b hb e => by omega) hbV.size)
          have hsU := hst.out.below hbU
          have hrX : ∀ b, lv.ownBlock = some b → b ≠ X := fun b e => by have := (hst.out.rd.lt b e).2; omega
          have HRX := Lib.hid hrX
          have HSU := Lib.hid hsU
          have HXU := Lib.hid xU
          have HTK := Lib.hid htk
          have HED := Lib.hid hed
          have HQ1 := Lib.hid hql
          have HE1 := Lib.hid hE0l
          have f0 : V.cell? ⟨X, 0, none⟩ = some (.int .i64 xc) := by rw [cell_of_row _ _ 0 _ _ _ xV]; rfl
          have f1 : V.cell? ⟨X, 1, none⟩ = some (.bool xf) := by rw [cell_of_row _ _ 1 _ _ _ xV]; rfl
          have f2 : V.cell? ⟨X, 2, none⟩ = some (.bool xi) := by rw [cell_of_row _ _ 2 _ _ _ xV]; rfl
          have f3 : V.cell? ⟨X, 3, none⟩ = some (.int .i64 xn) := by rw [cell_of_row _ _ 3 _ _ _ xV]; rfl
          have f4 : V.cell? ⟨X, 4, none⟩ = some (.int .u8 (xl.toNat : Int)) := by rw [cell_of_row _ _ 4 _ _ _ xV]; rfl
          have fz : V.frozen? ⟨X, 2, none⟩ = false := frozen_of_row _ _ 2 _ _ xV
          have g0 : U.cell? ⟨X, 0, none⟩ = some (.int .i64 xc) := by rw [cell_of_row _ _ 0 _ _ _ xU]; rfl
          have g1 : U.cell? ⟨X, 1, none⟩ = some (.bool xf) := by rw [cell_of_row _ _ 1 _ _ _ xU]; rfl
          have g2 : U.cell? ⟨X, 2, none⟩ = some (.bool false) := by rw [cell_of_row _ _ 2 _ _ _ xU]; rfl
          have g3 : U.cell? ⟨X, 3, none⟩ = some (.int .i64 xn) := by rw [cell_of_row _ _ 3 _ _ _ xU]; rfl
          have g4 : U.cell? ⟨X, 4, none⟩ = some (.int .u8 (xl.toNat : Int)) := by rw [cell_of_row _ _ 4 _ _ _ xU]; rfl
          have hii : (k : Int) < (n1 : Int) := by omega
          have hi0' : (0 : Int) ≤ (k : Int) := by omega
          clear hcc hx htk hed hbV xV hq hE0 hE0l hsU hst hbx hql hsl hqk hbU xU hrX
          go_upto_region 10 with (fail)
          clear hV hU c0 c1' c2' c3' c4 f0 f1 f2 f3 f4 fz
          go_wp2_with (at_builtin; refine wpList_push rfl (.tmp 41) (.tmp 43) 23 rfl w2.heap.size 35 i0 _ 5 32 Tryd.underlying23 hi0 hz0 hz1 hz2 rfl (by omega) _ q.length (catv sitC q) #[.int .i64 xc, .bool xf, .bool false, .int .i64 xn, .int .u8 (xl.toNat : Int)] rfl (by exact HSU.out.rd) (by simp [Act.eval]) rfl (by simp [Value.oneCell']) ?k1 ?k2 ?k3 ?_)
          case k1 => have := HQ1.out; have := H20.out; omega
          case k2 => have := HQ1.out; have := H20.out; unfold maxLen; omega
          case k3 => exact HSU.out.bel.size
          intro v6 w6 ho6 hu6 hat6
          have x6 := box_keep HXU.out hu6 (fun e => HRX.out X e rfl)
          have HS6 : Hid (TpSt w2 w6 ev v6 A3 m c3 S (E0 ++ edR S ⟨xc, xf, false⟩ k 0) (Q.take (k + 1))) := Lib.hid (by
            have hlen : (Q.take (k + 1)).length = q.length + 1 := by rw [HTK.out]; simp
            refine ⟨?_, ?_, own_upd HSU.out.sp hu6 (own_ne HSU.out.sp HSU.out.rd (by decide)), HSU.out.bel.trans (hu6.below (fun b hb e => by have := (HSU.out.rd.lt b e).1; omega) HSU.out.bel.size)⟩
            · rw [edR_zero, List.append_nil]
              exact own_upd HSU.out.ed hu6 (own_ne HSU.out.ed HSU.out.rd (by decide))
            · rw [hlen, HTK.out, catv_append, catv_one]; exact ho6)
          have HX6 := Lib.hid x6
          clear ho6 hu6 hat6 x6 HSU HXU HRX g0 g1 g2 g3 g4
          go_wp2
          go_loopw [47, 6] (fun iv eu wx => ∃ (j : Nat) (ew : Value), iv = .int .i64 (j : Int) ∧ ew = eu ∧ j ≤ m ∧ Hid (TpSt w2 wx ew v6 A3 m c3 S (E0 ++ edR S ⟨xc, xf, false⟩ k j) (Q.take (k + 1))) ∧ Hid (wx.heap[X]? = some (.cells #[.int .i64 xc, .bool xf, .bool false, .int .i64 xn, .int .u8 (xl.toNat : Int)] 35 (0, 0)))) (fun iv _ _ => m - (intOf iv).toNat)
          case atStart => exact ⟨0, _, rfl, rfl, Nat.zero_le _, HS6, HX6⟩
          case round =>
            clear HS6 HX6
            obtain ⟨j, ew, rfl, rfl, hj, hs, hx⟩ := hrel
            by_cases hjm : j < m
            · obtain ⟨gs, os, e, hgs, hsl, hcc⟩ := (Rd.own hs.out.sp).elem spotC_len (by decide) hjm
              subst e
              have hfj := fitsJ_at hsl ⟨xc, xf, false⟩
              have her := edR_succ S ⟨xc, xf, false⟩ k j
              rw [hfj] at her
              obtain ⟨s, hss⟩ : ∃ s, S[j] = s := ⟨_, rfl⟩
              rw [hss] at hcc her
              obtain ⟨⟨sn, sl⟩, sc, sz, sb, se, sk⟩ := s
              have d0 := hcc 0 (.int .i64 sn) rfl
              have d1 := hcc 1 (.int .u8 (sl.toNat : Int)) rfl
              have d2 := hcc 2 (.int .i64 sc) rfl
              have d3 := hcc 3 (.int .i64 sz) rfl
              have d4 := hcc 4 (.int .i64 sb) rfl
              have d5 := hcc 5 (.bool se) rfl
              have d6 := hcc 6 (.bool sk) rfl
              rw [Nat.add_zero] at d0
              obtain ⟨Y, hY⟩ : ∃ Y, wr.heap.size = Y := ⟨_, rfl⟩
              obtain ⟨Z, hZ⟩ : ∃ Z, wr.alloc (.cells #[.int .i64 sn, .int .u8 (sl.toNat : Int), .int .i64 sc, .int .i64 sz, .int .i64 sb, .bool se, .bool sk] 37) = Z := ⟨_, rfl⟩
              have hbZ : Below wr.heap.size wr Z := by rw [← hZ]; exact (Below.refl _ _).alloc (Nat.le_refl _) _
              have yZ : Z.heap[Y]? = some (.cells #[.int .i64 sn, .int .u8 (sl.toNat : Int), .int .i64 sc, .int .i64 sz, .int .i64 sb, .bool se, .bool sk] 37 (0, 0)) := by rw [← hZ, ← hY]; exact heap_alloc_new wr _
              have xZ := box_keep hx.out (Upd.of_below (S := fun _ => False) hbZ) id
              obtain ⟨M, hMM⟩ : ∃ M, oneE ⟨xc, xf, false⟩ ⟨⟨sn, sl⟩, sc, sz, sb, se, sk⟩ = M := ⟨_, rfl⟩
              rw [hMM] at her
              have HON : Hid (Calls Tryd.prog 17 #[.agg #[.int .i64 xc, .bool xf, .bool false], .agg #[.int .i64 sn, .int .u8 (sl.toNat : Int), .int .i64 sc, .int .i64 sz, .int .i64 sb, .bool se, .bool sk]] Z fun e w' => e = .returned (.int .i64 M) ∧ Below Z.heap.size Z w') := Lib.hid (by
                have := rone_any Z ⟨xc, xf, false⟩ ⟨⟨sn, sl⟩, sc, sz, sb, se, sk⟩
                rw [hMM] at this
                exact this)
              have HER := Lib.hid her
              have HSZ := Lib.hid (hs.out.below hbZ)
              have HXZ := Lib.hid xZ
              have e0 : Z.cell? ⟨Y, 0, none⟩ = some (.int .i64 sn) := by rw [cell_of_row _ _ 0 _ _ _ yZ]; rfl
              have e1 : Z.cell? ⟨Y, 1, none⟩ = some (.int .u8 (sl.toNat : Int)) := by rw [cell_of_row _ _ 1 _ _ _ yZ]; rfl
              have e2 : Z.cell? ⟨Y, 2, none⟩ = some (.int .i64 sc) := by rw [cell_of_row _ _ 2 _ _ _ yZ]; rfl
              have e3 : Z.cell? ⟨Y, 3, none⟩ = some (.int .i64 sz) := by rw [cell_of_row _ _ 3 _ _ _ yZ]; rfl
              have e4 : Z.cell? ⟨Y, 4, none⟩ = some (.int .i64 sb) := by rw [cell_of_row _ _ 4 _ _ _ yZ]; rfl
              have e5 : Z.cell? ⟨Y, 5, none⟩ = some (.bool se) := by rw [cell_of_row _ _ 5 _ _ _ yZ]; rfl
              have e6 : Z.cell? ⟨Y, 6, none⟩ = some (.bool sk) := by rw [cell_of_row _ _ 6 _ _ _ yZ]; rfl
              have g0 : Z.cell? ⟨X, 0, none⟩ = some (.int .i64 xc) := by rw [cell_of_row _ _ 0 _ _ _ xZ]; rfl
              have g1 : Z.cell? ⟨X, 1, none⟩ = some (.bool xf) := by rw [cell_of_row _ _ 1 _ _ _ xZ]; rfl
              have g2 : Z.cell? ⟨X, 2, none⟩ = some (.bool false) := by rw [cell_of_row _ _ 2 _ _ _ xZ]; rfl
              have hji : (j : Int) < (m : Int) := by omega
              have hj0 : (0 : Int) ≤ (j : Int) := by omega
              have HLL : Hid ((E0 ++ edR S ⟨xc, xf, false⟩ k j).length ≤ 2000) := Lib.hid (by
                have h1 := HE1.out
                have h2 : k * S.length ≤ 20 * 66 := Nat.mul_le_mul (by omega) HSL.out
                have h3 := edR_len S ⟨xc, xf, false⟩ k j
                rw [List.length_append]
                omega)
              clear hcc hss hbZ yZ xZ hMM her hs hx hfj hgs hsl
              go_wp2_with fail
              refine HON.out.mono ?_
              rintro e w7 ⟨rfl, hb7⟩
              have HS7 := Lib.hid (HSZ.out.below hb7)
              have HX7 := Lib.hid (box_keep HXZ.out (Upd.of_below (S := fun _ => False) hb7) id)
              clear hZ hb7 HON HSZ HXZ d0 d1 d2 d3 d4 d5 d6 e0 e1 e2 e3 e4 e5 e6 g0 g1 g2
              by_cases hM0 : M = 0
              · subst hM0
                have her := HER.out
                rw [decide_eq_true rfl, if_pos rfl] at her
                have HER2 := Lib.hid her
                clear her
                go_wp2_with (at_builtin; refine wpList_push rfl (.tmp 57) (.tmp 61) 29 rfl w2.heap.size 40 i1 _ 2 16 Tryd.underlying29 hi1 hy0 hy1 hy2 rfl (by omega) _ _ (edgv (E0 ++ edR S ⟨xc, xf, false⟩ k j)) #[.int .i64 (k : Int), .int .i64 (j : Int)] rfl (by exact HS7.out.ed) (by simp [Act.eval]) rfl (by simp [Value.oneCell']) ?m1 ?m2 ?m3 ?_)
                case m1 => have := HLL.out; simp only [List.length_append] at this ⊢; omega
                case m2 => have := HLL.out; unfold maxLen; simp only [List.length_append] at this ⊢; omega
                case m3 => exact HS7.out.bel.size
                intro v8 w8 ho8 hu8 _
                have HS8 : Hid (TpSt w2 w8 v8 v6 (some ⟨gs, os, none⟩) m c3 S (E0 ++ edR S ⟨xc, xf, false⟩ k (j + 1)) (Q.take (k + 1))) := Lib.hid (by
                  refine ⟨?_, own_upd HS7.out.rd hu8 (own_ne HS7.out.rd HS7.out.ed (by decide)), own_upd HS7.out.sp hu8 (own_ne HS7.out.sp HS7.out.ed (by decide)), HS7.out.bel.trans (hu8.below (fun b hb e => by have := (HS7.out.ed.lt b e).1; omega) HS7.out.bel.size)⟩
                  rw [HER2.out, ← List.append_assoc, edgv_append, edgv_one]
                  simp only [List.length_append, List.length_singleton]
                  exact ho8)
                have HX8 := Lib.hid (box_keep HX7.out hu8 (own_nbox HX7.out HS7.out.ed (by decide)))
                clear ho8 hu8 HS7 HX7 HER HER2
                go_wp2
                go_roundw
                case rel => exact ⟨j + 1, _, by go_num, rfl, hjm, HS8, HX8⟩
                case measure => (simp [intOf]; try omega)
              · have her := HER.out
                rw [decide_eq_false hM0, if_neg (by decide), List.append_nil] at her
                have HS8 : Hid (TpSt w2 w7 ew v6 (some ⟨gs, os, none⟩) m c3 S (E0 ++ edR S ⟨xc, xf, false⟩ k (j + 1)) (Q.take (k + 1))) := Lib.hid (by rw [her]; exact HS7.out)
                clear her HER HS7
                go_wp2
                go_roundw
                case rel => exact ⟨j + 1, _, by go_num, rfl, hjm, HS8, HX7⟩
                case measure => (simp [intOf]; try omega)
            · obtain rfl : j = m := by omega
              have hji : ¬ (j : Int) < (j : Int) := by omega
              have HS9 : Hid (TpSt w2 wr ew v6 A3 j c3 S (edT S Q (k + 1)) (Q.take (k + 1))) := Lib.hid (by
                rw [HED.out, HM.out]; exact hs.out)
              clear hs hx hjm
              go_wp2
              go_roundw
              case rel => exact ⟨k + 1, _, _, by go_num, rfl, rfl, hkl, HS9⟩
              case measure => (simp [intOf]; try omega)
        · obtain rfl : k = n1 := by omega
          have hii : ¬ (k : Int) < (k : Int) := by omega
          have hQk : Q.take k = Q := List.take_of_length_le (by have := HQL.out; omega)
          have hst := hst.out
          rw [hQk] at hst
          have hrd : wr.ownsRow w2.heap.size 35 5 lv k (catv sitC Q) := by have := hst.rd; rw [HQL.out] at this; exact this
          obtain ⟨L, hL⟩ : ∃ L, (edT S Q k).length = L := ⟨_, rfl⟩
          have hed := hst.ed
          rw [hL] at hed
          obtain ⟨Ar, cr, rfl⟩ := own_shape hrd
          obtain ⟨Ae, ce, rfl⟩ := own_shape hed
          have hbx := HB2.out.trans (hst.bel.mono HB2.out.size)
          have HMS := Lib.hid (HMO.out wr hbx Ar k cr (Rd.own hrd) HE.out (by have := HQL.out; have := H20.out; omega))
          have HED := Lib.hid hed
          have HBX := Lib.hid hbx
          have HGG : Hid (GoodG (k : Int) (m : Int) (edT S Q k)) := Lib.hid (by
            have h20 := H20.out
            have hm := HM.out
            have h66 := HSL.out
            refine ⟨by omega, by omega, ?_, ?_⟩
            · have h1 := edT_len S Q k
              have h2 : k * S.length ≤ 20 * 66 := Nat.mul_le_mul h20 h66
              omega
            · have := edT_in (S := S) (rs := Q)
              rw [HQL.out, hm] at this
              exact this)
          have HTK : Hid (∀ nu, NuIs (natE (edT S Q k)) nu → (nu : Int) = K) := Lib.hid (by
            have := HTN.out (by have := HQL.out; have := H20.out; omega)
            rw [HQL.out] at this
            exact this)
          clear hst hrd hed hbx hL hQk
          go_wp2_with fail
          refine HMS.out.mono ?_
          rintro e w4 ⟨rfl, hb4⟩
          have HB4 := Lib.hid (HBX.out.trans (hb4.mono HBX.out.size))
          have HSZ := Lib.hid (size_ok w4 (k : Int) (m : Int) Ae L ce (edT S Q k) (Rd.own (own_below HED.out hb4)) HGG.out K HTK.out)
          clear hb4 HMS
          go_wp2_with fail
          refine HSZ.out.mono ?_
          rintro e w5 ⟨rfl, hb5⟩
          have HB5 := Lib.hid (HB4.out.trans (hb5.mono HB4.out.size))
          clear hb5 HSZ
          go_wp2
          go_ret
          exact ⟨rfl, HB5.out⟩
  · have hne : ¬ E = 0 := hE0
    go_wp2_with fail
    refine (HLV.out _ HB2.out).mono ?_
    rintro e w3 ⟨rfl, hb3⟩
    have HB3 := Lib.hid (HB2.out.trans (hb3.mono HB2.out.size))
    clear hb3
    go_wp2
    go_ret
    exact ⟨rfl, HB3.out⟩
end Go.Proofs.YtegpanfcjfcaeaaDoor
