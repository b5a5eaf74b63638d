/- ReseatStays' walk. -/
import Derived.Test.YtppjpledjhinbaaDoorJRsStaP
import Derived.Test.YtppjpledjhinbaaDoorJRsMore
import Derived.Test.YtppjpledjhinbaaDoorJFtRAl
namespace Go.Proofs.YtppjpledjhinbaaDoor
open Go.RowKit Go.Lib
/-- Seat, where the map is right and the riders aren't too many. -/
theorem seat_ok (w : World) (mm : Int) (A : Option Addr) (n c : Nat) (l : List MRow) (hr : Rd w w.heap.size 5 A n (catv rowC l)) (hf : ∀ r ∈ l, r.fits) (hLib : LibAt w mm) (A2 : Option Addr) (n2 c2 : Nat) (rs : List MSit) (hr2 : Rd w w.heap.size 5 A2 n2 (catv sitC rs)) (hf2 : ∀ x ∈ rs, x.seat.fits) (hE : errC l = 0) (h20 : rs.length ≤ 20) :
    Calls Tryd.prog 16 #[.slice A n c, .slice A2 n2 c2] w fun e w' => ∃ v, e = .returned (.tuple #[v, .int .i64 0]) ∧ w'.ownsRow w.heap.size 26 2 v rs.length (catv seatC (seatPl l rs)) ∧ Below w.heap.size w w' := by
  have hl := rd_catlen sitC_len (by decide) hr2
  refine (seat_any w mm A n c l hr hf hLib A2 n2 c2 rs hr2 hf2 (by omega)).mono ?_
  rintro e w' ⟨hb, hcase⟩
  rw [if_neg (fun h => h hE), if_neg (by omega)] at hcase
  obtain ⟨v, rfl, ho⟩ := hcase
  exact ⟨v, rfl, ho, hb⟩
/-- While riders and old seats are gathered. -/
structure StSt (w2 wx : World) (rv ov : Value) (q : List MSit) : Prop where
  rd : wx.ownsRow w2.heap.size 30 5 rv q.length (catv sitC q)
  ol : wx.ownsRow w2.heap.size 26 2 ov q.length (catv seatC (q.map (·.seat)))
  bel : Below w2.heap.size w2 wx
theorem StSt.below {w2 wx wy : World} {rv ov : Value} {q : List MSit} (h : StSt w2 wx rv ov q) (hb : Below wx.heap.size wx wy) : StSt w2 wy rv ov q :=
  ⟨own_below h.rd hb, own_below h.ol hb, h.bel.trans (hb.mono h.bel.size)⟩
theorem rdr_infoS : (Tryd.prog.info? 30).map (fun i => (i.zero, i.size, i.bytes)) = some (some (.agg #[.int .i64 0, .bool false, .bool false, .int .i64 0, .int .u8 0]), 5, 32) := by kernel_rfl
set_option maxHeartbeats 4000000 in
set_option maxRecDepth 20000 in
theorem rstays_any (w : World) (mm : Int) (A : Option Addr) (n c : Nat) (l : List MRow) (hr : Rd w w.heap.size 5 A n (catv rowC l)) (hf : ∀ r ∈ l, r.fits) (hLib : LibAt w mm) (A1 : Option Addr) (n1 c1 : Nat) (rs : List MSit) (hr1 : Rd w w.heap.size 5 A1 n1 (catv sitC rs)) (hf1 : ∀ x ∈ rs, x.seat.fits) (hn1 : n1 ≤ 1048576) :
    Calls Tryd.prog 6 #[.slice A n c, .slice A1 n1 c1] w fun e w' => e = .returned (.bool true) ∧ Below w.heap.size w w' := by
  obtain ⟨i0, hi0, hz0, hz1, hz2⟩ := info_parts rdr_infoS
  obtain ⟨i1, hi1, hy0, hy1, hy2⟩ := info_parts seat_info
  have hl1 := rd_catlen sitC_len (by decide) hr1
  have HL1 := Lib.hid hl1.symm
  have HLV := Lib.hid (rlives_any w mm hLib)
  have HAL := Lib.hid (fun (W : World) (hW : Below w.heap.size w W) => rall_any W A n c l A1 n1 c1 rs ((hr.below hW).mono hW.size) hf ((hr1.below hW).mono hW.size) (by omega))
  have HSE := Lib.hid (fun (W : World) (hW : Below w.heap.size w W) (A2 : Option Addr) (n2 c2 : Nat) (hr2 : Rd W W.heap.size 5 A2 n2 (catv sitC rs)) (hE : errC l = 0) (h20 : rs.length ≤ 20) => seat_ok W mm A n c l ((hr.below hW).mono hW.size) hf (hLib.below hW) A2 n2 c2 rs hr2 hf1 hE h20)
  have HMO := Lib.hid (fun (W : World) (hW : Below w.heap.size w W) (A2 : Option Addr) (n2 c2 : Nat) (hr2 : Rd W W.heap.size 5 A2 n2 (catv sitC rs)) (hE : errC l = 0) (h20 : rs.length ≤ 20) => most_ok W mm A n c l ((hr.below hW).mono hW.size) hf (hLib.below hW) A2 n2 c2 rs hr2 hf1 hE h20)
  have HR1 := Lib.hid hr1
  clear hr hf hLib hr1 hf1 hl1
  go_enter Tryd.func6, Tryd.ntmps6
  go_wp2_with fail
  refine HLV.out.mono ?_
  rintro e w1 ⟨rfl, hb1⟩
  have HB1 := Lib.hid hb1
  clear hb1
  go_wp2_with fail
  refine (HAL.out _ HB1.out).mono ?_
  rintro e w2 ⟨rfl, hb2⟩
  have HB2 := Lib.hid (HB1.out.trans (hb2.mono HB1.out.size))
  clear hb2
  obtain ⟨E, hE⟩ : ∃ E, allE l rs = E := ⟨_, rfl⟩
  rw [hE]
  have HE := Lib.hid hE
  clear hE
  by_cases hE0 : E = 0
  · subst hE0
    by_cases hlt : 20 < n1
    · have hli : (20 : Int) < (n1 : Int) := by omega
      clear hlt
      go_wp2
      go_ret
      exact ⟨rfl, HB2.out⟩
    · have hli : ¬ (20 : Int) < (n1 : Int) := by omega
      have h20 : n1 ≤ 20 := by omega
      obtain ⟨hck, hwell⟩ := (allE_zero _ _).1 HE.out
      have HW := Lib.hid hwell
      have HEC : Hid (errC l = 0) := Lib.hid (by unfold errC; rw [if_pos hck])
      clear hlt hck hwell
      go_wp2
      go_loopw [27, 5, 6] (fun iv ru ou wx => ∃ (k : Nat) (rv ov : Value), iv = .int .i64 (k : Int) ∧ rv = ru ∧ ov = ou ∧ k ≤ n1 ∧ Hid (StSt w2 wx rv ov (rs.take k))) (fun iv _ _ _ => n1 - (intOf iv).toNat)
      case atStart => exact ⟨0, _, _, rfl, rfl, rfl, Nat.zero_le _, Lib.hid ⟨World.ownsRow_nil _ _ _ _, World.ownsRow_nil _ _ _ _, Below.refl _ _⟩⟩
      case round =>
        obtain ⟨k, rv, ov, rfl, rfl, rfl, hk, hst⟩ := hrel
        by_cases hkl : k < n1
        · have hkr : k < rs.length := by rw [HL1.out]; exact hkl
          have hbx := HB2.out.trans (hst.out.bel.mono HB2.out.size)
          obtain ⟨gb, off, e, hgb, hsl, hcc⟩ := (HR1.out.below hbx).elem sitC_len (by decide) hkl
          subst e
          have htk := List.take_succ_eq_append_getElem hkr
          obtain ⟨x, hx⟩ : ∃ x, rs[k] = x := ⟨_, rfl⟩
          rw [hx] at hcc htk
          obtain ⟨⟨xc, xf, xi⟩, ⟨xn, xl⟩⟩ := x
          have c0 := hcc 0 (.int .i64 xc) rfl
          have c1' := hcc 1 (.bool xf) rfl
          have c2' := hcc 2 (.bool xi) rfl
          have c3 := hcc 3 (.int .i64 xn) rfl
          have c4 := hcc 4 (.int .u8 (xl.toNat : Int)) rfl
          rw [Nat.add_zero] at c0
          obtain ⟨q, hq⟩ : ∃ q, rs.take k = q := ⟨_, rfl⟩
          rw [hq] at hst htk
          have hql : q.length = k := by rw [← hq, List.length_take]; omega
          obtain ⟨X, hX⟩ : ∃ X, wr.heap.size = X := ⟨_, rfl⟩
          obtain ⟨V, hV⟩ : ∃ V, wr.alloc (.cells #[.int .i64 xc, .bool xf, .bool xi, .int .i64 xn, .int .u8 (xl.toNat : Int)] 51) = V := ⟨_, rfl⟩
          have hbV : Below wr.heap.size wr V := by rw [← hV]; exact (Below.refl _ _).alloc (Nat.le_refl _) _
          have xV : V.heap[X]? = some (.cells #[.int .i64 xc, .bool xf, .bool xi, .int .i64 xn, .int .u8 (xl.toNat : Int)] 51 (0, 0)) := by rw [← hV, ← hX]; exact heap_alloc_new wr _
          have hsV := hst.out.below hbV
          have HSV := Lib.hid hsV
          have HXV := Lib.hid xV
          have HTK := Lib.hid htk
          have HQL := Lib.hid hql
          have f0 : V.cell? ⟨X, 0, none⟩ = some (.int .i64 xc) := by rw [cell_of_row _ _ 0 _ _ _ xV]; rfl
          have f1 : V.cell? ⟨X, 1, none⟩ = some (.bool xf) := by rw [cell_of_row _ _ 1 _ _ _ xV]; rfl
          have f2 : V.cell? ⟨X, 2, none⟩ = some (.bool xi) := by rw [cell_of_row _ _ 2 _ _ _ xV]; rfl
          have f3 : V.cell? ⟨X, 3, none⟩ = some (.int .i64 xn) := by rw [cell_of_row _ _ 3 _ _ _ xV]; rfl
          have f4 : V.cell? ⟨X, 4, none⟩ = some (.int .u8 (xl.toNat : Int)) := by rw [cell_of_row _ _ 4 _ _ _ xV]; rfl
          have hii : (k : Int) < (n1 : Int) := by omega
          have hi0' : (0 : Int) ≤ (k : Int) := by omega
          clear hcc hx htk hbV xV hq hsV hst hbx hql hsl
          go_upto_region 10 with (fail)
          clear hV c0 c1' c2' c3 c4
          go_wp2_with (at_builtin; refine wpList_push rfl (.tmp 31) (.tmp 37) 23 rfl w2.heap.size 30 i0 _ 5 32 Tryd.underlying23 hi0 hz0 hz1 hz2 rfl (by omega) _ q.length (catv sitC q) #[.int .i64 xc, .bool xf, .bool xi, .int .i64 xn, .int .u8 (xl.toNat : Int)] rfl (by exact HSV.out.rd) (by simp [Act.eval]) rfl (by simp [Value.oneCell']) ?k1 ?k2 ?k3 ?_)
          case k1 => have := HQL.out; omega
          case k2 => have := HQL.out; unfold maxLen; omega
          case k3 => exact HSV.out.bel.size
          intro v6 w6 ho6 hu6 hat6
          have hne : ∀ b cs t, V.heap[b]? = some (Obj.cells cs t (0, 0)) → t ≠ 30 → ¬ rv.ownBlock = some b := fun b cs t h1 h2 e => by
            obtain ⟨c5, h5⟩ := own_typed HSV.out.rd e
            rw [h1] at h5
            injection h5 with h5
            injection h5 with _ h5
            exact h2 h5
          have x6 := box_keep HXV.out hu6 (hne _ _ _ HXV.out (by decide))
          have g3 : w6.cell? ⟨X, 3, none⟩ = some (.int .i64 xn) := by rw [cell_of_row _ _ 3 _ _ _ x6]; rfl
          have g4 : w6.cell? ⟨X, 4, none⟩ = some (.int .u8 (xl.toNat : Int)) := by rw [cell_of_row _ _ 4 _ _ _ x6]; rfl
          have HO6 : Hid (w6.ownsRow w2.heap.size 26 2 ov q.length (catv seatC (q.map (·.seat)))) := Lib.hid (own_upd HSV.out.ol hu6 (fun b e e2 => by
            obtain ⟨cs, hcs⟩ := own_typed HSV.out.ol e
            exact hne b cs 26 hcs (by decide) e2))
          have HR6 : Hid (w6.ownsRow w2.heap.size 30 5 v6 (q.length + 1) (catv sitC (rs.take (k + 1)))) := Lib.hid (by rw [HTK.out, catv_append, catv_one]; exact ho6)
          have HB6 := Lib.hid (HSV.out.bel.trans (hu6.below (fun b hb e => by have := (HSV.out.rd.lt b e).1; omega) HSV.out.bel.size))
          clear x6 ho6 hu6 hat6 hne f0 f1 f2 f3 f4
          go_wp2_with (at_builtin; refine wpList_push rfl (.tmp 39) (.tmp 42) 35 rfl w2.heap.size 26 i1 _ 2 16 Tryd.underlying35 hi1 hy0 hy1 hy2 rfl (by omega) _ q.length (catv seatC (q.map (·.seat))) #[.int .i64 xn, .int .u8 (xl.toNat : Int)] rfl (by exact HO6.out) (by simp [Act.eval]) rfl (by simp [Value.oneCell']) ?m1 ?m2 ?m3 ?_)
          case m1 => have := HQL.out; omega
          case m2 => have := HQL.out; unfold maxLen; omega
          case m3 => exact HB6.out.size
          intro v7 w7 ho7 hu7 _
          have HS7 : Hid (StSt w2 w7 v6 v7 (rs.take (k + 1))) := Lib.hid (by
            have hlen : (rs.take (k + 1)).length = q.length + 1 := by rw [HTK.out]; simp
            have h1 := own_upd HR6.out hu7 (fun b e e2 => by
              obtain ⟨cs, hcs⟩ := own_typed HR6.out e
              obtain ⟨ds, hds⟩ := own_typed HO6.out e2
              rw [hcs] at hds
              injection hds with hds
              injection hds with _ hds
              exact absurd hds (by decide))
            refine ⟨by rw [hlen]; exact h1, by rw [hlen, HTK.out, List.map_append, catv_append]; exact ho7, HB6.out.trans (hu7.below (fun b hb e => by have := (HO6.out.lt b e).1; omega) HB6.out.size)⟩)
          clear ho7 hu7 HO6 HR6 HB6 HSV HXV
          go_wp2
          go_roundw
          case rel => exact ⟨k + 1, _, _, by go_num, rfl, rfl, hkl, HS7⟩
          case measure => (simp [intOf]; try omega)
        · obtain rfl : k = n1 := by omega
          have hii : ¬ (k : Int) < (k : Int) := by omega
          have hst := hst.out
          rw [← HL1.out, List.take_length] at hst
          obtain ⟨Ar, cr, rfl⟩ := own_shape hst.rd
          obtain ⟨Ao, co, rfl⟩ := own_shape hst.ol
          have hr20 : rs.length ≤ 20 := by rw [HL1.out]; exact h20
          have hbx := HB2.out.trans (hst.bel.mono HB2.out.size)
          have HS := Lib.hid (HSE.out wr hbx Ar rs.length cr (Rd.own hst.rd) HEC.out hr20)
          have HST := Lib.hid hst
          have HBX := Lib.hid hbx
          have HSP := Lib.hid (stay_seats HW.out)
          have HSM := Lib.hid (stay_most HW.out)
          obtain ⟨N, hN⟩ : ∃ N, rs.length = N := ⟨_, rfl⟩
          have HN := Lib.hid hN
          have HNk : Hid (N = k) := Lib.hid (hN.symm.trans HL1.out)
          rw [hN] at HS ⊢
          have hNk : (N : Int) = (k : Int) := by rw [HNk.out]
          clear hst hbx hN
          go_wp2_with fail
          refine HS.out.mono ?_
          rintro e w4 ⟨v4, rfl, ho4, hb4⟩
          obtain ⟨A4, c4, rfl⟩ := own_shape ho4
          rw [HSP.out] at ho4
          have hb04 := HBX.out.trans (hb4.mono HBX.out.size)
          have HS4 := Lib.hid (HST.out.below hb4)
          have hr4 := Rd.own HS4.out.rd
          rw [HN.out] at hr4
          have HM := Lib.hid (HMO.out w4 hb04 Ar N cr hr4 HEC.out hr20)
          rw [HSM.out.1, HSM.out.2, HN.out] at HM
          have HO4 := Lib.hid ho4
          have HB4 := Lib.hid hb04
          clear ho4 hb4 hb04 HS hr4 hr20
          go_wp2_with fail
          refine HM.out.mono ?_
          rintro e w5 ⟨rfl, hb5⟩
          have hs5 := HS4.out.below hb5
          have ho5 := hs5.ol
          rw [HN.out] at ho5
          have HSS := Lib.hid (same_seats w5 A4 Ao N c4 co (rs.map (·.seat)) (Rd.own (own_below HO4.out hb5)) (Rd.own ho5) (by omega))
          have HB5 := Lib.hid (HB4.out.trans (hb5.mono HB4.out.size))
          clear hb5 hs5 ho5 HM
          go_wp2_with fail
          refine HSS.out.mono ?_
          rintro e w6 ⟨rfl, hb6⟩
          have HB6 := Lib.hid (HB5.out.trans (hb6.mono HB5.out.size))
          clear hb6 HSS
          go_wp2
          go_ret
          exact ⟨rfl, HB6.out⟩
  · have hne : ¬ E = 0 := hE0
    go_wp2
    go_ret
    exact ⟨rfl, HB2.out⟩
end Go.Proofs.YtppjpledjhinbaaDoor
