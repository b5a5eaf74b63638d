/- The law FitAll, walked. -/
import Derived.Test.YtddiabpjmnmllaaDoorJFtRAl
namespace Go.Proofs.YtddiabpjmnmllaaDoor
open Go.RowKit Go.Lib
theorem own_nothing (w : World) (e : TypeId) (size : Nat) : (w.alloc (.cells #[] e)).ownsRow w.heap.size e size (.slice (some ⟨w.heap.size, 0, none⟩) 0 0) 0 [] :=
  ⟨by simp, .inr ⟨_, 0, #[], rfl, Nat.le_refl _, heap_alloc_new w _, Nat.le_refl _, Nat.zero_le _, by simp, by simp⟩⟩
theorem rd_snoc {w : World} {B size n : Nat} {A : Option Addr} {xs ys : List Value} (h : Rd w B size A (n + 1) (xs ++ ys)) (hx : xs.length = n * size) : Rd w B size A n xs := by
  have := h.take n (Nat.le_succ _)
  rwa [← hx, List.take_left] at this
theorem below_alloc1 (w : World) (o : Obj) : Below w.heap.size w (w.alloc o) := (Below.refl _ _).alloc (Nat.le_refl _) _
theorem sit_info : (Tryd.prog.info? 39).map (fun i => (i.zero, i.size, i.bytes)) = some (some (.agg #[.int .i64 0, .bool false, .bool false, .int .i64 0, .int .u8 0]), 5, 32) := by kernel_rfl
theorem row_info : (Tryd.prog.info? 41).map (fun i => (i.zero, i.size, i.bytes)) = some (some (.agg #[.int .i64 0, .int .i64 0, .int .i64 0, .bool false, .string ⟨#[]⟩]), 5, 48) := by kernel_rfl
theorem rowC_cell (r : MRow) : ∀ u ∈ rowC r, u.oneCell' = true := by
  intro u hu
  simp [rowC] at hu
  rcases hu with rfl | rfl | rfl | rfl | rfl <;> rfl
/-- The cell behind. -/
theorem rd_last {w : World} {B size n j : Nat} {g : Nat} {xs ys : List Value} {u : Value} (h : Rd w B size (some ⟨g, 0, none⟩) (n + 1) (xs ++ ys)) (hx : xs.length = n * size) (hy : ys[j]? = some u) : w.cell? ⟨g, n * size + j, none⟩ = some u := by
  obtain ⟨ad, e, _, hc⟩ := h.at_ (by omega)
  injection e with e
  subst e
  have := hc (n * size + j) u (by rw [List.getElem?_append_right (by omega), hx, Nat.add_sub_cancel_left]; exact hy)
  rwa [addr_flat, Nat.zero_add] at this
set_option maxHeartbeats 8000000 in
set_option maxRecDepth 20000 in
theorem fitAll_any (w : World) (m : Int) (A : Option Addr) (n c : Nat) (l : List MRow) (S : Option Addr) (k d : Nat) (q : List MSit) (hr : Rd w w.heap.size 5 A n (catv rowC l)) (hf : ∀ r ∈ l, r.fits) (hs : Rd w w.heap.size 5 S k (catv sitC q)) (hq : ∀ x ∈ q, x.seat.fits) (hn : n ≤ 1048576) (hk : k ≤ 1048576) (hLib : LibAt w m) :
    Calls Tryd.prog 5 #[.slice A n c, .slice S k d] w fun e w' => e = .returned (.bool true) ∧ Below w.heap.size w w' := by
  obtain ⟨i0, hi0, hz0, hz1, hz2⟩ := info_parts sit_info
  obtain ⟨i1, hi1, hy0, hy1, hy2⟩ := info_parts row_info
  have HKL := Lib.hid (rd_catlen sitC_len (by decide) hs)
  have HNL := Lib.hid (rd_catlen rowC_len (by decide) hr)
  have HR := Lib.hid hr
  have HF := Lib.hid hf
  have HS := Lib.hid hs
  have HQ := Lib.hid hq
  have HLib := Lib.hid hLib
  have HLV := Lib.hid (lives_any w m hLib)
  clear hr hf hs hq hLib
  go_enter Tryd.func5, Tryd.ntmps5
  go_wp2_with fail
  refine HLV.out.mono ?_
  rintro e w3 ⟨rfl, hb3⟩
  have HB3 := Lib.hid hb3
  clear hb3 HLV
  have t4 := own_nothing w3 39 5
  have t5 := (HS.out.below HB3.out).below ((below_alloc1 w3 (.cells #[] 39)).mono HB3.out.size)
  have t6 := catv_cell sitC_cell q
  go_wp2_with (at_builtin; refine wpList_app rfl (.tmp 10) (.tmp 11) 25 rfl w3.heap.size 39 i0 _ 5 32 Tryd.underlying25 hi0 hz0 hz1 hz2 rfl (by omega) _ 0 [] w.heap.size S k d (catv sitC q) rfl t4 rfl t5 t6 ?e1 ?e2 ?e3 ?_)
  case e1 => omega
  case e2 => unfold maxLen; omega
  case e3 => simp
  intro v4 w4 ho4 hu4 _
  clear t4 t5 t6
  have hb4 : Below w3.heap.size w3 w4 := (below_alloc1 w3 (.cells #[] 39)).trans (hu4.below (fun k hk e => by simp [Value.ownBlock] at e; omega) (by simp))
  have HO4 := Lib.hid ho4
  have HB4 := Lib.hid hb4
  have hB4 : w3.heap.size ≤ w4.heap.size := hb4.size
  clear ho4 hu4 hb4
  go_wp2_with (at_builtin; refine wpList_append_new rfl (.tmp 12) (.tmp 15) 25 rfl w3.heap.size 39 i0 _ 5 32 Tryd.underlying25 hi0 hz0 hz1 hz2 rfl (by omega) _ k (catv sitC q) #[.int .i64 0, .bool false, .bool false, .int .i64 (-7), .int .u8 0] rfl (by exact HO4.out) rfl rfl (by simp [Value.oneCell']) ?f1 ?f2 ?f3 ?_)
  case f1 => omega
  case f2 => unfold maxLen; omega
  all_goals try (exact hB4)
  intro v5 w5 ho5 hg5
  obtain ⟨go, co, rfl, hob, hol, hoc, hom⟩ := own_form ho5 (by omega)
  have hb5 : Below w3.heap.size w3 w5 := HB4.out.trans ((Upd.of_grown hg5).below (fun k hk e => by have := (HO4.out.lt k e).1; omega) hB4)
  have HB5 := Lib.hid (HB3.out.trans (hb5.mono HB3.out.size))
  have hell : (catv sitC q).length = k * 5 := by rw [catv_length sitC_len, ← HKL.out]
  have HRO := Lib.hid (Rd.own ho5)
  have hsz5 := HB5.out.size
  have hgo5 : w.heap.size ≤ go := Nat.le_trans HB3.out.size hob
  clear ho5 hg5 hb5 HO4 HB4 hB4
  have t4 := own_nothing w5 41 5
  have t5 := (HR.out.below HB5.out).below ((below_alloc1 w5 (.cells #[] 41)).mono HB5.out.size)
  have t6 := catv_cell rowC_cell l
  go_wp2_with (at_builtin; refine wpList_app rfl (.tmp 17) (.tmp 18) 22 rfl w5.heap.size 41 i1 _ 5 48 Tryd.underlying22 hi1 hy0 hy1 hy2 rfl (by omega) _ 0 [] w.heap.size A n c (catv rowC l) rfl t4 rfl t5 t6 ?e1 ?e2 ?e3 ?_)
  case e1 => omega
  case e2 => unfold maxLen; omega
  case e3 => simp
  intro v6 w6 ho6 hu6 _
  clear t4 t5 t6
  have hb6 : Below w5.heap.size w5 w6 := (below_alloc1 w5 (.cells #[] 41)).trans (hu6.below (fun k hk e => by simp [Value.ownBlock] at e; omega) (by simp))
  have HO6 := Lib.hid ho6
  have HB6 := Lib.hid hb6
  have hB6 : w5.heap.size ≤ w6.heap.size := hb6.size
  clear ho6 hu6 hb6
  go_wp2_with (at_builtin; refine wpList_append_new rfl (.tmp 19) (.tmp 21) 22 rfl w5.heap.size 41 i1 _ 5 48 Tryd.underlying22 hi1 hy0 hy1 hy2 rfl (by omega) _ n (catv rowC l) #[.int .i64 (-8), .int .i64 0, .int .i64 0, .bool false, .string ⟨#[]⟩] rfl (by exact HO6.out) rfl rfl (by simp [Value.oneCell']) ?g1 ?g2 ?g3 ?_)
  case g1 => omega
  case g2 => unfold maxLen; omega
  all_goals try (exact hB6)
  intro v7 w7 ho7 hg7
  obtain ⟨gr, cr, rfl, hrb, hrl, hrc, hrm⟩ := own_form ho7 (by omega)
  have hb7 : Below w5.heap.size w5 w7 := HB6.out.trans ((Upd.of_grown hg7).below (fun k hk e => by have := (HO6.out.lt k e).1; omega) hB6)
  have HB7 := Lib.hid (HB5.out.trans (hb7.mono HB5.out.size))
  have hell2 : (catv rowC l).length = n * 5 := by rw [catv_length rowC_len, ← HNL.out]
  have HRR := Lib.hid (Rd.own ho7)
  have HRS : Hid (Rd w7 w7.heap.size 5 (some ⟨go, 0, none⟩) (k + 1) (catv sitC q ++ [.int .i64 0, .bool false, .bool false, .int .i64 (-7), .int .u8 0])) := Lib.hid ((HRO.out.below hb7).mono hb7.size)
  have HQ1 := Lib.hid (rd_snoc HRS.out hell)
  have HR1 := Lib.hid (rd_snoc HRR.out hell2)
  have HS7 := Lib.hid ((HS.out.below HB7.out).mono HB7.out.size)
  have HR7 := Lib.hid ((HR.out.below HB7.out).mono HB7.out.size)
  have HL7 := Lib.hid (HLib.out.below HB7.out)
  have x1 := rd_last (j := 3) HRS.out hell rfl
  have x2 := rd_last (j := 0) HRR.out hell2 rfl
  have hgo7 : go < w7.heap.size := Nat.lt_of_lt_of_le hol hb7.size
  clear ho7 hg7 hb7 HO6 HB6 hB6 HRO hell hell2 HRS HRR
  have HX : Hid (∀ V : World, Below w7.heap.size w7 V → V.cell? ⟨go, k * 5 + 3, none⟩ = some (.int .i64 (-7)) ∧ V.cell? ⟨gr, n * 5, none⟩ = some (.int .i64 (-8))) := Lib.hid (fun V hV => ⟨(hV.cell (p := ⟨go, k * 5 + 3, none⟩) hgo7).trans x1, (hV.cell (p := ⟨gr, n * 5, none⟩) hrl).trans x2⟩)
  clear x1 x2
  obtain ⟨E, hE⟩ : ∃ E, allE l q = E := ⟨_, rfl⟩
  have HA1 : Hid (∀ (V : World), Below w7.heap.size w7 V → Calls Tryd.prog 13 #[.slice (some ⟨gr, 0, none⟩) n cr, .slice (some ⟨go, 0, none⟩) k co] V fun e V' => e = .returned (.int .i64 E) ∧ Below V.heap.size V V') := Lib.hid (fun V hV => by
    rw [← hE]; exact all_any V m _ n cr l _ k co q ((HR1.out.below hV).mono hV.size) HF.out ((HQ1.out.below hV).mono hV.size) HQ.out (by rw [← HKL.out]; omega) (HL7.out.below hV))
  have HA2 : Hid (∀ (V : World), Below w7.heap.size w7 V → Calls Tryd.prog 17 #[.slice A n c, .slice S k d] V fun e V' => e = .returned (.int .i64 E) ∧ Below V.heap.size V V') := Lib.hid (fun V hV => by
    rw [← hE]; exact rall_any V A n c l S k d q ((HR7.out.below hV).mono hV.size) HF.out ((HS7.out.below hV).mono hV.size) (by rw [← HKL.out]; omega))
  have hbd : Below w7.heap.size w7 w7.drew := (Below.refl _ _).drew
  have hk0 : (0 : Int) ≤ (k : Int) := by omega
  have hn0 : (0 : Int) ≤ (n : Int) := by omega
  have hkc : (k : Int) ≤ (co : Int) := by omega
  have hnc : (n : Int) ≤ (cr : Int) := by omega
  clear hE
  go_wp2_with fail
  go_cut [7] (fun v wc => v = .int .i64 E ∧ Hid (Below w7.heap.size w7 wc))
  case first =>
    go_region_held3 (fun V => Below w7.heap.size w7 V)
      (first | assumption | exact hb | exact hbd)
      (first
        | (go_at_call 13; refine (HA1.out _ (by assumption)).mono ?_; rintro e u ⟨rfl, hu⟩; have hb := bel_on (W := w7) (by assumption) hu)
        | fail)
    all_goals (go_wp2_with fail; go_meet; exact ⟨rfl, Lib.hid (by assumption)⟩)
  case rest =>
    obtain ⟨rfl, hB8⟩ := hcut
    have h2 := Lib.hid (HA2.out _ hB8.out)
    clear HA1 HA2 hbd
    go_wp2_with fail
    refine h2.out.mono ?_
    rintro e w9 ⟨rfl, hb9⟩
    have HB9 := Lib.hid (bel_on hB8.out hb9)
    have h3 := Lib.hid (same_sits w9 _ _ k co d q ((HQ1.out.below HB9.out).mono HB9.out.size) ((HS7.out.below HB9.out).mono HB9.out.size) (by omega))
    clear hb9 h2 hB8
    go_wp2_with fail
    refine h3.out.mono ?_
    rintro e w10 ⟨rfl, hb10⟩
    have HB10 := Lib.hid (bel_on HB9.out hb10)
    have h4 := Lib.hid (same_rows w10 _ _ n cr c l ((HR1.out.below HB10.out).mono HB10.out.size) ((HR7.out.below HB10.out).mono HB10.out.size) (by omega))
    clear hb10 h3 HB9
    go_wp2_with fail
    refine h4.out.mono ?_
    rintro e w11 ⟨rfl, hb11⟩
    have HB11 := Lib.hid (bel_on HB10.out hb11)
    obtain ⟨x1, x2⟩ := HX.out _ HB11.out
    have hkl : (k : Int) < ((k + 1 : Nat) : Int) := by omega
    have hnl : (n : Int) < ((n + 1 : Nat) : Int) := by omega
    clear hb11 h4 HB10
    go_wp2
    go_ret
    exact ⟨rfl, bel_on2 HB7.out HB11.out⟩
end Go.Proofs.YtddiabpjmnmllaaDoor
