/- Seekers: Seat, walked. -/
import Derived.Test.YtppjpledjhinbaaDoorJRsChoo
namespace Go.Proofs.YtppjpledjhinbaaDoor
open Go.RowKit Go.Lib
theorem made_seats (n : Nat) : (madeCells #[Value.int .i64 0, .int .u8 0] (n * 2)).toList = catv seatC (List.replicate n seatZ) := by
  apply List.ext_getElem?
  intro i
  by_cases h : i < n * 2
  · have h2 : i / 2 < (List.replicate n seatZ).length := by simp; omega
    have h3 := catv_get seatC_len (List.replicate n seatZ) (i / 2) (i % 2) h2 (Nat.mod_lt _ (by decide))
    rw [Nat.div_add_mod' i 2] at h3
    rw [h3, List.getElem_replicate]
    have h4 : (madeCells #[Value.int .i64 0, .int .u8 0] (n * 2)).toList[i]? = some ((#[Value.int .i64 0, .int .u8 0] : Array Value)[i % 2]!) := by
      simp [madeCells, h]
    rw [h4]
    have h5 : i % 2 = 0 ∨ i % 2 = 1 := by omega
    rcases h5 with e | e <;> rw [e] <;> rfl
  · rw [List.getElem?_eq_none (by simp [madeCells]; omega), List.getElem?_eq_none (by rw [catv_length seatC_len]; simp; omega)]
def SeatAns (w : World) (l : List MRow) (rs : List MSit) (e : Ending) (w' : World) : Prop :=
  Below w.heap.size w w' ∧
  if errC l ≠ 0 then e = .returned (.tuple #[.slice none 0 0, .int .i64 (errC l)])
  else if 20 < rs.length then e = .returned (.tuple #[.slice none 0 0, .int .i64 26])
  else ∃ v, e = .returned (.tuple #[v, .int .i64 0]) ∧ w'.ownsRow w.heap.size 26 2 v rs.length (catv seatC (seatPl l rs))
/-- While seats are given. -/
structure GvSt (w3 wx : World) (n sg M : Nat) (s : List MSeat × List MSit) : Prop where
  own : wx.ownsRow w3.heap.size 26 2 (.slice (some ⟨sg, 0, none⟩) n n) n (catv seatC s.1)
  mp : TkMapS wx M s.2.length s.2
  bel : Below w3.heap.size w3 wx
  lo : w3.heap.size ≤ M
section
variable {w3 wx wy : World} {n sg M : Nat} {s : List MSeat × List MSit}
theorem GvSt.below (h : GvSt w3 wx n sg M s) (hb : Below wx.heap.size wx wy) : GvSt w3 wy n sg M s :=
  ⟨own_below h.own hb, h.mp.upd (Upd.of_below (S := fun _ => False) hb) id, h.bel.trans (hb.mono h.bel.size), h.lo⟩
theorem GvSt.row (h : GvSt w3 wx n sg M s) : ∃ cs, wx.heap[sg]? = some (.cells cs 26 (0, 0)) := own_typed h.own rfl
theorem GvSt.ne (h : GvSt w3 wx n sg M s) : sg ≠ M := by
  obtain ⟨cs, hc⟩ := h.row
  exact h.mp.not_cells hc
theorem GvSt.slo (h : GvSt w3 wx n sg M s) : w3.heap.size ≤ sg := (h.own.lt sg rfl).1
theorem GvSt.len (h : GvSt w3 wx n sg M s) : s.1.length = n := by
  have := h.own.1
  rw [catv_length seatC_len] at this
  omega
/-- A seat is written. -/
theorem GvSt.seat (h : GvSt w3 wx n sg M s) {i : Nat} (hi : i < n) (x : MSeat) : GvSt w3 ((wx.setCell ⟨sg, i * 2, none⟩ (.int .i64 x.num)).setCell ⟨sg, i * 2 + 1, none⟩ (.int .u8 (x.ltr.toNat : Int))) n sg M (s.1.set i x, s.2) := by
  have hl := h.len
  have hu : Upd (fun k => k = sg) wx ((wx.setCell ⟨sg, i * 2, none⟩ (.int .i64 x.num)).setCell ⟨sg, i * 2 + 1, none⟩ (.int .u8 (x.ltr.toNat : Int))) := ((Upd.refl (fun k => k = sg) wx).setCell ⟨sg, i * 2, none⟩ rfl _).setCell ⟨sg, i * 2 + 1, none⟩ rfl _
  have hil : i < s.1.length := by omega
  have o1 := own_set (own_set h.own (i * 2) (by omega) (.int .i64 x.num)) (i * 2 + 1) (by omega) (.int .u8 (x.ltr.toNat : Int))
  have e1 := catv_set seatC_len s.1 i hil 0 (by decide) (.int .i64 x.num) ⟨x.num, s.1[i].ltr⟩ rfl
  have e2 := catv_set seatC_len (s.1.set i ⟨x.num, s.1[i].ltr⟩) i (by simpa using hil) 1 (by decide) (.int .u8 (x.ltr.toNat : Int)) x (by simp [seatC])
  rw [Nat.add_zero] at e1
  rw [e1, e2, List.set_set] at o1
  exact ⟨o1, h.mp.upd hu (fun e => h.ne e.symm), h.bel.trans (hu.below (fun k hk e => by have := h.slo; omega) h.bel.size), h.lo⟩
theorem GvSt.more (h : GvSt w3 wx n sg M s) (hu : Upd (fun k => k = M) wx wy) {y : MSit} (ht : TkMapS wy M (s.2 ++ [y]).length (s.2 ++ [y])) : GvSt w3 wy n sg M (s.1, s.2 ++ [y]) :=
  ⟨own_upd h.own hu (fun k e e2 => h.ne ((Option.some.inj e).trans e2)), ht, h.bel.trans (hu.below (fun k hk e => by have := h.lo; omega) h.bel.size), h.lo⟩
theorem GvSt.free (h : GvSt w3 wx n sg M s) (j : Nat) : wx.frozen? ⟨sg, j, none⟩ = false := by
  obtain ⟨cs, hc⟩ := h.row
  exact frozen_of_row _ _ _ _ _ hc
theorem GvSt.cell (h : GvSt w3 wx n sg M s) {j : Nat} (hj : j < n * 2) : ∃ u, wx.cell? ⟨sg, j, none⟩ = some u := by
  obtain ⟨ad, e, _, hc⟩ := (Rd.own h.own).at_ (by omega)
  injection e with e
  subst e
  have hl := h.own.1
  have := hc j _ (List.getElem?_eq_getElem (by omega))
  rw [add_zero_off] at this
  exact ⟨_, this⟩
end
theorem find_first {α : Type} {p : α → Bool} : ∀ (l : List α) (q : Nat) (hq : q < l.length), (∀ d (h : d < q), p (l[d]'(by omega)) = false) → p l[q] = true → l.find? p = some l[q] := by
  intro l
  induction l with
  | nil => intro q hq; simp at hq
  | cons x t ih =>
    intro q hq h1 h2
    cases q with
    | zero => rw [List.find?_cons]; simp only [List.getElem_cons_zero] at h2 ⊢; rw [h2]
    | succ q =>
      have h0 := h1 0 (by omega)
      simp only [List.getElem_cons_zero] at h0
      rw [List.find?_cons, h0]
      exact ih q (by simpa using hq) (fun d h => by have := h1 (d + 1) (by omega); simpa using this) (by simpa using h2)
theorem find_none {α : Type} {p : α → Bool} {l : List α} (h : ∀ d (hd : d < l.length), p l[d] = false) : l.find? p = none := by
  rw [List.find?_eq_none]
  intro x hx
  obtain ⟨d, hd, rfl⟩ := List.getElem_of_mem hx
  rw [h d hd]; decide
theorem block_seat_fits {l : List MRow} {b : Nat} (hb : b < (blocksOf (spotsL l)).length) {x : MSeat} (hx : x ∈ (blocksOf (spotsL l))[b].seats) : x.fits := by
  obtain ⟨s, h1, _, _, h4⟩ := (seat_in hb).1 hx
  have := (spots_distinct l).2 s h1
  rw [h4] at this
  unfold MSeat.fits; omega
theorem takenN_nil (q : MSeat) : takenN [] q = 0 := rfl
set_option maxHeartbeats 8000000 in
set_option maxRecDepth 20000 in
theorem seat_any (w : World) (mm : Int) (A : Option Addr) (n c : Nat) (l : List MRow) (hr : Rd w w.heap.size 5 A n (catv rowC l)) (hf : ∀ r ∈ l, r.fits) (hLib : LibAt w mm) (A2 : Option Addr) (n2 c2 : Nat) (rs : List MSit) (hr2 : Rd w w.heap.size 5 A2 n2 (catv sitC rs)) (hf2 : ∀ x ∈ rs, x.seat.fits) (hn2 : n2 ≤ 1099511627776) :
    Calls Tryd.prog 16 #[.slice A n c, .slice A2 n2 c2] w (SeatAns w l rs) := by
  obtain ⟨i0, hi0, hz0, hz1, hz2⟩ := info_parts seat_info
  have HBD := Lib.hid (board_any w mm A n c l hr hf hLib A2 n2 c2 rs hr2 hf2 hn2)
  have HNL := Lib.hid (rd_catlen sitC_len (by decide) hr2)
  have HF2 := Lib.hid hf2
  clear hr hf hLib hr2 hf2
  go_enter Tryd.func16, Tryd.ntmps16
  go_wp2_with fail
  refine HBD.out.mono ?_
  rintro e w1 ⟨hb1, hcase⟩
  by_cases hE : errC l ≠ 0
  · rw [if_pos hE] at hcase
    obtain rfl : e = _ := hcase
    obtain ⟨E, hE1⟩ : ∃ E, errC l = E := ⟨_, rfl⟩
    rw [hE1] at hE ⊢
    have HE1 := Lib.hid hE1
    have hEi : ¬ E = 0 := hE
    have HB1 := Lib.hid hb1
    clear hb1 HBD hE1
    go_wp2
    go_ret2
    refine ⟨HB1.out, ?_⟩
    rw [if_pos (by rw [HE1.out]; exact hE), HE1.out]
    rfl
  · rw [if_neg hE] at hcase
    by_cases hlt : 20 < rs.length
    · rw [if_pos hlt] at hcase
      obtain rfl : e = _ := hcase
      have HB1 := Lib.hid hb1
      have HE := Lib.hid hE
      have HK := Lib.hid hlt
      clear hb1 HBD hE hlt
      go_wp2
      go_ret2
      refine ⟨HB1.out, ?_⟩
      rw [if_neg HE.out, if_pos HK.out]
      rfl
    · rw [if_neg hlt] at hcase
      obtain ⟨P, v, u, vs, rfl, hpl⟩ := hcase
      have hn20 : rs.length ≤ 20 := by omega
      have pl0 := PlD.start hpl
      have HC := Lib.hid (costD_any pl0 hn20)
      have HP0 := Lib.hid pl0
      have HB1 := Lib.hid hb1
      have HE := Lib.hid hE
      have HLT := Lib.hid hlt
      clear hb1 HBD hE hlt hpl pl0
      go_wp2_with fail
      refine HC.out.mono ?_
      rintro e w2 ⟨best, rfl, hm, hb2⟩
      have hbest : best = bestC l rs := by
        rw [decK_id] at hm
        exact hm.uniq (bestC_is l rs)
      have pl2 := HP0.out.below hb2
      have HTK := Lib.hid (take_any l rs w2 w.heap.size P v u vs best pl2 hn20 hbest)
      have HB2 := Lib.hid (HB1.out.trans (hb2.mono HB1.out.size))
      have HBE := Lib.hid hbest
      clear hm hb2 hbest pl2 HC HP0 HB1
      go_wp2_with fail
      refine HTK.out.mono ?_
      rintro e w3 ⟨rfl, hst⟩
      have HCH := Lib.hid (choose_any l rs w3 w.heap.size P v u vs best hst.pl hn20 HBE.out)
      have HB3 := Lib.hid (HB2.out.trans (hst.up.below (fun k hk e => by have := hst.up.size; have := (PlaneAt.skr hst.pl).lt k e; omega) HB2.out.size))
      clear hst HTK HB2
      go_wp2_with fail
      refine HCH.out.mono ?_
      rintro e w4 ⟨rfl, hst⟩
      have HB4 := Lib.hid (HB3.out.trans (hst.up.below (fun k hk e => by have := (PlaneAt.skr hst.pl).lt k e; omega) HB3.out.size))
      have HPL := Lib.hid hst.pl
      have HN : Hid (rs.length = n2) := Lib.hid HNL.out.symm
      obtain ⟨⟨Av, cv, rfl⟩, A', c', hu⟩ := hst.pl.shape
      rw [HN.out] at hu
      subst hu
      have hn2' : n2 ≤ 20 := by rw [← HN.out]; exact hn20
      obtain ⟨m, hm⟩ : ∃ m, (blocksOf (spotsL l)).length = m := ⟨_, rfl⟩
      rw [hm] at HPL
      have HM := Lib.hid hm
      obtain ⟨ks, hks⟩ : ∃ ks, ksF l rs = ks := ⟨_, rfl⟩
      have HKS := Lib.hid hks
      have HKL : Hid (ks.length = n2) := Lib.hid (by rw [← hks, ksF_len]; exact HN.out)
      have HFIN : Hid (seatPl l rs = (gv2 (blocksOf (spotsL l)) ks n2).1) := Lib.hid (by unfold seatPl; rw [hks, HN.out])
      clear hst hm hks HCH HB3 hn20
      go_wp2_with (at_make; refine wpList_make_full _ rfl _ _ 35 rfl w4.heap.size 26 i0 (.agg #[.int .i64 0, .int .u8 0]) 2 Tryd.underlying35 hi0 hz0 hz1 .i64 .i64 _ _ n2 rfl rfl ?c1 ?c2 ?c3 ?c4 ?c5 ?_)
      case c1 => rfl
      case c2 => rfl
      case c3 => rw [hz2]; omega
      case c4 => unfold maxLen; omega
      case c5 => exact Nat.le_refl _
      intro w5 ho5 hg5
      rw [made_seats] at ho5
      have hb5 : Below w4.heap.size w4 w5 := (Upd.of_grown hg5).below (fun k hk e => by cases e) (Nat.le_refl _)
      have hmm := @run_makeMap Tryd.prog
      obtain ⟨sg, hsg⟩ : ∃ sg, w4.heap.size = sg := ⟨_, rfl⟩
      have hbM : Below w5.heap.size w5 (w5.alloc (.map #[] 0)) := (Below.refl _ _).alloc (Nat.le_refl _) _
      have h0 : GvSt w4 (w5.alloc (.map #[] 0)) n2 sg w5.heap.size (gv1 ks 0) := by
        rw [← hsg]
        refine ⟨?_, ⟨fun _ => false, ?_⟩, hb5.trans (hbM.mono hb5.size), hb5.size⟩
        · simp only [gv1]
          rw [HKL.out]
          exact own_below ho5 hbM
        · have := VMap.made (P := Tryd.prog) (k := 26) (kv := seatV) (z := .int .i64 0) w5
          simpa [gv1, takenN] using this
      have H0 := Lib.hid h0
      obtain ⟨q0, q1⟩ := (HPL.out.below h0.bel).cells
      obtain ⟨M, hM⟩ : ∃ M, w5.heap.size = M := ⟨_, rfl⟩
      rw [hM] at H0
      clear ho5 hg5 hb5 hbM h0
      rw [hsg]
      go_wp2
      clear hM hmm hsg
      go_loopw [43] (fun iv wx => ∃ i : Nat, iv = .int .i64 (i : Int) ∧ i ≤ n2 ∧ Hid (GvSt w4 wx n2 sg M (gv1 ks i))) (fun iv _ => n2 - (intOf iv).toNat)
      case atStart => exact ⟨0, rfl, Nat.zero_le _, H0⟩
      case round =>
        obtain ⟨i, rfl, hi, hst⟩ := hrel
        by_cases hlt : i < n2
        · have hir : i < rs.length := by rw [HN.out]; exact hlt
          have hik : i < ks.length := by rw [HKL.out]; exact hlt
          obtain ⟨g, c9, e, hsk⟩ := (HPL.out.below hst.out.bel).seek hir
          simp only [Value.slice.injEq] at e
          obtain ⟨rfl, -, rfl⟩ := e
          have hkat : ks[i] = ⟨rs[i], tkT l rs i, !tkT l rs i, chL l rs rs.length i, ownOf (spotsL l) (rs.take i) rs[i]⟩ := by
            have := ksF_at l rs hir
            simp only [HKS.out] at this
            exact this
          have hxf := HF2.out rs[i] (List.getElem_mem hir)
          have hcc := hsk.all
          obtain ⟨x, hx⟩ : ∃ x, rs[i] = x := ⟨_, rfl⟩
          obtain ⟨nb, hnb⟩ : ∃ nb, (!tkT l rs i) = nb := ⟨_, rfl⟩
          obtain ⟨tb, htb⟩ : ∃ tb, tkT l rs i = tb := ⟨_, rfl⟩
          obtain ⟨b, hb⟩ : ∃ b, chL l rs rs.length i = b := ⟨_, rfl⟩
          obtain ⟨o, ho⟩ : ∃ o, ownOf (spotsL l) (rs.take i) rs[i] = o := ⟨_, rfl⟩
          rw [hnb, htb, hb, ho, hx] at hkat hcc
          rw [hx] at hxf
          obtain ⟨⟨xc, xf, xi⟩, ⟨xn, xl⟩⟩ := x
          have c0 := hcc 0 (.int .i64 xc) rfl
          have c1 := hcc 1 (.bool xf) rfl
          have c2' := hcc 2 (.bool xi) rfl
          have c3 := hcc 3 (.int .i64 xn) rfl
          have c4 := hcc 4 (.int .u8 (xl.toNat : Int)) rfl
          have c5 := hcc 5 (.bool tb) rfl
          have c6 := hcc 6 (.bool nb) rfl
          have c7 := hcc 7 (.int .i64 b) rfl
          have c8 := hcc 8 (.int .i64 o) rfl
          rw [Nat.add_zero] at c0
          obtain ⟨X, hX⟩ : ∃ X, wr.heap.size = X := ⟨_, rfl⟩
          obtain ⟨V, hV⟩ : ∃ V, wr.alloc (.cells #[.int .i64 xc, .bool xf, .bool xi, .int .i64 xn, .int .u8 (xl.toNat : Int), .bool tb, .bool nb, .int .i64 b, .int .i64 o] 92) = V := ⟨_, rfl⟩
          have hbV : Below wr.heap.size wr V := by rw [← hV]; exact (Below.refl _ _).alloc (Nat.le_refl _) _
          have xV : V.heap[X]? = some (.cells #[.int .i64 xc, .bool xf, .bool xi, .int .i64 xn, .int .u8 (xl.toNat : Int), .bool tb, .bool nb, .int .i64 b, .int .i64 o] 92 (0, 0)) := by rw [← hV, ← hX]; exact heap_alloc_new wr _
          have hsV := hst.out.below hbV
          have hnext := gv1_succ hik
          rw [hkat] at hnext
          obtain ⟨SG, hSG⟩ : ∃ SG, gv1 ks i = SG := ⟨_, rfl⟩
          have hgl := (gv1_len ks i).2
          rw [hSG] at hsV hnext hgl
          obtain ⟨S, G⟩ := SG
          simp only at hgl
          have HNX := Lib.hid hnext
          have HSV := Lib.hid hsV
          have HXF := Lib.hid hxf
          have f3 : V.cell? ⟨X, 3, none⟩ = some (.int .i64 xn) := by rw [cell_of_row _ _ 3 _ _ _ xV]; rfl
          have f4 : V.cell? ⟨X, 4, none⟩ = some (.int .u8 (xl.toNat : Int)) := by rw [cell_of_row _ _ 4 _ _ _ xV]; rfl
          have f6 : V.cell? ⟨X, 6, none⟩ = some (.bool nb) := by rw [cell_of_row _ _ 6 _ _ _ xV]; rfl
          have f7 : V.cell? ⟨X, 7, none⟩ = some (.int .i64 b) := by rw [cell_of_row _ _ 7 _ _ _ xV]; rfl
          have f8 : V.cell? ⟨X, 8, none⟩ = some (.int .i64 o) := by rw [cell_of_row _ _ 8 _ _ _ xV]; rfl
          have HXV := Lib.hid xV
          have hii : (i : Int) < (n2 : Int) := by omega
          have hi0' : (0 : Int) ≤ (i : Int) := by omega
          have hsgX : sg ≠ X := fun e => by
            obtain ⟨cs, hc⟩ := hst.out.row
            have := (Array.getElem?_eq_some_iff.1 hc).1
            omega
          clear hsk hkat hcc hx hnb htb hb ho hbV xV hsV hnext hSG hxf hst
          go_upto_region 12 with (fail)
          clear hV c0 c1 c2' c3 c4 c5 c6 c7 c8
          cases nb with
          | true =>
            have HR9 : Hid (GvSt w4 V n2 sg M (gv1 ks (i + 1))) := Lib.hid (by
              rw [HNX.out]; unfold st1 MSkr.home; rw [if_neg (by simp)]; exact HSV.out)
            clear f3 f4 f7 f8
            go_wp2
            go_roundw
            case rel => exact ⟨i + 1, by go_num, hlt, HR9⟩
            case measure => (simp [intOf]; try omega)
          | false =>
            by_cases hbo : b = o
            · subst hbo
              have HR8 : Hid (gv1 ks (i + 1) = (S.set i ⟨xn, xl⟩, G ++ [⟨⟨xc, xf, xi⟩, ⟨xn, xl⟩⟩])) := Lib.hid (by
                rw [HNX.out]; unfold st1 MSkr.home; rw [if_pos (by simp)])
              have HW1 : Hid (GvSt w4 ((V.setCell ⟨sg, i * 2, none⟩ (.int .i64 xn)).setCell ⟨sg, i * 2 + 1, none⟩ (.int .u8 (xl.toNat : Int))) n2 sg M (S.set i ⟨xn, xl⟩, G)) := Lib.hid (HSV.out.seat hlt ⟨xn, xl⟩)
              obtain ⟨z0, hz0'⟩ := HSV.out.cell (j := i * 2) (by omega)
              obtain ⟨z1, hz1'⟩ := HSV.out.cell (j := i * 2 + 1) (by omega)
              have fz0 := HSV.out.free (i * 2)
              have fz1 := HSV.out.free (i * 2 + 1)
              obtain ⟨W1, hW1⟩ : ∃ W, (V.setCell ⟨sg, i * 2, none⟩ (.int .i64 xn)).setCell ⟨sg, i * 2 + 1, none⟩ (.int .u8 (xl.toNat : Int)) = W := ⟨_, rfl⟩
              rw [hW1] at HW1
              have x1 : W1.heap[X]? = some (.cells #[.int .i64 xc, .bool xf, .bool xi, .int .i64 xn, .int .u8 (xl.toNat : Int), .bool tb, .bool false, .int .i64 b, .int .i64 b] 92 (0, 0)) := by
                rw [← hW1]
                exact box_keep HXV.out (((Upd.refl (fun k => k = sg) V).setCell ⟨sg, i * 2, none⟩ rfl _).setCell ⟨sg, i * 2 + 1, none⟩ rfl _) (fun e => hsgX e.symm)
              have g3 : W1.cell? ⟨X, 3, none⟩ = some (.int .i64 xn) := by rw [cell_of_row _ _ 3 _ _ _ x1]; rfl
              have g4 : W1.cell? ⟨X, 4, none⟩ = some (.int .u8 (xl.toNat : Int)) := by rw [cell_of_row _ _ 4 _ _ _ x1]; rfl
              clear x1
              go_upto_region 14 with (fail)
              clear hW1 f3 f4 f6 f7 f8 hz0' hz1' fz0 fz1
              have bd : Below W1.heap.size W1 W1.drew := (Below.refl _ _).drew
              have hGl : G.length < 1099511627776 := by have := HKL.out; omega
              have hom := (HW1.out.below bd).mp
              have k2 := hom.look (q := ⟨xn, xl⟩) HXF.out
              obtain ⟨v0, st, w7, w8, en, es, el, ut, tk⟩ := hom.more ⟨⟨xc, xf, xi⟩, ⟨xn, xl⟩⟩ HXF.out hGl
              have htl := takenN_leS G ⟨xn, xl⟩
              have hwr : IntKind.i64.wrap ((takenN G ⟨xn, xl⟩ : Int) + 1) = (takenN G ⟨xn, xl⟩ : Int) + 1 := IntWalk.i64_in _ (by omega)
              have HR9 : Hid (GvSt w4 w8 n2 sg M (gv1 ks (i + 1))) := Lib.hid (by
                rw [HR8.out]
                exact HW1.out.more ((Upd.of_below (S := fun k => k = M) bd).trans ut (fun _ _ e => e)) tk)
              clear bd hom ut tk htl
              go_big_region
              all_goals go_wp2_with fail
              all_goals go_roundw
              all_goals first
                | exact ⟨i + 1, by go_num, hlt, HR9⟩
                | (simp [intOf]; try omega)
            · have hq : (b == o) = false := beq_false_of_ne hbo
              have HR9 : Hid (GvSt w4 V n2 sg M (gv1 ks (i + 1))) := Lib.hid (by
                rw [HNX.out]; unfold st1 MSkr.home; rw [if_neg (by simp [hbo])]; exact HSV.out)
              clear f3 f4 hbo
              go_wp2
              go_roundw
              case rel => exact ⟨i + 1, by go_num, hlt, HR9⟩
              case measure => (simp [intOf]; try omega)
        · obtain rfl : i = n2 := by omega
          have hii : ¬ (i : Int) < (i : Int) := by omega
          have HS0 : Hid (GvSt w4 wr i sg M (gv2 (blocksOf (spotsL l)) ks 0)) := Lib.hid (by
            simp only [gv2]
            rw [HKL.out]
            exact hst.out)
          obtain ⟨r0, r1⟩ := (HPL.out.below hst.out.bel).cells
          clear hst q0 q1 H0
          go_wp2
          go_loopw [80] (fun iv wx => ∃ j : Nat, iv = .int .i64 (j : Int) ∧ j ≤ i ∧ Hid (GvSt w4 wx i sg M (gv2 (blocksOf (spotsL l)) ks j))) (fun iv _ => i - (intOf iv).toNat)
          case atStart => exact ⟨0, rfl, Nat.zero_le _, HS0⟩
          case round =>
            obtain ⟨j, rfl, hj, hst⟩ := hrel
            by_cases hlt : j < i
            ·
              have hir : j < rs.length := by rw [HN.out]; exact hlt
              have hik : j < ks.length := by rw [HKL.out]; exact hlt
              obtain ⟨g, c9, e, hsk⟩ := (HPL.out.below hst.out.bel).seek hir
              simp only [Value.slice.injEq] at e
              obtain ⟨rfl, -, rfl⟩ := e
              have hkat : ks[j] = ⟨rs[j], tkT l rs j, !tkT l rs j, chL l rs rs.length j, ownOf (spotsL l) (rs.take j) rs[j]⟩ := by
                have := ksF_at l rs hir
                simp only [HKS.out] at this
                exact this
              have HBB0 := Lib.hid ((decd l rs).blk j (by rw [ksF_len]; exact hir))
              have hxf := HF2.out rs[j] (List.getElem_mem hir)
              have hcc := hsk.all
              have hbbk := HBB0.out
              rw [ksF_at l rs hir] at hbbk
              simp only at hbbk
              clear HBB0
              obtain ⟨x, hx⟩ : ∃ x, rs[j] = x := ⟨_, rfl⟩
              obtain ⟨nb, hnb⟩ : ∃ nb, (!tkT l rs j) = nb := ⟨_, rfl⟩
              obtain ⟨tb, htb⟩ : ∃ tb, tkT l rs j = tb := ⟨_, rfl⟩
              obtain ⟨b, hb⟩ : ∃ b, chL l rs rs.length j = b := ⟨_, rfl⟩
              obtain ⟨o, ho⟩ : ∃ o, ownOf (spotsL l) (rs.take j) rs[j] = o := ⟨_, rfl⟩
              rw [hnb, htb, hb, ho, hx] at hkat hcc
              rw [hnb, hb] at hbbk
              rw [hx] at hxf
              obtain ⟨⟨xc, xf, xi⟩, ⟨xn, xl⟩⟩ := x
              have c0 := hcc 0 (.int .i64 xc) rfl
              have c1 := hcc 1 (.bool xf) rfl
              have c2' := hcc 2 (.bool xi) rfl
              have c3 := hcc 3 (.int .i64 xn) rfl
              have c4 := hcc 4 (.int .u8 (xl.toNat : Int)) rfl
              have c5 := hcc 5 (.bool tb) rfl
              have c6 := hcc 6 (.bool nb) rfl
              have c7 := hcc 7 (.int .i64 b) rfl
              have c8 := hcc 8 (.int .i64 o) rfl
              rw [Nat.add_zero] at c0
              obtain ⟨X, hX⟩ : ∃ X, wr.heap.size = X := ⟨_, rfl⟩
              obtain ⟨V, hV⟩ : ∃ V, wr.alloc (.cells #[.int .i64 xc, .bool xf, .bool xi, .int .i64 xn, .int .u8 (xl.toNat : Int), .bool tb, .bool nb, .int .i64 b, .int .i64 o] 92) = V := ⟨_, rfl⟩
              have hbV : Below wr.heap.size wr V := by rw [← hV]; exact (Below.refl _ _).alloc (Nat.le_refl _) _
              have xV : V.heap[X]? = some (.cells #[.int .i64 xc, .bool xf, .bool xi, .int .i64 xn, .int .u8 (xl.toNat : Int), .bool tb, .bool nb, .int .i64 b, .int .i64 o] 92 (0, 0)) := by rw [← hV, ← hX]; exact heap_alloc_new wr _
              have hsV := hst.out.below hbV
              have hnext := gv2_succ (B := blocksOf (spotsL l)) hik
              rw [hkat] at hnext
              obtain ⟨SG, hSG⟩ : ∃ SG, gv2 (blocksOf (spotsL l)) ks j = SG := ⟨_, rfl⟩
              have hgl := (gv2_len (blocksOf (spotsL l)) ks j).2
              rw [hSG] at hsV hnext hgl
              obtain ⟨S, G⟩ := SG
              simp only at hgl
              have HNX := Lib.hid hnext
              have HSV := Lib.hid hsV
              have HXF := Lib.hid hxf
              have HBB := Lib.hid hbbk
              have f3 : V.cell? ⟨X, 3, none⟩ = some (.int .i64 xn) := by rw [cell_of_row _ _ 3 _ _ _ xV]; rfl
              have f4 : V.cell? ⟨X, 4, none⟩ = some (.int .u8 (xl.toNat : Int)) := by rw [cell_of_row _ _ 4 _ _ _ xV]; rfl
              have f6 : V.cell? ⟨X, 6, none⟩ = some (.bool nb) := by rw [cell_of_row _ _ 6 _ _ _ xV]; rfl
              have f7 : V.cell? ⟨X, 7, none⟩ = some (.int .i64 b) := by rw [cell_of_row _ _ 7 _ _ _ xV]; rfl
              have f8 : V.cell? ⟨X, 8, none⟩ = some (.int .i64 o) := by rw [cell_of_row _ _ 8 _ _ _ xV]; rfl
              have HXV := Lib.hid xV
              have hii : (j : Int) < (i : Int) := by omega
              have hi0' : (0 : Int) ≤ (j : Int) := by omega
              have hsgX : sg ≠ X := fun e => by
                obtain ⟨cs, hc⟩ := hst.out.row
                have := (Array.getElem?_eq_some_iff.1 hc).1
                omega
              clear hbbk hsk hkat hcc hx hnb htb hb ho hbV xV hsV hnext hSG hxf hst
              go_upto_region 19 with (fail)
              clear hV c0 c1 c2' c3 c4 c5 c6 c7 c8
              cases nb with
              | true =>
                have HR9 : Hid (GvSt w4 V i sg M (gv2 (blocksOf (spotsL l)) ks (j + 1))) := Lib.hid (by
                  rw [HNX.out]; unfold st2; rw [if_pos (.inl rfl)]; exact HSV.out)
                clear f3 f4 f7 f8
                go_wp2
                go_roundw
                case rel => exact ⟨j + 1, by go_num, hlt, HR9⟩
                case measure => (simp [intOf]; try omega)
              | false =>
                by_cases hbo : b = o
                · subst hbo
                  have HR9 : Hid (GvSt w4 V i sg M (gv2 (blocksOf (spotsL l)) ks (j + 1))) := Lib.hid (by
                    rw [HNX.out]; unfold st2; rw [if_pos (.inr rfl)]; exact HSV.out)
                  clear f3 f4
                  go_wp2
                  go_roundw
                  case rel => exact ⟨j + 1, by go_num, hlt, HR9⟩
                  case measure => (simp [intOf]; try omega)
                · have hq : (b == o) = false := beq_false_of_ne hbo
                  have hnx2 := HNX.out
                  unfold st2 at hnx2
                  rw [if_neg (by simp [hbo])] at hnx2
                  simp only at hnx2
                  obtain ⟨bb, rfl, hbl⟩ := HBB.out rfl
                  obtain ⟨g4, c4b, As, d4, e, b0, b1, b2, b3, hrs⟩ := PlaneAt.block (HPL.out.below (HSV.out.bel)) hbl
                  simp only [Value.slice.injEq] at e
                  obtain ⟨rfl, -, rfl⟩ := e
                  have hss : seatsAt (blocksOf (spotsL l)) (bb : Int) = (blocksOf (spotsL l))[bb].seats := seatsAt_is hbl
                  have HFT : Hid (∀ y ∈ (blocksOf (spotsL l))[bb].seats, y.fits) := Lib.hid (fun y hy => block_seat_fits hbl hy)
                  obtain ⟨ss, hsse⟩ : ∃ ss, (blocksOf (spotsL l))[bb].seats = ss := ⟨_, rfl⟩
                  rw [hss, hsse] at hnx2
                  rw [hsse] at b3 hrs HFT
                  have HNX2 := Lib.hid hnx2
                  have HRS := Lib.hid hrs
                  have hbm : (bb : Int) < (m : Int) := by rw [HM.out] at hbl; omega
                  have hbb0 : (0 : Int) ≤ (bb : Int) := by omega
                  have v0c := (HPL.out.below HSV.out.bel).cells.1
                  have hssl : ss.length ≤ 200 := by
                    have h1 := seats_le (spotsL l) _ (List.getElem_mem hbl)
                    have h2 := spots_len l
                    rw [hsse] at h1
                    omega
                  obtain ⟨nl, hnl⟩ : ∃ nl, ss.length = nl := ⟨_, rfl⟩
                  rw [hnl] at b3 HRS hssl
                  have HNL2 := Lib.hid hnl
                  clear hnx2 hss hsse hrs hbo f3 f4 b0 b1 b2 hbl hnl
                  go_wp2
                  go_quiet (fail)
                  have hbd : Below V.heap.size V (V.drewN nq) := ⟨rfl, rfl, rfl, Nat.le_refl _, fun _ _ => rfl⟩
                  obtain ⟨VD, hVD⟩ : ∃ U, V.drewN nq = U := ⟨_, rfl⟩
                  rw [hVD] at hbd ⊢
                  have HBD0 := Lib.hid hbd
                  clear hbd hVD v0c b3 f6 f7 f8
                  go_wp2
                  go_loopw [107] (fun qv wy => ∃ q : Nat, qv = .int .i64 (q : Int) ∧ q ≤ nl ∧ Hid (Below V.heap.size V wy) ∧ Hid (∀ d (h : d < q) (h2 : d < ss.length), decide (takenN G ss[d] = 0) = false)) (fun qv _ => nl - (intOf qv).toNat)
                  case atStart => exact ⟨0, rfl, Nat.zero_le _, HBD0, Lib.hid (fun d h => by omega)⟩
                  case round =>
                    obtain ⟨q, rfl, hq2, hBW, hAll⟩ := hrel
                    by_cases hql : q < nl
                    · have hqs : q < ss.length := by rw [HNL2.out]; exact hql
                      obtain ⟨gs, offs, e, hgs, hsl2, hcc⟩ := (HRS.out.below hBW.out).elem seatC_len (by decide) hql
                      subst e
                      have hyf := HFT.out _ (List.getElem_mem hqs)
                      obtain ⟨y, hy⟩ : ∃ y, ss[q] = y := ⟨_, rfl⟩
                      have HY := Lib.hid hy
                      rw [hy] at hcc hyf
                      obtain ⟨yn, yl⟩ := y
                      have d0 := hcc 0 (.int .i64 yn) rfl
                      have d1 := hcc 1 (.int .u8 (yl.toNat : Int)) rfl
                      rw [Nat.add_zero] at d0
                      obtain ⟨Y, hYs⟩ : ∃ Y, wr.heap.size = Y := ⟨_, rfl⟩
                      obtain ⟨VY, hVY⟩ : ∃ U, wr.alloc (.cells #[.int .i64 yn, .int .u8 (yl.toNat : Int)] 26) = U := ⟨_, rfl⟩
                      have hbY : Below wr.heap.size wr VY := by rw [← hVY]; exact (Below.refl _ _).alloc (Nat.le_refl _) _
                      have xY : VY.heap[Y]? = some (.cells #[.int .i64 yn, .int .u8 (yl.toNat : Int)] 26 (0, 0)) := by rw [← hVY, ← hYs]; exact heap_alloc_new wr _
                      have hsY := (HSV.out.below hBW.out).below hbY
                      have hYsg : Y ≠ sg := fun e => by
                        obtain ⟨cs, hc⟩ := (HSV.out.below hBW.out).row
                        have := (Array.getElem?_eq_some_iff.1 hc).1
                        omega
                      have y0 : VY.cell? ⟨Y, 0, none⟩ = some (.int .i64 yn) := by rw [cell_of_row _ _ 0 _ _ _ xY]; rfl
                      have y1 : VY.cell? ⟨Y, 1, none⟩ = some (.int .u8 (yl.toNat : Int)) := by rw [cell_of_row _ _ 1 _ _ _ xY]; rfl
                      have k2 := hsY.mp.look (q := ⟨yn, yl⟩) hyf
                      have HSY := Lib.hid hsY
                      have HXY := Lib.hid xY
                      have HBWY := Lib.hid (hBW.out.trans (hbY.mono hBW.out.size))
                      have hqi : (q : Int) < (nl : Int) := by omega
                      have hq0' : (0 : Int) ≤ (q : Int) := by omega
                      have HYF := Lib.hid hyf
                      clear hcc hy hbY xY hsY hyf hBW
                      obtain ⟨tn, htn⟩ : ∃ tn, takenN G ⟨yn, yl⟩ = tn := ⟨_, rfl⟩
                      rw [htn] at k2
                      have HTN := Lib.hid htn
                      clear htn
                      by_cases ht0 : tn = 0
                      · subst ht0
                        have hfirst : firstG G ss = some ⟨yn, yl⟩ := by
                          have := find_first (p := fun s => decide (takenN G s = 0)) ss q hqs (fun d h => hAll.out d h (by omega)) (by rw [HY.out, HTN.out]; rfl)
                          rw [HY.out] at this
                          exact this
                        have HR8 : Hid (gv2 (blocksOf (spotsL l)) ks (j + 1) = (S.set j ⟨yn, yl⟩, G ++ [⟨⟨xc, xf, xi⟩, ⟨yn, yl⟩⟩])) := Lib.hid (by
                          rw [HNX2.out, hfirst])
                        clear hfirst hAll
                        have HW1 : Hid (GvSt w4 ((VY.setCell ⟨sg, j * 2, none⟩ (.int .i64 yn)).setCell ⟨sg, j * 2 + 1, none⟩ (.int .u8 (yl.toNat : Int))) i sg M (S.set j ⟨yn, yl⟩, G)) := Lib.hid (HSY.out.seat hlt ⟨yn, yl⟩)
                        obtain ⟨z0, hz0'⟩ := HSY.out.cell (j := j * 2) (by omega)
                        obtain ⟨z1, hz1'⟩ := HSY.out.cell (j := j * 2 + 1) (by omega)
                        have fz0 := HSY.out.free (j * 2)
                        have fz1 := HSY.out.free (j * 2 + 1)
                        obtain ⟨W1, hW1⟩ : ∃ W, (VY.setCell ⟨sg, j * 2, none⟩ (.int .i64 yn)).setCell ⟨sg, j * 2 + 1, none⟩ (.int .u8 (yl.toNat : Int)) = W := ⟨_, rfl⟩
                        rw [hW1] at HW1
                        have x1 : W1.heap[Y]? = some (.cells #[.int .i64 yn, .int .u8 (yl.toNat : Int)] 26 (0, 0)) := by
                          rw [← hW1]
                          exact box_keep HXY.out (((Upd.refl (fun k => k = sg) VY).setCell ⟨sg, j * 2, none⟩ rfl _).setCell ⟨sg, j * 2 + 1, none⟩ rfl _) hYsg
                        have g3 : W1.cell? ⟨Y, 0, none⟩ = some (.int .i64 yn) := by rw [cell_of_row _ _ 0 _ _ _ x1]; rfl
                        have g4' : W1.cell? ⟨Y, 1, none⟩ = some (.int .u8 (yl.toNat : Int)) := by rw [cell_of_row _ _ 1 _ _ _ x1]; rfl
                        clear x1
                        go_upto_region 25 with (fail)
                        clear hW1 hVY hz0' hz1' fz0 fz1 y0 y1 d0 d1 k2
                        have bd : Below W1.heap.size W1 W1.drew := (Below.refl _ _).drew
                        have hGl : G.length < 1099511627776 := by have := HKL.out; omega
                        have hom := (HW1.out.below bd).mp
                        have k2 := hom.look (q := ⟨yn, yl⟩) HYF.out
                        obtain ⟨v0, st, w7, w8, en, es, el, ut, tk⟩ := hom.more ⟨⟨xc, xf, xi⟩, ⟨yn, yl⟩⟩ HYF.out hGl
                        have htl := takenN_leS G ⟨yn, yl⟩
                        have hwr : IntKind.i64.wrap ((takenN G ⟨yn, yl⟩ : Int) + 1) = (takenN G ⟨yn, yl⟩ : Int) + 1 := IntWalk.i64_in _ (by omega)
                        have HR9 : Hid (GvSt w4 w8 i sg M (gv2 (blocksOf (spotsL l)) ks (j + 1))) := Lib.hid (by
                          rw [HR8.out]
                          exact HW1.out.more ((Upd.of_below (S := fun k => k = M) bd).trans ut (fun _ _ e => e)) tk)
                        clear bd hom ut tk htl
                        go_big_region
                        all_goals go_wp2_with fail
                        all_goals go_roundw
                        all_goals first
                          | exact ⟨j + 1, by go_num, hlt, HR9⟩
                          | (simp [intOf]; try omega)
                      · have hte : ((tn : Int) == 0) = false := beq_false_of_ne (by omega)
                        have HA2 : Hid (∀ d (h : d < q + 1) (h2 : d < ss.length), decide (takenN G ss[d] = 0) = false) := Lib.hid (fun d h h2 => by
                          by_cases e : d = q
                          · subst e
                            rw [HY.out, HTN.out]
                            exact decide_eq_false ht0
                          · exact hAll.out d (by omega) h2)
                        clear hAll ht0
                        go_wp2
                        go_roundw
                        case rel => exact ⟨q + 1, by go_num, hql, HBWY, HA2⟩
                        case measure => (simp [intOf]; try omega)
                    · obtain rfl : q = nl := by omega
                      have hqi : ¬ (q : Int) < (q : Int) := by omega
                      have HR9 : Hid (GvSt w4 wr i sg M (gv2 (blocksOf (spotsL l)) ks (j + 1))) := Lib.hid (by
                        have hn : firstG G ss = none := find_none (fun d hd => hAll.out d (by rw [← HNL2.out]; exact hd) hd)
                        rw [HNX2.out, hn]
                        exact HSV.out.below hBW.out)
                      clear hAll hBW
                      go_wp2
                      go_roundw
                      case rel => exact ⟨j + 1, by go_num, hlt, HR9⟩
                      case measure => (simp [intOf]; try omega)
            · obtain rfl : j = i := by omega
              have hjj : ¬ (j : Int) < (j : Int) := by omega
              have hst := hst.out
              have HBF := Lib.hid (HB4.out.trans (hst.bel.mono HB4.out.size))
              have HOF : Hid (wr.ownsRow w.heap.size 26 2 (.slice (some ⟨sg, 0, none⟩) j j) rs.length (catv seatC (seatPl l rs))) := Lib.hid (by
                rw [HFIN.out, HN.out]
                exact own_mono hst.own HB4.out.size)
              clear hst
              go_wp2
              go_ret2
              refine ⟨HBF.out, ?_⟩
              rw [if_neg HE.out, if_neg HLT.out]
              exact ⟨_, rfl, HOF.out⟩
end Go.Proofs.YtppjpledjhinbaaDoor
