/- The reference's Olds, walked. -/
import Derived.Test.YtppjpledjhinbaaDoorJRsFin
import Derived.Test.YtppjpledjhinbaaDoorJRsSeat
namespace Go.Proofs.YtppjpledjhinbaaDoor
open Go.RowKit Go.Lib
/-- Which seats were seen. -/
def OldMap (w : World) (b n : Nat) (R : List MSit) : Prop := ∃ s, VMap Tryd.prog 26 seatV (.int .i64 0) w b n (fun q => .int .i64 (if takenN R q = 0 then 0 else 1)) s
section
variable {w w' : World} {b n : Nat} {R : List MSit}
theorem OldMap.upd {S : Nat → Prop} (h : OldMap w b n R) (hu : Upd S w w') (hs : ¬ S b) : OldMap w' b n R := by
  obtain ⟨s, h⟩ := h
  exact ⟨s, h.upd hu hs⟩
theorem OldMap.not_cells (h : OldMap w b n R) {g : Nat} {cs : Array Value} {t : TypeId} {f : Nat × Nat} (hg : w.heap[g]? = some (.cells cs t f)) : g ≠ b := by
  rintro rfl
  obtain ⟨s, h⟩ := h
  obtain ⟨_, _, a⟩ := h.isMap
  rw [a] at hg
  cases hg
theorem OldMap.look (h : OldMap w b n R) {q : MSeat} (hq : q.fits) : (Instr.lookup 84 (.map (some b)) (.agg #[.int .i64 q.num, .int .u8 (q.ltr.toNat : Int)]) false).run Tryd.prog w = .ok (.int .i64 (if takenN R q = 0 then 0 else 1)) w := by
  obtain ⟨s, h⟩ := h
  obtain ⟨kl, hk⟩ := seatKey q hq
  exact h.look seatKeyed Tryd.underlying84 (zeroI w) hk
theorem OldMap.put (h : OldMap w b n R) (x : MSit) (hq : x.seat.fits) (hn : n < 1099511627776) :
    ∃ w2, (Instr.mapUpdate 84 (.map (some b)) (.agg #[.int .i64 x.seat.num, .int .u8 (x.seat.ltr.toNat : Int)]) (.int .i64 1)).run Tryd.prog w = .ok () w2 ∧ OldMap w2 b (n + 1) (R ++ [x]) ∧ Upd (fun i => i = b) w w2 := by
  obtain ⟨s, h⟩ := h
  obtain ⟨kl, hk⟩ := seatKey x.seat hq
  obtain ⟨w2, e, v, hu⟩ := h.put seatKeyed seatInj Tryd.underlying84 (by unfold maxLen; omega) hk (.int .i64 1)
  refine ⟨w2, e, ⟨fun q => if q = x.seat then true else s q, ?_⟩, hu⟩
  have e2 : (fun q => Value.int .i64 (if takenN (R ++ [x]) q = 0 then 0 else 1)) = fun q => if q = x.seat then Value.int .i64 1 else .int .i64 (if takenN R q = 0 then 0 else 1) := by
    funext q
    rw [takenN_snoc]
    by_cases h : q = x.seat
    · rw [if_pos h, if_pos h, if_neg (by omega)]
    · rw [if_neg h, if_neg h]
  rw [e2]
  exact v
end
/-- The old seats, of the first so many. -/
def oldsS (rs : List MSit) (i : Nat) : List MSeat := rs.mapIdx fun j x => if j < i ∧ takenN (rs.take j) x.seat = 0 then x.seat else seatZ
theorem oldsS_len (rs : List MSit) (i : Nat) : (oldsS rs i).length = rs.length := by simp [oldsS]
theorem oldsS_zero (rs : List MSit) : oldsS rs 0 = List.replicate rs.length seatZ := by
  apply List.ext_getElem
  · simp [oldsS]
  · intro j h1 h2; simp [oldsS]
theorem oldsS_all (rs : List MSit) : oldsS rs rs.length = oldsL rs := by
  apply List.ext_getElem
  · simp [oldsS, oldsL]
  · intro j h1 h2
    have : j < rs.length := by simpa [oldsS] using h1
    simp [oldsS, oldsL, this]
theorem oldsS_next (rs : List MSit) {i : Nat} (hi : i < rs.length) : oldsS rs (i + 1) = if takenN (rs.take i) rs[i].seat = 0 then (oldsS rs i).set i rs[i].seat else oldsS rs i := by
  apply List.ext_getElem
  · split <;> simp [oldsS]
  · intro j h1 h2
    have hj : j < rs.length := by simpa [oldsS] using h1
    by_cases ht : takenN (rs.take i) rs[i].seat = 0
    · simp only [if_pos ht]
      rw [List.getElem_set]
      simp only [oldsS, List.getElem_mapIdx]
      by_cases e : i = j
      · subst e; simp [ht]
      · rw [if_neg e]
        have : (j < i + 1) = (j < i) := by simp only [eq_iff_iff]; omega
        simp only [this]
    · simp only [if_neg ht]
      simp only [oldsS, List.getElem_mapIdx]
      by_cases e : i = j
      · subst e; simp [ht]
      · have : (j < i + 1) = (j < i) := by simp only [eq_iff_iff]; omega
        simp only [this]
/-- While the old seats are gathered. -/
structure OdSt (w wx : World) (n sg M N : Nat) (S : List MSeat) (R : List MSit) : Prop where
  own : wx.ownsRow w.heap.size 26 2 (.slice (some ⟨sg, 0, none⟩) n n) n (catv seatC S)
  mp : OldMap wx M N R
  bel : Below w.heap.size w wx
  lo : w.heap.size ≤ M
section
variable {w wx wy : World} {n sg M N : Nat} {S : List MSeat} {R : List MSit}
theorem OdSt.below (h : OdSt w wx n sg M N S R) (hb : Below wx.heap.size wx wy) : OdSt w wy n sg M N S R :=
  ⟨own_below h.own hb, h.mp.upd (Upd.of_below (S := fun _ => False) hb) id, h.bel.trans (hb.mono h.bel.size), h.lo⟩
theorem OdSt.row (h : OdSt w wx n sg M N S R) : ∃ cs, wx.heap[sg]? = some (.cells cs 26 (0, 0)) := own_typed h.own rfl
theorem OdSt.ne (h : OdSt w wx n sg M N S R) : sg ≠ M := by
  obtain ⟨cs, hc⟩ := h.row
  exact h.mp.not_cells hc
theorem OdSt.slo (h : OdSt w wx n sg M N S R) : w.heap.size ≤ sg := (h.own.lt sg rfl).1
theorem OdSt.len (h : OdSt w wx n sg M N S R) : S.length = n := by
  have := h.own.1
  rw [catv_length seatC_len] at this
  omega
theorem OdSt.seat (h : OdSt w wx n sg M N S R) {i : Nat} (hi : i < n) (x : MSeat) : OdSt w ((wx.setCell ⟨sg, i * 2, none⟩ (.int .i64 x.num)).setCell ⟨sg, i * 2 + 1, none⟩ (.int .u8 (x.ltr.toNat : Int))) n sg M N (S.set i x) R := by
  have hl := h.len
  have hu : Upd (fun k => k = sg) wx ((wx.setCell ⟨sg, i * 2, none⟩ (.int .i64 x.num)).setCell ⟨sg, i * 2 + 1, none⟩ (.int .u8 (x.ltr.toNat : Int))) := ((Upd.refl (fun k => k = sg) wx).setCell ⟨sg, i * 2, none⟩ rfl _).setCell ⟨sg, i * 2 + 1, none⟩ rfl _
  have hil : i < S.length := by omega
  have o1 := own_set (own_set h.own (i * 2) (by omega) (.int .i64 x.num)) (i * 2 + 1) (by omega) (.int .u8 (x.ltr.toNat : Int))
  have e1 := catv_set seatC_len S i hil 0 (by decide) (.int .i64 x.num) ⟨x.num, S[i].ltr⟩ rfl
  have e2 := catv_set seatC_len (S.set i ⟨x.num, S[i].ltr⟩) i (by simpa using hil) 1 (by decide) (.int .u8 (x.ltr.toNat : Int)) x (by simp [seatC])
  rw [Nat.add_zero] at e1
  rw [e1, e2, List.set_set] at o1
  exact ⟨o1, h.mp.upd hu (fun e => h.ne e.symm), h.bel.trans (hu.below (fun k hk e => by have := h.slo; omega) h.bel.size), h.lo⟩
theorem OdSt.more {N' : Nat} {R' : List MSit} (h : OdSt w wx n sg M N S R) (hu : Upd (fun k => k = M) wx wy) (ht : OldMap wy M N' R') : OdSt w wy n sg M N' S R' :=
  ⟨own_upd h.own hu (fun k e e2 => h.ne ((Option.some.inj e).trans e2)), ht, h.bel.trans (hu.below (fun k hk e => by have := h.lo; omega) h.bel.size), h.lo⟩
theorem OdSt.free (h : OdSt w wx n sg M N S R) (j : Nat) : wx.frozen? ⟨sg, j, none⟩ = false := by
  obtain ⟨cs, hc⟩ := h.row
  exact frozen_of_row _ _ _ _ _ hc
theorem OdSt.cell (h : OdSt w wx n sg M N S R) {j : Nat} (hj : j < n * 2) : ∃ u, wx.cell? ⟨sg, j, none⟩ = some u := by
  obtain ⟨ad, e, _, hc⟩ := (Rd.own h.own).at_ (by omega)
  injection e with e
  subst e
  have hl := h.own.1
  have := hc j _ (List.getElem?_eq_getElem (by omega))
  rw [add_zero_off] at this
  exact ⟨_, this⟩
end
set_option maxHeartbeats 4000000 in
set_option maxRecDepth 20000 in
theorem rolds_any (w : World) (A : Option Addr) (n c : Nat) (rs : List MSit) (hr : Rd w w.heap.size 5 A n (catv sitC rs)) (hf : ∀ x ∈ rs, x.seat.fits) (hn : n ≤ 1048576) :
    Calls Tryd.prog 24 #[.slice A n c] w fun e w' => ∃ v, e = .returned v ∧ w'.ownsRow w.heap.size 26 2 v n (catv seatC (oldsL rs)) ∧ Below w.heap.size w w' := by
  obtain ⟨i0, hi0, hz0, hz1, hz2⟩ := info_parts seat_info
  have HNL := Lib.hid (rd_catlen sitC_len (by decide) hr)
  have HR := Lib.hid hr
  have HF := Lib.hid hf
  clear hr hf
  go_enter Tryd.func24, Tryd.ntmps24
  go_wp2_with (at_make; refine wpList_make_full _ rfl _ _ 35 rfl w.heap.size 26 i0 (.agg #[.int .i64 0, .int .u8 0]) 2 Tryd.underlying35 hi0 hz0 hz1 .i64 .i64 _ _ n rfl rfl ?c1 ?c2 ?c3 ?c4 ?c5 ?_)
  case c1 => rfl
  case c2 => rfl
  case c3 => rw [hz2]; omega
  case c4 => unfold maxLen; omega
  case c5 => exact Nat.le_refl _
  intro w5 ho5 hg5
  rw [made_seats] at ho5
  have hb5 : Below w.heap.size w w5 := (Upd.of_grown hg5).below (fun k hk e => by cases e) (Nat.le_refl _)
  have hmm := @run_makeMap Tryd.prog
  have hbM : Below w5.heap.size w5 (w5.alloc (.map #[] 0)) := (Below.refl _ _).alloc (Nat.le_refl _) _
  obtain ⟨sg, hsg⟩ : ∃ sg, w.heap.size = sg := ⟨_, rfl⟩
  have h0 : OdSt w (w5.alloc (.map #[] 0)) n sg w5.heap.size 0 (oldsS rs 0) [] := by
    rw [oldsS_zero, ← HNL.out, ← hsg]
    refine ⟨own_below ho5 hbM, ⟨fun _ => false, ?_⟩, hb5.trans (hbM.mono hb5.size), hb5.size⟩
    have := VMap.made (P := Tryd.prog) (k := 26) (kv := seatV) (z := .int .i64 0) w5
    simpa [takenN] using this
  have H0 := Lib.hid h0
  have HSG := Lib.hid hsg
  obtain ⟨M, hM⟩ : ∃ M, w5.heap.size = M := ⟨_, rfl⟩
  rw [hM] at H0
  clear ho5 hg5 hb5 hbM h0
  rw [hsg]
  go_wp2
  clear hM hmm
  go_loopw [13] (fun iv wx => ∃ i : Nat, iv = .int .i64 (i : Int) ∧ i ≤ n ∧ Hid (OdSt w wx n sg M i (oldsS rs i) (rs.take i))) (fun iv _ => n - (intOf iv).toNat)
  case atStart => exact ⟨0, rfl, Nat.zero_le _, H0⟩
  case round =>
    obtain ⟨i, rfl, hi, hst⟩ := hrel
    by_cases hlt : i < n
    · have hir : i < rs.length := by rw [← HNL.out]; exact hlt
      obtain ⟨gb, off, e, hgb, hsl, hcc⟩ := (HR.out.below hst.out.bel).elem sitC_len (by decide) hlt
      subst e
      have hxf := HF.out rs[i] (List.getElem_mem hir)
      have hnext := oldsS_next rs hir
      have htk := List.take_succ_eq_append_getElem hir
      obtain ⟨x, hx⟩ : ∃ x, rs[i] = x := ⟨_, rfl⟩
      rw [hx] at hcc hxf hnext htk
      obtain ⟨⟨xc, xf, xi⟩, ⟨xn, xl⟩⟩ := x
      have c0 := hcc 0 (.int .i64 xc) rfl
      have c1 := hcc 1 (.bool xf) rfl
      have c2' := hcc 2 (.bool xi) rfl
      have c3 := hcc 3 (.int .i64 xn) rfl
      have c4 := hcc 4 (.int .u8 (xl.toNat : Int)) rfl
      rw [Nat.add_zero] at c0
      obtain ⟨X, hX⟩ : ∃ X, wr.heap.size = X := ⟨_, rfl⟩
      obtain ⟨V, hV⟩ : ∃ V, wr.alloc (.cells #[.int .i64 xc, .bool xf, .bool xi, .int .i64 xn, .int .u8 (xl.toNat : Int)] 30) = V := ⟨_, rfl⟩
      have hbV : Below wr.heap.size wr V := by rw [← hV]; exact (Below.refl _ _).alloc (Nat.le_refl _) _
      have xV : V.heap[X]? = some (.cells #[.int .i64 xc, .bool xf, .bool xi, .int .i64 xn, .int .u8 (xl.toNat : Int)] 30 (0, 0)) := by rw [← hV, ← hX]; exact heap_alloc_new wr _
      have hsV := hst.out.below hbV
      obtain ⟨S, hS⟩ : ∃ S, oldsS rs i = S := ⟨_, rfl⟩
      obtain ⟨R, hR⟩ : ∃ R, rs.take i = R := ⟨_, rfl⟩
      rw [hS, hR] at hsV hnext
      rw [hR] at htk
      have HNX := Lib.hid (And.intro hnext htk)
      have HSV := Lib.hid hsV
      have HXV := Lib.hid xV
      have HXF := Lib.hid hxf
      have f3 : V.cell? ⟨X, 3, none⟩ = some (.int .i64 xn) := by rw [cell_of_row _ _ 3 _ _ _ xV]; rfl
      have f4 : V.cell? ⟨X, 4, none⟩ = some (.int .u8 (xl.toNat : Int)) := by rw [cell_of_row _ _ 4 _ _ _ xV]; rfl
      have hlk := hsV.mp.look (q := ⟨xn, xl⟩) hxf
      have hii : (i : Int) < (n : Int) := by omega
      have hi0' : (0 : Int) ≤ (i : Int) := by omega
      have hXM : X ≠ M := hsV.mp.not_cells xV
      have hXs : X ≠ sg := fun e => by
        obtain ⟨cs, hc⟩ := hst.out.row
        have := (Array.getElem?_eq_some_iff.1 hc).1
        omega
      clear hcc hx hnext htk hbV xV hS hR hxf hsV hst hsl
      by_cases ht : takenN R ⟨xn, xl⟩ = 0
      · rw [if_pos ht] at hlk
        have HS1 : Hid (OdSt w ((V.setCell ⟨sg, i * 2, none⟩ (.int .i64 xn)).setCell ⟨sg, i * 2 + 1, none⟩ (.int .u8 (xl.toNat : Int))) n sg M i (oldsS rs (i + 1)) R) := Lib.hid (by
          rw [HNX.out.1]; simp only [if_pos ht]; exact HSV.out.seat hlt ⟨xn, xl⟩)
        obtain ⟨z0, hz0'⟩ := HSV.out.cell (j := i * 2) (by omega)
        obtain ⟨z1, hz1'⟩ := HSV.out.cell (j := i * 2 + 1) (by omega)
        have fz0 := HSV.out.free (i * 2)
        have fz1 := HSV.out.free (i * 2 + 1)
        obtain ⟨W1, hW1⟩ : ∃ W, (V.setCell ⟨sg, i * 2, none⟩ (.int .i64 xn)).setCell ⟨sg, i * 2 + 1, none⟩ (.int .u8 (xl.toNat : Int)) = W := ⟨_, rfl⟩
        rw [hW1] at HS1
        have x1 : W1.heap[X]? = some (.cells #[.int .i64 xc, .bool xf, .bool xi, .int .i64 xn, .int .u8 (xl.toNat : Int)] 30 (0, 0)) := by
          rw [← hW1]
          exact box_keep HXV.out (((Upd.refl (fun k => k = sg) V).setCell ⟨sg, i * 2, none⟩ rfl _).setCell ⟨sg, i * 2 + 1, none⟩ rfl _) hXs
        have g3 : W1.cell? ⟨X, 3, none⟩ = some (.int .i64 xn) := by rw [cell_of_row _ _ 3 _ _ _ x1]; rfl
        have g4 : W1.cell? ⟨X, 4, none⟩ = some (.int .u8 (xl.toNat : Int)) := by rw [cell_of_row _ _ 4 _ _ _ x1]; rfl
        obtain ⟨w7, hmu, hm7, hu7⟩ := HS1.out.mp.put ⟨⟨xc, xf, xi⟩, ⟨xn, xl⟩⟩ HXF.out (by omega)
        have HS7 : Hid (OdSt w w7 n sg M (i + 1) (oldsS rs (i + 1)) (rs.take (i + 1))) := Lib.hid (by rw [HNX.out.2]; exact HS1.out.more hu7 hm7)
        clear x1 hm7 hu7 ht
        go_wp2
        go_roundw
        case rel => exact ⟨i + 1, by go_num, hlt, HS7⟩
        case measure => (simp [intOf]; try omega)
      · rw [if_neg ht] at hlk
        obtain ⟨w7, hmu, hm7, hu7⟩ := HSV.out.mp.put ⟨⟨xc, xf, xi⟩, ⟨xn, xl⟩⟩ HXF.out (by omega)
        have HS7 : Hid (OdSt w w7 n sg M (i + 1) (oldsS rs (i + 1)) (rs.take (i + 1))) := Lib.hid (by
          rw [HNX.out.1, HNX.out.2]; simp only [if_neg ht]; exact HSV.out.more hu7 hm7)
        clear hm7 hu7 ht
        go_wp2
        go_roundw
        case rel => exact ⟨i + 1, by go_num, hlt, HS7⟩
        case measure => (simp [intOf]; try omega)
    · obtain rfl : i = n := by omega
      have hii : ¬ (i : Int) < (i : Int) := by omega
      have HB := Lib.hid hst.out.bel
      have HO : Hid (wr.ownsRow sg 26 2 (.slice (some ⟨sg, 0, none⟩) i i) i (catv seatC (oldsL rs))) := Lib.hid (by
        have := hst.out.own
        rw [show oldsS rs i = oldsL rs by rw [HNL.out]; exact oldsS_all rs] at this
        exact own_mono this (by have := HSG.out; omega))
      clear hst
      go_wp2
      go_ret
      exact ⟨_, rfl, HO.out, by rw [← HSG.out]; exact HB.out⟩
end Go.Proofs.YtppjpledjhinbaaDoor
