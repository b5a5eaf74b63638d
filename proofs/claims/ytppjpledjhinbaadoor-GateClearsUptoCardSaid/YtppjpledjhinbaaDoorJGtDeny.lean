/- The gate: Deny, walked (printed by wip/tools/gen_deny.py out of wip/in/gtdeny.in). -/
import Derived.Test.YtppjpledjhinbaaDoorJGtGrd
namespace Go.Proofs.YtppjpledjhinbaaDoor
open Go.RowKit Go.Lib
theorem atP_snoc (R : List MSit) (P : List Nat) (i : Nat) : atP R (P ++ [i]) = atP R P ++ [R.getD i ⟨⟨0, false, false⟩, ⟨0, 0⟩⟩] := by simp [atP]
section
variable {W W' : World} {base Q H : Nat} {rv u pv : Value} {I : List MSit} {P : List Int}
theorem QAt.add {u2 : Value} {I2 : List MSit} (h : QAt W base Q H rv u pv I P) (hup : HallUp W W' base H rv u u2 I2) : QAt W' base Q H rv u2 pv I2 P := by
  obtain ⟨n1, n2, n3, n4⟩ := h.ne_u
  refine ⟨box_keep h.box hup.up (fun e => e.elim h.ne n1), h.lo, hup.hall, own_upd h.pl hup.up (fun q e e2 => ?_)⟩
  rcases e2 with e2 | e2
  · exact n4 (e.trans (congrArg some e2))
  · obtain ⟨c1, h1⟩ := own_typed h.pl e
    obtain ⟨c2, h2⟩ := own_typed h.hall.inn e2
    rw [h1] at h2
    simp at h2
theorem QAt.push {p : Int} {w6 : World} {v6 : Value} (h : QAt W base Q H rv u pv I P) (ho : w6.ownsRow base 3 1 v6 (P.length + 1) (P.map (Value.int .i64) ++ [.int .i64 p])) (hu : Upd (fun k => pv.ownBlock = some k) W w6) :
    QAt (w6.setCell ⟨Q, 1, none⟩ v6) base Q H rv u v6 I (P ++ [p]) := by
  obtain ⟨n1, n2, n3, n4⟩ := h.ne_u
  have b6 := box_keep h.box hu n3
  have h6 := box_keep h.hall.box hu n4
  have i6 := own_upd h.hall.inn hu (fun q e e2 => by
    obtain ⟨c1, h1⟩ := own_typed h.hall.inn e
    obtain ⟨c2, h2⟩ := own_typed h.pl e2
    rw [h1] at h2
    simp at h2)
  have u7 : Upd (fun k => k = Q) w6 (w6.setCell ⟨Q, 1, none⟩ v6) := (Upd.refl (fun k => k = Q) w6).setCell ⟨Q, 1, none⟩ rfl _
  have b7 := heap_setCell_same w6 Q 1 _ _ v6 b6
  refine ⟨by simpa using b7, h.lo, ⟨box_keep h6 u7 (Ne.symm h.ne), h.hall.lo, own_upd i6 u7 (fun q e e2 => n1 (by rw [← e2]; exact e))⟩, ?_⟩
  rw [List.length_append, List.length_singleton, List.map_append, List.map_singleton]
  exact own_upd ho u7 (fun q e e2 => by
    obtain ⟨c1, h1⟩ := own_typed ho e
    rw [e2, b6] at h1
    simp at h1)
end
/-- What lies in memory while Deny goes down the order. -/
structure DSt (w wx : World) (Q H BV : Nat) (rv u pv ov : Value) (R : List MSit) (s : List Nat × List Nat) : Prop where
  q : QAt wx w.heap.size Q H rv u pv (atP R s.1) (s.1.map fun i : Nat => (i : Int))
  out : wx.ownsRow w.heap.size 3 1 ov s.2.length (s.2.map fun i : Nat => Value.int .i64 (i : Int))
  apart : ∀ k, ov.ownBlock = some k → pv.ownBlock ≠ some k
  bv : wx.heap[BV]? = some (.cells #[.bool true, .bool false] 4 (0, 0))
  bel : Below w.heap.size w wx
theorem DSt.below {w wx wy : World} {Q H BV : Nat} {rv u pv ov : Value} {R : List MSit} {s : List Nat × List Nat} (h : DSt w wx Q H BV rv u pv ov R s) (hb : Below wx.heap.size wx wy) : DSt w wy Q H BV rv u pv ov R s :=
  ⟨h.q.below hb, own_below h.out hb, h.apart, box_keep h.bv (Upd.of_below (S := fun _ => False) hb) id, h.bel.trans (hb.mono h.bel.size)⟩
theorem drop_below {w0 w w' : World} {Q H : Nat} {rv u pv : Value} {I I' : List MSit} {P P' : List Int} {b : Bool} (h : QAt w w0.heap.size Q H rv u pv I P) (hd : DropAns w w0.heap.size Q H rv u pv I I' P P' b w') (hb : Below w0.heap.size w0 w) : Below w0.heap.size w0 w' :=
  hb.trans (hd.1.below (fun k hk e => by
    rcases e with e | e | e
    · have := h.lo; omega
    · have := h.hall.lo; omega
    · have := (h.pl.lt k e).1; omega) hb.size)
/-- Behind a drop that changed nothing. -/
theorem DSt.stay {w wx wy : World} {Q H BV : Nat} {rv u pv ov : Value} {R : List MSit} {s : List Nat × List Nat} {I' : List MSit} {P' : List Int} (h : DSt w wx Q H BV rv u pv ov R s) (hd : DropAns wx w.heap.size Q H rv u pv (atP R s.1) I' (s.1.map fun i : Nat => (i : Int)) P' true wy) : DSt w wy Q H BV rv u pv ov R s := by
  have hb := drop_below h.q hd h.bel
  obtain ⟨hu, h2⟩ := hd
  rw [if_pos rfl] at h2
  obtain ⟨n1, n2, n3, n4⟩ := h.q.ne_u
  refine ⟨h2, own_upd h.out hu (fun k e e2 => ?_), h.apart, box_keep h.bv hu (fun e => ?_), hb⟩
  · obtain ⟨c1, h1⟩ := own_typed h.out e
    rcases e2 with e2 | e2 | e2
    · rw [e2, h.q.box] at h1; simp at h1
    · rw [e2, h.q.hall.box] at h1; simp at h1
    · exact h.apart k e e2
  · rcases e with e | e | e
    · have h1 := h.bv; rw [e, h.q.box] at h1; simp at h1
    · have h1 := h.bv; rw [e, h.q.hall.box] at h1; simp at h1
    · obtain ⟨c1, h1⟩ := own_typed h.q.pl e
      rw [h.bv] at h1; simp at h1
/-- Behind a drop that let one go, ahead of its place's being noted. -/
theorem DSt.gone {w wx wy : World} {Q H BV : Nat} {rv u pv ov : Value} {R : List MSit} {s : List Nat × List Nat} {I' : List MSit} {P' : List Int} {p : Nat} (h : DSt w wx Q H BV rv u pv ov R s) (hd : DropAns wx w.heap.size Q H rv u pv (atP R s.1) I' (s.1.map fun i : Nat => (i : Int)) P' false wy) {s1 : List Nat} (hI : I' = atP R s1) (hP : P' = s1.map fun i : Nat => (i : Int)) :
    ∃ u' pv', DSt w wy Q H BV rv u' pv' ov R (s1, s.2) := by
  have hb := drop_below h.q hd h.bel
  obtain ⟨hu, h2⟩ := hd
  rw [if_neg (by decide)] at h2
  obtain ⟨u', pv', h2, h3⟩ := h2
  subst hI hP
  obtain ⟨n1, n2, n3, n4⟩ := h.q.ne_u
  refine ⟨u', pv', h2, own_upd h.out hu (fun k e e2 => ?_), fun k e => by rw [h3]; exact h.apart k e, box_keep h.bv hu (fun e => ?_), hb⟩
  · obtain ⟨c1, h1⟩ := own_typed h.out e
    rcases e2 with e2 | e2 | e2
    · rw [e2, h.q.box] at h1; simp at h1
    · rw [e2, h.q.hall.box] at h1; simp at h1
    · exact h.apart k e e2
  · rcases e with e | e | e
    · have h1 := h.bv; rw [e, h.q.box] at h1; simp at h1
    · have h1 := h.bv; rw [e, h.q.hall.box] at h1; simp at h1
    · obtain ⟨c1, h1⟩ := own_typed h.q.pl e
      rw [h.bv] at h1; simp at h1
/-- The place is noted. -/
theorem DSt.note {w wx w6 : World} {Q H BV : Nat} {rv u pv ov v6 : Value} {R : List MSit} {s1 : List Nat} {out : List Nat} {p : Nat} (h : DSt w wx Q H BV rv u pv ov R (s1, out)) (ho : w6.ownsRow w.heap.size 3 1 v6 (out.length + 1) ((out.map fun i : Nat => Value.int .i64 (i : Int)) ++ [.int .i64 (p : Int)])) (hu : Upd (fun k => ov.ownBlock = some k) wx w6) (hat : RowAt wx ov v6) :
    DSt w w6 Q H BV rv u pv v6 R (s1, out ++ [p]) := by
  have ho0 := h.out
  have hty : ∀ k cs t, wx.heap[k]? = some (Obj.cells cs t (0, 0)) → t ≠ 3 → ¬ ov.ownBlock = some k := fun k cs t h1 h2 e => by
    obtain ⟨c2, h3⟩ := own_typed ho0 e
    rw [h1] at h3
    injection h3 with h3
    injection h3 with _ h4
    exact h2 h4
  refine ⟨⟨box_keep h.q.box hu (hty _ _ _ h.q.box (by decide)), h.q.lo, ⟨box_keep h.q.hall.box hu (hty _ _ _ h.q.hall.box (by decide)), h.q.hall.lo, own_upd h.q.hall.inn hu (fun k e => by
    obtain ⟨c1, h1⟩ := own_typed h.q.hall.inn e
    exact hty _ _ _ h1 (by decide))⟩, own_upd h.q.pl hu (fun k e e2 => h.apart k e2 e)⟩, ?_, fun k e e2 => ?_, box_keep h.bv hu (hty _ _ _ h.bv (by decide)), h.bel.trans (hu.below (fun q hq e => by have := (ho0.lt q e).1; omega) h.bel.size)⟩
  · simp only [List.length_append, List.length_singleton, List.map_append, List.map_singleton]
    exact ho
  · have hpl := (h.q.pl.lt k e2).2
    rcases hat with hat | ⟨q', h1, h2⟩
    · rw [hat] at e
      exact h.apart k e e2
    · rw [h2] at e
      injection e with e
      omega
def DenyAns (w : World) (l : List MRow) (cs : List MCand) (e : Ending) (w' : World) : Prop :=
  Below w.heap.size w w' ∧
  if errC l ≠ 0 then e = .returned (.tuple #[.slice none 0 0, .int .i64 (errC l)])
  else if 20 < cs.length then e = .returned (.tuple #[.slice none 0 0, .int .i64 26])
  else ∃ v, e = .returned (.tuple #[v, .int .i64 0]) ∧ w'.ownsRow w.heap.size 3 1 v (den2 l cs).2.length ((den2 l cs).2.map fun i : Nat => Value.int .i64 (i : Int))
/-- The state ahead of round j. -/
noncomputable def denS (l : List MRow) (cs : List MCand) (j : Nat) : List Nat × List Nat := if j = 0 then (List.range cs.length, []) else if j = 1 then den1 l cs else den2 l cs
def vAt (j : Nat) : Bool := decide (j = 0)
theorem denS_rnd (l : List MRow) (cs : List MCand) {j : Nat} (hj : j < 2) : DRnd cs (vAt j) (denS l cs j) := by
  obtain rfl | rfl : j = 0 ∨ j = 1 := by omega
  · exact rnd1 cs
  · exact rnd2 l cs
theorem denS_next (l : List MRow) (cs : List MCand) {j : Nat} (hj : j < 2) : dMid l cs (vAt j) (denS l cs j) 0 = denS l cs (j + 1) := by
  obtain rfl | rfl : j = 0 ∨ j = 1 := by omega
  · rfl
  · rfl
theorem dMid_top (l : List MRow) (cs : List MCand) (v : Bool) (s : List Nat × List Nat) : dMid l cs v s cs.length = s := by unfold dMid; rw [seqV_top]; rfl
set_option maxHeartbeats 8000000 in
set_option maxRecDepth 20000 in
theorem deny_any (w : World) (mm : Int) (A : Option Addr) (n c : Nat) (l : List MRow) (hr : Rd w w.heap.size 5 A n (catv rowC l)) (hf : ∀ r ∈ l, r.fits) (hLib : LibAt w mm) (A1 : Option Addr) (n1 c1 : Nat) (cs : List MCand) (hr1 : Rd w w.heap.size 4 A1 n1 (catv candC cs)) (hn1 : n1 ≤ 1099511627776) :
    Calls Tryd.prog 28 #[.slice A n c, .slice A1 n1 c1] w (DenyAns w l cs) := by
  obtain ⟨i0, hi0, hz0, hz1, hz2⟩ := info_parts int_infoG
  have hl1 := rd_catlen candC_len (by decide) hr1
  have HEN := Lib.hid (enter_any w mm A n c l (n1 : Int) hr hf hLib)
  have HR := Lib.hid hr
  have HF := Lib.hid hf
  have HLB := Lib.hid hLib
  have HR1 := Lib.hid hr1
  have HNN := Lib.hid hl1
  clear hr hf hLib hr1 hl1
  go_enter Tryd.func28, Tryd.ntmps28
  go_wp2_with fail
  refine HEN.out.mono ?_
  rintro e w1 ⟨hb1, hcase⟩
  by_cases hE : errC l ≠ 0
  · rw [if_pos hE] at hcase
    obtain rfl : e = _ := hcase
    obtain ⟨E, hE1⟩ : ∃ E, errC l = E := ⟨_, rfl⟩
    rw [hE1] at hE ⊢
    have HE1 := Lib.hid hE1
    have hEi : ¬ E = 0 := hE
    have HB1 := Lib.hid hb1
    clear hb1 HEN hE1
    go_wp2
    go_ret2
    refine ⟨HB1.out, ?_⟩
    rw [if_pos (by rw [HE1.out]; exact hE), HE1.out]
    rfl
  · rw [if_neg hE] at hcase
    by_cases hlt : (20 : Int) < (n1 : Int)
    · rw [if_pos hlt] at hcase
      obtain rfl : e = _ := hcase
      have HB1 := Lib.hid hb1
      have HE := Lib.hid hE
      have HK := Lib.hid (show 20 < cs.length by have := HNN.out; omega)
      clear hb1 HEN hE hlt
      go_wp2
      go_ret2
      refine ⟨HB1.out, ?_⟩
      rw [if_neg HE.out, if_pos HK.out]
      rfl
    · rw [if_neg hlt] at hcase
      obtain ⟨H, rfl, hh⟩ := hcase
      have hE0 : errC l = 0 := Classical.byContradiction hE
      have hw20 : n1 ≤ 20 := by omega
      obtain ⟨R, hR⟩ : ∃ R, cs.map rdr = R := ⟨_, rfl⟩
      have hRl : R.length = n1 := by rw [← hR, List.length_map]; exact HNN.out.symm
      obtain ⟨Q, hQ⟩ : ∃ Q, w1.heap.size = Q := ⟨_, rfl⟩
      have hnw := heap_alloc_new w1 (.cells #[.pointer (some ⟨H, 0, none⟩), .slice none 0 0] 115)
      have hba := (Below.refl w1.heap.size w1).alloc (Nat.le_refl _) (.cells #[.pointer (some ⟨H, 0, none⟩), .slice none 0 0] 115)
      rw [hQ] at hnw
      have HQ0 : Hid (QAt (w1.alloc (.cells #[.pointer (some ⟨H, 0, none⟩), .slice none 0 0] 115)) w.heap.size Q H (.slice A n c) (.slice none 0 0) (.slice none 0 0) [] []) := Lib.hid ⟨hnw, by rw [← hQ]; exact hb1.size, hh.below hba, World.ownsRow_nil _ _ _ _⟩
      have HB0 := Lib.hid (hb1.trans (hba.mono hb1.size))
      have HRR := Lib.hid (And.intro hR hRl)
      have HE0 := Lib.hid hE0
      have HE := Lib.hid hE
      have HWL := Lib.hid (show ¬ 20 < cs.length by have := HNN.out; omega)
      clear hb1 HEN hE hh hE0 hlt hba hnw hR hRl
      go_wp2
      go_loopw [30] (fun iv wx => ∃ (k : Nat) (u pv : Value), iv = .int .i64 (k : Int) ∧ k ≤ n1 ∧ Hid (QAt wx w.heap.size Q H (.slice A n c) u pv (atP R (List.range k)) ((List.range k).map fun i : Nat => (i : Int))) ∧ Hid (Below w.heap.size w wx)) (fun iv _ => n1 - (intOf iv).toNat)
      case atStart => exact ⟨0, .slice none 0 0, .slice none 0 0, rfl, Nat.zero_le _, HQ0, HB0⟩
      case round =>
        obtain ⟨k, u, pv, rfl, hk, hq, hB⟩ := hrel
        by_cases hlt : k < n1
        · obtain ⟨gb, off, rfl, hgb, hsl, hcc⟩ := (HR1.out.below hB.out).elem candC_len (by decide) hlt
          obtain ⟨x, hx⟩ : ∃ x, cs[k] = x := ⟨_, rfl⟩
          rw [hx] at hcc
          have c0 := hcc 0 (.int .i64 x.who.cab) rfl
          have c1' := hcc 1 (.bool x.who.fit) rfl
          have c2' := hcc 2 (.bool x.who.inf) rfl
          have c3' := hcc 3 (.bool x.vol) rfl
          rw [Nat.add_zero] at c0
          obtain ⟨P, hP⟩ : ∃ P, (List.range k).map (fun i : Nat => (i : Int)) = P := ⟨_, rfl⟩
          have hPl : P.length = k := by rw [← hP]; simp
          obtain ⟨I, hI⟩ : ∃ I, atP R (List.range k) = I := ⟨_, rfl⟩
          have hIl : I.length = k := by rw [← hI, atP_len]; simp
          have hPn : (List.range (k + 1)).map (fun i : Nat => (i : Int)) = P ++ [(k : Int)] := by rw [List.range_succ, List.map_append, hP]; rfl
          have hIn : atP R (List.range (k + 1)) = I ++ [rider x.who] := by
            rw [List.range_succ, atP_snoc, hI, ← HRR.out.1, List.getD_eq_getElem?_getD, List.getElem?_map, List.getElem?_eq_getElem hsl, hx]; rfl
          rw [hP, hI] at hq
          obtain ⟨X, hX⟩ : ∃ X, wr.heap.size = X := ⟨_, rfl⟩
          obtain ⟨wq, hV⟩ : ∃ V, wr.alloc (.cells #[.int .i64 x.who.cab, .bool x.who.fit, .bool x.who.inf, .bool x.vol] 69) = V := ⟨_, rfl⟩
          have hbV : Below wr.heap.size wr wq := by rw [← hV]; exact (Below.refl _ _).alloc (Nat.le_refl _) _
          have hxV : wq.heap[X]? = some (.cells #[.int .i64 x.who.cab, .bool x.who.fit, .bool x.who.inf, .bool x.vol] 69 (0, 0)) := by rw [← hV, ← hX]; exact heap_alloc_new wr _
          have hqV := hq.out.below hbV
          have hBV := hB.out.trans (hbV.mono hB.out.size)
          have hne := hqV.ne_u
          have hQH := hqV.ne
          have hXl : X < wq.heap.size := (Array.getElem?_eq_some_iff.1 hxV).1
          have hXu : ∀ q, u.ownBlock = some q → q ≠ X := fun q e => by have := (hq.out.hall.inn.lt q e).2; omega
          have hXH : X ≠ H := by have := hq.out.hall.hlt; omega
          have hbb := Below.refl wq.heap.size wq
          have MK : Hid (∀ U, Upd (fun q => q = H ∨ u.ownBlock = some q) wq U → (fun U => U.cell? ⟨Q, 0, none⟩ = some (.pointer (some ⟨H, 0, none⟩)) ∧ U.cell? ⟨X, 0, none⟩ = some (.int .i64 x.who.cab) ∧ U.cell? ⟨X, 1, none⟩ = some (.bool x.who.fit) ∧ U.cell? ⟨X, 2, none⟩ = some (.bool x.who.inf)) U) := Lib.hid (fun U hU => by
            have h9 := box_keep hxV hU (fun h => by rcases h with h | h; exact hXH h; exact hXu _ h rfl)
            have hq9 := box_keep hqV.box hU (fun h => by rcases h with h | h; exact hQH h; exact hne.1 h)
            refine ⟨?_, ?_, ?_, ?_⟩
            · rw [cell_of_row _ _ _ _ _ _ hq9]; rfl
            all_goals (rw [cell_of_row _ _ _ _ _ _ h9]; rfl))
          have ud : Upd (fun q => q = H ∨ u.ownBlock = some q) wq wq.drew := (Upd.refl _ wq).drewN 1
          obtain ⟨wa, hwa⟩ : ∃ V, wq.drew.alloc (.cells #[.int .i64 x.who.cab, .bool x.who.fit, .bool x.who.inf] 28) = V := ⟨_, rfl⟩
          have ua : Upd (fun q => q = H ∨ u.ownBlock = some q) wq wa := by rw [← hwa]; exact ud.alloc _
          have hba : Below wq.heap.size wq wa := by rw [← hwa]; exact hbb.drew.alloc (Nat.le_refl _) _
          have hya : wa.heap[wq.heap.size]? = some (.cells #[.int .i64 x.who.cab, .bool x.who.fit, .bool x.who.inf] 28 (0, 0)) := by rw [← hwa]; exact heap_alloc_new wq.drew _
          have hyl : wq.heap.size < wa.heap.size := (Array.getElem?_eq_some_iff.1 hya).1
          have hqa := hqV.below hba
          have hrd : Rd wa wa.heap.size 3 (some ⟨wq.heap.size, 0, none⟩) 1 (catv whoC [x.who]) := ⟨rfl, fun _ => ⟨_, rfl, hyl, fun j uu hu => by
            rw [add_zero_off, cell_of_row _ _ _ _ _ _ hya]
            rw [catv_one] at hu
            simpa [whoC] using hu⟩⟩
          have HAD := Lib.hid (hadd_any wa w.heap.size H (.slice A n c) u I hqa.hall (Nat.le_trans hBV.size hba.size) (some ⟨wq.heap.size, 0, none⟩) 1 1 [x.who] hrd (by omega) (fun _ ad e => by
            injection e with e
            subst e
            refine ⟨?_, fun e => ?_⟩
            · have := hqV.hall.hlt
              show wq.heap.size ≠ H
              omega
            · have := (hqV.hall.inn.lt _ e).2
              simp only at this
              omega))
          have HQA := Lib.hid hqa
          have HBA := Lib.hid (hBV.trans (hba.mono hBV.size))
          have HUA := Lib.hid ua
          have HPI := Lib.hid (And.intro hPn hIn)
          have HLN := Lib.hid (And.intro hPl hIl)
          have hki : (k : Int) < (n1 : Int) := by omega
          have hk0 : (0 : Int) ≤ (k : Int) := by omega
          clear hq hcc hx hP hPl hI hIl hPn hIn hbV hxV hqV hBV hne hQH hXl hXu hXH hbb hba hya hyl hqa hrd hgb ua
          go_upto_region 8 with (fail)
          clear hV c0 c1' c2' c3'
          refine wp_region_held_drew (S := fun U => U.cell? ⟨Q, 0, none⟩ = some (.pointer (some ⟨H, 0, none⟩)) ∧ U.cell? ⟨X, 0, none⟩ = some (.int .i64 x.who.cab) ∧ U.cell? ⟨X, 1, none⟩ = some (.bool x.who.fit) ∧ U.cell? ⟨X, 2, none⟩ = some (.bool x.who.inf)) (by kernel_rfl) (by exact MK.out _ ud) (fun hHeld => ?_)
          refine wpAnyH_take (i := 0) (v := ?_) rfl (by kernel_rfl) (by kernel_rfl) (by kernel_rfl) (fun _ _ _ h => h) (Or.inl ⟨by kernel_rfl, ?_⟩) (by assumption) ?_
          rotate_left
          · (intro w hSw; (try dsimp only at hSw); go_simp; try with_reducible rfl)
          try simp only [Act.put, List.getElem_toArray, List.getElem_cons_succ, List.getElem_cons_zero, List.setIfInBounds_toArray, List.set_cons_zero, List.set_cons_succ]
          refine wpAnyH_take (i := 1) (v := ?_) rfl (by kernel_rfl) (by kernel_rfl) (by kernel_rfl) (fun _ _ _ h => h) (Or.inl ⟨by kernel_rfl, ?_⟩) (by assumption) ?_
          rotate_left
          · (intro w hSw; (try dsimp only at hSw); go_simp; try with_reducible rfl)
          try simp only [Act.put, List.getElem_toArray, List.getElem_cons_succ, List.getElem_cons_zero, List.setIfInBounds_toArray, List.set_cons_zero, List.set_cons_succ]
          refine wpAnyH_take (i := 2) (v := ?_) rfl (by kernel_rfl) (by kernel_rfl) (by kernel_rfl) (fun _ _ _ h => h) (Or.inl ⟨by kernel_rfl, ?_⟩) (by assumption) ?_
          rotate_left
          · (intro w hSw; (try dsimp only at hSw); go_simp; try with_reducible rfl)
          try simp only [Act.put, List.getElem_toArray, List.getElem_cons_succ, List.getElem_cons_zero, List.setIfInBounds_toArray, List.set_cons_zero, List.set_cons_succ]
          refine wpAnyH_take (i := 3) (v := ?_) rfl (by kernel_rfl) (by kernel_rfl) (by kernel_rfl) (fun _ _ _ h => h) (Or.inl ⟨by kernel_rfl, ?_⟩) (by assumption) ?_
          rotate_left
          · (intro w hSw; (try dsimp only at hSw); go_simp; try with_reducible rfl)
          try simp only [Act.put, List.getElem_toArray, List.getElem_cons_succ, List.getElem_cons_zero, List.setIfInBounds_toArray, List.set_cons_zero, List.set_cons_succ]
          refine wpAnyH_take (i := 4) (v := ?_) rfl (by kernel_rfl) (by kernel_rfl) (by kernel_rfl) (fun _ _ _ h => h) (Or.inl ⟨by kernel_rfl, ?_⟩) (by assumption) ?_
          rotate_left
          · (intro w hSw; (try dsimp only at hSw); go_simp; try with_reducible rfl)
          try simp only [Act.put, List.getElem_toArray, List.getElem_cons_succ, List.getElem_cons_zero, List.setIfInBounds_toArray, List.set_cons_zero, List.set_cons_succ]
          refine wpAnyH_take (i := 5) (v := ?_) rfl (by kernel_rfl) (by kernel_rfl) (by kernel_rfl) (fun _ _ _ h => h) (Or.inl ⟨by kernel_rfl, ?_⟩) (by assumption) ?_
          rotate_left
          · (intro w hSw; (try dsimp only at hSw); go_simp; try with_reducible rfl)
          try simp only [Act.put, List.getElem_toArray, List.getElem_cons_succ, List.getElem_cons_zero, List.setIfInBounds_toArray, List.set_cons_zero, List.set_cons_succ]
          refine wpAnyH_ready (rs := [6]) (by kernel_rfl) (by simp) ?_
          refine AllReadyH.cons rfl (fun K hK => ?_) AllReadyH.nil
          go_simp
          refine hK.out _ _ (by exact MK.out _ (by first | exact ud | exact HUA.out | assumption)) (fun hHeld => ?_)
          clear hK K
          try simp only [Act.put, List.getElem_toArray, List.getElem_cons_succ, List.getElem_cons_zero, List.setIfInBounds_toArray, List.set_cons_zero, List.set_cons_succ]
          clear hwa ud
          refine wpAnyH_ready (rs := [7]) (by kernel_rfl) (by simp) ?_
          refine AllReadyH.cons rfl (fun K hK => ?_) AllReadyH.nil
          go_simp
          go_at_call 46
          refine HAD.out.mono ?_
          rintro e w4 ⟨rfl, u4, hup⟩
          have hq4 := HQA.out.add hup
          rw [show ([x.who] : List MWho).map rider = [rider x.who] from rfl, ← HPI.out.2] at hq4
          have ub : Upd (fun q => q = H ∨ u.ownBlock = some q) wq w4 := HUA.out.trans hup.up (fun _ _ h => h)
          have hb4 := HBA.out.trans (hup.up.below (fun q hq e => by
            rcases e with e | e
            · have := HQA.out.hall.lo; omega
            · have := (HQA.out.hall.inn.lt q e).1; omega) HBA.out.size)
          have HB4 := Lib.hid hb4
          have HQ4 := Lib.hid hq4
          clear hup hb4 hq4
          go_wp2_with fail
          refine hK.out _ _ (by exact MK.out _ (by first | exact ud | exact HUA.out | assumption)) (fun hHeld => ?_)
          clear hK K
          try simp only [Act.put, List.getElem_toArray, List.getElem_cons_succ, List.getElem_cons_zero, List.setIfInBounds_toArray, List.set_cons_zero, List.set_cons_succ]
          refine wpAnyH_done (by kernel_rfl) ?_ _
          clear hHeld MK ub HUA HQA HBA HAD
          obtain ⟨q0, q1⟩ := HQ4.out.cells
          go_wp2_with (at_builtin; refine wpList_push rfl (.tmp 47) (.tmp 49) 61 rfl w.heap.size 3 i0 _ 1 8 Tryd.underlying61 hi0 hz0 hz1 hz2 rfl (by omega) _ P.length (P.map (Value.int .i64)) #[.int .i64 (k : Int)] rfl (by exact HQ4.out.pl) rfl rfl (by simp [Value.oneCell']) ?k1 ?k2 ?k3 ?_)
          case k1 => have := HLN.out.1; omega
          case k2 => have := HLN.out.1; unfold maxLen; omega
          case k3 => exact HB4.out.size
          intro v6 w6 ho6 hu6 _
          obtain ⟨Ad, kd, rfl⟩ := own_shape ho6
          have HQ6 := Lib.hid (HQ4.out.push ho6 hu6)
          have hb6 := box_keep HQ4.out.box hu6 HQ4.out.ne_u.2.2.1
          have q6 : w6.cell? ⟨Q, 1, none⟩ = some pv := by rw [cell_of_row _ _ 1 _ _ _ hb6]; rfl
          have f6 : w6.frozen? ⟨Q, 1, none⟩ = false := frozen_of_row _ _ _ _ _ hb6
          have HB6 : Hid (Below w.heap.size w (w6.setCell ⟨Q, 1, none⟩ (.slice Ad (P.length + 1) kd))) := Lib.hid ((HB4.out.trans (hu6.below (fun q hq e => by have := (HQ4.out.pl.lt q e).1; omega) HB4.out.size)).trans (((Upd.refl (fun q => q = Q) w6).setCell ⟨Q, 1, none⟩ rfl (.slice Ad (P.length + 1) kd)).below (fun q hq e => by have := HQ4.out.lo; omega) (Nat.le_trans HB4.out.size hu6.size)))
          clear ho6 hu6 hb6 q0 q1
          go_wp2
          go_roundw
          case rel => exact ⟨k + 1, _, _, by go_num, hlt, by rw [HPI.out.1]; exact HQ6, HB6⟩
          case measure => simp [intOf]; omega
        · obtain rfl : k = n1 := by omega
          have hki : ¬ (k : Int) < (k : Int) := by omega
          obtain ⟨BV, hBV⟩ : ∃ X, wr.heap.size = X := ⟨_, rfl⟩
          have hbA := (Below.refl wr.heap.size wr).alloc (Nat.le_refl _) (.cells #[.bool true, .bool false] 4)
          have hya := heap_alloc_new wr (.cells #[.bool true, .bool false] 4)
          rw [hBV] at hya
          have HD0 : Hid (DSt w (wr.alloc (.cells #[.bool true, .bool false] 4)) Q H BV (.slice A n c) u pv (.slice none 0 0) R (denS l cs 0)) := Lib.hid (by
            have e : cs.length = k := HNN.out.symm
            have e2 : denS l cs 0 = (List.range k, []) := by unfold denS; rw [if_pos rfl, e]
            rw [e2]
            exact ⟨hq.out.below hbA, World.ownsRow_nil _ _ _ _, (fun q e => by cases e), hya, hB.out.trans (hbA.mono hB.out.size)⟩)
          clear hq hB hbA hya HQ0 HB0
          have hwk : IntKind.i64.wrap ((k : Int) - 1) = (k : Int) - 1 := IntWalk.i64_in _ (by omega)
          have HWK := Lib.hid hwk
          clear hwk
          go_wp2
          go_loopw [56, 11] (fun jv ov wx => ∃ (j : Nat) (u pv : Value), jv = .int .i64 (j : Int) ∧ j ≤ 2 ∧ Hid (DSt w wx Q H BV (.slice A n c) u pv ov R (denS l cs j))) (fun jv _ _ => 2 - (intOf jv).toNat)
          case atStart => exact ⟨0, u, pv, rfl, by omega, HD0⟩
          case round =>
            obtain ⟨j, u, pv, rfl, hj, hst⟩ := hrel
            clear HD0
            by_cases hlj : j < 2
            · have hjb : wr.cell? ⟨BV, j, none⟩ = some (.bool (vAt j)) := by
                rw [cell_of_row _ _ _ _ _ _ hst.out.bv]
                obtain rfl | rfl : j = 0 ∨ j = 1 := by omega
                · rfl
                · rfl
              obtain ⟨vj, hvj⟩ : ∃ v, vAt j = v := ⟨_, rfl⟩
              rw [hvj] at hjb
              have HVJ := Lib.hid hvj
              have hji : (j : Int) < 2 := by omega
              have hj0 : (0 : Int) ≤ (j : Int) := by omega
              have HRN := Lib.hid (denS_rnd l cs hlj)
              have HNX := Lib.hid (denS_next l cs hlj)
              obtain ⟨s0, hs0⟩ : ∃ s, denS l cs j = s := ⟨_, rfl⟩
              rw [hs0, hvj] at HRN HNX
              rw [hs0] at hst
              have hwk := HWK.out
              clear hvj hs0
              go_wp2
              clear hjb hwk
              go_loopw [14, 11] (fun iv ov wy => ∃ (m : Nat) (z : Int) (u pv : Value), iv = .int .i64 z ∧ z = (m : Int) - 1 ∧ m ≤ k ∧ Hid (DSt w wy Q H BV (.slice A n c) u pv ov R (dMid l cs vj s0 m))) (fun iv _ _ => (intOf iv + 1).toNat)
              case atStart => exact ⟨k, _, u, pv, rfl, rfl, Nat.le_refl _, by rw [HNN.out, dMid_top]; exact hst⟩
              case round =>
                obtain ⟨m, z, u, pv, rfl, hz, hm, hst⟩ := hrel
                cases m with
                | zero =>
                  obtain rfl : z = -1 := by omega
                  clear hz
                  rw [HNX.out] at hst
                  go_wp2
                  go_roundw
                  case rel => exact ⟨j + 1, u, pv, by go_num, hlj, hst⟩
                  case measure => (simp [intOf]; try omega)
                | succ m =>
                  obtain rfl : z = (m : Int) := by omega
                  clear hz
                  have hml : m < cs.length := by rw [← HNN.out]; exact hm
                  obtain ⟨s, hs⟩ : ∃ s, dMid l cs vj s0 (m + 1) = s := ⟨_, rfl⟩
                  have hinv := (dMid_inv (l := l) HRN.out (m + 1)).1
                  rw [hs] at hinv hst
                  have hs20 : s.1.length ≤ 20 := by have := hinv.lenp; have := HNN.out; omega
                  have HFT := Lib.hid (fits_any wr mm A n c l ((HR.out.below hst.out.bel).mono hst.out.bel.size) HF.out (HLB.out.below hst.out.bel) HE0.out w.heap.size H u (atP R s.1) hst.out.q.hall (by rw [← HRR.out.1]; exact atP_fits cs s.1) (by rw [atP_len]; exact hs20))
                  have HS := Lib.hid hs
                  have HIV := Lib.hid (And.intro hinv hs20)
                  obtain ⟨q0, q1⟩ := hst.out.q.cells
                  have hmi : (0 : Int) ≤ (m : Int) := by omega
                  clear hs hinv hs20
                  go_wp2_with fail
                  refine HFT.out.mono ?_
                  rintro e w5 ⟨q, rfl, hq, hb5⟩
                  rw [fitL_is hq]
                  have HS5 := Lib.hid (hst.out.below hb5)
                  clear hq hb5 HFT hst q0 q1
                  cases hfit : fitL l (atP R s.1) with
                  | true =>
                    have HEQ : Hid (DSt w w5 Q H BV (.slice A n c) u pv u11 R (denS l cs (j + 1))) := Lib.hid (by
                      rw [← HNX.out]
                      have h0 := dMid_fit (l := l) (cs := cs) (v := vj) (s0 := s0) (m + 1) 0 (by rw [Nat.zero_add]; exact hml) (by rw [Nat.zero_add, HS.out, HRR.out.1]; exact hfit)
                      rw [h0, Nat.zero_add, HS.out]
                      exact HS5.out)
                    clear hfit HS5
                    go_wp2
                    go_roundw
                    case rel => exact ⟨j + 1, u, pv, by go_num, hlj, HEQ⟩
                    case measure => (simp [intOf]; try omega)
                  | false =>
                    have HFI := Lib.hid hfit
                    clear hfit
                    obtain ⟨gb, off, rfl, hgb, hsl, hcc⟩ := (HR1.out.below HS5.out.bel).elem candC_len (by decide) (show m < k from hm)
                    obtain ⟨x, hx⟩ : ∃ x, cs[m] = x := ⟨_, rfl⟩
                    rw [hx] at hcc
                    have c3' := hcc 3 (.bool x.vol) rfl
                    have hva : volAt cs m = x.vol := by unfold volAt; rw [List.getD_eq_getElem?_getD, List.getElem?_map, List.getElem?_eq_getElem hml, hx]; rfl
                    obtain ⟨xv, hxv⟩ : ∃ v, x.vol = v := ⟨_, rfl⟩
                    rw [hxv] at hva c3'
                    have hmk : (m : Int) < (k : Int) := by omega
                    have hwm : IntKind.i64.wrap ((m : Int) - 1) = (m : Int) - 1 := IntWalk.i64_in _ (by omega)
                    have hnx := dMid_next (l := l) (v := vj) (s0 := s0) hml
                    rw [hva, HS.out, HRR.out.1] at hnx
                    by_cases hvv : xv = vj
                    · subst hvv
                      rw [if_pos rfl] at hnx
                      have hin := dMid_in (l := l) HRN.out hml hva
                      rw [HS.out] at hin
                      obtain ⟨i, hi, hsi, hse, hsn⟩ := erase_place hin
                      unfold dStep at hnx
                      rw [if_neg (by rw [HFI.out]; decide), hse] at hnx
                      have hIe : (atP R s.1).eraseIdx i = atP R (s.1.eraseIdx i) := eraseIdx_mapI _ _ _
                      have hPe : (s.1.map fun i : Nat => (i : Int)).eraseIdx i = (s.1.eraseIdx i).map fun i : Nat => (i : Int) := eraseIdx_mapI _ _ _
                      have hil : i < (s.1.map fun i : Nat => (i : Int)).length := by simpa using hi
                      have hgi : (s.1.map fun i : Nat => (i : Int))[i] = (m : Int) := by rw [List.getElem_map, hsi]
                      have HDR := drop_any w5 mm A n c l ((HR.out.below HS5.out.bel).mono HS5.out.bel.size) HF.out (HLB.out.below HS5.out.bel) HE0.out w.heap.size Q H u pv (atP R s.1) (s.1.map fun i : Nat => (i : Int)) HS5.out.q (by rw [← HRR.out.1]; exact atP_fits cs s.1) (by rw [atP_len, List.length_map]) (by rw [List.length_map]; exact HIV.out.2) HS5.out.bel.size i hil (fun j hj hji => by
                        rw [List.getElem_map, List.getElem_map, hsi]
                        have := hsn j (by simpa using hj) hji
                        omega)
                      rw [hgi, hIe, hPe] at HDR
                      have HDR := Lib.hid HDR
                      have HNY := Lib.hid hnx
                      have HLO : s.2.length ≤ 20 := by have := HIV.out.1.lenp; have := HNN.out; omega
                      clear hcc hx hxv hva hin hsi hse hsn hIe hPe hil hgi hnx hi hgb
                      go_wp2_with fail
                      refine HDR.out.mono ?_
                      rintro e w6 ⟨rfl, hd⟩
                      cases hdd : decide (seatN l (atP R (s.1.eraseIdx i)) < seatN l (atP R s.1)) with
                      | true =>
                        rw [hdd] at hd
                        have HS6 : Hid (DSt w w6 Q H BV (.slice A n c) u pv u11 R (dMid l cs xv s0 m)) := Lib.hid (by
                          have h0 := HNY.out
                          rw [if_pos (of_decide_eq_true hdd)] at h0
                          rw [h0]
                          exact HS5.out.stay hd)
                        clear hd hdd HDR HS5 HNY
                        go_wp2
                        go_roundw
                        case rel => exact ⟨m, _, u, pv, rfl, rfl, by omega, HS6⟩
                        case measure => (simp [intOf]; try omega)
                      | false =>
                        rw [hdd] at hd
                        obtain ⟨u', pv', hs6⟩ := HS5.out.gone (p := m) hd rfl rfl
                        have HS6 := Lib.hid hs6
                        have HNZ : Hid (dMid l cs xv s0 m = (s.1.eraseIdx i, s.2 ++ [m])) := Lib.hid (by
                          have h0 := HNY.out
                          rw [if_neg (of_decide_eq_false hdd)] at h0
                          exact h0)
                        clear hd hdd HDR HS5 HNY hs6
                        go_wp2_with (at_builtin; refine wpList_push rfl (.tmp 87) (.tmp 89) 61 rfl w.heap.size 3 i0 _ 1 8 Tryd.underlying61 hi0 hz0 hz1 hz2 rfl (by omega) _ s.2.length (s.2.map fun i : Nat => Value.int .i64 (i : Int)) #[.int .i64 (m : Int)] rfl (by exact HS6.out.out) rfl rfl (by simp [Value.oneCell']) ?k1 ?k2 ?k3 ?_)
                        case k1 => omega
                        case k2 => unfold maxLen; omega
                        case k3 => exact HS6.out.bel.size
                        intro v7 w7 ho7 hu7 hat7
                        have HS7 : Hid (DSt w w7 Q H BV (.slice A n c) u' pv' v7 R (dMid l cs xv s0 m)) := Lib.hid (by
                          rw [HNZ.out]
                          exact HS6.out.note ho7 hu7 hat7)
                        clear ho7 hu7 hat7 HS6
                        go_wp2
                        go_roundw
                        case rel => exact ⟨m, _, u', pv', rfl, rfl, by omega, HS7⟩
                        case measure => (simp [intOf]; try omega)
                    · have hne : (xv == vj) = false := by simpa using hvv
                      rw [if_neg hvv] at hnx
                      have HS6 : Hid (DSt w w5 Q H BV (.slice A n c) u pv u11 R (dMid l cs vj s0 m)) := Lib.hid (by rw [hnx]; exact HS5.out)
                      have HVV := Lib.hid hvv
                      clear hcc hx hxv hva hnx hgb HS5 hvv
                      go_wp2
                      go_roundw
                      case rel => exact ⟨m, _, u, pv, rfl, rfl, by omega, HS6⟩
                      case measure => (simp [intOf]; try omega)
            · obtain rfl : j = 2 := by omega
              have HO9 : Hid (wr.ownsRow w.heap.size 3 1 u11 (den2 l cs).2.length ((den2 l cs).2.map fun i : Nat => Value.int .i64 (i : Int))) := Lib.hid hst.out.out
              have HBW := Lib.hid hst.out.bel
              clear hst
              go_wp2
              go_ret2
              refine ⟨HBW.out, ?_⟩
              rw [if_neg HE.out, if_neg HWL.out]
              exact ⟨_, rfl, HO9.out⟩
end Go.Proofs.YtppjpledjhinbaaDoor
