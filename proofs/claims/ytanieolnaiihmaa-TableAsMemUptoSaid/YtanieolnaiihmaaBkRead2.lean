/- Blocks: the reader's num, text, entry, walked. -/
import Derived.Test.YtanieolnaiihmaaBkWrite
import Derived.Deep.RegionHeld3
import Derived.Deep.CutBlock
namespace Go.Proofs.Ytanieolnaiihmaa
open Go.RowKit

/-- Block g is a block's reader behind last, over the pack reader gr that stands at s; bad: it couldn't. -/
structure Bkr (w : World) (g gr : Nat) (last : ByteArray) (bad : Bool) (s : ByteArray) : Prop where
  blk : w.heap[g]? = some (.cells #[.pointer (some ⟨gr, 0, none⟩), .string last, .bool bad] 134 (0, 0))
  rd : Rdr w 155 gr s
def BkrS (g gr k : Nat) : Prop := k = g ∨ k = gr
section
variable {w w' : World} {g gr : Nat} {last : ByteArray} {bad : Bool} {s : ByteArray}
theorem Bkr.ne (h : Bkr w g gr last bad s) : g ≠ gr := by
  intro e
  have h1 := h.blk
  rw [e] at h1
  have := h1.symm.trans h.rd
  injection this with this
  injection this with _ h2 _
  exact absurd h2 (by decide)
theorem Bkr.lt (h : Bkr w g gr last bad s) : g < w.heap.size := (Array.getElem?_eq_some_iff.1 h.blk).1
theorem Bkr.c0 (h : Bkr w g gr last bad s) : w.cell? ⟨g, 0, none⟩ = some (.pointer (some ⟨gr, 0, none⟩)) := by rw [cell_of_row w g 0 _ _ _ h.blk]; rfl
theorem Bkr.c1 (h : Bkr w g gr last bad s) : w.cell? ⟨g, 1, none⟩ = some (.string last) := by rw [cell_of_row w g 1 _ _ _ h.blk]; rfl
theorem Bkr.c2 (h : Bkr w g gr last bad s) : w.cell? ⟨g, 2, none⟩ = some (.bool bad) := by rw [cell_of_row w g 2 _ _ _ h.blk]; rfl
theorem Bkr.free (h : Bkr w g gr last bad s) (i : Nat) : w.frozen? ⟨g, i, none⟩ = false := frozen_of_row w g i _ _ h.blk
theorem Bkr.same (h : Bkr w g gr last bad s) (hu : Upd (fun _ => False) w w') : Bkr w' g gr last bad s :=
  ⟨(hu.block g h.lt (fun h => h)).trans h.blk, h.rd.upd hu (fun h => h)⟩
theorem Bkr.took (h : Bkr w g gr last bad s) {r : List UInt8} (ht : Took w 155 gr r w') : ∃ s' : ByteArray, s'.data.toList = r ∧ Bkr w' g gr last bad s' ∧ Upd (BkrS g gr) w w' := by
  obtain ⟨s', h1, h2, h3⟩ := ht
  exact ⟨s', h1, ⟨(h3.block g h.lt h.ne).trans h.blk, h2⟩, h3.mono fun _ _ e => .inr e⟩
theorem Bkr.setBad (h : Bkr w g gr last bad s) (b : Bool) : Bkr (w.setCell ⟨g, 2, none⟩ (.bool b)) g gr last b s ∧ Upd (BkrS g gr) w (w.setCell ⟨g, 2, none⟩ (.bool b)) :=
  ⟨⟨heap_setCell_same w g 2 _ _ (.bool b) h.blk, h.rd.upd ((Upd.refl (fun k => k = g) w).setCell ⟨g, 2, none⟩ rfl (.bool b)) (fun e => h.ne e.symm)⟩, (Upd.refl _ w).setCell ⟨g, 2, none⟩ (.inl rfl) _⟩
theorem Bkr.setLast (h : Bkr w g gr last bad s) (b : ByteArray) : Bkr (w.setCell ⟨g, 1, none⟩ (.string b)) g gr b bad s ∧ Upd (BkrS g gr) w (w.setCell ⟨g, 1, none⟩ (.string b)) :=
  ⟨⟨heap_setCell_same w g 1 _ _ (.string b) h.blk, h.rd.upd ((Upd.refl (fun k => k = g) w).setCell ⟨g, 1, none⟩ rfl (.string b)) (fun e => h.ne e.symm)⟩, (Upd.refl _ w).setCell ⟨g, 1, none⟩ (.inl rfl) _⟩
end
def okBad (bad : Bool) (e : Nat) : Bool := bad || decide (e ≠ 0)
set_option maxHeartbeats 1000000 in
theorem bnum_any (w : World) (g gr : Nat) (last : ByteArray) (bad : Bool) (s : ByteArray) (n e : Nat) (r : List UInt8) (hrd : rdNum s.data.toList = (n, e, r)) (h : Bkr w g gr last bad s) (hs : s.size ≤ 140737488351232) :
    Calls Try.prog 78 #[.pointer (some ⟨g, 0, none⟩)] w fun en w' => en = .returned (.int .u64 (n : Int)) ∧ ∃ s' : ByteArray, s'.data.toList = r ∧ Bkr w' g gr last (okBad bad e) s' ∧ Upd (BkrS g gr) w w' := by
  have c0 := h.c0
  have he := rdNum_err hrd
  go_enter Try.func78, Try.ntmps78
  go_wp2_with fail
  refine (rdnum_f _ gr s n e r hrd h.rd hs).mono ?_
  rintro en w1 ⟨rfl, ht⟩
  obtain ⟨s', hs', h1, hu1⟩ := h.took ht
  have d2 := h1.c2
  have f2 := h1.free 2
  have hset : ∀ b, _ := fun b => h1.setBad b
  have HS := Lib.hid hset
  clear hset ht hrd
  rcases (show e = 0 ∨ e = 1 by rcases he with ⟨h, _⟩ | ⟨h, _⟩ <;> omega) with rfl | rfl
  all_goals
    cases bad
    all_goals
      go_wp2
      go_ret
      exact ⟨rfl, s', hs', (HS.out _).1, hu1.trans (HS.out _).2 (fun _ _ h => h)⟩
set_option maxHeartbeats 1000000 in
theorem btext_any (w : World) (g gr : Nat) (last : ByteArray) (bad : Bool) (s : ByteArray) (t : List UInt8) (e : Nat) (r : List UInt8) (hrd : rdText s.data.toList = (t, e, r)) (h : Bkr w g gr last bad s) (hs : s.size ≤ 140737488351232) :
    Calls Try.prog 99 #[.pointer (some ⟨g, 0, none⟩)] w fun en w' => ∃ tS : ByteArray, tS.data.toList = t ∧ en = .returned (.string tS) ∧ ∃ s' : ByteArray, s'.data.toList = r ∧ Bkr w' g gr last (okBad bad e) s' ∧ Upd (BkrS g gr) w w' := by
  have c0 := h.c0
  have he := rdText_err hrd
  go_enter Try.func99, Try.ntmps99
  go_wp2_with fail
  refine (rdtext_f _ gr s t e r hrd h.rd hs).mono ?_
  rintro en w1 ⟨⟨tS, htS, rfl⟩, ht⟩
  have HTS := Lib.hid htS
  obtain ⟨s', hs', h1, hu1⟩ := h.took ht
  have d2 := h1.c2
  have f2 := h1.free 2
  have hset : ∀ b, _ := fun b => h1.setBad b
  have HS := Lib.hid hset
  clear hset ht hrd htS
  rcases (show e = 0 ∨ e = 1 by rcases he with h | ⟨h, _⟩ <;> omega) with rfl | rfl
  all_goals
    cases bad
    all_goals
      go_wp2
      go_ret
      exact ⟨tS, HTS.out, rfl, s', hs', (HS.out _).1, hu1.trans (HS.out _).2 (fun _ _ h => h)⟩
theorem text_lt {l t r : List UInt8} {e : Nat} (h : rdText l = (t, e, r)) : t.length ≤ l.length := by
  have hn := rdNum_len l
  unfold rdText at h
  split at h
  · injection h with h _; rw [← h]; simp
  · injection h with h _; rw [← h, List.length_take]; omega
/-- A row of four cells written anew. -/
theorem row4 (w : World) (R : Nat) (T : TypeId) (a b c d a' b' c' d' : Value) (h : w.heap[R]? = some (.cells #[a, b, c, d] T (0, 0))) :
    ((((w.setCell ⟨R, 0, none⟩ a').setCell ⟨R, 1, none⟩ b').setCell ⟨R, 2, none⟩ c').setCell ⟨R, 3, none⟩ d').heap[R]? = some (.cells #[a', b', c', d'] T (0, 0)) ∧
    Upd (fun k => k = R) w ((((w.setCell ⟨R, 0, none⟩ a').setCell ⟨R, 1, none⟩ b').setCell ⟨R, 2, none⟩ c').setCell ⟨R, 3, none⟩ d') := by
  have h0 := heap_setCell_same w R 0 _ _ a' h
  have h1 := heap_setCell_same _ R 1 _ _ b' h0
  have h2 := heap_setCell_same _ R 2 _ _ c' h1
  have h3 := heap_setCell_same _ R 3 _ _ d' h2
  exact ⟨h3, ((((Upd.refl (fun k => k = R) w).setCell ⟨R, 0, none⟩ rfl _).setCell ⟨R, 1, none⟩ rfl _).setCell ⟨R, 2, none⟩ rfl _).setCell ⟨R, 3, none⟩ rfl _⟩
theorem Bkr.apart {w w' : World} {g gr R : Nat} {last : ByteArray} {bad : Bool} {s : ByteArray} (h : Bkr w g gr last bad s) (hu : Upd (fun k => k = R) w w') (hR : ¬ BkrS g gr R) : Bkr w' g gr last bad s :=
  ⟨(hu.block g h.lt (fun e => hR (.inl e.symm))).trans h.blk, h.rd.upd hu (fun e => hR (.inr e.symm))⟩
/-- What an entry's reading leaves. -/
def EntPost (last s : ByteArray) (y : Ent) (last' : ByteArray) (bad' : Bool) (s' : ByteArray) : Prop :=
  (bad' = false ∧ rdEnt last.data.toList s.data.toList = some (y, s'.data.toList) ∧ last' = y.key) ∨ (bad' = true ∧ rdEnt last.data.toList s.data.toList = none)
def EntRet (w : World) (g gr : Nat) (last s : ByteArray) (en : Ending) (w' : World) : Prop :=
  ∃ (y : Ent) (last' : ByteArray) (bad' : Bool) (s' : ByteArray), en = .returned (.agg #[.string y.key, .int .i64 y.seq, .bool y.dead, .string y.val]) ∧ Bkr w' g gr last' bad' s' ∧ Upd (BkrS g gr) w w' ∧ EntPost last s y last' bad' s'
set_option maxHeartbeats 8000000 in
set_option maxRecDepth 20000 in
theorem bent_any (w : World) (g gr : Nat) (last s : ByteArray) (h : Bkr w g gr last false s) (hs : s.size ≤ 1099511627776) (hla : last.size ≤ 1099511627776) :
    Calls Try.prog 79 #[.pointer (some ⟨g, 0, none⟩)] w (EntRet w g gr last s) := by
  obtain ⟨n, e1, r1, h1⟩ : ∃ n e r, rdNum s.data.toList = (n, e, r) := ⟨_, _, _, rfl⟩
  obtain ⟨t, e2, r2, h2⟩ : ∃ n e r, rdText r1 = (n, e, r) := ⟨_, _, _, rfl⟩
  obtain ⟨q, e3, r3, h3⟩ : ∃ n e r, rdInt r2 = (n, e, r) := ⟨_, _, _, rfl⟩
  obtain ⟨d, e4, r4, h4⟩ : ∃ n e r, rdNum r3 = (n, e, r) := ⟨_, _, _, rfl⟩
  obtain ⟨v, e5, r5, h5⟩ : ∃ n e r, rdText r4 = (n, e, r) := ⟨_, _, _, rfl⟩
  have hst := Lib.hid (rdEnt_steps (last := last.data.toList) h1 h2 h3 h4 h5)
  have l1 := rdNum_len s.data.toList; rw [h1] at l1
  have l2 := rdText_len r1; rw [h2] at l2
  have l3 := rdInt_len r2; rw [h3] at l3
  have l4 := rdNum_len r3; rw [h4] at l4
  simp only at l1 l2 l3 l4
  have hsl : s.data.toList.length = s.size := by simp
  have hn64 := rdNum_lt s.data.toList; rw [h1] at hn64
  have hd64 := rdNum_lt r3; rw [h4] at hd64
  simp only at hn64 hd64
  have f1 := rdNum_err h1
  have f2 := rdText_err h2
  have f3 := rdInt_err h3
  have f4 := rdNum_err h4
  have f5 := rdText_err h5
  have e1' : e1 = 0 ∨ e1 = 1 := by rcases f1 with ⟨h, _⟩ | ⟨h, _⟩ <;> omega
  have e2' : e2 = 0 ∨ e2 = 1 := by rcases f2 with h | ⟨h, _⟩ <;> omega
  have e3' : e3 = 0 ∨ e3 = 1 := by rcases f3 with h | ⟨h, _⟩ <;> omega
  have e4' : e4 = 0 ∨ e4 = 1 := by rcases f4 with ⟨h, _⟩ | ⟨h, _⟩ <;> omega
  have e5' : e5 = 0 ∨ e5 = 1 := by rcases f5 with h | ⟨h, _⟩ <;> omega
  have H1 := Lib.hid h1
  have H2 := Lib.hid h2
  have H3 := Lib.hid h3
  have H4 := Lib.hid h4
  have H5 := Lib.hid h5
  have hR : Bkr (w.alloc (.cells #[.string ⟨#[]⟩, .int .i64 0, .bool false, .string ⟨#[]⟩] 41)) g gr last false s := h.same ((Upd.refl _ w).alloc _)
  clear h1 h2 h3 h4 h5 f1 f2 f3 f4 f5
  go_enter Try.func79, Try.ntmps79
  go_wp2_with fail
  refine (bnum_any _ g gr last false s n e1 r1 H1.out hR (by omega)).mono ?_
  rintro en w1 ⟨rfl, s1, hs1, hb1, hu1⟩
  have RZ0 : (w.alloc (.cells #[.string ⟨#[]⟩, .int .i64 0, .bool false, .string ⟨#[]⟩] 41)).heap[w.heap.size]? = some (.cells #[.string ⟨#[]⟩, .int .i64 0, .bool false, .string ⟨#[]⟩] 41 (0, 0)) := heap_alloc_new w _
  have hgl := h.lt
  have hgrl := h.rd.lt
  have hnR : ¬ BkrS g gr w.heap.size := by rintro (e | e) <;> omega
  have RZ1 := (hu1.block w.heap.size (by simp) hnR).trans RZ0
  have U1 : Upd (BkrS g gr) w w1 := ((Upd.refl (BkrS g gr) w).alloc _).trans hu1 (fun _ _ h => h)
  have HS1 := Lib.hid hs1
  clear hs1 hu1 RZ0 hR
  have z1 : s1.size ≤ 1099511627776 := by have : s1.data.toList.length = s1.size := by simp
                                          rw [HS1.out] at this; omega
  go_wp2_with fail
  refine (btext_any _ g gr last _ s1 t e2 r2 (by rw [HS1.out]; exact H2.out) hb1 (by omega)).mono ?_
  rintro en w2 ⟨tS, htS, rfl, s2, hs2, hb2, hu2⟩
  have RZ2 := (hu2.block w.heap.size (Array.getElem?_eq_some_iff.1 RZ1).1 hnR).trans RZ1
  have U2 := U1.trans hu2 (fun _ _ h => h)
  have HS2 := Lib.hid hs2
  have HTS := Lib.hid htS
  clear hs2 hu2 RZ1 U1 hb1 htS
  have z2 : s2.size ≤ 1099511627776 := by have : s2.data.toList.length = s2.size := by simp
                                          rw [HS2.out] at this; omega
  have c20 := hb2.c0
  go_wp2_with fail
  refine (rdint_f _ gr s2 q e3 r3 (by rw [HS2.out]; exact H3.out) hb2.rd (by omega)).mono ?_
  rintro en w3 ⟨rfl, ht3⟩
  obtain ⟨s3, hs3, hb3, hu3⟩ := hb2.took ht3
  have RZ3 := (hu3.block w.heap.size (Array.getElem?_eq_some_iff.1 RZ2).1 hnR).trans RZ2
  have U3 := U2.trans hu3 (fun _ _ h => h)
  have HS3 := Lib.hid hs3
  clear hs3 hu3 RZ2 U2 hb2 ht3 c20
  have z3 : s3.size ≤ 1099511627776 := by have : s3.data.toList.length = s3.size := by simp
                                          rw [HS3.out] at this; omega
  go_wp2_with fail
  refine (bnum_any _ g gr last _ s3 d e4 r4 (by rw [HS3.out]; exact H4.out) hb3 (by omega)).mono ?_
  rintro en w4 ⟨rfl, s4, hs4, hb4, hu4⟩
  have RZ4 := (hu4.block w.heap.size (Array.getElem?_eq_some_iff.1 RZ3).1 hnR).trans RZ3
  have U4 := U3.trans hu4 (fun _ _ h => h)
  have HS4 := Lib.hid hs4
  clear hs4 hu4 RZ3 U3 hb3
  have z4 : s4.size ≤ 1099511627776 := by have : s4.data.toList.length = s4.size := by simp
                                          rw [HS4.out] at this; omega
  have d40 := hb4.c0
  have d41 := hb4.c1
  have d42 := hb4.c2
  have f42 := hb4.free 2
  have hlal : last.data.toList.length = last.size := by simp
  by_cases hbad : e1 ≠ 0 ∨ e2 ≠ 0 ∨ e3 ≠ 0 ∨ e4 ≠ 0 ∨ last.size < n ∨ 1 < d
  · have hno : Hid (rdEnt last.data.toList s.data.toList = none) := Lib.hid (by
      rw [hst.out]
      by_cases he : e1 ≠ 0 ∨ e2 ≠ 0 ∨ e3 ≠ 0 ∨ e4 ≠ 0
      · rw [if_pos he]
      · rw [if_neg he, if_pos (by omega)])
    have hset := hb4.setBad true
    have hbc : Hid (okBad (okBad (okBad false e1) e2) e4 = true ∨ e3 = 1 ∨ last.size < n ∨ 1 < d) := Lib.hid (by
      simp only [okBad, Bool.false_or, Bool.or_eq_true, decide_eq_true_eq]
      rcases hbad with h | h | h | h | h | h
      · exact .inl (.inl (.inl h))
      · exact .inl (.inl (.inr h))
      · exact .inr (.inl (by omega))
      · exact .inl (.inr h)
      · exact .inr (.inr (.inl h))
      · exact .inr (.inr (.inr h)))
    clear hst H1 H2 H3 H4 H5 hbad hlal
    generalize okBad (okBad (okBad false e1) e2) e4 = B at *
    have y0 : w4.cell? ⟨w.heap.size, 0, none⟩ = some (.string ⟨#[]⟩) := by rw [cell_of_row w4 _ 0 _ _ _ RZ4]; rfl
    have y1 : w4.cell? ⟨w.heap.size, 1, none⟩ = some (.int .i64 0) := by rw [cell_of_row w4 _ 1 _ _ _ RZ4]; rfl
    have y2 : w4.cell? ⟨w.heap.size, 2, none⟩ = some (.bool false) := by rw [cell_of_row w4 _ 2 _ _ _ RZ4]; rfl
    have y3 : w4.cell? ⟨w.heap.size, 3, none⟩ = some (.string ⟨#[]⟩) := by rw [cell_of_row w4 _ 3 _ _ _ RZ4]; rfl
    have yf : ∀ i, w4.frozen? ⟨w.heap.size, i, none⟩ = false := fun i => frozen_of_row w4 _ i _ _ RZ4
    have gne : g ≠ w.heap.size := by omega
    have gne2 : w.heap.size ≠ g := by omega
    cases B with
    | true =>
      clear hbc
      go_wp2
      have hF := row4 (w4.setCell ⟨g, 2, none⟩ (.bool true)) w.heap.size _ _ _ _ _ (.string ⟨#[]⟩) (.int .i64 0) (.bool false) (.string ⟨#[]⟩) ((hset.2.block _ (Array.getElem?_eq_some_iff.1 RZ4).1 hnR).trans RZ4)
      have hG := hset.1.apart hF.2 hnR
      have hU := (U4.trans hset.2 (fun _ _ h => h)).trans hF.2 (S' := fun k => k = w.heap.size) (fun k hk e => by omega)
      generalize ((((w4.setCell ⟨g, 2, none⟩ (.bool true)).setCell ⟨w.heap.size, 0, none⟩ (.string ⟨#[]⟩)).setCell ⟨w.heap.size, 1, none⟩ (.int .i64 0)).setCell ⟨w.heap.size, 2, none⟩ (.bool false)).setCell ⟨w.heap.size, 3, none⟩ (.string ⟨#[]⟩) = wF at hF hG hU ⊢
      have r0 : wF.cell? ⟨w.heap.size, 0, none⟩ = some (.string ⟨#[]⟩) := by rw [cell_of_row wF _ 0 _ _ _ hF.1]; rfl
      have r1 : wF.cell? ⟨w.heap.size, 1, none⟩ = some (.int .i64 0) := by rw [cell_of_row wF _ 1 _ _ _ hF.1]; rfl
      have r2 : wF.cell? ⟨w.heap.size, 2, none⟩ = some (.bool false) := by rw [cell_of_row wF _ 2 _ _ _ hF.1]; rfl
      have r3 : wF.cell? ⟨w.heap.size, 3, none⟩ = some (.string ⟨#[]⟩) := by rw [cell_of_row wF _ 3 _ _ _ hF.1]; rfl
      exact bodyPost_ret (v := .agg #[.string ⟨#[]⟩, .int .i64 0, .bool false, .string ⟨#[]⟩]) (by simp [results, Try.results79, go_sem, r0, r1, r2, r3]) rfl ⟨⟨⟨#[]⟩, 0, false, ⟨#[]⟩⟩, last, true, s4, rfl, hG, hU, .inr ⟨rfl, hno.out⟩⟩
    | false =>
      rcases e3' with rfl | rfl
      · by_cases hn2 : last.size < n
        · have b1 : decide ((last.size : Int) < (n : Int)) = true := decide_eq_true (by omega)
          have b2 : decide (last.size < n) = true := decide_eq_true hn2
          clear hbc
          go_wp2
          have hF := row4 (w4.setCell ⟨g, 2, none⟩ (.bool true)) w.heap.size _ _ _ _ _ (.string ⟨#[]⟩) (.int .i64 0) (.bool false) (.string ⟨#[]⟩) ((hset.2.block _ (Array.getElem?_eq_some_iff.1 RZ4).1 hnR).trans RZ4)
          have hG := hset.1.apart hF.2 hnR
          have hU := (U4.trans hset.2 (fun _ _ h => h)).trans hF.2 (S' := fun k => k = w.heap.size) (fun k hk e => by omega)
          generalize ((((w4.setCell ⟨g, 2, none⟩ (.bool true)).setCell ⟨w.heap.size, 0, none⟩ (.string ⟨#[]⟩)).setCell ⟨w.heap.size, 1, none⟩ (.int .i64 0)).setCell ⟨w.heap.size, 2, none⟩ (.bool false)).setCell ⟨w.heap.size, 3, none⟩ (.string ⟨#[]⟩) = wF at hF hG hU ⊢
          have r0 : wF.cell? ⟨w.heap.size, 0, none⟩ = some (.string ⟨#[]⟩) := by rw [cell_of_row wF _ 0 _ _ _ hF.1]; rfl
          have r1 : wF.cell? ⟨w.heap.size, 1, none⟩ = some (.int .i64 0) := by rw [cell_of_row wF _ 1 _ _ _ hF.1]; rfl
          have r2 : wF.cell? ⟨w.heap.size, 2, none⟩ = some (.bool false) := by rw [cell_of_row wF _ 2 _ _ _ hF.1]; rfl
          have r3 : wF.cell? ⟨w.heap.size, 3, none⟩ = some (.string ⟨#[]⟩) := by rw [cell_of_row wF _ 3 _ _ _ hF.1]; rfl
          exact bodyPost_ret (v := .agg #[.string ⟨#[]⟩, .int .i64 0, .bool false, .string ⟨#[]⟩]) (by simp [results, Try.results79, go_sem, r0, r1, r2, r3]) rfl ⟨⟨⟨#[]⟩, 0, false, ⟨#[]⟩⟩, last, true, s4, rfl, hG, hU, .inr ⟨rfl, hno.out⟩⟩
        · have hd2 : 1 < d := by
            rcases hbc.out with h | h | h | h
            · cases h
            · omega
            · omega
            · exact h
          have b1 : decide ((last.size : Int) < (n : Int)) = false := decide_eq_false (by omega)
          have b2 : decide (last.size < n) = false := decide_eq_false hn2
          have b3 : decide ((1 : Int) < (d : Int)) = true := decide_eq_true (by omega)
          have b4 : decide (1 < d) = true := decide_eq_true hd2
          clear hbc
          go_wp2
          have hF := row4 (w4.setCell ⟨g, 2, none⟩ (.bool true)) w.heap.size _ _ _ _ _ (.string ⟨#[]⟩) (.int .i64 0) (.bool false) (.string ⟨#[]⟩) ((hset.2.block _ (Array.getElem?_eq_some_iff.1 RZ4).1 hnR).trans RZ4)
          have hG := hset.1.apart hF.2 hnR
          have hU := (U4.trans hset.2 (fun _ _ h => h)).trans hF.2 (S' := fun k => k = w.heap.size) (fun k hk e => by omega)
          generalize ((((w4.setCell ⟨g, 2, none⟩ (.bool true)).setCell ⟨w.heap.size, 0, none⟩ (.string ⟨#[]⟩)).setCell ⟨w.heap.size, 1, none⟩ (.int .i64 0)).setCell ⟨w.heap.size, 2, none⟩ (.bool false)).setCell ⟨w.heap.size, 3, none⟩ (.string ⟨#[]⟩) = wF at hF hG hU ⊢
          have r0 : wF.cell? ⟨w.heap.size, 0, none⟩ = some (.string ⟨#[]⟩) := by rw [cell_of_row wF _ 0 _ _ _ hF.1]; rfl
          have r1 : wF.cell? ⟨w.heap.size, 1, none⟩ = some (.int .i64 0) := by rw [cell_of_row wF _ 1 _ _ _ hF.1]; rfl
          have r2 : wF.cell? ⟨w.heap.size, 2, none⟩ = some (.bool false) := by rw [cell_of_row wF _ 2 _ _ _ hF.1]; rfl
          have r3 : wF.cell? ⟨w.heap.size, 3, none⟩ = some (.string ⟨#[]⟩) := by rw [cell_of_row wF _ 3 _ _ _ hF.1]; rfl
          exact bodyPost_ret (v := .agg #[.string ⟨#[]⟩, .int .i64 0, .bool false, .string ⟨#[]⟩]) (by simp [results, Try.results79, go_sem, r0, r1, r2, r3]) rfl ⟨⟨⟨#[]⟩, 0, false, ⟨#[]⟩⟩, last, true, s4, rfl, hG, hU, .inr ⟨rfl, hno.out⟩⟩
      · clear hbc
        go_wp2
        have hF := row4 (w4.setCell ⟨g, 2, none⟩ (.bool true)) w.heap.size _ _ _ _ _ (.string ⟨#[]⟩) (.int .i64 0) (.bool false) (.string ⟨#[]⟩) ((hset.2.block _ (Array.getElem?_eq_some_iff.1 RZ4).1 hnR).trans RZ4)
        have hG := hset.1.apart hF.2 hnR
        have hU := (U4.trans hset.2 (fun _ _ h => h)).trans hF.2 (S' := fun k => k = w.heap.size) (fun k hk e => by omega)
        generalize ((((w4.setCell ⟨g, 2, none⟩ (.bool true)).setCell ⟨w.heap.size, 0, none⟩ (.string ⟨#[]⟩)).setCell ⟨w.heap.size, 1, none⟩ (.int .i64 0)).setCell ⟨w.heap.size, 2, none⟩ (.bool false)).setCell ⟨w.heap.size, 3, none⟩ (.string ⟨#[]⟩) = wF at hF hG hU ⊢
        have r0 : wF.cell? ⟨w.heap.size, 0, none⟩ = some (.string ⟨#[]⟩) := by rw [cell_of_row wF _ 0 _ _ _ hF.1]; rfl
        have r1 : wF.cell? ⟨w.heap.size, 1, none⟩ = some (.int .i64 0) := by rw [cell_of_row wF _ 1 _ _ _ hF.1]; rfl
        have r2 : wF.cell? ⟨w.heap.size, 2, none⟩ = some (.bool false) := by rw [cell_of_row wF _ 2 _ _ _ hF.1]; rfl
        have r3 : wF.cell? ⟨w.heap.size, 3, none⟩ = some (.string ⟨#[]⟩) := by rw [cell_of_row wF _ 3 _ _ _ hF.1]; rfl
        exact bodyPost_ret (v := .agg #[.string ⟨#[]⟩, .int .i64 0, .bool false, .string ⟨#[]⟩]) (by simp [results, Try.results79, go_sem, r0, r1, r2, r3]) rfl ⟨⟨⟨#[]⟩, 0, false, ⟨#[]⟩⟩, last, true, s4, rfl, hG, hU, .inr ⟨rfl, hno.out⟩⟩
  · obtain ⟨rfl, rfl, rfl, rfl, hnl, hd1⟩ : e1 = 0 ∧ e2 = 0 ∧ e3 = 0 ∧ e4 = 0 ∧ n ≤ last.size ∧ d ≤ 1 := by omega
    have hbf : okBad (okBad (okBad false 0) 0) 0 = false := rfl
    rw [hbf] at hb4 d42
    have hst2 := hst.out
    rw [if_neg (by omega)] at hst2
    have hset := hb4.setBad false
    have htl := text_lt H2.out
    have hts : tS.size ≤ 1099511627776 := by
      have : tS.data.toList.length = tS.size := by simp
      rw [HTS.out] at this; omega
    have hkey : toB (List.take n last.data.toList ++ t) = last.extract 0 n ++ tS := by
      refine ByteArray.ext (Array.toList_inj.1 ?_)
      rw [toB_data, ByteArray.data_append, Array.toList_append, HTS.out, ByteArray.data_extract, Array.toList_extract, List.extract_eq_take_drop]
      simp
    have hkd : List.take n last.data.toList ++ t = (last.extract 0 n ++ tS).data.toList := by rw [← hkey, toB_data]
    rw [hkey, hkd] at hst2
    have hks : (last.extract 0 n ++ tS).size ≤ 2199023255552 := by
      rw [ByteArray.size_append]; simp; omega
    have HST := Lib.hid hst2
    have b1 : decide ((last.size : Int) < (n : Int)) = false := decide_eq_false (by omega)
    have b2 : decide (last.size < n) = false := decide_eq_false (by omega)
    have b3 : decide ((1 : Int) < (d : Int)) = false := decide_eq_false (by omega)
    have b4 : decide (1 < d) = false := decide_eq_false (by omega)
    have n1 : (n : Int) ≤ (last.size : Int) := by omega
    have n2 : (0 : Int) ≤ (n : Int) := by omega
    have n3 : n ≤ 1099511627776 := by omega
    clear hst hst2 hbf htl hkey hkd hbad
    have c1 : ¬ 9223372036854775807 < (last.extract 0 n).size + tS.size := by simp; omega
    have c2 : ¬ 9223372036854775807 < n + tS.size := by omega
    obtain ⟨D, hD⟩ : ∃ D : Bool, ((d : Int) == 1) = D := ⟨_, rfl⟩
    obtain ⟨key, hkk⟩ : ∃ key, key = last.extract 0 n ++ tS := ⟨_, rfl⟩
    go_upto_region 9 with (fail)
    rw [← hkk] at hks HST ⊢
    have HKK := Lib.hid hkk
    have hXb : ((w4.setCell ⟨g, 2, none⟩ (.bool false)).alloc (.cells #[.string key, .int .i64 q, .bool D, .string ⟨#[]⟩] 41)).heap[w4.heap.size]? = some (.cells #[.string key, .int .i64 q, .bool D, .string ⟨#[]⟩] 41 (0, 0)) := by
      have := heap_alloc_new (w4.setCell ⟨g, 2, none⟩ (.bool false)) (.cells #[.string key, .int .i64 q, .bool D, .string ⟨#[]⟩] 41)
      simpa using this
    have hbY := hset.1.same ((Upd.refl (fun _ => False) _).alloc (.cells #[.string key, .int .i64 q, .bool D, .string ⟨#[]⟩] 41))
    have hUY := (U4.trans hset.2 (fun _ _ h => h)).alloc (.cells #[.string key, .int .i64 q, .bool D, .string ⟨#[]⟩] 41)
    have RZY := (((Upd.refl (fun _ => False) (w4.setCell ⟨g, 2, none⟩ (.bool false))).alloc (.cells #[.string key, .int .i64 q, .bool D, .string ⟨#[]⟩] 41)).block w.heap.size (by have := (Array.getElem?_eq_some_iff.1 RZ4).1; simpa using this) (fun h => h)).trans ((hset.2.block _ (Array.getElem?_eq_some_iff.1 RZ4).1 hnR).trans RZ4)
    have hX1 : w.heap.size < w4.heap.size := (Array.getElem?_eq_some_iff.1 RZ4).1
    have hXl := (Array.getElem?_eq_some_iff.1 hXb).1
    generalize (w4.setCell ⟨g, 2, none⟩ (.bool false)).alloc (.cells #[.string key, .int .i64 q, .bool D, .string ⟨#[]⟩] 41) = wY at hXb hbY hUY RZY hXl ⊢
    generalize w4.heap.size = X at *
    clear hset d40 d41 d42 f42 hb4 U4 RZ4 hkk b1 b2 b3 b4 c1 c2 l1 l2 l3 l4
    have hnX : ¬ BkrS g gr X := by rintro (e | e) <;> omega
    obtain ⟨L, hL⟩ : ∃ L, lcp last.data.toList key.data.toList = L := ⟨_, rfl⟩
    rw [hL] at HST
    have HL := Lib.hid hL
    have MK : Hid (∀ W, Upd (fun k => k = g) wY W → W.heap[g]? = some (.cells #[.pointer (some ⟨gr, 0, none⟩), .string last, .bool false] 134 (0, 0)) ∨ W.heap[g]? = some (.cells #[.pointer (some ⟨gr, 0, none⟩), .string last, .bool (!decide (L = n))] 134 (0, 0)) → Upd (fun k => k = g) wY W ∧ W.cell? ⟨g, 1, none⟩ = some (.string last) ∧ W.cell? ⟨X, 0, none⟩ = some (.string key)) := Lib.hid fun W hW hb => ⟨hW, by
        rcases hb with hb | hb <;> (rw [cell_of_row W g 1 _ _ _ hb]; rfl), by
        rw [cell_of_row W X 0 _ _ _ ((hW.block X hXl (fun e => hnX (.inl e))).trans hXb)]; rfl⟩
    have fg : ∀ W, Upd (fun _ => False) wY W → W.frozen? ⟨g, 2, none⟩ = false ∧ W.cell? ⟨g, 2, none⟩ = some (.bool false) := fun W hW => ⟨(hbY.same hW).free 2, (hbY.same hW).c2⟩
    have FG := Lib.hid fg
    clear fg hL
    have n4 : IntKind.i64.wrap (n : Int) = (n : Int) := IntWalk.i64_in _ (by omega)
    have hset0 : ∀ (W : World) (b : Bool), Upd (fun _ => False) wY W → Bkr (W.setCell ⟨g, 2, none⟩ (.bool b)) g gr last b s4 ∧ Upd (BkrS g gr) wY (W.setCell ⟨g, 2, none⟩ (.bool b)) := fun W b hW =>
      ⟨((hbY.same hW).setBad b).1, (hW.mono (fun _ _ h => h.elim)).trans ((hbY.same hW).setBad b).2 (fun _ _ h => h)⟩
    have gX : g ≠ X := by omega
    have Xg : X ≠ g := by omega
    have gR : g ≠ w.heap.size := by omega
    have Rg : w.heap.size ≠ g := by omega
    have XR : X ≠ w.heap.size := by omega
    have RX : w.heap.size ≠ X := by omega
    by_cases hln : L = n
    · have hq : ((L : Int) != (n : Int)) = false := by rw [hln]; simp
      have hW5 : ∀ (W : World), W.heap[g]? = some (.cells #[.pointer (some ⟨gr, 0, none⟩), .string last, .bool false] 134 (0, 0)) → (W.setCell ⟨g, 2, none⟩ (.bool false)).heap[g]? = some (.cells #[.pointer (some ⟨gr, 0, none⟩), .string last, .bool false] 134 (0, 0)) ∨ (W.setCell ⟨g, 2, none⟩ (.bool false)).heap[g]? = some (.cells #[.pointer (some ⟨gr, 0, none⟩), .string last, .bool (!decide (L = n))] 134 (0, 0)) := fun W hW => .inl (heap_setCell_same W g 2 _ _ (.bool false) hW)
      go_region_held3 (fun W => Upd (fun k => k = g) wY W ∧ W.cell? ⟨g, 1, none⟩ = some (.string last) ∧ W.cell? ⟨X, 0, none⟩ = some (.string key)) (first
        | exact MK.out _ (upd_drew0 (Upd.refl _ _)) (.inl hbY.blk)
        | exact MK.out _ (hS3.mono (fun _ _ h => h.elim)) (.inl hS4)
        | exact MK.out _ ((hS3.mono (S' := fun k => k = g) (fun _ _ h => h.elim)).setCell ⟨g, 2, none⟩ rfl _) hS5) (first
        | (go_at_call 94; refine (shared_any _ last key (by omega) (by omega)).mono ?_; rintro e w5 ⟨rfl, hS2⟩; rw [HL.out]; have hS3 : Upd (fun _ => False) wY w5 := (upd_drew0 (Upd.refl _ _)).trans (upd_hid hS2) (fun _ _ h => h); have hS4 := (hS3.block g hbY.lt (fun h => h)).trans hbY.blk; obtain ⟨f2, c2⟩ := FG.out _ hS3; have hS5 := hW5 w5 hS4))
      have hbZ := hset0 w5 false hS3
      have XZ : (w5.setCell ⟨g, 2, none⟩ (.bool false)).heap[X]? = some (.cells #[.string key, .int .i64 q, .bool D, .string ⟨#[]⟩] 41 (0, 0)) := (hbZ.2.block X hXl hnX).trans hXb
      have RZ := (hbZ.2.block w.heap.size (Array.getElem?_eq_some_iff.1 RZY).1 hnR).trans RZY
      have UZ := hUY.trans hbZ.2 (fun _ _ h => h)
      generalize w5.setCell ⟨g, 2, none⟩ (.bool false) = wZ at hbZ XZ RZ UZ ⊢
      have hbz := hbZ.1
      rename_i hheld
      clear hheld hS3 hS4 hS5 f2 c2 hS2 MK FG hset0 hbY hXb RZY hUY hbZ hW5 hq
      cases D with
      | true =>
        have hd2 : d = 1 := by have := beq_iff_eq.1 hD; omega
        have hpost : Hid (EntPost last s ⟨key, q, true, ⟨#[]⟩⟩ key false s4) := Lib.hid (.inl ⟨rfl, by rw [HST.out, if_neg (by omega), if_pos hd2, HS4.out]; rfl, rfl⟩)
        clear hd2 hD HST
        have x0 : wZ.cell? ⟨X, 0, none⟩ = some (.string key) := by rw [cell_of_row wZ _ 0 _ _ _ XZ]; rfl
        have x1 : wZ.cell? ⟨X, 1, none⟩ = some (.int .i64 q) := by rw [cell_of_row wZ _ 1 _ _ _ XZ]; rfl
        have x2 : wZ.cell? ⟨X, 2, none⟩ = some (.bool true) := by rw [cell_of_row wZ _ 2 _ _ _ XZ]; rfl
        have x3 : wZ.cell? ⟨X, 3, none⟩ = some (.string ⟨#[]⟩) := by rw [cell_of_row wZ _ 3 _ _ _ XZ]; rfl
        have t1 := hbz.c1
        have t2 := hbz.free 1
        have y0 : wZ.cell? ⟨w.heap.size, 0, none⟩ = some (.string ⟨#[]⟩) := by rw [cell_of_row wZ _ 0 _ _ _ RZ]; rfl
        have y1 : wZ.cell? ⟨w.heap.size, 1, none⟩ = some (.int .i64 0) := by rw [cell_of_row wZ _ 1 _ _ _ RZ]; rfl
        have y2 : wZ.cell? ⟨w.heap.size, 2, none⟩ = some (.bool false) := by rw [cell_of_row wZ _ 2 _ _ _ RZ]; rfl
        have y3 : wZ.cell? ⟨w.heap.size, 3, none⟩ = some (.string ⟨#[]⟩) := by rw [cell_of_row wZ _ 3 _ _ _ RZ]; rfl
        have yf : ∀ i, wZ.frozen? ⟨w.heap.size, i, none⟩ = false := fun i => frozen_of_row wZ _ i _ _ RZ
        go_wp2
        have hl1 := hbz.setLast key
        have hF := row4 (wZ.setCell ⟨g, 1, none⟩ (.string key)) w.heap.size _ _ _ _ _ (.string key) (.int .i64 q) (.bool true) (.string ⟨#[]⟩) ((hl1.2.block _ (Array.getElem?_eq_some_iff.1 RZ).1 hnR).trans RZ)
        have hG := hl1.1.apart hF.2 hnR
        have hU := (UZ.trans hl1.2 (fun _ _ h => h)).trans hF.2 (S' := fun k => k = w.heap.size) (fun k hk e => by omega)
        generalize ((((wZ.setCell ⟨g, 1, none⟩ (.string key)).setCell ⟨w.heap.size, 0, none⟩ (.string key)).setCell ⟨w.heap.size, 1, none⟩ (.int .i64 q)).setCell ⟨w.heap.size, 2, none⟩ (.bool true)).setCell ⟨w.heap.size, 3, none⟩ (.string ⟨#[]⟩) = wF at hF hG hU ⊢
        have r0 : wF.cell? ⟨w.heap.size, 0, none⟩ = some (.string key) := by rw [cell_of_row wF _ 0 _ _ _ hF.1]; rfl
        have r1 : wF.cell? ⟨w.heap.size, 1, none⟩ = some (.int .i64 q) := by rw [cell_of_row wF _ 1 _ _ _ hF.1]; rfl
        have r2 : wF.cell? ⟨w.heap.size, 2, none⟩ = some (.bool true) := by rw [cell_of_row wF _ 2 _ _ _ hF.1]; rfl
        have r3 : wF.cell? ⟨w.heap.size, 3, none⟩ = some (.string ⟨#[]⟩) := by rw [cell_of_row wF _ 3 _ _ _ hF.1]; rfl
        exact bodyPost_ret (v := .agg #[.string key, .int .i64 q, .bool true, .string ⟨#[]⟩]) (by simp [results, Try.results79, go_sem, r0, r1, r2, r3]) rfl ⟨⟨key, q, true, ⟨#[]⟩⟩, key, _, s4, rfl, hG, hU, hpost.out⟩
      | false =>
        have hd2 : d ≠ 1 := fun e => by rw [e] at hD; cases hD
        have x2 : wZ.cell? ⟨X, 2, none⟩ = some (.bool false) := by rw [cell_of_row wZ _ 2 _ _ _ XZ]; rfl
        go_wp2_with fail
        refine (btext_any _ g gr last _ s4 v e5 r5 (by rw [HS4.out]; exact H5.out) hbz (by omega)).mono ?_
        rintro en w6 ⟨vS, hvS, rfl, s5, hs5, hb6, hu6⟩
        have X6 := (hu6.block X (Array.getElem?_eq_some_iff.1 XZ).1 hnX).trans XZ
        have R6 := (hu6.block w.heap.size (Array.getElem?_eq_some_iff.1 RZ).1 hnR).trans RZ
        have U6 := UZ.trans hu6 (fun _ _ h => h)
        have hpost : Hid (EntPost last s ⟨key, q, false, vS⟩ key (okBad false e5) s5) := Lib.hid (by
          rcases e5' with h | h
          · refine .inl ⟨by rw [h]; rfl, ?_, rfl⟩
            rw [HST.out, if_neg (by omega), if_neg hd2, if_neg (by omega), hs5, ← hvS, toB_back]
          · refine .inr ⟨by rw [h]; rfl, ?_⟩
            rw [HST.out, if_neg (by omega), if_neg hd2, if_pos (by omega)])
        have x63 : w6.cell? ⟨X, 3, none⟩ = some (.string ⟨#[]⟩) := by rw [cell_of_row w6 _ 3 _ _ _ X6]; rfl
        have f63 : w6.frozen? ⟨X, 3, none⟩ = false := frozen_of_row w6 _ 3 _ _ X6
        clear hd2 hD HST hs5 hvS hu6 XZ RZ UZ hbz x2
        go_upto_region 12 with (fail)
        have hu7 : Upd (fun k => k = X) w6 (w6.setCell ⟨X, 3, none⟩ (.string vS)) := (Upd.refl (fun k => k = X) w6).setCell ⟨X, 3, none⟩ rfl _
        have X7 := heap_setCell_same w6 X 3 _ _ (.string vS) X6
        have hb7 := hb6.apart hu7 hnX
        have R7 := (hu7.block w.heap.size (Array.getElem?_eq_some_iff.1 R6).1 (fun e => by omega)).trans R6
        have U7 := U6.trans hu7 (S' := fun k => k = X) (fun k hk e => by omega)
        generalize w6.setCell ⟨X, 3, none⟩ (.string vS) = w7 at hu7 X7 hb7 R7 U7 ⊢
        clear hu7 X6 R6 U6 hb6 x63 f63
        have x0 : w7.cell? ⟨X, 0, none⟩ = some (.string key) := by rw [cell_of_row w7 _ 0 _ _ _ X7]; rfl
        have x1 : w7.cell? ⟨X, 1, none⟩ = some (.int .i64 q) := by rw [cell_of_row w7 _ 1 _ _ _ X7]; rfl
        have x2 : w7.cell? ⟨X, 2, none⟩ = some (.bool false) := by rw [cell_of_row w7 _ 2 _ _ _ X7]; rfl
        have x3 : w7.cell? ⟨X, 3, none⟩ = some (.string vS) := by rw [cell_of_row w7 _ 3 _ _ _ X7]; rfl
        have t1 := hb7.c1
        have t2 := hb7.free 1
        have y0 : w7.cell? ⟨w.heap.size, 0, none⟩ = some (.string ⟨#[]⟩) := by rw [cell_of_row w7 _ 0 _ _ _ R7]; rfl
        have y1 : w7.cell? ⟨w.heap.size, 1, none⟩ = some (.int .i64 0) := by rw [cell_of_row w7 _ 1 _ _ _ R7]; rfl
        have y2 : w7.cell? ⟨w.heap.size, 2, none⟩ = some (.bool false) := by rw [cell_of_row w7 _ 2 _ _ _ R7]; rfl
        have y3 : w7.cell? ⟨w.heap.size, 3, none⟩ = some (.string ⟨#[]⟩) := by rw [cell_of_row w7 _ 3 _ _ _ R7]; rfl
        have yf : ∀ i, w7.frozen? ⟨w.heap.size, i, none⟩ = false := fun i => frozen_of_row w7 _ i _ _ R7
        go_wp2
        have hl1 := hb7.setLast key
        have hF := row4 (w7.setCell ⟨g, 1, none⟩ (.string key)) w.heap.size _ _ _ _ _ (.string key) (.int .i64 q) (.bool false) (.string vS) ((hl1.2.block _ (Array.getElem?_eq_some_iff.1 R7).1 hnR).trans R7)
        have hG := hl1.1.apart hF.2 hnR
        have hU := (U7.trans hl1.2 (fun _ _ h => h)).trans hF.2 (S' := fun k => k = w.heap.size) (fun k hk e => by omega)
        generalize ((((w7.setCell ⟨g, 1, none⟩ (.string key)).setCell ⟨w.heap.size, 0, none⟩ (.string key)).setCell ⟨w.heap.size, 1, none⟩ (.int .i64 q)).setCell ⟨w.heap.size, 2, none⟩ (.bool false)).setCell ⟨w.heap.size, 3, none⟩ (.string vS) = wF at hF hG hU ⊢
        have r0 : wF.cell? ⟨w.heap.size, 0, none⟩ = some (.string key) := by rw [cell_of_row wF _ 0 _ _ _ hF.1]; rfl
        have r1 : wF.cell? ⟨w.heap.size, 1, none⟩ = some (.int .i64 q) := by rw [cell_of_row wF _ 1 _ _ _ hF.1]; rfl
        have r2 : wF.cell? ⟨w.heap.size, 2, none⟩ = some (.bool false) := by rw [cell_of_row wF _ 2 _ _ _ hF.1]; rfl
        have r3 : wF.cell? ⟨w.heap.size, 3, none⟩ = some (.string vS) := by rw [cell_of_row wF _ 3 _ _ _ hF.1]; rfl
        exact bodyPost_ret (v := .agg #[.string key, .int .i64 q, .bool false, .string vS]) (by simp [results, Try.results79, go_sem, r0, r1, r2, r3]) rfl ⟨⟨key, q, false, vS⟩, key, _, s5, rfl, hG, hU, hpost.out⟩
    · have hq : ((L : Int) != (n : Int)) = true := by rw [bne_iff_ne]; omega
      have hW5 : ∀ (W : World), W.heap[g]? = some (.cells #[.pointer (some ⟨gr, 0, none⟩), .string last, .bool false] 134 (0, 0)) → (W.setCell ⟨g, 2, none⟩ (.bool true)).heap[g]? = some (.cells #[.pointer (some ⟨gr, 0, none⟩), .string last, .bool false] 134 (0, 0)) ∨ (W.setCell ⟨g, 2, none⟩ (.bool true)).heap[g]? = some (.cells #[.pointer (some ⟨gr, 0, none⟩), .string last, .bool (!decide (L = n))] 134 (0, 0)) := fun W hW => .inr (by rw [show (!decide (L = n)) = true by simpa using hln]; exact heap_setCell_same W g 2 _ _ (.bool true) hW)
      go_region_held3 (fun W => Upd (fun k => k = g) wY W ∧ W.cell? ⟨g, 1, none⟩ = some (.string last) ∧ W.cell? ⟨X, 0, none⟩ = some (.string key)) (first
        | exact MK.out _ (upd_drew0 (Upd.refl _ _)) (.inl hbY.blk)
        | exact MK.out _ (hS3.mono (fun _ _ h => h.elim)) (.inl hS4)
        | exact MK.out _ ((hS3.mono (S' := fun k => k = g) (fun _ _ h => h.elim)).setCell ⟨g, 2, none⟩ rfl _) hS5) (first
        | (go_at_call 94; refine (shared_any _ last key (by omega) (by omega)).mono ?_; rintro e w5 ⟨rfl, hS2⟩; rw [HL.out]; have hS3 : Upd (fun _ => False) wY w5 := (upd_drew0 (Upd.refl _ _)).trans (upd_hid hS2) (fun _ _ h => h); have hS4 := (hS3.block g hbY.lt (fun h => h)).trans hbY.blk; obtain ⟨f2, c2⟩ := FG.out _ hS3; have hS5 := hW5 w5 hS4))
      have hbZ := hset0 w5 true hS3
      have XZ : (w5.setCell ⟨g, 2, none⟩ (.bool true)).heap[X]? = some (.cells #[.string key, .int .i64 q, .bool D, .string ⟨#[]⟩] 41 (0, 0)) := (hbZ.2.block X hXl hnX).trans hXb
      have RZ := (hbZ.2.block w.heap.size (Array.getElem?_eq_some_iff.1 RZY).1 hnR).trans RZY
      have UZ := hUY.trans hbZ.2 (fun _ _ h => h)
      generalize w5.setCell ⟨g, 2, none⟩ (.bool true) = wZ at hbZ XZ RZ UZ ⊢
      have hbz := hbZ.1
      rename_i hheld
      clear hheld hS3 hS4 hS5 f2 c2 hS2 MK FG hset0 hbY hXb RZY hUY hbZ hW5 hq
      cases D with
      | true =>
        have hd2 : d = 1 := by have := beq_iff_eq.1 hD; omega
        have hpost : Hid (EntPost last s ⟨key, q, true, ⟨#[]⟩⟩ key true s4) := Lib.hid (.inr ⟨rfl, by rw [HST.out, if_pos (by omega)]⟩)
        clear hd2 hD HST
        have x0 : wZ.cell? ⟨X, 0, none⟩ = some (.string key) := by rw [cell_of_row wZ _ 0 _ _ _ XZ]; rfl
        have x1 : wZ.cell? ⟨X, 1, none⟩ = some (.int .i64 q) := by rw [cell_of_row wZ _ 1 _ _ _ XZ]; rfl
        have x2 : wZ.cell? ⟨X, 2, none⟩ = some (.bool true) := by rw [cell_of_row wZ _ 2 _ _ _ XZ]; rfl
        have x3 : wZ.cell? ⟨X, 3, none⟩ = some (.string ⟨#[]⟩) := by rw [cell_of_row wZ _ 3 _ _ _ XZ]; rfl
        have t1 := hbz.c1
        have t2 := hbz.free 1
        have y0 : wZ.cell? ⟨w.heap.size, 0, none⟩ = some (.string ⟨#[]⟩) := by rw [cell_of_row wZ _ 0 _ _ _ RZ]; rfl
        have y1 : wZ.cell? ⟨w.heap.size, 1, none⟩ = some (.int .i64 0) := by rw [cell_of_row wZ _ 1 _ _ _ RZ]; rfl
        have y2 : wZ.cell? ⟨w.heap.size, 2, none⟩ = some (.bool false) := by rw [cell_of_row wZ _ 2 _ _ _ RZ]; rfl
        have y3 : wZ.cell? ⟨w.heap.size, 3, none⟩ = some (.string ⟨#[]⟩) := by rw [cell_of_row wZ _ 3 _ _ _ RZ]; rfl
        have yf : ∀ i, wZ.frozen? ⟨w.heap.size, i, none⟩ = false := fun i => frozen_of_row wZ _ i _ _ RZ
        go_wp2
        have hl1 := hbz.setLast key
        have hF := row4 (wZ.setCell ⟨g, 1, none⟩ (.string key)) w.heap.size _ _ _ _ _ (.string key) (.int .i64 q) (.bool true) (.string ⟨#[]⟩) ((hl1.2.block _ (Array.getElem?_eq_some_iff.1 RZ).1 hnR).trans RZ)
        have hG := hl1.1.apart hF.2 hnR
        have hU := (UZ.trans hl1.2 (fun _ _ h => h)).trans hF.2 (S' := fun k => k = w.heap.size) (fun k hk e => by omega)
        generalize ((((wZ.setCell ⟨g, 1, none⟩ (.string key)).setCell ⟨w.heap.size, 0, none⟩ (.string key)).setCell ⟨w.heap.size, 1, none⟩ (.int .i64 q)).setCell ⟨w.heap.size, 2, none⟩ (.bool true)).setCell ⟨w.heap.size, 3, none⟩ (.string ⟨#[]⟩) = wF at hF hG hU ⊢
        have r0 : wF.cell? ⟨w.heap.size, 0, none⟩ = some (.string key) := by rw [cell_of_row wF _ 0 _ _ _ hF.1]; rfl
        have r1 : wF.cell? ⟨w.heap.size, 1, none⟩ = some (.int .i64 q) := by rw [cell_of_row wF _ 1 _ _ _ hF.1]; rfl
        have r2 : wF.cell? ⟨w.heap.size, 2, none⟩ = some (.bool true) := by rw [cell_of_row wF _ 2 _ _ _ hF.1]; rfl
        have r3 : wF.cell? ⟨w.heap.size, 3, none⟩ = some (.string ⟨#[]⟩) := by rw [cell_of_row wF _ 3 _ _ _ hF.1]; rfl
        exact bodyPost_ret (v := .agg #[.string key, .int .i64 q, .bool true, .string ⟨#[]⟩]) (by simp [results, Try.results79, go_sem, r0, r1, r2, r3]) rfl ⟨⟨key, q, true, ⟨#[]⟩⟩, key, _, s4, rfl, hG, hU, hpost.out⟩
      | false =>
        have hd2 : d ≠ 1 := fun e => by rw [e] at hD; cases hD
        have x2 : wZ.cell? ⟨X, 2, none⟩ = some (.bool false) := by rw [cell_of_row wZ _ 2 _ _ _ XZ]; rfl
        go_wp2_with fail
        refine (btext_any _ g gr last _ s4 v e5 r5 (by rw [HS4.out]; exact H5.out) hbz (by omega)).mono ?_
        rintro en w6 ⟨vS, hvS, rfl, s5, hs5, hb6, hu6⟩
        have X6 := (hu6.block X (Array.getElem?_eq_some_iff.1 XZ).1 hnX).trans XZ
        have R6 := (hu6.block w.heap.size (Array.getElem?_eq_some_iff.1 RZ).1 hnR).trans RZ
        have U6 := UZ.trans hu6 (fun _ _ h => h)
        have hpost : Hid (EntPost last s ⟨key, q, false, vS⟩ key (okBad true e5) s5) := Lib.hid (.inr ⟨rfl, by rw [HST.out, if_pos (by omega)]⟩)
        have x63 : w6.cell? ⟨X, 3, none⟩ = some (.string ⟨#[]⟩) := by rw [cell_of_row w6 _ 3 _ _ _ X6]; rfl
        have f63 : w6.frozen? ⟨X, 3, none⟩ = false := frozen_of_row w6 _ 3 _ _ X6
        clear hd2 hD HST hs5 hvS hu6 XZ RZ UZ hbz x2
        go_upto_region 12 with (fail)
        have hu7 : Upd (fun k => k = X) w6 (w6.setCell ⟨X, 3, none⟩ (.string vS)) := (Upd.refl (fun k => k = X) w6).setCell ⟨X, 3, none⟩ rfl _
        have X7 := heap_setCell_same w6 X 3 _ _ (.string vS) X6
        have hb7 := hb6.apart hu7 hnX
        have R7 := (hu7.block w.heap.size (Array.getElem?_eq_some_iff.1 R6).1 (fun e => by omega)).trans R6
        have U7 := U6.trans hu7 (S' := fun k => k = X) (fun k hk e => by omega)
        generalize w6.setCell ⟨X, 3, none⟩ (.string vS) = w7 at hu7 X7 hb7 R7 U7 ⊢
        clear hu7 X6 R6 U6 hb6 x63 f63
        have x0 : w7.cell? ⟨X, 0, none⟩ = some (.string key) := by rw [cell_of_row w7 _ 0 _ _ _ X7]; rfl
        have x1 : w7.cell? ⟨X, 1, none⟩ = some (.int .i64 q) := by rw [cell_of_row w7 _ 1 _ _ _ X7]; rfl
        have x2 : w7.cell? ⟨X, 2, none⟩ = some (.bool false) := by rw [cell_of_row w7 _ 2 _ _ _ X7]; rfl
        have x3 : w7.cell? ⟨X, 3, none⟩ = some (.string vS) := by rw [cell_of_row w7 _ 3 _ _ _ X7]; rfl
        have t1 := hb7.c1
        have t2 := hb7.free 1
        have y0 : w7.cell? ⟨w.heap.size, 0, none⟩ = some (.string ⟨#[]⟩) := by rw [cell_of_row w7 _ 0 _ _ _ R7]; rfl
        have y1 : w7.cell? ⟨w.heap.size, 1, none⟩ = some (.int .i64 0) := by rw [cell_of_row w7 _ 1 _ _ _ R7]; rfl
        have y2 : w7.cell? ⟨w.heap.size, 2, none⟩ = some (.bool false) := by rw [cell_of_row w7 _ 2 _ _ _ R7]; rfl
        have y3 : w7.cell? ⟨w.heap.size, 3, none⟩ = some (.string ⟨#[]⟩) := by rw [cell_of_row w7 _ 3 _ _ _ R7]; rfl
        have yf : ∀ i, w7.frozen? ⟨w.heap.size, i, none⟩ = false := fun i => frozen_of_row w7 _ i _ _ R7
        go_wp2
        have hl1 := hb7.setLast key
        have hF := row4 (w7.setCell ⟨g, 1, none⟩ (.string key)) w.heap.size _ _ _ _ _ (.string key) (.int .i64 q) (.bool false) (.string vS) ((hl1.2.block _ (Array.getElem?_eq_some_iff.1 R7).1 hnR).trans R7)
        have hG := hl1.1.apart hF.2 hnR
        have hU := (U7.trans hl1.2 (fun _ _ h => h)).trans hF.2 (S' := fun k => k = w.heap.size) (fun k hk e => by omega)
        generalize ((((w7.setCell ⟨g, 1, none⟩ (.string key)).setCell ⟨w.heap.size, 0, none⟩ (.string key)).setCell ⟨w.heap.size, 1, none⟩ (.int .i64 q)).setCell ⟨w.heap.size, 2, none⟩ (.bool false)).setCell ⟨w.heap.size, 3, none⟩ (.string vS) = wF at hF hG hU ⊢
        have r0 : wF.cell? ⟨w.heap.size, 0, none⟩ = some (.string key) := by rw [cell_of_row wF _ 0 _ _ _ hF.1]; rfl
        have r1 : wF.cell? ⟨w.heap.size, 1, none⟩ = some (.int .i64 q) := by rw [cell_of_row wF _ 1 _ _ _ hF.1]; rfl
        have r2 : wF.cell? ⟨w.heap.size, 2, none⟩ = some (.bool false) := by rw [cell_of_row wF _ 2 _ _ _ hF.1]; rfl
        have r3 : wF.cell? ⟨w.heap.size, 3, none⟩ = some (.string vS) := by rw [cell_of_row wF _ 3 _ _ _ hF.1]; rfl
        exact bodyPost_ret (v := .agg #[.string key, .int .i64 q, .bool false, .string vS]) (by simp [results, Try.results79, go_sem, r0, r1, r2, r3]) rfl ⟨⟨key, q, false, vS⟩, key, _, s5, rfl, hG, hU, hpost.out⟩
end Go.Proofs.Ytanieolnaiihmaa
