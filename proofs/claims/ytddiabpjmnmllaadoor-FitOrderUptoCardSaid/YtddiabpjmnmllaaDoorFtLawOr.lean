/- The law FitOrder, walked. -/
import Derived.Test.YtddiabpjmnmllaaDoorFtLawFr
import Derived.Test.YtddiabpjmnmllaaDoorFtOrdP
namespace Go.Proofs.YtddiabpjmnmllaaDoor
open Go.RowKit Go.Lib
theorem rem_nat (a : Int) (m : Nat) (h : 0 < m) (hm : m ≤ 1048576) : ∃ k : Nat, k < m ∧ wrap64 ((IntKind.u64.wrap a).tmod (m : Int)) = (k : Int) := by
  have h0 : 0 ≤ IntKind.u64.wrap a := by rw [IntKind.wrap_u64]; exact Int.emod_nonneg _ (by decide)
  have h1 := Int.emod_lt_of_pos (IntKind.u64.wrap a) (show (0 : Int) < (m : Int) by omega)
  have h2 := Int.emod_nonneg (IntKind.u64.wrap a) (show (m : Int) ≠ 0 by omega)
  rw [Int.tmod_eq_emod_of_nonneg h0]
  refine ⟨(IntKind.u64.wrap a % (m : Int)).toNat, by omega, ?_⟩
  rw [Int.toNat_of_nonneg h2]
  generalize IntKind.u64.wrap a % (m : Int) = z at h1 h2
  unfold wrap64
  omega
theorem catv_drop {α : Type} {f : α → List Value} {m : Nat} (hf : ∀ x, (f x).length = m) (l : List α) (k : Nat) : (catv f l).drop (k * m) = catv f (l.drop k) := by
  have h1 := catv_take hf l k
  have h2 : catv f l = catv f (l.take k) ++ catv f (l.drop k) := by rw [← catv_append, List.take_append_drop]
  have h3 : (catv f l).take (k * m) ++ (catv f l).drop (k * m) = catv f (l.take k) ++ catv f (l.drop k) := by rw [List.take_append_drop, ← h2]
  rw [h1] at h3
  exact List.append_cancel_left h3
theorem Rd.dropC {w : World} {B size n gb off : Nat} {xs : List Value} (h : Rd w B size (some ⟨gb, off, none⟩) n xs) (k : Nat) (hk : k ≤ n) : Rd w B size (some ⟨gb, off + k * size, none⟩) (n - k) (xs.drop (k * size)) :=
  ⟨by rw [List.length_drop, h.len, Nat.sub_mul], fun h0 => by
    obtain ⟨ad', e, hb, hc⟩ := h.at_ (by omega)
    injection e with e
    subst e
    refine ⟨_, rfl, hb, fun j u hu => ?_⟩
    rw [addr_flat, Nat.add_assoc, ← addr_flat]
    exact hc _ u (by rw [List.getElem?_drop] at hu; exact hu)⟩
theorem own_set {w : World} {base g cap n size : Nat} {e : TypeId} {xs : List Value} (h : w.ownsRow base e size (.slice (some ⟨g, 0, none⟩) n cap) n xs) (j : Nat) (hj : j < n * size) (u : Value) : (w.setCell ⟨g, j, none⟩ u).ownsRow base e size (.slice (some ⟨g, 0, none⟩) n cap) n (xs.set j u) := by
  obtain ⟨hl, h⟩ := h
  rcases h with ⟨h, _⟩ | ⟨g', cap', cur, hv, hb, hg, hn, hm, hc, hx⟩
  · injection h with h; cases h
  · injection hv with h1 h2 h3
    injection h1 with h1
    injection h1 with h1
    subst h1; subst h3
    refine ⟨by simpa using hl, .inr ⟨g, cap, _, rfl, hb, heap_setCell_same w g j _ _ u hg, hn, hm, by simpa using hc, ?_⟩⟩
    rw [← hx, Array.toList_setIfInBounds, List.take_set]
theorem sit_set : ∀ (l : List MSit) (k : Nat) (hk : k < l.length) (s : MSeat), ((catv sitC l).set (k * 5 + 3) (.int .i64 s.num)).set (k * 5 + 4) (.int .u8 (s.ltr.toNat : Int)) = catv sitC (l.set k ⟨l[k].who, s⟩) := by
  intro l
  induction l with
  | nil => intro k hk; simp at hk
  | cons x t ih =>
    intro k hk s
    cases k with
    | zero =>
      rw [catv_cons, List.set_cons_zero, catv_cons]
      simp [sitC]
    | succ k =>
      have h5 : (sitC x).length = 5 := rfl
      rw [catv_cons, List.set_cons_succ, catv_cons, show (k + 1) * 5 + 3 = (sitC x).length + (k * 5 + 3) by omega, show (k + 1) * 5 + 4 = (sitC x).length + (k * 5 + 4) by omega]
      rw [List.set_append_right _ _ (by omega), List.set_append_right _ _ (by omega), Nat.add_sub_cancel_left, Nat.add_sub_cancel_left, ih k (by simpa using hk) s]
      rfl
theorem turn_set (q : List MSit) (a b : Nat) (ha : a < q.length) (hb : b < q.length) : ((((catv sitC q).set (a * 5 + 3) (.int .i64 q[b].seat.num)).set (a * 5 + 4) (.int .u8 (q[b].seat.ltr.toNat : Int))).set (b * 5 + 3) (.int .i64 q[a].seat.num)).set (b * 5 + 4) (.int .u8 (q[a].seat.ltr.toNat : Int)) = catv sitC (turnL q a b ha hb) := by
  rw [sit_set q a ha, sit_set _ b (by simpa using hb)]
  unfold turnL
  congr 2
  rw [List.getElem_set]
  split
  · rename_i h; subst h; rfl
  · rfl
theorem rev_step (q : List MSit) (J : Nat) (h : J < q.length) : (q.drop (J + 1)).reverse ++ [q[J]] = (q.drop J).reverse := by
  rw [List.drop_eq_getElem_cons h, List.reverse_cons]

set_option maxHeartbeats 16000000 in
set_option maxRecDepth 20000 in
theorem fitOrder_any (w : World) (m : Int) (A : Option Addr) (n c : Nat) (l : List MRow) (S : Option Addr) (k d : Nat) (q : List MSit) (pI pK : Int) (hr : Rd w w.heap.size 5 A n (catv rowC l)) (hf : ∀ r ∈ l, r.fits) (hs : Rd w w.heap.size 5 S k (catv sitC q)) (hq : ∀ x ∈ q, x.seat.fits) (hk : k ≤ 1048576) (hkd : k ≤ d) (hLib : LibAt w m) :
    Calls Tryd.prog 7 #[.slice A n c, .slice S k d, .agg #[.int .i64 pI, .int .i64 pK]] w fun e w' => e = .returned (.bool true) ∧ Below w.heap.size w w' := by
  obtain ⟨i1, hi1, hy0, hy1, hy2⟩ := info_parts sit_info
  obtain rfl := rd_catlen sitC_len (by decide) hs
  obtain ⟨W, hW⟩ : ∃ W, W = w.alloc (.cells #[.int .i64 pI, .int .i64 pK] 49) := ⟨_, rfl⟩
  have hbW : Below w.heap.size w W := by rw [hW]; exact (Below.refl _ w).alloc (Nat.le_refl _) _
  have bx : W.heap[w.heap.size]? = some (.cells #[.int .i64 pI, .int .i64 pK] 49 (0, 0)) := by rw [hW]; exact heap_alloc_new w _
  have HX : Hid (∀ V : World, Below W.heap.size W V → V.cell? ⟨w.heap.size, 0, none⟩ = some (.int .i64 pI) ∧ V.cell? ⟨w.heap.size, 1, none⟩ = some (.int .i64 pK)) := Lib.hid (fun V hV => by
    have b := box_keep bx (Upd.of_below (S := fun _ => False) hV) id
    refine ⟨?_, ?_⟩
    · rw [cell_of_row _ _ 0 _ _ _ b]; rfl
    · rw [cell_of_row _ _ 1 _ _ _ b]; rfl)
  have HBW := Lib.hid hbW
  have HLV : Hid (∀ V : World, Below W.heap.size W V → Calls Tryd.prog 12 #[] V fun e V' => e = .returned (.bool true) ∧ Below V.heap.size V V') := Lib.hid (fun V hV => lives_any V m (hLib.below (bel_on2 hbW hV)))
  obtain ⟨E, hE⟩ : ∃ E, allE l q = E := ⟨_, rfl⟩
  have HA : Hid (∀ V : World, Below W.heap.size W V → Calls Tryd.prog 13 #[.slice A n c, .slice S q.length d] V fun e V' => e = .returned (.int .i64 E) ∧ Below V.heap.size V V') := Lib.hid (fun V hV => by
    have hb := bel_on2 hbW hV
    rw [← hE]
    exact all_any V m A n c l S q.length d q ((hr.below hb).mono hb.size) hf ((hs.below hb).mono hb.size) hq (by omega) (hLib.below hb))
  have HA0 : Hid (∀ V : World, Below W.heap.size W V → Calls Tryd.prog 13 #[.slice A n c, .slice none 0 0] V fun e V' => e = .returned (.int .i64 (errC l)) ∧ Below V.heap.size V V') := Lib.hid (fun V hV => by
    have hb := bel_on2 hbW hV
    exact all_any V m A n c l none 0 0 [] ((hr.below hb).mono hb.size) hf ⟨by simp [catv], fun h => absurd h (by omega)⟩ (by simp) (by simp) (hLib.below hb))
  have HCK : Hid (∀ V : World, Below W.heap.size W V → Calls Tryd.prog 22 #[.slice A n c] V fun e V' => e = .returned (.int .i64 (errC l)) ∧ Below V.heap.size V V') := Lib.hid (fun V hV => by
    have hb := bel_on2 hbW hV
    exact rcheck_any V A n c l ((hr.below hb).mono hb.size) hf)
  have HAL : Hid (∀ (V : World) (cap : Nat) (k2 : Nat) (q2 : List MSit), k2 = q2.length → q2.length ≤ 1048576 → (∀ x ∈ q2, x.seat.fits) → allE l q2 = 0 → Below W.heap.size W V → ∀ A2 : Option Addr, Rd V V.heap.size 5 A2 k2 (catv sitC q2) → Calls Tryd.prog 13 #[.slice A n c, .slice A2 k2 cap] V fun e w' => e = .returned (.int .i64 0) ∧ Below V.heap.size V w') := Lib.hid (fun V cap k2 q2 hk2 hl2 hq2 hz hV A2 hR => by
    have hb := bel_on2 hbW hV
    have := all_any V m A n c l A2 k2 cap q2 ((hr.below hb).mono hb.size) hf hR hq2 (by omega) (hLib.below hb)
    rw [hz] at this
    exact this)
  have HFD : Hid (∀ (V : World) (s : MSeat), Below W.heap.size W V → Calls Tryd.prog 23 #[.agg #[.int .i64 s.num, .int .u8 (s.ltr.toNat : Int)], .slice A n c] V fun e w' => e = .returned (.tuple #[spotV (spotAt (spotsL l) s), .bool (findS (spotsL l) s).isSome]) ∧ Below V.heap.size V w') := Lib.hid (fun V s hV => by
    have hb := bel_on2 hbW hV
    exact rfind_any V A n c l s ((hr.below hb).mono hb.size) hf)
  have HSR : Hid (∀ V : World, Below W.heap.size W V → Rd V w.heap.size 5 S q.length (catv sitC q)) := Lib.hid (fun V hV => hs.below (bel_on2 hbW hV))
  have HEC := Lib.hid (catv_cell sitC_cell q)
  have HE := Lib.hid hE
  have HQ := Lib.hid hq
  clear hbW bx hr hf hs hE hLib hq
  go_enter Tryd.func7, Tryd.ntmps7
  go_wp2_with fail
  rw [← hW]
  clear hW
  refine (HLV.out W (Below.refl _ _)).mono ?_
  rintro e w3 ⟨rfl, hb3⟩
  have HB3 : Hid (Below W.heap.size W w3) := Lib.hid hb3
  have h4 := Lib.hid (HA.out w3 hb3)
  clear hb3 HLV
  go_wp2_with fail
  refine h4.out.mono ?_
  rintro e w4 ⟨rfl, hb4⟩
  have HB4 := Lib.hid (bel_on HB3.out hb4)
  clear hb4 h4 HB3
  by_cases hk0 : q.length = 0
  · have hkz : (q.length : Int) = 0 := by omega
    have h5 := Lib.hid (HCK.out w4 HB4.out)
    have key : ∀ (E2 : Int) , Hid (E2 = E2) := fun _ => Lib.hid rfl
    by_cases hE0 : E = 0
    · subst hE0
      go_wp2_with fail
      refine h5.out.mono ?_
      rintro e w5 ⟨rfl, hb5⟩
      have HB5 := Lib.hid (bel_on HB4.out hb5)
      have h6 := Lib.hid (HA0.out w5 HB5.out)
      clear hb5
      go_wp2_with fail
      refine h6.out.mono ?_
      rintro e w6 ⟨rfl, hb6⟩
      have HB6 := Lib.hid (bel_on2 HBW.out (bel_on HB5.out hb6))
      clear hb6
      go_wp2
      go_ret
      exact ⟨ret_bool (by simp), HB6.out⟩
    · go_wp2_with fail
      refine h5.out.mono ?_
      rintro e w5 ⟨rfl, hb5⟩
      have HB5 := Lib.hid (bel_on HB4.out hb5)
      have h6 := Lib.hid (HA0.out w5 HB5.out)
      clear hb5
      go_wp2_with fail
      refine h6.out.mono ?_
      rintro e w6 ⟨rfl, hb6⟩
      have HB6 := Lib.hid (bel_on2 HBW.out (bel_on HB5.out hb6))
      clear hb6
      go_wp2
      go_ret
      exact ⟨ret_bool (by simp), HB6.out⟩
  · have hkp : (0 : Int) < (q.length : Int) := by omega
    have hkn : ((q.length : Int) == 0) = false := beq_eq_false_iff_ne.2 (by omega)
    by_cases hE0 : E = 0
    · subst hE0
      clear HA0 HCK HA
      obtain ⟨x0, x1⟩ := HX.out _ HB4.out
      obtain ⟨ia, hia, hiw⟩ := rem_nat pI q.length (by omega) (by omega)
      obtain ⟨ib, hib, hiw2⟩ := rem_nat pK q.length (by omega) (by omega)
      have hwk : IntKind.u64.wrap (q.length : Int) = (q.length : Int) := by rw [IntKind.wrap_u64]; omega
      have hwi : IntKind.i64.wrap (ia : Int) = (ia : Int) := IntWalk.i64_in _ (by omega)
      have hwi2 : IntKind.i64.wrap (ib : Int) = (ib : Int) := IntWalk.i64_in _ (by omega)
      go_upto_region 5 with (fail)
      go_cut [7, 8] (fun a b wc => a = .int .i64 (ia : Int) ∧ b = .int .i64 (ib : Int) ∧ Hid (Below W.heap.size W wc))
      case first =>
        go_quiet (fail)
        have hB5 : Hid (∀ nq, Below W.heap.size W (w4.drewN nq)) := Lib.hid (fun nq => bel_drewN HB4.out nq)
        go_wp2_with fail
        go_meet
        exact ⟨by simp [hiw], by simp [hiw2], Lib.hid (hB5.out _)⟩
      case rest =>
        obtain ⟨rfl, rfl, hB5⟩ := hcut
        have hj1 : IntKind.i64.wrap ((q.length : Int) - 1) = (q.length : Int) - 1 := IntWalk.i64_in _ (by omega)
        clear x0 x1 hiw hiw2 hwk HB4 HX
        obtain ⟨gb, off, rfl, hgb, -, -⟩ := (HSR.out wc hB5.out).elem sitC_len (by decide) hia
        have hl1 : q.length ≤ 1048576 := hk
        have HW0 : Hid (w.heap.size ≤ wc.heap.size) := Lib.hid (bel_on2 HBW.out hB5.out).size
        go_wp2
        go_loopw [9, 10] (fun bv jv wx => ∃ (J : Nat) (z : Int), J ≤ q.length ∧ jv = .int .i64 z ∧ z = (J : Int) - 1 ∧ Hid (wx.ownsRow wc.heap.size 39 5 bv (q.length - J) (catv sitC (q.drop J).reverse)) ∧ Hid (Below wc.heap.size wc wx)) (fun _ jv _ => (intOf jv + 1).toNat)
        case atStart => exact ⟨q.length, _, Nat.le_refl _, rfl, rfl, Lib.hid (by rw [List.drop_eq_nil_of_le (Nat.le_refl _), Nat.sub_self]; exact World.ownsRow_nil _ _ _ _), Lib.hid (Below.refl _ _)⟩
        case round =>
          obtain ⟨J, z, hJ, rfl, hz, hOw, hB⟩ := hrel
          cases J with
          | succ J =>
            obtain rfl : z = (J : Int) := by omega
            clear hz
            have hjq : J < q.length := by omega
            obtain ⟨gb', off', hge, _, hs', hcc⟩ := (HSR.out wr (bel_on hB5.out hB.out)).elem sitC_len (by decide) hjq
            simp only [Option.some.injEq, Addr.mk.injEq, and_true] at hge
            obtain ⟨rfl, rfl⟩ := hge
            have hst := rev_step q J hjq
            obtain ⟨x, hx⟩ : ∃ x, q[J] = x := ⟨_, rfl⟩
            rw [hx] at hcc hst
            obtain ⟨⟨xc, xf, xi⟩, ⟨xn, xl⟩⟩ := x
            have c0 := hcc 0 _ rfl
            have c1 := hcc 1 _ rfl
            have c2 := hcc 2 _ rfl
            have c3 := hcc 3 _ rfl
            have c4 := hcc 4 _ rfl
            rw [Nat.add_zero] at c0
            have hj0 : (0 : Int) ≤ (J : Int) := by omega
            have hjz : (J : Int) < (q.length : Int) := by omega
            have hwj : IntKind.i64.wrap ((J : Int) - 1) = (J : Int) - 1 := IntWalk.i64_in _ (by omega)
            have HST := Lib.hid hst
            have hsB := hB.out.size
            clear hcc hx hst hs'
            go_wp2_with (at_builtin; refine wpList_append_new rfl (.tmp 61) (.tmp 66) 25 rfl wc.heap.size 39 i1 _ 5 32 Tryd.underlying25 hi1 hy0 hy1 hy2 rfl (by omega) _ (q.length - (J + 1)) (catv sitC (q.drop (J + 1)).reverse) #[.int .i64 xc, .bool xf, .bool xi, .int .i64 xn, .int .u8 (xl.toNat : Int)] rfl (by exact hOw.out) rfl rfl (by simp [Value.oneCell']) (by omega) (by unfold maxLen; omega) hsB ?_; intro v7 w7 ho7 hg7)
            have hu7 := Upd.of_grown hg7
            have HO7 : Hid (w7.ownsRow wc.heap.size 39 5 v7 (q.length - J) (catv sitC (q.drop J).reverse)) := Lib.hid (by
              have := ho7
              rw [show q.length - (J + 1) + 1 = q.length - J by omega] at this
              rw [← HST.out, catv_append, catv_one]
              exact this)
            have HB7 := Lib.hid (hB.out.trans (hu7.below (fun g hg e => by have := (hOw.out.lt g e).1; omega) hsB))
            clear ho7 hg7 hu7 hOw hB c0 c1 c2 c3 c4
            go_wp2
            go_roundw
            case rel => exact ⟨J, _, by omega, rfl, by simp [hwj], HO7, HB7⟩
            case measure => first | (simp [intOf]; done) | (simp [intOf]; omega)
          | zero =>
            obtain rfl : z = -1 := by omega
            clear hz
            obtain ⟨N1, hN1⟩ : ∃ N1, ia + 1 = N1 := ⟨_, rfl⟩
            obtain ⟨D2, hD2⟩ : ∃ D2, d - N1 = D2 := ⟨_, rfl⟩
            have hw1 : IntKind.i64.wrap ((ia : Int) + 1) = (N1 : Int) := by rw [IntWalk.i64_in _ (by omega)]; omega
            have hn1 : N1 ≤ q.length := by omega
            have hnz : (N1 : Int) ≤ (q.length : Int) := by omega
            have hn0 : (0 : Int) ≤ (N1 : Int) := by omega
            have hnd : (q.length : Int) ≤ (d : Int) := by omega
            have hi0 : (0 : Int) ≤ (ia : Int) := by omega
            have hid : (ia : Int) ≤ (d : Int) := by omega
            have hDD : ((d : Int) - (N1 : Int)).toNat = D2 := by omega
            have HN := Lib.hid hN1
            have hbw := bel_on hB5.out hB.out
            have HR1 : Hid (∀ V : World, Below wr.heap.size wr V → Rd V w.heap.size 5 (some ⟨gb, off, none⟩) ia (catv sitC (q.take ia))) := Lib.hid (fun V hV => by
              have := (HSR.out V (bel_on hbw hV)).take ia (by omega)
              rwa [catv_take sitC_len] at this)
            have HR2 : Hid (∀ V : World, Below wr.heap.size wr V → Rd V w.heap.size 5 (if d = N1 then some ⟨gb, off, none⟩ else some ⟨gb, off + N1 * 5, none⟩) (q.length - N1) (catv sitC (q.drop N1))) := Lib.hid (fun V hV => by
              have := (HSR.out V (bel_on hbw hV)).dropC N1 hn1
              rw [catv_drop sitC_len] at this
              split
              · refine ⟨this.len, fun h0 => by omega⟩
              · exact this)
            have HBr := Lib.hid hbw
            have how := hOw.out
            rw [List.drop_zero, Nat.sub_zero] at how
            obtain ⟨Ab, cb, rfl, hrb⟩ := own_rd how
            have HRB := Lib.hid hrb
            have HW1 : Hid (w.heap.size ≤ wr.heap.size) := Lib.hid (bel_on2 HBW.out hbw).size
            obtain ⟨hlaw1, hlaw2, hlaw3⟩ := order_law HE.out
            have HL1 := Lib.hid hlaw1
            have HL2 : Hid (allE l (q.take ia ++ q.drop N1) = 0) := Lib.hid (by rw [← hN1]; exact hlaw2 ia)
            have HL3 := Lib.hid (hlaw3 ia ib hia hib)
            have HC1 := Lib.hid (catv_cell sitC_cell (q.take ia))
            have HC2 := Lib.hid (catv_cell sitC_cell (q.drop N1))
            clear hbw how hrb hOw hB hlaw1 hlaw2 hlaw3 hN1 hD2 HW0 hB5
            go_upto_region 11 with (fail)
            go_cut [11] (fun v wd => ∃ A2 c2, v = .slice A2 (ia + (q.length - N1)) c2 ∧ Hid (Rd wd wd.heap.size 5 A2 (ia + (q.length - N1)) (catv sitC (q.take ia ++ q.drop N1))) ∧ Hid (Below wr.heap.size wr wd))
            case first =>
              have hbd : Below wr.heap.size wr wr.drew := (Below.refl _ _).drew
              have hb1 := hbd.alloc hbd.size (.cells #[] 39)
              have O1 := Lib.hid (own_empty wr.drew 39 5 wr.heap.size (Nat.le_refl _))
              by_cases hdN : d = N1
              · subst hdN
                have hdlen : q.length - d = 0 := by omega
                have hdrop : q.drop d = [] := List.drop_eq_nil_of_le (by omega)
                go_region_held3 (fun V => Below wr.heap.size wr V)
                  (first | assumption | exact hbd | exact hb1 | exact hb3 | exact hb4)
                  (first
                    | (refine step_app (by rfl) (.tmp 68) (.tmp 71) 25 (by rfl) wr.heap.size 39 i1 _ 5 32 Tryd.underlying25 hi1 hy0 hy1 hy2 rfl (by omega) (.slice (some ⟨wr.heap.size, 0, none⟩) 0 0) 0 [] w.heap.size (some ⟨gb, off, none⟩) ia d (catv sitC (q.take ia)) (by rfl) (by exact O1.out) (by rfl) (HR1.out _ (by exact hb1)) HC1.out (by omega) (by unfold maxLen; omega) (by exact hb1.size) ?_
                       intro v3 w5 ho3 hu3 _
                       have hb3 : Below wr.heap.size wr w5 := hb1.trans (hu3.below (fun i hi e => by simp [Value.ownBlock] at e; omega) hb1.size))
                    | (refine step_app (by rfl) (.tmp 72) (.tmp 76) 25 (by rfl) wr.heap.size 39 i1 _ 5 32 Tryd.underlying25 hi1 hy0 hy1 hy2 rfl (by omega) v3 (0 + ia) ([] ++ catv sitC (q.take ia)) w.heap.size _ 0 _ [] (by rfl) (by exact ho3) (by rfl) Rd.nil (by simp) (by omega) (by unfold maxLen; omega) (by exact hb3.size) ?_
                       intro v4 w6 ho4 hu4 _
                       have hb4 : Below wr.heap.size wr w6 := hb3.trans (hu4.below (fun i hi e => by have := (ho3.lt i e).1; omega) hb3.size))
                    | fail)
                all_goals go_wp2_with fail
                all_goals go_meet
                all_goals (
                  rw [List.nil_append, Nat.zero_add, List.append_nil, Nat.add_zero] at ho4
                  rw [hdrop, List.append_nil, hdlen, Nat.add_zero]
                  obtain ⟨A2, c2, rfl, hr4⟩ := own_rd ho4
                  exact ⟨A2, c2, rfl, Lib.hid hr4, Lib.hid hb4⟩)
              · skip
                go_region_held3 (fun V => Below wr.heap.size wr V)
                  (first | assumption | exact hbd | exact hb1 | exact hb3 | exact hb4)
                  (first
                    | (refine step_app (by rfl) (.tmp 68) (.tmp 71) 25 (by rfl) wr.heap.size 39 i1 _ 5 32 Tryd.underlying25 hi1 hy0 hy1 hy2 rfl (by omega) (.slice (some ⟨wr.heap.size, 0, none⟩) 0 0) 0 [] w.heap.size (some ⟨gb, off, none⟩) ia d (catv sitC (q.take ia)) (by rfl) (by exact O1.out) (by rfl) (HR1.out _ (by exact hb1)) HC1.out (by omega) (by unfold maxLen; omega) (by exact hb1.size) ?_
                       intro v3 w5 ho3 hu3 _
                       have hb3 : Below wr.heap.size wr w5 := hb1.trans (hu3.below (fun i hi e => by simp [Value.ownBlock] at e; omega) hb1.size))
                    | (refine step_app (by rfl) (.tmp 72) (.tmp 76) 25 (by rfl) wr.heap.size 39 i1 _ 5 32 Tryd.underlying25 hi1 hy0 hy1 hy2 rfl (by omega) v3 (0 + ia) ([] ++ catv sitC (q.take ia)) w.heap.size _ (q.length - N1) _ (catv sitC (q.drop N1)) (by rfl) (by exact ho3) (by rfl) (by have := HR2.out _ hb3; rw [if_neg hdN] at this; exact this) HC2.out (by omega) (by unfold maxLen; omega) (by exact hb3.size) ?_
                       intro v4 w6 ho4 hu4 _
                       have hb4 : Below wr.heap.size wr w6 := hb3.trans (hu4.below (fun i hi e => by have := (ho3.lt i e).1; omega) hb3.size))
                    | fail)
                all_goals go_wp2_with fail
                all_goals go_meet
                all_goals (
                  rw [List.nil_append, Nat.zero_add, ← catv_append] at ho4
                  obtain ⟨A2, c2, rfl, hr4⟩ := own_rd ho4
                  exact ⟨A2, c2, rfl, Lib.hid hr4, Lib.hid hb4⟩)
            case rest =>
              obtain ⟨A2, c2, rfl, hRl, hBl⟩ := hcut
              have HBc := Lib.hid (bel_on HBr.out hBl.out)
              have HRB2 := Lib.hid ((HRB.out.below hBl.out).mono hBl.out.size)
              have HW2 : Hid (w.heap.size ≤ wc.heap.size) := Lib.hid (bel_on2 HBW.out HBc.out).size
              clear HR1 HR2 HRB HC1 HC2 hBl HBr HW1 hw1 hn1 hnz hn0 hnd hid hDD
              have t4 := own_nothing wc 39 5
              have t5 := (HSR.out wc HBc.out).below ((below_alloc1 wc (.cells #[] 39)).mono HW2.out)
              have t6 := HEC.out
              go_wp2_with (at_builtin; refine wpList_app rfl (.tmp 78) (.tmp 79) 25 rfl wc.heap.size 39 i1 _ 5 32 Tryd.underlying25 hi1 hy0 hy1 hy2 rfl (by omega) _ 0 [] w.heap.size (some ⟨gb, off, none⟩) q.length d (catv sitC q) rfl t4 rfl t5 t6 ?e1 ?e2 ?e3 ?_)
              case e1 => omega
              case e2 => unfold maxLen; omega
              case e3 => simp
              intro v5 w5 ho5 hu5 _
              have hb5 : Below wc.heap.size wc w5 := (below_alloc1 wc (.cells #[] 39)).trans (hu5.below (fun k hk e => by simp [Value.ownBlock] at e; omega) (by simp))
              obtain ⟨gt, ct, rfl, hgt, hgl, -, -⟩ := own_form ho5 (by omega)
              have hbw5 := bel_on HBc.out hb5
              obtain ⟨_, _, hge, _, hsa, ha5⟩ := (HSR.out w5 hbw5).elem sitC_len (by decide) hia
              simp only [Option.some.injEq, Addr.mk.injEq, and_true] at hge
              obtain ⟨rfl, rfl⟩ := hge
              obtain ⟨_, _, hge, _, hsb, hb5'⟩ := (HSR.out w5 hbw5).elem sitC_len (by decide) hib
              simp only [Option.some.injEq, Addr.mk.injEq, and_true] at hge
              obtain ⟨rfl, rfl⟩ := hge
              obtain ⟨_, _, hge, _, _, hta⟩ := (Rd.own ho5).elem sitC_len (by decide) hia
              simp only [Option.some.injEq, Addr.mk.injEq, and_true] at hge
              obtain ⟨rfl, rfl⟩ := hge
              obtain ⟨_, _, hge, _, _, htb⟩ := (Rd.own ho5).elem sitC_len (by decide) hib
              simp only [Option.some.injEq, Addr.mk.injEq, and_true] at hge
              obtain ⟨rfl, rfl⟩ := hge
              have hts := turn_set q ia ib hia hib
              obtain ⟨x, hx⟩ : ∃ x, q[ia] = x := ⟨_, rfl⟩
              obtain ⟨y, hy⟩ : ∃ y, q[ib] = y := ⟨_, rfl⟩
              have HL := Lib.hid (show (blkOf (spotsL l) x.seat = blkOf (spotsL l) y.seat ∨ x.who = y.who) → allE l (turnL q ia ib hia hib) = 0 by rw [← hx, ← hy]; exact HL3.out)
              have hqt : ∀ z ∈ turnL q ia ib hia hib, z.seat.fits := by
                intro z hz
                obtain ⟨i, hi, rfl⟩ := List.getElem_of_mem hz
                rw [turnL_len] at hi
                rw [turnL_get q ia ib hia hib i hi]
                exact HQ.out (q[exch ia ib i]'(exch_lt hia hib hi)) (List.getElem_mem _)
              have HQT := Lib.hid hqt
              have htl := turnL_len q ia ib hia hib
              rw [hx] at ha5 hta hts
              rw [hy] at hb5' htb hts
              obtain ⟨TT, hTT⟩ : ∃ TT, turnL q ia ib hia hib = TT := ⟨_, rfl⟩
              rw [hTT] at hts HL HQT htl
              have HXY : Hid (ia = ib → x = y) := Lib.hid (fun e => by subst e; exact hx.symm.trans hy)
              obtain ⟨⟨xc, xf, xi⟩, ⟨xn, xl⟩⟩ := x
              obtain ⟨⟨yc, yf, yi⟩, ⟨yn, yl⟩⟩ := y
              simp only at hts HL
              have HS2 : Hid (∀ V : World, Below wc.heap.size wc V → V.cell? ⟨gb, off + ia * 5, none⟩ = some (.int .i64 xc) ∧ V.cell? ⟨gb, off + ia * 5 + 1, none⟩ = some (.bool xf) ∧ V.cell? ⟨gb, off + ia * 5 + 2, none⟩ = some (.bool xi) ∧ V.cell? ⟨gb, off + ia * 5 + 3, none⟩ = some (.int .i64 xn) ∧ V.cell? ⟨gb, off + ia * 5 + 4, none⟩ = some (.int .u8 (xl.toNat : Int)) ∧ V.cell? ⟨gb, off + ib * 5, none⟩ = some (.int .i64 yc) ∧ V.cell? ⟨gb, off + ib * 5 + 1, none⟩ = some (.bool yf) ∧ V.cell? ⟨gb, off + ib * 5 + 2, none⟩ = some (.bool yi) ∧ V.cell? ⟨gb, off + ib * 5 + 3, none⟩ = some (.int .i64 yn) ∧ V.cell? ⟨gb, off + ib * 5 + 4, none⟩ = some (.int .u8 (yl.toNat : Int))) := Lib.hid (fun V hV => by
                have hgw : gb < wc.heap.size := Nat.lt_of_lt_of_le hgb (bel_on2 HBW.out HBc.out).size
                exact ⟨(hV.cell (p := ⟨gb, off + ia * 5, none⟩) hgw).trans ((hb5.cell (p := ⟨gb, off + ia * 5, none⟩) hgw).symm.trans (ha5 0 _ rfl)), (hV.cell (p := ⟨gb, off + ia * 5 + 1, none⟩) hgw).trans ((hb5.cell (p := ⟨gb, off + ia * 5 + 1, none⟩) hgw).symm.trans (ha5 1 _ rfl)), (hV.cell (p := ⟨gb, off + ia * 5 + 2, none⟩) hgw).trans ((hb5.cell (p := ⟨gb, off + ia * 5 + 2, none⟩) hgw).symm.trans (ha5 2 _ rfl)), (hV.cell (p := ⟨gb, off + ia * 5 + 3, none⟩) hgw).trans ((hb5.cell (p := ⟨gb, off + ia * 5 + 3, none⟩) hgw).symm.trans (ha5 3 _ rfl)), (hV.cell (p := ⟨gb, off + ia * 5 + 4, none⟩) hgw).trans ((hb5.cell (p := ⟨gb, off + ia * 5 + 4, none⟩) hgw).symm.trans (ha5 4 _ rfl)),
                  (hV.cell (p := ⟨gb, off + ib * 5, none⟩) hgw).trans ((hb5.cell (p := ⟨gb, off + ib * 5, none⟩) hgw).symm.trans (hb5' 0 _ rfl)), (hV.cell (p := ⟨gb, off + ib * 5 + 1, none⟩) hgw).trans ((hb5.cell (p := ⟨gb, off + ib * 5 + 1, none⟩) hgw).symm.trans (hb5' 1 _ rfl)), (hV.cell (p := ⟨gb, off + ib * 5 + 2, none⟩) hgw).trans ((hb5.cell (p := ⟨gb, off + ib * 5 + 2, none⟩) hgw).symm.trans (hb5' 2 _ rfl)), (hV.cell (p := ⟨gb, off + ib * 5 + 3, none⟩) hgw).trans ((hb5.cell (p := ⟨gb, off + ib * 5 + 3, none⟩) hgw).symm.trans (hb5' 3 _ rfl)), (hV.cell (p := ⟨gb, off + ib * 5 + 4, none⟩) hgw).trans ((hb5.cell (p := ⟨gb, off + ib * 5 + 4, none⟩) hgw).symm.trans (hb5' 4 _ rfl))⟩)
              obtain ⟨-, -, -, s3, s4, -, -, -, r3, r4⟩ := HS2.out w5 hb5
              have t3 := hta 3 _ rfl
              have t4 := hta 4 _ rfl
              have u3 := htb 3 _ rfl
              have u4 := htb 4 _ rfl
              simp only [Nat.zero_add] at t3 t4 u3 u4
              rw [show ia * 5 + 4 = ia * 5 + 3 + 1 from rfl] at t4
              rw [show ib * 5 + 4 = ib * 5 + 3 + 1 from rfl] at u4
              rw [show off + ia * 5 + 4 = off + ia * 5 + 3 + 1 from rfl] at s4
              rw [show off + ib * 5 + 4 = off + ib * 5 + 3 + 1 from rfl] at r4
              have hfz : ∀ k, w5.frozen? ⟨gt, k, none⟩ = false := fun k => OwnAny.frozen (e := 39) (base := wc.heap.size) (size := 5) ⟨_, ho5⟩ k
              have f1 := hfz (ia * 5 + 3)
              have f2 := hfz (ia * 5 + 3 + 1)
              have f3 := hfz (ib * 5 + 3)
              have f4 := hfz (ib * 5 + 3 + 1)
              have o1 := own_set ho5 (ia * 5 + 3) (by omega) (.int .i64 yn)
              have o2 := own_set o1 (ia * 5 + 3 + 1) (by omega) (.int .u8 (yl.toNat : Int))
              have o3 := own_set o2 (ib * 5 + 3) (by omega) (.int .i64 xn)
              have o4 := own_set o3 (ib * 5 + 3 + 1) (by omega) (.int .u8 (xl.toNat : Int))
              rw [hts] at o4
              have hU : Upd (fun k => k = gt) w5 ((((w5.setCell ⟨gt, ia * 5 + 3, none⟩ (.int .i64 yn)).setCell ⟨gt, ia * 5 + 3 + 1, none⟩ (.int .u8 (yl.toNat : Int))).setCell ⟨gt, ib * 5 + 3, none⟩ (.int .i64 xn)).setCell ⟨gt, ib * 5 + 3 + 1, none⟩ (.int .u8 (xl.toNat : Int))) := ((((Upd.refl (fun k => k = gt) w5).setCell ⟨gt, ia * 5 + 3, none⟩ rfl _).setCell ⟨gt, ia * 5 + 3 + 1, none⟩ rfl _).setCell ⟨gt, ib * 5 + 3, none⟩ rfl _).setCell ⟨gt, ib * 5 + 3 + 1, none⟩ rfl _
              have HOX : Hid ((((((w5.setCell ⟨gt, ia * 5 + 3, none⟩ (.int .i64 yn)).setCell ⟨gt, ia * 5 + 3 + 1, none⟩ (.int .u8 (yl.toNat : Int))).setCell ⟨gt, ib * 5 + 3, none⟩ (.int .i64 xn)).setCell ⟨gt, ib * 5 + 3 + 1, none⟩ (.int .u8 (xl.toNat : Int))).drew).ownsRow wc.heap.size 39 5 (.slice (some ⟨gt, 0, none⟩) q.length ct) q.length (catv sitC TT)) := Lib.hid o4
              have HBX : Hid (Below wc.heap.size wc (((((w5.setCell ⟨gt, ia * 5 + 3, none⟩ (.int .i64 yn)).setCell ⟨gt, ia * 5 + 3 + 1, none⟩ (.int .u8 (yl.toNat : Int))).setCell ⟨gt, ib * 5 + 3, none⟩ (.int .i64 xn)).setCell ⟨gt, ib * 5 + 3 + 1, none⟩ (.int .u8 (xl.toNat : Int))).drew)) := Lib.hid (hb5.trans (hU.below (fun k hk e => by omega) hb5.size)).drew
              have hgtl : gt < w5.heap.size := hgl
              have hia0 : (0 : Int) ≤ (ia : Int) := by omega
              have hib0 : (0 : Int) ≤ (ib : Int) := by omega
              have hiaz : (ia : Int) < (q.length : Int) := by omega
              have hibz : (ib : Int) < (q.length : Int) := by omega
              clear ha5 hb5' hta htb hts HL3 hx hy hTT hqt hfz o1 o2 o3 o4 hU ho5 hsa hsb hb5 hu5 t6
              go_upto_region 13 with (fail)
              go_cut [12] (fun v wd => v = .slice (some ⟨gt, 0, none⟩) q.length ct ∧ Hid (wd.ownsRow wc.heap.size 39 5 (.slice (some ⟨gt, 0, none⟩) q.length ct) q.length (catv sitC TT)) ∧ Hid (Below wc.heap.size wc wd))
              case first =>
                by_cases hne : ia = ib
                · subst hne
                  have hxy := HXY.out rfl
                  injection hxy with e1 e2
                  injection e2 with e2 e3
                  subst e2
                  subst e3
                  go_region
                  go_wp2_with fail
                  go_meet
                  exact ⟨rfl, HOX, HBX⟩
                · have hne2 : ¬ ia * 5 + 3 = ib * 5 + 3 := by omega
                  have hne3 : ¬ ia * 5 + 3 = ib * 5 + 3 + 1 := by omega
                  have hne4 : ¬ ia * 5 + 3 + 1 = ib * 5 + 3 := by omega
                  have hne5 : ¬ ia * 5 + 3 + 1 = ib * 5 + 3 + 1 := by omega
                  have hne6 : ¬ ib * 5 + 3 = ia * 5 + 3 := by omega
                  have hne7 : ¬ ib * 5 + 3 = ia * 5 + 3 + 1 := by omega
                  have hne8 : ¬ ib * 5 + 3 + 1 = ia * 5 + 3 := by omega
                  have hne9 : ¬ ib * 5 + 3 + 1 = ia * 5 + 3 + 1 := by omega
                  go_region
                  go_wp2_with fail
                  go_meet
                  exact ⟨rfl, HOX, HBX⟩
              case rest =>
                obtain ⟨rfl, hOX, hBX⟩ := hcut
                have HBY := Lib.hid (bel_on HBc.out hBX.out)
                have HRT := Lib.hid (Rd.own hOX.out)
                have HRB3 := Lib.hid ((HRB2.out.below hBX.out).mono hBX.out.size)
                have HRl3 := Lib.hid ((hRl.out.below hBX.out).mono hBX.out.size)
                have HS3 : Hid (∀ V : World, Below wc.heap.size wc V → V.cell? ⟨gb, off + ia * 5, none⟩ = some (.int .i64 xc) ∧ V.cell? ⟨gb, off + ia * 5 + 1, none⟩ = some (.bool xf) ∧ V.cell? ⟨gb, off + ia * 5 + 2, none⟩ = some (.bool xi) ∧ V.cell? ⟨gb, off + ia * 5 + 3, none⟩ = some (.int .i64 xn) ∧ V.cell? ⟨gb, off + ia * 5 + 3 + 1, none⟩ = some (.int .u8 (xl.toNat : Int)) ∧ V.cell? ⟨gb, off + ib * 5, none⟩ = some (.int .i64 yc) ∧ V.cell? ⟨gb, off + ib * 5 + 1, none⟩ = some (.bool yf) ∧ V.cell? ⟨gb, off + ib * 5 + 2, none⟩ = some (.bool yi) ∧ V.cell? ⟨gb, off + ib * 5 + 3, none⟩ = some (.int .i64 yn) ∧ V.cell? ⟨gb, off + ib * 5 + 3 + 1, none⟩ = some (.int .u8 (yl.toNat : Int))) := Lib.hid (fun V hV => HS2.out V (bel_on hBX.out hV))
                obtain ⟨-, -, -, a3, a4, -, -, -, -, -⟩ := HS3.out wc (Below.refl _ _)
                obtain ⟨⟨⟨sn, sl⟩, sc, sz, sb, se, sk⟩, hSp⟩ : ∃ Sp, spotAt (spotsL l) ⟨xn, xl⟩ = Sp := ⟨_, rfl⟩
                obtain ⟨⟨⟨tn, tl⟩, tc, tz, tb, te, tk⟩, hTp⟩ : ∃ Sp, spotAt (spotsL l) ⟨yn, yl⟩ = Sp := ⟨_, rfl⟩
                have hbk1 : blkOf (spotsL l) ⟨xn, xl⟩ = sb := by unfold blkOf; rw [hSp]
                have hbk2 : blkOf (spotsL l) ⟨yn, yl⟩ = tb := by unfold blkOf; rw [hTp]
                have hF1 := HFD.out wc ⟨xn, xl⟩ HBY.out
                rw [hSp] at hF1
                have hF2 : Hid (∀ V : World, Below wc.heap.size wc V → Calls Tryd.prog 23 #[.agg #[.int .i64 yn, .int .u8 (yl.toNat : Int)], .slice A n c] V fun e w' => e = .returned (.tuple #[spotV ⟨⟨tn, tl⟩, tc, tz, tb, te, tk⟩, .bool (findS (spotsL l) ⟨yn, yl⟩).isSome]) ∧ Below V.heap.size V w') := Lib.hid (fun V hV => by
                  have := HFD.out V ⟨yn, yl⟩ (bel_on HBY.out hV)
                  rwa [hTp] at this)
                rw [hbk1, hbk2] at HL
                obtain ⟨k1, hk1⟩ : ∃ o, (findS (spotsL l) ⟨xn, xl⟩).isSome = o := ⟨_, rfl⟩
                obtain ⟨k2, hk2⟩ : ∃ o, (findS (spotsL l) ⟨yn, yl⟩).isSome = o := ⟨_, rfl⟩
                rw [hk1] at hF1
                rw [hk2] at hF2
                have HF1 := Lib.hid hF1
                clear hOX hBX HOX HBX HXY HS2 HRB2 hRl hSp hTp hbk1 hbk2 hF1 hk1 hk2 HFD HBc HW2 s3 s4 r3 r4 t3 t4 u3 u4 f1 f2 f3 f4 hbw5
                unfold spotV at HF1 hF2
                simp only at HF1 hF2
                go_wp2_with fail
                refine HF1.out.mono ?_
                rintro e w6 ⟨rfl, hb6⟩
                obtain ⟨V6, hV6⟩ : ∃ V, V = w6.alloc (.cells #[.int .i64 sn, .int .u8 (sl.toNat : Int), .int .i64 sc, .int .i64 sz, .int .i64 sb, .bool se, .bool sk] 35) := ⟨_, rfl⟩
                have hv6 : Below w6.heap.size w6 V6 := by rw [hV6]; exact (Below.refl _ _).alloc (Nat.le_refl _) _
                have bx6 : V6.heap[w6.heap.size]? = some (.cells #[.int .i64 sn, .int .u8 (sl.toNat : Int), .int .i64 sc, .int .i64 sz, .int .i64 sb, .bool se, .bool sk] 35 (0, 0)) := by rw [hV6]; exact heap_alloc_new w6 _
                have hbV6 : Below wc.heap.size wc V6 := bel_on hb6 hv6
                obtain ⟨x6, hx6⟩ : ∃ x, w6.heap.size = x := ⟨_, rfl⟩
                rw [hx6] at bx6
                obtain ⟨-, -, -, -, -, -, -, -, b3, b4⟩ := HS3.out w6 hb6
                have hg6 : gb < w6.heap.size := Nat.lt_of_lt_of_le hgb (Nat.le_trans (bel_on2 HBW.out HBY.out).size hb6.size)
                have hg6x : gb < x6 := by omega
                have HF2 := Lib.hid (hF2.out V6 hbV6)
                have HBV6 := Lib.hid hbV6
                have HX6 := Lib.hid bx6
                clear hb6 hv6 bx6 hbV6 HF1 hF2 a3 a4
                go_wp2_with fail
                rw [← hV6]
                clear hV6 hx6
                refine HF2.out.mono ?_
                rintro e w7 ⟨rfl, hb7⟩
                obtain ⟨V7, hV7⟩ : ∃ V, V = w7.alloc (.cells #[.int .i64 tn, .int .u8 (tl.toNat : Int), .int .i64 tc, .int .i64 tz, .int .i64 tb, .bool te, .bool tk] 35) := ⟨_, rfl⟩
                have hv7 : Below w7.heap.size w7 V7 := by rw [hV7]; exact (Below.refl _ _).alloc (Nat.le_refl _) _
                have bx7 : V7.heap[w7.heap.size]? = some (.cells #[.int .i64 tn, .int .u8 (tl.toNat : Int), .int .i64 tc, .int .i64 tz, .int .i64 tb, .bool te, .bool tk] 35 (0, 0)) := by rw [hV7]; exact heap_alloc_new w7 _
                have hbV7 : Below V6.heap.size V6 V7 := bel_on hb7 hv7
                have HX67 := Lib.hid (box_keep HX6.out (Upd.of_below (S := fun _ => False) hbV7) id)
                have HBV7 := Lib.hid (bel_on HBV6.out hbV7)
                obtain ⟨x7, hx7⟩ : ∃ x, w7.heap.size = x := ⟨_, rfl⟩
                rw [hx7] at bx7
                have HX7 := Lib.hid bx7
                have HA1 := Lib.hid (HAL.out V7 cb q.length q.reverse (by simp) (by simp; omega) (fun z hz => HQ.out z (List.mem_reverse.1 hz)) HL1.out (bel_on HBY.out HBV7.out) Ab ((HRB3.out.below HBV7.out).mono HBV7.out.size))
                clear hb7 hv7 bx7 hbV7 HF2 b3 b4 hg6 hg6x HX6 HBV6
                go_wp2_with fail
                rw [← hV7]
                clear hV7 hx7
                refine HA1.out.mono ?_
                rintro e w8 ⟨rfl, hb8⟩
                have HB8 := Lib.hid (bel_on HBV7.out hb8)
                have HX68 := Lib.hid (box_keep HX67.out (Upd.of_below (S := fun _ => False) hb8) id)
                have HX78 := Lib.hid (box_keep HX7.out (Upd.of_below (S := fun _ => False) hb8) id)
                have hlen2 : ia + (q.length - N1) = (q.take ia ++ q.drop N1).length := by have := HN.out; simp; omega
                have HA2 := Lib.hid (HAL.out w8 c2 (ia + (q.length - N1)) (q.take ia ++ q.drop N1) hlen2 (by have := HN.out; rw [← hlen2]; omega) (fun z hz => HQ.out z (by
                  rcases List.mem_append.1 hz with hz | hz
                  · exact List.mem_of_mem_take hz
                  · exact List.mem_of_mem_drop hz)) HL2.out (bel_on HBY.out HB8.out) A2 ((HRl3.out.below HB8.out).mono HB8.out.size))
                clear hb8 HA1 HX67 HX7 HBV7 hlen2
                go_wp2_with fail
                refine HA2.out.mono ?_
                rintro e w9 ⟨rfl, hb9⟩
                have HB9 := Lib.hid (bel_on HB8.out hb9)
                have HX69 := Lib.hid (box_keep HX68.out (Upd.of_below (S := fun _ => False) hb9) id)
                have HX79 := Lib.hid (box_keep HX78.out (Upd.of_below (S := fun _ => False) hb9) id)
                have HX6l : Hid (x6 < w9.heap.size ∧ x7 < w9.heap.size) := Lib.hid ⟨(Array.getElem?_eq_some_iff.1 HX69.out).1, (Array.getElem?_eq_some_iff.1 HX79.out).1⟩
                have MK : Hid (∀ V : World, Below w9.heap.size w9 V → Below w9.heap.size w9 V ∧ V.cell? ⟨x6, 4, none⟩ = some (.int .i64 sb) ∧ V.cell? ⟨x7, 4, none⟩ = some (.int .i64 tb) ∧ V.cell? ⟨gb, off + ia * 5, none⟩ = some (.int .i64 xc) ∧ V.cell? ⟨gb, off + ia * 5 + 1, none⟩ = some (.bool xf) ∧ V.cell? ⟨gb, off + ia * 5 + 2, none⟩ = some (.bool xi) ∧ V.cell? ⟨gb, off + ib * 5, none⟩ = some (.int .i64 yc) ∧ V.cell? ⟨gb, off + ib * 5 + 1, none⟩ = some (.bool yf) ∧ V.cell? ⟨gb, off + ib * 5 + 2, none⟩ = some (.bool yi)) := Lib.hid (fun V hV => by
                  obtain ⟨m0, m1, m2, -, -, n0, n1, n2, -, -⟩ := HS3.out V (bel_on HB9.out hV)
                  have e6 := box_keep HX69.out (Upd.of_below (S := fun _ => False) hV) id
                  have e7 := box_keep HX79.out (Upd.of_below (S := fun _ => False) hV) id
                  refine ⟨hV, ?_, ?_, m0, m1, m2, n0, n1, n2⟩
                  · rw [cell_of_row _ _ 4 _ _ _ e6]; rfl
                  · rw [cell_of_row _ _ 4 _ _ _ e7]; rfl)
                have HA3 : Hid ((sb = tb ∨ (⟨xc, xf, xi⟩ : MWho) = ⟨yc, yf, yi⟩) → ∀ V : World, Below w9.heap.size w9 V → Calls Tryd.prog 13 #[.slice A n c, .slice (some ⟨gt, 0, none⟩) q.length ct] V fun e w' => e = .returned (.int .i64 0) ∧ Below V.heap.size V w') := Lib.hid (fun h V hV => HAL.out V ct q.length TT htl.symm (by omega) HQT.out (HL.out h) (bel_on HBY.out (bel_on HB9.out hV)) (some ⟨gt, 0, none⟩) ((HRT.out.below (bel_on HB9.out hV)).mono (bel_on HB9.out hV).size))
                have HBE := Lib.hid (bel_on HBY.out HB9.out)
                have hbd : Below w9.heap.size w9 w9.drew := (Below.refl _ _).drew
                clear hb9 HA2 HX68 HX78 HB8 HS3 HAL HQ HL1 HL2 HL HRT HRB3 HRl3 htl HQT
                go_upto_region 18 with (fail)
                go_cut [6] (fun v wd => v = .bool true ∧ Hid (Below w9.heap.size w9 wd))
                case first =>
                  obtain ⟨eqb, heqb⟩ : ∃ eqb, decide ((⟨xc, xf, xi⟩ : MWho) = ⟨yc, yf, yi⟩) = eqb := ⟨_, rfl⟩
                  obtain ⟨-, z6, z7, m0, m1, m2, n0, n1, n2⟩ := MK.out w9 (Below.refl _ _)
                  have hse : ∀ V : World, (Op.equalIn 10000 24 (.agg #[.int .i64 xc, .bool xf, .bool xi]) (.agg #[.int .i64 yc, .bool yf, .bool yi])).run Tryd.prog V = .ok eqb V := fun V => by rw [← heqb]; exact who_eqIn V ⟨xc, xf, xi⟩ ⟨yc, yf, yi⟩
                  by_cases hbe : sb = tb
                  · have hbd3 : (sb != tb) = false := by simpa using hbe
                    have HA4 := Lib.hid (HA3.out (.inl hbe))
                    clear hbe
                    clear HA3 heqb
                    refine wp_region_held_drew (S := (fun V => Below w9.heap.size w9 V ∧ V.cell? ⟨x6, 4, none⟩ = some (.int .i64 sb) ∧ V.cell? ⟨x7, 4, none⟩ = some (.int .i64 tb) ∧ V.cell? ⟨gb, off + ia * 5, none⟩ = some (.int .i64 xc) ∧ V.cell? ⟨gb, off + ia * 5 + 1, none⟩ = some (.bool xf) ∧ V.cell? ⟨gb, off + ia * 5 + 2, none⟩ = some (.bool xi) ∧ V.cell? ⟨gb, off + ib * 5, none⟩ = some (.int .i64 yc) ∧ V.cell? ⟨gb, off + ib * 5 + 1, none⟩ = some (.bool yf) ∧ V.cell? ⟨gb, off + ib * 5 + 2, none⟩ = some (.bool yi))) (by kernel_rfl) (by exact MK.out _ hbd) (fun hHeld => ?_)
                    refine wpAnyH_take (i := 0) (v := ?_) rfl (by kernel_rfl) (by kernel_rfl) (by kernel_rfl) (fun _ _ _ h => h) (Or.inl ⟨by kernel_rfl, ?_⟩) (by assumption) ?_
                    rotate_left
                    · (intro w hSw; (try dsimp only at hSw); go_simp; try with_reducible rfl)
                    try simp only [Act.put, List.getElem_toArray, List.getElem_cons_succ, List.getElem_cons_zero, List.setIfInBounds_toArray, List.set_cons_zero, List.set_cons_succ]
                    refine wpAnyH_take (i := 1) (v := ?_) rfl (by kernel_rfl) (by kernel_rfl) (by kernel_rfl) (fun _ _ _ h => h) (Or.inl ⟨by kernel_rfl, ?_⟩) (by assumption) ?_
                    rotate_left
                    · (intro w hSw; (try dsimp only at hSw); go_simp; try with_reducible rfl)
                    try simp only [Act.put, List.getElem_toArray, List.getElem_cons_succ, List.getElem_cons_zero, List.setIfInBounds_toArray, List.set_cons_zero, List.set_cons_succ]
                    refine wpAnyH_take (i := 2) (v := ?_) rfl (by kernel_rfl) (by kernel_rfl) (by kernel_rfl) (fun _ _ _ h => h) (Or.inl ⟨by kernel_rfl, ?_⟩) (by assumption) ?_
                    rotate_left
                    · (intro w hSw; (try dsimp only at hSw); go_simp; try with_reducible rfl)
                    try simp only [Act.put, List.getElem_toArray, List.getElem_cons_succ, List.getElem_cons_zero, List.setIfInBounds_toArray, List.set_cons_zero, List.set_cons_succ]
                    refine wpAnyH_take (i := 3) (v := ?_) rfl (by kernel_rfl) (by kernel_rfl) (by kernel_rfl) (fun _ _ _ h => h) (Or.inl ⟨by kernel_rfl, ?_⟩) (by assumption) ?_
                    rotate_left
                    · (intro w hSw; (try dsimp only at hSw); go_simp; try with_reducible rfl)
                    try simp only [Act.put, List.getElem_toArray, List.getElem_cons_succ, List.getElem_cons_zero, List.setIfInBounds_toArray, List.set_cons_zero, List.set_cons_succ]
                    refine wpAnyH_take (i := 4) (v := ?_) rfl (by kernel_rfl) (by kernel_rfl) (by kernel_rfl) (fun _ _ _ h => h) (Or.inl ⟨by kernel_rfl, ?_⟩) (by assumption) ?_
                    rotate_left
                    · (intro w hSw; (try dsimp only at hSw); go_simp; try with_reducible rfl)
                    try simp only [Act.put, List.getElem_toArray, List.getElem_cons_succ, List.getElem_cons_zero, List.setIfInBounds_toArray, List.set_cons_zero, List.set_cons_succ]
                    refine wpAnyH_take (i := 5) (v := ?_) rfl (by kernel_rfl) (by kernel_rfl) (by kernel_rfl) (fun _ _ _ h => h) (Or.inl ⟨by kernel_rfl, ?_⟩) (by assumption) ?_
                    rotate_left
                    · (intro w hSw; (try dsimp only at hSw); go_simp; try with_reducible rfl)
                    try simp only [Act.put, List.getElem_toArray, List.getElem_cons_succ, List.getElem_cons_zero, List.setIfInBounds_toArray, List.set_cons_zero, List.set_cons_succ]
                    refine wpAnyH_take (i := 6) (v := undef) rfl (by kernel_rfl) (by kernel_rfl) (by kernel_rfl) (fun _ _ _ h => h) (Or.inr ⟨by kernel_rfl, rfl⟩) (by assumption) ?_
                    try simp only [Act.put, List.getElem_toArray, List.getElem_cons_succ, List.getElem_cons_zero, List.setIfInBounds_toArray, List.set_cons_zero, List.set_cons_succ]
                    refine wpAnyH_take (i := 7) (v := undef) rfl (by kernel_rfl) (by kernel_rfl) (by kernel_rfl) (fun _ _ _ h => h) (Or.inr ⟨by kernel_rfl, rfl⟩) (by assumption) ?_
                    try simp only [Act.put, List.getElem_toArray, List.getElem_cons_succ, List.getElem_cons_zero, List.setIfInBounds_toArray, List.set_cons_zero, List.set_cons_succ]
                    refine wpAnyH_take (i := 8) (v := undef) rfl (by kernel_rfl) (by kernel_rfl) (by kernel_rfl) (fun _ _ _ h => h) (Or.inr ⟨by kernel_rfl, rfl⟩) (by assumption) ?_
                    try simp only [Act.put, List.getElem_toArray, List.getElem_cons_succ, List.getElem_cons_zero, List.setIfInBounds_toArray, List.set_cons_zero, List.set_cons_succ]
                    refine wpAnyH_take (i := 9) (v := undef) rfl (by kernel_rfl) (by kernel_rfl) (by kernel_rfl) (fun _ _ _ h => h) (Or.inr ⟨by kernel_rfl, rfl⟩) (by assumption) ?_
                    try simp only [Act.put, List.getElem_toArray, List.getElem_cons_succ, List.getElem_cons_zero, List.setIfInBounds_toArray, List.set_cons_zero, List.set_cons_succ]
                    refine wpAnyH_take (i := 10) (v := undef) rfl (by kernel_rfl) (by kernel_rfl) (by kernel_rfl) (fun _ _ _ h => h) (Or.inr ⟨by kernel_rfl, rfl⟩) (by assumption) ?_
                    try simp only [Act.put, List.getElem_toArray, List.getElem_cons_succ, List.getElem_cons_zero, List.setIfInBounds_toArray, List.set_cons_zero, List.set_cons_succ]
                    refine wpAnyH_take (i := 11) (v := undef) rfl (by kernel_rfl) (by kernel_rfl) (by kernel_rfl) (fun _ _ _ h => h) (Or.inr ⟨by kernel_rfl, rfl⟩) (by assumption) ?_
                    try simp only [Act.put, List.getElem_toArray, List.getElem_cons_succ, List.getElem_cons_zero, List.setIfInBounds_toArray, List.set_cons_zero, List.set_cons_succ]
                    refine wpAnyH_take (i := 12) (v := undef) rfl (by kernel_rfl) (by kernel_rfl) (by kernel_rfl) (fun _ _ _ h => h) (Or.inr ⟨by kernel_rfl, rfl⟩) (by assumption) ?_
                    try simp only [Act.put, List.getElem_toArray, List.getElem_cons_succ, List.getElem_cons_zero, List.setIfInBounds_toArray, List.set_cons_zero, List.set_cons_succ]
                    refine wpAnyH_take (i := 13) (v := undef) rfl (by kernel_rfl) (by kernel_rfl) (by kernel_rfl) (fun _ _ _ h => h) (Or.inr ⟨by kernel_rfl, rfl⟩) (by assumption) ?_
                    try simp only [Act.put, List.getElem_toArray, List.getElem_cons_succ, List.getElem_cons_zero, List.setIfInBounds_toArray, List.set_cons_zero, List.set_cons_succ]
                    refine wpAnyH_take (i := 14) (v := undef) rfl (by kernel_rfl) (by kernel_rfl) (by kernel_rfl) (fun _ _ _ h => h) (Or.inr ⟨by kernel_rfl, rfl⟩) (by assumption) ?_
                    try simp only [Act.put, List.getElem_toArray, List.getElem_cons_succ, List.getElem_cons_zero, List.setIfInBounds_toArray, List.set_cons_zero, List.set_cons_succ]
                    refine wpAnyH_take (i := 15) (v := undef) rfl (by kernel_rfl) (by kernel_rfl) (by kernel_rfl) (fun _ _ _ h => h) (Or.inr ⟨by kernel_rfl, rfl⟩) (by assumption) ?_
                    try simp only [Act.put, List.getElem_toArray, List.getElem_cons_succ, List.getElem_cons_zero, List.setIfInBounds_toArray, List.set_cons_zero, List.set_cons_succ]
                    refine wpAnyH_take (i := 16) (v := undef) rfl (by kernel_rfl) (by kernel_rfl) (by kernel_rfl) (fun _ _ _ h => h) (Or.inr ⟨by kernel_rfl, rfl⟩) (by assumption) ?_
                    try simp only [Act.put, List.getElem_toArray, List.getElem_cons_succ, List.getElem_cons_zero, List.setIfInBounds_toArray, List.set_cons_zero, List.set_cons_succ]
                    refine wpAnyH_take (i := 17) (v := ?_) rfl (by kernel_rfl) (by kernel_rfl) (by kernel_rfl) (fun _ _ _ h => h) (Or.inl ⟨by kernel_rfl, ?_⟩) (by assumption) ?_
                    rotate_left
                    · (intro w hSw; (try dsimp only at hSw); go_simp; try with_reducible rfl)
                    try simp only [Act.put, List.getElem_toArray, List.getElem_cons_succ, List.getElem_cons_zero, List.setIfInBounds_toArray, List.set_cons_zero, List.set_cons_succ]
                    refine wpAnyH_take (i := 18) (v := ?_) rfl (by kernel_rfl) (by kernel_rfl) (by kernel_rfl) (fun _ _ _ h => h) (Or.inl ⟨by kernel_rfl, ?_⟩) (by assumption) ?_
                    rotate_left
                    · (intro w hSw; (try dsimp only at hSw); go_simp; try with_reducible rfl)
                    try simp only [Act.put, List.getElem_toArray, List.getElem_cons_succ, List.getElem_cons_zero, List.setIfInBounds_toArray, List.set_cons_zero, List.set_cons_succ]
                    refine wpAnyH_take (i := 19) (v := ?_) rfl (by kernel_rfl) (by kernel_rfl) (by kernel_rfl) (fun _ _ _ h => h) (Or.inl ⟨by kernel_rfl, ?_⟩) (by assumption) ?_
                    rotate_left
                    · (intro w hSw; (try dsimp only at hSw); go_simp; try with_reducible rfl)
                    try simp only [Act.put, List.getElem_toArray, List.getElem_cons_succ, List.getElem_cons_zero, List.setIfInBounds_toArray, List.set_cons_zero, List.set_cons_succ]
                    refine wpAnyH_take (i := 20) (v := ?_) rfl (by kernel_rfl) (by kernel_rfl) (by kernel_rfl) (fun _ _ _ h => h) (Or.inl ⟨by kernel_rfl, ?_⟩) (by assumption) ?_
                    rotate_left
                    · (intro w hSw; (try dsimp only at hSw); go_simp; try with_reducible rfl)
                    try simp only [Act.put, List.getElem_toArray, List.getElem_cons_succ, List.getElem_cons_zero, List.setIfInBounds_toArray, List.set_cons_zero, List.set_cons_succ]
                    refine wpAnyH_ready (rs := [21]) (by kernel_rfl) (by simp) ?_
                    refine AllReadyH.cons rfl (fun K hK => ?_) AllReadyH.nil
                    go_simp
                    go_at_call 13
                    refine (HA4.out _ (by exact hbd)).mono ?_
                    rintro e u ⟨rfl, hu⟩
                    have hb10 : Below w9.heap.size w9 u := bel_on (W := w9) hbd hu
                    go_wp2_with fail
                    refine hK.out _ _ (by exact MK.out _ hb10) (fun hHeld => ?_)
                    clear hK K
                    try simp only [Act.put, List.getElem_toArray, List.getElem_cons_succ, List.getElem_cons_zero, List.setIfInBounds_toArray, List.set_cons_zero, List.set_cons_succ]
                    refine wpAnyH_take (i := 22) (v := ?_) rfl (by kernel_rfl) (by kernel_rfl) (by kernel_rfl) (fun _ _ _ h => h) (Or.inl ⟨by kernel_rfl, ?_⟩) (by assumption) ?_
                    rotate_left
                    · (intro w hSw; (try dsimp only at hSw); go_simp; try with_reducible rfl)
                    try simp only [Act.put, List.getElem_toArray, List.getElem_cons_succ, List.getElem_cons_zero, List.setIfInBounds_toArray, List.set_cons_zero, List.set_cons_succ]
                    refine wpAnyH_take (i := 23) (v := ?_) rfl (by kernel_rfl) (by kernel_rfl) (by kernel_rfl) (fun _ _ _ h => h) (Or.inl ⟨by kernel_rfl, ?_⟩) (by assumption) ?_
                    rotate_left
                    · (intro w hSw; (try dsimp only at hSw); go_simp; try with_reducible rfl)
                    try simp only [Act.put, List.getElem_toArray, List.getElem_cons_succ, List.getElem_cons_zero, List.setIfInBounds_toArray, List.set_cons_zero, List.set_cons_succ]
                    refine wpAnyH_take (i := 24) (v := ?_) rfl (by kernel_rfl) (by kernel_rfl) (by kernel_rfl) (fun _ _ _ h => h) (Or.inl ⟨by kernel_rfl, ?_⟩) (by assumption) ?_
                    rotate_left
                    · (intro w hSw; (try dsimp only at hSw); go_simp; try with_reducible rfl)
                    try simp only [Act.put, List.getElem_toArray, List.getElem_cons_succ, List.getElem_cons_zero, List.setIfInBounds_toArray, List.set_cons_zero, List.set_cons_succ]
                    refine wpAnyH_done (by kernel_rfl) ?_ _
                    go_wp2_with fail
                    go_meet
                    exact ⟨rfl, Lib.hid hb10⟩
                  · have hbd2 : (sb != tb) = true := by simpa using hbe
                    cases eqb with
                    | true =>
                      have HA4 := Lib.hid (HA3.out (.inr (of_decide_eq_true heqb)))
                      clear HA3 heqb
                      go_region_held3 (fun V => Below w9.heap.size w9 V ∧ V.cell? ⟨x6, 4, none⟩ = some (.int .i64 sb) ∧ V.cell? ⟨x7, 4, none⟩ = some (.int .i64 tb) ∧ V.cell? ⟨gb, off + ia * 5, none⟩ = some (.int .i64 xc) ∧ V.cell? ⟨gb, off + ia * 5 + 1, none⟩ = some (.bool xf) ∧ V.cell? ⟨gb, off + ia * 5 + 2, none⟩ = some (.bool xi) ∧ V.cell? ⟨gb, off + ib * 5, none⟩ = some (.int .i64 yc) ∧ V.cell? ⟨gb, off + ib * 5 + 1, none⟩ = some (.bool yf) ∧ V.cell? ⟨gb, off + ib * 5 + 2, none⟩ = some (.bool yi))
                        (first | exact MK.out _ (by first | assumption | exact hbd | exact hb10))
                        (first
                          | (go_at_call 13; refine (HA4.out _ (And.left (by assumption))).mono ?_; rintro e u ⟨rfl, hu⟩; have hb10 := bel_on (W := w9) (And.left (by assumption)) hu)
                          | fail)
                      all_goals (go_wp2_with fail; go_meet; exact ⟨rfl, Lib.hid (And.left (by assumption))⟩)
                    | false =>
                      clear HA3 heqb
                      go_quiet (fail)
                      have hBq : Hid (∀ nq, Below w9.heap.size w9 (w9.drewN nq)) := Lib.hid (fun nq => bel_drewN (Lib.hid (Below.refl w9.heap.size w9)).out nq)
                      go_wp2_with fail
                      go_meet
                      exact ⟨rfl, Lib.hid (hBq.out _)⟩
                case rest =>
                  obtain ⟨rfl, hBz⟩ := hcut
                  have hbb := bel_on2 HBW.out (bel_on HBE.out hBz.out)
                  go_wp2
                  go_ret
                  exact ⟨rfl, hbb⟩
    · go_wp2
      go_ret
      exact ⟨ret_bool (by simp), bel_on2 HBW.out HB4.out⟩
end Go.Proofs.YtddiabpjmnmllaaDoor
