/- The law CabinLabels, walked. -/
import Derived.Test.YtddiabpjmnmllaaDoorJCbPrs
import Derived.Test.YtddiabpjmnmllaaDoorJCbLives
namespace Go.Proofs.YtddiabpjmnmllaaDoor
open Go.RowKit Go.Lib
theorem lab_cases (s : MSeat) : (labB s ≠ [45] ∧ prsB (labB s) = some s) ∨ (labB s = [45] ∧ prsB (labB s) = none) := by
  by_cases h : 1 ≤ s.num ∧ s.num ≤ 99 ∧ 65 ≤ s.ltr.toNat ∧ s.ltr.toNat ≤ 90
  · refine .inl ⟨?_, prs_lab s h⟩
    have hl : labB s = Lib.decDigits s.num.toNat ++ [s.ltr] := by unfold labB; rw [if_pos h]
    intro e
    rw [hl] at e
    have := congrArg List.getLast? e
    simp at this
    rw [this] at h
    simp at h
  · have hl : labB s = [45] := by unfold labB; rw [if_neg h]
    refine .inr ⟨hl, ?_⟩
    rw [hl]
    exact prs_no (D := []) (fun u hu => by simp [Lib.atoiAll] at hu)
theorem lab_len (s : MSeat) : (labB s).length ≤ 3 := by
  by_cases h : 1 ≤ s.num ∧ s.num ≤ 99 ∧ 65 ≤ s.ltr.toNat ∧ s.ltr.toNat ≤ 90
  · have hl : labB s = Lib.decDigits s.num.toNat ++ [s.ltr] := by unfold labB; rw [if_pos h]
    have := dec_len s.num.toNat (by omega)
    rw [hl]; simp; omega
  · have hl : labB s = [45] := by unfold labB; rw [if_neg h]
    simp [hl]
theorem prs_back {l : List UInt8} {x : MSeat} (h : prsB l = some x) : labB x = l := by
  unfold prsB at h
  split at h
  · split at h
    · rename_i h1
      injection h with h
      subst h
      exact h1.2
    · cases h
  · cases h
theorem seat_box (w V : World) (g : Nat) (sn : Int) (sl : UInt8) (hb : w.heap[g]? = some (.cells #[.int .i64 sn, .int .u8 (sl.toNat : Int)] 32 (0, 0))) (hV : Below w.heap.size w V) : V.cell? ⟨g, 0, none⟩ = some (.int .i64 sn) ∧ V.cell? ⟨g, 1, none⟩ = some (.int .u8 (sl.toNat : Int)) := by
  have x1 := box_keep hb (Upd.of_below (S := fun _ => False) hV) id
  constructor
  · rw [cell_of_row _ _ 0 _ _ _ x1]; rfl
  · rw [cell_of_row _ _ 1 _ _ _ x1]; rfl
set_option maxHeartbeats 16000000 in
set_option maxRecDepth 20000 in
theorem labels_any (w : World) (m : Int) (s : MSeat) (t : ByteArray) (ht : t.size ≤ 281474976710656) (hLib : LibAt w m) (hE : ErrAt w) :
    Calls Tryd.prog 11 #[.agg #[.int .i64 s.num, .int .u8 (s.ltr.toNat : Int)], .string t] w fun e w' => e = .returned (.bool true) ∧ Below w.heap.size w w' := by
  have hsc := lab_cases s
  have hsl := lab_len s
  obtain ⟨E, hEE⟩ : ∃ E, labB s = E := ⟨_, rfl⟩
  have HL1 : Hid (∀ V : World, Calls Tryd.prog 35 #[.agg #[.int .i64 s.num, .int .u8 (s.ltr.toNat : Int)]] V fun e V' => e = .returned (.string ⟨E.toArray⟩) ∧ Below V.heap.size V V') := Lib.hid (fun V => by rw [← hEE]; exact label_any V s)
  have HL2 : Hid (∀ V : World, Calls Tryd.prog 36 #[.agg #[.int .i64 s.num, .int .u8 (s.ltr.toNat : Int)]] V fun e V' => e = .returned (.string ⟨E.toArray⟩) ∧ Below V.heap.size V V') := Lib.hid (fun V => by rw [← hEE]; exact rlabel_any V s)
  rw [hEE] at hsc hsl
  have HPE : Hid (∀ V : World, Below w.heap.size w V → Calls Tryd.prog 37 #[.string ⟨E.toArray⟩] V fun e V' => e = .returned (.tuple #[seatV ((prsB E).getD ⟨0, 0⟩), .bool (prsB E).isSome]) ∧ Below V.heap.size V V') := Lib.hid (fun V hV => by
    have := parse_any V (hE.below hV) ⟨E.toArray⟩ (by show E.toArray.size ≤ _; simp; omega)
    simpa using this)
  obtain ⟨R, hR⟩ : ∃ R, prsB t.data.toList = R := ⟨_, rfl⟩
  have HP1 : Hid (∀ V : World, Below w.heap.size w V → Calls Tryd.prog 37 #[.string t] V fun e V' => e = .returned (.tuple #[seatV (R.getD ⟨0, 0⟩), .bool R.isSome]) ∧ Below V.heap.size V V') := Lib.hid (fun V hV => by
    rw [← hR]; exact parse_any V (hE.below hV) t ht)
  have HP2 : Hid (∀ V : World, Below w.heap.size w V → Calls Tryd.prog 38 #[.string t] V fun e V' => e = .returned (.tuple #[seatV (R.getD ⟨0, 0⟩), .bool R.isSome]) ∧ Below V.heap.size V V') := Lib.hid (fun V hV => by
    rw [← hR]; exact rparse_any V (hE.below hV) t ht)
  obtain ⟨⟨xn, xl⟩, hx⟩ : ∃ x, R.getD ⟨0, 0⟩ = x := ⟨_, rfl⟩
  obtain ⟨K, hK⟩ : ∃ K, R.isSome = K := ⟨_, rfl⟩
  have HXL : Hid (K = true → ∀ V : World, Calls Tryd.prog 35 #[.agg #[.int .i64 xn, .int .u8 (xl.toNat : Int)]] V fun e V' => e = .returned (.string t) ∧ Below V.heap.size V V') := Lib.hid (fun hk V => by
    cases R with
    | none => rw [← hK] at hk; cases hk
    | some x =>
      obtain rfl : x = ⟨xn, xl⟩ := hx
      have h1 := label_any V ⟨xn, xl⟩
      rw [prs_back hR] at h1
      exact h1)
  rw [hx, hK] at HP1 HP2
  obtain ⟨sn, sl⟩ := s
  simp only at HL1 HL2 ⊢
  obtain ⟨W, hW⟩ : ∃ W, W = w.alloc (.cells #[.int .i64 sn, .int .u8 (sl.toNat : Int)] 32) := ⟨_, rfl⟩
  have hbW : Below w.heap.size w W := by rw [hW]; exact (Below.refl _ w).alloc (Nat.le_refl _) _
  have b1 : W.heap[w.heap.size]? = some (.cells #[.int .i64 sn, .int .u8 (sl.toNat : Int)] 32 (0, 0)) := by rw [hW]; exact heap_alloc_new w _
  have HB0 := Lib.hid hbW
  have HX : Hid (∀ V : World, Below W.heap.size W V → V.cell? ⟨w.heap.size, 0, none⟩ = some (.int .i64 sn) ∧ V.cell? ⟨w.heap.size, 1, none⟩ = some (.int .u8 (sl.toNat : Int))) := Lib.hid (fun V hV => seat_box W V w.heap.size sn sl b1 hV)
  have HLV : Hid (Calls Tryd.prog 24 #[] W fun e V' => e = .returned (.bool true) ∧ Below W.heap.size W V') := Lib.hid (clives_any W m (hLib.below hbW))
  have HSC := Lib.hid hsc
  have HRR := Lib.hid hR
  have hbd : Below W.heap.size W W.drew := (Below.refl _ _).drew
  have HLD : Hid (Calls Tryd.prog 24 #[] W.drew fun e V' => e = .returned (.bool true) ∧ Below W.heap.size W V') := Lib.hid ((clives_any W.drew m (hLib.below (bel_on2 hbW hbd))).mono fun _ _ h => ⟨h.1, bel_on hbd h.2⟩)
  have hwl : w.heap.size < W.heap.size := (Array.getElem?_eq_some_iff.1 b1).1
  clear hsc hsl hEE hR hx hK hE hLib hbW b1 ht
  go_enter Tryd.func11, Tryd.ntmps11
  go_upto_region 1 with (fail)
  rw [← hW]
  clear hW
  have MK : Hid (∀ V : World, Below W.heap.size W V → Below W.heap.size W V ∧ V.cell? ⟨w.heap.size, 0, none⟩ = some (.int .i64 sn) ∧ V.cell? ⟨w.heap.size, 1, none⟩ = some (.int .u8 (sl.toNat : Int))) := Lib.hid (fun V hV => ⟨hV, HX.out V hV⟩)
  go_cut [18] (fun v wc => v = .bool false ∧ Hid (Below W.heap.size W wc))
  case first =>
    go_region_held3 (fun V => Below W.heap.size W V ∧ V.cell? ⟨w.heap.size, 0, none⟩ = some (.int .i64 sn) ∧ V.cell? ⟨w.heap.size, 1, none⟩ = some (.int .u8 (sl.toNat : Int)))
      (first | assumption | exact MK.out _ (by first | exact hc0 | exact hc1 | exact hc2 | exact hbd))
      (first
        | (go_at_call 24; refine HLD.out.mono ?_; rintro e u0 ⟨rfl, hu0⟩; have hc0 : Below W.heap.size W u0 := hu0)
        | (go_at_call 35; refine (HL1.out _).mono ?_; rintro e u1 ⟨rfl, hu1⟩; have hc1 := bel_on (W := W) (And.left (by assumption)) hu1)
        | (go_at_call 36; refine (HL2.out _).mono ?_; rintro e u2 ⟨rfl, hu2⟩; have hc2 := bel_on (W := W) (And.left (by assumption)) hu2)
        | fail)
    all_goals (go_wp2_with fail; go_meet; exact ⟨rfl, Lib.hid (by assumption)⟩)
  case rest =>
    obtain ⟨rfl, hB1⟩ := hcut
    have h3 := Lib.hid (HP1.out wc (bel_on2 HB0.out hB1.out))
    clear MK hbd HLD HLV HL2 HP1
    go_wp2_with fail
    refine h3.out.mono ?_
    rintro e w3 ⟨rfl, hb3⟩
    obtain ⟨V3, hV3⟩ : ∃ V, V = w3.alloc (.cells #[.int .i64 xn, .int .u8 (xl.toNat : Int)] 32) := ⟨_, rfl⟩
    obtain ⟨X3, hX3⟩ : ∃ X, w3.heap.size = X := ⟨_, rfl⟩
    have vV3 : Below w3.heap.size w3 V3 := by rw [hV3]; exact (Below.refl _ _).alloc (Nat.le_refl _) _
    have bX3 : V3.heap[X3]? = some (.cells #[.int .i64 xn, .int .u8 (xl.toNat : Int)] 32 (0, 0)) := by rw [hV3, ← hX3]; exact heap_alloc_new w3 _
    have HB3 := Lib.hid (bel_on hB1.out (bel_on hb3 vV3))
    have h4 := Lib.hid (HP2.out V3 (bel_on2 HB0.out HB3.out))
    have HX3 := Lib.hid bX3
    have hz0 : w.heap.size ≠ X3 := by have := hB1.out.size; have := hb3.size; omega
    clear hb3 vV3 bX3 h3 HP2
    unfold seatV
    simp only
    go_wp2_with fail
    rw [← hV3]
    clear hV3
    refine h4.out.mono ?_
    rintro e w4 ⟨rfl, hb4⟩
    unfold seatV
    simp only
    obtain ⟨V4, hV4⟩ : ∃ V, V = w4.alloc (.cells #[.int .i64 xn, .int .u8 (xl.toNat : Int)] 32) := ⟨_, rfl⟩
    obtain ⟨X4, hX4⟩ : ∃ X, w4.heap.size = X := ⟨_, rfl⟩
    have vV4 : Below w4.heap.size w4 V4 := by rw [hV4]; exact (Below.refl _ _).alloc (Nat.le_refl _) _
    have bX4 : V4.heap[X4]? = some (.cells #[.int .i64 xn, .int .u8 (xl.toNat : Int)] 32 (0, 0)) := by rw [hV4, ← hX4]; exact heap_alloc_new w4 _
    have hb34 := bel_on hb4 vV4
    have HB4 := Lib.hid (bel_on HB3.out hb34)
    obtain ⟨a0, a1⟩ := seat_box V3 V4 X3 xn xl HX3.out hb34
    obtain ⟨d0, d1⟩ := seat_box V4 V4 X4 xn xl bX4 (Below.refl _ _)
    clear hb4 vV4 hb34 bX4 h4 HX3
    have HREST : Hid (∀ V : World, Calls Tryd.prog 35 #[.agg #[.int .i64 sn, .int .u8 (sl.toNat : Int)]] V fun e V' => e = .returned (.string ⟨E.toArray⟩) ∧ Below V.heap.size V V') := HL1
    obtain ⟨Z, hZ⟩ : ∃ Z, (⟨E.toArray⟩ : ByteArray) = Z := ⟨_, rfl⟩
    have HZ : Hid (Z.data.toList = E) := Lib.hid (by rw [← hZ])
    rw [hZ] at HREST HPE
    clear HL1 hZ
    go_upto_region 5 with (fail)
    rw [← hV4]
    clear hV4
    go_cut [45] (fun v wc => v = .bool false ∧ Hid (Below W.heap.size W wc))
    case first =>
      cases K with
      | false =>
        go_wp2
        go_meet
        exact ⟨rfl, HB4⟩
      | true =>
        have h5 := Lib.hid (HXL.out rfl V4)
        go_wp2_with fail
        refine h5.out.mono ?_
        rintro e w5 ⟨rfl, hb5⟩
        have HB5 := Lib.hid (bel_on HB4.out hb5)
        clear hb5 h5
        go_wp2
        go_meet
        exact ⟨rfl, HB5⟩
    case rest =>
      obtain ⟨rfl, hB5⟩ := hcut
      obtain ⟨x0, x1⟩ := HX.out wc hB5.out
      have h6 := Lib.hid (HREST.out wc)
      clear a0 a1 d0 d1 HB3 HB4 HXL
      go_wp2_with fail
      refine h6.out.mono ?_
      rintro e w6 ⟨rfl, hb6⟩
      have HB6 := Lib.hid (bel_on hB5.out hb6)
      have h7 := Lib.hid (HPE.out w6 (bel_on2 HB0.out HB6.out))
      clear hb6 h6 HPE x0 x1
      go_wp2_with fail
      refine h7.out.mono ?_
      rintro e w7 ⟨rfl, hb7⟩
      have HB7 := Lib.hid (bel_on HB6.out hb7)
      clear hb7 h7
      unfold seatV
      simp only
      rcases HSC.out with ⟨hne, hp⟩ | ⟨hne, hp⟩
      · rw [hp]
        simp only [Option.getD_some, Option.isSome_some]
        have hzz : (Z.toList == (⟨#[45]⟩ : ByteArray).toList) = false := beq_no (fun e => hne (by rw [← HZ.out, e]))
        have hzz2 : (Z.toList == [45]) = false := by rw [show ([45] : List UInt8) = (⟨#[45]⟩ : ByteArray).toList by rw [ByteArray.toList_eq]]; exact hzz
        obtain ⟨V7, hV7⟩ : ∃ V, V = w7.alloc (.cells #[.int .i64 sn, .int .u8 (sl.toNat : Int)] 32) := ⟨_, rfl⟩
        obtain ⟨X7, hX7⟩ : ∃ X, w7.heap.size = X := ⟨_, rfl⟩
        have vV7 : Below w7.heap.size w7 V7 := by rw [hV7]; exact (Below.refl _ _).alloc (Nat.le_refl _) _
        have bX7 : V7.heap[X7]? = some (.cells #[.int .i64 sn, .int .u8 (sl.toNat : Int)] 32 (0, 0)) := by rw [hV7, ← hX7]; exact heap_alloc_new w7 _
        have hb8 := bel_on HB7.out vV7
        have HB8 := Lib.hid hb8
        have h8 := Lib.hid (HREST.out V7)
        have HX7 := Lib.hid bX7
        obtain ⟨x0, x1⟩ := HX.out V7 hb8
        clear hne hp vV7 bX7 hb8
        go_upto_region 8 with (fail)
        rw [← hV7]
        clear hV7
        go_wp2_with fail
        refine h8.out.mono ?_
        rintro e w8 ⟨rfl, hb9⟩
        obtain ⟨a0, a1⟩ := HX.out w8 (bel_on HB8.out hb9)
        obtain ⟨d0, d1⟩ := seat_box V7 w8 X7 sn sl HX7.out hb9
        have HB9 := Lib.hid (bel_on2 HB0.out (bel_on HB8.out hb9))
        clear hb9 h8 x0 x1
        go_wp2
        go_ret
        exact ⟨rfl, HB9.out⟩
      · rw [hp]
        simp only [Option.getD_none, Option.isSome_none]
        have hzz : (Z.toList == (⟨#[45]⟩ : ByteArray).toList) = true := beq_yes (by apply ByteArray.ext; apply Array.toList_inj.1; rw [HZ.out, hne])
        have hzz2 : (Z.toList == [45]) = true := by rw [show ([45] : List UInt8) = (⟨#[45]⟩ : ByteArray).toList by rw [ByteArray.toList_eq]]; exact hzz
        obtain ⟨V7, hV7⟩ : ∃ V, V = w7.alloc (.cells #[.int .i64 0, .int .u8 0] 32) := ⟨_, rfl⟩
        obtain ⟨X7, hX7⟩ : ∃ X, w7.heap.size = X := ⟨_, rfl⟩
        have vV7 : Below w7.heap.size w7 V7 := by rw [hV7]; exact (Below.refl _ _).alloc (Nat.le_refl _) _
        have hb8 := bel_on HB7.out vV7
        have h8 := Lib.hid (HREST.out V7)
        have HB8 := Lib.hid hb8
        obtain ⟨x0, x1⟩ := HX.out V7 hb8
        clear hne hp vV7 hb8
        have z0 : ((0 : UInt8).toNat : Int) = 0 := rfl
        rw [z0]
        go_upto_region 8 with (fail)
        rw [← hV7]
        clear hV7
        go_wp2_with fail
        refine h8.out.mono ?_
        rintro e w8 ⟨rfl, hb9⟩
        have HB9 := Lib.hid (bel_on2 HB0.out (bel_on HB8.out hb9))
        clear hb9 h8 x0 x1
        go_wp2
        go_ret
        exact ⟨rfl, HB9.out⟩
end Go.Proofs.YtddiabpjmnmllaaDoor
