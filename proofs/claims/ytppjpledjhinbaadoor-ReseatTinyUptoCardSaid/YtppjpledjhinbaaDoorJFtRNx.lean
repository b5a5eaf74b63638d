/- Seating: the reference's next, walked. -/
import Derived.Test.YtppjpledjhinbaaDoorJRbRF
import Derived.Test.YtppjpledjhinbaaDoorJCbRSp
import Derived.Test.YtppjpledjhinbaaDoorJFtSame
import Derived.BigQuiet
namespace Go.Proofs.YtppjpledjhinbaaDoor
open Go.RowKit Go.Lib
theorem bel_on {W V u : World} (h : Below W.heap.size W V) (h2 : Below V.heap.size V u) : Below W.heap.size W u := h.trans (h2.mono h.size)
theorem infN_take (L : List MSpot) (q : List MSit) (j : Nat) (hj : j < q.length) (b : Int) : infN L (q.take (j + 1)) b = if q[j].who.inf = true ∧ b = blkOf L q[j].seat then infN L (q.take j) b + 1 else infN L (q.take j) b := by
  rw [List.take_succ_eq_append_getElem hj, infN_snoc]
theorem takenN_take (q : List MSit) (j : Nat) (hj : j < q.length) (s : MSeat) : takenN (q.take (j + 1)) s = if s = q[j].seat then takenN (q.take j) s + 1 else takenN (q.take j) s := by
  rw [List.take_succ_eq_append_getElem hj, takenN_snoc]
theorem takenN_mono (q : List MSit) (i j : Nat) (h : i ≤ j) (s : MSeat) : takenN (q.take i) s ≤ takenN (q.take j) s := by
  unfold takenN
  have : (q.take i).Sublist (q.take j) := by
    have := List.take_sublist i (q.take j)
    rwa [List.take_take, Nat.min_eq_left h] at this
  exact this.countP_le
set_option maxHeartbeats 8000000 in
set_option maxRecDepth 20000 in
theorem rnext_any (w : World) (A : Option Addr) (n c : Nat) (l : List MRow) (S : Option Addr) (k d : Nat) (q : List MSit) (i : Nat) (hi : i < k) (hiq : i < q.length) (hr : Rd w w.heap.size 5 A n (catv rowC l)) (hf : ∀ r ∈ l, r.fits) (hs : Rd w w.heap.size 5 S k (catv sitC q)) (h40 : q.length ≤ 1099511627776) :
    Calls Tryd.prog 43 #[.slice A n c, .slice S k d, .int .i64 (i : Int)] w fun e w' => e = .returned (.int .i64 (mayE (spotsL l) (q.take i) q[i])) ∧ Below w.heap.size w w' := by
  obtain ⟨L, hL⟩ : ∃ L, spotsL l = L := ⟨_, rfl⟩
  obtain ⟨x, hx⟩ : ∃ x, q[i] = x := ⟨_, rfl⟩
  obtain ⟨E, hE⟩ : ∃ E, mayE L (q.take i) x = E := ⟨_, rfl⟩
  rw [hL, hx, hE]
  have HE := Lib.hid hE
  have HFD := Lib.hid (fun (V : World) (s : MSeat) (hV : Below w.heap.size w V) => by
    have := rfind_any V A n c l s ((hr.below hV).mono hV.size) hf
    rw [hL] at this
    exact this)
  have HS := Lib.hid hs
  obtain rfl := rd_catlen sitC_len (by decide) hs
  obtain ⟨gb, off, rfl, hgb, hs', hcc⟩ := hs.elem sitC_len (by decide) hi
  rw [hx] at hcc
  have HCC : Hid (∀ V : World, Below w.heap.size w V → V.cell? ⟨gb, off + i * 5, none⟩ = some (.int .i64 x.who.cab) ∧ V.cell? ⟨gb, off + i * 5 + 1, none⟩ = some (.bool x.who.fit) ∧ V.cell? ⟨gb, off + i * 5 + 2, none⟩ = some (.bool x.who.inf) ∧ V.cell? ⟨gb, off + i * 5 + 3, none⟩ = some (.int .i64 x.seat.num) ∧ V.cell? ⟨gb, off + i * 5 + 4, none⟩ = some (.int .u8 (x.seat.ltr.toNat : Int))) := Lib.hid (fun V hV =>
    ⟨(hV.cell (p := ⟨gb, off + i * 5, none⟩) hgb).trans (hcc 0 _ rfl), (hV.cell (p := ⟨gb, off + i * 5 + 1, none⟩) hgb).trans (hcc 1 _ rfl), (hV.cell (p := ⟨gb, off + i * 5 + 2, none⟩) hgb).trans (hcc 2 _ rfl), (hV.cell (p := ⟨gb, off + i * 5 + 3, none⟩) hgb).trans (hcc 3 _ rfl), (hV.cell (p := ⟨gb, off + i * 5 + 4, none⟩) hgb).trans (hcc 4 _ rfl)⟩)
  obtain ⟨⟨xc, xf, xi⟩, ⟨xn, xl⟩⟩ := x
  simp only at HCC
  obtain ⟨m0, m1, m2, m3, m4⟩ := HCC.out _ (Below.refl _ w)
  have H1 := Lib.hid (HFD.out w ⟨xn, xl⟩ (Below.refl _ _))
  clear hcc hx hE hs hr hf hL hs'
  have hiz : (i : Int) < (q.length : Int) := by omega
  go_enter Tryd.func43, Tryd.ntmps43
  go_wp2_with fail
  refine H1.out.mono ?_
  rintro e w1 ⟨rfl, hb1⟩
  have HB1 := Lib.hid hb1
  obtain ⟨⟨⟨sn, sl⟩, sc, sz, sb, se, sk⟩, hSp⟩ : ∃ Sp, spotAt L ⟨xn, xl⟩ = Sp := ⟨_, rfl⟩
  obtain ⟨ok, hok⟩ : ∃ ok, (findS L ⟨xn, xl⟩).isSome = ok := ⟨_, rfl⟩
  rw [hSp, hok]
  have HSp := Lib.hid hSp
  have HOK := Lib.hid hok
  clear m0 m1 m2 m3 m4 H1 hSp hok hb1
  unfold spotV
  simp only
  obtain ⟨W2, hW2⟩ : ∃ W2, W2 = w1.alloc (.cells #[.int .i64 sn, .int .u8 (sl.toNat : Int), .int .i64 sc, .int .i64 sz, .int .i64 sb, .bool se, .bool sk] 105) := ⟨_, rfl⟩
  have hbW2 : Below w.heap.size w W2 := by rw [hW2]; exact HB1.out.alloc HB1.out.size _
  have bx : W2.heap[w1.heap.size]? = some (.cells #[.int .i64 sn, .int .u8 (sl.toNat : Int), .int .i64 sc, .int .i64 sz, .int .i64 sb, .bool se, .bool sk] 105 (0, 0)) := by rw [hW2]; exact heap_alloc_new w1 _
  have HBW2 := Lib.hid hbW2
  have HBX := Lib.hid bx
  clear hbW2 bx
  cases ok with
  | false =>
    have HF : Hid (E = 14) := Lib.hid (by rw [← HE.out]; unfold mayE; rw [HOK.out]; rfl)
    go_wp2
    rw [← hW2]
    go_ret
    exact ⟨ret_int HF.out.symm, HBW2.out⟩
  | true =>
    have HM : Hid (∀ V : World, Below W2.heap.size W2 V → V.cell? ⟨gb, off + i * 5, none⟩ = some (.int .i64 xc) ∧ V.cell? ⟨gb, off + i * 5 + 1, none⟩ = some (.bool xf) ∧ V.cell? ⟨gb, off + i * 5 + 2, none⟩ = some (.bool xi) ∧ V.cell? ⟨w1.heap.size, 0, none⟩ = some (.int .i64 sn) ∧ V.cell? ⟨w1.heap.size, 1, none⟩ = some (.int .u8 (sl.toNat : Int)) ∧ V.cell? ⟨w1.heap.size, 2, none⟩ = some (.int .i64 sc) ∧ V.cell? ⟨w1.heap.size, 3, none⟩ = some (.int .i64 sz) ∧ V.cell? ⟨w1.heap.size, 4, none⟩ = some (.int .i64 sb) ∧ V.cell? ⟨w1.heap.size, 5, none⟩ = some (.bool se) ∧ V.cell? ⟨w1.heap.size, 6, none⟩ = some (.bool sk)) := Lib.hid (fun V hV => by
      obtain ⟨a0, a1, a2, -, -⟩ := HCC.out V (bel_on2 HBW2.out hV)
      have b := box_keep HBX.out (Upd.of_below (S := fun _ => False) hV) id
      refine ⟨a0, a1, a2, ?_, ?_, ?_, ?_, ?_, ?_, ?_⟩
      · rw [cell_of_row _ _ 0 _ _ _ b]; rfl
      · rw [cell_of_row _ _ 1 _ _ _ b]; rfl
      · rw [cell_of_row _ _ 2 _ _ _ b]; rfl
      · rw [cell_of_row _ _ 3 _ _ _ b]; rfl
      · rw [cell_of_row _ _ 4 _ _ _ b]; rfl
      · rw [cell_of_row _ _ 5 _ _ _ b]; rfl
      · rw [cell_of_row _ _ 6 _ _ _ b]; rfl)
    obtain ⟨O, hO⟩ : ∃ O, oneE ⟨xc, xf, xi⟩ ⟨⟨sn, sl⟩, sc, sz, sb, se, sk⟩ = O := ⟨_, rfl⟩
    have H2 : Hid (∀ V : World, Calls Tryd.prog 57 #[.agg #[.int .i64 xc, .bool xf, .bool xi], .agg #[.int .i64 sn, .int .u8 (sl.toNat : Int), .int .i64 sc, .int .i64 sz, .int .i64 sb, .bool se, .bool sk]] V fun e V' => e = .returned (.int .i64 O) ∧ Below V.heap.size V V') := Lib.hid (fun V => by
      have := rone_any V ⟨xc, xf, xi⟩ ⟨⟨sn, sl⟩, sc, sz, sb, se, sk⟩
      rw [hO] at this
      exact this)
    have HE2 : Hid (E = if O ≠ 0 then O else if 0 < takenN (q.take i) ⟨xn, xl⟩ then 17 else if xi = true ∧ 1 ≤ infN L (q.take i) sb then 18 else 0) := Lib.hid (by
      rw [← HE.out, ← hO]; unfold mayE blkOf; simp only [HOK.out, HSp.out]; rfl)
    have hbd : Below W2.heap.size W2 W2.drew := (Below.refl _ _).drew
    clear hO
    go_wp2_with fail
    rw [← hW2]
    clear hW2
    go_cut [9] (fun v wc => v = .int .i64 O ∧ Hid (Below W2.heap.size W2 wc))
    case first =>
      go_region_held3 (fun V => Below W2.heap.size W2 V ∧ V.cell? ⟨gb, off + i * 5, none⟩ = some (.int .i64 xc) ∧ V.cell? ⟨gb, off + i * 5 + 1, none⟩ = some (.bool xf) ∧ V.cell? ⟨gb, off + i * 5 + 2, none⟩ = some (.bool xi) ∧ V.cell? ⟨w1.heap.size, 0, none⟩ = some (.int .i64 sn) ∧ V.cell? ⟨w1.heap.size, 1, none⟩ = some (.int .u8 (sl.toNat : Int)) ∧ V.cell? ⟨w1.heap.size, 2, none⟩ = some (.int .i64 sc) ∧ V.cell? ⟨w1.heap.size, 3, none⟩ = some (.int .i64 sz) ∧ V.cell? ⟨w1.heap.size, 4, none⟩ = some (.int .i64 sb) ∧ V.cell? ⟨w1.heap.size, 5, none⟩ = some (.bool se) ∧ V.cell? ⟨w1.heap.size, 6, none⟩ = some (.bool sk))
        (first | assumption | exact ⟨hb, HM.out _ hb⟩ | exact ⟨hbd, HM.out _ hbd⟩)
        (first
          | (go_at_call 57; refine (H2.out _).mono ?_; rintro e u ⟨rfl, hu⟩; have hb := bel_on (W := W2) (And.left (by assumption)) hu)
          | fail)
      all_goals (go_wp2_with fail; go_meet; exact ⟨rfl, Lib.hid (And.left (by assumption))⟩)
    case rest =>
      obtain ⟨rfl, hB3⟩ := hcut
      clear H2 hbd
      have hb3 := hB3.out
      by_cases hO : O = 0
      · subst hO
        have HE3 : Hid (E = if 0 < takenN (q.take i) ⟨xn, xl⟩ then 17 else if xi = true ∧ 1 ≤ infN L (q.take i) sb then 18 else 0) := Lib.hid (by rw [HE2.out]; simp)
        clear HE2 hb3
        go_wp2
        go_loopw [10, 11] (fun nv kv wx => ∃ j : Nat, j ≤ i ∧ kv = .int .i64 (j : Int) ∧ nv = .int .i64 (infN L (q.take j) sb : Nat) ∧ Hid (takenN (q.take j) ⟨xn, xl⟩ = 0) ∧ Hid (Below W2.heap.size W2 wx)) (fun _ kv _ => i - (intOf kv).toNat)
        case atStart => exact ⟨0, Nat.zero_le _, rfl, rfl, Lib.hid rfl, hB3⟩
        case round =>
          obtain ⟨j, hj, rfl, rfl, hT, hB⟩ := hrel
          have hin := infN_le L (q.take j) sb
          have hinl : (q.take j).length ≤ q.length := by simp; omega
          by_cases hlt : j < i
          · have hjl : j < q.length := by omega
            obtain ⟨gb', off', hge, _, hs', hcj⟩ := (HS.out.below (bel_on2 HBW2.out hB.out)).elem sitC_len (by decide) hjl
            simp only [Option.some.injEq, Addr.mk.injEq, and_true] at hge
            obtain ⟨rfl, rfl⟩ := hge
            have hIN := infN_take L q j hjl sb
            have hTK := takenN_take q j hjl ⟨xn, xl⟩
            obtain ⟨y, hy⟩ : ∃ y, q[j] = y := ⟨_, rfl⟩
            rw [hy] at hcj hIN hTK
            have HYJ : Hid (q[j]'hjl = y) := Lib.hid hy
            obtain ⟨⟨yc, yf, yi⟩, ⟨yn, yl⟩⟩ := y
            have c2 := hcj 2 _ rfl
            have c3 := hcj 3 _ rfl
            have c4 := hcj 4 _ rfl
            obtain ⟨-, -, -, m3, m4⟩ := HCC.out _ (bel_on2 HBW2.out hB.out)
            obtain ⟨-, -, -, -, -, -, -, z4, -, -⟩ := HM.out _ hB.out
            have hjz : (j : Int) < (q.length : Int) := by omega
            have hjz0 : (0 : Int) ≤ (j : Int) := by omega
            have hjz2 : (j : Int) < (i : Int) := by omega
            have HIN := Lib.hid hIN
            have HTK := Lib.hid hTK
            obtain ⟨eqb, heqb⟩ : ∃ eqb, decide ((⟨yn, yl⟩ : MSeat) = ⟨xn, xl⟩) = eqb := ⟨_, rfl⟩
            have hse : ∀ V : World, (Op.equalIn 10000 26 (.agg #[.int .i64 yn, .int .u8 (yl.toNat : Int)]) (.agg #[.int .i64 xn, .int .u8 (xl.toNat : Int)])).run Tryd.prog V = .ok eqb V := fun V => by rw [← heqb]; exact seat_eqIn V ⟨yn, yl⟩ ⟨xn, xl⟩
            have HEQ := Lib.hid heqb
            clear hcj hIN hTK hy heqb hs'
            go_upto_region 11 with (fail)
            go_cut [51] (fun v we => v = .bool eqb ∧ Hid (Below W2.heap.size W2 we))
            case first =>
              go_quiet (fail)
              have hB5 : Hid (∀ nq, Below W2.heap.size W2 (wr.drewN nq)) := Lib.hid (fun nq => bel_drewN hB.out nq)
              go_wp2_with fail
              go_meet
              exact ⟨rfl, Lib.hid (hB5.out _)⟩
            case rest =>
              obtain ⟨rfl, hB6⟩ := hcut
              have hB := hB6
              obtain ⟨gb', off', hge, _, hs', hcj⟩ := (HS.out.below (bel_on2 HBW2.out hB6.out)).elem sitC_len (by decide) hjl
              simp only [Option.some.injEq, Addr.mk.injEq, and_true] at hge
              obtain ⟨rfl, rfl⟩ := hge
              rw [HYJ.out] at hcj
              have c2 := hcj 2 _ rfl
              have c3 := hcj 3 _ rfl
              have c4 := hcj 4 _ rfl
              clear hcj hs' hB
              cases eqb with
              | true =>
                have hyx : (⟨yn, yl⟩ : MSeat) = ⟨xn, xl⟩ := of_decide_eq_true HEQ.out
                have HF : Hid (E = 17) := Lib.hid (by
                  have h1 := HTK.out
                  rw [if_pos hyx.symm] at h1
                  have h2 := takenN_mono q (j + 1) i (by omega) ⟨xn, xl⟩
                  rw [HE3.out, if_pos (by omega)])
                have hbb := bel_on2 HBW2.out hB6.out
                clear HE3 HTK HIN
                go_wp2
                go_ret
                exact ⟨ret_int HF.out.symm, hbb⟩
              | false =>
                have hyx : ¬ (⟨yn, yl⟩ : MSeat) = ⟨xn, xl⟩ := of_decide_eq_false HEQ.out
                have HT2 : Hid (takenN (q.take (j + 1)) ⟨xn, xl⟩ = 0) := Lib.hid (by rw [HTK.out, if_neg (fun e => hyx e.symm)]; exact hT.out)
                have HFY := Lib.hid (HFD.out _ ⟨yn, yl⟩ (bel_on2 HBW2.out hB6.out))
                clear HTK HEQ hyx hT
                go_wp2_with fail
                refine HFY.out.mono ?_
                rintro e w5 ⟨rfl, hb5⟩
                have hB7 := bel_on hB6.out hb5
                obtain ⟨⟨⟨tn, tl⟩, tc, tz, tb, te, tk⟩, hTp⟩ : ∃ Tp, spotAt L ⟨yn, yl⟩ = Tp := ⟨_, rfl⟩
                rw [hTp]
                have hblk : blkOf L ⟨yn, yl⟩ = tb := by unfold blkOf; rw [hTp]
                have hin2 := HIN.out
                rw [hblk] at hin2
                have HIN2 := Lib.hid hin2
                unfold spotV
                simp only
                have hB8 : ∀ o, Below W2.heap.size W2 (w5.alloc o) := fun o => hB7.alloc hB7.size o
                obtain ⟨-, -, -, -, -, -, -, z4, -, -⟩ := HM.out _ hB7
                obtain ⟨gb', off', hge, _, hs', hcj⟩ := (HS.out.below (bel_on2 HBW2.out hB7)).elem sitC_len (by decide) hjl
                simp only [Option.some.injEq, Addr.mk.injEq, and_true] at hge
                obtain ⟨rfl, rfl⟩ := hge
                rw [HYJ.out] at hcj
                have d2 := hcj 2 _ rfl
                have hgl : gb < w5.heap.size := Nat.lt_of_lt_of_le hgb (bel_on2 HBW2.out hB7).size
                have hwl : w1.heap.size < w5.heap.size := Nat.lt_of_lt_of_le (Array.getElem?_eq_some_iff.1 HBX.out).1 hB7.size
                have HB8 := Lib.hid hB8
                clear hcj hs' HFY hb5 hB7 hTp hblk hin2 HIN hB8 c2 c3 c4
                by_cases hbe : tb = sb
                · subst hbe
                  cases yi with
                  | true =>
                    have hn1 : infN L (q.take (j + 1)) tb = infN L (q.take j) tb + 1 := by rw [HIN2.out]; simp
                    have hw1 : IntKind.i64.wrap ((infN L (q.take j) tb : Int) + 1) = (infN L (q.take j) tb : Int) + 1 := IntWalk.i64_in _ (by omega)
                    go_wp2
                    refine ⟨⟨j + 1, by omega, by go_num, by rw [hn1]; simp, HT2, Lib.hid (HB8.out _)⟩, ?_⟩
                    simp [intOf]; omega
                  | false =>
                    have hn1 : infN L (q.take (j + 1)) tb = infN L (q.take j) tb := by rw [HIN2.out]; simp
                    go_wp2
                    refine ⟨⟨j + 1, by omega, by go_num, by rw [hn1], HT2, Lib.hid (HB8.out _)⟩, ?_⟩
                    simp [intOf]; omega
                · have hn1 : infN L (q.take (j + 1)) sb = infN L (q.take j) sb := by rw [HIN2.out, if_neg (fun h => hbe h.2.symm)]
                  have hbd : (tb == sb) = false := by simpa using hbe
                  go_wp2
                  refine ⟨⟨j + 1, by omega, by go_num, by rw [hn1], HT2, Lib.hid (HB8.out _)⟩, ?_⟩
                  simp [intOf]; omega
          · have hlz : ¬ (j : Int) < (i : Int) := by omega
            obtain rfl : j = i := by omega
            obtain ⟨-, -, m2, -, -⟩ := HCC.out _ (bel_on2 HBW2.out hB.out)
            have HE4 : Hid (E = if xi = true ∧ 1 ≤ infN L (q.take j) sb then 18 else 0) := Lib.hid (by rw [HE3.out, hT.out]; simp)
            have hbb := bel_on2 HBW2.out hB.out
            obtain ⟨I, hI⟩ : ∃ I, infN L (q.take j) sb = I := ⟨_, rfl⟩
            rw [hI] at HE4 hin ⊢
            clear HE3 hT hB hI
            cases xi with
            | false =>
              have HF : Hid (E = 0) := Lib.hid (by rw [HE4.out]; simp)
              go_wp2
              go_ret
              exact ⟨ret_int HF.out.symm, hbb⟩
            | true =>
              by_cases h1 : 1 ≤ I
              · have dI : decide ((I : Int) ≥ 1) = true := by simp; omega
                have HF : Hid (E = 18) := Lib.hid (by rw [HE4.out]; simp [h1])
                clear HE4
                go_wp2
                go_ret
                exact ⟨ret_int HF.out.symm, hbb⟩
              · have dI : decide ((I : Int) ≥ 1) = false := by simp; omega
                have HF : Hid (E = 0) := Lib.hid (by rw [HE4.out]; simp [h1])
                clear HE4
                go_wp2
                go_ret
                exact ⟨ret_int HF.out.symm, hbb⟩
      · have HF : Hid (E = O) := Lib.hid (by rw [HE2.out]; simp [hO])
        have hbb := bel_on2 HBW2.out hb3
        clear HE2 hb3
        go_wp2
        go_ret
        exact ⟨ret_int HF.out.symm, hbb⟩
end Go.Proofs.YtppjpledjhinbaaDoor
