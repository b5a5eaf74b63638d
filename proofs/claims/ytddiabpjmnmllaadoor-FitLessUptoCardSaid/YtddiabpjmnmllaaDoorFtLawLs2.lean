/- The law FitLess, walked: the walk. -/
import Derived.Test.YtddiabpjmnmllaaDoorFtLawLess
namespace Go.Proofs.YtddiabpjmnmllaaDoor
open Go.RowKit Go.Lib
set_option maxHeartbeats 16000000 in
set_option maxRecDepth 20000 in
theorem fitLess_any (w : World) (m : Int) (A : Option Addr) (n c : Nat) (l : List MRow) (x : MWho) (S : Option Addr) (k d : Nat) (q : List MSit) (hr : Rd w w.heap.size 5 A n (catv rowC l)) (hf : ∀ r ∈ l, r.fits) (hs : Rd w w.heap.size 5 S k (catv sitC q)) (hq : ∀ x ∈ q, x.seat.fits) (hk : k ≤ 1048576) (hkd : k ≤ d) (hLib : LibAt w m) :
    Calls Tryd.prog 3 #[.slice A n c, .agg #[.int .i64 x.cab, .bool x.fit, .bool x.inf], .slice S k d] w fun e w' => e = .returned (.bool true) ∧ Below w.heap.size w w' := by
  obtain rfl := rd_catlen sitC_len (by decide) hs
  obtain ⟨xc, xf, xi⟩ := x
  obtain ⟨W, hW⟩ : ∃ W, W = w.alloc (.cells #[.int .i64 xc, .bool xf, .bool xi] 24) := ⟨_, rfl⟩
  have hbW : Below w.heap.size w W := by rw [hW]; exact (Below.refl _ w).alloc (Nat.le_refl _) _
  have bx : W.heap[w.heap.size]? = some (.cells #[.int .i64 xc, .bool xf, .bool xi] 24 (0, 0)) := by rw [hW]; exact heap_alloc_new w _
  have HX : Hid (∀ V : World, Below W.heap.size W V → V.cell? ⟨w.heap.size, 0, none⟩ = some (.int .i64 xc) ∧ V.cell? ⟨w.heap.size, 1, none⟩ = some (.bool xf) ∧ V.cell? ⟨w.heap.size, 2, none⟩ = some (.bool xi)) := Lib.hid (fun V hV => by
    have b := box_keep bx (Upd.of_below (S := fun _ => False) hV) id
    refine ⟨?_, ?_, ?_⟩
    · rw [cell_of_row _ _ 0 _ _ _ b]; rfl
    · rw [cell_of_row _ _ 1 _ _ _ b]; rfl
    · rw [cell_of_row _ _ 2 _ _ _ b]; rfl)
  have HBW := Lib.hid hbW
  have HLV : Hid (∀ V : World, Below W.heap.size W V → Calls Tryd.prog 12 #[] V fun e V' => e = .returned (.bool true) ∧ Below V.heap.size V V') := Lib.hid (fun V hV => lives_any V m (hLib.below (bel_on2 hbW hV)))
  obtain ⟨E, hE⟩ : ∃ E, allE l q = E := ⟨_, rfl⟩
  have HA : Hid (∀ V : World, Below W.heap.size W V → Calls Tryd.prog 13 #[.slice A n c, .slice S q.length d] V fun e V' => e = .returned (.int .i64 E) ∧ Below V.heap.size V V') := Lib.hid (fun V hV => by
    have hb := bel_on2 hbW hV
    rw [← hE]
    exact all_any V m A n c l S q.length d q ((hr.below hb).mono hb.size) hf ((hs.below hb).mono hb.size) hq (by omega) (hLib.below hb))
  have HFR : Hid (∀ (V : World) (j cd : Nat), j ≤ q.length → Below W.heap.size W V → Calls Tryd.prog 14 #[.slice A n c, .agg #[.int .i64 xc, .bool xf, .bool xi], .slice S j cd] V fun e V' => ∃ v, e = .returned v ∧ V'.ownsRow V.heap.size 32 2 v (freeL l ⟨xc, xf, xi⟩ (q.take j)).length (catv seatC (freeL l ⟨xc, xf, xi⟩ (q.take j))) ∧ Below V.heap.size V V') := Lib.hid (fun V j cd hj hV => by
    have hb := bel_on2 hbW hV
    have hsj := (hs.below hb).take j hj
    rw [catv_take sitC_len] at hsj
    exact free_any V m A n c l ⟨xc, xf, xi⟩ S j cd (q.take j) ((hr.below hb).mono hb.size) hf (hsj.mono hb.size) (fun x hx => hq x (List.mem_of_mem_take hx)) (by simp; omega) (hLib.below hb))
  have HF0 : Hid (∀ V : World, Below W.heap.size W V → Calls Tryd.prog 14 #[.slice A n c, .agg #[.int .i64 xc, .bool xf, .bool xi], .slice none 0 0] V fun e V' => ∃ v, e = .returned v ∧ V'.ownsRow V.heap.size 32 2 v (freeL l ⟨xc, xf, xi⟩ (q.take 0)).length (catv seatC (freeL l ⟨xc, xf, xi⟩ (q.take 0))) ∧ Below V.heap.size V V') := Lib.hid (fun V hV => by
    have hb := bel_on2 hbW hV
    exact free_any V m A n c l ⟨xc, xf, xi⟩ none 0 0 [] ((hr.below hb).mono hb.size) hf ⟨by simp [catv], fun h => absurd h (by omega)⟩ (by simp) (by simp) (hLib.below hb))
  have HE := Lib.hid hE
  have HST : Hid (allE l q = 0 → ∀ j, (freeL l ⟨xc, xf, xi⟩ (q.take (j + 1))).Sublist (freeL l ⟨xc, xf, xi⟩ (q.take j))) := Lib.hid (fun h j => free_step h j)
  clear hbW bx hr hf hs hq hLib hE
  go_enter Tryd.func3, Tryd.ntmps3
  go_wp2_with fail
  rw [← hW]
  clear hW
  refine (HLV.out W (Below.refl _ _)).mono ?_
  rintro e w3 ⟨rfl, hb3⟩
  have HB3 : Hid (Below W.heap.size W w3) := Lib.hid hb3
  have h4 := Lib.hid (HA.out w3 hb3)
  clear hb3 HLV
  go_wp2_with fail
  refine h4.out.mono ?_
  rintro e w4 ⟨rfl, hb4⟩
  have HB4 := Lib.hid (bel_on HB3.out hb4)
  obtain ⟨x0, x1, x2⟩ := HX.out _ HB4.out
  clear hb4 h4 HB3
  by_cases hE0 : E = 0
  · subst hE0
    have HS2 := Lib.hid (HST.out HE.out)
    have h5 := Lib.hid (HF0.out w4 HB4.out)
    go_wp2_with fail
    refine h5.out.mono ?_
    rintro e w5 ⟨v, rfl, ho, hb5⟩
    obtain ⟨A5, c5, rfl, hrd⟩ := own_rd ho
    have HR5 : Hid (Rd w5 w5.heap.size 2 A5 (freeL l ⟨xc, xf, xi⟩ (q.take 0)).length (catv seatC (freeL l ⟨xc, xf, xi⟩ (q.take 0)))) := Lib.hid hrd
    have HB5 := Lib.hid (bel_on HB4.out hb5)
    clear h5 ho hb5 hrd x0 x1 x2 HF0
    obtain ⟨G, hG⟩ : ∃ G : Nat → List MSeat, (fun j => freeL l ⟨xc, xf, xi⟩ (q.take j)) = G := ⟨_, rfl⟩
    have hGj : ∀ j, freeL l ⟨xc, xf, xi⟩ (q.take j) = G j := fun j => by rw [← hG]
    have HGL : Hid (∀ j, (G j).length ≤ 66) := Lib.hid (fun j => by rw [← hGj]; exact freeL_len _ _ _)
    simp only [hGj] at HFR HR5 HS2 ⊢
    clear hG hGj
    go_wp2
    go_loopw [7, 8] (fun wv nv wx => ∃ (J : Nat) (Ab : Option Addr) (cb : Nat), 1 ≤ J ∧ J ≤ q.length + 1 ∧ nv = .int .i64 (J : Int) ∧ wv = .slice Ab (G (J - 1)).length cb ∧ Hid (Rd wx wx.heap.size 2 Ab (G (J - 1)).length (catv seatC (G (J - 1)))) ∧ Hid (Below W.heap.size W wx)) (fun _ nv _ => q.length + 1 - (intOf nv).toNat)
    case atStart => exact ⟨1, A5, c5, by omega, by omega, rfl, rfl, HR5, HB5⟩
    case round =>
      obtain ⟨J, Ab, cb, hJ1, hJ, rfl, rfl, hRb, hB⟩ := hrel
      by_cases hlt : J ≤ q.length
      · obtain ⟨x0, x1, x2⟩ := HX.out _ hB.out
        have hJz : (J : Int) ≤ (q.length : Int) := by omega
        have hJ0 : (0 : Int) ≤ (J : Int) := by omega
        have hJd : (J : Int) ≤ (d : Int) := by omega
        have hsub := HS2.out (J - 1)
        rw [Nat.sub_add_cancel hJ1] at hsub
        have HSUB := Lib.hid hsub
        have hbd : Below wr.heap.size wr wr.drew := (Below.refl _ _).drew
        obtain ⟨WW, hWW⟩ : ∃ WW, G (J - 1) = WW := ⟨_, rfl⟩
        have hW66 : WW.length ≤ 66 := by rw [← hWW]; exact HGL.out _
        have hN66 : (G J).length ≤ 66 := HGL.out _
        rw [hWW] at hRb HSUB ⊢
        clear hsub hWW
        go_upto_region 9 with (fail)
        go_cut [9] (fun v wc => ∃ An cn, v = .slice An (G J).length cn ∧ Hid (Rd wc wc.heap.size 2 An (G J).length (catv seatC (G J))) ∧ Hid (Below wr.heap.size wr wc))
        case first =>
          go_region_held3 (fun V => Below wr.heap.size wr V ∧ V.cell? ⟨w.heap.size, 0, none⟩ = some (.int .i64 xc) ∧ V.cell? ⟨w.heap.size, 1, none⟩ = some (.bool xf) ∧ V.cell? ⟨w.heap.size, 2, none⟩ = some (.bool xi))
            (first | assumption | exact ⟨hb, HX.out _ (bel_on hB.out hb)⟩ | exact ⟨hbd, HX.out _ (bel_on hB.out hbd)⟩)
            (first
              | (go_at_call 14; refine (HFR.out _ J _ hlt (bel_on hB.out (And.left (by assumption)))).mono ?_; rintro e u ⟨v, rfl, ho, hu⟩; obtain ⟨An, cn, rfl, hrn⟩ := own_rd ho; have hb := bel_on (W := wr) (And.left (by assumption)) hu; have HRN := Lib.hid hrn; clear ho hrn)
              | fail)
          all_goals (go_wp2_with fail; go_meet; exact ⟨_, _, rfl, HRN, Lib.hid (And.left (by assumption))⟩)
        case rest =>
          obtain ⟨An, cn, rfl, hRn, hBn⟩ := hcut
          have hRb2 := Lib.hid ((hRb.out.below hBn.out).mono hBn.out.size)
          have HBc := Lib.hid (bel_on hB.out hBn.out)
          obtain ⟨NN, hNN⟩ : ∃ NN, G J = NN := ⟨_, rfl⟩
          have HNN := Lib.hid hNN
          rw [hNN] at hRn HSUB hN66 ⊢
          clear hRb hBn hB x0 x1 x2 hbd hNN
          go_wp2
          go_loopw [10, 42] (fun kv iv wx => ∃ a i : Nat, i ≤ NN.length ∧ iv = .int .i64 (i : Int) ∧ a ≤ WW.length ∧ kv = .int .i64 (a : Int) ∧ Hid ((NN.drop i).Sublist (WW.drop a)) ∧ Hid (Below wc.heap.size wc wx)) (fun _ iv _ => NN.length - (intOf iv).toNat)
          case atStart => exact ⟨0, 0, Nat.zero_le _, rfl, Nat.zero_le _, rfl, Lib.hid (by simpa using HSUB.out), Lib.hid (Below.refl _ _)⟩
          case round =>
            obtain ⟨a, i, hi, rfl, ha, rfl, hSb, hB⟩ := hrel
            by_cases hil : i < NN.length
            · obtain ⟨gn, on, rfl, hgn, _, _⟩ := (hRn.out.below hB.out).elem seatC_len (by decide) hil
              obtain ⟨hs', c0, c1⟩ := seats_cells (hRn.out.below hB.out) hil
              have hSb2 := hSb.out
              rw [List.drop_eq_getElem_cons hs'] at hSb2
              obtain ⟨s, hss⟩ : ∃ s, NN[i] = s := ⟨_, rfl⟩
              rw [hss] at c0 c1 hSb2
              obtain ⟨T, hT⟩ : ∃ T, NN.drop (i + 1) = T := ⟨_, rfl⟩
              rw [hT] at hSb2
              have HT := Lib.hid hT
              obtain ⟨sn, sl⟩ := s
              obtain ⟨V, hV⟩ : ∃ V, V = wr.alloc (.cells #[.int .i64 sn, .int .u8 (sl.toNat : Int)] 32) := ⟨_, rfl⟩
              have bV : V.heap[wr.heap.size]? = some (.cells #[.int .i64 sn, .int .u8 (sl.toNat : Int)] 32 (0, 0)) := by rw [hV]; exact heap_alloc_new wr _
              have hbV : Below wc.heap.size wc V := by rw [hV]; exact hB.out.alloc hB.out.size _
              obtain ⟨xb, hxb⟩ : ∃ xb, wr.heap.size = xb := ⟨_, rfl⟩
              have hxV : xb < V.heap.size := by rw [← hxb]; exact (Array.getElem?_eq_some_iff.1 bV).1
              rw [hxb] at bV
              have HBX := Lib.hid bV
              have HBV := Lib.hid hbV
              have HSB := Lib.hid hSb2
              clear hSb hSb2 hss hT bV hbV hs'
              go_wp2_with fail
              rw [← hV]
              clear hV c0 c1 hxb
              go_loopw [10] (fun kv wx => ∃ b : Nat, b ≤ WW.length ∧ kv = .int .i64 (b : Int) ∧ Hid (((⟨sn, sl⟩ : MSeat) :: T).Sublist (WW.drop b)) ∧ Hid (Below V.heap.size V wx)) (fun kv _ => WW.length - (intOf kv).toNat)
              case atStart => exact ⟨a, ha, rfl, HSB, Lib.hid (Below.refl _ _)⟩
              case round =>
                obtain ⟨b, hb, rfl, hS3, hB3⟩ := hrel
                obtain ⟨hbl, hne, htail⟩ := sub_step hS3.out
                obtain ⟨gw, ow, rfl, hgw, _, _⟩ := (hRb2.out.below (bel_on HBV.out hB3.out)).elem seatC_len (by decide) hbl
                obtain ⟨_, d0, d1⟩ := seats_cells (hRb2.out.below (bel_on HBV.out hB3.out)) hbl
                obtain ⟨y, hy⟩ : ∃ y, WW[b] = y := ⟨_, rfl⟩
                rw [hy] at d0 d1 hne
                obtain ⟨yn, yl⟩ := y
                have bx := box_keep HBX.out (Upd.of_below (S := fun _ => False) hB3.out) id
                have z0 : wr.cell? ⟨xb, 0, none⟩ = some (.int .i64 sn) := by rw [cell_of_row _ _ 0 _ _ _ bx]; rfl
                have z1 : wr.cell? ⟨xb, 1, none⟩ = some (.int .u8 (sl.toNat : Int)) := by rw [cell_of_row _ _ 1 _ _ _ bx]; rfl
                obtain ⟨eqb, heqb⟩ : ∃ eqb, decide ((⟨yn, yl⟩ : MSeat) = ⟨sn, sl⟩) = eqb := ⟨_, rfl⟩
                have hse : ∀ V : World, (Op.equalIn 10000 32 (.agg #[.int .i64 yn, .int .u8 (yl.toNat : Int)]) (.agg #[.int .i64 sn, .int .u8 (sl.toNat : Int)])).run Tryd.prog V = .ok eqb V := fun V => by rw [← heqb]; exact seat_eqIn V ⟨yn, yl⟩ ⟨sn, sl⟩
                have hbz : (b : Int) < (WW.length : Int) := by omega
                have hb0 : (0 : Int) ≤ (b : Int) := by omega
                have HEQ := Lib.hid heqb
                have HNE := Lib.hid hne
                have HTL := Lib.hid htail
                clear hS3 hne htail hy bx heqb
                go_upto_region 14 with (fail)
                go_cut [57] (fun v we => v = .bool (!eqb) ∧ Hid (Below V.heap.size V we))
                case first =>
                  go_quiet (fail)
                  have hB5 : Hid (∀ nq, Below V.heap.size V (wr.drewN nq)) := Lib.hid (fun nq => bel_drewN hB3.out nq)
                  go_wp2_with fail
                  go_meet
                  exact ⟨rfl, Lib.hid (hB5.out _)⟩
                case rest =>
                  obtain ⟨rfl, hB6⟩ := hcut
                  cases eqb with
                  | false =>
                    have HS4 := Lib.hid (HNE.out (of_decide_eq_false HEQ.out))
                    clear HNE HTL HEQ hse hB3
                    simp only [Bool.not_false]
                    go_wp2
                    go_roundw
                    case rel => exact ⟨b + 1, by omega, by go_num, HS4, hB6⟩
                    case measure => simp [intOf]; omega
                  | true =>
                    have HB7 := Lib.hid (bel_on HBV.out hB6.out)
                    have hbe : ((b : Int) == (WW.length : Int)) = false := by simp; omega
                    clear HNE HEQ hse hB3
                    simp only [Bool.not_true]
                    go_wp2
                    refine ⟨⟨b, i + 1, by omega, by go_num, by omega, rfl, Lib.hid (by rw [HT.out]; exact HTL.out), HB7⟩, ?_⟩
                    simp [intOf]; omega
            · have hlz : ¬ (i : Int) < (NN.length : Int) := by omega
              have hRn2 := Lib.hid ((hRn.out.below hB.out).mono hB.out.size)
              have HBe := Lib.hid (bel_on HBc.out hB.out)
              rw [← HNN.out] at hRn2 hlz ⊢
              clear hSb hB hRn
              go_wp2
              go_roundw
              case rel => exact ⟨J + 1, An, cn, by omega, by omega, by go_num, rfl, hRn2, HBe⟩
              case measure => simp [intOf]; omega
      · have hlz : ¬ (J : Int) ≤ (q.length : Int) := by omega
        have hbb := bel_on2 HBW.out hB.out
        go_wp2
        go_ret
        exact ⟨rfl, hbb⟩
  · have h5 := Lib.hid (HFR.out w4 q.length d (Nat.le_refl _) HB4.out)
    have HNO : Hid (freeL l ⟨xc, xf, xi⟩ (q.take q.length) = []) := Lib.hid (by rw [List.take_length]; exact free_none (by rw [HE.out]; exact hE0))
    rw [HNO.out] at h5
    go_wp2_with fail
    refine h5.out.mono ?_
    rintro e w5 ⟨v, rfl, ho, hb5⟩
    obtain ⟨A5, c5, rfl, -⟩ := own_rd ho
    have HB5 := Lib.hid (bel_on2 HBW.out (bel_on HB4.out hb5))
    clear h5 ho hb5
    go_wp2
    go_ret
    exact ⟨rfl, HB5.out⟩
end Go.Proofs.YtddiabpjmnmllaaDoor
