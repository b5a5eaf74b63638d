/- ReseatValid's walk. -/
import Derived.Test.YtppjpledjhinbaaDoorJRsCnt
namespace Go.Proofs.YtppjpledjhinbaaDoor
open Go.RowKit Go.Lib
theorem seatPl_len2 (l : List MRow) (rs : List MSit) : (seatPl l rs).length = rs.length := by
  obtain ⟨σ, hσ⟩ := sits_as l rs
  exact (seats_ok l rs hσ).len
set_option maxHeartbeats 4000000 in
set_option maxRecDepth 20000 in
theorem rvalid_any (w : World) (mm : Int) (A : Option Addr) (n c : Nat) (l : List MRow) (hr : Rd w w.heap.size 5 A n (catv rowC l)) (hf : ∀ r ∈ l, r.fits) (hLib : LibAt w mm) (A1 : Option Addr) (n1 c1 : Nat) (rs : List MSit) (hr1 : Rd w w.heap.size 5 A1 n1 (catv sitC rs)) (hf1 : ∀ x ∈ rs, x.seat.fits) (hn1 : n1 ≤ 1048576) :
    Calls Tryd.prog 4 #[.slice A n c, .slice A1 n1 c1] w fun e w' => e = .returned (.bool true) ∧ Below w.heap.size w w' := by
  have HL1 := Lib.hid (rd_catlen sitC_len (by decide) hr1).symm
  have HLV := Lib.hid (rlives_any w mm hLib)
  have HMO := Lib.hid (fun (W : World) (hW : Below w.heap.size w W) => most_any W mm A n c l ((hr.below hW).mono hW.size) hf (hLib.below hW) A1 n1 c1 rs ((hr1.below hW).mono hW.size) hf1 (by omega))
  have HSE := Lib.hid (fun (W : World) (hW : Below w.heap.size w W) => seat_any W mm A n c l ((hr.below hW).mono hW.size) hf (hLib.below hW) A1 n1 c1 rs ((hr1.below hW).mono hW.size) hf1 (by omega))
  have HCT := Lib.hid (fun (W : World) (hW : Below w.heap.size w W) (A3 : Option Addr) (c3 : Nat) (S : List MSeat) (hr3 : Rd W W.heap.size 2 A3 n1 (catv seatC S)) => rcount_any W A n c l ((hr.below hW).mono hW.size) hf A1 n1 c1 rs ((hr1.below hW).mono hW.size) hf1 hn1 A3 c3 S hr3)
  have HCK := Lib.hid (fun (W : World) (hW : Below w.heap.size w W) => rcheck_any W A n c l ((hr.below hW).mono hW.size) hf)
  clear hr hf hLib hr1 hf1
  go_enter Tryd.func4, Tryd.ntmps4
  go_wp2_with fail
  refine HLV.out.mono ?_
  rintro e w1 ⟨rfl, hb1⟩
  have HB1 := Lib.hid hb1
  clear hb1
  go_wp2_with fail
  refine (HMO.out _ HB1.out).mono ?_
  rintro e w2 ⟨hb2, hm⟩
  have HB2 := Lib.hid (HB1.out.trans (hb2.mono HB1.out.size))
  clear hb2
  by_cases hE : errC l ≠ 0
  · rw [if_pos hE] at hm
    subst hm
    obtain ⟨E, hE1⟩ : ∃ E, errC l = E := ⟨_, rfl⟩
    have HE := Lib.hid hE
    have HE1 := Lib.hid hE1
    have hE13 : E = 13 := by
      rw [← hE1]; unfold errC at hE ⊢
      split
      · rename_i h; rw [if_pos h] at hE; exact absurd rfl hE
      · rfl
    subst hE13
    rw [hE1]
    clear hE hE1
    go_wp2_with fail
    refine (HSE.out _ HB2.out).mono ?_
    rintro e w3 ⟨hb3, hs⟩
    rw [if_pos HE.out, HE1.out] at hs
    subst hs
    have HB3 := Lib.hid (HB2.out.trans (hb3.mono HB2.out.size))
    clear hb3
    go_wp2_with fail
    refine (HCK.out _ HB3.out).mono ?_
    rintro e w4 ⟨rfl, hb4⟩
    rw [HE1.out]
    have HB4 := Lib.hid (HB3.out.trans (hb4.mono HB3.out.size))
    clear hb4
    go_wp2
    go_ret
    exact ⟨rfl, HB4.out⟩
  · rw [if_neg hE] at hm
    have HE := Lib.hid hE
    have HE0 : Hid (errC l = 0) := Lib.hid (Classical.byContradiction hE)
    by_cases hlt : 20 < rs.length
    · rw [if_pos hlt] at hm
      subst hm
      have HLT := Lib.hid hlt
      clear hE hlt
      go_wp2_with fail
      refine (HSE.out _ HB2.out).mono ?_
      rintro e w3 ⟨hb3, hs⟩
      rw [if_neg HE.out, if_pos HLT.out] at hs
      subst hs
      have HB3 := Lib.hid (HB2.out.trans (hb3.mono HB2.out.size))
      clear hb3
      go_wp2_with fail
      refine (HCK.out _ HB3.out).mono ?_
      rintro e w4 ⟨rfl, hb4⟩
      rw [HE0.out]
      have HB4 := Lib.hid (HB3.out.trans (hb4.mono HB3.out.size))
      clear hb4
      go_wp2
      go_ret
      exact ⟨rfl, HB4.out⟩
    · rw [if_neg hlt] at hm
      obtain ⟨k, hk, rfl⟩ := hm
      obtain ⟨h1, h2⟩ := most_of hk
      rw [h2, h1]
      have hcnt := seat_counts l rs (by omega)
      rw [if_pos (show checkL l = true by
        have := HE0.out
        unfold errC at this
        by_cases hc : checkL l = true
        · exact hc
        · rw [if_neg hc] at this; cases this)] at hcnt
      obtain ⟨M, hM⟩ : ∃ M, seatedM l rs = M := ⟨_, rfl⟩
      obtain ⟨K, hK⟩ : ∃ K, keptM l rs = K := ⟨_, rfl⟩
      have HC1 : Hid (allE l (sitL rs (seatPl l rs)) = 0) := Lib.hid hcnt.1
      have HC2 : Hid (((sitL rs (seatPl l rs)).length : Int) = M) := Lib.hid (by rw [← hM]; exact hcnt.2.1)
      have HC3 : Hid ((keptL rs (seatPl l rs) : Int) = K) := Lib.hid (by rw [← hK]; exact hcnt.2.2)
      rw [hM, hK]
      have HLT := Lib.hid hlt
      clear hE hlt hk h1 h2 hcnt hM hK
      go_wp2_with fail
      refine (HSE.out _ HB2.out).mono ?_
      rintro e w3 ⟨hb3, hs⟩
      rw [if_neg HE.out, if_neg HLT.out] at hs
      obtain ⟨v3, rfl, ho3⟩ := hs
      rw [HL1.out] at ho3
      obtain ⟨A3, c3, rfl⟩ := own_shape ho3
      have HB3 := Lib.hid (HB2.out.trans (hb3.mono HB2.out.size))
      have HC := Lib.hid (HCT.out w3 HB3.out A3 c3 (seatPl l rs) (Rd.own ho3))
      rw [HC1.out, HC2.out, HC3.out] at HC
      clear hb3 ho3
      go_wp2_with fail
      refine HC.out.mono ?_
      rintro e w4 ⟨rfl, hb4⟩
      have HB4 := Lib.hid (HB3.out.trans (hb4.mono HB3.out.size))
      clear hb4 HC
      go_wp2
      go_ret
      exact ⟨by first | rfl | simp, HB4.out⟩
end Go.Proofs.YtppjpledjhinbaaDoor
