/- ReseatTiny's walk: the law. -/
import Derived.Test.YtppjpledjhinbaaDoorJRsTiny
import Derived.Test.YtppjpledjhinbaaDoorJCbRSp
namespace Go.Proofs.YtppjpledjhinbaaDoor
open Go.RowKit Go.Lib
set_option maxHeartbeats 4000000 in
set_option maxRecDepth 20000 in
theorem rtiny_any (w : World) (mm : Int) (A : Option Addr) (n c : Nat) (l : List MRow) (hr : Rd w w.heap.size 5 A n (catv rowC l)) (hf : ∀ r ∈ l, r.fits) (hLib : LibAt w mm) (A1 : Option Addr) (n1 c1 : Nat) (rs : List MSit) (hr1 : Rd w w.heap.size 5 A1 n1 (catv sitC rs)) (hf1 : ∀ x ∈ rs, x.seat.fits) :
    Calls Tryd.prog 5 #[.slice A n c, .slice A1 n1 c1] w fun e w' => e = .returned (.bool true) ∧ Below w.heap.size w w' := by
  have HL1 := Lib.hid (rd_catlen sitC_len (by decide) hr1).symm
  have HLV := Lib.hid (rlives_any w mm hLib)
  have HSP := Lib.hid (fun (W : World) (hW : Below w.heap.size w W) => rspots_any W A n c l ((hr.below hW).mono hW.size) hf)
  have HCK := Lib.hid (fun (W : World) (hW : Below w.heap.size w W) => rcheck_any W A n c l ((hr.below hW).mono hW.size) hf)
  have HMO := Lib.hid (fun (W : World) (hW : Below w.heap.size w W) (hE : errC l = 0) (h20 : rs.length ≤ 20) => most_ok W mm A n c l ((hr.below hW).mono hW.size) hf (hLib.below hW) A1 n1 c1 rs ((hr1.below hW).mono hW.size) hf1 hE h20)
  have HBE := Lib.hid (fun (W : World) (hW : Below w.heap.size w W) (h4 : rs.length ≤ 4) => best_any l rs hf hf1 h4 rs.length 0 (by omega) W A n c A1 n1 c1 none 0 0 [] ((hr.below hW).mono hW.size) ((hr1.below hW).mono hW.size) Rd.nil (Nat.le_refl _))
  clear hr hf hLib hr1 hf1
  go_enter Tryd.func5, Tryd.ntmps5
  go_wp2_with fail
  refine HLV.out.mono ?_
  rintro e w1 ⟨rfl, hb1⟩
  have HB1 := Lib.hid hb1
  clear hb1
  by_cases h4 : 4 < n1
  · have hli : (4 : Int) < (n1 : Int) := by omega
    clear h4
    go_wp2
    go_ret
    exact ⟨rfl, HB1.out⟩
  · have hli : ¬ (4 : Int) < (n1 : Int) := by omega
    have HN4 : Hid (rs.length ≤ 4) := Lib.hid (by rw [HL1.out]; omega)
    clear h4
    go_wp2_with fail
    refine (HSP.out _ HB1.out).mono ?_
    rintro e w2 ⟨v2, rfl, ho2, hb2⟩
    obtain ⟨A2, c2, rfl⟩ := own_shape ho2
    have HB2 := Lib.hid (HB1.out.trans (hb2.mono HB1.out.size))
    obtain ⟨m, hm⟩ : ∃ m, (spotsL l).length = m := ⟨_, rfl⟩
    rw [hm]
    clear hb2 ho2 hm
    by_cases h7 : 7 < m
    · have hlm : (7 : Int) < (m : Int) := by omega
      clear h7
      go_wp2
      go_ret
      exact ⟨rfl, HB2.out⟩
    · have hlm : ¬ (7 : Int) < (m : Int) := by omega
      clear h7
      go_wp2_with fail
      refine (HCK.out _ HB2.out).mono ?_
      rintro e w3 ⟨rfl, hb3⟩
      have HB3 := Lib.hid (HB2.out.trans (hb3.mono HB2.out.size))
      clear hb3
      obtain ⟨E, hE⟩ : ∃ E, errC l = E := ⟨_, rfl⟩
      rw [hE]
      have HE := Lib.hid hE
      clear hE
      by_cases hE0 : E = 0
      · subst hE0
        have hc : checkL l = true := by
          have := HE.out
          unfold errC at this
          by_cases hc : checkL l = true
          · exact hc
          · rw [if_neg hc] at this; cases this
        have htiny := tiny_best l rs hc (by have := HN4.out; omega)
        have HM := Lib.hid (HMO.out w3 HB3.out HE.out (by have := HN4.out; omega))
        obtain ⟨M, hM⟩ : ∃ M, seatedM l rs = M := ⟨_, rfl⟩
        obtain ⟨K, hK⟩ : ∃ K, keptM l rs = K := ⟨_, rfl⟩
        rw [hM, hK] at HM htiny
        have HT := Lib.hid htiny
        clear htiny hM hK hc
        go_wp2_with fail
        refine HM.out.mono ?_
        rintro e w4 ⟨rfl, hb4⟩
        have hb04 := HB3.out.trans (hb4.mono HB3.out.size)
        have hb := HBE.out w4 hb04 HN4.out
        rw [List.drop_zero, HT.out] at hb
        have HBB : Hid (Calls Tryd.prog 22 #[.slice A n c, .slice A1 n1 c1, .int .i64 0, .slice none 0 0] w4 fun e w' => e = .returned (.tuple #[.int .i64 M, .int .i64 K]) ∧ Below w4.heap.size w4 w') := Lib.hid hb
        have HB4 := Lib.hid hb04
        clear hb4 hb04 hb HM
        go_wp2_with fail
        refine HBB.out.mono ?_
        rintro e w5 ⟨rfl, hb5⟩
        have HB5 := Lib.hid (HB4.out.trans (hb5.mono HB4.out.size))
        clear hb5 HBB
        go_wp2
        go_ret
        exact ⟨by first | rfl | simp, HB5.out⟩
      · have hne : ¬ E = 0 := hE0
        have hbe : (E == 0) = false := beq_false_of_ne hne
        have hbn : (E != 0) = true := by simp [hne]
        go_wp2
        go_ret
        exact ⟨rfl, HB3.out⟩
end Go.Proofs.YtppjpledjhinbaaDoor
