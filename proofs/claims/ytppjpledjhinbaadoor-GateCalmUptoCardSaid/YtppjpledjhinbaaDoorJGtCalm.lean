/- GateCalm's walk. -/
import Derived.Test.YtppjpledjhinbaaDoorJGtWhos
import Derived.Test.YtppjpledjhinbaaDoorJGtGrd
namespace Go.Proofs.YtppjpledjhinbaaDoor
open Go.RowKit Go.Lib
set_option maxHeartbeats 4000000 in
set_option maxRecDepth 20000 in
theorem gcalm_any (w : World) (mm : Int) (A : Option Addr) (n c : Nat) (l : List MRow) (hr : Rd w w.heap.size 5 A n (catv rowC l)) (hf : ∀ r ∈ l, r.fits) (hLib : LibAt w mm) (A1 : Option Addr) (n1 c1 : Nat) (cs : List MCand) (hr1 : Rd w w.heap.size 4 A1 n1 (catv candC cs)) (hn1 : n1 ≤ 1099511627776) :
    Calls Tryd.prog 10 #[.slice A n c, .slice A1 n1 c1] w fun e w' => e = .returned (.bool true) ∧ Below w.heap.size w w' := by
  obtain rfl := rd_catlen candC_len (by decide) hr1
  have HLV := Lib.hid (glives_any w mm hLib)
  have HR := Lib.hid hr
  have HF := Lib.hid hf
  have HLB := Lib.hid hLib
  have HR1 := Lib.hid hr1
  clear hr hf hLib hr1
  go_enter Tryd.func10, Tryd.ntmps10
  go_wp2_with fail
  refine HLV.out.mono ?_
  rintro e w1 ⟨rfl, hb1⟩
  have HWH := Lib.hid (whos_any w1 A1 cs.length c1 cs ((HR1.out.below hb1).mono hb1.size) hn1)
  have HB1 := Lib.hid hb1
  clear hb1 HLV
  go_wp2_with fail
  refine HWH.out.mono ?_
  rintro e w2 ⟨v, rfl, ho, hb2⟩
  obtain ⟨Av, cv, rfl⟩ := own_shape ho
  have hb02 := HB1.out.trans (hb2.mono HB1.out.size)
  have HJN := Lib.hid (joint_any w2 mm A n c l ((HR.out.below hb02).mono hb02.size) HF.out (HLB.out.below hb02) Av cs.length cv (cs.map MCand.who) (Rd.own ho))
  have HO := Lib.hid ho
  have HB2 := Lib.hid hb02
  clear hb2 hb02 ho HWH HB1
  go_wp2_with fail
  refine HJN.out.mono ?_
  rintro e w3 ⟨hb3, hj⟩
  have hb03 := HB2.out.trans (hb3.mono HB2.out.size)
  have HDN := Lib.hid (deny_any w3 mm A n c l ((HR.out.below hb03).mono hb03.size) HF.out (HLB.out.below hb03) A1 cs.length c1 cs ((HR1.out.below hb03).mono hb03.size) hn1)
  have HO3 := Lib.hid (own_below HO.out hb3)
  have HB3 := Lib.hid hb03
  clear hb3 hb03 HJN HO HB2
  by_cases hE : errC l ≠ 0
  · rw [if_pos hE] at hj
    subst hj
    have HE := Lib.hid hE
    obtain ⟨E, hE1⟩ : ∃ E, errC l = E := ⟨_, rfl⟩
    rw [hE1] at hE
    have HE1 := Lib.hid hE1
    rw [hE1]
    clear hE1
    go_wp2_with fail
    refine HDN.out.mono ?_
    rintro e w4 ⟨hb4, hd⟩
    rw [if_pos HE.out, HE1.out] at hd
    subst hd
    have hb04 := HB3.out.trans (hb4.mono HB3.out.size)
    have HCL := Lib.hid (clear_any w4 mm A n c l ((HR.out.below hb04).mono hb04.size) HF.out (HLB.out.below hb04) none 0 0 [] Rd.nil Av cs.length cv (cs.map MCand.who) (Rd.own (own_below HO3.out hb4)) (by omega) hn1)
    have HB4 := Lib.hid hb04
    clear hb4 hb04 HDN
    go_wp2_with fail
    refine HCL.out.mono ?_
    rintro e w5 ⟨hb5, hd⟩
    rw [if_pos HE.out, HE1.out] at hd
    subst hd
    have HB5 := Lib.hid (HB4.out.trans (hb5.mono HB4.out.size))
    clear hb5 HCL
    have hne : ¬ E = 0 := hE
    go_wp2
    go_ret
    exact ⟨rfl, HB5.out⟩
  · rw [if_neg hE] at hj
    have HE := Lib.hid hE
    rw [List.length_map] at hj
    by_cases hlt : 20 < cs.length
    · rw [if_pos hlt] at hj
      subst hj
      have HLT := Lib.hid hlt
      clear hE hlt
      go_wp2_with fail
      refine HDN.out.mono ?_
      rintro e w4 ⟨hb4, hd⟩
      rw [if_neg HE.out, if_pos HLT.out] at hd
      subst hd
      have hb04 := HB3.out.trans (hb4.mono HB3.out.size)
      have HCL := Lib.hid (clear_any w4 mm A n c l ((HR.out.below hb04).mono hb04.size) HF.out (HLB.out.below hb04) none 0 0 [] Rd.nil Av cs.length cv (cs.map MCand.who) (Rd.own (own_below HO3.out hb4)) (by omega) hn1)
      have HB4 := Lib.hid hb04
      clear hb4 hb04 HDN
      go_wp2_with fail
      refine HCL.out.mono ?_
      rintro e w5 ⟨hb5, hd⟩
      rw [if_neg HE.out, if_pos (by simpa using HLT.out)] at hd
      subst hd
      have HB5 := Lib.hid (HB4.out.trans (hb5.mono HB4.out.size))
      clear hb5 HCL
      go_wp2
      go_ret
      exact ⟨rfl, HB5.out⟩
    · rw [if_neg hlt] at hj
      obtain ⟨k, hk, rfl⟩ := hj
      have hk2 : decide (k = (cs.length : Int)) = fitL l (cs.map rdr) := by
        have := fitL_is hk
        rw [List.length_map, List.length_map, List.map_map] at this
        exact this
      obtain ⟨fb, hfb⟩ : ∃ fb, fitL l (cs.map rdr) = fb := ⟨_, rfl⟩
      have HD0 := Lib.hid (deny_none l cs (by omega))
      have HC0 := Lib.hid (clear_all l (cs.map MCand.who) (by simp; omega))
      rw [List.length_map, List.map_map, show (rider ∘ MCand.who) = rdr from rfl] at HC0
      rw [hfb] at HD0 HC0 hk2
      rw [hk2]
      have HLT := Lib.hid hlt
      clear hk hk2 hfb hE hlt
      go_wp2_with fail
      refine HDN.out.mono ?_
      rintro e w4 ⟨hb4, hd⟩
      rw [if_neg HE.out, if_neg HLT.out] at hd
      obtain ⟨vd, rfl, hod⟩ := hd
      obtain ⟨Ad, cd, rfl⟩ := own_shape hod
      have hb04 := HB3.out.trans (hb4.mono HB3.out.size)
      have HCL := Lib.hid (clear_any w4 mm A n c l ((HR.out.below hb04).mono hb04.size) HF.out (HLB.out.below hb04) none 0 0 [] Rd.nil Av cs.length cv (cs.map MCand.who) (Rd.own (own_below HO3.out hb4)) (by omega) hn1)
      have HB4 := Lib.hid hb04
      obtain ⟨D, hD⟩ : ∃ D, (den2 l cs).2.length = D := ⟨_, rfl⟩
      rw [hD] at HD0
      rw [hD]
      clear hb4 hb04 HDN hod hD
      go_wp2_with fail
      refine HCL.out.mono ?_
      rintro e w5 ⟨hb5, hd⟩
      rw [if_neg HE.out, if_neg (by simpa using HLT.out), if_neg (by rw [List.map_nil, fit_nil]; decide)] at hd
      obtain ⟨vt, rfl, hot⟩ := hd
      obtain ⟨At, ct, rfl⟩ := own_shape hot
      rw [List.map_nil]
      obtain ⟨C, hC⟩ : ∃ C, (clearSt l [] (cs.map MCand.who)).2.1.length = C := ⟨_, rfl⟩
      rw [hC] at HC0
      rw [hC]
      have HB5 := Lib.hid (HB4.out.trans (hb5.mono HB4.out.size))
      clear hb5 HCL hot hC
      cases fb with
      | true =>
        obtain rfl := HD0.out.2 rfl
        have hc := HC0.out.2 rfl
        subst hc
        clear HC0 HD0
        go_wp2
        go_ret
        exact ⟨rfl, HB5.out⟩
      | false =>
        have hd : ((D : Int) == 0) = false := beq_false_of_ne (fun e => by have := HD0.out.1 (by omega); cases this)
        have hc : ((C : Int) == (cs.length : Int)) = false := beq_false_of_ne (fun e => by have := HC0.out.1 (by omega); cases this)
        clear HC0 HD0
        go_wp2
        go_ret
        exact ⟨rfl, HB5.out⟩
end Go.Proofs.YtppjpledjhinbaaDoor
