/- ReseatMore's walk. -/
import Derived.Test.YtppjpledjhinbaaDoorJRsMoreP
import Derived.Test.YtppjpledjhinbaaDoorJRsLives
namespace Go.Proofs.YtppjpledjhinbaaDoor
open Go.RowKit Go.Lib
theorem seatedM_bound (l : List MRow) (rs : List MSit) (hn : rs.length < 100) : 0 ≤ seatedM l rs ∧ seatedM l rs ≤ rs.length := by
  obtain ⟨⟨σ, _, b, _⟩, _⟩ := most_all l rs hn
  rw [← b]
  exact seated_le σ
/-- Most, where the map is right and the riders aren't too many. -/
theorem most_ok (w : World) (mm : Int) (A : Option Addr) (n c : Nat) (l : List MRow) (hr : Rd w w.heap.size 5 A n (catv rowC l)) (hf : ∀ r ∈ l, r.fits) (hLib : LibAt w mm) (A2 : Option Addr) (n2 c2 : Nat) (rs : List MSit) (hr2 : Rd w w.heap.size 5 A2 n2 (catv sitC rs)) (hf2 : ∀ x ∈ rs, x.seat.fits) (hE : errC l = 0) (h20 : rs.length ≤ 20) :
    Calls Tryd.prog 14 #[.slice A n c, .slice A2 n2 c2] w fun e w' => e = .returned (.tuple #[.int .i64 (seatedM l rs), .int .i64 (keptM l rs), .int .i64 0]) ∧ Below w.heap.size w w' := by
  have hl := rd_catlen sitC_len (by decide) hr2
  refine (most_any w mm A n c l hr hf hLib A2 n2 c2 rs hr2 hf2 (by omega)).mono ?_
  rintro e w' ⟨hb, hcase⟩
  rw [if_neg (fun h => h hE), if_neg (by omega)] at hcase
  obtain ⟨k, hk, rfl⟩ := hcase
  obtain ⟨h1, h2⟩ := most_of hk
  rw [h2, h1]
  exact ⟨rfl, hb⟩
set_option maxHeartbeats 4000000 in
set_option maxRecDepth 20000 in
theorem rmore_any (w : World) (mm : Int) (A : Option Addr) (n c : Nat) (l : List MRow) (hr : Rd w w.heap.size 5 A n (catv rowC l)) (hf : ∀ r ∈ l, r.fits) (hLib : LibAt w mm) (A1 : Option Addr) (n1 c1 : Nat) (rs : List MSit) (hr1 : Rd w w.heap.size 5 A1 n1 (catv sitC rs)) (hf1 : ∀ x ∈ rs, x.seat.fits) (hn1 : n1 ≤ 1048576) (hc1 : n1 ≤ c1) :
    Calls Tryd.prog 8 #[.slice A n c, .slice A1 n1 c1] w fun e w' => e = .returned (.bool true) ∧ Below w.heap.size w w' := by
  have HL1 := Lib.hid (rd_catlen sitC_len (by decide) hr1).symm
  have HLV := Lib.hid (fun (W : World) (hW : Below w.heap.size w W) => rlives_any W mm (hLib.below hW))
  have HCK := Lib.hid (fun (W : World) (hW : Below w.heap.size w W) => rcheck_any W A n c l ((hr.below hW).mono hW.size) hf)
  have HMO := Lib.hid (fun (W : World) (hW : Below w.heap.size w W) (j : Nat) (hj : j ≤ n1) (hE : errC l = 0) (h20 : n1 ≤ 20) => most_ok W mm A n c l ((hr.below hW).mono hW.size) hf (hLib.below hW) A1 j c1 (rs.take j) (by
    have h1 := ((hr1.below hW).mono hW.size).take j hj
    rw [catv_take sitC_len] at h1
    exact h1) (fun x hx => hf1 x (List.mem_of_mem_take hx)) hE (by rw [List.length_take]; omega))
  have HSM : Hid (0 < n1 → ∃ ad, A1 = some ad) := Lib.hid (fun h => by
    obtain ⟨ad, e, _⟩ := hr1.at_ h
    exact ⟨ad, e⟩)
  clear hr hf hLib hr1 hf1
  go_enter Tryd.func8, Tryd.ntmps8
  go_wp2_with fail
  refine (HLV.out _ (Below.refl _ _)).mono ?_
  rintro e w1 ⟨rfl, hb1⟩
  have HB1 := Lib.hid hb1
  clear hb1
  go_wp2_with fail
  refine (HCK.out _ HB1.out).mono ?_
  rintro e w2 ⟨rfl, hb2⟩
  have HB2 := Lib.hid (HB1.out.trans (hb2.mono HB1.out.size))
  clear hb2
  obtain ⟨E, hE⟩ : ∃ E, errC l = E := ⟨_, rfl⟩
  rw [hE]
  have HE := Lib.hid hE
  clear hE
  by_cases hE0 : E = 0
  · subst hE0
    by_cases hlt : 20 < n1
    · have hli : (20 : Int) < (n1 : Int) := by omega
      clear hlt
      go_wp2_with fail
      refine (HLV.out _ HB2.out).mono ?_
      rintro e w3 ⟨rfl, hb3⟩
      have HB3 := Lib.hid (HB2.out.trans (hb3.mono HB2.out.size))
      clear hb3
      go_wp2
      go_ret
      exact ⟨rfl, HB3.out⟩
    · have hli : ¬ (20 : Int) < (n1 : Int) := by omega
      have h20 : n1 ≤ 20 := by omega
      have HZ := Lib.hid (seatedM_nil l)
      clear hlt
      go_wp2
      go_loopw [6, 5] (fun nv lv wx => ∃ (j : Nat) (z s : Int), nv = .int .i64 z ∧ lv = .int .i64 s ∧ Hid (s = seatedM l (rs.take j)) ∧ Hid (z = (j : Int) + 1) ∧ j ≤ n1 ∧ Hid (Below w.heap.size w wx)) (fun nv _ _ => n1 + 1 - (intOf nv).toNat)
      case atStart => exact ⟨0, 1, 0, rfl, rfl, Lib.hid (by rw [List.take_zero]; exact HZ.out.symm), Lib.hid rfl, Nat.zero_le _, HB2⟩
      case round =>
        obtain ⟨j, z, s, rfl, rfl, hs, hz, hj, hB⟩ := hrel
        by_cases hjn : j < n1
        · obtain ⟨ad, e⟩ := HSM.out (by omega)
          subst e
          obtain ⟨zn, hzn⟩ : ∃ zn : Nat, j + 1 = zn := ⟨_, rfl⟩
          have hzz : z = (zn : Int) := by have := hz.out; omega
          have HZN := Lib.hid hzn
          have hz1 : zn ≤ n1 := by omega
          have hz0 : 1 ≤ zn := by omega
          subst hzz
          have HMS := Lib.hid (HMO.out wr hB.out zn hz1 HE.out h20)
          have hmore := most_more l (rs.take j) (rs[j]'(by rw [HL1.out]; exact hjn)) (by rw [List.length_take]; omega)
          have htk : rs.take zn = rs.take j ++ [rs[j]'(by rw [HL1.out]; exact hjn)] := by rw [← hzn]; exact List.take_succ_eq_append_getElem (by rw [HL1.out]; exact hjn)
          rw [← htk, ← hs.out] at hmore
          have hbd := seatedM_bound l (rs.take j) (by rw [List.length_take]; omega)
          rw [← hs.out, List.length_take] at hbd
          have hks := kept_seated l (rs.take zn)
          obtain ⟨S1, hS1⟩ : ∃ S1, seatedM l (rs.take zn) = S1 := ⟨_, rfl⟩
          obtain ⟨K1, hK1⟩ : ∃ K1, keptM l (rs.take zn) = K1 := ⟨_, rfl⟩
          rw [hS1, hK1] at HMS
          rw [hS1] at hmore hks
          rw [hK1] at hks
          have HS1 := Lib.hid hS1
          have hwr : IntKind.i64.wrap (s + 1) = s + 1 := IntWalk.i64_in _ (by omega)
          have d1 : decide (S1 < s) = false := decide_eq_false (by omega)
          have d2 : decide (s + 1 < S1) = false := decide_eq_false (by omega)
          have d3 : decide (S1 < K1) = false := decide_eq_false (by omega)
          have hzi : (zn : Int) ≤ (n1 : Int) := by omega
          have hzc : (zn : Int) ≤ (c1 : Int) := by omega
          have hzz0 : (0 : Int) ≤ (zn : Int) := by omega
          have hwz : IntKind.i64.wrap ((zn : Int) + 1) = (zn : Int) + 1 := IntWalk.i64_in _ (by omega)
          have HBW := Lib.hid hB.out
          clear hz hzn hmore htk hbd hks hS1 hK1 hs hB
          go_wp2_with fail
          refine HMS.out.mono ?_
          rintro e w4 ⟨rfl, hb4⟩
          have HB4 := Lib.hid (HBW.out.trans (hb4.mono HBW.out.size))
          clear hb4 HMS
          go_wp2
          go_roundw
          case rel => exact ⟨zn, _, S1, rfl, rfl, Lib.hid HS1.out.symm, Lib.hid rfl, hz1, HB4⟩
          case measure => (simp [intOf]; try omega)
        · have hjz : ¬ z ≤ (n1 : Int) := by have := hz.out; omega
          have HBW := Lib.hid hB.out
          clear hB hs hz
          go_wp2
          go_ret
          exact ⟨rfl, HBW.out⟩
  · have hne : ¬ E = 0 := hE0
    go_wp2_with fail
    refine (HLV.out _ HB2.out).mono ?_
    rintro e w3 ⟨rfl, hb3⟩
    have HB3 := Lib.hid (HB2.out.trans (hb3.mono HB2.out.size))
    clear hb3
    go_wp2
    go_ret
    exact ⟨rfl, HB3.out⟩
end Go.Proofs.YtppjpledjhinbaaDoor
