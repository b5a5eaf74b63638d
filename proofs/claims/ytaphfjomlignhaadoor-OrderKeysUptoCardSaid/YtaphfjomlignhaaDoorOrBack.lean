/- Keys: the reference's Same, and the law OrderBack, walked. -/
import Derived.Test.YtaphfjomlignhaaDoorOrSplit
import Derived.Test.YtaphfjomlignhaaDoorOrLives
namespace Go.Proofs.YtaphfjomlignhaaDoor
open Go.RowKit
set_option maxHeartbeats 400000 in
theorem same_yes (A A' : Option Addr) (n c c' B B' : Nat) (l : List Pt) (w : World) (hn : n ≤ maxLen) (h : Rd w B 3 A n (ptv l)) (h' : Rd w B' 3 A' n (ptv l)) :
    Calls Tryd.prog 16 #[.slice A n c, .slice A' n c'] w fun e w' => e = .returned (.bool true) ∧ Below w.heap.size w w' := by
  unfold maxLen at hn
  go_enter Tryd.func16, Tryd.ntmps16
  go_wp2
  go_loopw [5, 13] (fun u i wr => ∃ k : Nat, k ≤ n ∧ i = .int .i64 k ∧ Hid (∃ m, wr = w.drewN m)) (fun _ i _ => n - (intOf i).toNat)
  case atStart => exact ⟨0, Nat.zero_le _, rfl, 0, rfl⟩
  case round =>
    obtain ⟨k, hk, rfl, m, rfl⟩ := hrel
    by_cases hlt : k < n
    · obtain ⟨b, off, rfl, hb, hs, c0, c1, c2⟩ := h.pt hlt
      obtain ⟨b', off', rfl, hb', hs', d0, d1, d2⟩ := h'.pt hlt
      obtain ⟨y, hy⟩ : ∃ y, l[k] = y := ⟨_, rfl⟩
      rw [hy] at c0 c1 c2 d0 d1 d2
      obtain ⟨K, N, T⟩ := y
      simp only at c0 c1 c2 d0 d1 d2
      clear hy
      go_wp2
      go_quiet (fail)
      go_wp2
      go_roundw
      case rel => exact ⟨k + 1, by omega, by go_num, m + nq, rfl⟩
      case measure => simp [intOf]; omega
    · go_wp2
      go_ret
      exact ⟨rfl, rfl, rfl, rfl, Nat.le_refl _, fun _ _ => rfl⟩
theorem back_str (s : ByteArray) : (⟨s.data.toList.toArray⟩ : ByteArray) = s := by cases s; simp
theorem splitAns_key {l : List Pt} (h : allR l) (f : allF l) {ps : List Pt} {e : Nat} (ha : SplitAns (bytesK l) ps e) : e = 0 ∧ ps = l := by
  rcases ha with ⟨h1, h2, h3, h4, _, _⟩ | ⟨_, _, h3⟩
  · exact ⟨h1, bytesK_inj h h2 f h3 h4⟩
  · exact absurd rfl (h3 l h f)
theorem splitAns_key2 {s : List UInt8} {ps : List Pt} {e : Nat} (ha : SplitAns s ps e) : (e = 0 ∧ keyR ps = (s, 0)) ∨ (e = 3 ∧ ps = []) := by
  rcases ha with ⟨h1, h2, h3, h4, _, _⟩ | ⟨h1, h2, _⟩
  · exact .inl ⟨h1, by rw [keyR_ok h2, ← h4]⟩
  · exact .inr ⟨h1, h2⟩
set_option maxHeartbeats 1000000 in
set_option maxRecDepth 20000 in
theorem back_any (w : World) (A : Option Addr) (n c : Nat) (l : List Pt) (s : ByteArray) (m : Int) (hm : MaxAt w m) (hr : Rd w w.heap.size 3 A n (ptv l)) (hn : n ≤ 1048576)
    (hok : ∀ x ∈ l, (-9223372036854775808 ≤ x.num ∧ x.num ≤ 9223372036854775807) ∧ x.text.size ≤ 1048576) (hl : (bytesK l).length ≤ 67108864) (hs : s.size ≤ 1048576) :
    Calls Tryd.prog 6 #[.slice A n c, .string s] w fun e w' => e = .returned (.bool true) ∧ Below w.heap.size w w' := by
  have HSL := Lib.hid (show s.data.toList.length = s.size by simp)
  have HNL := Lib.hid (rd_ptlen hr)
  go_enter Tryd.func6, Tryd.ntmps6
  go_wp2_with fail
  refine (olives_any _ m hm).mono ?_
  rintro e w1 ⟨rfl, hb1⟩
  have HB1 := Lib.hid hb1
  have HM1 := Lib.hid (hm.below hb1)
  have hs1 := hb1.size
  have HR := Lib.hid hr
  have HR1 := Lib.hid ((hr.below hb1).mono hs1)
  have hF : allF l := fun x hx => (hok x hx).1
  have hK := key_any w1 A n c l m HM1.out.1 HM1.out.2 HR1.out hn hok (by omega)
  clear hb1 hm hr hok
  by_cases hR : allR l
  · rw [keyR_ok hR] at hK
    obtain ⟨X, hX⟩ : ∃ X : ByteArray, (⟨(bytesK l).toArray⟩ : ByteArray) = X := ⟨_, rfl⟩
    have hXd : X.data.toList = bytesK l := by rw [← hX]
    have hXs : X.size ≤ 67108864 := by
      have h1 : X.data.toList.length = X.size := by simp
      rw [hXd] at h1; omega
    have hK' : Calls Tryd.prog 14 #[.slice A n c] w1 fun e w' => e = .returned (.tuple #[.string X, .int .i64 0]) ∧ Below w1.heap.size w1 w' := by rw [← hX]; exact hK
    have HK := Lib.hid hK'
    have HXD := Lib.hid hXd
    have HRR := Lib.hid hR
    have HFF := Lib.hid hF
    clear hK hK' hX hXd hR hF
    go_wp2_with fail
    refine HK.out.mono ?_
    rintro e w2 ⟨rfl, hb2⟩
    have HB2 := Lib.hid (HB1.out.trans (hb2.mono hs1))
    have HM2 := Lib.hid (HM1.out.below hb2)
    have hs2 := hb2.size
    clear hb2
    go_wp2_with fail
    refine (split_any w2 X hXs).mono ?_
    rintro e w3 ⟨v, ps, e', rfl, ha, ho, hb3⟩
    rw [HXD.out] at ha
    obtain ⟨rfl, rfl⟩ := splitAns_key HRR.out HFF.out ha
    obtain ⟨Ay, cy, hvy⟩ := own_shape ho
    rw [← HNL.out] at hvy
    subst hvy
    have HB3 := Lib.hid (HB2.out.trans (hb3.mono (by omega)))
    have HM3 := Lib.hid (HM2.out.below hb3)
    have hs3 := hb3.size
    have HRy := Lib.hid (Rd.own (by have h := ho; rw [← HNL.out] at h; exact h))
    have HRp := Lib.hid (HR.out.below HB3.out)
    have hsame := same_yes Ay A n cy c w3.heap.size w.heap.size ps w3 (by unfold maxLen; omega) HRy.out HRp.out
    have HSAME := Lib.hid hsame
    clear hsame ha ho hb3
    go_wp2_with fail
    refine HSAME.out.mono ?_
    rintro e w4 ⟨rfl, hb4⟩
    have HB := Lib.hid (HB3.out.trans (hb4.mono (by omega)))
    have HM := Lib.hid (HM3.out.below hb4)
    clear hb4 HSAME HM1 HM2 HM3 HB1 HB2 HB3
    go_wp2_with fail
    refine (split_any w4 s (by omega)).mono ?_
    rintro e w4a ⟨v2, ps2, e2, rfl, ha2, ho2, hb2⟩
    obtain ⟨Ax, cx, hv2⟩ := own_shape ho2
    subst hv2
    have hsa := hb2.size
    have HB2 := Lib.hid (HB.out.trans (hb2.mono HB.out.size))
    have HM2 := Lib.hid (HM.out.below hb2)
    have hcs := splitAns_key2 ha2
    rcases hcs with ⟨rfl, hk2⟩ | ⟨rfl, rfl⟩
    · have hpl : ps2.length ≤ s.size ∧ (∀ x ∈ ps2, x.fits ∧ x.text.size ≤ s.size) ∧ (bytesK ps2).length = s.size := by
        rcases ha2 with ⟨_, h2, h3, h4, h5, h6⟩ | ⟨h, _, _⟩
        · rw [HSL.out] at h5 h6
          exact ⟨h6, fun x hx => ⟨h3 x hx, h5 x hx⟩, by rw [← h4, HSL.out]⟩
        · exact absurd h (by decide)
      obtain ⟨hp1, hp2, hp3⟩ := hpl
      have hkey := key_any w4a Ax ps2.length cx ps2 m HM2.out.1 HM2.out.2 (Rd.own ho2) (by omega) (fun x hx => ⟨(hp2 x hx).1, by have := (hp2 x hx).2; omega⟩) (by omega)
      rw [hk2, back_str] at hkey
      have HKEY := Lib.hid hkey
      clear hkey hp2 hk2 ha2 ho2 hb2
      go_wp2_with fail
      refine HKEY.out.mono ?_
      rintro e w4b ⟨rfl, hb3⟩
      have HB3 := Lib.hid (HB2.out.trans (hb3.mono HB2.out.size))
      clear hb3 HKEY
      go_wp2
      go_ret
      exact ⟨rfl, HB3.out⟩
    · clear ha2 ho2 hb2
      go_wp2
      go_ret
      exact ⟨rfl, HB2.out⟩
  · rw [show keyR l = ([], 3) from if_neg hR] at hK
    have HK := Lib.hid hK
    clear hK hR
    go_wp2_with fail
    refine HK.out.mono ?_
    rintro e w2 ⟨rfl, hb2⟩
    have HB := Lib.hid (HB1.out.trans (hb2.mono hs1))
    have HM := Lib.hid (HM1.out.below hb2)
    clear hb2 HB1 HM1
    go_wp2_with fail
    refine (split_any w2 s (by omega)).mono ?_
    rintro e w2a ⟨v2, ps2, e2, rfl, ha2, ho2, hb2⟩
    obtain ⟨Ax, cx, hv2⟩ := own_shape ho2
    subst hv2
    have hsa := hb2.size
    have HB2 := Lib.hid (HB.out.trans (hb2.mono HB.out.size))
    have HM2 := Lib.hid (HM.out.below hb2)
    have hcs := splitAns_key2 ha2
    rcases hcs with ⟨rfl, hk2⟩ | ⟨rfl, rfl⟩
    · have hpl : ps2.length ≤ s.size ∧ (∀ x ∈ ps2, x.fits ∧ x.text.size ≤ s.size) ∧ (bytesK ps2).length = s.size := by
        rcases ha2 with ⟨_, h2, h3, h4, h5, h6⟩ | ⟨h, _, _⟩
        · rw [HSL.out] at h5 h6
          exact ⟨h6, fun x hx => ⟨h3 x hx, h5 x hx⟩, by rw [← h4, HSL.out]⟩
        · exact absurd h (by decide)
      obtain ⟨hp1, hp2, hp3⟩ := hpl
      have hkey := key_any w2a Ax ps2.length cx ps2 m HM2.out.1 HM2.out.2 (Rd.own ho2) (by omega) (fun x hx => ⟨(hp2 x hx).1, by have := (hp2 x hx).2; omega⟩) (by omega)
      rw [hk2, back_str] at hkey
      have HKEY := Lib.hid hkey
      clear hkey hp2 hk2 ha2 ho2 hb2
      go_wp2_with fail
      refine HKEY.out.mono ?_
      rintro e w2b ⟨rfl, hb3⟩
      have HB3 := Lib.hid (HB2.out.trans (hb3.mono HB2.out.size))
      clear hb3 HKEY
      go_wp2
      go_ret
      exact ⟨rfl, HB3.out⟩
    · clear ha2 ho2 hb2
      go_wp2
      go_ret
      exact ⟨rfl, HB2.out⟩
end Go.Proofs.YtaphfjomlignhaaDoor
