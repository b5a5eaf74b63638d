/- Keys: the law OrderRises, walked (the walk). -/
import Derived.Test.YtaphfjomlignhaaDoorOrRises
namespace Go.Proofs.YtaphfjomlignhaaDoor
open Go.RowKit
theorem key_as (l : List Pt) (hok : okL l) (hl : (bytesK l).length ≤ 67108864) : ∃ (X : ByteArray) (e : Int), ((e = 0 ∧ allR l ∧ X.data.toList = bytesK l) ∨ (e = 3 ∧ ¬ allR l)) ∧
    ∀ (W : World) (A : Option Addr) (n c : Nat) (m : Int), MaxAt W m → Rd W W.heap.size 3 A n (ptv l) → n ≤ 1048576 →
      Calls Tryd.prog 14 #[.slice A n c] W fun e' w' => e' = .returned (.tuple #[.string X, .int .i64 e]) ∧ Below W.heap.size W w' := by
  by_cases hR : allR l
  · obtain ⟨X, hX⟩ := has_key l
    exact ⟨X, 0, .inl ⟨rfl, hR, hX⟩, fun W A n c m hm hr hn => key_yes W A n c l m hm hr hn hok hl hR hX⟩
  · exact ⟨⟨#[]⟩, 3, .inr ⟨rfl, hR⟩, fun W A n c m hm hr hn => key_no W A n c l m hm hr hn hok hl hR⟩
theorem take_ok {l : List Pt} (h : okL l) (k : Nat) : okL (l.take k) := fun x hx => h x (List.mem_of_mem_take hx)
theorem take_pre (l : List Pt) (k : Nat) : bytesK (l.take k) <+: bytesK l := by
  have h : bytesK (l.take k) ++ bytesK (l.drop k) = bytesK l := by rw [← bytesK_append, List.take_append_drop]
  exact ⟨_, h⟩
set_option maxHeartbeats 2000000 in
set_option maxRecDepth 20000 in
theorem rises_any (w : World) (A A' : Option Addr) (n c n' c' : Nat) (l l' : List Pt) (m : Int) (hm : MaxAt w m) (hr : Rd w w.heap.size 3 A n (ptv l)) (hr' : Rd w w.heap.size 3 A' n' (ptv l')) (hn : n ≤ 1048576) (hn' : n' ≤ 1048576) (hc : n ≤ c)
    (hok : okL l) (hok' : okL l') (hl : (bytesK l).length ≤ 67108864) (hl' : (bytesK l').length ≤ 67108864) :
    Calls Tryd.prog 7 #[.slice A n c, .slice A' n' c'] w fun e w' => e = .returned (.bool true) ∧ Below w.heap.size w w' := by
  have HF : Hid (allF l ∧ allF l') := Lib.hid ⟨fun x hx => (hok x hx).1, fun x hx => (hok' x hx).1⟩
  obtain ⟨X, e, hXe, hK⟩ := key_as l hok hl
  obtain ⟨Y, f, hYf, hK'⟩ := key_as l' hok' hl'
  have HK := Lib.hid hK
  have HK' := Lib.hid hK'
  have HXE := Lib.hid hXe
  have HYF := Lib.hid hYf
  have HR := Lib.hid hr
  have HR' := Lib.hid hr'
  have HO := Lib.hid hok
  have hcr := cmpL_range l l'
  have hsw := cmpL_swap l l'
  have HCR := Lib.hid (show cmpL l l' = -1 ∨ cmpL l l' = 0 ∨ cmpL l l' = 1 from hcr)
  clear hK hK' hXe hYf hr hr' hok hok'
  go_enter Tryd.func7, Tryd.ntmps7
  obtain ⟨r, hrr⟩ : ∃ r, cmpL l l' = r := ⟨_, rfl⟩
  rw [hrr] at hsw hcr
  have HRR := Lib.hid hrr
  have HSW := Lib.hid hsw
  have hr1 : -1 ≤ r := by omega
  have hr2 : r ≤ 1 := by omega
  clear hrr hsw hcr
  go_wp2_with fail
  refine (olives_any _ m hm).mono ?_
  rintro e0 w1 ⟨rfl, hb1⟩
  have HB1 := Lib.hid hb1
  have HM1 := Lib.hid (hm.below hb1)
  have HM0 := Lib.hid hm
  clear hb1 hm
  go_wp2_with fail
  refine (HK.out w1 A n c m HM1.out ((HR.out.below HB1.out).mono HB1.out.size) hn).mono ?_
  rintro e1 w2 ⟨rfl, hb2⟩
  have HB2 := Lib.hid (HB1.out.trans (hb2.mono HB1.out.size))
  have HM2 := Lib.hid (HM1.out.below hb2)
  clear hb2 HB1 HM1
  go_wp2_with fail
  refine (HK'.out w2 A' n' c' m HM2.out ((HR'.out.below HB2.out).mono HB2.out.size) hn').mono ?_
  rintro e2 w3 ⟨rfl, hb3⟩
  have HB3 := Lib.hid (HB2.out.trans (hb3.mono HB2.out.size))
  have HM3 := Lib.hid (HM2.out.below hb3)
  clear hb3 HB2 HM2
  have hS3 := HB3.out.size
  go_wp2_with fail
  refine (compare_any w3 A A' n c n' c' l l' ((HR.out.below HB3.out).mono hS3) ((HR'.out.below HB3.out).mono hS3) hn hn').mono ?_
  rintro e3 w4 ⟨rfl, hb4⟩
  rw [HRR.out]
  have HB4 := Lib.hid (HB3.out.trans (hb4.mono hS3))
  have HM4 := Lib.hid (HM3.out.below hb4)
  clear hb4 HB3 HM3 hS3
  have hS4 := HB4.out.size
  go_wp2_with fail
  refine (rcompare_any w4 A A' n c n' c' w.heap.size l l' (HR.out.below HB4.out) (HR'.out.below HB4.out) hn hn').mono ?_
  rintro e4 w5 ⟨rfl, hb5⟩
  rw [HRR.out]
  have HB5 := Lib.hid (HB4.out.trans (hb5.mono hS4))
  have HM5 := Lib.hid (HM4.out.below hb5)
  clear hb5 HB4 HM4 hS4
  have hS5 := HB5.out.size
  go_wp2_with fail
  refine (compare_any w5 A' A n' c' n c l' l ((HR'.out.below HB5.out).mono hS5) ((HR.out.below HB5.out).mono hS5) hn' hn).mono ?_
  rintro e5 w6 ⟨rfl, hb6⟩
  rw [HSW.out]
  have HB6 := Lib.hid (HB5.out.trans (hb6.mono hS5))
  have HM6 := Lib.hid (HM5.out.below hb6)
  clear hb6 HB5 HM5 hS5
  rcases HXE.out with ⟨rfl, hRX, hX⟩ | ⟨rfl, _⟩
  · rcases HYF.out with ⟨rfl, hRY, hY⟩ | ⟨rfl, _⟩
    · have HC := Lib.hid (rises_cases hRX hRY HF.out.1 HF.out.2 hX hY)
      have HX := Lib.hid hX
      have HRX := Lib.hid hRX
      have HMA : Hid (∀ {W : World}, Below w.heap.size w W → MaxAt W m) := Lib.hid fun hb => HM0.out.below hb
      clear hX hRX hY hRY HXE HYF HK HK'
      rcases HC.out with ⟨h1, h2, h3⟩ | ⟨h1, h2, h3⟩ | ⟨h1, h2, h3⟩
      · rw [HRR.out] at h1
        subst h1
        clear HC
        go_wp2
        go_loopw [10] (fun i wx => ∃ k : Nat, k ≤ n + 1 ∧ i = .int .i64 k ∧ Hid (Below w.heap.size w wx)) (fun i _ => n + 1 - (intOf i).toNat)
        case atStart => exact ⟨0, Nat.zero_le _, rfl, HB6⟩
        case round =>
          obtain ⟨k, hk, rfl, hW⟩ := hrel
          by_cases hlt : k ≤ n
          · obtain ⟨Z, hZ⟩ := has_key (l.take k)
            have hpre : Z.data.toList <+: X.data.toList := by rw [hZ, HX.out]; exact take_pre l k
            obtain ⟨hz1, hz2⟩ := prefix_extract hpre
            have hkc : k ≤ c := by omega
            have hS := hW.out.size
            have hzl : (bytesK (l.take k)).length ≤ 67108864 := Nat.le_trans (take_pre l k).length_le hl
            have HKZ := Lib.hid (key_yes wr A k c (l.take k) m (HMA.out hW.out) (rd_take ((HR.out.below hW.out).mono hS) hlt) (by omega) (take_ok HO.out k) hzl (fun x hx => HRX.out x (List.mem_of_mem_take hx)) hZ)
            clear hpre hZ hzl
            go_wp2_with fail
            refine HKZ.out.mono ?_
            rintro e7 w7 ⟨rfl, hb7⟩
            have HB7 := Lib.hid (hW.out.trans (hb7.mono hS))
            clear hb7 HKZ
            go_wp2
            go_roundw
            case rel => exact ⟨k + 1, by omega, by go_num, HB7⟩
            case measure => simp [intOf]; omega
          · obtain rfl : k = n + 1 := by omega
            go_wp2
            go_ret
            exact ⟨rfl, hW.out⟩
      · rw [HRR.out] at h1
        subst h1
        subst h2
        clear HC
        go_wp2
        go_loopw [10] (fun i wx => ∃ k : Nat, k ≤ n + 1 ∧ i = .int .i64 k ∧ Hid (Below w.heap.size w wx)) (fun i _ => n + 1 - (intOf i).toNat)
        case atStart => exact ⟨0, Nat.zero_le _, rfl, HB6⟩
        case round =>
          obtain ⟨k, hk, rfl, hW⟩ := hrel
          by_cases hlt : k ≤ n
          · obtain ⟨Z, hZ⟩ := has_key (l.take k)
            have hpre : Z.data.toList <+: X.data.toList := by rw [hZ, HX.out]; exact take_pre l k
            obtain ⟨hz1, hz2⟩ := prefix_extract hpre
            have hkc : k ≤ c := by omega
            have hS := hW.out.size
            have hzl : (bytesK (l.take k)).length ≤ 67108864 := Nat.le_trans (take_pre l k).length_le hl
            have HKZ := Lib.hid (key_yes wr A k c (l.take k) m (HMA.out hW.out) (rd_take ((HR.out.below hW.out).mono hS) hlt) (by omega) (take_ok HO.out k) hzl (fun x hx => HRX.out x (List.mem_of_mem_take hx)) hZ)
            clear hpre hZ hzl
            go_wp2_with fail
            refine HKZ.out.mono ?_
            rintro e7 w7 ⟨rfl, hb7⟩
            have HB7 := Lib.hid (hW.out.trans (hb7.mono hS))
            clear hb7 HKZ
            go_wp2
            go_roundw
            case rel => exact ⟨k + 1, by omega, by go_num, HB7⟩
            case measure => simp [intOf]; omega
          · obtain rfl : k = n + 1 := by omega
            go_wp2
            go_ret
            exact ⟨rfl, hW.out⟩
      · rw [HRR.out] at h1
        subst h1
        clear HC
        go_wp2
        go_loopw [10] (fun i wx => ∃ k : Nat, k ≤ n + 1 ∧ i = .int .i64 k ∧ Hid (Below w.heap.size w wx)) (fun i _ => n + 1 - (intOf i).toNat)
        case atStart => exact ⟨0, Nat.zero_le _, rfl, HB6⟩
        case round =>
          obtain ⟨k, hk, rfl, hW⟩ := hrel
          by_cases hlt : k ≤ n
          · obtain ⟨Z, hZ⟩ := has_key (l.take k)
            have hpre : Z.data.toList <+: X.data.toList := by rw [hZ, HX.out]; exact take_pre l k
            obtain ⟨hz1, hz2⟩ := prefix_extract hpre
            have hkc : k ≤ c := by omega
            have hS := hW.out.size
            have hzl : (bytesK (l.take k)).length ≤ 67108864 := Nat.le_trans (take_pre l k).length_le hl
            have HKZ := Lib.hid (key_yes wr A k c (l.take k) m (HMA.out hW.out) (rd_take ((HR.out.below hW.out).mono hS) hlt) (by omega) (take_ok HO.out k) hzl (fun x hx => HRX.out x (List.mem_of_mem_take hx)) hZ)
            clear hpre hZ hzl
            go_wp2_with fail
            refine HKZ.out.mono ?_
            rintro e7 w7 ⟨rfl, hb7⟩
            have HB7 := Lib.hid (hW.out.trans (hb7.mono hS))
            clear hb7 HKZ
            go_wp2
            go_roundw
            case rel => exact ⟨k + 1, by omega, by go_num, HB7⟩
            case measure => simp [intOf]; omega
          · obtain rfl : k = n + 1 := by omega
            go_wp2
            go_ret
            exact ⟨rfl, hW.out⟩
    · go_wp2
      go_ret
      exact ⟨rfl, HB6.out⟩
  · go_wp2
    go_ret
    exact ⟨rfl, HB6.out⟩
end Go.Proofs.YtaphfjomlignhaaDoor
