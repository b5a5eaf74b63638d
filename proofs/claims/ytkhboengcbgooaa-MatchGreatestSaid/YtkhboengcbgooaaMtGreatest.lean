/- Matchings: MatchGreatest, walked. -/
import Derived.Test.YtkhboengcbgooaaMtShort
namespace Go.Proofs.Ytkhboengcbgooaa
open Go.RowKit
set_option maxHeartbeats 8000000 in
set_option maxRecDepth 20000 in
theorem mgreat_any (w : World) (N M : Int) (A : Option Addr) (k c : Nat) (l : List Eg) (hr : Rd w w.heap.size 2 A k (edgv l)) :
    Calls Try.prog 7 #[.agg #[.int .i64 N, .int .i64 M, .slice A k c]] w fun e w' => e = .returned (.bool true) ∧ Below w.heap.size w w' := by
  have hmm := @run_makeMap Try.prog
  have HKL := Lib.hid (rd_edglen hr)
  have HR := Lib.hid hr
  clear hr
  have hG := GBox.made w N M A k c
  have HG := Lib.hid hG
  clear hG
  go_enter Try.func7, Try.ntmps7
  go_wp2_with fail
  refine (mlives_any _).mono ?_
  rintro e w2 ⟨rfl, hb2⟩
  have HG2 := Lib.hid (HG.out.below hb2)
  have c0 := HG2.out.c0
  have c1 := HG2.out.c1
  have c2 := HG2.out.c2
  clear hb2 HG
  go_wp2_with fail
  refine (max_any w2 N M A k c l (HG2.out.rd HR.out)).mono ?_
  rintro e w3 ⟨(⟨hgood, n0, m0, O, s, rfl, rfl, hS, hO, hI, rfl⟩ | ⟨hbad, rfl⟩), hb3⟩
  · have HG3 := Lib.hid (HG2.out.below hb3)
    have HGD := Lib.hid hgood
    have HS := Lib.hid hS
    have hol := hI.lt
    have HI := Lib.hid hI
    have hn : n0 ≤ 200 := by have := hgood.1; omega
    have hm : m0 ≤ 200 := by have := hgood.2.1; omega
    have hk : k ≤ 4000 := by have := hgood.2.2.1; have := HKL.out; omega
    have HALL : Hid (∀ e ∈ l, inE n0 m0 e) := Lib.hid ((good_iff hn hm hgood.2.2.1).1 hgood)
    have c0 := HG3.out.c0
    have c1 := HG3.out.c1
    have c2 := HG3.out.c2
    clear hgood hS hI hb3 HG2 hO
    go_wp2_with fail
    refine (size_any w3 n0 m0 A k c l (HG3.out.rd HR.out)).mono ?_
    rintro e w4 ⟨(⟨_, nu, hnu, hnl, rfl⟩ | ⟨h, _⟩), hb4⟩
    rotate_left
    · exact absurd HGD.out h
    have HNU := Lib.hid hnu
    have HG4 := Lib.hid (HG3.out.below hb4)
    have HI4 := Lib.hid (HI.out.below hb4 hol)
    have hol4 : O < w4.heap.size := Nat.lt_of_lt_of_le hol hb4.size
    have c0 := HG4.out.c0
    have c1 := HG4.out.c1
    have c2 := HG4.out.c2
    clear hnu hb4 HG3 HI hol
    go_wp2_with fail
    refine (cover_any w4 n0 m0 A k c l (HG4.out.rd HR.out)).mono ?_
    rintro e w5 ⟨(⟨_, n1, m1, s2, xa, bs, v, u, hn1, hm1, hS2, hro, rfl, hqa, hqb⟩ | ⟨h, _⟩), hb5⟩
    rotate_left
    · exact absurd HGD.out h
    obtain rfl : n1 = n0 := by omega
    obtain rfl : m1 = m0 := by omega
    have HG5 := Lib.hid (HG4.out.below hb5)
    have HI5 := Lib.hid (HI4.out.below hb5 hol4)
    have hol5 : O < w5.heap.size := Nat.lt_of_lt_of_le hol4 hb5.size
    have hcnt := (reach_count hS2 (natE_ok HALL.out) hro).2
    obtain rfl : nu = matched n1 (gi s2.of) := HNU.out.uniq (hS2.nu (natE_ok HALL.out))
    have mx := mem_placesN hro.ba rfl
    have mb := mem_placesN hro.bb rfl
    have HCOV : Hid (∀ e ∈ l, e.1.toNat ∈ placesN xa 0 ∨ e.2.toNat ∈ placesN bs 1) := Lib.hid fun e he => by
      obtain ⟨i1, i2, i3, i4⟩ := HALL.out e he
      rcases hro.ba.2 e.1.toNat (by omega) with h | h
      · refine .inl ?_
        unfold placesN
        rw [List.mem_filter, hro.ba.1]
        simp only [List.mem_range, decide_eq_true_eq]
        exact ⟨by omega, h⟩
      · exact .inr ((mb _).2 (hro.fwd (e.1.toNat, e.2.toNat) (List.mem_map.2 ⟨e, he, rfl⟩) h))
    have ra := placesN_rise xa 0
    have rb := placesN_rise bs 1
    have la := placesN_lt (v := 0) hro.ba.1
    have lb := placesN_lt (v := 1) hro.bb.1
    have za := placesN_len xa 0
    have zb := placesN_len bs 1
    rw [hro.ba.1] at za
    rw [hro.bb.1] at zb
    generalize placesN xa 0 = T at hqa hcnt HCOV ra la za
    generalize placesN bs 1 = R at hqb hcnt HCOV rb lb zb mb
    generalize matched n1 (gi s2.of) = nu at hcnt HNU hnl
    obtain ⟨A4, c4, rfl⟩ := hqa.shape
    obtain ⟨A6, c6, rfl⟩ := hqb.shape
    obtain ⟨p, hp⟩ : ∃ p, T.length = p := ⟨_, rfl⟩
    obtain ⟨q, hq⟩ : ∃ q, R.length = q := ⟨_, rfl⟩
    have hra := hqa.rd.2
    have hrb := hqb.rd.2
    rw [hp] at hra hcnt za hqa
    rw [hq] at hrb hcnt zb hqb
    rw [hp, hq]
    have HRA := Lib.hid hra
    have HRB := Lib.hid hrb
    have HP := Lib.hid hp
    have HQ := Lib.hid hq
    have HRIA := Lib.hid ra
    have HRIB := Lib.hid rb
    have HLA := Lib.hid la
    have HLB := Lib.hid lb
    have c0 := HG5.out.c0
    have c1 := HG5.out.c1
    have c2 := HG5.out.c2
    clear hb5 HG4 HI4 hol4 hS2 hro hqa hqb mx mb ra rb la lb hra hrb hp hq
    go_wp2_with fail
    refine (short_any w5 n1 m1 A k c l (HG5.out.rd HR.out)).mono ?_
    rintro e w6 ⟨(⟨_, n3, m3, s3, xa3, bs3, v3, hn3, hm3, hS3, hro3, rfl, hq3⟩ | ⟨h, _⟩), hb6⟩
    rotate_left
    · exact absurd HGD.out h
    obtain ⟨A8, c8, rfl⟩ := hq3.shape
    have HG6 := Lib.hid (HG5.out.below hb6)
    have HI6 := Lib.hid (HI5.out.below hb6 hol5)
    have hol6 : O < w6.heap.size := Nat.lt_of_lt_of_le hol5 hb6.size
    have HRA6 := Lib.hid ((HRA.out.below hb6).mono hb6.size)
    have HRB6 := Lib.hid ((HRB.out.below hb6).mono hb6.size)
    have c0 := HG6.out.c0
    have c1 := HG6.out.c1
    have c2 := HG6.out.c2
    generalize (placesN xa3 1).length = z3
    clear hn3 hm3 hS3 hro3 hq3 hb6 HG5 HI5 hol5 HRA HRB
    go_wp2_with fail
    refine (rright_any w6 n1 m1 A k c l (HG6.out.rd HR.out)).mono ?_
    rintro e w7 ⟨r, rfl, hri, hb7⟩
    obtain rfl : r = true := hri.2 HGD.out
    have HG7 := Lib.hid (HG6.out.below hb7)
    have HI7 := Lib.hid (HI6.out.below hb7 hol6)
    have HRA7 := Lib.hid ((HRA6.out.below hb7).mono hb7.size)
    have HRB7 := Lib.hid ((HRB6.out.below hb7).mono hb7.size)
    have c0 := HG7.out.c0
    have c1 := HG7.out.c1
    have c2 := HG7.out.c2
    clear hri hb7 HG6 HI6 hol6 HRA6 HRB6
    have HMG := Lib.hid (matching_any w7 n1 m1 A k c O l s (HG7.out.rd HR.out) HGD.out HS.out HI7.out)
    go_wp2_with fail
    refine HMG.out.mono ?_
    rintro e w8 ⟨rfl, hb8⟩
    obtain ⟨mu, hmu⟩ : ∃ mu, matched n1 (gi s.of) = mu := ⟨_, rfl⟩
    rw [hmu]
    obtain rfl : mu = nu := by
      rw [← hmu]
      exact (HS.out.nu (natE_ok HALL.out)).uniq HNU.out
    have HG8 := Lib.hid (HG7.out.below hb8)
    have HRA8 := Lib.hid ((HRA7.out.below hb8).mono hb8.size)
    have HRB8 := Lib.hid ((HRB7.out.below hb8).mono hb8.size)
    have c0 := HG8.out.c0
    have c1 := HG8.out.c1
    have c2 := HG8.out.c2
    clear hmu hb8 HG7 HI7 HRA7 HRB7 HMG
    have HRY := Lib.hid (rising_yes w8 A4 c4 p n1 T HRA8.out (by omega) HLA.out HRIA.out)
    have HRZ := Lib.hid (rising_yes w8 A6 c6 q m1 R HRB8.out (by omega) HLB.out HRIB.out)
    have x1 : IntKind.i64.wrap ((p : Int) + (q : Int)) = (mu : Int) := by rw [IntWalk.i64_in _ (by omega)]; omega
    go_wp2_with fail
    refine HRY.out.mono ?_
    rintro e w9 ⟨rfl, rfl⟩
    go_wp2_with fail
    refine HRZ.out.mono ?_
    rintro e w10 ⟨rfl, rfl⟩
    clear HRY HRZ
    have m1' := IMap.made w10
    have ua : Upd (fun _ => False) w10 (w10.alloc (.map #[] 0)) := (Upd.refl _ _).alloc _
    have za' : (w10.alloc (.map #[] 0)).heap.size = w10.heap.size + 1 := by simp
    have m2' := IMap.made (w10.alloc (.map #[] 0))
    have ub : Upd (fun _ => False) (w10.alloc (.map #[] 0)) ((w10.alloc (.map #[] 0)).alloc (.map #[] 0)) := (Upd.refl _ _).alloc _
    rw [za'] at m2'
    have HM1 := Lib.hid (m1'.upd ub (fun h => h))
    have HM2 := Lib.hid m2'
    have HG6 := Lib.hid ((HG8.out.alloc (.map #[] 0)).alloc (.map #[] 0))
    have HRD6 := Lib.hid (HRA8.out.upd (ua.trans ub (fun _ _ h => h)) (Nat.le_refl _) (fun _ _ _ h => h))
    have HRE6 := Lib.hid (HRB8.out.upd (ua.trans ub (fun _ _ h => h)) (Nat.le_refl _) (fun _ _ _ h => h))
    have hU := HG8.out.lt
    clear m1' ua za' m2' ub HRA8 HRB8
    go_wp2
    generalize (w10.alloc (.map #[] 0)).alloc (.map #[] 0) = w7 at HM1 HM2 HG6 HRD6 HRE6 ⊢
    generalize w10.heap.size = U at HM1 HM2 HRD6 HRE6 hU ⊢
    clear c0 c1 c2 HG8 x1
    go_loopw [161] (fun i wx => ∃ (j : Nat) (f : Int → Int) (Ks : List Int), j ≤ p ∧ i = .int .i64 j ∧ Hid (IMap wx U j f Ks) ∧ Hid (InSet f (T.take j)) ∧ Hid (IMap wx (U + 1) 0 (fun _ => 0) []) ∧ Hid (GBox w wx n1 m1 A k c) ∧ Hid (Rd wx U 1 A4 p (natv T)) ∧ Hid (Rd wx U 1 A6 q (natv R))) (fun i _ => p - (intOf i).toNat)
    case atStart => exact ⟨0, _, _, Nat.zero_le _, rfl, HM1, Lib.hid InSet.nil, HM2, HG6, HRD6, HRE6⟩
    case round =>
      clear HM1 HM2 HG6 HRD6 HRE6
      obtain ⟨j, f, Ks, hj, rfl, hM1, hin, hM2, hG, hRD, hRE⟩ := hrel
      have l1 := hM1.out.lt
      have l2 := hM2.out.lt
      by_cases hlt : j < p
      · obtain ⟨b, off, rfl, hbU, hjT, d0⟩ := hRD.out.nat hlt
        have htk : T.take (j + 1) = T.take j ++ [T[j]] := List.take_succ_eq_append_getElem hjT
        have hxn := HLA.out _ (List.getElem_mem hjT)
        obtain ⟨x, hx⟩ : ∃ x, T[j] = x := ⟨_, rfl⟩
        rw [hx] at d0 htk hxn
        have HTK := Lib.hid htk
        have hmap := hM1.out
        clear htk hx hM1
        go_wp2_with (at_mapUpdate; refine wpList_putI rfl _ _ _ rfl rfl hmap (by unfold maxLen; omega) (q := (x : Int)) (u := 1) rfl rfl (by omega) (by omega) ?_)
        intro w8 hm8 hu8
        have HM8 := Lib.hid hm8
        have HN8 := Lib.hid (hM2.out.upd hu8 (fun e => by omega))
        have HG8 := Lib.hid (hG.out.upd hu8 (fun i hi e => by omega))
        have HRD8 := Lib.hid (hRD.out.upd hu8 (Nat.le_of_lt l1) (fun _ ad e h => by
          injection e with e
          subst e
          simp only at h
          omega))
        have HRE8 := Lib.hid (hRE.out.upd hu8 (Nat.le_of_lt l1) (fun h0 ad e h => by
          obtain ⟨ad', e', hb, _⟩ := hRE.out.at_ h0
          rw [e'] at e
          injection e with e
          subst e
          have h' : ad'.block = U := h
          omega))
        clear hm8 hu8 hmap hM2 hG hRD hRE d0
        go_wp2
        go_roundw
        case rel => exact ⟨j + 1, _, _, by omega, by go_num, HM8, Lib.hid (by rw [HTK.out]; exact hin.out.put x), HN8, HG8, HRD8, HRE8⟩
        case measure => simp [intOf]; omega
      · obtain rfl : j = p := by omega
        have HIN : Hid (InSet f T) := Lib.hid (by have := hin.out; rwa [List.take_of_length_le (by have := HP.out; omega)] at this)
        clear hin hRD
        go_wp2
        go_loopw [170] (fun i wx => ∃ (a : Nat) (g : Int → Int) (Gs : List Int), a ≤ q ∧ i = .int .i64 a ∧ Hid (IMap wx (U + 1) a g Gs) ∧ Hid (InSet g (R.take a)) ∧ Hid (IMap wx U j f Ks) ∧ Hid (GBox w wx n1 m1 A k c) ∧ Hid (Rd wx U 1 A6 q (natv R))) (fun i _ => q - (intOf i).toNat)
        case atStart => exact ⟨0, _, _, Nat.zero_le _, rfl, hM2, Lib.hid InSet.nil, hM1, hG, hRE⟩
        case round =>
          clear hM1 hM2 hG hRE l1 l2
          obtain ⟨a, g, Gs, ha, rfl, hM2, hin, hM1, hG, hRE⟩ := hrel
          have l1 := hM1.out.lt
          have l2 := hM2.out.lt
          by_cases hlt : a < q
          · obtain ⟨b, off, rfl, hbU, hjT, d0⟩ := hRE.out.nat hlt
            have htk : R.take (a + 1) = R.take a ++ [R[a]] := List.take_succ_eq_append_getElem hjT
            have hxn := HLB.out _ (List.getElem_mem hjT)
            obtain ⟨x, hx⟩ : ∃ x, R[a] = x := ⟨_, rfl⟩
            rw [hx] at d0 htk hxn
            have HTK := Lib.hid htk
            have hmap := hM2.out
            clear htk hx hM2
            go_wp2_with (at_mapUpdate; refine wpList_putI rfl _ _ _ rfl rfl hmap (by unfold maxLen; omega) (q := (x : Int)) (u := 1) rfl rfl (by omega) (by omega) ?_)
            intro w8 hm8 hu8
            have HM8 := Lib.hid hm8
            have HN8 := Lib.hid (hM1.out.upd hu8 (fun e => by omega))
            have HG8 := Lib.hid (hG.out.upd hu8 (fun i hi e => by omega))
            have HRE8 := Lib.hid (hRE.out.upd hu8 (Nat.le_of_lt l1) (fun _ ad e h => by
              injection e with e
              subst e
              simp only at h
              omega))
            clear hm8 hu8 hmap hM1 hG hRE d0
            go_wp2
            go_roundw
            case rel => exact ⟨a + 1, _, _, by omega, by go_num, HM8, Lib.hid (by rw [HTK.out]; exact hin.out.put x), HN8, HG8, HRE8⟩
            case measure => simp [intOf]; omega
          · obtain rfl : a = q := by omega
            have HIN2 : Hid (InSet g R) := Lib.hid (by have := hin.out; rwa [List.take_of_length_le (by have := HQ.out; omega)] at this)
            have c2 := hG.out.c2
            clear hin hRE
            go_wp2
            go_loopw [180] (fun i wx => ∃ b : Nat, b ≤ k ∧ i = .int .i64 b ∧ Hid (IMap wx U j f Ks) ∧ Hid (IMap wx (U + 1) a g Gs) ∧ Hid (GBox w wx n1 m1 A k c)) (fun i _ => k - (intOf i).toNat)
            case atStart => exact ⟨0, Nat.zero_le _, rfl, hM1, hM2, hG⟩
            case round =>
              clear hM1 hM2 hG c2 l1 l2
              obtain ⟨b, hb, rfl, hM1, hM2, hG⟩ := hrel
              by_cases hlt : b < k
              · obtain ⟨bb, off, rfl, hbB, hsl, e0, e1⟩ := ((HR.out.below hG.out.bel)).edge hlt
                have hie := HALL.out _ (List.getElem_mem hsl)
                have hcov := HCOV.out _ (List.getElem_mem hsl)
                obtain ⟨⟨ea, eb⟩, he⟩ : ∃ e, l[b] = e := ⟨_, rfl⟩
                rw [he] at e0 e1 hie hcov
                obtain ⟨i1, i2, i3, i4⟩ := hie
                simp only at e0 e1 i1 i2 i3 i4 hcov
                have ux : Upd (fun _ => False) wr (wr.alloc (.cells #[.int .i64 ea, .int .i64 eb] 26)) := (Upd.refl _ _).alloc _
                have HM1 := Lib.hid (hM1.out.upd ux (fun h => h))
                have HM2 := Lib.hid (hM2.out.upd ux (fun h => h))
                have HG1 := Lib.hid (hG.out.alloc (.cells #[.int .i64 ea, .int .i64 eb] 26))
                have lk := HM1.out.look (q := ea) (by omega)
                have lk2 := HM2.out.look (q := eb) (by omega)
                have hfx := HIN.out ea
                have hgx := HIN2.out eb
                obtain ⟨u1, hu1⟩ : ∃ u, f ea = u := ⟨_, rfl⟩
                obtain ⟨u2, hu2⟩ : ∃ u, g eb = u := ⟨_, rfl⟩
                rw [hu1] at lk hfx
                rw [hu2] at lk2 hgx
                have hsum : (u1 = 1 ∧ u2 = 0) ∨ (u1 = 0 ∧ u2 = 1) ∨ (u1 = 1 ∧ u2 = 1) := by
                  by_cases a1 : ea.toNat ∈ T
                  · rw [if_pos ⟨i1, a1⟩] at hfx
                    by_cases a2 : eb.toNat ∈ R
                    · rw [if_pos ⟨i3, a2⟩] at hgx; omega
                    · rw [if_neg (fun h => a2 h.2)] at hgx; omega
                  · have a2 := hcov.resolve_left a1
                    rw [if_neg (fun h => a1 h.2)] at hfx
                    rw [if_pos ⟨i3, a2⟩] at hgx
                    omega
                clear he ux hM1 hM2 hG hfx hgx hu1 hu2 hcov
                rcases hsum with ⟨rfl, rfl⟩ | ⟨rfl, rfl⟩ | ⟨rfl, rfl⟩
                all_goals
                  go_wp2
                  go_roundw
                  case rel => exact ⟨b + 1, by omega, by go_num, HM1, HM2, HG1⟩
                  case measure => simp [intOf]; omega
              · obtain rfl : b = k := by omega
                have HBB := Lib.hid hG.out.bel
                clear hM1 hM2 hG
                go_wp2
                go_ret
                exact ⟨rfl, HBB.out⟩
  · have HG3 := Lib.hid (HG2.out.below hb3)
    have HBD := Lib.hid hbad
    have c0 := HG3.out.c0
    have c1 := HG3.out.c1
    have c2 := HG3.out.c2
    clear hbad hb3 HG2
    go_wp2_with fail
    refine (size_any w3 N M A k c l (HG3.out.rd HR.out)).mono ?_
    rintro e w4 ⟨(⟨h, _⟩ | ⟨_, rfl⟩), hb4⟩
    · exact absurd h HBD.out
    have HG4 := Lib.hid (HG3.out.below hb4)
    have c0 := HG4.out.c0
    have c1 := HG4.out.c1
    have c2 := HG4.out.c2
    clear hb4 HG3
    go_wp2_with fail
    refine (cover_any w4 N M A k c l (HG4.out.rd HR.out)).mono ?_
    rintro e w5 ⟨(⟨h, _⟩ | ⟨_, rfl⟩), hb5⟩
    · exact absurd h HBD.out
    have HG5 := Lib.hid (HG4.out.below hb5)
    have c0 := HG5.out.c0
    have c1 := HG5.out.c1
    have c2 := HG5.out.c2
    clear hb5 HG4
    go_wp2_with fail
    refine (short_any w5 N M A k c l (HG5.out.rd HR.out)).mono ?_
    rintro e w6 ⟨(⟨h, _⟩ | ⟨_, rfl⟩), hb6⟩
    · exact absurd h HBD.out
    have HG6 := Lib.hid (HG5.out.below hb6)
    have c0 := HG6.out.c0
    have c1 := HG6.out.c1
    have c2 := HG6.out.c2
    clear hb6 HG5
    go_wp2_with fail
    refine (rright_any w6 N M A k c l (HG6.out.rd HR.out)).mono ?_
    rintro e w7 ⟨r, rfl, hri, hb7⟩
    have hr : r = false := by
      cases r with
      | false => rfl
      | true => exact absurd (hri.1 rfl) HBD.out
    subst hr
    have HG7 := Lib.hid (HG6.out.below hb7)
    clear hri hb7 HG6
    go_wp2
    go_ret
    exact ⟨rfl, HG7.out.bel⟩
end Go.Proofs.Ytkhboengcbgooaa
