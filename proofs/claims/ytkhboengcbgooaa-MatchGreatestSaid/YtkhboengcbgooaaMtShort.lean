/- Matchings: MatchShort, walked. -/
import Derived.Test.YtkhboengcbgooaaMtBox
namespace Go.Proofs.Ytkhboengcbgooaa
open Go.RowKit
/-- The neighbours that were seen. -/
def NearKs (Ks : List Int) (l : List Eg) (T : List Nat) : Prop := ∀ x : Int, x ∈ Ks ↔ ∃ e ∈ l, (0 ≤ e.1 ∧ e.1.toNat ∈ T) ∧ e.2 = x
theorem NearKs.nil (T : List Nat) : NearKs [] [] T := fun x => by simp
theorem NearKs.put {Ks : List Int} {l : List Eg} {T : List Nat} (h : NearKs Ks l T) (e : Eg) (he : 0 ≤ e.1 ∧ e.1.toNat ∈ T) : NearKs (addK Ks e.2) (l ++ [e]) T := by
  intro x
  rw [mem_addK, h x]
  constructor
  · rintro (⟨y, hy, h1⟩ | rfl)
    · exact ⟨y, by simp [hy], h1⟩
    · exact ⟨e, by simp, he, rfl⟩
  · rintro ⟨y, hy, h1, h2⟩
    rcases List.mem_append.1 hy with hy | hy
    · exact .inl ⟨y, hy, h1, h2⟩
    · rw [List.mem_singleton] at hy
      subst hy
      exact .inr h2.symm
theorem NearKs.skip {Ks : List Int} {l : List Eg} {T : List Nat} (h : NearKs Ks l T) (e : Eg) (he : ¬ (0 ≤ e.1 ∧ e.1.toNat ∈ T)) : NearKs Ks (l ++ [e]) T := by
  intro x
  rw [h x]
  constructor
  · rintro ⟨y, hy, h1⟩
    exact ⟨y, by simp [hy], h1⟩
  · rintro ⟨y, hy, h1, h2⟩
    rcases List.mem_append.1 hy with hy | hy
    · exact ⟨y, hy, h1, h2⟩
    · rw [List.mem_singleton] at hy
      subst hy
      exact absurd h1 he
theorem near_count {n m : Nat} {l : List Eg} {s : PSt} {xa bs : List Int} {Ks : List Int} (hall : ∀ e ∈ l, inE n m e) (hro : ReachOut (natE l) n m s.of s.wi xa bs) (hk : NearKs Ks l (placesN xa 1)) (hnd : Ks.Nodup) : Ks.length = (placesN bs 1).length := by
  have mx := mem_placesN hro.ba rfl
  have mb := mem_placesN hro.bb rfl
  have ndb : (placesN bs 1).Nodup := List.nodup_range.sublist List.filter_sublist
  have hmem : ∀ x, x ∈ Ks ↔ x ∈ (placesN bs 1).map (fun (b : Nat) => (b : Int)) := fun x => by
    rw [hk x, List.mem_map]
    constructor
    · rintro ⟨e, he, ⟨h1, h2⟩, rfl⟩
      obtain ⟨i1, i2, i3, i4⟩ := hall e he
      refine ⟨e.2.toNat, (mb _).2 (hro.fwd (e.1.toNat, e.2.toNat) (List.mem_map.2 ⟨e, he, rfl⟩) ((mx _).1 h2)), by omega⟩
    · rintro ⟨b, hb, rfl⟩
      obtain ⟨_, _, x, hx, hxe⟩ := hro.bk b ((mb _).1 hb)
      obtain ⟨e, he, hee⟩ := List.mem_map.1 hxe
      simp only [Prod.mk.injEq] at hee
      obtain ⟨i1, i2, i3, i4⟩ := hall e he
      refine ⟨e, he, ⟨i1, ?_⟩, by omega⟩
      rw [hee.1]
      exact (mx _).2 hx
  have h1 := nodup_sub_len hnd fun x hx => (hmem x).1 hx
  have h2 := nodup_sub_len (nodup_map_on (fun (b : Nat) => (b : Int)) ndb fun x _ y _ e => by omega) fun x hx => (hmem x).2 hx
  rw [List.length_map] at h1 h2
  omega
set_option maxHeartbeats 8000000 in
set_option maxRecDepth 20000 in
theorem mshort_any (w : World) (N M : Int) (A : Option Addr) (k c : Nat) (l : List Eg) (hr : Rd w w.heap.size 2 A k (edgv l)) :
    Calls Try.prog 6 #[.agg #[.int .i64 N, .int .i64 M, .slice A k c]] w fun e w' => e = .returned (.bool true) ∧ Below w.heap.size w w' := by
  have hmm := @run_makeMap Try.prog
  have HKL := Lib.hid (rd_edglen hr)
  have HR := Lib.hid hr
  clear hr
  have hG := GBox.made w N M A k c
  have HG := Lib.hid hG
  clear hG
  go_enter Try.func6, Try.ntmps6
  go_wp2_with fail
  refine (mlives_any _).mono ?_
  rintro e w2 ⟨rfl, hb2⟩
  have HG2 := Lib.hid (HG.out.below hb2)
  have c0 := HG2.out.c0
  have c1 := HG2.out.c1
  have c2 := HG2.out.c2
  clear hb2 HG
  go_wp2_with fail
  refine (rright_any w2 N M A k c l (HG2.out.rd HR.out)).mono ?_
  rintro e w3 ⟨r, rfl, hri, hb3⟩
  have HG3 := Lib.hid (HG2.out.below hb3)
  clear hb3 HG2 c0 c1 c2
  cases r with
  | false =>
    clear hri
    go_wp2_with fail
    refine (mlives_any _).mono ?_
    rintro e w4 ⟨rfl, hb4⟩
    have HB := Lib.hid (HG3.out.below hb4).bel
    clear hb4
    go_wp2
    go_ret
    exact ⟨rfl, HB.out⟩
  | true =>
    have hgood := hri.1 rfl
    obtain ⟨n0, rfl⟩ : ∃ n0 : Nat, N = n0 := ⟨N.toNat, by have := hgood.1; omega⟩
    obtain ⟨m0, rfl⟩ : ∃ m0 : Nat, M = m0 := ⟨M.toNat, by have := hgood.2.1; omega⟩
    have hn : n0 ≤ 200 := by have := hgood.1; omega
    have hm : m0 ≤ 200 := by have := hgood.2.1; omega
    have hk : k ≤ 4000 := by have := hgood.2.2.1; have := HKL.out; omega
    have HALL : Hid (∀ e ∈ l, inE n0 m0 e) := Lib.hid ((good_iff hn hm hgood.2.2.1).1 hgood)
    have c0 := HG3.out.c0
    have c1 := HG3.out.c1
    have c2 := HG3.out.c2
    have HGD := Lib.hid hgood
    clear hri hgood
    go_wp2_with fail
    refine (short_any w3 n0 m0 A k c l (HG3.out.rd HR.out)).mono ?_
    rintro e w4 ⟨(⟨_, n1, m1, s, xa, bs, v, hn1, hm1, hS, hro, rfl, hq⟩ | ⟨h, _⟩), hb4⟩
    rotate_left
    · exact absurd HGD.out h
    obtain rfl : n1 = n0 := by omega
    obtain rfl : m1 = m0 := by omega
    have HG4 := Lib.hid (HG3.out.below hb4)
    have hcnt := reach_count hS (natE_ok HALL.out) hro
    have hnu := hS.nu (natE_ok HALL.out)
    obtain ⟨A4, c4, rfl⟩ := hq.shape
    have hz1 : (placesN xa 1).length = 0 ↔ matched n1 (gi s.of) = n1 := by
      have hle : matched n1 (gi s.of) ≤ n1 := by
        have := List.length_filter_le (fun a => decide (0 ≤ gi s.of a)) (List.range n1)
        rw [List.length_range] at this
        exact this
      constructor
      · intro h; have := hcnt.1; omega
      · intro h
        have hall : ∀ a, a < n1 → 0 ≤ gi s.of a := by
          intro a ha
          have h1 := len_parts (fun a => decide (0 ≤ gi s.of a)) (List.range n1)
          rw [List.length_range] at h1
          have h2 : ((List.range n1).filter (fun a => !decide (0 ≤ gi s.of a))).length = 0 := by unfold matched at h; omega
          rw [List.length_eq_zero_iff, List.filter_eq_nil_iff] at h2
          have := h2 a (by simpa using ha)
          simpa using this
        have hno := hro.none hall
        rw [List.length_eq_zero_iff, List.eq_nil_iff_forall_not_mem]
        intro x hx
        exact hno x ((mem_placesN hro.ba rfl x).1 hx)
    have hpl := placesN_len xa 1
    have hrise := placesN_rise xa 1
    have hplt := placesN_lt (v := 1) hro.ba.1
    rw [hro.ba.1] at hpl
    obtain ⟨T, hT⟩ : ∃ T, placesN xa 1 = T := ⟨_, rfl⟩
    rw [hT] at hq hpl hrise hplt hz1 hcnt ⊢
    obtain ⟨L, hL⟩ : ∃ L, T.length = L := ⟨_, rfl⟩
    obtain ⟨nu, hnu'⟩ : ∃ nu, matched n1 (gi s.of) = nu := ⟨_, rfl⟩
    rw [hnu'] at hnu hz1 hcnt
    rw [hL] at hq hpl hz1 hcnt ⊢
    have hrd := hq.rd.2
    rw [hL] at hrd
    have HRD := Lib.hid hrd
    have HT := Lib.hid hT
    have HL := Lib.hid hL
    have HNU := Lib.hid hnu
    have HRO := Lib.hid hro
    have HRI := Lib.hid hrise
    have HPL := Lib.hid hplt
    have HCN : Hid (L = n1 - nu + (placesN bs 1).length ∧ nu ≤ n1) := Lib.hid ⟨hcnt.1, nu_le_left (fun p hp => (natE_ok HALL.out p hp).1) hnu⟩
    have HZ := Lib.hid hz1
    have c0 := HG4.out.c0
    have c1 := HG4.out.c1
    have c2 := HG4.out.c2
    clear hb4 hcnt hnu hT hnu' hq hz1 hro hS hrise hplt hL hrd HG3
    have HSZ := Lib.hid (rsize_any w4 n1 m1 A k c l (HG4.out.rd HR.out) hk hn hm HALL.out)
    go_wp2_with fail
    refine HSZ.out.mono ?_
    rintro e w5 ⟨⟨nu', hnu5, hnl, rfl⟩, hb5⟩
    obtain rfl : nu' = nu := hnu5.uniq HNU.out
    have HG5 := Lib.hid (HG4.out.below hb5)
    have HRD5 := Lib.hid ((HRD.out.below hb5).mono hb5.size)
    have c0 := HG5.out.c0
    have c1 := HG5.out.c1
    have c2 := HG5.out.c2
    clear hb5 hnu5 HSZ HG4 HRD
    go_wp2_with fail
    refine (rising_yes w5 A4 c4 L n1 T HRD5.out (by omega) HPL.out HRI.out).mono ?_
    rintro e w6 ⟨rfl, rfl⟩
    have bq : ((L : Int) == 0) = ((nu' : Int) == (n1 : Int)) := by
      have := HZ.out
      rw [Bool.eq_iff_iff, beq_iff_eq, beq_iff_eq]
      omega
    rename_i w6
    have m1' := IMap.made w6
    have ua : Upd (fun _ => False) w6 (w6.alloc (.map #[] 0)) := (Upd.refl _ _).alloc _
    have za : (w6.alloc (.map #[] 0)).heap.size = w6.heap.size + 1 := by simp
    have m2' := IMap.made (w6.alloc (.map #[] 0))
    have ub : Upd (fun _ => False) (w6.alloc (.map #[] 0)) ((w6.alloc (.map #[] 0)).alloc (.map #[] 0)) := (Upd.refl _ _).alloc _
    rw [za] at m2'
    have HM1 := Lib.hid (m1'.upd ub (fun h => h))
    have HM2 := Lib.hid m2'
    have HG6 := Lib.hid ((HG5.out.alloc (.map #[] 0)).alloc (.map #[] 0))
    have HRD6 := Lib.hid (HRD5.out.upd (ua.trans ub (fun _ _ h => h)) (Nat.le_refl _) (fun _ _ _ h => h))
    have hU := HG5.out.lt
    clear m1' ua za m2' ub HRD5
    go_wp2
    generalize (w6.alloc (.map #[] 0)).alloc (.map #[] 0) = w7 at HM1 HM2 HG6 HRD6 ⊢
    generalize w6.heap.size = U at HM1 HM2 HRD6 hU ⊢
    clear c0 c1 c2 HG5 bq
    go_loopw [65] (fun i wx => ∃ (j : Nat) (f : Int → Int) (Ks : List Int), j ≤ L ∧ i = .int .i64 j ∧ Hid (IMap wx U j f Ks) ∧ Hid (InSet f (T.take j)) ∧ Hid (IMap wx (U + 1) 0 (fun _ => 0) []) ∧ Hid (GBox w wx n1 m1 A k c) ∧ Hid (Rd wx U 1 A4 L (natv T))) (fun i _ => L - (intOf i).toNat)
    case atStart => exact ⟨0, _, _, Nat.zero_le _, rfl, HM1, Lib.hid InSet.nil, HM2, HG6, HRD6⟩
    case round =>
      clear HM1 HM2 HG6 HRD6
      obtain ⟨j, f, Ks, hj, rfl, hM1, hin, hM2, hG, hRD⟩ := hrel
      have l1 := hM1.out.lt
      have l2 := hM2.out.lt
      by_cases hlt : j < L
      · obtain ⟨b, off, rfl, hbU, hjT, d0⟩ := hRD.out.nat hlt
        have htk : T.take (j + 1) = T.take j ++ [T[j]] := List.take_succ_eq_append_getElem hjT
        have hxn := HPL.out _ (List.getElem_mem hjT)
        obtain ⟨x, hx⟩ : ∃ x, T[j] = x := ⟨_, rfl⟩
        rw [hx] at d0 htk hxn
        have HTK := Lib.hid htk
        have hmap := hM1.out
        clear htk hx hM1
        go_wp2_with (at_mapUpdate; refine wpList_putI rfl _ _ _ rfl rfl hmap (by unfold maxLen; omega) (q := (x : Int)) (u := 1) rfl rfl (by omega) (by omega) ?_)
        intro w8 hm8 hu8
        have HM8 := Lib.hid hm8
        have HN8 := Lib.hid (hM2.out.upd hu8 (fun e => by omega))
        have HG8 := Lib.hid (hG.out.upd hu8 (fun i hi e => by omega))
        have HRD8 := Lib.hid (hRD.out.upd hu8 (Nat.le_of_lt l1) (fun _ ad e h => by
          injection e with e
          subst e
          simp only at h
          omega))
        clear hm8 hu8 hmap hM2 hG hRD d0
        go_wp2
        go_roundw
        case rel => exact ⟨j + 1, _, _, by omega, by go_num, HM8, Lib.hid (by rw [HTK.out]; exact hin.out.put x), HN8, HG8, HRD8⟩
        case measure => simp [intOf]; omega
      · obtain rfl : j = L := by omega
        have HIN : Hid (InSet f T) := Lib.hid (by have := hin.out; rwa [List.take_of_length_le (by have := HL.out; omega)] at this)
        have c0 := hG.out.c0
        have c1 := hG.out.c1
        have c2 := hG.out.c2
        clear hin hRD
        go_wp2
        go_loopw [75] (fun i wx => ∃ (a : Nat) (g : Int → Int) (Gs : List Int), a ≤ k ∧ i = .int .i64 a ∧ Hid (IMap wx U j f Ks) ∧ Hid (IMap wx (U + 1) a g Gs) ∧ Hid (NearKs Gs (l.take a) T) ∧ Hid (GBox w wx n1 m1 A k c)) (fun i _ => k - (intOf i).toNat)
        case atStart => exact ⟨0, _, _, Nat.zero_le _, rfl, hM1, hM2, Lib.hid (by rw [List.take_zero]; exact NearKs.nil T), hG⟩
        case round =>
          clear hM1 hM2 hG c0 c1 c2 l1 l2
          obtain ⟨a, g, Gs, ha, rfl, hM1, hM2, hnk, hG⟩ := hrel
          have l1 := hM1.out.lt
          have l2 := hM2.out.lt
          by_cases hlt : a < k
          · obtain ⟨b, off, rfl, hbB, hsl, e0, e1⟩ := ((HR.out.below hG.out.bel)).edge hlt
            have hie := HALL.out _ (List.getElem_mem hsl)
            have htk : l.take (a + 1) = l.take a ++ [l[a]] := List.take_succ_eq_append_getElem hsl
            obtain ⟨⟨ea, eb⟩, he⟩ : ∃ e, l[a] = e := ⟨_, rfl⟩
            rw [he] at e0 e1 hie htk
            obtain ⟨i1, i2, i3, i4⟩ := hie
            have HTK := Lib.hid htk
            simp only at e0 e1 i1 i2 i3 i4
            have ux : Upd (fun _ => False) wr (wr.alloc (.cells #[.int .i64 ea, .int .i64 eb] 26)) := (Upd.refl _ _).alloc _
            have HM1 := Lib.hid (hM1.out.upd ux (fun h => h))
            have HM2 := Lib.hid (hM2.out.upd ux (fun h => h))
            have HG1 := Lib.hid (hG.out.alloc (.cells #[.int .i64 ea, .int .i64 eb] 26))
            have lk := HM1.out.look (q := ea) (by omega)
            have hfx := HIN.out ea
            clear he htk ux hM1 hM2 hG
            by_cases hyes : 0 ≤ ea ∧ ea.toNat ∈ T
            · rw [if_pos hyes] at hfx
              rw [hfx] at lk
              have HNK : Hid (NearKs (addK Gs eb) (l.take (a + 1)) T) := Lib.hid (by rw [HTK.out]; exact hnk.out.put (ea, eb) hyes)
              have hmap := HM2.out
              clear hyes hfx hnk
              go_wp2_with (at_mapUpdate; refine wpList_putI rfl _ _ _ rfl rfl hmap (by unfold maxLen; omega) (q := eb) (u := 1) rfl rfl (by omega) (by omega) ?_)
              intro w8 hm8 hu8
              have HN8 := Lib.hid hm8
              have HM8 := Lib.hid (HM1.out.upd hu8 (fun e => by omega))
              have HG8 := Lib.hid (HG1.out.upd hu8 (fun i hi e => by omega))
              clear hm8 hu8 hmap lk e0 e1 HM1 HM2 HG1
              go_wp2
              go_roundw
              case rel => exact ⟨a + 1, _, _, by omega, by go_num, HM8, HN8, HNK, HG8⟩
              case measure => simp [intOf]; omega
            · rw [if_neg hyes] at hfx
              rw [hfx] at lk
              have HNK : Hid (NearKs Gs (l.take (a + 1)) T) := Lib.hid (by rw [HTK.out]; exact hnk.out.skip (ea, eb) hyes)
              have HM2' : Hid (IMap (wr.alloc (.cells #[.int .i64 ea, .int .i64 eb] 26)) (U + 1) (a + 1) g Gs) := Lib.hid (HM2.out.mono (Nat.le_succ a))
              clear hyes hfx hnk
              go_wp2
              go_roundw
              case rel => exact ⟨a + 1, _, _, by omega, by go_num, HM1, HM2', HNK, HG1⟩
              case measure => simp [intOf]; omega
          · obtain rfl : a = k := by omega
            have hnk' : NearKs Gs l (placesN xa 1) := by
              have := hnk.out
              rwa [List.take_of_length_le (by have := HKL.out; omega), ← HT.out] at this
            have hnd : Gs.Nodup := by obtain ⟨D, _, h⟩ := hM2.out; exact h.nd
            have hct := near_count HALL.out HRO.out hnk' hnd
            have hln := fun ty => hM2.out.len ty
            obtain ⟨q, hq⟩ : ∃ q, Gs.length = q := ⟨_, rfl⟩
            rw [hq] at hct
            rw [hq] at hln
            have c0 := hG.out.c0
            have hq5 : q ≤ 200 := by have := HCN.out; omega
            have x1 : IntKind.i64.wrap ((j : Int) - (q : Int)) = (j : Int) - (q : Int) := IntWalk.i64_in _ (by omega)
            have x2 : IntKind.i64.wrap ((n1 : Int) - (nu' : Int)) = (n1 : Int) - (nu' : Int) := IntWalk.i64_in _ (by have := HCN.out; omega)
            have x3 : ((j : Int) - (q : Int) == (n1 : Int) - (nu' : Int)) = true := by
              rw [beq_iff_eq]
              have := HCN.out
              omega
            have HBB := Lib.hid hG.out.bel
            clear hnk hnk' hnd hq hct hM1 hM2 hG
            go_wp2
            go_ret
            exact ⟨rfl, HBB.out⟩
end Go.Proofs.Ytkhboengcbgooaa
