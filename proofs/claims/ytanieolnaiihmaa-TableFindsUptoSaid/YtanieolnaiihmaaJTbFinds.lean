/- Tables: TableFinds, walked. -/
import Derived.Test.YtanieolnaiihmaaJTbFrom
import Derived.Test.YtanieolnaiihmaaJTbLives
import Derived.Test.YtanieolnaiihmaaJTbKeys
import Derived.Test.YtanieolnaiihmaaJBlPlain
import Derived.Test.YtanieolnaiihmaaJOwnAny
import Derived.Test.YtanieolnaiihmaaBkRight
namespace Go.Proofs.Ytanieolnaiihmaa
open Go.RowKit
theorem tget_go {w : World} {base TB : Nat} {l : List Ent} (key : ByteArray) (sq : Int) (hT : TabAt base w TB l) (hl : l.length ≤ 1000000000000) (hk : key.size ≤ maxLen) (hr : rightE l) :
    Calls Try.prog 27 #[.pointer (some ⟨TB, 0, none⟩), .string key, .int .i64 sq] w fun e w' => ∃ (y : Ent) (gb : Bool), Hid (y = (getE l key sq).getD noEnt ∧ gb = (getE l key sq).isSome) ∧ e = .returned (.tuple #[.agg #[.string y.key, .int .i64 y.seq, .bool y.dead, .string y.val], .bool gb]) ∧ Below w.heap.size w w' := by
  refine (tget_any w base TB l key sq hT hl hk (hit_mono hr key sq)).mono ?_
  rintro e w' ⟨hb, r, h1, h2, h3, rfl⟩
  have hg := getT_is hr h1 h2 h3
  exact ⟨_, _, Lib.hid ⟨rfl, rfl⟩, by rw [hg]; rfl, hb⟩
theorem rget_goT (w : World) (A : Option Addr) (n c : Nat) (l : List Ent) (key : ByteArray) (sq : Int) (hr : Rd w w.heap.size 4 A n (entv l)) (hn : n ≤ 1099511627776) :
    Calls Try.prog 28 #[.slice A n c, .string key, .int .i64 sq] w fun e w' => ∃ (y : Ent) (gb : Bool), Hid (y = (getE l key sq).getD noEnt ∧ gb = (getE l key sq).isSome) ∧ e = .returned (.tuple #[.agg #[.string y.key, .int .i64 y.seq, .bool y.dead, .string y.val], .bool gb]) ∧ Below w.heap.size w w' :=
  (rget_any w A n c l key sq hr hn).mono fun e w' h => ⟨_, _, Lib.hid ⟨rfl, rfl⟩, h.1, h.2⟩
theorem bldT_bad {l : List Ent} (h : ¬ (bldT l).2 = 0) : (bldT l).1 = [] ∧ (rightE l → (bldT l).2 = 2) ∧ (¬ rightE l → (bldT l).2 = 9) := by
  unfold bldT at h ⊢
  by_cases hr : rightE l
  · rw [if_pos hr] at h ⊢
    unfold sealR at h ⊢
    split
    · rename_i hf; rw [if_pos hf] at h; exact absurd rfl h
    · exact ⟨rfl, fun _ => rfl, fun h2 => absurd hr h2⟩
  · rw [if_neg hr] at h ⊢
    exact ⟨rfl, fun h2 => absurd h2 hr, fun _ => rfl⟩
set_option maxHeartbeats 8000000 in
set_option maxRecDepth 20000 in
theorem tfinds_any (w : World) (A : Option Addr) (n c : Nat) (l : List Ent) (key : ByteArray) (at_ : Int) {S : Nat} (hS : S ≤ 1048576) (hok : okE S l) (hr : Rd w w.heap.size 4 A n (entv l)) (hnc : n ≤ c) (hsz : (bldT l).1.length ≤ 268435456) (hk : key.size ≤ 1048576) :
    Calls Try.prog 6 #[.slice A n c, .string key, .int .i64 at_] w fun e w' => e = .returned (.bool true) ∧ Below w.heap.size w w' := by
  obtain ⟨i0, hi0, hz0, hz1, hz2⟩ := info_parts ent_info
  have hlen := okE_len hok
  obtain rfl := rd_entlen hr
  have HSQ : Hid (∀ x ∈ l, x.seq ≤ 9223372036854775807) := Lib.hid (fun x hx => (hok.1 x hx).1.2)
  have hkm : key.size ≤ maxLen := by unfold maxLen; omega
  have HB := Lib.hid (fun W (hW : Below w.heap.size w W) => tbuild_any W A l.length c l hS hok ((hr.below hW).mono hW.size) hnc)
  have HR := Lib.hid hr
  obtain ⟨T, hT⟩ : ∃ T : ByteArray, (⟨(bldT l).1.toArray⟩ : ByteArray) = T := ⟨_, rfl⟩
  have hTd : T.data.toList = (bldT l).1 := by rw [← hT]
  have hTs : T.size = (bldT l).1.length := by rw [← hTd]; rfl
  obtain ⟨q, hq⟩ : ∃ q, (bldT l).2 = q := ⟨_, rfl⟩
  rw [hT, hq] at HB
  have HGO : Hid (q = 0 → rightE l ∧ openT T.data.toList = some l) := Lib.hid (fun h0 => ⟨(bldT_ok (hq.trans h0)).1, by rw [hTd]; exact open_bld hS hok (hq.trans h0)⟩)
  have HBAD : Hid (¬ q = 0 → T = ⟨#[]⟩ ∧ (rightE l → q = 2) ∧ (¬ rightE l → q = 9)) := Lib.hid (fun h0 => by
    obtain ⟨h1, h2, h3⟩ := bldT_bad (fun h => h0 (hq.symm.trans h))
    rw [hq] at h2 h3
    exact ⟨by rw [← hT, h1], h2, h3⟩)
  have HNM : Hid (∀ q ∈ namesE l, q.size ≤ maxLen) := Lib.hid (fun q hq => by
    obtain ⟨x, hx, rfl⟩ := namesE_mem q hq
    have := (hok.1 x hx).2.1
    unfold maxLen; omega)
  have hnm := namesE_len l
  have hT28 : T.size ≤ 268435456 := by omega
  have HOK := Lib.hid hok
  clear hT hTd hTs hq hsz hok hr
  go_enter Try.func6, Try.ntmps6
  go_wp2_with fail
  refine (tlives_any _).mono ?_
  rintro e w1 ⟨rfl, hb1⟩
  go_wp2_with fail
  refine (HB.out _ hb1).mono ?_
  rintro e w2 ⟨rfl, hb2⟩
  have hb := bel hb1 hb2
  have HB2 := Lib.hid hb
  clear HB hb1 hb2 hb
  by_cases hq0 : q = 0
  · obtain ⟨hrt, hop⟩ := HGO.out hq0
    have HRT := Lib.hid hrt
    have HOP := Lib.hid hop
    clear HGO HBAD hrt hop
    subst hq0
    go_wp2_with fail
    refine (open_any w2 T hT28).mono ?_
    rintro e w3 ⟨hb3, hpo⟩
    rw [HOP.out] at hpo
    obtain ⟨TB, rfl, hta⟩ := hpo
    have HT3 := Lib.hid hta
    have HB3 := Lib.hid (HB2.out.trans (hb3.mono HB2.out.size))
    clear hb3 hta HOP
    go_wp2_with fail
    refine (tlen_any w3 _ TB l HT3.out).mono ?_
    rintro e w4 ⟨rfl, hw4⟩
    subst hw4
    go_wp2_with fail
    refine (tblocks_any w4 _ TB l HT3.out).mono ?_
    rintro e w5 ⟨rfl, hw5⟩
    subst hw5
    obtain ⟨g, off, hAg⟩ : ∃ g off, 0 < l.length → A = some ⟨g, off, none⟩ := by
      by_cases h0 : 0 < l.length
      · obtain ⟨b, off, e, _⟩ := HR.out.ent h0
        exact ⟨b, off, fun _ => e⟩
      · exact ⟨0, 0, fun h => absurd h h0⟩
    go_wp2_with fail
    refine (rblocks_any w5 g off c A l hAg hnc hlen).mono ?_
    rintro e w6 ⟨v6, rfl, ho6, hb6⟩
    obtain ⟨A6, c6, rfl⟩ := own_shape ho6
    have HT6 := Lib.hid (HT3.out.below hb6)
    have HB6 := Lib.hid (HB3.out.trans (hb6.mono HB3.out.size))
    clear HT3 HB3 hb6 ho6 hAg
    go_wp2_with fail
    refine (tget_go key at_ HT6.out hlen hkm HRT.out).mono ?_
    rintro e w7 ⟨y, gb, hyy, rfl, hb7⟩
    have HB7 := Lib.hid (HB6.out.trans (hb7.mono HB6.out.size))
    have HT7 := Lib.hid (HT6.out.below hb7)
    clear hb7 HB6 HT6
    have hbA := (Below.refl w7.heap.size w7).alloc (Nat.le_refl _) (.cells #[.string y.key, .int .i64 y.seq, .bool y.dead, .string y.val] 41)
    go_wp2_with fail
    refine (rget_goT _ A l.length c l key at_ ((HR.out.below (HB7.out.trans (hbA.mono HB7.out.size))).mono (Nat.le_trans HB7.out.size hbA.size)) (by omega)).mono ?_
    rintro e w8 ⟨y2, gb2, hyy2, rfl, hb8⟩
    obtain rfl : y2 = y := hyy2.out.1.trans hyy.out.1.symm
    obtain rfl : gb2 = gb := hyy2.out.2.trans hyy.out.2.symm
    have hbC : Below w7.heap.size w7 w8 := hbA.trans (hb8.mono hbA.size)
    have hr8 : w8.heap[w7.heap.size]? = some (.cells #[.string y2.key, .int .i64 y2.seq, .bool y2.dead, .string y2.val] 41 (0, 0)) := (hb8.block _ (by simp)).trans (heap_alloc_new w7 _)
    have q0 : w8.cell? ⟨w7.heap.size, 0, none⟩ = some (.string y2.key) := by rw [cell_of_row _ _ 0 _ _ _ hr8]; rfl
    have q1 : w8.cell? ⟨w7.heap.size, 1, none⟩ = some (.int .i64 y2.seq) := by rw [cell_of_row _ _ 1 _ _ _ hr8]; rfl
    have q2 : w8.cell? ⟨w7.heap.size, 2, none⟩ = some (.bool y2.dead) := by rw [cell_of_row _ _ 2 _ _ _ hr8]; rfl
    have q3 : w8.cell? ⟨w7.heap.size, 3, none⟩ = some (.string y2.val) := by rw [cell_of_row _ _ 3 _ _ _ hr8]; rfl
    have hl7 : w7.heap.size < w8.heap.size := (Array.getElem?_eq_some_iff.1 hr8).1
    have hbD := hbC.alloc hbC.size (.cells #[.string y2.key, .int .i64 y2.seq, .bool y2.dead, .string y2.val] 41)
    have HB9 := Lib.hid (HB7.out.trans (hbD.mono HB7.out.size))
    have HT9 := Lib.hid (HT7.out.below hbD)
    have HGB : Hid (gb2 = true → may (bld (namesE l)) key.data.toList = true) := Lib.hid (fun h => may_getE (hyy2.out.2.symm.trans h))
    obtain ⟨mb, hmb⟩ : ∃ mb, may (bld (namesE l)) key.data.toList = mb := ⟨_, rfl⟩
    have HMB := Lib.hid hmb
    have HMAY : Hid (∀ W base, TabAt base W TB l → Calls Try.prog 29 #[.pointer (some ⟨TB, 0, none⟩), .string key] W fun e w' => e = .returned (.bool mb) ∧ Below W.heap.size W w') := Lib.hid (fun W base h => by
      have := tmay_any W base TB l key h hlen hkm
      rwa [hmb] at this)
    rw [hmb] at HGB
    clear hbA hb8 hyy hyy2 hbC hr8 hmb HB7 HT7
    have hbn := bldN_le l
    go_upto_region 11 with (fail)
    go_cut [111] (fun v wc => v = .bool false ∧ Hid (Below w.heap.size w wc) ∧ Hid (TabAt w2.heap.size wc TB l))
    case first =>
      cases gb2
      rotate_left
      obtain rfl : mb = true := HGB.out rfl
      go_wp2_with fail
      refine (HMAY.out _ _ HT9.out).mono ?_
      rintro e wa ⟨rfl, hba⟩
      have HB9 := Lib.hid (HB9.out.trans (hba.mono HB9.out.size))
      have HT9 := Lib.hid (HT9.out.below hba)
      clear hba
      all_goals
        clear HGB
        go_wp2_with fail
        refine (HMAY.out _ _ HT9.out).mono ?_
        rintro e wb ⟨rfl, hbb⟩
        have HBb := Lib.hid (HB9.out.trans (hbb.mono HB9.out.size))
        have HTb := Lib.hid (HT9.out.below hbb)
        clear hbb HB9 HT9 HMAY q0 q1 q2 q3 hl7 hbD
        go_wp2_with fail
        refine (rkeys_any wb A l.length c l ((HR.out.below HBb.out).mono HBb.out.size) (by omega)).mono ?_
        rintro e wk ⟨vk, rfl, hok, hbk⟩
        obtain ⟨Ak, ck, rfl⟩ := own_shape hok
        have HRK := Lib.hid (Rd.own hok)
        have HBk := Lib.hid (HBb.out.trans (hbk.mono HBb.out.size))
        have HTk := Lib.hid (HTb.out.below hbk)
        clear hok hbk HBb HTb
        go_wp2_with fail
        refine (rbuild_any Ak (namesE l).length ck (namesE l) wk (by omega) HRK.out HNM.out).mono ?_
        rintro e wl ⟨rfl, hbl⟩
        have HBl := Lib.hid (HBk.out.trans (hbl.mono HBk.out.size))
        have HTl := Lib.hid (HTk.out.below hbl)
        clear hbl HBk HTk HRK
        rw [rbld_eq]
        obtain ⟨BF, hBF⟩ : ∃ F : ByteArray, (⟨(bld (namesE l)).toArray⟩ : ByteArray) = F := ⟨_, rfl⟩
        have hBd : BF.data.toList = bld (namesE l) := by rw [← hBF]
        have hBs : BF.size = (bld (namesE l)).length := by rw [← hBd]; rfl
        rw [hBF]
        have HRM := Lib.hid (rmay_any BF key wl (by omega) hkm)
        rw [hBd, HMB.out] at HRM
        clear hBF hBd hBs
        go_wp2_with fail
        refine HRM.out.mono ?_
        rintro e wm ⟨rfl, hwm⟩
        subst hwm
        go_wp2
        go_meet
        exact ⟨by simp, HBl, HTl⟩
    case rest =>
      obtain ⟨rfl, HBl, HTl⟩ := hcut
      clear HGB HMB HMAY HB9 HT9 q0 q1 q2 q3 hl7 hbD
      go_wp2_with fail
      refine (tfirst_any wc _ TB l HTl.out).mono ?_
      rintro e wn ⟨rfl, hwn⟩
      subst hwn
      go_wp2_with fail
      refine (tlast_any wn _ TB l HTl.out hlen).mono ?_
      rintro e wo ⟨rfl, mo, hwo⟩
      have hbo : Below wn.heap.size wn wo := by rw [hwo]; exact ⟨rfl, rfl, rfl, Nat.le_refl _, fun _ _ => rfl⟩
      have HBo := Lib.hid (HBl.out.trans (hbo.mono HBl.out.size))
      have HTo := Lib.hid (HTl.out.below hbo)
      clear hwo hbo HBl HTl
      obtain ⟨kf, hkf⟩ : ∃ kf, keyAt l 0 = kf := ⟨_, rfl⟩
      obtain ⟨kl, hkl⟩ : ∃ kl, keyAt l (l.length - 1) = kl := ⟨_, rfl⟩
      rw [hkf, hkl]
      obtain ⟨sb, hsb⟩ : ∃ sb, decide (0 < l.length) = sb := ⟨_, rfl⟩
      rw [hsb]
      have HSB := Lib.hid hsb
      clear hsb
      go_upto_region 15 with (fail)
      go_cut [163] (fun v wc => v = .bool false ∧ wc = wo)
      case first =>
        by_cases h0 : l.length = 0
        · have hl : l = [] := List.eq_nil_of_length_eq_zero h0
          have hkf0 : kf = ⟨#[]⟩ := by rw [← hkf, hl]; rfl
          have hkl0 : kl = ⟨#[]⟩ := by rw [← hkl, hl]; rfl
          subst hkf0 hkl0
          obtain rfl : sb = false := by rw [← HSB.out]; exact decide_eq_false (by omega)
          have hee : ((⟨#[]⟩ : ByteArray) ++ ⟨#[]⟩).toList.isEmpty = true := by rw [ByteArray.toList_eq]; rfl
          clear h0 hkf hkl
          subst hl
          go_wp2
          go_meet
          exact ⟨by simp, rfl⟩
        · obtain ⟨j, hj⟩ : ∃ j, l.length - 1 = j := ⟨_, rfl⟩
          have hrw := (HR.out.below HBo.out)
          obtain ⟨b, off', rfl, hbB, hs, c0, -, -, -⟩ := hrw.ent (k := 0) (by omega)
          obtain ⟨_, _, e2, _, hs2, d0, -, -, -⟩ := hrw.ent (k := j) (by omega)
          injection e2 with e2
          injection e2 with e2 e3
          subst e2 e3
          have hk1 : (l[0]'hs).key = kf := by rw [← hkf]; unfold keyAt; rw [List.getElem?_eq_getElem hs]; rfl
          have hk2 : (l[j]'hs2).key = kl := by rw [← hkl]; unfold keyAt; rw [hj, List.getElem?_eq_getElem hs2]; rfl
          rw [hk1, Nat.zero_mul, Nat.add_zero] at c0
          rw [hk2] at d0
          obtain rfl : sb = true := by rw [← HSB.out]; exact decide_eq_true (by omega)
          have hli : (0 : Int) < (l.length : Int) := by omega
          have hw1 : IntKind.i64.wrap ((l.length : Int) - 1) = (j : Int) := by rw [IntWalk.i64_in _ (by omega)]; omega
          have hj0 : (0 : Int) ≤ (j : Int) := by omega
          have hjz : (j : Int) < (l.length : Int) := by omega
          clear hrw hk1 hk2 hj hkf hkl
          go_wp2
          go_meet
          exact ⟨by simp, rfl⟩
      case rest =>
        obtain ⟨rfl, hwc⟩ := hcut
        subst hwc
        clear hkf hkl HSB
        go_wp2_with fail
        refine (tall_any wc _ TB l HTo.out hlen).mono ?_
        rintro e w13 ⟨v13, rfl, ho13, hb13⟩
        obtain ⟨A13, c13, rfl⟩ := own_shape ho13
        have HL13 : Hid (∀ b, (Value.slice A13 l.length c13).ownBlock = some b → wc.heap.size ≤ b ∧ b < w13.heap.size) := Lib.hid fun b e => ho13.lt b e
        have HO13 : Hid (OwnAny w13 wc.heap.size 41 4 (.slice A13 l.length c13) l.length) := Lib.hid ⟨_, ho13⟩
        have HB13 := Lib.hid hb13
        have HT13 := Lib.hid (HTo.out.below hb13)
        have hz13 : wc.heap.size ≤ w13.heap.size := hb13.size
        clear ho13 hb13
        go_wp2_with fail
        refine (tfrom_any w13 _ TB l key HT13.out hlen HRT.out HSQ.out).mono ?_
        rintro e w14 ⟨v14, rfl, ho14, hb14⟩
        obtain ⟨L14, hL14⟩ : ∃ L, l.drop (fromE l key) = L := ⟨_, rfl⟩
        have hll14 : L14.length = l.length - fromE l key := by rw [← hL14, List.length_drop]
        rw [hL14] at ho14
        have HLL := Lib.hid (And.intro hL14 hll14)
        obtain ⟨A14, c14, rfl⟩ := own_shape ho14
        have HO14 := Lib.hid ho14
        have HO13b := Lib.hid (HO13.out.upd (Upd.of_below (S := fun _ => False) hb14) (fun _ _ h => h))
        have HB14 := Lib.hid (HB13.out.trans (hb14.mono hz13))
        have hz14 : w13.heap.size ≤ w14.heap.size := hb14.size
        clear ho14 hb14 HO13 HB13 HT13 hL14 hll14
        go_wp2
        go_loopw [171] (fun i wx => ∃ j : Nat, j ≤ l.length ∧ i = .int .i64 (j : Int) ∧ Hid (OwnAny wx wc.heap.size 41 4 (.slice A13 l.length c13) l.length) ∧ Hid (Upd (fun b => (Value.slice A13 l.length c13).ownBlock = some b) w14 wx)) (fun i _ => l.length - (intOf i).toNat)
        case atStart => exact ⟨0, Nat.zero_le _, rfl, HO13b, Lib.hid (Upd.refl _ _)⟩
        case round =>
          obtain ⟨j, hjn, rfl, hoa, hua⟩ := hrel
          by_cases hj : j < l.length
          · obtain ⟨ga, rfl⟩ : ∃ ga, A13 = some ⟨ga, 0, none⟩ := by
              obtain ⟨xs, hx⟩ := hoa.out
              obtain ⟨ga, ca, e, _⟩ := own_form hx (by omega)
              injection e with e
              exact ⟨ga, e⟩
            obtain ⟨u0, hu0⟩ := hoa.out.cell (j * 4) (by omega)
            obtain ⟨u1, hu1⟩ := hoa.out.cell (j * 4 + 1) (by omega)
            obtain ⟨u2, hu2⟩ := hoa.out.cell (j * 4 + 2) (by omega)
            obtain ⟨u3, hu3⟩ := hoa.out.cell (j * 4 + 3) (by omega)
            have fz0 := hoa.out.frozen (j * 4)
            have fz1 := hoa.out.frozen (j * 4 + 1)
            have fz2 := hoa.out.frozen (j * 4 + 2)
            have fz3 := hoa.out.frozen (j * 4 + 3)
            have j1 : (0 : Int) ≤ (j : Int) := by omega
            have j2 : (j : Int) < (l.length : Int) := by omega
            go_wp2
            go_roundw
            case rel => exact ⟨j + 1, hj, by go_num, Lib.hid ((((hoa.out.set (j * 4) _).set (j * 4 + 1) _).set (j * 4 + 2) _).set (j * 4 + 3) _), Lib.hid ((((hua.out.setCell ⟨ga, j * 4, none⟩ rfl _).setCell ⟨ga, j * 4 + 1, none⟩ rfl _).setCell ⟨ga, j * 4 + 2, none⟩ rfl _).setCell ⟨ga, j * 4 + 3, none⟩ rfl _)⟩
            case measure => simp [intOf]; omega
          · have hjj : j = l.length := by omega
            have hji : ¬ (j : Int) < (l.length : Int) := by omega
            have hbx : Below wc.heap.size wc wr := HB14.out.trans (hua.out.below (fun b h1 e => by have := HL13.out b e; omega) (Nat.le_trans hz13 hz14))
            have HBX := Lib.hid hbx
            have hb15 := Lib.hid (own_upd HO14.out hua.out (fun b e h => by have h1 := (HO14.out.lt b e).1; have h2 := (HL13.out b h).2; omega))
            have HL14 : Hid (∀ b, (Value.slice A14 L14.length c14).ownBlock = some b → w13.heap.size ≤ b) := Lib.hid fun b e => (HO14.out.lt b e).1
            have hz15 := hua.out.size
            obtain ⟨xs15, hx15⟩ := hoa.out
            have HX15 := Lib.hid hx15
            clear HO14 hua hoa hbx HO13b HB14 hx15 hjj
            rename World => w15
            go_wp2_with (at_builtin; refine wpList_push rfl (.tmp 179) (.tmp 181) 31 rfl wc.heap.size 41 i0 _ 4 48 Try.underlying31 hi0 hz0 hz1 hz2 rfl (by omega) _ l.length xs15 #[.string ⟨#[]⟩, .int .i64 0, .bool false, .string ⟨#[]⟩] rfl (by exact HX15.out) rfl rfl (by simp [Value.oneCell']) ?p1 ?p2 ?p3 ?_)
            case p1 => omega
            case p2 => unfold maxLen; omega
            case p3 => omega
            intro v16 w16 ho16 hu16 _
            obtain ⟨A16, c16, rfl⟩ := own_shape ho16
            have hub : Below wc.heap.size w15 w16 := hu16.below (fun b h1 e => by have := (HL13.out b e).1; omega) (by omega)
            have HBX16 := Lib.hid (HBX.out.trans hub)
            have hb16 := Lib.hid (own_upd hb15.out hu16 (fun b e h => by have h1 := HL14.out b e; have h2 := (HL13.out b h).2; omega))
            have hz16 : w15.heap.size ≤ w16.heap.size := hu16.size
            have HBW16 := Lib.hid (HBo.out.trans (HBX16.out.mono HBo.out.size))
            have HRB16 := Lib.hid (Rd.own hb16.out)
            have HT16 := Lib.hid (HTo.out.below HBX16.out)
            clear HBX ho16 hu16 hub hb15 HX15 hb16 HBX16 HTo HBo HL13 HL14
            go_wp2_with fail
            refine (rfrom_any w16 A l.length c l key ((HR.out.below HBW16.out).mono HBW16.out.size) (by omega) hnc).mono ?_
            rintro e w18 ⟨⟨A18, c18, rfl, hr18⟩, hb18⟩
            rw [HLL.out.1, ← HLL.out.2] at hr18
            rw [← HLL.out.2]
            have HR18 := Lib.hid (hr18.mono hb18.size)
            have HRB18 := Lib.hid ((HRB16.out.below hb18).mono hb18.size)
            have HBW18 := Lib.hid (HBW16.out.trans (hb18.mono HBW16.out.size))
            have HT18 := Lib.hid (HT16.out.below hb18)
            have hL14m : L14.length ≤ maxLen := by have := HLL.out.2; unfold maxLen; omega
            clear hr18 hb18 HRB16 HBW16 HT16
            go_wp2_with fail
            refine (same6_yes A14 A18 L14.length c14 c18 _ L14 w18 hL14m HRB18.out HR18.out).mono ?_
            rintro e w19 ⟨rfl, m19, hw19⟩
            have hbd : Below w18.heap.size w18 w19 := by rw [hw19]; exact ⟨rfl, rfl, rfl, Nat.le_refl _, fun _ _ => rfl⟩
            have HBW19 := Lib.hid (HBW18.out.trans (hbd.mono HBW18.out.size))
            have HT19 := Lib.hid (HT18.out.below hbd)
            clear hw19 hbd HR18 HRB18 HBW18 HT18
            go_wp2_with fail
            refine (tall_any w19 _ TB l HT19.out hlen).mono ?_
            rintro e w20 ⟨v20, rfl, ho20, hb20⟩
            obtain ⟨A20, c20, rfl⟩ := own_shape ho20
            have HR20 := Lib.hid (Rd.own ho20)
            have HBW20 := Lib.hid (HBW19.out.trans (hb20.mono HBW19.out.size))
            clear ho20 hb20 HT19 HBW19
            go_wp2_with fail
            refine (same6_yes A20 A l.length c20 c _ l w20 (by unfold maxLen; omega) HR20.out ((HR.out.below HBW20.out).mono HBW20.out.size)).mono ?_
            rintro e w21 ⟨rfl, m21, hw21⟩
            have hbd : Below w20.heap.size w20 w21 := by rw [hw21]; exact ⟨rfl, rfl, rfl, Nat.le_refl _, fun _ _ => rfl⟩
            have HBW21 := Lib.hid (HBW20.out.trans (hbd.mono HBW20.out.size))
            clear hw21 hbd HR20 HBW20
            go_wp2
            go_ret
            exact ⟨rfl, HBW21.out⟩
  · obtain ⟨rfl, h2, h9⟩ := HBAD.out hq0
    have HR2 := Lib.hid ((HR.out.below HB2.out).mono HB2.out.size)
    clear HBAD HGO
    have hqn : ¬ ((q : Int) = 0) := by omega
    go_wp2_with fail
    refine (right_any w2 A l.length c l HR2.out (by omega)).mono ?_
    rintro e w3 ⟨rb, rfl, hri, hb3⟩
    have HB3 := Lib.hid (HB2.out.trans (hb3.mono HB2.out.size))
    cases rb with
    | false =>
      obtain rfl := h9 (fun h => by have := hri.2 h; cases this)
      clear hri hb3 h2 h9 hq0 hqn
      go_wp2
      go_ret
      exact ⟨rfl, HB3.out⟩
    | true =>
      obtain rfl := h2 (hri.1 rfl)
      clear hri hb3 h2 h9 hq0 hqn
      go_wp2
      go_ret
      exact ⟨rfl, HB3.out⟩
end Go.Proofs.Ytanieolnaiihmaa
