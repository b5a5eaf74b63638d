/- Tables: TableAsMem, walked. -/
import Derived.Test.YtanieolnaiihmaaJTmC
import Derived.Test.YtanieolnaiihmaaJTbFrom
import Derived.Test.YtanieolnaiihmaaJTbLives
import Derived.Test.YtanieolnaiihmaaSame6
namespace Go.Proofs.Ytanieolnaiihmaa.M6
open Go.RowKit
theorem pair_rises : ∀ (ns : List Nd) (p : Option Ent), (∀ q, p = some q → ∀ d ∈ ns, cmpE q d.x < 0) → (ns.Pairwise fun a b => cmpE a.x b.x < 0) → risesE p (ents ns) := by
  intro ns
  induction ns with
  | nil => intro p _ _; trivial
  | cons d ns ih =>
    intro p hp h
    rw [List.pairwise_cons] at h
    refine ⟨fun q hq => ?_, ih (some d.x) (fun q hq e he => ?_) h.2⟩
    · rw [less_cmp, decide_eq_true_eq]
      exact hp q hq d (by simp)
    · injection hq with hq
      rw [← hq]
      exact h.1 e he
theorem ents_right {ns : List Nd} {l : List Ent} (hr : ns.Pairwise fun a b => cmpE a.x b.x < 0) (hl : ents ns = l.foldl insE []) : rightE (ents ns) := by
  refine ⟨fun y hy => ?_, pair_rises ns none (fun q hq => by cases hq) hr⟩
  rw [hl] at hy
  rcases foldE_mem hy with h | ⟨x, _, rfl⟩
  · cases h
  · intro hd
    unfold clean at hd ⊢
    split
    · rfl
    · rename_i hc
      rw [if_neg hc] at hd
      exact absurd hd hc
theorem ents_ok {ns : List Nd} {l : List Ent} {S : Nat} (hl : ents ns = l.foldl insE []) (hok : ∀ x ∈ l, (-9223372036854775808 ≤ x.seq ∧ x.seq ≤ 9223372036854775807) ∧ x.key.size ≤ S ∧ x.val.size ≤ S) : ∀ x ∈ ents ns, (-9223372036854775808 ≤ x.seq ∧ x.seq ≤ 9223372036854775807) ∧ x.key.size ≤ S ∧ x.val.size ≤ S := by
  intro y hy
  rw [hl] at hy
  rcases foldE_mem hy with h | ⟨x, hx, rfl⟩
  · cases h
  · have := hok x hx
    have hv := clean_val x
    rw [clean_seq, clean_key]
    omega
theorem bldT_badM {l : List Ent} (hr : rightE l) (h : ¬ (bldT l).2 = 0) : (bldT l).2 = 2 := by
  unfold bldT at h ⊢
  rw [if_pos hr] at h ⊢
  unfold sealR at h ⊢
  split
  · rename_i hf; rw [if_pos hf] at h; exact absurd rfl h
  · rfl
theorem tget_goM {w : World} {base TB : Nat} {l : List Ent} (key : ByteArray) (sq : Int) (hT : TabAt base w TB l) (hl : l.length ≤ 1000000000000) (hk : key.size ≤ maxLen) (hr : rightE l) :
    Calls Try.prog 27 #[.pointer (some ⟨TB, 0, none⟩), .string key, .int .i64 sq] w fun e w' => ∃ (y : Ent) (gb : Bool), Hid (y = (getE l key sq).getD noEnt ∧ gb = (getE l key sq).isSome) ∧ e = .returned (.tuple #[.agg #[.string y.key, .int .i64 y.seq, .bool y.dead, .string y.val], .bool gb]) ∧ Below w.heap.size w w' := by
  refine (tget_any w base TB l key sq hT hl hk (hit_mono hr key sq)).mono ?_
  rintro e w' ⟨hb, r, h1, h2, h3, rfl⟩
  have hg := getT_is hr h1 h2 h3
  exact ⟨_, _, Lib.hid ⟨rfl, rfl⟩, by rw [hg]; rfl, hb⟩
theorem mget_go {w : World} {B t : Nat} {ns : List Nd} {n bytes turn : Int} {hv : Value} {hs : List Int} (key : ByteArray) (sq : Int) (h : Skip w B t ns n bytes hv hs turn) :
    Calls Try.prog 39 #[.pointer (some ⟨t, 0, none⟩), .string key, .int .i64 sq] w fun e w' => ∃ (y : Ent) (gb : Bool), Hid (y = (getE (ents ns) key sq).getD noEnt ∧ gb = (getE (ents ns) key sq).isSome) ∧ e = .returned (.tuple #[.agg #[.string y.key, .int .i64 y.seq, .bool y.dead, .string y.val], .bool gb]) ∧ Below w.heap.size w w' := by
  have := get_any w key sq h
  rw [getN_getE _ _ _ h.rise] at this
  exact this.mono fun e w' h => ⟨_, _, Lib.hid ⟨rfl, rfl⟩, h.1, h.2⟩
theorem mfrom_go {w : World} {B t : Nat} {ns : List Nd} {n bytes turn : Int} {hv : Value} {hs : List Int} (key : ByteArray) (h : Skip w B t ns n bytes hv hs turn) (hn : ns.length ≤ 1099511627776) (hq : ∀ d ∈ ns, d.x.seq ≤ 9223372036854775807) :
    Calls Try.prog 40 #[.pointer (some ⟨t, 0, none⟩), .string key] w fun e w' => ∃ v, e = .returned v ∧ w'.ownsRow w.heap.size 41 4 v ((ents ns).drop (fromE (ents ns) key)).length (entv ((ents ns).drop (fromE (ents ns) key))) ∧ Below w.heap.size w w' := by
  have := fromk_any w key h hn
  rw [fromAt_fromE ns key hq] at this
  refine this.mono fun e w' h => ?_
  obtain ⟨v, h1, h2, h3⟩ := h
  refine ⟨v, h1, ?_, h3⟩
  rw [List.length_drop, show (ents ns).length = ns.length by simp [ents]]
  exact h2
set_option maxHeartbeats 8000000 in
set_option maxRecDepth 20000 in
theorem tasmem_any (w : World) (A0 : Option Addr) (n0 c0 : Nat) (a : List Int) (hr0 : Rd w w.heap.size 1 A0 n0 (a.map (Value.int .i64))) (hn0 : n0 ≤ 1048576) (A : Option Addr) (n c : Nat) (l : List Ent) (hr : Rd w w.heap.size 4 A n (entv l)) (hn : n ≤ 1048576)
    (hok : ∀ x ∈ l, (-9223372036854775808 ≤ x.seq ∧ x.seq ≤ 9223372036854775807) ∧ x.key.size ≤ 1048576 ∧ x.val.size ≤ 1048576) (hz : sizE l ≤ 2097152)
    (hbb : ∀ m : List Ent, (∀ x ∈ m, (-9223372036854775808 ≤ x.seq ∧ x.seq ≤ 9223372036854775807) ∧ x.key.size ≤ 1048576 ∧ x.val.size ≤ 1048576) → m.length ≤ l.length → sizE m ≤ sizE l → okE 1048576 m ∧ (bldT m).1.length ≤ 268435456)
    (A2 : Option Addr) (n2 c2 : Nat) (ks : List ByteArray) (hr2 : Rd w w.heap.size 1 A2 n2 (strv ks)) (hn2 : n2 ≤ 8796093022208) (hks : ∀ k ∈ ks, k.size ≤ maxLen) :
    Calls Try.prog 7 #[.slice A0 n0 c0, .slice A n c, .slice A2 n2 c2] w fun e w' => e = .returned (.bool true) ∧ Below w.heap.size w w' := by
  have HR0 := Lib.hid hr0
  have HR := Lib.hid hr
  have HR2 := Lib.hid hr2
  have HML := Lib.hid (rd_entlen hr)
  have HNA : Hid (a.length = n0) := Lib.hid (by have := hr0.len; simpa using this)
  have HOK := Lib.hid hok
  have HBB := Lib.hid hbb
  have HKS := Lib.hid hks
  have HZ := Lib.hid hz
  clear hr0 hr hr2 hok hbb hks hz
  go_enter Try.func7, Try.ntmps7
  go_wp2_with fail
  refine (tlives_any _).mono ?_
  rintro e w1 ⟨rfl, hb1⟩
  go_wp2_with fail
  refine (new_any _ A0 n0 c0 a ((HR0.out.below hb1).mono hb1.size) (by omega)).mono ?_
  rintro e w2 ⟨t, hv, rfl, hsk, hb2⟩
  have hb := bel hb1 hb2
  have hBl : w.heap.size ≤ w1.heap.size := hb1.size
  have HSK := Lib.hid hsk
  have HB2 := Lib.hid hb
  have htl := hsk.tbase
  clear hb1 hb2 hsk hb HR0
  have hhl : (highs a).length ≤ 17592186044416 := by rw [highs_len, HNA.out]; omega
  go_wp2_with fail
  refine (add_any _ HSK.out A n c l ((HR.out.below HB2.out).mono HB2.out.size) (fun h0 ad e hf => by
    subst e
    have h1 := (HR.out.at_ h0)
    obtain ⟨ad', e, h2, _⟩ := h1
    injection e with e
    subst e
    rcases hf with hf | ⟨d, hd, _⟩
    · omega
    · cases hd) (by omega) (by omega) hhl (by simp; omega) (by have h1 := HZ.out; have h2 : sizE (ents ([] : List Nd)) = 0 := rfl; omega)).mono ?_
  rintro e w3 ⟨ns, tk, rfl, had⟩
  have hb3 : Below w.heap.size w w3 := HB2.out.trans (had.upd.below (fun b hb hf => by
    rcases hf with hf | ⟨d, hd, _⟩
    · omega
    · cases hd) HB2.out.size)
  have HB3 := Lib.hid hb3
  have HS3 := Lib.hid had.skip
  have hlist : ents ns = l.foldl insE [] := had.list
  have hnl : ns.length ≤ l.length := by have := had.len; simpa using this
  have hsz : sizE (ents ns) ≤ sizE l := by have := had.size; simpa [sizE, ents] using this
  have hml := HML.out
  have hMl : (ents ns).length = ns.length := by simp [ents]
  have hMok := ents_ok hlist HOK.out
  obtain ⟨hM1, hM2⟩ := HBB.out (ents ns) hMok (by omega) hsz
  have hMR := ents_right had.skip.rise hlist
  obtain ⟨M, hM⟩ : ∃ M, ents ns = M := ⟨_, rfl⟩
  rw [hM] at hMl hMok hM1 hM2 hMR
  have HM := Lib.hid hM
  have hns : ns.length ≤ 1048576 := by omega
  have HMR := Lib.hid hMR
  have HMO := Lib.hid hMok
  have HM1 := Lib.hid hM1
  have HAL : Hid (∀ W, Below w3.heap.size w3 W → Calls Try.prog 37 #[.pointer (some ⟨t, 0, none⟩)] W fun e w' => ∃ v, e = .returned v ∧ w'.ownsRow W.heap.size 41 4 v M.length (entv M) ∧ Below W.heap.size W w') := Lib.hid (fun W hW => by
    have := all_any W (HS3.out.below hW) (by omega)
    rw [hMl]
    rwa [show ns.map (·.x) = M from hM] at this)
  have HNL := Lib.hid hMl
  clear had hb3 hlist hsz hml hMok hMR hM HSK HB2 HZ HBB HOK hM1 htl hMl
  go_wp2_with fail
  refine (HAL.out w3 (Below.refl _ _)).mono ?_
  rintro e w4 ⟨v4, rfl, ho4, hb4⟩
  obtain ⟨A4, c4, rfl⟩ := own_shape ho4
  have HTB := Lib.hid (tbuild_any w4 A4 M.length c4 M (S := 1048576) (Nat.le_refl _) HM1.out (Rd.own ho4) (own_capT ho4))
  obtain ⟨T, hT⟩ : ∃ T : ByteArray, (⟨(bldT M).1.toArray⟩ : ByteArray) = T := ⟨_, rfl⟩
  have hTd : T.data.toList = (bldT M).1 := by rw [← hT]
  have hTs : T.size = (bldT M).1.length := by rw [← hTd]; rfl
  obtain ⟨q, hq⟩ : ∃ q, (bldT M).2 = q := ⟨_, rfl⟩
  rw [hT, hq] at HTB
  have HGO : Hid (q = 0 → openT T.data.toList = some M) := Lib.hid (fun h0 => by rw [hTd]; exact open_bld (Nat.le_refl 1048576) HM1.out (hq.trans h0))
  have HBAD : Hid (¬ q = 0 → q = 2) := Lib.hid (fun h0 => by
    have := bldT_badM HMR.out (fun h => h0 (hq.symm.trans h))
    exact hq.symm.trans this)
  have hT28 : T.size ≤ 268435456 := by omega
  have HB34 := Lib.hid hb4
  clear ho4 hb4 hT hTd hTs hq hM2
  go_wp2_with fail
  refine HTB.out.mono ?_
  rintro e w5 ⟨rfl, hb5⟩
  have HB35 := Lib.hid (HB34.out.trans (hb5.mono HB34.out.size))
  clear hb5 HB34 HTB
  by_cases hq0 : q = 0
  · have HOP := Lib.hid (HGO.out hq0)
    clear HGO HBAD
    subst hq0
    go_wp2_with fail
    refine (open_any w5 T hT28).mono ?_
    rintro e wx ⟨hbx, hpo⟩
    rw [HOP.out] at hpo
    obtain ⟨TB, rfl, hta⟩ := hpo
    have HTX := Lib.hid hta
    have hb3x := HB35.out.trans (hbx.mono HB35.out.size)
    have HSX := Lib.hid (HS3.out.below hb3x)
    have HBX := Lib.hid (HB3.out.trans (hb3x.mono HB3.out.size))
    have HMX : Hid (∀ W, Below wx.heap.size wx W → Calls Try.prog 37 #[.pointer (some ⟨t, 0, none⟩)] W fun e w' => ∃ v, e = .returned v ∧ w'.ownsRow W.heap.size 41 4 v M.length (entv M) ∧ Below W.heap.size W w') := Lib.hid (fun W hW => HAL.out W (hb3x.trans (hW.mono hb3x.size)))
    have HAX : Hid (∀ W, Below wx.heap.size wx W → Calls Try.prog 22 #[.pointer (some ⟨TB, 0, none⟩)] W fun e w' => ∃ v, e = .returned v ∧ w'.ownsRow W.heap.size 41 4 v M.length (entv M) ∧ Below wx.heap.size wx w') := Lib.hid (fun W hW => (tall_any W _ TB M (HTX.out.below hW) (by have := HNL.out; omega)).mono fun e w' ⟨v, h1, h2, h3⟩ => ⟨v, h1, h2, hW.trans (h3.mono hW.size)⟩)
    have HLX : Hid (∀ W, Below wx.heap.size wx W → Calls Try.prog 24 #[.pointer (some ⟨TB, 0, none⟩)] W fun e w' => e = .returned (.int .i64 (ns.length : Int)) ∧ Below wx.heap.size wx w') := Lib.hid (fun W hW => (tlen_any W _ TB M (HTX.out.below hW)).mono fun e w' h => ⟨by rw [← HNL.out]; exact h.1, by rw [h.2]; exact hW⟩)
    have HLM : Hid (∀ W, Below wx.heap.size wx W → Calls Try.prog 38 #[.pointer (some ⟨t, 0, none⟩)] W fun e w' => e = .returned (.int .i64 (ns.length : Int)) ∧ Below wx.heap.size wx w') := Lib.hid (fun W hW => (len_any W (HSX.out.below hW)).mono fun e w' h => ⟨h.1, by rw [h.2]; exact hW⟩)
    have hb0 := Below.refl wx.heap.size wx
    have hMm : M.length ≤ maxLen := by have := HNL.out; unfold maxLen; omega
    clear hbx hta hb3x HOP HAL HB35 HS3 HB3
    go_wp2_with fail
    go_region_held3 (fun W => Below wx.heap.size wx W) (first | assumption | exact Below.drew hb0) (first
      | (go_at_call 24; refine (HLX.out _ (by assumption)).mono ?_; rintro e wa ⟨rfl, hSa⟩)
      | (go_at_call 38; refine (HLM.out _ (by assumption)).mono ?_; rintro e wb ⟨rfl, hSb⟩)
      | (go_at_call 22; refine (HAX.out _ (by assumption)).mono ?_; rintro e wc ⟨vc, rfl, hoc, hSc⟩; obtain ⟨Ac, cc, rfl⟩ := own_shape hoc; have hrc := Rd.own hoc; clear hoc)
      | (go_at_call 37; refine (HMX.out _ (by assumption)).mono ?_; rintro e wd ⟨vd, rfl, hod, hbd⟩; obtain ⟨Ad, cd, rfl⟩ := own_shape hod; have hrd := Rd.own hod; have hrc2 := (hrc.below hbd).mono hbd.size; have hSd : Below wx.heap.size wx wd := hSc.trans (hbd.mono hSc.size); clear hod hbd)
      | (go_at_call 20; refine (same6_yes Ac Ad M.length cc cd _ M _ hMm hrc2 hrd).mono ?_; rintro e we ⟨rfl, m, hwe⟩; have hSe : Below wx.heap.size wx we := (by rw [hwe]; exact below_drewNs hSd m); clear hwe)
      | fail)
    go_wp2
    clear hSa hSb hSc hSd hrc hrc2 hrd hb0 HAX HMX HLX HLM
    go_loopw [66] (fun iv wy => ∃ k : Nat, k ≤ n2 ∧ iv = .int .i64 (k : Int) ∧ Hid (Below wx.heap.size wx wy)) (fun iv _ => n2 - (intOf iv).toNat)
    case atStart => exact ⟨0, Nat.zero_le _, rfl, Lib.hid hSe⟩
    case round =>
      obtain ⟨k, hk, rfl, hB⟩ := hrel
      by_cases hlt : k < n2
      · have hBw := HBX.out.trans (hB.out.mono HBX.out.size)
        obtain ⟨ad, rfl, hab, hs, hc⟩ := (HR2.out.below hBw).str hlt
        obtain ⟨key, hkey⟩ : ∃ key, ks[k] = key := ⟨_, rfl⟩
        have hkm : key.size ≤ maxLen := by rw [← hkey]; exact HKS.out _ (List.getElem_mem hs)
        rw [hkey] at hc
        have hki : (k : Int) < (n2 : Int) := by omega
        have hk0 : (0 : Int) ≤ (k : Int) := by omega
        have hMl2 : M.length ≤ 1000000000000 := by have := HNL.out; omega
        have HTR := Lib.hid (HTX.out.below hB.out)
        have HSR := Lib.hid (HSX.out.below hB.out)
        have HGR := Lib.hid (tget_goM key (k : Int) HTR.out hMl2 hkm HMR.out)
        clear hkey hBw hSe
        go_wp2_with fail
        refine HGR.out.mono ?_
        rintro e w7 ⟨y, gb, hyy, rfl, hb7⟩
        have hbA := hb7.alloc hb7.size (.cells #[.string y.key, .int .i64 y.seq, .bool y.dead, .string y.val] 41)
        have hmg := mget_go key (k : Int) (HSR.out.below hbA)
        rw [HM.out] at hmg
        have HMG := Lib.hid hmg
        have hl7 : w7.heap.size < (w7.alloc (.cells #[.string y.key, .int .i64 y.seq, .bool y.dead, .string y.val] 41)).heap.size := by simp
        clear hmg HGR hc
        go_wp2_with fail
        refine HMG.out.mono ?_
        rintro e w8 ⟨y2, gb2, hyy2, rfl, hb8⟩
        obtain rfl : y2 = y := hyy2.out.1.trans hyy.out.1.symm
        obtain rfl : gb2 = gb := hyy2.out.2.trans hyy.out.2.symm
        have hbC : Below wr.heap.size wr w8 := hbA.trans (hb8.mono hbA.size)
        have hr8 : w8.heap[w7.heap.size]? = some (.cells #[.string y2.key, .int .i64 y2.seq, .bool y2.dead, .string y2.val] 41 (0, 0)) := (hb8.block _ hl7).trans (heap_alloc_new w7 _)
        have q0 : w8.cell? ⟨w7.heap.size, 0, none⟩ = some (.string y2.key) := by rw [cell_of_row _ _ 0 _ _ _ hr8]; rfl
        have q1 : w8.cell? ⟨w7.heap.size, 1, none⟩ = some (.int .i64 y2.seq) := by rw [cell_of_row _ _ 1 _ _ _ hr8]; rfl
        have q2 : w8.cell? ⟨w7.heap.size, 2, none⟩ = some (.bool y2.dead) := by rw [cell_of_row _ _ 2 _ _ _ hr8]; rfl
        have q3 : w8.cell? ⟨w7.heap.size, 3, none⟩ = some (.string y2.val) := by rw [cell_of_row _ _ 3 _ _ _ hr8]; rfl
        have hl8 : w7.heap.size < w8.heap.size := (Array.getElem?_eq_some_iff.1 hr8).1
        have hbD := hbC.alloc hbC.size (.cells #[.string y2.key, .int .i64 y2.seq, .bool y2.dead, .string y2.val] 41)
        have HFT := Lib.hid (tfrom_any _ _ TB M key (HTR.out.below hbD) hMl2 HMR.out (fun x hx => (HMO.out x hx).1.2))
        have HBD := Lib.hid hbD
        clear hb7 hbA hb8 hyy hyy2 hbC hr8 hbD HMG hl7
        go_wp2_with fail
        refine HFT.out.mono ?_
        rintro e w9 ⟨v9, rfl, ho9, hb9⟩
        have HB9 := Lib.hid (HBD.out.trans (hb9.mono HBD.out.size))
        have hmf := mfrom_go key (HSR.out.below HB9.out) (by omega) (fun d hd => (HMO.out d.x (by rw [← HM.out]; exact List.mem_map_of_mem hd)).1.2)
        rw [HM.out] at hmf
        have HMF := Lib.hid hmf
        obtain ⟨L, hL⟩ : ∃ L, M.drop (fromE M key) = L := ⟨_, rfl⟩
        rw [hL] at HMF ho9
        have hLm : L.length ≤ maxLen := by rw [← hL, List.length_drop]; unfold maxLen; omega
        obtain ⟨A9, c9, rfl⟩ := own_shape ho9
        have HR9 := Lib.hid (Rd.own ho9)
        clear ho9 hb9 hmf HFT HBD q0 q1 q2 q3 hl8 hL
        go_wp2_with fail
        refine HMF.out.mono ?_
        rintro e w10 ⟨v10, rfl, ho10, hb10⟩
        obtain ⟨A10, c10, rfl⟩ := own_shape ho10
        have HR10 := Lib.hid (Rd.own ho10)
        have HR9b := Lib.hid ((HR9.out.below hb10).mono hb10.size)
        have HB10 := Lib.hid (HB9.out.trans (hb10.mono HB9.out.size))
        clear ho10 hb10 HMF HR9 HB9
        go_wp2_with fail
        refine (same6_yes A9 A10 L.length c9 c10 _ L w10 hLm HR9b.out HR10.out).mono ?_
        rintro e w11 ⟨rfl, m11, hw11⟩
        have HB11 : Hid (Below wx.heap.size wx w11) := Lib.hid (by
          have h1 : Below w10.heap.size w10 w11 := by rw [hw11]; exact ⟨rfl, rfl, rfl, Nat.le_refl _, fun _ _ => rfl⟩
          exact hB.out.trans ((HB10.out.trans (h1.mono HB10.out.size)).mono hB.out.size))
        clear hw11 HR9b HR10 HB10 HTR HSR
        go_wp2
        go_roundw
        case rel => exact ⟨k + 1, hlt, by go_num, HB11⟩
        case measure => simp [intOf]; omega
      · have hki : ¬ (k : Int) < (n2 : Int) := by omega
        go_wp2
        go_ret
        exact ⟨rfl, HBX.out.trans (hB.out.mono HBX.out.size)⟩
  · obtain rfl := HBAD.out hq0
    clear HBAD HGO hq0
    go_wp2
    go_ret
    exact ⟨rfl, HB3.out.trans (HB35.out.mono HB3.out.size)⟩
end Go.Proofs.Ytanieolnaiihmaa.M6
