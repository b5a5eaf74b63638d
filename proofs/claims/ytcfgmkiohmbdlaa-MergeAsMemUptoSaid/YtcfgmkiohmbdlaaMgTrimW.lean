/- Merging versions: merge.Trim, walked. -/
import Derived.Test.YtcfgmkiohmbdlaaMgTrim
namespace Go.Proofs.Ytcfgmkiohmbdlaa
open Go.RowKit
theorem cutD_len : ∀ K : List Ent, (cutD K).length ≤ K.length := by
  intro K
  induction K with
  | nil => simp [cutD]
  | cons x K ih =>
    simp only [cutD]
    split
    · split <;> simp
    · simp only [List.length_cons]; omega
theorem trimG_len (b : Bool) (seen : List Int) (G : List Ent) : (trimG b seen G).length ≤ G.length := by
  have h1 : (keepG G seen).length ≤ G.length := List.length_filter_le _ _
  have h2 := cutD_len (keepG G seen)
  unfold trimG
  split <;> omega
theorem trims_len (b : Bool) (seen : List Int) : ∀ Gs : List (List Ent), (Gs.map (trimG b seen)).flatten.length ≤ Gs.flatten.length := by
  intro Gs
  induction Gs with
  | nil => simp
  | cons G Gs ih =>
    have := trimG_len b seen G
    simp only [List.map_cons, List.flatten_cons, List.length_append]; omega
theorem mem_flat_len {G : List Ent} {Gs : List (List Ent)} (h : G ∈ Gs) : G.length ≤ Gs.flatten.length := by
  obtain ⟨s1, s2, hss⟩ := List.append_of_mem h
  rw [hss]; simp; omega
set_option maxHeartbeats 4000000 in
set_option maxRecDepth 20000 in
theorem trim_any (w : World) (A : Option Addr) (n c : Nat) (l : List Ent) (b : Bool) (A2 : Option Addr) (m c2 : Nat) (seen : List Int) (hr : Rd w w.heap.size 4 A n (entv l)) (hs : Rd w w.heap.size 1 A2 m (i64v seen)) (hmax : ∀ x ∈ l, x.seq ≤ 9223372036854775807) (hn : n ≤ 1073741824) (hm : m ≤ 1073741824) :
    Calls Try.prog 15 #[.slice A n c, .bool b, .slice A2 m c2] w fun e w' => ∃ v, e = .returned v ∧ w'.ownsRow w.heap.size 26 4 v (trimL (mergeL l) b seen).length (entv (trimL (mergeL l) b seen)) ∧ Below w.heap.size w w' := by
  obtain ⟨i0, hi0, hz0, hz1, hz2⟩ := info_parts ent_info2
  have hln := rd_entlen hr
  have hb0 : Below w.heap.size w (w.alloc (.cells #[.slice A n c] 22)) := (Below.refl _ _).alloc (Nat.le_refl _) _
  have hc := merge_any _ _ 1 1 _ _ (ls_one (c := c) hr) (by decide) (by simp; omega)
  rw [show [l].flatten = l by simp] at hc
  have hml := mergeL_len l
  have hmm : ∀ x ∈ mergeL l, x.seq ≤ 9223372036854775807 := fun x hx => hmax x (mergeL_sub hx)
  obtain ⟨M, hM⟩ : ∃ M, mergeL l = M := ⟨_, rfl⟩
  rw [hM] at hc hml hmm
  have HMM := Lib.hid hM
  have HMX := Lib.hid hmm
  have HS := Lib.hid hs
  have hri := rise_merge l
  rw [hM] at hri
  have HRI := Lib.hid hri
  have hmn : M.length ≤ 1073741824 := by omega
  have HB0 := Lib.hid hb0
  have HC := Lib.hid hc
  clear hr hc hb0 hM hri hln hml hmm hmax hs
  go_enter Try.func15, Try.ntmps15
  go_wp2_with fail
  refine HC.out.mono ?_
  rintro e w1 ⟨v, rfl, ho1, hb1⟩
  obtain ⟨A1, c1, hv1⟩ := own_shape ho1
  subst hv1
  have HB1 := Lib.hid (HB0.out.trans (hb1.mono HB0.out.size))
  obtain ⟨m1, hm1⟩ : ∃ m1, M.length = m1 := ⟨_, rfl⟩
  rw [hm1] at ho1 hmn
  rw [hm1]
  have HG := Lib.hid (groups_any w1 A1 m1 c1 w1.heap.size M (Rd.own ho1) (Nat.le_refl _) HRI.out (own_cap ho1) hmn)
  have HMN := Lib.hid hm1
  clear ho1 hb1 hm1 HC HB0
  go_wp2_with fail
  refine HG.out.mono ?_
  rintro e w2 ⟨v, vs, Gs, rfl, hg, hvl, hls, ho2, hb2⟩
  have hgl := grp_len hg
  rw [HMN.out] at hgl
  have HGR := Lib.hid hg
  obtain ⟨A3, c3, hv2⟩ := own_shape ho2
  subst hv2
  have HRV := Lib.hid (Rd.own ho2)
  have hbw2 : Below w.heap.size w w2 := HB1.out.trans (hb2.mono HB1.out.size)
  have HB2 := Lib.hid hbw2
  have HLS := Lib.hid (fun i h h' => (hls i h h').below hb2)
  have hs12 : w1.heap.size ≤ w2.heap.size := hb2.size
  obtain ⟨N, hN⟩ : ∃ N, vs.length = N := ⟨_, rfl⟩
  rw [hN] at HRV
  rw [hN]
  have hNl : N ≤ 1073741824 := by omega
  have HNV := Lib.hid hN
  have HNG := Lib.hid (hvl.symm.trans hN)
  clear hg hgl ho2 hb2 hls hvl hN hbw2 HG
  go_wp2
  go_loopw [7, 15] (fun ov iv wx => ∃ q : Nat, q ≤ N ∧ iv = .int .i64 q ∧ Hid (wx.ownsRow w2.heap.size 26 4 ov (((Gs.take q).map (trimG b seen)).flatten).length (entv (((Gs.take q).map (trimG b seen)).flatten))) ∧ Hid (Below w2.heap.size w2 wx)) (fun _ iv _ => N - (intOf iv).toNat)
  case atStart => exact ⟨0, Nat.zero_le _, rfl, Lib.hid (World.ownsRow_nil _ _ _ _), Lib.hid (Below.refl _ _)⟩
  case round =>
    obtain ⟨q, hq, rfl, HO, HW⟩ := hrel
    by_cases hlt : q < N
    · have hqv : q < vs.length := by rw [HNV.out]; exact hlt
      have hqg : q < Gs.length := by rw [HNG.out]; exact hlt
      obtain ⟨ad, u, rfl, hb, hu, hcl⟩ := (HRV.out.below HW.out).get hlt
      obtain ⟨A', n', c', hv, hrd⟩ := HLS.out q hqv hqg
      rw [List.getElem?_eq_getElem hqv] at hu
      obtain rfl : vs[q] = u := by simpa using hu
      rw [hv] at hcl
      have hT : (Gs.take (q + 1)).map (trimG b seen) = (Gs.take q).map (trimG b seen) ++ [trimG b seen Gs[q]] := by rw [List.take_succ_eq_append_getElem hqg, List.map_append]; rfl
      have hT2 : ((Gs.take (q + 1)).map (trimG b seen)).flatten = ((Gs.take q).map (trimG b seen)).flatten ++ trimG b seen Gs[q] := by rw [hT]; simp
      have hfl := trims_len b seen (Gs.take (q + 1))
      have hfl2 := flat_take_le Gs (q + 1)
      rw [hT2, List.length_append] at hfl
      have hGf : Fall Gs[q] := grp_fall HRI.out (HGR.out.2 _ (List.getElem_mem hqg)).2
      have hGm : ∀ x ∈ Gs[q], x.seq ≤ 9223372036854775807 := fun x hx => HMX.out x (by rw [← HGR.out.1]; exact List.mem_flatten.2 ⟨_, List.getElem_mem hqg, hx⟩)
      have hGl : Gs[q].length ≤ Gs.flatten.length := mem_flat_len (List.getElem_mem hqg)
      have hfm := congrArg List.length HGR.out.1
      rw [HMN.out] at hfm
      obtain ⟨G, hG⟩ : ∃ G, Gs[q] = G := ⟨_, rfl⟩
      obtain ⟨O, hO⟩ : ∃ O, ((Gs.take q).map (trimG b seen)).flatten = O := ⟨_, rfl⟩
      rw [hG] at hrd hT2 hGf hGm hGl hfl
      rw [hO] at hT2 HO hfl
      obtain ⟨Tg, hTg⟩ : ∃ Tg, trimG b seen G = Tg := ⟨_, rfl⟩
      have hnl := rd_entlen hrd
      have hn' : n' ≤ 1073741824 := by omega
      have hrx := hrd.below (HW.out.mono hs12)
      have hwr := HW.out.size
      have hw2 := HB2.out.size
      have hs1 : w.heap.size ≤ w1.heap.size := HB1.out.size
      have HTR := Lib.hid (trim1_any wr A' n' c' w1.heap.size G b A2 m c2 seen hrx (((HS.out.below HB2.out).below (HW.out.mono hw2)).mono hs1) (by omega) hGf hGm hn' hm)
      rw [hTg] at HTR hT2 hfl
      have HT := Lib.hid hT2
      have hot : O.length + Tg.length ≤ 1073741824 := by omega
      clear hu hv hT hT2 hG hO hrd hnl hrx hqv hqg hfl hfl2 hGf hGm hGl hfm hTg
      go_wp2_with fail
      refine HTR.out.mono ?_
      rintro e w3 ⟨A5, n5, c5, rfl, hr5, hb3⟩
      have HW3 := Lib.hid (HW.out.trans (hb3.mono hwr))
      have HO3 := Lib.hid (own_below HO.out hb3)
      have hn5 := rd_entlen hr5
      have hbs3 := HW3.out.size
      have HR5 := Lib.hid hr5
      have t6 := entv_cell Tg
      have hl5 : O.length + n5 ≤ 1073741824 := by omega
      have HN5 := Lib.hid hn5
      clear hb3 HTR HO hr5 hn5
      go_wp2_with (at_builtin; refine wpList_app rfl (.tmp 19) (.tmp 23) 22 rfl w2.heap.size 26 i0 _ 4 48 Try.underlying22 hi0 hz0 hz1 hz2 rfl (by omega) _ O.length (entv O) w3.heap.size A5 n5 c5 (entv Tg) rfl (by exact HO3.out) rfl HR5.out t6 ?e1 ?e2 ?e3 ?_)
      case e1 => omega
      case e2 => unfold maxLen; omega
      case e3 => exact hbs3
      intro v4 w4 ho4 hu4 _
      have HO4 : Hid (w4.ownsRow w2.heap.size 26 4 v4 (((Gs.take (q + 1)).map (trimG b seen)).flatten).length (entv (((Gs.take (q + 1)).map (trimG b seen)).flatten))) := Lib.hid (by
        rw [HT.out, List.length_append, entv_append, ← HN5.out]; exact ho4)
      have HB4 := Lib.hid (below_row HW3.out hbs3 HO3.out (Nat.le_refl _) hu4)
      clear ho4 hu4 t6 HO3 HR5 HW3
      go_wp2
      go_roundw
      case rel => exact ⟨q + 1, by omega, by go_num, HO4, HB4⟩
      case measure => simp [intOf]; omega
    · have HF : Hid (wr.ownsRow w.heap.size 26 4 u7 (trimL (mergeL l) b seen).length (entv (trimL (mergeL l) b seen))) := Lib.hid (by
        have h := HO.out
        rw [List.take_of_length_le (by rw [HNG.out]; omega), ← trim_flat HRI.out HGR.out, ← HMM.out] at h
        exact own_mono h HB2.out.size)
      have HBF := Lib.hid (HB2.out.trans (HW.out.mono HB2.out.size))
      have hz : ¬ (q : Int) < (N : Int) := by omega
      clear HO
      go_wp2
      go_ret
      exact ⟨_, rfl, HF.out, HBF.out⟩
end Go.Proofs.Ytcfgmkiohmbdlaa
