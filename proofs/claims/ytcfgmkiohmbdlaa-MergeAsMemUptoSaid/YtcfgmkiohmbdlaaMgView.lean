/- Merging versions: merge.View, walked. -/
import Derived.Test.YtcfgmkiohmbdlaaMgNew
namespace Go.Proofs.Ytcfgmkiohmbdlaa
open Go.RowKit
theorem own_cap {w : World} {base size n c : Nat} {e : TypeId} {A : Option Addr} {xs : List Value} (h : w.ownsRow base e size (.slice A n c) n xs) : n ≤ c := by
  rcases h.2 with ⟨h1, h2⟩ | ⟨g, cap, cur, h1, _, _, h2, _⟩
  · omega
  · injection h1 with _ _ h3; omega
theorem grp_len {L : List Ent} {Gs : List (List Ent)} (h : Grp L Gs) : Gs.length ≤ L.length := by
  have key : ∀ Hs : List (List Ent), (∀ G ∈ Hs, G ≠ []) → Hs.length ≤ Hs.flatten.length := by
    intro Hs
    induction Hs with
    | nil => intro _; simp
    | cons G Hs ih =>
      intro hm
      have := ih fun H hH => hm H (by simp [hH])
      have : 0 < G.length := List.length_pos_iff.2 (hm G (by simp))
      simp only [List.flatten_cons, List.length_append, List.length_cons]; omega
  have := key Gs fun G hG => (h.2 G hG).1
  rwa [h.1] at this
/-- One list, as the lists that are handed over. -/
theorem ls_one {w : World} {A : Option Addr} {n c : Nat} {l : List Ent} (hr : Rd w w.heap.size 4 A n (entv l)) : LsRd (w.alloc (.cells #[.slice A n c] 22)) (w.alloc (.cells #[.slice A n c] 22)).heap.size (some ⟨w.heap.size, 0, none⟩) 1 [.slice A n c] [l] := by
  have hb : Below w.heap.size w (w.alloc (.cells #[.slice A n c] 22)) := (Below.refl _ _).alloc (Nat.le_refl _) _
  refine ⟨?_, rfl, fun i h h' => ?_⟩
  · have := Rd.new (w := w) (size := 1) (n := 1) #[.slice A n c] 22 rfl
    simpa using this
  · have hi : i = 0 := by simp at h; omega
    subst hi
    exact ⟨A, n, c, rfl, (hr.below hb).mono hb.size⟩
theorem seen_len (G : List Ent) (a : Int) : (seenG G a).length ≤ 1 := by
  unfold seenG; split
  · split <;> simp
  · simp
set_option maxHeartbeats 4000000 in
set_option maxRecDepth 20000 in
theorem view_any (w : World) (A : Option Addr) (n c : Nat) (l : List Ent) (a : Int) (hr : Rd w w.heap.size 4 A n (entv l)) (hn : n ≤ 1073741824) :
    Calls Try.prog 17 #[.slice A n c, .int .i64 a] w fun e w' => ∃ v, e = .returned v ∧ w'.ownsRow w.heap.size 26 4 v (viewL (mergeL l) a).length (entv (viewL (mergeL l) a)) ∧ Below w.heap.size w w' := by
  obtain ⟨i0, hi0, hz0, hz1, hz2⟩ := info_parts ent_info2
  have hln := rd_entlen hr
  have hb0 : Below w.heap.size w (w.alloc (.cells #[.slice A n c] 22)) := (Below.refl _ _).alloc (Nat.le_refl _) _
  have hc := merge_any _ _ 1 1 _ _ (ls_one (c := c) hr) (by decide) (by simp; omega)
  rw [show [l].flatten = l by simp] at hc
  have hml := mergeL_len l
  obtain ⟨M, hM⟩ : ∃ M, mergeL l = M := ⟨_, rfl⟩
  rw [hM] at hc hml
  have HMM := Lib.hid hM
  have hri := rise_merge l
  rw [hM] at hri
  have HRI := Lib.hid hri
  have hmn : M.length ≤ 1073741824 := by omega
  have HB0 := Lib.hid hb0
  have HC := Lib.hid hc
  clear hr hc hb0 hM hri hln hml
  go_enter Try.func17, Try.ntmps17
  go_wp2_with fail
  refine HC.out.mono ?_
  rintro e w1 ⟨v, rfl, ho1, hb1⟩
  obtain ⟨A1, c1, hv1⟩ := own_shape ho1
  subst hv1
  have HB1 := Lib.hid (HB0.out.trans (hb1.mono HB0.out.size))
  obtain ⟨m, hm⟩ : ∃ m, M.length = m := ⟨_, rfl⟩
  rw [hm] at ho1 hmn
  rw [hm]
  have HG := Lib.hid (groups_any w1 A1 m c1 w1.heap.size M (Rd.own ho1) (Nat.le_refl _) HRI.out (own_cap ho1) hmn)
  have HMN := Lib.hid hm
  clear ho1 hb1 hm HC HB0
  go_wp2_with fail
  refine HG.out.mono ?_
  rintro e w2 ⟨v, vs, Gs, rfl, hg, hvl, hls, ho2, hb2⟩
  have hgl := grp_len hg
  rw [HMN.out] at hgl
  have HGR := Lib.hid hg
  obtain ⟨A2, c2, hv2⟩ := own_shape ho2
  subst hv2
  have HRV := Lib.hid (Rd.own ho2)
  have hbw2 : Below w.heap.size w w2 := HB1.out.trans (hb2.mono HB1.out.size)
  have HB2 := Lib.hid hbw2
  have HLS := Lib.hid (fun i h h' => (hls i h h').below hb2)
  have hs12 : w1.heap.size ≤ w2.heap.size := hb2.size
  obtain ⟨N, hN⟩ : ∃ N, vs.length = N := ⟨_, rfl⟩
  rw [hN] at HRV
  rw [hN]
  have hNl : N ≤ 1073741824 := by omega
  have HNV := Lib.hid hN
  have HNG := Lib.hid (hvl.symm.trans hN)
  clear hg hgl ho2 hb2 hls hvl hN hbw2 HG
  go_wp2
  go_loopw [5, 14] (fun ov iv wx => ∃ q : Nat, q ≤ N ∧ iv = .int .i64 q ∧ Hid ((((Gs.take q).map fun G => seenG G a).flatten).length ≤ q ∧ wx.ownsRow w2.heap.size 26 4 ov (((Gs.take q).map fun G => seenG G a).flatten).length (entv (((Gs.take q).map fun G => seenG G a).flatten))) ∧ Hid (Below w2.heap.size w2 wx)) (fun _ iv _ => N - (intOf iv).toNat)
  case atStart => exact ⟨0, Nat.zero_le _, rfl, Lib.hid ⟨by simp, World.ownsRow_nil _ _ _ _⟩, Lib.hid (Below.refl _ _)⟩
  case round =>
    obtain ⟨q, hq, rfl, HO, HW⟩ := hrel
    by_cases hlt : q < N
    · have hqv : q < vs.length := by rw [HNV.out]; exact hlt
      have hqg : q < Gs.length := by rw [HNG.out]; exact hlt
      obtain ⟨ad, u, rfl, hb, hu, hcl⟩ := (HRV.out.below HW.out).get hlt
      obtain ⟨A', n', c', hv, hrd⟩ := HLS.out q hqv hqg
      rw [List.getElem?_eq_getElem hqv] at hu
      obtain rfl : vs[q] = u := by simpa using hu
      rw [hv] at hcl
      have hT : (Gs.take (q + 1)).map (fun G => seenG G a) = (Gs.take q).map (fun G => seenG G a) ++ [seenG Gs[q] a] := by rw [List.take_succ_eq_append_getElem hqg, List.map_append]; rfl
      have hT2 : ((Gs.take (q + 1)).map fun G => seenG G a).flatten = ((Gs.take q).map fun G => seenG G a).flatten ++ seenG Gs[q] a := by rw [hT]; simp
      obtain ⟨G, hG⟩ : ∃ G, Gs[q] = G := ⟨_, rfl⟩
      obtain ⟨O, hO⟩ : ∃ O, ((Gs.take q).map fun G => seenG G a).flatten = O := ⟨_, rfl⟩
      rw [hG] at hrd hT2
      rw [hO] at hT2 HO
      have HT := Lib.hid hT2
      have hnl := rd_entlen hrd
      have hn' : n' ≤ 1073741824 := by
        have h1 := congrArg List.length HGR.out.1
        have h2 : G.length ≤ Gs.flatten.length := by
          obtain ⟨s1, s2, hss⟩ := List.append_of_mem (List.getElem_mem hqg)
          rw [hG] at hss
          rw [hss]; simp; omega
        rw [h1, HMN.out] at h2
        omega
      have hrx := hrd.below (HW.out.mono hs12)
      have HRX := Lib.hid hrx
      have hwr := HW.out.size
      have HNE := Lib.hid (newest_any wr A' n' c' w1.heap.size G a hrx (by omega) hn')
      have HNL := Lib.hid hnl
      clear hu hv hT hT2 hG hO hrd hnl hrx hqv hqg
      go_wp2_with fail
      refine HNE.out.mono ?_
      rintro e w3 ⟨rfl, hb3⟩
      have HW3 := Lib.hid (HW.out.trans (hb3.mono hwr))
      have HO3 := Lib.hid (own_below HO.out.2 hb3)
      have HRX3 := Lib.hid (HRX.out.below (hb3.mono (by omega)))
      have HQL := Lib.hid HO.out.1
      clear hb3 HNE HO HRX
      have hbs3 := HW3.out.size
      rcases idxN_range G a with hi | ⟨k, hk, hi⟩
      · have HS : Hid (seenG G a = []) := Lib.hid (seen_no (by rw [hi]; decide))
        have HO4 : Hid ((((Gs.take (q + 1)).map fun G => seenG G a).flatten).length ≤ q + 1 ∧ w3.ownsRow w2.heap.size 26 4 u5 (((Gs.take (q + 1)).map fun G => seenG G a).flatten).length (entv (((Gs.take (q + 1)).map fun G => seenG G a).flatten))) := Lib.hid (by
          rw [HT.out, HS.out, List.append_nil]
          exact ⟨by have := HQL.out; omega, HO3.out⟩)
        rw [hi]
        clear hi
        go_wp2
        go_roundw
        case rel => exact ⟨q + 1, by omega, by go_num, HO4, HW3⟩
        case measure => simp [intOf]; omega
      · have hkn : k < n' := by rw [HNL.out]; exact hk
        obtain ⟨b, off, rfl, hbb, hs, e0, e1, e2, e3⟩ := HRX3.out.ent hkn
        have hsn := seen_at hk hi
        obtain ⟨x, hx⟩ : ∃ x, G[k] = x := ⟨_, rfl⟩
        rw [hx] at e0 e1 e2 e3 hsn
        obtain ⟨x1, x2, x3, x4⟩ := x
        simp only at e0 e1 e2 e3 hsn
        rw [hi]
        cases x3 with
        | true =>
          have HS : Hid (seenG G a = []) := Lib.hid (by rw [hsn]; rfl)
          have HO4 : Hid ((((Gs.take (q + 1)).map fun G => seenG G a).flatten).length ≤ q + 1 ∧ w3.ownsRow w2.heap.size 26 4 u5 (((Gs.take (q + 1)).map fun G => seenG G a).flatten).length (entv (((Gs.take (q + 1)).map fun G => seenG G a).flatten))) := Lib.hid (by
            rw [HT.out, HS.out, List.append_nil]
            exact ⟨by have := HQL.out; omega, HO3.out⟩)
          clear hi hsn hx
          go_wp2
          go_roundw
          case rel => exact ⟨q + 1, by omega, by go_num, HO4, HW3⟩
          case measure => simp [intOf]; omega
        | false =>
          have HS : Hid (seenG G a = [⟨x1, x2, false, x4⟩]) := Lib.hid (by rw [hsn]; rfl)
          have hol : O.length ≤ 1073741824 := by have := HQL.out; omega
          have hbw : w.heap.size ≤ w3.heap.size := Nat.le_trans HB2.out.size hbs3
          clear hi hsn hx
          go_wp2_with (at_builtin; refine wpList_push (w := w3) rfl (.tmp 31) (.tmp 36) 22 rfl w2.heap.size 26 i0 _ 4 48 Try.underlying22 hi0 hz0 hz1 hz2 rfl (by decide) _ O.length (entv O) #[.string x1, .int .i64 x2, .bool false, .string x4] rfl (by exact HO3.out) rfl rfl (by simp [Value.oneCell']) ?a2 ?a3 ?a4 ?_)
          case a2 => omega
          case a3 => unfold maxLen; omega
          case a4 => exact hbs3
          intro v4 w4 hown4 hu4 hat4
          have HO4 : Hid ((((Gs.take (q + 1)).map fun G => seenG G a).flatten).length ≤ q + 1 ∧ w4.ownsRow w2.heap.size 26 4 v4 (((Gs.take (q + 1)).map fun G => seenG G a).flatten).length (entv (((Gs.take (q + 1)).map fun G => seenG G a).flatten))) := Lib.hid (by
            rw [HT.out, HS.out, List.length_append, entv_append, entv_one]
            exact ⟨by have := HQL.out; simp; omega, hown4⟩)
          have HW4 := Lib.hid (below_row HW3.out hbs3 HO3.out (Nat.le_refl _) hu4)
          clear hown4 hu4 hat4
          go_wp2
          go_roundw
          case rel => exact ⟨q + 1, by omega, by go_num, HO4, HW4⟩
          case measure => simp [intOf]; omega
    · have HF : Hid (wr.ownsRow w.heap.size 26 4 u5 (viewL (mergeL l) a).length (entv (viewL (mergeL l) a))) := Lib.hid (by
        have h := HO.out.2
        rw [List.take_of_length_le (by rw [HNG.out]; omega), ← view_flat HRI.out HGR.out, ← HMM.out] at h
        exact own_mono h HB2.out.size)
      have HBF := Lib.hid (HB2.out.trans (HW.out.mono HB2.out.size))
      have hz : ¬ (q : Int) < (N : Int) := by omega
      clear HO
      go_wp2
      go_ret
      exact ⟨_, rfl, HF.out, HBF.out⟩
end Go.Proofs.Ytcfgmkiohmbdlaa
