/- Tables: the reference's Open, walked. -/
import Derived.Test.YtanieolnaiihmaaJTbOpen
import Derived.Test.YtanieolnaiihmaaJTbRBld
import Derived.Test.YtanieolnaiihmaaJBkRDec
namespace Go.Proofs.Ytanieolnaiihmaa
open Go.RowKit
def ROpenPost (w : World) (s : ByteArray) (e : Ending) (w' : World) : Prop :=
  Below w.heap.size w w' ∧ match openT s.data.toList with
    | none => e = .returned (.tuple #[.slice none 0 0, .int .i64 10])
    | some l => ∃ v, e = .returned (.tuple #[v, .int .i64 0]) ∧ w'.ownsRow w.heap.size 41 4 v l.length (entv l)
theorem ROpenPost.no {w w' : World} {s : ByteArray} (hb : Below w.heap.size w w') (h : openT s.data.toList = none) : ROpenPost w s (.returned (.tuple #[.slice none 0 0, .int .i64 10])) w' := by
  refine ⟨hb, ?_⟩
  rw [h]
set_option maxHeartbeats 8000000 in
set_option maxRecDepth 20000 in
theorem rtopen_any (w : World) (s : ByteArray) (hs : s.size ≤ 268435456) : Calls Try.prog 21 #[.string s] w (ROpenPost w s) := by
  obtain ⟨i0, hi0, hz0, hz1, hz2⟩ := info_parts ent_info
  have hsl : s.data.toList.length = s.size := by simp
  obtain ⟨f1, f2⟩ := frames_sz s.data.toList
  have HF1 := Lib.hid f1
  have HSL := Lib.hid hsl
  obtain ⟨F, hF⟩ : ∃ F, framesT s.data.toList = F := ⟨_, rfl⟩
  obtain ⟨N, hN⟩ : ∃ N, F.length = N := ⟨_, rfl⟩
  obtain ⟨E, hE⟩ : ∃ E, (scanR s.data.toList).2 = E := ⟨_, rfl⟩
  have hN8 : 8 * N ≤ s.size := by rw [hF, hN] at f2; omega
  have hE2 : E ≤ s.size := by
    obtain ⟨_, h2, h3⟩ := scan_sz s.data.toList (s.data.toList.length + 1) 0 (Nat.zero_le _)
    unfold scanR at hE
    omega
  have HSC := Lib.hid (rscan_any w s (by omega))
  have HFN : Hid (framesT s.data.toList = F ∧ F.length = N ∧ (scanR s.data.toList).2 = E ∧ (scanR s.data.toList).1.length = N) := Lib.hid ⟨hF, hN, hE, by rw [← hN, ← hF]; unfold framesT strsOf; rw [List.length_map]⟩
  clear f1 f2 hF hN hE
  go_enter Try.func21, Try.ntmps21
  go_wp2_with fail
  refine HSC.out.mono ?_
  rintro e w1 ⟨v1, rfl, ho1, hb1⟩
  rw [HFN.out.2.2.1]
  rw [HFN.out.2.2.2, show strsOf (scanR s.data.toList).1 = F from HFN.out.1] at ho1
  obtain ⟨A1, c1, rfl⟩ := own_shape ho1
  have HR1 := Lib.hid (Rd.own ho1)
  have hNc := own_capT ho1
  have HB1 := Lib.hid hb1
  clear ho1 hb1 HSC
  by_cases hend : E = s.size
  · subst hend
    by_cases hn3 : N < 3
    · have HNO : Hid (openT s.data.toList = none) := Lib.hid (openT_end (.inr (by rw [HFN.out.1, HFN.out.2.1]; exact hn3)))
      have hlt : (N : Int) < 3 := by omega
      clear HF1 HFN hE2 hsl
      go_wp2
      go_ret2
      exact ROpenPost.no HB1.out HNO.out
    · obtain ⟨n, rfl⟩ : ∃ n, N = n + 3 := ⟨N - 3, by omega⟩
      obtain ⟨N, hN⟩ : ∃ N, n + 3 = N := ⟨_, rfl⟩
      rw [hN] at HFN HR1 hN8 hn3 hNc ⊢
      have HGO : Hid (openT s.data.toList = (decAll (F.take n)).bind fun l => if (bldT l).2 = 0 ∧ (bldT l).1 = s.data.toList then some l else none) := Lib.hid (by
        have := openT_go (s := s.data.toList) (n := n) (by rw [HFN.out.2.2.1, hsl]) (by rw [HFN.out.1, HFN.out.2.1, hN])
        rw [HFN.out.1] at this
        exact this)
      have hw3 : IntKind.i64.wrap ((N : Int) - 3) = (n : Int) := by rw [IntWalk.i64_in _ (by omega)]; omega
      have hge : (0 : Int) ≤ (n : Int) := by omega
      have hn3i : ¬ (N : Int) < 3 := by omega
      have hcap : (n : Int) ≤ (c1 : Int) := by omega
      have hnb : n ≤ 268435456 := by omega
      have HNN : Hid (n + 3 = N) := Lib.hid hN
      clear hn3 hE2 hN
      go_wp2
      clear hw3 hn3i hcap hsl
      go_loopw [33, 6] (fun i lv wx => ∃ (k : Nat) (es : List Ent), i = .int .i64 (k : Int) ∧ k ≤ n ∧ Hid (decAll (F.take k) = some es) ∧ Hid (wx.ownsRow w1.heap.size 41 4 lv es.length (entv es)) ∧ Hid (Below w1.heap.size w1 wx)) (fun i _ _ => n - (intOf i).toNat)
      case atStart => exact ⟨0, [], rfl, Nat.zero_le _, Lib.hid (by simp [decAll]), Lib.hid (World.ownsRow_nil _ _ _ _), Lib.hid (Below.refl _ _)⟩
      case round =>
        obtain ⟨k, es, rfl, hk, hdec, hO, hB⟩ := hrel
        by_cases hlt : k < n
        · obtain ⟨p, hp⟩ : ∃ p, F[k]? = some p := by
            have h1 := HFN.out.2.1
            have h2 := HNN.out
            exact ⟨F[k]'(by omega), List.getElem?_eq_getElem _⟩
          obtain ⟨ad, e, hab, hc⟩ := (HR1.out.below hB.out).at_ (by have := HNN.out; omega)
          subst e
          have yp : wr.cell? (ad.add k) = some (.string p) := hc k (.string p) (by simp [strv, hp])
          have hps : p.size ≤ 65536 := HF1.out p (by rw [HFN.out.1]; exact List.mem_of_getElem? hp)
          have HDE := Lib.hid (rdec_any wr p (by omega))
          have hk0 : (0 : Int) ≤ (k : Int) := by omega
          have hkn : (k : Int) < (n : Int) := by omega
          have htk : F.take (k + 1) = F.take k ++ [p] := by
            rw [List.take_add_one, hp]; rfl
          clear hc
          cases hbk : rdBlock p.data.toList with
          | none =>
            have HNO : Hid (openT s.data.toList = none) := Lib.hid (by
              have h1 : decAll (F.take (k + 1)) = none := by rw [htk, decAll_snoc, hdec.out, hbk]; rfl
              have h2 : F.take n = F.take (k + 1) ++ (F.drop (k + 1)).take (n - (k + 1)) := by
                rw [← List.take_add]; congr 1; omega
              rw [HGO.out, h2, decAll_none h1]; rfl)
            unfold RDecPost at HDE
            rw [decR_no hbk] at HDE
            clear hbk htk hp hps HGO
            go_wp2_with fail
            refine HDE.out.mono ?_
            rintro e w2 ⟨v2, rfl, ho2, hb2⟩
            have HB2 := Lib.hid (hB.out.trans (hb2.mono hB.out.size))
            clear hb2 ho2
            go_wp2
            go_ret2
            exact ROpenPost.no (HB1.out.trans (HB2.out.mono HB1.out.size)) HNO.out
          | some pe =>
            have hdec2 : Hid (decAll (F.take (k + 1)) = some (es ++ pe)) := Lib.hid (by rw [htk, decAll_snoc, hdec.out, hbk]; rfl)
            have hroom := (open_okE (s := s.data.toList) (k := k + 1) (l := es ++ pe) (by rw [HSL.out]; exact hs) (by rw [HFN.out.1]; exact hdec2.out)).2
            rw [HSL.out, List.length_append] at hroom
            unfold RDecPost at HDE
            rw [decR_ok hbk] at HDE
            clear hbk htk hp hps
            go_wp2_with fail
            refine HDE.out.mono ?_
            rintro e w2 ⟨v2, rfl, ho2, hb2⟩
            obtain ⟨A2, c2, rfl⟩ := own_shape ho2
            have HR2 := Lib.hid (Rd.own ho2)
            have HO2 := Lib.hid (own_below hO.out hb2)
            have HB2 := Lib.hid (hB.out.trans (hb2.mono hB.out.size))
            clear ho2 hb2 HDE hO hB yp
            go_wp2_with (at_builtin; refine wpList_app rfl (.tmp 44) (.tmp 45) 31 rfl w1.heap.size 41 i0 _ 4 48 Try.underlying31 hi0 hz0 hz1 hz2 rfl (by omega) _ es.length (entv es) w2.heap.size A2 pe.length c2 (entv pe) rfl (by exact HO2.out) rfl (by exact HR2.out) (entv_cell pe) ?c1 ?c2 ?c3 ?_)
            case c1 => omega
            case c2 => unfold maxLen; omega
            case c3 => exact HB2.out.size
            intro v3 w3 ho3 hu3 _
            rw [← entv_append, ← List.length_append] at ho3
            have HO3 := Lib.hid ho3
            have HB3 := Lib.hid (HB2.out.trans (hu3.below (fun q hq e => by have := (HO2.out.lt q e).1; omega) HB2.out.size))
            clear ho3 hu3 HR2 HO2 HB2
            go_wp2
            go_roundw
            case rel => exact ⟨k + 1, es ++ pe, by go_num, hlt, hdec2, HO3, HB3⟩
            case measure => simp [intOf]; omega
        · obtain rfl : k = n := by omega
          have hz : ¬ (k : Int) < (k : Int) := by omega
          obtain ⟨hokE, hel⟩ := open_okE (s := s.data.toList) (k := k) (l := es) (by rw [HSL.out]; exact hs) (by rw [HFN.out.1]; exact hdec.out)
          have HOE := Lib.hid hokE
          obtain ⟨A3, c3, rfl⟩ := own_shape hO.out
          have HTB := Lib.hid (rtbuild_any wr A3 es.length c3 es (S := 65536) (by omega) HOE.out (Rd.own hO.out) (own_capT hO.out))
          have hg2 : Hid (openT s.data.toList = if (bldT es).2 = 0 ∧ (bldT es).1 = s.data.toList then some es else none) := Lib.hid (by rw [HGO.out, hdec.out]; rfl)
          obtain ⟨T, hT⟩ : ∃ T : ByteArray, (⟨(bldT es).1.toArray⟩ : ByteArray) = T := ⟨_, rfl⟩
          obtain ⟨q, hq⟩ : ∃ q, (bldT es).2 = q := ⟨_, rfl⟩
          rw [hT, hq] at HTB
          have HTQ : Hid ((bldT es).1 = T.data.toList ∧ (bldT es).2 = q) := Lib.hid ⟨by rw [← hT], hq⟩
          clear hT hq hokE hel hlt HGO HF1 HFN
          go_wp2_with fail
          refine HTB.out.mono ?_
          rintro e w5 ⟨rfl, hb5⟩
          have HO5 := Lib.hid (own_below hO.out hb5)
          have HB5 := Lib.hid (HB1.out.trans ((hB.out.trans (hb5.mono hB.out.size)).mono HB1.out.size))
          clear hb5 hO hB HTB
          by_cases hq0 : q = 0
          · subst hq0
            by_cases hts : T = s
            · subst hts
              have HYES : Hid (openT T.data.toList = some es) := Lib.hid (by rw [hg2.out, if_pos ⟨HTQ.out.2, HTQ.out.1⟩])
              have hbe : (T.toList == T.toList) = true := by simp
              clear hg2
              go_wp2
              go_ret2
              refine ⟨HB5.out, ?_⟩
              rw [HYES.out]
              exact ⟨_, rfl, own_mono HO5.out HB1.out.size⟩
            · have HNO : Hid (openT s.data.toList = none) := Lib.hid (by
                rw [hg2.out, if_neg]
                rintro ⟨_, h⟩
                rw [HTQ.out.1] at h
                exact hts (ByteArray.ext (Array.toList_inj.1 h)))
              have hbe : (T.toList == s.toList) = false := by rw [str_beq, decide_eq_false hts]
              clear hg2 hts
              go_wp2
              go_ret2
              exact ROpenPost.no HB5.out HNO.out
          · have HNO : Hid (openT s.data.toList = none) := Lib.hid (by
              rw [hg2.out, if_neg]
              rintro ⟨h, _⟩
              exact hq0 (HTQ.out.2.symm.trans h))
            have hqn : ¬ ((q : Int) = 0) := by omega
            clear hg2 hq0
            go_wp2
            go_ret2
            exact ROpenPost.no HB5.out HNO.out
  · have HNO : Hid (openT s.data.toList = none) := Lib.hid (openT_end (.inl (by rw [HFN.out.2.2.1, hsl]; exact hend)))
    have hne : ¬ ((E : Int) = (s.size : Int)) := by omega
    clear HF1 HFN hE2 hsl hend
    go_wp2
    go_ret2
    exact ROpenPost.no HB1.out HNO.out
end Go.Proofs.Ytanieolnaiihmaa
