/- Digests: the reference's pad, Mac and Hex, walked. -/
import Derived.Test.YtohgkcgeanofnaaTgRSum
import Derived.Test.YtohgkcgeanofnaaTgHex
import Derived.Test.YtohgkcgeanofnaaTgKeys
namespace Go.Proofs.Ytohgkcgeanofnaa
open Go.RowKit
theorem keyB_get (kb : List UInt8) (k : Nat) (hk : k < 64) : (kb ++ List.replicate (64 - kb.length) (0 : UInt8)).take (k + 1) = (kb ++ List.replicate (64 - kb.length) 0).take k ++ [kb.getD k 0] := by
  have hl : k < (kb ++ List.replicate (64 - kb.length) (0 : UInt8)).length := by rw [List.length_append, List.length_replicate]; omega
  rw [List.take_add_one, List.getElem?_eq_getElem hl]
  congr 1
  simp only [Option.toList_some, List.cons.injEq, and_true]
  by_cases h : k < kb.length
  · rw [List.getElem_append_left h, List.getD_eq_getElem?_getD, List.getElem?_eq_getElem h]; rfl
  · rw [List.getElem_append_right (by omega), List.getElem_replicate, List.getD_eq_getElem?_getD, List.getElem?_eq_none (by omega)]; rfl
set_option maxHeartbeats 4000000 in
set_option maxRecDepth 20000 in
theorem rpad_any (w : World) (key : ByteArray) (x : UInt8) (hk : key.size ≤ 35184372088832) :
    Calls Try.prog 19 #[.string key, .int .u8 (x.toNat : Int)] w fun e w' => e = .returned (.string ⟨(padB x key.data.toList).toArray⟩) ∧ Below w.heap.size w w' := by
  obtain ⟨i0, hi0, hz0, hz1, hz2⟩ := info_parts u8_info
  go_enter Try.func19, Try.ntmps19
  go_upto_if 10 with (fail)
  go_cut [0, 11, 12] (fun k _ _ wc => ∃ kb : List UInt8, k = .string ⟨kb.toArray⟩ ∧ kb.length ≤ 64 ∧ kb ++ List.replicate (64 - kb.length) 0 = keyB key.data.toList ∧ Below w.heap.size w wc)
  case first =>
    by_cases h64 : 64 < key.size
    · have h64' : (64 : Int) < key.size := by omega
      go_wp2_with fail
      refine (rsum_any w key hk).mono ?_
      rintro e w1 ⟨rfl, hb1⟩
      go_wp2
      go_meet
      case rel =>
        refine ⟨_, rfl, by rw [sumB_length]; decide, ?_, hb1⟩
        unfold keyB
        have h2 : 64 < key.data.toList.length := by simpa using h64
        simp only [if_pos h2]
    · go_wp2
      go_meet
      case rel =>
        refine ⟨key.data.toList, ?_, by simp; omega, ?_, Below.refl _ _⟩
        · simp
        · unfold keyB
          have h2 : ¬ 64 < key.data.toList.length := by simpa using h64
          simp only [if_neg h2]
  case rest =>
    obtain ⟨kb, rfl, hkl, hkb, hb0⟩ := hcut
    obtain ⟨sk, hsk⟩ : ∃ sk : ByteArray, sk = ⟨kb.toArray⟩ := ⟨_, rfl⟩
    have hss : sk.size = kb.length := by rw [hsk]; show kb.toArray.size = _; simp
    have hsg : ∀ (k : Nat) (h : k < sk.size), sk[k] = kb.getD k 0 := fun k h => by
      subst hsk
      rw [List.getD_eq_getElem?_getD, List.getElem?_eq_getElem (by rw [← hss]; exact h)]
      rfl
    rw [← hsk]
    clear hsk
    go_wp2
    go_loopw [5, 6, 7] (fun v i _ wx => ∃ k : Nat, k ≤ 64 ∧ i = .int .i64 k ∧ OwnB wx w.heap.size 5 v (((keyB key.data.toList).take k).map (· ^^^ x)) ∧ Below w.heap.size w wx) (fun _ i _ _ => 64 - (intOf i).toNat)
    case atStart => exact ⟨0, Nat.zero_le _, rfl, .inl ⟨rfl, rfl⟩, hb0⟩
    case round =>
      clear hb0
      obtain ⟨k, hk64, rfl, how, hb⟩ := hrel
      obtain ⟨L, hL⟩ : ∃ L, L = ((keyB key.data.toList).take k).map (· ^^^ x) := ⟨_, rfl⟩
      rw [← hL] at how
      have hLl : L.length = k := by rw [hL, List.length_map, List.length_take, keyB_length]; omega
      obtain ⟨A5, c5, rfl⟩ := how.shape
      have HL := Lib.hid hL
      have HLL := Lib.hid hLl
      have HOW := Lib.hid how
      have HB := Lib.hid hb
      have hbs := hb.size
      by_cases hlt : k < 64
      · obtain ⟨y, hy⟩ : ∃ y, y = kb.getD k 0 := ⟨_, rfl⟩
        have hstep : ((keyB key.data.toList).take (k + 1)).map (· ^^^ x) = L ++ [y ^^^ x] := by
          rw [hL, ← hkb, keyB_get kb k hlt, List.map_append, ← hy]
          rfl
        have HST := Lib.hid hstep
        have HY := Lib.hid hy
        have m4 : (k : Int) < 64 := by omega
        have hxr := xor8 y x
        clear hL hLl how hb hstep
        by_cases hin : k < sk.size
        · have hg := hsg k hin
          rw [← hy] at hg
          have m5 : (k : Int) < sk.size := by omega
          clear hy hsg
          go_wp2_with (at_builtin; refine wpList_bpush wr rfl (.tmp 24) (.tmp 28) 29 rfl w.heap.size 5 i0 Try.underlying29 hi0 hz0 hz1 hz2 _ L [y ^^^ x] _ 1 1 ?c1 rfl rfl (by exact HOW.out) rfl ?c2 ?c3 ?_)
          case c1 => first | rfl | (rw [hxr]; rfl)
          case c2 => rw [HLL.out]; omega
          all_goals try (exact hbs)
          intro v' w3 ho3 hu3 _
          have hB4 := below_ownB HB.out hbs HOW.out (Nat.le_refl _) hu3
          rw [← HST.out] at ho3
          clear hu3
          go_wp2
          refine ⟨⟨k + 1, by omega, by go_num, ho3, hB4⟩, ?_⟩
          simp [intOf]; omega
        · have hy0 : y = 0 := by rw [hy, List.getD_eq_getElem?_getD, List.getElem?_eq_none (by omega)]; rfl
          have m5 : ¬ ((k : Int) < sk.size) := by omega
          have hxr : bits BinOp.xor IntKind.u8 0 (x.toNat : Int) = (((y ^^^ x).toNat : Nat) : Int) := by
            rw [hy0] at hxr ⊢
            exact hxr
          clear hy hy0 hsg
          go_wp2_with (at_builtin; refine wpList_bpush wr rfl (.tmp 24) (.tmp 28) 29 rfl w.heap.size 5 i0 Try.underlying29 hi0 hz0 hz1 hz2 _ L [y ^^^ x] _ 1 1 ?c1 rfl rfl (by exact HOW.out) rfl ?c2 ?c3 ?_)
          case c1 => first | rfl | (rw [hxr]; rfl)
          case c2 => rw [HLL.out]; omega
          all_goals try (exact hbs)
          intro v' w3 ho3 hu3 _
          have hB4 := below_ownB HB.out hbs HOW.out (Nat.le_refl _) hu3
          rw [← HST.out] at ho3
          clear hu3
          go_wp2
          refine ⟨⟨k + 1, by omega, by go_num, ho3, hB4⟩, ?_⟩
          simp [intOf]; omega
      · obtain rfl : k = 64 := by omega
        have hcv := how.str (P := Try.prog) (src := 29) (dst := 9) Try.underlying29 Try.underlying5 Try.underlying9
        have h9 : L = padB x key.data.toList := by
          rw [hL, List.take_of_length_le (by rw [keyB_length]; exact Nat.le_refl _)]
          rfl
        have H9 := Lib.hid h9
        clear hL hLl how h9
        go_wp2
        go_ret
        exact ⟨by rw [← H9.out]; rfl, HB.out⟩
set_option maxHeartbeats 4000000 in
set_option maxRecDepth 20000 in
theorem rmac_any (w : World) (key s : ByteArray) (hk : key.size ≤ 35184372088832) (hs : s.size ≤ 35184372088000) :
    Calls Try.prog 10 #[.string key, .string s] w fun e w' => e = .returned (.string ⟨(macB key.data.toList s.data.toList).toArray⟩) ∧ Below w.heap.size w w' := by
  go_enter Try.func10, Try.ntmps10
  go_wp2_with fail
  refine (rpad_any w key 0x5c hk).mono ?_
  rintro e w1 ⟨rfl, hb1⟩
  go_wp2_with fail
  refine (rpad_any w1 key 0x36 hk).mono ?_
  rintro e w2 ⟨rfl, hb2⟩
  have hpi : (padB 0x36 key.data.toList).length = 64 := by unfold padB; rw [List.length_map]; exact keyB_length _
  have hpo : (padB 0x5c key.data.toList).length = 64 := by unfold padB; rw [List.length_map]; exact keyB_length _
  obtain ⟨si, hsi⟩ : ∃ si : ByteArray, si = ⟨(padB 0x36 key.data.toList).toArray⟩ := ⟨_, rfl⟩
  obtain ⟨so, hso⟩ : ∃ so : ByteArray, so = ⟨(padB 0x5c key.data.toList).toArray⟩ := ⟨_, rfl⟩
  have hsis : si.size = 64 := by rw [hsi]; show (padB 0x36 key.data.toList).toArray.size = 64; simp [hpi]
  have hsos : so.size = 64 := by rw [hso]; show (padB 0x5c key.data.toList).toArray.size = 64; simp [hpo]
  have hsid : si.data.toList = padB 0x36 key.data.toList := by rw [hsi]
  have hsod : so.data.toList = padB 0x5c key.data.toList := by rw [hso]
  rw [← hsi, ← hso]
  clear hsi hso
  have n1 : ¬ 9223372036854775807 < si.size + s.size := by omega
  go_wp2_with fail
  refine (rsum_any w2 (si ++ s) (by rw [ByteArray.size_append]; omega)).mono ?_
  rintro e w3 ⟨rfl, hb3⟩
  have hcat : (si ++ s).data.toList = padB 0x36 key.data.toList ++ s.data.toList := by rw [ByteArray.data_append, Array.toList_append, hsid]
  rw [hcat]
  obtain ⟨s1, hs1⟩ : ∃ s1 : ByteArray, s1 = ⟨(sumB (padB 0x36 key.data.toList ++ s.data.toList)).toArray⟩ := ⟨_, rfl⟩
  have hs1s : s1.size = 32 := by rw [hs1]; show (sumB _).toArray.size = 32; rw [List.size_toArray, sumB_length]
  have hs1d : s1.data.toList = sumB (padB 0x36 key.data.toList ++ s.data.toList) := by rw [hs1]
  rw [← hs1]
  clear hs1
  have n2 : ¬ 9223372036854775807 < so.size + s1.size := by omega
  go_wp2_with fail
  refine (rsum_any w3 (so ++ s1) (by rw [ByteArray.size_append]; omega)).mono ?_
  rintro e w4 ⟨rfl, hb4⟩
  have hcat2 : (so ++ s1).data.toList = padB 0x5c key.data.toList ++ sumB (padB 0x36 key.data.toList ++ s.data.toList) := by rw [ByteArray.data_append, Array.toList_append, hsod, hs1d]
  rw [hcat2]
  go_wp2
  go_ret
  exact ⟨rfl, bel (bel (bel hb1 hb2) hb3) hb4⟩
/-- One byte's digits. -/
theorem hexB_take (l : List UInt8) (k : Nat) (h : k < l.length) : hexB (l.take (k + 1)) = hexB (l.take k) ++ [dig (l[k].toNat / 16), dig (l[k].toNat % 16)] := by
  rw [List.take_add_one, List.getElem?_eq_getElem h]
  show hexB (l.take k ++ [l[k]]) = _
  rw [hexB_snoc, List.append_assoc]
  rfl
set_option maxHeartbeats 4000000 in
set_option maxRecDepth 20000 in
theorem rhex_any (w : World) (s : ByteArray) (hs : s.size ≤ 35184372088832) :
    Calls Try.prog 12 #[.string s] w fun e w' => e = .returned (.string ⟨(hexB s.data.toList).toArray⟩) ∧ Below w.heap.size w w' := by
  obtain ⟨i0, hi0, hz0, hz1, hz2⟩ := info_parts u8_info
  have hpl : s.data.toList.length = s.size := by simp
  go_enter Try.func12, Try.ntmps12
  go_wp2
  go_loopw [3, 4] (fun v i wx => ∃ k : Nat, k ≤ s.size ∧ i = .int .i64 k ∧ OwnB wx w.heap.size 5 v (hexB (s.data.toList.take k)) ∧ Below w.heap.size w wx) (fun _ i _ => s.size - (intOf i).toNat)
  case atStart => exact ⟨0, Nat.zero_le _, rfl, .inl ⟨rfl, rfl⟩, Below.refl _ _⟩
  case round =>
    obtain ⟨k, hk, rfl, how, hb⟩ := hrel
    obtain ⟨L, hL⟩ : ∃ L, L = hexB (s.data.toList.take k) := ⟨_, rfl⟩
    rw [← hL] at how
    have hLl : L.length = 2 * k := by rw [hL, hexB_length, List.length_take]; omega
    obtain ⟨A5, c5, rfl⟩ := how.shape
    have HL := Lib.hid hL
    have HLL := Lib.hid hLl
    have HOW := Lib.hid how
    have HB := Lib.hid hb
    have hbs := hb.size
    by_cases hlt : k < s.size
    · have hst := hexB_take s.data.toList k (by omega)
      obtain ⟨x, hx⟩ : ∃ x, x = s[k] := ⟨_, rfl⟩
      have hx2 : s.data.toList[k]'(by omega) = x := by rw [hx]; rfl
      rw [hx2, ← hL] at hst
      have HST := Lib.hid hst
      have m4 : (k : Int) < s.size := by omega
      obtain ⟨q, hq⟩ : ∃ q, q = x.toNat / 16 := ⟨_, rfl⟩
      obtain ⟨r, hr⟩ : ∃ r, r = x.toNat % 16 := ⟨_, rfl⟩
      have d0 := fun w => dig_at w q (by have := x.toNat_lt; omega)
      have d1 := fun w => dig_at w r (by omega)
      have a1 : (x.toNat : Int) % 16 = (r : Int) := by omega
      have a0 : (x.toNat : Int) / 16 = (q : Int) := by omega
      have a2 : (x.toNat : Int).tmod 16 = (r : Int) := by rw [Int.tmod_eq_emod_of_nonneg (by omega)]; exact a1
      have w0 : IntKind.u8.wrap (q : Int) = (q : Int) := by rw [IntKind.wrap_u8]; have := x.toNat_lt; omega
      have w1 : IntKind.u8.wrap (r : Int) = (r : Int) := by rw [IntKind.wrap_u8]; omega
      have HQ := Lib.hid hq
      have HR := Lib.hid hr
      have hx' := hx.symm
      clear hL hLl how hb hst hx2 hq hr hx
      obtain ⟨W1, hW1⟩ : ∃ W1, W1 = (wr.alloc (.cells #[.int .u8 (((dig q).toNat : Nat) : Int), .int .u8 (((dig r).toNat : Nat) : Int)] 5)).drew := ⟨_, rfl⟩
      have hb1 : Below w.heap.size w W1 := by rw [hW1]; exact below_drew1 (HB.out.alloc hbs _)
      have ho1 : OwnB W1 w.heap.size 5 (.slice A5 L.length c5) L := by rw [hW1]; exact HOW.out.below (below_drew1 ((Below.refl _ wr).alloc (Nat.le_refl _) _))
      have hr1 : Rd W1 (wr.heap.size + 1) 1 (some ⟨wr.heap.size, 0, none⟩) 2 (bytv [dig q, dig r]) := by
        rw [hW1]
        exact (Rd.new (w := wr) (size := 1) (n := 2) #[.int .u8 (((dig q).toNat : Nat) : Int), .int .u8 (((dig r).toNat : Nat) : Int)] 5 rfl).drewN 1
      obtain ⟨v', w3, happ, ho3, hg3, _⟩ := run_append_ownB (P := Try.prog) W1 w.heap.size 29 29 5 i0 Try.underlying29 hi0 hz0 hz1 hz2 _ L ho1 (some ⟨wr.heap.size, 0, none⟩) 2 2 _ [dig q, dig r] hr1 (by rw [HLL.out]; omega) hb1.size
      have hB4 : Below w.heap.size w w3 := below_ownB hb1 hb1.size ho1 (Nat.le_refl _) (Upd.of_grown hg3)
      rw [hW1] at happ
      clear hW1 hb1 ho1 hr1 hg3
      rw [HQ.out, HR.out, ← HST.out] at ho3
      go_wp2
      first
        | go_region_law (refine step_append_run rfl (.tmp 11) (.tmp 22) 29 rfl (.slice A5 L.length c5) (.slice (some ⟨wr.heap.size, 0, none⟩) 2 2) rfl rfl v' w3 (by exact happ) ?_)
        | fail
      all_goals go_wp2
      all_goals refine ⟨⟨k + 1, by omega, by go_num, ho3, hB4⟩, ?_⟩
      all_goals (simp [intOf]; omega)
    · obtain rfl : k = s.size := by omega
      have hcv := how.str (P := Try.prog) (src := 29) (dst := 9) Try.underlying29 Try.underlying5 Try.underlying9
      have h9 : L = hexB s.data.toList := by rw [hL, List.take_of_length_le (by omega)]
      have H9 := Lib.hid h9
      clear hL hLl how h9
      go_wp2
      go_ret
      exact ⟨by rw [← H9.out]; rfl, HB.out⟩
end Go.Proofs.Ytohgkcgeanofnaa
