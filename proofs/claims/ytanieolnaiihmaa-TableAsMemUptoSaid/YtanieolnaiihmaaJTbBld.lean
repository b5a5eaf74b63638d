/- Tables: table.Build, walked. -/
import Derived.Test.YtanieolnaiihmaaJTbBst
import Derived.Test.YtanieolnaiihmaaJTbNm
import Derived.Test.YtanieolnaiihmaaBkEnc
import Derived.Test.YtanieolnaiihmaaJRgMarks
import Derived.Test.YtanieolnaiihmaaJFrSealF
import Derived.Test.YtanieolnaiihmaaJTbEnd
namespace Go.Proofs.Ytanieolnaiihmaa
open Go.RowKit
attribute [local go_sem] Oper.semAt_some
theorem last_at {l P : List Ent} {j d : Nat} (hP : partE l j = P) (hd : P.length = d + 1) : ∃ h : d < P.length, (P[d]'h).key = lastE l j := by
  refine ⟨by omega, ?_⟩
  unfold lastE
  have h1 : P[P.length - 1]? = some (P[d]'(by omega)) := by
    rw [show P.length - 1 = d by omega]
    exact List.getElem?_eq_getElem _
  rw [hP, List.getLast?_eq_getElem?, h1]
  rfl
theorem encT_any (w : World) (A : Option Addr) (n c : Nat) (l : List Ent) {S : Nat} (hS : S ≤ 1048576) (hok : okE S l) (hr : Rd w w.heap.size 4 A n (entv l)) :
    Calls Try.prog 44 #[.slice A n c] w fun e w' => e = .returned (.tuple #[.string ⟨(encR l).1.toArray⟩, .int .i64 ((encR l).2 : Int)]) ∧ Below w.heap.size w w' := by
  have h1 := okE_len hok
  have h2 := rd_entlen hr
  refine enc_any w A n c l hr (by omega) (fun x hx => ⟨(hok.1 x hx).1, by have := (hok.1 x hx).2.1; omega, by have := (hok.1 x hx).2.2; omega⟩) ?_
  have h3 := block_le hS hok.1 (by omega)
  have := hok.2
  omega
/-- The state ahead of the loop. -/
theorem bst_start {w w1 w7 : World} {v7 : Value} {ib : List UInt8} (hb1 : Below w.heap.size w w1)
    (hw : Wr w7 w.heap.size w1.heap.size v7 ib) (hat : RowAt (((w1.alloc (.cells #[.int .i64 0, .slice none 0 0] 115)).alloc (.cells #[.int .i64 0, .slice none 0 0] 115)).alloc (.cells #[.pointer (some ⟨w1.heap.size, 0, none⟩)] 85)) (.slice none 0 0) v7)
    (hu : Upd (WrS w1.heap.size (.slice none 0 0)) (((w1.alloc (.cells #[.int .i64 0, .slice none 0 0] 115)).alloc (.cells #[.int .i64 0, .slice none 0 0] 115)).alloc (.cells #[.pointer (some ⟨w1.heap.size, 0, none⟩)] 85)) w7) :
    BSt w ((w7.alloc (.cells #[.slice none 0 0] 22)).alloc (.cells #[.int .i64 0] 3)) (w7.heap.size + 2) w1.heap.size (w1.heap.size + 1) (w1.heap.size + 2) w7.heap.size (w7.heap.size + 1) v7 (.slice none 0 0) ib [] 0 := by
  have s2 : (w1.alloc (.cells #[.int .i64 0, .slice none 0 0] 115)).heap.size = w1.heap.size + 1 := by simp
  have s3 : ((w1.alloc (.cells #[.int .i64 0, .slice none 0 0] 115)).alloc (.cells #[.int .i64 0, .slice none 0 0] 115)).heap.size = w1.heap.size + 2 := by simp
  have s6 : (((w1.alloc (.cells #[.int .i64 0, .slice none 0 0] 115)).alloc (.cells #[.int .i64 0, .slice none 0 0] 115)).alloc (.cells #[.pointer (some ⟨w1.heap.size, 0, none⟩)] 85)).heap.size = w1.heap.size + 3 := by simp
  have hsz := hb1.size
  have h7 := hu.size
  rw [s6] at h7
  have f3 := Wr.new (w1.alloc (.cells #[.int .i64 0, .slice none 0 0] 115)) w.heap.size
  rw [s2] at f3
  have f6 := f3.upd ((Upd.refl (fun _ => False) _).alloc (.cells #[.pointer (some ⟨w1.heap.size, 0, none⟩)] 85)) (fun _ _ h => h)
  have no : ∀ k, k ≠ w1.heap.size → ¬ WrS w1.heap.size (.slice none 0 0) k := fun k h e => by
    rcases e with e | e
    · exact h e
    · cases e
  have f7 := f6.upd hu (fun k hk => by
    rcases hk with rfl | hk
    · exact no _ (by omega)
    · cases hk)
  have x6 : w7.heap[w1.heap.size + 2]? = some (.cells #[.pointer (some ⟨w1.heap.size, 0, none⟩)] 85 (0, 0)) := by
    have := heap_alloc_new ((w1.alloc (.cells #[.int .i64 0, .slice none 0 0] 115)).alloc (.cells #[.int .i64 0, .slice none 0 0] 115)) (.cells #[.pointer (some ⟨w1.heap.size, 0, none⟩)] 85)
    rw [s3] at this
    exact box_at this hu (no _ (by omega))
  have hu8 : Upd (fun _ => False) w7 ((w7.alloc (.cells #[.slice none 0 0] 22)).alloc (.cells #[.int .i64 0] 3)) := ((Upd.refl _ w7).alloc _).alloc _
  have s8 : (w7.alloc (.cells #[.slice none 0 0] 22)).heap.size = w7.heap.size + 1 := by simp
  have hbel : Below w.heap.size w w7 := by
    have h6 : Below w.heap.size w (((w1.alloc (.cells #[.int .i64 0, .slice none 0 0] 115)).alloc (.cells #[.int .i64 0, .slice none 0 0] 115)).alloc (.cells #[.pointer (some ⟨w1.heap.size, 0, none⟩)] 85)) :=
      ((hb1.alloc hsz _).alloc (by rw [s2]; omega) _).alloc (by rw [s3]; omega) _
    exact h6.trans (hu.below (fun k hk => no _ (by omega)) (by rw [s6]; omega))
  refine ⟨box_at x6 hu8 id, ?_, ?_, hw.upd hu8 (fun _ _ h => h), f7.upd hu8 (fun _ _ h => h), World.ownsRow_nil _ _ _ _, hbel.trans (hu8.below (fun _ _ h => h) (by omega)), by omega, by omega, by omega, fun k e => ?_, fun k e => by cases e⟩
  · exact (Below.heap_alloc _ _ _ (by rw [s8]; omega)).trans (heap_alloc_new w7 _)
  · have := heap_alloc_new (w7.alloc (.cells #[.slice none 0 0] 22)) (.cells #[.int .i64 0] 3)
    rw [s8] at this
    exact this
  · have := (hw.own.lt k e).2
    left; omega
set_option maxHeartbeats 8000000 in
set_option maxRecDepth 100000 in
theorem tbuild_any (w : World) (A : Option Addr) (n c : Nat) (l : List Ent) {S : Nat} (hS : S ≤ 1048576) (hok : okE S l) (hr : Rd w w.heap.size 4 A n (entv l)) (hnc : n ≤ c) :
    Calls Try.prog 17 #[.slice A n c] w fun e w' => e = .returned (.tuple #[.string ⟨(bldT l).1.toArray⟩, .int .i64 ((bldT l).2 : Int)]) ∧ Below w.heap.size w w' := by
  obtain ⟨i0, hi0, hz0, hz1, hz2⟩ := info_parts str_info
  have HENC := Lib.hid (encT_any w A n c l hS hok hr)
  have hlen := okE_len hok
  obtain rfl := rd_entlen hr
  have HR := Lib.hid hr
  have HOK := Lib.hid hok
  clear hr hok
  refine (callsIn_wide (n := 3)).1 ?_
  refine callsIn_of_wp_marks Try.func17 rfl trivial ?_ rfl
  simp only [Try.ntmps17, List.size_toArray, List.length_cons, List.length_nil, Nat.reduceAdd, Nat.reduceSub, Array.replicate_succ, Array.replicate_zero, List.push_toArray, List.append_toArray, List.nil_append, List.cons_append]
  by_cases hrt : rightE l
  · have HE := Lib.hid (encR_ok hrt)
    have hw1 : IntKind.i64.wrap ((l.length : Int) + 8) = (l.length : Int) + 8 := IntWalk.i64_in _ (by omega)
    have hw2 : IntKind.i64.wrap ((l.length : Int) + 8 - 1) = (l.length : Int) + 7 := by rw [IntWalk.i64_in _ (by omega)]; omega
    gi_wp2_with (refine ⟨trivial, ?_⟩; first
      | (gi_at_call 44; refine (callsIn_wide.2 HENC.out).mono ?_; rintro e w1 ⟨rfl, hb1⟩; have HB1 := Lib.hid hb1; rw [HE.out]; clear hb1 HENC HE)
      | (gi_at_call 45; refine (callsIn_wide.2 (new_any _)).mono ?_; rintro e w2 ⟨rfl, rfl⟩))
    refine ⟨trivial, ?_⟩
    obtain ⟨W6, hW6⟩ : ∃ W, ((w1.alloc (.cells #[.int .i64 0, .slice none 0 0] 115)).alloc (.cells #[.int .i64 0, .slice none 0 0] 115)).alloc (.cells #[.pointer (some ⟨w1.heap.size, 0, none⟩)] 85) = W := ⟨_, rfl⟩
    have hs6 : W6.heap.size = w1.heap.size + 1 + 1 + 1 := by rw [← hW6]; simp
    have hwr6 : Wr W6 w.heap.size w1.heap.size (.slice none 0 0) [] := by
      rw [← hW6]
      exact (Wr.new w1 w.heap.size).upd (((Upd.refl (fun _ => False) _).alloc _).alloc _) (fun _ _ h => h)
    have hsz1 := HB1.out.size
    have hz : ((l.length : Int) + 7) / 8 = ((partN l : Nat) : Int) := by unfold partN; omega
    have hp64 : partN l < 18446744073709551616 := by unfold partN; omega
    have h10 := numB_len10 (partN l) hp64
    have hnum := num_at W6 w.heap.size w1.heap.size (.slice none 0 0) [] (partN l) _ (w1.heap.size + 1 + 1 + 1) hs6 hz hp64 hwr6 (by omega) (by simp; omega)
    rw [hW6]
    rw [hz] at hnum ⊢
    gi_at_call 46
    refine (callsIn_wide.2 hnum).mono ?_
    rintro e w7 ⟨rfl, v7, hw7, hat7, hu7⟩
    rw [List.nil_append] at hw7
    rw [← hW6] at hat7 hu7
    have HST := Lib.hid (bst_start HB1.out hw7 hat7 hu7)
    clear hw7 hat7 hu7 hnum hwr6 hs6 hW6 h10 hp64 hz hw1 hw2
    gi_wp2_with (refine ⟨trivial, ?_⟩; gi_at_call 47; refine (callsIn_wide.2 (chunk_any _ _ _ _)).mono ?_; rintro e w8 ⟨rfl, rfl⟩)
    obtain ⟨X8, hX8⟩ : ∃ X, w7.heap.size = X := ⟨_, rfl⟩
    have s8 : (w7.alloc (.cells #[.slice none 0 0] 22)).heap.size = X8 + 1 := by simp [hX8]
    obtain ⟨WB, hWB⟩ : ∃ W, (w7.alloc (.cells #[.slice none 0 0] 22)).alloc (.cells #[.int .i64 0] 3) = W := ⟨_, rfl⟩
    have sB : WB.heap.size = X8 + 1 + 1 := by rw [← hWB]; simp [hX8]
    rw [hWB, hX8] at HST
    obtain ⟨H, hH⟩ : ∃ H, X8 + 1 + 1 = H := ⟨_, rfl⟩
    rw [show X8 + 2 = H from hH] at HST
    obtain ⟨WC, hWC⟩ : ∃ W, (WB.alloc (.cells #[.slice A l.length c] 31)).alloc (.cells #[.int .i64 8] 3) = W := ⟨_, rfl⟩
    have hbC : Below WB.heap.size WB WC := by rw [← hWC]; exact ((Below.refl _ WB).alloc (Nat.le_refl _) _).alloc (by simp) _
    have sC : WC.heap.size = H + 2 := by rw [← hWC]; simp [sB, hH]
    have HSC := Lib.hid (HST.out.below hbC)
    have B0 : Hid (WC.heap[H]? = some (.cells #[.slice A l.length c] 31 (0, 0))) := Lib.hid (by
      have := heap_alloc_new WB (.cells #[.slice A l.length c] 31)
      rw [sB, hH] at this
      rw [← hWC]
      exact (Below.heap_alloc _ _ _ (by simp [sB, hH])).trans this)
    have B1 : Hid (WC.heap[H + 1]? = some (.cells #[.int .i64 8] 3 (0, 0))) := Lib.hid (by
      have := heap_alloc_new (WB.alloc (.cells #[.slice A l.length c] 31)) (.cells #[.int .i64 8] 3)
      rw [show (WB.alloc (.cells #[.slice A l.length c] 31)).heap.size = H + 1 by simp [sB, hH]] at this
      rw [← hWC]
      exact this)
    rw [hWB, hWC, hX8, hH]
    obtain ⟨gi, hgi⟩ : ∃ x, w1.heap.size = x := ⟨_, rfl⟩
    rw [hgi] at HSC hsz1 ⊢
    obtain ⟨g, off, hAg⟩ : ∃ g off, 0 < l.length → A = some ⟨g, off, none⟩ := by
      by_cases h0 : 0 < l.length
      · obtain ⟨b, off, e, _⟩ := HR.out.ent h0
        exact ⟨b, off, fun _ => e⟩
      · exact ⟨0, 0, fun h => absurd h h0⟩
    have HCH := Lib.hid (chunk_hands 2 (by decide) WC H A l.length c g off hAg hnc (by omega) B0.out B1.out)
    have HAG := Lib.hid hAg
    have HRT := Lib.hid hrt
    clear hbC s8 sB hWB hWC B0 B1 HST hAg hrt hX8
    obtain ⟨gf, hgf⟩ : ∃ x, gi + 1 = x := ⟨_, rfl⟩
    obtain ⟨X6, hX6⟩ : ∃ x, gi + 2 = x := ⟨_, rfl⟩
    obtain ⟨X9, hX9⟩ : ∃ x, X8 + 1 = x := ⟨_, rfl⟩
    rw [hgf, hX6, hX9] at HSC
    rw [show gi + 1 + 1 = X6 from hX6, hgf, hX9]
    have HNUMS := Lib.hid (And.intro hH (And.intro hgf (And.intro hX6 (And.intro hX9 hgi))))
    clear hgf hX6 hX9 hgi
    have hHX : X8 + 2 ≤ H := by omega
    clear hH
    refine range_handsD (x := chV g off l.length) (N := (l.length + 7) / 8) (Kp := KeepC H) rfl (by decide) (gf := 71) (lb := #[.pointer (some ⟨H, 0, none⟩), .pointer (some ⟨H + 1, 0, none⟩)]) rfl trivial (enters_of Try.func71 (by kernel_rfl) rfl) HCH.out (fun h1 h2 => KeepC.trans h1 h2) (fun W l o hl => KeepC.putObj W l o (by omega)) (fun W o => KeepC.alloc _ W o) rfl
      (fun j W => H + 2 ≤ W.heap.size ∧ ∃ vi vp, BSt w W H gi gf X6 X8 X9 vi vp (idxE l j) (paysE l j) (atE l j))
      ?own ?drew ?start (fun j => { tmps := #[.slice A l.length c, undef, .string ⟨#[]⟩, .int .i64 0, .string ⟨(blockB l).toArray⟩, .int .i64 0, .pointer (some ⟨X6, 0, none⟩), .pointer (some ⟨gf, 0, none⟩), .pointer (some ⟨X8, 0, none⟩), .pointer (some ⟨X9, 0, none⟩), chV g off l.length j, undef, undef, .tuple #[.string ⟨(blockB l).toArray⟩, .int .i64 0], .slice A l.length c, .tuple #[.string ⟨(blockB l).toArray⟩, .int .i64 0], .string ⟨(blockB l).toArray⟩, .int .i64 0, .int .i64 0, .bool false, undef, .pointer (some ⟨gi, 0, none⟩), .pointer (some ⟨gf, 0, none⟩), .pointer (some ⟨gi, 0, none⟩), .slice A l.length c, .int .i64 (l.length : Int), .int .i64 ((l.length : Int) + 8), .int .i64 ((l.length : Int) + 7), .int .i64 (partN l : Int), .int .u64 (partN l : Int), .slice (some ⟨X6 + 1, 0, none⟩) 1 1, .tuple #[], .slice A l.length c, .func (.func 71) #[] #[.pointer (some ⟨H, 0, none⟩), .pointer (some ⟨H + 1, 0, none⟩)], chV g off l.length j, undef, undef, undef, undef, undef, undef, undef, undef, undef, undef, undef, undef, undef, undef, undef, undef, undef, undef, undef, undef, undef, undef, undef, undef, undef, undef, undef, undef, undef, undef, undef, undef, undef, undef, undef, undef, undef, undef, undef, undef, undef, undef, undef, undef, undef, undef, undef, undef, undef, undef, undef, undef], defers := [] }) ?assign ?body ?done
    case own =>
      rintro j W W' row ⟨hq, vi, vp, hs⟩ hgr hrow
      exact ⟨Nat.le_trans hq hgr.size, vi, vp, hs.grown (B := WC.heap.size) (by have := hs.lo.1; have := hs.hi.1; omega) hgr hrow⟩
    case drew =>
      rintro j W ⟨hq, vi, vp, hs⟩
      exact ⟨hq, vi, vp, hs.below (Below.refl _ _).drew⟩
    case start => exact ⟨by omega, _, _, HSC.out⟩
    case assign =>
      intro l' j W K hK
      gi_wp2
      exact hK
    case body =>
      rintro l' j W ⟨hq, vi, vp, hs⟩ hj
      have hjN : j < partN l := hj
      obtain ⟨P, hP⟩ : ∃ P, partE l j = P := ⟨_, rfl⟩
      have hPp := partE_pos hjN
      have hP8 := partE_len l j
      obtain rfl := HAG.out (by unfold partN at hjN; omega)
      have hrP := rd_part (HR.out.below hs.bel) j
      have hch : chV g off l.length j = .slice (some ⟨g, off + 8 * j * 4, none⟩) P.length P.length := by unfold chV; rw [← hP, hP8]
      rw [hP] at hPp hP8 hrP
      obtain ⟨o, ho⟩ : ∃ o, off + 8 * j * 4 = o := ⟨_, rfl⟩
      rw [ho] at hrP hch
      have hPok : okE S P := by rw [← hP]; exact okE_part HOK.out j
      have hPrt : rightE P := by rw [← hP]; exact part_right HRT.out j
      have he := encT_any W (some ⟨g, o, none⟩) P.length P.length P hS hPok (hrP.mono hs.bel.size)
      rw [encR_ok hPrt] at he
      have HE2 := Lib.hid he
      have HRP := Lib.hid hrP
      have HS := Lib.hid hs
      have HPE := Lib.hid hP
      have HO := Lib.hid ho
      rw [hch]
      have HP8 : Hid (P.length = min 8 (l.length - 8 * j)) := Lib.hid hP8
      have hP9 : P.length ≤ 8 := by omega
      clear hP hPok hPrt he hrP hs hch ho hP8
      gi_wp2
      refine ⟨trivial, ?_⟩
      refine ((callsIn_wide.2 HE2.out).inRound l').mono ?_
      rintro e wa ⟨rfl, hba⟩
      have HSA := Lib.hid (HS.out.below hba)
      have HKA := Lib.hid (StepK.below (H := H) hba)
      have hqa : H + 2 ≤ wa.heap.size := Nat.le_trans hq hba.size
      have y8 : wa.cell? ⟨X8, 0, none⟩ = some vp := by rw [cell_of_row _ _ 0 _ _ _ HSA.out.box8]; rfl
      have hpl := paysE_len l j
      have hgl : j ≤ 1000000000000 := by unfold partN at hjN; omega
      clear hba HE2 HS
      have hbase := HSA.out.bel.size
      gi_wp2_with (gi_at_builtin; refine wpListIn_push rfl (.tmp 40) (.tmp 42) 22 rfl w.heap.size 9 i0 _ 1 16 Try.underlying22 hi0 hz0 hz1 hz2 rfl (by omega) vp (paysE l j).length (strv (paysE l j)) #[.string ⟨(blockB P).toArray⟩] rfl (by exact HSA.out.pay) rfl rfl (by simp [Value.oneCell']) ?k1 ?k2 ?k3 ?_)
      case k1 => omega
      case k2 => unfold maxLen; omega
      case k3 => exact hbase
      intro v8 w8 ho8 hu8 hat8
      have ho8' : w8.ownsRow w.heap.size 9 1 v8 (paysE l (j + 1)).length (strv (paysE l (j + 1))) := by
        have e1 : paysE l (j + 1) = paysE l j ++ [toB (blockB P)] := by rw [paysE_succ]; unfold payE; rw [HPE.out]
        rw [e1, List.length_append, show strv (paysE l j ++ [toB (blockB P)]) = strv (paysE l j) ++ [Value.string (toB (blockB P))] by simp [strv]]
        rw [hpl]
        exact ho8
      obtain ⟨hs2, hk2, ⟨u8, hu8c⟩, hf8⟩ := HSA.out.payload ho8' hat8 hu8 hqa
      obtain ⟨g8, c8, rfl, -, -, -, -⟩ := own_form ho8 (by omega)
      have HS2 := Lib.hid hs2
      have HK2 := Lib.hid (HKA.out.trans hk2)
      clear ho8 hu8 hat8 ho8' hs2 hk2 y8 HSA HKA
      gi_wp2
      obtain ⟨W8, hW8⟩ : ∃ V, w8.setCell ⟨X8, 0, none⟩ (.slice (some ⟨g8, 0, none⟩) (j + 1) c8) = V := ⟨_, rfl⟩
      rw [hW8] at HS2 HK2
      rw [hW8]
      clear hW8 hu8c hf8
      obtain ⟨d, hd⟩ : ∃ d, P.length = d + 1 := ⟨P.length - 1, by omega⟩
      obtain ⟨hdl, hdk⟩ := last_at HPE.out hd
      obtain ⟨KY, hK⟩ : ∃ KY, lastE l j = KY := ⟨_, rfl⟩
      rw [hK] at hdk
      have HKY : Hid (∀ U : World, Below w.heap.size w U → U.cell? ⟨g, o + d * 4, none⟩ = some (.string KY)) := Lib.hid (fun U hU => by
        have h1 := rd_part (HR.out.below hU) j
        rw [HPE.out, HO.out] at h1
        obtain ⟨_, _, e, _, hs, c0, -, -, -⟩ := h1.ent (show d < P.length by omega)
        simp only [Option.some.injEq, Addr.mk.injEq, and_true] at e
        obtain ⟨rfl, rfl⟩ := e
        rw [c0, hdk])
      have HKL := Lib.hid hK
      have hKS : KY.size ≤ S := by rw [← hK]; exact lastE_le HOK.out j
      have hix := idxE_max hS HOK.out (Nat.le_of_lt hjN)
      have htx := textB_le KY.data.toList (by show KY.size < _; omega)
      have hkl : KY.data.toList.length = KY.size := rfl
      have hdd : Below W8.heap.size W8 W8.drew := (Below.refl _ _).drew
      have HTX := Lib.hid (text_new W8 w.heap.size gi vi (idxE l j) KY HS2.out.idx HS2.out.bel.size (by omega))
      have hq8 : H + 2 ≤ W8.heap.size := Nat.le_trans hq HK2.out.2.1
      have MK : Hid (∀ (U : World) (a1 a2 : Value) (a3 : List UInt8) (a4 : List ByteArray) (a5 : Nat), BSt w U H gi gf X6 X8 X9 a1 a2 a3 a4 a5 → U.cell? ⟨X6, 0, none⟩ = some (.pointer (some ⟨gi, 0, none⟩)) ∧ U.cell? ⟨g, o + d * 4, none⟩ = some (.string KY)) := Lib.hid (fun U a1 a2 a3 a4 a5 hU => ⟨by rw [cell_of_row _ _ 0 _ _ _ hU.box6]; rfl, HKY.out U hU.bel⟩)
      have hwd : IntKind.i64.wrap ((P.length : Int) - 1) = (d : Int) := by rw [IntWalk.i64_in _ (by omega)]; omega
      have hd0 : (0 : Int) ≤ (d : Int) := by omega
      have hdz : (d : Int) < (P.length : Int) := by omega
      have HSD := Lib.hid (HS2.out.below hdd)
      clear hdk hK hdd hdl hd
      refine wpIn_region_held_round (S := fun U => U.cell? ⟨X6, 0, none⟩ = some (.pointer (some ⟨gi, 0, none⟩)) ∧ U.cell? ⟨g, o + d * 4, none⟩ = some (.string KY)) (fun a' W' => ∃ q40 q41 q42 q43 q44 q45 q46 q47 q48 q49 q50 q51 q52 q53 vi', a' = { tmps := #[.slice (some ⟨g, off, none⟩) l.length c, undef, .string ⟨#[]⟩, .int .i64 0, .string ⟨(blockB l).toArray⟩, .int .i64 0, .pointer (some ⟨X6, 0, none⟩), .pointer (some ⟨gf, 0, none⟩), .pointer (some ⟨X8, 0, none⟩), .pointer (some ⟨X9, 0, none⟩), .slice (some ⟨g, o, none⟩) P.length P.length, .string ⟨(blockB P).toArray⟩, .int .i64 0, .tuple #[.string ⟨(blockB l).toArray⟩, .int .i64 0], .slice (some ⟨g, off, none⟩) l.length c, .tuple #[.string ⟨(blockB l).toArray⟩, .int .i64 0], .string ⟨(blockB l).toArray⟩, .int .i64 0, .int .i64 0, .bool false, undef, .pointer (some ⟨gi, 0, none⟩), .pointer (some ⟨gf, 0, none⟩), .pointer (some ⟨gi, 0, none⟩), .slice (some ⟨g, off, none⟩) l.length c, .int .i64 (l.length : Int), .int .i64 ((l.length : Int) + 8), .int .i64 ((l.length : Int) + 7), .int .i64 (partN l : Int), .int .u64 (partN l : Int), .slice (some ⟨X6 + 1, 0, none⟩) 1 1, .tuple #[], .slice (some ⟨g, off, none⟩) l.length c, .func (.func 71) #[] #[.pointer (some ⟨H, 0, none⟩), .pointer (some ⟨H + 1, 0, none⟩)], .slice (some ⟨g, o, none⟩) P.length P.length, .tuple #[.string ⟨(blockB P).toArray⟩, .int .i64 0], .slice (some ⟨g, o, none⟩) P.length P.length, .tuple #[.string ⟨(blockB P).toArray⟩, .int .i64 0], .string ⟨(blockB P).toArray⟩, .int .i64 0, q40, q41, q42, q43, q44, q45, q46, q47, q48, q49, q50, q51, q52, q53, undef, undef, undef, undef, undef, undef, undef, undef, undef, undef, undef, undef, undef, undef, undef, undef, undef, undef, undef, undef, undef, undef, undef, undef, undef, undef, undef, undef, undef, undef, undef, undef, undef], defers := [] } ∧ Hid (BSt w W' H gi gf X6 X8 X9 vi' (.slice (some ⟨g8, 0, none⟩) (j + 1) c8) (idxE l j ++ textB KY.data.toList) (paysE l (j + 1)) (atE l j)) ∧ Hid (StepK H W W')) (by kernel_rfl) (by
        intro i o' hi c' hc'
        rcases i with _ | _ | _ | _ | _ | _ | _ | _ | _ | _ | i <;> simp at hi <;> (subst hi; cases hc')) ?_ ?_
      · have hS0 : W8.drew.cell? ⟨X6, 0, none⟩ = some (.pointer (some ⟨gi, 0, none⟩)) ∧ W8.drew.cell? ⟨g, o + d * 4, none⟩ = some (.string KY) := MK.out _ _ _ _ _ _ HSD.out
        refine wpAnyH_take (i := 0) (v := ?_) rfl (by kernel_rfl) (by kernel_rfl) (by kernel_rfl) (EndsIn.panic _) (Or.inl ⟨by kernel_rfl, ?_⟩) (by assumption) ?_
        rotate_left
        · (intro w hSw; (try dsimp only at hSw); go_simp; try with_reducible rfl)
        try simp only [Act.put, List.getElem_toArray, List.getElem_cons_succ, List.getElem_cons_zero, List.setIfInBounds_toArray, List.set_cons_zero, List.set_cons_succ]
        refine wpAnyH_take (i := 1) (v := ?_) rfl (by kernel_rfl) (by kernel_rfl) (by kernel_rfl) (EndsIn.panic _) (Or.inl ⟨by kernel_rfl, ?_⟩) (by assumption) ?_
        rotate_left
        · (intro w hSw; (try dsimp only at hSw); go_simp; try with_reducible rfl)
        try simp only [Act.put, List.getElem_toArray, List.getElem_cons_succ, List.getElem_cons_zero, List.setIfInBounds_toArray, List.set_cons_zero, List.set_cons_succ]
        refine wpAnyH_take (i := 2) (v := ?_) rfl (by kernel_rfl) (by kernel_rfl) (by kernel_rfl) (EndsIn.panic _) (Or.inl ⟨by kernel_rfl, ?_⟩) (by assumption) ?_
        rotate_left
        · (intro w hSw; (try dsimp only at hSw); go_simp; try with_reducible rfl)
        try simp only [Act.put, List.getElem_toArray, List.getElem_cons_succ, List.getElem_cons_zero, List.setIfInBounds_toArray, List.set_cons_zero, List.set_cons_succ]
        refine wpAnyH_take (i := 3) (v := ?_) rfl (by kernel_rfl) (by kernel_rfl) (by kernel_rfl) (EndsIn.panic _) (Or.inl ⟨by kernel_rfl, ?_⟩) (by assumption) ?_
        rotate_left
        · (intro w hSw; (try dsimp only at hSw); go_simp; try with_reducible rfl)
        try simp only [Act.put, List.getElem_toArray, List.getElem_cons_succ, List.getElem_cons_zero, List.setIfInBounds_toArray, List.set_cons_zero, List.set_cons_succ]
        refine wpAnyH_take (i := 4) (v := ?_) rfl (by kernel_rfl) (by kernel_rfl) (by kernel_rfl) (EndsIn.panic _) (Or.inl ⟨by kernel_rfl, ?_⟩) (by assumption) ?_
        rotate_left
        · (intro w hSw; (try dsimp only at hSw); go_simp; try with_reducible rfl)
        try simp only [Act.put, List.getElem_toArray, List.getElem_cons_succ, List.getElem_cons_zero, List.setIfInBounds_toArray, List.set_cons_zero, List.set_cons_succ]
        refine wpAnyH_take (i := 5) (v := ?_) rfl (by kernel_rfl) (by kernel_rfl) (by kernel_rfl) (EndsIn.panic _) (Or.inl ⟨by kernel_rfl, ?_⟩) (by assumption) ?_
        rotate_left
        · (intro w hSw; (try dsimp only at hSw); go_simp; try with_reducible rfl)
        try simp only [Act.put, List.getElem_toArray, List.getElem_cons_succ, List.getElem_cons_zero, List.setIfInBounds_toArray, List.set_cons_zero, List.set_cons_succ]
        refine wpAnyH_take (i := 6) (v := ?_) rfl (by kernel_rfl) (by kernel_rfl) (by kernel_rfl) (EndsIn.panic _) (Or.inl ⟨by kernel_rfl, ?_⟩) (by assumption) ?_
        rotate_left
        · (intro w hSw; (try dsimp only at hSw); go_simp; try with_reducible rfl)
        try simp only [Act.put, List.getElem_toArray, List.getElem_cons_succ, List.getElem_cons_zero, List.setIfInBounds_toArray, List.set_cons_zero, List.set_cons_succ]
        refine wpAnyH_take (i := 7) (v := ?_) rfl (by kernel_rfl) (by kernel_rfl) (by kernel_rfl) (EndsIn.panic _) (Or.inl ⟨by kernel_rfl, ?_⟩) (by assumption) ?_
        rotate_left
        · (intro w hSw; (try dsimp only at hSw); go_simp; try with_reducible rfl)
        try simp only [Act.put, List.getElem_toArray, List.getElem_cons_succ, List.getElem_cons_zero, List.setIfInBounds_toArray, List.set_cons_zero, List.set_cons_succ]
        refine wpAnyH_ready (rs := [8]) (by kernel_rfl) (by simp) ?_
        refine AllReadyH.cons rfl (fun K hK => ?_) AllReadyH.nil
        go_simp
        refine hK.out _ _ (by exact MK.out _ _ _ _ _ _ (HSD.out.below ((Below.refl _ _).alloc (Nat.le_refl _) _))) (fun hHeld => ?_)
        clear hK K
        try simp only [Act.put, List.getElem_toArray, List.getElem_cons_succ, List.getElem_cons_zero, List.setIfInBounds_toArray, List.set_cons_zero, List.set_cons_succ]
        refine wpAnyH_ready (rs := [9]) (by kernel_rfl) (by simp) ?_
        refine AllReadyH.cons rfl (fun K hK => ?_) AllReadyH.nil
        go_simp
        refine HTX.out.mono ?_
        rintro e w9 ⟨rfl, v9, hw9, hat9, hu9⟩
        obtain ⟨hs3, hk3⟩ := HS2.out.index hw9 hat9 hu9 hq8
        refine hK.out _ _ (MK.out _ _ _ _ _ _ hs3) (fun hHeld => ?_)
        clear hK K
        try simp only [Act.put, List.getElem_toArray, List.getElem_cons_succ, List.getElem_cons_zero, List.setIfInBounds_toArray, List.set_cons_zero, List.set_cons_succ]
        refine wpAnyH_done (by kernel_rfl) ?_ _
        exact ⟨rfl, _, _, _, _, _, _, _, _, _, _, _, _, _, _, v9, rfl, Lib.hid hs3, Lib.hid (HK2.out.trans hk3)⟩
      · rintro a' w9 ⟨q40, q41, q42, q43, q44, q45, q46, q47, q48, q49, q50, q51, q52, q53, v9, rfl, hs3, hk3⟩
        have hat := atE_max hS HOK.out (Nat.le_of_lt hjN)
        have hat64 : atE l j < 18446744073709551616 := by omega
        have h10 := numB_len10 (atE l j) hat64
        have hq9 : H + 2 ≤ w9.heap.size := Nat.le_trans hq hk3.out.2.1
        have y9 : w9.cell? ⟨X9, 0, none⟩ = some (.int .i64 (atE l j : Int)) := by rw [cell_of_row _ _ 0 _ _ _ hs3.out.box9]; rfl
        have y6 : w9.cell? ⟨X6, 0, none⟩ = some (.pointer (some ⟨gi, 0, none⟩)) := by rw [cell_of_row _ _ 0 _ _ _ hs3.out.box6]; rfl
        have hwz : IntKind.u64.wrap ((atE l j : Nat) : Int) = ((atE l j : Nat) : Int) := by rw [IntKind.wrap_u64]; omega
        have HNM := Lib.hid (num_one w9 w.heap.size gi v9 (idxE l j ++ textB KY.data.toList) (atE l j) ((atE l j : Nat) : Int) rfl hat64 hs3.out.idx hs3.out.bel.size (by rw [List.length_append]; omega))
        clear HTX MK HSD HS2 HK2 hwd hd0 hdz hat hat64 h10 htx hkl hKS
        gi_wp2
        refine ⟨trivial, ?_⟩
        refine ((callsIn_wide.2 HNM.out).inRound l').mono ?_
        rintro e wt ⟨rfl, vt, hwt, hatt, hut⟩
        obtain ⟨hs4, hk4⟩ := hs3.out.index hwt hatt hut hq9
        have HS4 := Lib.hid hs4
        have HK4 := Lib.hid (hk3.out.trans hk4)
        have z9 : wt.cell? ⟨X9, 0, none⟩ = some (.int .i64 (atE l j : Int)) := by rw [cell_of_row _ _ 0 _ _ _ hs4.box9]; rfl
        have f9 : wt.frozen? ⟨X9, 0, none⟩ = false := frozen_of_row _ _ _ _ _ hs4.box9
        have hbl := block_le hS (p := P) (fun x hx => HOK.out.1 x (partE_mem (by rw [HPE.out]; exact hx))) (by omega)
        have hb8 : P.length * (50 + 2 * S) ≤ 8 * (50 + 2 * 1048576) := Nat.mul_le_mul hP9 (by omega)
        obtain ⟨bl, hbl'⟩ : ∃ bl, (blockB P).length = bl := ⟨_, rfl⟩
        rw [hbl'] at hbl
        have hat := atE_max hS HOK.out (Nat.le_of_lt hjN)
        have hat1 : Hid (atE l (j + 1) = atE l j + (8 + bl)) := Lib.hid (by simp only [atE]; rw [HPE.out, hbl'])
        have hw8 : IntKind.i64.wrap (8 + (bl : Int)) = 8 + (bl : Int) := IntWalk.i64_in _ (by omega)
        have hw9 : IntKind.i64.wrap ((atE l j : Int) + (8 + (bl : Int))) = ((atE l j + (8 + bl) : Nat) : Int) := by rw [IntWalk.i64_in _ (by omega)]; omega
        clear hwt hatt hut hs4 hk4 hs3 hk3 HNM y6 y9 hbl hb8 hat hix
        have HIX : Hid (idxE l (j + 1) = idxE l j ++ textB KY.data.toList ++ numB (atE l j)) := Lib.hid (by simp only [idxE]; rw [HKL.out, List.append_assoc])
        gi_wp2
        obtain ⟨hs5, hk5⟩ := HS4.out.place (a' := atE l j + (8 + bl))
        have hkk := HK4.out.trans hk5
        have hcast : (atE l j : Int) + (8 + (bl : Int)) = ((atE l j + (8 + bl) : Nat) : Int) := by omega
        rw [hcast]
        refine ⟨by rw [sC]; exact hkk.1, hkk.2, Nat.le_trans hq hkk.2.1, vt, .slice (some ⟨g8, 0, none⟩) (j + 1) c8, ?_⟩
        rw [HIX.out, hat1.out]
        exact hs5
    case done =>
      rintro D W hD ⟨hq, vi, vp, hs⟩ hDD
      change BSt w W H gi gf X6 X8 X9 vi vp (idxE l (partN l)) (paysE l (partN l)) (atE l (partN l)) at hs
      have hat := atE_max hS HOK.out (Nat.le_refl (partN l))
      have hix := idxE_max hS HOK.out (Nat.le_refl (partN l))
      have hbn := bldN_le l
      have hft := footE_le hS HOK.out
      have hpl := paysE_len l (partN l)
      have hpn : partN l ≤ 200000000000 := by unfold partN; omega
      have hnm := namesE_len l
      obtain ⟨a, ha⟩ : ∃ a, atE l (partN l) = a := ⟨_, rfl⟩
      obtain ⟨ib, hib⟩ : ∃ b, idxE l (partN l) = b := ⟨_, rfl⟩
      obtain ⟨PS, hPS⟩ : ∃ b, paysE l (partN l) = b := ⟨_, rfl⟩
      rw [ha, hib, hPS] at hs
      rw [ha] at hat
      rw [hib] at hix
      rw [hPS] at hpl
      have hfo : footE l = magicB ++ (numB a ++ numB l.length) := by unfold footE; rw [ha]
      have HALL : Hid (PS ++ [toB ib, toB (bld (namesE l)), toB (magicB ++ (numB a ++ numB l.length))] = allP l) := Lib.hid (by unfold allP; rw [hPS, hib, hfo])
      rw [hfo] at hft
      have HFT : Hid ((magicB ++ (numB a ++ numB l.length)).length ≤ 24) := Lib.hid hft
      have HPS : Hid (paysE l (partN l) = PS) := Lib.hid hPS
      clear ha hib hPS hfo hft
      have y9 : W.cell? ⟨X9, 0, none⟩ = some (.int .i64 (a : Int)) := by rw [cell_of_row _ _ 0 _ _ _ hs.box9]; rfl
      have ha64 : a < 18446744073709551616 := by omega
      have hwa : IntKind.u64.wrap ((a : Nat) : Int) = ((a : Nat) : Int) := by rw [IntKind.wrap_u64]; omega
      have hwl : IntKind.u64.wrap ((l.length : Nat) : Int) = ((l.length : Nat) : Int) := by rw [IntKind.wrap_u64]; omega
      obtain ⟨V, hV⟩ : ∃ V, W.alloc (.cells #[.int .u64 (a : Int), .int .u64 (l.length : Int)] 27) = V := ⟨_, rfl⟩
      have hbV : Below W.heap.size W V := by rw [← hV]; exact (Below.refl _ _).alloc (Nat.le_refl _) _
      have hsV := hs.below hbV
      have hszV : V.heap.size = W.heap.size + 1 := by rw [← hV]; simp
      have hblV : V.heap[W.heap.size]? = some (.cells #[.int .u64 (a : Int), .int .u64 (l.length : Int)] 27 (0, 0)) := by rw [← hV]; exact heap_alloc_new W _
      have hrV : Rd V V.heap.size 1 (some ⟨W.heap.size, 0, none⟩) 2 (u64v [a, l.length]) := ⟨rfl, fun _ => ⟨_, rfl, by simp [hszV], fun j u hu => by
        rw [add_zero_off, cell_of_row V W.heap.size j _ _ _ hblV]
        simpa [u64v] using hu⟩⟩
      have hB2 := numB_len10 a ha64
      have hB3 := numB_len10 l.length (by omega)
      have hnB : numsB [a, l.length] = numB a ++ numB l.length := by simp [numsB]
      have hDV : V.heap[D]? = some (.deferred (some [])) := (hbV.block D (Array.getElem?_eq_some_iff.1 hDD).1).trans hDD
      have HNM := Lib.hid (num_any V w.heap.size gf (.slice none 0 0) [] (some ⟨W.heap.size, 0, none⟩) 2 2 [a, l.length] hsV.foot hsV.bel.size hrV (fun _ ad e h => by
        injection e with e
        subst e
        rcases h with h | h
        · have := hs.foot.lt; simp at h; omega
        · cases h) (by rw [hnB]; simp; omega) (fun x hx => by simp at hx; rcases hx with rfl | rfl <;> omega) (by omega))
      have HSV := Lib.hid hsV
      have HLD : w.heap.size ≤ D := by have := HSC.out.bel.size; have := HSC.out.lo; omega
      clear hs hsV hblV hrV hB2 hB3 hbV hszV hHX hDD
      gi_wp2
      refine ⟨trivial, ?_⟩
      refine (callsIn_wide.2 HNM.out).mono ?_
      rintro e we ⟨rfl, vf, hwf, hatf, huf⟩
      rw [List.nil_append, hnB] at hwf
      have HE := Lib.hid (HSV.out.toFoot hDV HLD hwf huf)
      clear HNM HSV hDV hV hnB hwf hatf huf y9 hwa hwl
      obtain ⟨fb, hfb⟩ : ∃ x, numB a ++ numB l.length = x := ⟨_, rfl⟩
      rw [hfb] at HE HALL HFT
      clear hfb
      have MK : Hid (∀ (U : World) (vp' : Value) (ps' : List ByteArray), ESt w U D gi gf X6 X8 vi vf vp' ib fb ps' → (U.cell? ⟨X6, 0, none⟩ = some (.pointer (some ⟨gi, 0, none⟩)) ∧ Wr U w.heap.size gi vi ib ∧ Wr U w.heap.size gf vf fb) ∧ U.cell? ⟨X8, 0, none⟩ = some vp') := Lib.hid (fun U vp' ps' h => ⟨⟨by rw [cell_of_row _ _ 0 _ _ _ h.box6]; rfl, h.idx, h.foot⟩, by rw [cell_of_row _ _ 0 _ _ _ h.box8]; rfl⟩)
      have HED := Lib.hid (HE.out.below (Below.refl _ _).drew)
      gi_wp2_with (fail)
      refine wpIn_region_late (fun a' W' => ∃ q72 q73 q74 q75 q76 q77 q78 q79 q80 q81 gp cp, a' = { tmps := #[.slice A l.length c, undef, .string ⟨#[]⟩, .int .i64 0, .string ⟨(blockB l).toArray⟩, .int .i64 0, .pointer (some ⟨X6, 0, none⟩), .pointer (some ⟨gf, 0, none⟩), .pointer (some ⟨X8, 0, none⟩), .pointer (some ⟨X9, 0, none⟩), undef, undef, undef, .tuple #[.string ⟨(blockB l).toArray⟩, .int .i64 0], .slice A l.length c, .tuple #[.string ⟨(blockB l).toArray⟩, .int .i64 0], .string ⟨(blockB l).toArray⟩, .int .i64 0, .int .i64 0, .bool false, undef, .pointer (some ⟨gi, 0, none⟩), .pointer (some ⟨gf, 0, none⟩), .pointer (some ⟨gi, 0, none⟩), .slice A l.length c, .int .i64 (l.length : Int), .int .i64 ((l.length : Int) + 8), .int .i64 ((l.length : Int) + 7), .int .i64 (partN l : Int), .int .u64 (partN l : Int), .slice (some ⟨X6 + 1, 0, none⟩) 1 1, .tuple #[], .slice A l.length c, .func (.func 71) #[] #[.pointer (some ⟨H, 0, none⟩), .pointer (some ⟨H + 1, 0, none⟩)], undef, undef, undef, undef, undef, undef, undef, undef, undef, undef, undef, undef, undef, undef, undef, undef, undef, undef, undef, undef, undef, undef, undef, undef, undef, undef, undef, undef, undef, undef, .pointer (some ⟨gf, 0, none⟩), .int .i64 (a : Int), .int .u64 (a : Int), .slice A l.length c, .int .i64 (l.length : Int), .int .u64 (l.length : Int), .slice (some ⟨W.heap.size, 0, none⟩) 2 2, .tuple #[], q72, q73, q74, q75, q76, q77, q78, q79, q80, q81, .slice (some ⟨gp, 0, none⟩) (partN l + 3) cp, undef, undef, undef, undef], defers := [{ target := .collected D, args := #[] }] } ∧ Hid (ESt w W' D gi gf X6 X8 vi vf (.slice (some ⟨gp, 0, none⟩) (partN l + 3) cp) ib fb (PS ++ [toB ib, toB (bld (namesE l)), toB (magicB ++ fb)]))) (fun U => U.cell? ⟨X6, 0, none⟩ = some (.pointer (some ⟨gi, 0, none⟩)) ∧ Wr U w.heap.size gi vi ib ∧ Wr U w.heap.size gf vf fb) (fun U => U.cell? ⟨X8, 0, none⟩ = some vp) 10 (by kernel_rfl) ⟨(MK.out _ _ _ HED.out).1, fun _ => (MK.out _ _ _ HED.out).2⟩ (fun hL => ?_) ?_
      · have hadd : 4 + fb.length ≤ 9223372036854775807 := by
          have := HFT.out
          rw [List.length_append] at this
          omega
        refine late_take2 (i := 0) (v := vp) rfl rfl (by kernel_rfl) (by kernel_rfl) (by kernel_rfl) (by decide) (by kernel_rfl) (by kernel_rfl) (by kernel_rfl) ?_ hL fun hL => ?_
        · (intro U hU hU2; (try dsimp only at hU hU2); go_simp; try with_reducible rfl)
        try simp only [Act.put, List.getElem_toArray, List.getElem_cons_succ, List.getElem_cons_zero, List.setIfInBounds_toArray, List.set_cons_zero, List.set_cons_succ]
        refine late_take (i := 1) (v := .pointer (some ⟨gi, 0, none⟩)) rfl (by kernel_rfl) (by kernel_rfl) (by kernel_rfl) (by decide) (by kernel_rfl) ?_ hL fun hL => ?_
        · (intro U hU; refine .inl ?_; have hU1 := hU.1; go_simp; try with_reducible rfl)
        try simp only [Act.put, List.getElem_toArray, List.getElem_cons_succ, List.getElem_cons_zero, List.setIfInBounds_toArray, List.set_cons_zero, List.set_cons_succ]
        refine late_take (i := 2) (v := .string ⟨ib.toArray⟩) rfl (by kernel_rfl) (by kernel_rfl) (by kernel_rfl) (by decide) (by kernel_rfl) ?_ hL fun hL => ?_
        · (intro U hU; refine .inr ⟨49, #[.pointer (some ⟨gi, 0, none⟩)], by go_simp, (bytes_any U w.heap.size gi vi ib hU.2.1).mono fun _ _ h => ⟨h.1, h.2.symm⟩⟩)
        try simp only [Act.put, List.getElem_toArray, List.getElem_cons_succ, List.getElem_cons_zero, List.setIfInBounds_toArray, List.set_cons_zero, List.set_cons_succ]
        refine late_take (i := 3) (v := .slice A l.length c) rfl (by kernel_rfl) (by kernel_rfl) (by kernel_rfl) (by decide) (by kernel_rfl) ?_ hL fun hL => ?_
        · (intro U hU; refine .inl ?_; go_simp; try with_reducible rfl)
        try simp only [Act.put, List.getElem_toArray, List.getElem_cons_succ, List.getElem_cons_zero, List.setIfInBounds_toArray, List.set_cons_zero, List.set_cons_succ]
        refine late_take (i := 6) (v := .pointer (some ⟨gf, 0, none⟩)) rfl (by kernel_rfl) (by kernel_rfl) (by kernel_rfl) (by decide) (by kernel_rfl) ?_ hL fun hL => ?_
        · (intro U hU; refine .inl ?_; go_simp; try with_reducible rfl)
        try simp only [Act.put, List.getElem_toArray, List.getElem_cons_succ, List.getElem_cons_zero, List.setIfInBounds_toArray, List.set_cons_zero, List.set_cons_succ]
        refine late_ready (rs := [4]) (by kernel_rfl) (by simp) ?_
        refine AllLate.cons rfl (fun K hK => ?_) AllLate.nil
        go_simp
        refine (names_any we.drew A l.length c l ((HR.out.below HED.out.bel).mono HED.out.bel.size) (by omega)).mono ?_
        rintro e w4 ⟨vn, rfl, hon, hb4⟩
        have HE4 := Lib.hid (HED.out.below hb4)
        obtain ⟨An, cn, rfl⟩ := own_shape hon
        refine hK.out _ _ ⟨(MK.out _ _ _ HE4.out).1, fun _ => (MK.out _ _ _ HE4.out).2⟩ (fun hL => ?_)
        clear hK K
        try simp only [Act.put, List.getElem_toArray, List.getElem_cons_succ, List.getElem_cons_zero, List.setIfInBounds_toArray, List.set_cons_zero, List.set_cons_succ]
        refine late_ready (rs := [5]) (by kernel_rfl) (by simp) ?_
        refine AllLate.cons rfl (fun K hK => ?_) AllLate.nil
        go_simp
        refine (build_any An (namesE l).length cn (namesE l) w4 (by omega) (Rd.own hon) (fun k hk => by
          obtain ⟨x, hx, rfl⟩ := namesE_mem k hk
          have := (HOK.out.1 x hx).2.1
          unfold maxLen
          omega)).mono ?_
        rintro e w5 ⟨rfl, hb5⟩
        have HE5 := Lib.hid (HE4.out.below hb5)
        refine hK.out _ _ ⟨(MK.out _ _ _ HE5.out).1, fun _ => (MK.out _ _ _ HE5.out).2⟩ (fun hL => ?_)
        clear hK K
        try simp only [Act.put, List.getElem_toArray, List.getElem_cons_succ, List.getElem_cons_zero, List.setIfInBounds_toArray, List.set_cons_zero, List.set_cons_succ]
        refine late_take (i := 7) (v := .string ⟨fb.toArray⟩) rfl (by kernel_rfl) (by kernel_rfl) (by kernel_rfl) (by decide) (by kernel_rfl) ?_ hL fun hL => ?_
        · (intro U hU; refine .inr ⟨49, #[.pointer (some ⟨gf, 0, none⟩)], by go_simp, (bytes_any U w.heap.size gf vf fb hU.2.2).mono fun _ _ h => ⟨h.1, h.2.symm⟩⟩)
        try simp only [Act.put, List.getElem_toArray, List.getElem_cons_succ, List.getElem_cons_zero, List.setIfInBounds_toArray, List.set_cons_zero, List.set_cons_succ]
        refine late_take (i := 8) (v := .string (⟨#[84, 82, 77, 49]⟩ ++ ⟨fb.toArray⟩)) rfl (by kernel_rfl) (by kernel_rfl) (by kernel_rfl) (by decide) (by kernel_rfl) ?_ hL fun hL => ?_
        · (intro U hU; refine .inl ?_; go_simp)
        try simp only [Act.put, List.getElem_toArray, List.getElem_cons_succ, List.getElem_cons_zero, List.setIfInBounds_toArray, List.set_cons_zero, List.set_cons_succ]
        refine late_ready (rs := [9]) (by kernel_rfl) (by simp) ?_
        refine AllLate.cons rfl (fun K hK => ?_) AllLate.nil
        go_simp
        have HE6 := Lib.hid (HE5.out.below ((Below.refl _ w5).alloc (Nat.le_refl _) (.cells #[.string ⟨ib.toArray⟩, .string ⟨(bld (namesE l)).toArray⟩, .string (⟨#[84, 82, 77, 49]⟩ ++ ⟨fb.toArray⟩)] 9)))
        refine hK.out _ _ ⟨(MK.out _ _ _ HE6.out).1, fun _ => (MK.out _ _ _ HE6.out).2⟩ (fun hL => ?_)
        clear hK K
        try simp only [Act.put, List.getElem_toArray, List.getElem_cons_succ, List.getElem_cons_zero, List.setIfInBounds_toArray, List.set_cons_zero, List.set_cons_succ]
        refine late_ready (rs := [10]) (by kernel_rfl) (by simp) ?_
        refine AllLate.cons rfl (fun K hK => ?_) AllLate.nil
        refine step_app (by rfl) (.tmp 72) (.tmp 81) 22 (by rfl) w.heap.size 9 i0 _ 1 16 Try.underlying22 hi0 hz0 hz1 hz2 rfl (by omega) vp PS.length (strv PS) _ (some ⟨w5.heap.size, 0, none⟩) 3 3 [.string ⟨ib.toArray⟩, .string ⟨(bld (namesE l)).toArray⟩, .string (⟨#[84, 82, 77, 49]⟩ ++ ⟨fb.toArray⟩)] (by rfl) (by exact HE6.out.pay) (by rfl) (Rd.new _ _ rfl) (by simp [Value.oneCell']) ?b1 ?b2 ?b3 ?_
        case b1 => omega
        case b2 => unfold maxLen; omega
        case b3 => exact HE6.out.bel.size
        intro v10 w10 ho10 hu10 hat10
        have ho10' : w10.ownsRow w.heap.size 9 1 v10 (PS ++ [toB ib, toB (bld (namesE l)), toB (magicB ++ fb)]).length (strv (PS ++ [toB ib, toB (bld (namesE l)), toB (magicB ++ fb)])) := by
          have e1 : (⟨#[84, 82, 77, 49]⟩ ++ ⟨fb.toArray⟩ : ByteArray) = toB (magicB ++ fb) := by
            apply ByteArray.ext
            simp [toB, magicB]
          rw [List.length_append, show strv (PS ++ [toB ib, toB (bld (namesE l)), toB (magicB ++ fb)]) = strv PS ++ [.string ⟨ib.toArray⟩, .string ⟨(bld (namesE l)).toArray⟩, .string (⟨#[84, 82, 77, 49]⟩ ++ ⟨fb.toArray⟩)] by rw [e1]; simp [strv, toB]]
          exact ho10
        obtain ⟨hm, he10, hc10, hf10⟩ := HE6.out.grown ho10' hu10
        obtain ⟨gp, cp, rfl, -, -, -, -⟩ := own_form ho10 (by omega)
        rw [hpl] at he10 ⊢
        have HE10 := Lib.hid he10
        refine hK.out _ _ ⟨hm, fun _ => hc10⟩ (fun hL => ?_)
        clear hK K
        try simp only [Act.put, List.getElem_toArray, List.getElem_cons_succ, List.getElem_cons_zero, List.setIfInBounds_toArray, List.set_cons_zero, List.set_cons_succ]
        refine late_ready (rs := [11]) (by kernel_rfl) (by simp) ?_
        refine AllLate.cons rfl (fun K hK => ?_) AllLate.nil
        go_simp
        refine hK.out _ _ ⟨(MK.out _ _ _ HE10.out).1, fun h => ?_⟩ (fun hL => ?_)
        · cases h
        clear hK K
        try simp only [Act.put, List.getElem_toArray, List.getElem_cons_succ, List.getElem_cons_zero, List.setIfInBounds_toArray, List.set_cons_zero, List.set_cons_succ]
        refine late_done (by kernel_rfl) ?_ _
        exact ⟨_, _, _, _, _, _, _, _, _, _, _, _, rfl, HE10⟩
      · rintro a' W2 ⟨q72, q73, q74, q75, q76, q77, q78, q79, q80, q81, gp, cp, rfl, HE2⟩
        have y8 : W2.cell? ⟨X8, 0, none⟩ = some (.slice (some ⟨gp, 0, none⟩) (partN l + 3) cp) := (MK.out _ _ _ HE2.out).2
        have hrow := HE2.out.pay
        have hlen3 : (PS ++ [toB ib, toB (bld (namesE l)), toB (magicB ++ fb)]).length = partN l + 3 := by rw [List.length_append, hpl]; rfl
        rw [HALL.out] at hrow hlen3
        rw [hlen3] at hrow
        have hsl : ∀ s ∈ allP l, s.size ≤ 140737488351232 := by
          intro s hs'
          rw [← HALL.out] at hs'
          have h4 := HFT.out
          rcases List.mem_append.1 hs' with h | h
          · have hmem : s ∈ paysE l (partN l) := by
              have := HPS.out
              rw [this]; exact h
            obtain ⟨k, hk, rfl⟩ := List.mem_map.1 hmem
            have hb := block_le hS (p := partE l k) (fun x hx => HOK.out.1 x (partE_mem hx)) (by rw [partE_len]; omega)
            have hb8 : (partE l k).length * (50 + 2 * S) ≤ 8 * (50 + 2 * 1048576) := Nat.mul_le_mul (by rw [partE_len]; omega) (by omega)
            unfold payE
            rw [toB_size]
            omega
          · simp only [List.mem_cons, List.not_mem_nil, or_false] at h
            rcases h with rfl | rfl | rfl <;> rw [toB_size] <;> omega
        have HSE := Lib.hid (fseal_any W2 (some ⟨gp, 0, none⟩) (partN l + 3) cp (allP l) (Rd.own hrow) (allP_seal hS HOK.out) (by omega) hsl)
        have HBT : Hid (bldT l = sealR (allP l)) := Lib.hid (if_pos HRT.out)
        clear hrow hlen3 hsl MK HED HE HALL HFT HPS
        gi_wp2_with (refine ⟨trivial, ?_⟩; gi_at_call 51; refine (callsIn_wide.2 HSE.out).mono ?_; rintro e wf ⟨rfl, hbf⟩)
        have HEF := Lib.hid (HE2.out.below hbf)
        refine leave_marks [D] wf ⟨by simp, fun D' h => by simp at h; subst h; exact HEF.out.mkD⟩ fun W' hu => ?_
        refine ⟨_, results_tmp2 rfl _ _ _, ?_, ?_⟩
        · rw [HBT.out]; rfl
        · exact HEF.out.bel.trans (hu.below (fun k hk hD' => by simp at hD'; omega) HEF.out.bel.size)
  · have HE := Lib.hid (encR_no hrt)
    have HBT : Hid (bldT l = ([], 9)) := Lib.hid (if_neg hrt)
    gi_wp2_with (refine ⟨trivial, ?_⟩; (gi_at_call 44; refine (callsIn_wide.2 HENC.out).mono ?_; rintro e w1 ⟨rfl, hb1⟩; have HB1 := Lib.hid hb1; rw [HE.out]; clear hb1 HENC HE))
    refine ⟨_, results_tmp2 rfl _ _ _, ?_, HB1.out⟩
    rw [HBT.out]; rfl
end Go.Proofs.Ytanieolnaiihmaa
