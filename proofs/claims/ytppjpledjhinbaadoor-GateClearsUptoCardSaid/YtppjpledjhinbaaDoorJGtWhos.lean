/- The gate's example, walked. -/
import Derived.Test.YtppjpledjhinbaaDoorJGtGrd
import Derived.Test.YtppjpledjhinbaaDoorJGtDeny
import Derived.Test.YtppjpledjhinbaaDoorJSameInts
namespace Go.Proofs.YtppjpledjhinbaaDoor
open Go.RowKit Go.Lib
theorem alloc_keep {w : World} {h : Nat} {o o' : Obj} (hb : w.heap[h]? = some o) : (w.alloc o').heap[h]? = some o := (Below.heap_alloc w _ _ (Array.getElem?_eq_some_iff.1 hb).1).trans hb
def gxCand : MCand := ⟨gxWho, false⟩
theorem gx_fit1 : fitL gxRows ([gxWho].map rider) = true := by
  rw [gx_fitL _ (fun x hx => by simp at hx; rw [hx]; rfl) (by simp)]
  simp
theorem gx_deny3 : (den2 gxRows [gxCand, gxCand, gxCand]).2 = [2] := gx_deny true
set_option maxHeartbeats 8000000 in
set_option maxRecDepth 20000 in
theorem glives_any (w : World) (mm : Int) (hLib : LibAt w mm) : Calls Tryd.prog 25 #[] w fun e w' => e = .returned (.bool true) ∧ Below w.heap.size w w' := by
  obtain ⟨Wa, hWa⟩ : ∃ W, W = w.alloc (.cells #[.int .i64 1, .int .i64 1, .int .i64 0, .bool false, .string ⟨#[65, 66]⟩] 72) := ⟨_, rfl⟩
  obtain ⟨Wb, hWb⟩ : ∃ W, W = Wa.alloc (.cells #[.int .i64 1, .bool false, .bool false] 28) := ⟨_, rfl⟩
  obtain ⟨Wc, hWc⟩ : ∃ W, W = Wb.alloc (.cells #[.int .i64 1, .bool false, .bool false] 28) := ⟨_, rfl⟩
  obtain ⟨Wd, hWd⟩ : ∃ W, W = Wc.alloc (.cells #[.int .i64 1, .bool false, .bool false, .int .i64 1, .bool false, .bool false] 28) := ⟨_, rfl⟩
  obtain ⟨s0, hs0⟩ : ∃ s, w.heap.size = s := ⟨_, rfl⟩
  have sa : Wa.heap.size = s0 + 1 := by rw [hWa, ← hs0]; simp
  have sb : Wb.heap.size = s0 + 2 := by rw [hWb]; simp [sa]
  have sc : Wc.heap.size = s0 + 3 := by rw [hWc]; simp [sb]
  have sd : Wd.heap.size = s0 + 4 := by rw [hWd]; simp [sc]
  have hba : Below w.heap.size w Wa := by rw [hWa]; exact (Below.refl _ _).alloc (Nat.le_refl _) _
  have hbb : Below w.heap.size w Wb := by rw [hWb]; exact hba.alloc (by omega) _
  have hbc : Below w.heap.size w Wc := by rw [hWc]; exact hbb.alloc (by omega) _
  have hbd : Below w.heap.size w Wd := by rw [hWd]; exact hbc.alloc (by omega) _
  have ra : Wa.heap[s0]? = some (.cells #[.int .i64 1, .int .i64 1, .int .i64 0, .bool false, .string ⟨#[65, 66]⟩] 72 (0, 0)) := by rw [hWa, ← hs0]; exact heap_alloc_new w _
  have rb : Wb.heap[s0 + 1]? = some (.cells #[.int .i64 1, .bool false, .bool false] 28 (0, 0)) := by rw [hWb, ← sa]; exact heap_alloc_new Wa _
  have rc : Wc.heap[s0 + 2]? = some (.cells #[.int .i64 1, .bool false, .bool false] 28 (0, 0)) := by rw [hWc, ← sb]; exact heap_alloc_new Wb _
  have rd : Wd.heap[s0 + 3]? = some (.cells #[.int .i64 1, .bool false, .bool false, .int .i64 1, .bool false, .bool false] 28 (0, 0)) := by rw [hWd, ← sc]; exact heap_alloc_new Wc _
  have rad : Wd.heap[s0]? = some (.cells #[.int .i64 1, .int .i64 1, .int .i64 0, .bool false, .string ⟨#[65, 66]⟩] 72 (0, 0)) := by rw [hWd]; refine alloc_keep ?_; rw [hWc]; refine alloc_keep ?_; rw [hWb]; exact alloc_keep ra
  have rbc : Wc.heap[s0 + 1]? = some (.cells #[.int .i64 1, .bool false, .bool false] 28 (0, 0)) := by rw [hWc]; exact alloc_keep rb
  have rbd : Wd.heap[s0 + 1]? = some (.cells #[.int .i64 1, .bool false, .bool false] 28 (0, 0)) := by rw [hWd]; exact alloc_keep rbc
  have rcd : Wd.heap[s0 + 2]? = some (.cells #[.int .i64 1, .bool false, .bool false] 28 (0, 0)) := by rw [hWd]; exact alloc_keep rc
  have p1 : Rd Wd Wd.heap.size 5 (some ⟨s0, 0, none⟩) 1 (catv rowC gxRows) := rd_blockN 1 5 rad rfl
  have p2 : Rd Wd Wd.heap.size 3 (some ⟨s0 + 2, 0, none⟩) 1 (catv whoC [gxWho]) := rd_blockN 1 3 rcd rfl
  have p3 : Rd Wd Wd.heap.size 3 (some ⟨s0 + 3, 0, none⟩) 2 (catv whoC [gxWho, gxWho]) := rd_blockN 2 3 rd rfl
  have HCL := Lib.hid (clear_any Wd mm _ 1 1 gxRows p1 gx_fits (hLib.below hbd) _ 1 1 [gxWho] p2 _ 2 2 [gxWho, gxWho] p3 (by omega) (by omega))
  have cellsOf : ∀ W : World, W.heap[s0 + 1]? = some (.cells #[.int .i64 1, .bool false, .bool false] 28 (0, 0)) → W.cell? ⟨s0 + 1, 0, none⟩ = some (.int .i64 1) ∧ W.cell? ⟨s0 + 1, 1, none⟩ = some (.bool false) ∧ W.cell? ⟨s0 + 1, 2, none⟩ = some (.bool false) := fun W h => by
    refine ⟨?_, ?_, ?_⟩ <;> rw [cell_of_row _ _ _ _ _ _ h] <;> rfl
  have HCO := Lib.hid cellsOf
  have HP1 := Lib.hid p1
  have HRB := Lib.hid rbd
  have HBD := Lib.hid hbd
  have HL := Lib.hid hLib
  have HSZ := Lib.hid (And.intro hs0 sd)
  clear ra rb rc rd rad rbc rbd rcd p1 p2 p3 hba hbb hbc hbd hLib cellsOf sa sb sc sd
  go_enter Tryd.func25, Tryd.ntmps25
  go_wp2_with fail
  rw [← hWa, ← hWb, ← hWc, ← hWd]
  refine HCL.out.mono ?_
  rintro e w2 ⟨hb2, hcase⟩
  rw [if_neg (fun h => h gx_err), if_neg (by decide), if_neg (by rw [gx_fit1]; decide), gx_clear] at hcase
  obtain ⟨v2, rfl, ho2⟩ := hcase
  have hb02 := HBD.out.trans (hb2.mono HBD.out.size)
  have ho2 := own_mono ho2 HBD.out.size
  obtain ⟨A2, c2, rfl⟩ := own_shape ho2
  have rb2 := box_keep HRB.out (Upd.of_below (S := fun _ => False) hb2) id
  obtain ⟨k0, k1, k2⟩ := HCO.out w2 rb2
  obtain ⟨W3, hW3⟩ : ∃ W, W = w2.alloc (.cells #[.int .i64 1, .bool false, .bool false, .bool false, .int .i64 1, .bool false, .bool false, .bool false, .int .i64 1, .bool false, .bool false, .bool false] 69) := ⟨_, rfl⟩
  have hb3 : Below w2.heap.size w2 W3 := by rw [hW3]; exact (Below.refl _ _).alloc (Nat.le_refl _) _
  have hb23 := hb2.trans (hb3.mono hb2.size)
  have rq : W3.heap[w2.heap.size]? = some (.cells #[.int .i64 1, .bool false, .bool false, .bool false, .int .i64 1, .bool false, .bool false, .bool false, .int .i64 1, .bool false, .bool false, .bool false] 69 (0, 0)) := by rw [hW3]; exact heap_alloc_new w2 _
  have hb03 := hb02.trans (hb3.mono hb02.size)
  have p4 : Rd W3 W3.heap.size 4 (some ⟨w2.heap.size, 0, none⟩) 3 (catv candC [gxCand, gxCand, gxCand]) := rd_blockN 3 4 rq rfl
  have HDN := Lib.hid (deny_any W3 mm _ 1 1 gxRows ((HP1.out.below hb23).mono hb23.size) gx_fits (HL.out.below hb03) _ 3 3 [gxCand, gxCand, gxCand] p4 (by omega))
  have HO3 := Lib.hid (own_below ho2 hb3)
  have HB3 := Lib.hid hb03
  have HX3 := Lib.hid hb23
  have HR3 := Lib.hid (box_keep rb2 (Upd.of_below (S := fun _ => False) hb3) id)
  clear hb2 ho2 rb2 hb3 rq p4 HCL hb23 hb03 hb02
  go_wp2_with fail
  rw [← hW3]
  clear hW3
  refine HDN.out.mono ?_
  rintro e w4 ⟨hb4, hcase⟩
  rw [if_neg (fun h => h gx_err), if_neg (by decide), gx_deny3] at hcase
  obtain ⟨v4, rfl, ho4⟩ := hcase
  have hb04 := HB3.out.trans (hb4.mono HB3.out.size)
  have ho4 := own_mono ho4 HB3.out.size
  have ho24 := own_below HO3.out hb4
  obtain ⟨A4, c4, rfl⟩ := own_shape ho4
  have rb4 := box_keep HR3.out (Upd.of_below (S := fun _ => False) hb4) id
  obtain ⟨j0, j1, j2⟩ := HCO.out w4 rb4
  obtain ⟨W5, hW5⟩ : ∃ W, W = w4.alloc (.cells #[.int .i64 1, .bool false, .bool false, .int .i64 1, .bool false, .bool false] 28) := ⟨_, rfl⟩
  have hb5 : Below w4.heap.size w4 W5 := by rw [hW5]; exact (Below.refl _ _).alloc (Nat.le_refl _) _
  have rq : W5.heap[w4.heap.size]? = some (.cells #[.int .i64 1, .bool false, .bool false, .int .i64 1, .bool false, .bool false] 28 (0, 0)) := by rw [hW5]; exact heap_alloc_new w4 _
  have hb05 := hb04.trans (hb5.mono hb04.size)
  have hb15 := (HX3.out.trans (hb4.mono HX3.out.size))
  have hb15 := hb15.trans (hb5.mono hb15.size)
  have p5 : Rd W5 W5.heap.size 3 (some ⟨w4.heap.size, 0, none⟩) 2 (catv whoC [gxWho, gxWho]) := rd_blockN 2 3 rq rfl
  have HJN := Lib.hid (joint_any W5 mm _ 1 1 gxRows ((HP1.out.below hb15).mono hb15.size) gx_fits (HL.out.below hb05) _ 2 2 [gxWho, gxWho] p5)
  have HO5 := Lib.hid (And.intro (own_below ho24 hb5) (own_below ho4 hb5))
  have HB5 := Lib.hid hb05
  clear hb4 ho4 ho24 rb4 hb5 rq p5 HDN hb04 hb05 hb15 HO3 HB3 HX3 HR3 k0 k1 k2
  go_wp2_with fail
  rw [← hW5]
  clear hW5
  refine HJN.out.mono ?_
  rintro e w6 ⟨hb6, hcase⟩
  rw [if_neg (fun h => h gx_err), if_neg (by decide)] at hcase
  obtain ⟨k, hk, rfl⟩ := hcase
  obtain rfl := gx_joint hk
  obtain ⟨W7, hW7⟩ : ∃ W, W = w6.alloc (.cells #[.int .i64 0] 3) := ⟨_, rfl⟩
  have hb7 : Below w6.heap.size w6 W7 := by rw [hW7]; exact (Below.refl _ _).alloc (Nat.le_refl _) _
  have r7 : W7.heap[w6.heap.size]? = some (.cells #[.int .i64 0] 3 (0, 0)) := by rw [hW7]; exact heap_alloc_new w6 _
  have hb57 := hb6.trans (hb7.mono hb6.size)
  have p7 : Rd W7 W7.heap.size 1 (some ⟨w6.heap.size, 0, none⟩) 1 (i64v [0]) := rd_blockN 1 1 r7 rfl
  have HSM := Lib.hid (sameInts_yes A2 _ 1 c2 1 W7.heap.size [0] W7 (by unfold maxLen; omega) (Rd.own (own_below HO5.out.1 hb57)) p7)
  have HO7 := Lib.hid (own_below HO5.out.2 hb57)
  have HB7 := Lib.hid (HB5.out.trans (hb57.mono HB5.out.size))
  clear hb6 hk hb7 r7 hb57 p7 HJN HO5 HB5 j0 j1 j2
  go_wp2_with fail
  rw [← hW7]
  clear hW7
  refine HSM.out.mono ?_
  rintro e w8 ⟨rfl, m8, hw8⟩
  have hb8 : Below W7.heap.size W7 w8 := by rw [hw8]; exact ((Upd.refl (fun _ => False) W7).drewN m8).below (fun _ _ h => h.elim) (Nat.le_refl _)
  obtain ⟨W9, hW9⟩ : ∃ W, W = w8.alloc (.cells #[.int .i64 2] 3) := ⟨_, rfl⟩
  have hb9 : Below w8.heap.size w8 W9 := by rw [hW9]; exact (Below.refl _ _).alloc (Nat.le_refl _) _
  have r9 : W9.heap[w8.heap.size]? = some (.cells #[.int .i64 2] 3 (0, 0)) := by rw [hW9]; exact heap_alloc_new w8 _
  have hb79 := hb8.trans (hb9.mono hb8.size)
  have p9 : Rd W9 W9.heap.size 1 (some ⟨w8.heap.size, 0, none⟩) 1 (i64v [2]) := rd_blockN 1 1 r9 rfl
  have HSN := Lib.hid (sameInts_yes A4 _ 1 c4 1 W9.heap.size [2] W9 (by unfold maxLen; omega) (Rd.own (own_below HO7.out hb79)) p9)
  have HB9 := Lib.hid (HB7.out.trans (hb79.mono HB7.out.size))
  clear hw8 hb8 hb9 r9 hb79 p9 HSM HO7 HB7
  go_wp2_with fail
  rw [← hW9]
  clear hW9
  refine HSN.out.mono ?_
  rintro e w10 ⟨rfl, m10, hw10⟩
  have HBE : Hid (Below w.heap.size w w10) := Lib.hid (by rw [hw10]; exact HB9.out.trans (((Upd.refl (fun _ => False) W9).drewN m10).below (fun _ _ h => h.elim) HB9.out.size))
  clear hw10 HSN
  go_wp2
  go_ret
  exact ⟨rfl, HBE.out⟩
end Go.Proofs.YtppjpledjhinbaaDoor
/- The law's whos, walked. -/
namespace Go.Proofs.YtppjpledjhinbaaDoor
open Go.RowKit Go.Lib
set_option maxRecDepth 20000 in
theorem who_infoG : (Tryd.prog.info? 28).map (fun i => (i.zero, i.size, i.bytes)) = some (some (.agg #[.int .i64 0, .bool false, .bool false]), 3, 16) := by kernel_rfl
set_option maxHeartbeats 4000000 in
set_option maxRecDepth 20000 in
theorem whos_any (w : World) (A : Option Addr) (n c : Nat) (cs : List MCand) (hr : Rd w w.heap.size 4 A n (catv candC cs)) (hn : n ≤ 1099511627776) :
    Calls Tryd.prog 26 #[.slice A n c] w fun e w' => ∃ v, e = .returned v ∧ w'.ownsRow w.heap.size 28 3 v n (catv whoC (cs.map MCand.who)) ∧ Below w.heap.size w w' := by
  obtain ⟨i0, hi0, hz0, hz1, hz2⟩ := info_parts who_infoG
  have HNN := Lib.hid (rd_catlen candC_len (by decide) hr)
  have HR := Lib.hid hr
  clear hr
  go_enter Tryd.func26, Tryd.ntmps26
  go_wp2
  go_loopw [8, 3] (fun iv ov wx => ∃ k : Nat, iv = .int .i64 (k : Int) ∧ k ≤ n ∧ Hid (wx.ownsRow w.heap.size 28 3 ov k (catv whoC ((cs.take k).map MCand.who))) ∧ Hid (Below w.heap.size w wx)) (fun iv _ _ => n - (intOf iv).toNat)
  case atStart => exact ⟨0, rfl, Nat.zero_le _, Lib.hid (World.ownsRow_nil _ _ _ _), Lib.hid (Below.refl _ _)⟩
  case round =>
    obtain ⟨k, rfl, hk, hO, hB⟩ := hrel
    by_cases hlt : k < n
    · obtain ⟨gb, off, rfl, hgb, hsl, hcc⟩ := (HR.out.below hB.out).elem candC_len (by decide) hlt
      obtain ⟨x, hx⟩ : ∃ x, cs[k] = x := ⟨_, rfl⟩
      rw [hx] at hcc
      have c0 := hcc 0 (.int .i64 x.who.cab) rfl
      have c1' := hcc 1 (.bool x.who.fit) rfl
      have c2' := hcc 2 (.bool x.who.inf) rfl
      have c3' := hcc 3 (.bool x.vol) rfl
      rw [Nat.add_zero] at c0
      obtain ⟨xs, hxs⟩ : ∃ xs, (cs.take k).map MCand.who = xs := ⟨_, rfl⟩
      have hn1 : (cs.take (k + 1)).map MCand.who = xs ++ [x.who] := by rw [List.take_succ_eq_append_getElem hsl, hx, List.map_append, hxs]; rfl
      rw [hxs] at hO
      have hbA := (Below.refl wr.heap.size wr).alloc (Nat.le_refl _) (.cells #[.int .i64 x.who.cab, .bool x.who.fit, .bool x.who.inf, .bool x.vol] 69)
      have HOA := Lib.hid (own_below hO.out hbA)
      have HBA := Lib.hid (hB.out.trans (hbA.mono hB.out.size))
      have HN1 := Lib.hid hn1
      have hki : (k : Int) < (n : Int) := by omega
      have hk0 : (0 : Int) ≤ (k : Int) := by omega
      clear hcc hx hxs hn1 hO hB hbA hgb
      go_wp2_with (at_builtin; refine wpList_push rfl (.tmp 12) (.tmp 15) 57 rfl w.heap.size 28 i0 _ 3 16 Tryd.underlying57 hi0 hz0 hz1 hz2 rfl (by omega) _ k (catv whoC xs) #[.int .i64 x.who.cab, .bool x.who.fit, .bool x.who.inf] rfl (by exact HOA.out) (by simp [Act.eval]) rfl (by simp [Value.oneCell']) ?k1 ?k2 ?k3 ?_)
      case k1 => omega
      case k2 => unfold maxLen; omega
      case k3 => exact HBA.out.size
      intro v6 w6 ho6 hu6 _
      have HO9 : Hid (w6.ownsRow w.heap.size 28 3 v6 (k + 1) (catv whoC ((cs.take (k + 1)).map MCand.who))) := Lib.hid (by rw [HN1.out, catv_append, catv_one]; exact ho6)
      have HB9 := Lib.hid (HBA.out.trans (hu6.below (fun q hq e => by have := (HOA.out.lt q e).1; omega) HBA.out.size))
      clear ho6 hu6 HOA HBA
      go_wp2
      go_roundw
      case rel => exact ⟨k + 1, by go_num, hlt, HO9, HB9⟩
      case measure => (simp [intOf]; try omega)
    · obtain rfl : k = n := by omega
      have hki : ¬ (k : Int) < (k : Int) := by omega
      rw [HNN.out, List.take_length, ← HNN.out] at hO
      have HO := Lib.hid hO.out
      have HB := Lib.hid hB.out
      clear hO hB
      go_wp2
      go_ret
      exact ⟨_, rfl, HO.out, HB.out⟩
end Go.Proofs.YtppjpledjhinbaaDoor
