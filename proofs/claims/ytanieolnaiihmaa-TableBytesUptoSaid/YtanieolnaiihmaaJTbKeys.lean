/- Tables: the reference's Blocks, walked. -/
import Derived.Test.YtanieolnaiihmaaJTbNm
namespace Go.Proofs.Ytanieolnaiihmaa
open Go.RowKit
def lenOf : Value → Nat
  | .slice _ n _ => n
  | _ => 0
/-- The blocks as slices of the list. -/
def blkV (g off c : Nat) (l : List Ent) (i : Nat) : Value := .slice (some ⟨g, off + 8 * i * 4, none⟩) (partE l i).length (c - 8 * i)
def blksV (g off c : Nat) (l : List Ent) (k : Nat) : List Value := (List.range k).map (blkV g off c l)
theorem blksV_succ (g off c : Nat) (l : List Ent) (k : Nat) : blksV g off c l (k + 1) = blksV g off c l k ++ [blkV g off c l k] := by unfold blksV; rw [List.range_succ, List.map_append]; rfl
theorem blksV_len (g off c : Nat) (l : List Ent) (k : Nat) : (blksV g off c l k).length = k := by simp [blksV]
set_option maxRecDepth 20000 in
theorem sl_info : (Try.prog.info? 31).map (fun i => (i.zero, i.size, i.bytes)) = some (some (.slice none 0 0), 1, 24) := by kernel_rfl
set_option maxHeartbeats 4000000 in
set_option maxRecDepth 20000 in
theorem rblocks_any (w : World) (g off c : Nat) (A0 : Option Addr) (l : List Ent) (hA0 : 0 < l.length → A0 = some ⟨g, off, none⟩) (hc : l.length ≤ c) (hn : l.length ≤ 1000000000000) :
    Calls Try.prog 26 #[.slice A0 l.length c] w fun e w' => ∃ v, e = .returned v ∧ w'.ownsRow w.heap.size 31 1 v (partN l) (blksV g off c l (partN l)) ∧ Below w.heap.size w w' := by
  obtain ⟨i0, hi0, hz0, hz1, hz2⟩ := info_parts sl_info
  have HA0 := Lib.hid hA0
  clear hA0
  go_enter Try.func26, Try.ntmps26
  go_wp2
  go_loopw [0, 3] (fun lv ov wx => ∃ (k cc : Nat) (A : Option Addr), k ≤ partN l ∧ lv = .slice A (l.length - 8 * k) cc ∧ l.length - 8 * k ≤ cc ∧ Hid (8 * k < l.length → A = some ⟨g, off + 8 * k * 4, none⟩ ∧ cc = c - 8 * k) ∧ Hid (wx.ownsRow w.heap.size 31 1 ov k (blksV g off c l k)) ∧ Hid (Below w.heap.size w wx)) (fun lv _ _ => lenOf lv)
  case atStart => exact ⟨0, c, A0, Nat.zero_le _, rfl, by omega, Lib.hid (fun h => ⟨by rw [HA0.out (by omega)]; simp, rfl⟩), Lib.hid (World.ownsRow_nil _ _ _ _), Lib.hid (Below.refl _ _)⟩
  case round =>
    obtain ⟨k, cc, A, hkp, rfl, hmc, hA, hO, hB⟩ := hrel
    obtain ⟨m, hm⟩ : ∃ m, l.length - 8 * k = m := ⟨_, rfl⟩
    have HM := Lib.hid hm
    rw [hm] at hmc ⊢
    clear hm HA0
    by_cases hlt : 0 < m
    · obtain ⟨rfl, rfl⟩ := hA.out (by have := HM.out; omega)
      have hgt : ((0 : Int) < (m : Int)) := by omega
      obtain ⟨P, hP⟩ : ∃ P : Addr, (⟨g, off + 8 * k * 4, none⟩ : Addr) = P := ⟨_, rfl⟩
      obtain ⟨C, hC⟩ : ∃ C, c - 8 * k = C := ⟨_, rfl⟩
      have HP := Lib.hid (And.intro hP hC)
      rw [hC] at hmc
      rw [hP, hC]
      clear hP hC hA
      have hkb : k < partN l := by unfold partN; have := HM.out; omega
      have hkz : k ≤ 1000000000000 := by unfold partN at hkb; omega
      obtain ⟨q, hq⟩ : ∃ q, min 8 m = q := ⟨_, rfl⟩
      have hqi : min (m : Int) 8 = (q : Int) := by omega
      have hqm : q ≤ m := by omega
      have hq0 : 0 < q := by omega
      have hqmi : (q : Int) ≤ (m : Int) := by omega
      have hqci : (q : Int) ≤ (C : Int) := by omega
      have hq0i : (0 : Int) ≤ (q : Int) := by omega
      have HQ := Lib.hid hq
      have HV : Hid (blkV g off c l k = .slice (some P) q C) := Lib.hid (by
        unfold blkV
        rw [partE_len, HM.out, hq, HP.out.1, HP.out.2])
      clear hq
      go_wp2_with (at_builtin; refine wpList_push rfl (.tmp 11) (.tmp 15) 54 rfl w.heap.size 31 i0 _ 1 24 Try.underlying54 hi0 hz0 hz1 hz2 rfl (by omega) _ k (blksV g off c l k) #[.slice (some P) q C] rfl (by exact hO.out) rfl rfl (by simp [Value.oneCell']) ?c1 ?c2 ?c3 ?_)
      case c1 => omega
      case c2 => unfold maxLen; omega
      case c3 => exact hB.out.size
      intro v3 w3 hown3 hu3 hat3
      have hb3 : Below w.heap.size w w3 := hB.out.trans (hu3.below (fun q hq e => by have := (hO.out.lt q e).1; omega) hB.out.size)
      have HO3 : Hid (w3.ownsRow w.heap.size 31 1 v3 (k + 1) (blksV g off c l (k + 1))) := Lib.hid (by rw [blksV_succ, HV.out]; exact hown3)
      have HB3 := Lib.hid hb3
      clear hown3 hu3 hat3 hb3 hO hB
      by_cases hcq : C = q
      · have hmq : m = q := by omega
        subst hmq
        have hcqi : (C : Int) = (m : Int) := by omega
        go_wp2
        go_roundw
        case rel =>
          have hz : l.length - 8 * (k + 1) = 0 := by have := HM.out; have := HQ.out; omega
          exact ⟨k + 1, 0, some P, hkb, by rw [hz], by omega, Lib.hid (fun h => by omega), HO3, HB3⟩
        case measure => simp only [lenOf]; omega
      · go_wp2
        go_roundw
        case rel =>
          have hz : l.length - 8 * (k + 1) = m - q := by have := HM.out; have := HQ.out; omega
          refine ⟨k + 1, C - q, some (P.add (q * 4)), hkb, by rw [hz], by omega, Lib.hid (fun h => ?_), HO3, HB3⟩
          have h8 : q = 8 := by have := HM.out; have := HQ.out; omega
          refine ⟨?_, by have := HP.out.2; omega⟩
          rw [← HP.out.1, add_flat, h8]
          simp only [Option.some.injEq, Addr.mk.injEq, true_and, and_true]
          omega
        case measure => simp only [lenOf]; omega
    · have hgt : ¬ ((0 : Int) < (m : Int)) := by omega
      have hkN : k = partN l := by have := HM.out; unfold partN at hkp ⊢; omega
      subst hkN
      go_wp2
      go_ret
      exact ⟨_, rfl, hO.out, hB.out⟩
end Go.Proofs.Ytanieolnaiihmaa
/- Tables: the reference's Keys, walked (printed by wip/tools/gen_keys.py). -/
namespace Go.Proofs.Ytanieolnaiihmaa
open Go.RowKit
theorem namesE_last (l : List Ent) (x : Ent) : (namesE (l ++ [x])).getLast? = some x.key := by
  rw [namesE_snoc]
  unfold nameS
  split
  · rename_i h; exact h
  · simp
set_option maxHeartbeats 4000000 in
set_option maxRecDepth 20000 in
theorem rkeys_any (w : World) (A : Option Addr) (n c : Nat) (l : List Ent) (hr : Rd w w.heap.size 4 A n (entv l)) (hn : n ≤ 4000000000000) :
    Calls Try.prog 30 #[.slice A n c] w fun e w' => ∃ v, e = .returned v ∧ w'.ownsRow w.heap.size 9 1 v (namesE l).length (strv (namesE l)) ∧ Below w.heap.size w w' := by
  obtain ⟨i0, hi0, hz0, hz1, hz2⟩ := info_parts str_info
  obtain rfl := rd_entlen hr
  have HR := Lib.hid hr
  clear hr
  go_enter Try.func30, Try.ntmps30
  go_wp2
  go_loopw [3, 8] (fun ov iv wx => ∃ k : Nat, k ≤ l.length ∧ iv = .int .i64 (k : Int) ∧ Hid (wx.ownsRow w.heap.size 9 1 ov (namesE (l.take k)).length (strv (namesE (l.take k)))) ∧ Hid (Below w.heap.size w wx)) (fun _ iv _ => l.length - (intOf iv).toNat)
  case atStart => exact ⟨0, Nat.zero_le _, rfl, Lib.hid (World.ownsRow_nil _ _ _ _), Lib.hid (Below.refl _ _)⟩
  case round =>
    obtain ⟨k, hk, rfl, hO, hB⟩ := hrel
    by_cases hlt : k < l.length
    · obtain ⟨b, off, rfl, hbB, hs, c0, c1, c2, c3⟩ := (HR.out.below hB.out).ent hlt
      obtain ⟨x, hx⟩ : ∃ x, l[k] = x := ⟨_, rfl⟩
      rw [hx] at c0 c1 c2 c3
      have htk : namesE (l.take (k + 1)) = nameS (namesE (l.take k)) x := by rw [List.take_succ_eq_append_getElem hs, namesE_snoc, hx]
      have hnl : (namesE (l.take k)).length ≤ l.length := Nat.le_trans (namesE_len _) (by rw [List.length_take]; omega)
      obtain ⟨M, hM⟩ : ∃ M, namesE (l.take k) = M := ⟨_, rfl⟩
      have HMM := Lib.hid hM
      rw [hM] at htk hO hnl
      obtain ⟨qk, qs, qd, qv⟩ := x
      simp only at c0 c1 c2 c3
      obtain ⟨V, hV⟩ : ∃ V, V = wr.alloc (.cells #[.string qk, .int .i64 qs, .bool qd, .string qv] 41) := ⟨_, rfl⟩
      obtain ⟨X, hX⟩ : ∃ X, wr.heap.size = X := ⟨_, rfl⟩
      have hv : Below wr.heap.size wr V := by rw [hV]; exact (Below.refl _ _).alloc (Nat.le_refl _) _
      have bx : V.heap[X]? = some (.cells #[.string qk, .int .i64 qs, .bool qd, .string qv] 41 (0, 0)) := by rw [hV, ← hX]; exact heap_alloc_new wr _
      have hOV := own_below hO.out hv
      have hBV : Below w.heap.size w V := hB.out.trans (hv.mono hB.out.size)
      have x0 : V.cell? ⟨X, 0, none⟩ = some (.string qk) := ent_box (x := ⟨qk, qs, qd, qv⟩) bx (Below.refl _ _)
      have HOV := Lib.hid hOV
      have HBV := Lib.hid hBV
      have HTK := Lib.hid htk
      have hk0 : (0 : Int) ≤ (k : Int) := by omega
      have hkz : (k : Int) < (l.length : Int) := by omega
      clear hx htk hM hv bx hO hB hs
      go_upto_region 5 with (fail)
      rw [← hV]
      clear hV c0 c1 c2 c3
      obtain ⟨eqb, heqb⟩ : ∃ eqb, decide (M.getLast? = some qk) = eqb := ⟨_, rfl⟩
      go_cut [25] (fun v wc => v = .bool (!eqb) ∧ Hid (∃ q, wc = V.drewN q))
      case first =>
        rcases Nat.eq_zero_or_pos k with hk00 | hkp
        · subst hk00
          have hM0 : M = [] := by rw [← HMM.out]; rfl
          subst hM0
          have : eqb = false := by rw [← heqb]; rfl
          subst this
          clear heqb
          go_big_quiet (fail)
          go_wp2
          go_meet
          exact ⟨rfl, Lib.hid ⟨_, rfl⟩⟩
        · obtain ⟨j, hj⟩ : ∃ j, k = j + 1 := ⟨k - 1, by omega⟩
          obtain ⟨b2, off2, e2, _, hs2, d0, -, -, -⟩ := (HR.out.below hBV).ent (k := j) (by omega)
          injection e2 with e2
          injection e2 with e2 e3
          subst e2 e3
          obtain ⟨y, hy⟩ : ∃ y, (l[j]'hs2).key = y := ⟨_, rfl⟩
          rw [hy] at d0
          have hML : M.getLast? = some y := by
            rw [← HMM.out, hj, List.take_succ_eq_append_getElem hs2, namesE_last, hy]
          have hel : decide (y = qk) = eqb := by rw [← heqb, hML]; simp
          have hel2 : (y.toList == qk.toList) = eqb := by rw [str_beq, hel]
          have hw1 : IntKind.i64.wrap ((k : Int) - 1) = (j : Int) := by rw [IntWalk.i64_in _ (by omega)]; omega
          have hj0 : (0 : Int) ≤ (j : Int) := by omega
          have hjz : (j : Int) < (l.length : Int) := by omega
          have hkb : ((k : Int) == 0) = false := by rw [beq_eq_false_iff_ne]; omega
          have hkn : (k == 0) = false := by rw [beq_eq_false_iff_ne]; omega
          have hkp2 : ¬ k = 0 := by omega
          clear hel heqb hOV hML hy hj
          go_big_quiet (fail)
          go_wp2
          go_meet
          exact ⟨rfl, Lib.hid ⟨_, rfl⟩⟩
      case rest =>
        obtain ⟨rfl, hq⟩ := hcut
        have hV2 : Below w.heap.size w wc ∧ wc.ownsRow w.heap.size 9 1 u3 M.length (strv M) ∧ wc.cell? ⟨X, 0, none⟩ = some (.string qk) := by
          obtain ⟨q, rfl⟩ := hq.out
          exact ⟨⟨HBV.out.os, HBV.out.tape, HBV.out.output, HBV.out.size, HBV.out.block⟩, HOV.out, x0⟩
        obtain ⟨hB2, hO2, x0'⟩ := hV2
        clear HOV HBV hOV hBV hq x0
        cases eqb with
        | true =>
          have hM2 : nameS M ⟨qk, qs, qd, qv⟩ = M := by unfold nameS; rw [if_pos (of_decide_eq_true heqb)]
          have HT2 : Hid (namesE (l.take (k + 1)) = M) := Lib.hid (by rw [HTK.out, hM2])
          have HO2 := Lib.hid hO2
          have HB2 := Lib.hid hB2
          clear hM2 hO2 hB2 heqb HTK
          go_wp2
          go_roundw
          case rel => exact ⟨k + 1, by omega, by go_num, Lib.hid (by rw [HT2.out]; exact HO2.out), HB2⟩
          case measure => simp [intOf]; omega
        | false =>
          have hM2 : nameS M ⟨qk, qs, qd, qv⟩ = M ++ [qk] := by unfold nameS; rw [if_neg (of_decide_eq_false heqb)]
          have HT2 : Hid (namesE (l.take (k + 1)) = M ++ [qk]) := Lib.hid (by rw [HTK.out, hM2])
          clear hM2 heqb HTK
          go_wp2_with (at_builtin; refine wpList_push rfl (.tmp 26) (.tmp 29) 22 rfl w.heap.size 9 i0 _ 1 16 Try.underlying22 hi0 hz0 hz1 hz2 rfl (by omega) _ M.length (strv M) #[.string qk] rfl (by exact hO2) rfl rfl (by simp [Value.oneCell']) ?c1 ?c2 ?c3 ?_)
          case c1 => omega
          case c2 => unfold maxLen; omega
          case c3 => exact hB2.size
          intro v3 w3 hown3 hu3 hat3
          have hb3 : Below w.heap.size w w3 := hB2.trans (hu3.below (fun q hq e => by have := (hO2.lt q e).1; omega) hB2.size)
          have HO3 : Hid (w3.ownsRow w.heap.size 9 1 v3 (namesE (l.take (k + 1))).length (strv (namesE (l.take (k + 1))))) := Lib.hid (by
            rw [HT2.out, List.length_append, show strv (M ++ [qk]) = strv M ++ [Value.string qk] by simp [strv]]
            exact hown3)
          have HB3 := Lib.hid hb3
          clear hown3 hu3 hat3 hb3 hO2 hB2 x0'
          go_wp2
          go_roundw
          case rel => exact ⟨k + 1, by omega, by go_num, HO3, HB3⟩
          case measure => simp [intOf]; omega
    · obtain rfl : k = l.length := by omega
      have hO2 := hO.out
      rw [List.take_length] at hO2
      have HO2 := Lib.hid hO2
      have hz : ¬ (l.length : Int) < (l.length : Int) := by omega
      clear hO hO2
      go_wp2
      go_ret
      exact ⟨_, rfl, HO2.out, hB.out⟩
end Go.Proofs.Ytanieolnaiihmaa
