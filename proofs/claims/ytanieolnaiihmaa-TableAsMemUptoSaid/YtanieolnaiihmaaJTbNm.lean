/- Tables: the keys, each once, walked. -/
import Derived.Test.YtanieolnaiihmaaJTbP
import Derived.Test.YtanieolnaiihmaaJFrBackP
import Derived.BigQuiet
import Derived.Deep.CutBlock
import Derived.Deep.DeepCutAuto
namespace Go.Proofs.Ytanieolnaiihmaa
open Go.RowKit
theorem str_beq (a b : ByteArray) : (a.toList == b.toList) = decide (a = b) := by
  by_cases h : a = b
  · subst h; simp
  · rw [decide_eq_false h, beq_eq_false_iff_ne]
    intro e
    rw [ByteArray.toList_eq, ByteArray.toList_eq] at e
    exact h (ByteArray.ext (Array.toList_inj.1 e))
theorem below_new {B : Nat} {w w' : World} (h : Below B w w') (hB : B ≤ w'.heap.size) (o : Obj) : Below B w (w'.alloc o) := h.alloc hB o
theorem ent_box {V W : World} {g : Nat} {x : Ent} (hb : W.heap[g]? = some (.cells #[.string x.key, .int .i64 x.seq, .bool x.dead, .string x.val] 41 (0, 0))) (hV : Below W.heap.size W V) : V.cell? ⟨g, 0, none⟩ = some (.string x.key) := by
  have h : V.heap[g]? = some (.cells #[.string x.key, .int .i64 x.seq, .bool x.dead, .string x.val] 41 (0, 0)) := (hV.block g (Array.getElem?_eq_some_iff.1 hb).1).trans hb
  rw [cell_of_row _ _ 0 _ _ _ h]; rfl
set_option maxHeartbeats 4000000 in
set_option maxRecDepth 20000 in
theorem names_any (w : World) (A : Option Addr) (n c : Nat) (l : List Ent) (hr : Rd w w.heap.size 4 A n (entv l)) (hn : n ≤ 4000000000000) :
    Calls Try.prog 50 #[.slice A n c] w fun e w' => ∃ v, e = .returned v ∧ w'.ownsRow w.heap.size 9 1 v (namesE l).length (strv (namesE l)) ∧ Below w.heap.size w w' := by
  obtain ⟨i0, hi0, hz0, hz1, hz2⟩ := info_parts str_info
  obtain rfl := rd_entlen hr
  have HR := Lib.hid hr
  clear hr
  go_enter Try.func50, Try.ntmps50
  go_wp2
  go_loopw [3, 8] (fun ov iv wx => ∃ k : Nat, k ≤ l.length ∧ iv = .int .i64 (k : Int) ∧ Hid (wx.ownsRow w.heap.size 9 1 ov (namesE (l.take k)).length (strv (namesE (l.take k)))) ∧ Hid (Below w.heap.size w wx)) (fun _ iv _ => l.length - (intOf iv).toNat)
  case atStart => exact ⟨0, Nat.zero_le _, rfl, Lib.hid (World.ownsRow_nil _ _ _ _), Lib.hid (Below.refl _ _)⟩
  case round =>
    obtain ⟨k, hk, rfl, hO, hB⟩ := hrel
    by_cases hlt : k < l.length
    · obtain ⟨b, off, rfl, hbB, hs, c0, c1, c2, c3⟩ := (HR.out.below hB.out).ent hlt
      obtain ⟨x, hx⟩ : ∃ x, l[k] = x := ⟨_, rfl⟩
      rw [hx] at c0 c1 c2 c3
      have htk : namesE (l.take (k + 1)) = nameS (namesE (l.take k)) x := by rw [List.take_succ_eq_append_getElem hs, namesE_snoc, hx]
      have hnl : (namesE (l.take k)).length ≤ l.length := Nat.le_trans (namesE_len _) (by rw [List.length_take]; omega)
      obtain ⟨M, hM⟩ : ∃ M, namesE (l.take k) = M := ⟨_, rfl⟩
      rw [hM] at htk hO hnl
      obtain ⟨qk, qs, qd, qv⟩ := x
      simp only at c0 c1 c2 c3
      obtain ⟨V, hV⟩ : ∃ V, V = wr.alloc (.cells #[.string qk, .int .i64 qs, .bool qd, .string qv] 41) := ⟨_, rfl⟩
      obtain ⟨X, hX⟩ : ∃ X, wr.heap.size = X := ⟨_, rfl⟩
      have hv : Below wr.heap.size wr V := by rw [hV]; exact (Below.refl _ _).alloc (Nat.le_refl _) _
      have bx : V.heap[X]? = some (.cells #[.string qk, .int .i64 qs, .bool qd, .string qv] 41 (0, 0)) := by rw [hV, ← hX]; exact heap_alloc_new wr _
      have hOV := own_below hO.out hv
      have hBV : Below w.heap.size w V := hB.out.trans (hv.mono hB.out.size)
      have x0 : V.cell? ⟨X, 0, none⟩ = some (.string qk) := ent_box (x := ⟨qk, qs, qd, qv⟩) bx (Below.refl _ _)
      have HOV := Lib.hid hOV
      have HBV := Lib.hid hBV
      have HTK := Lib.hid htk
      have hk0 : (0 : Int) ≤ (k : Int) := by omega
      have hkz : (k : Int) < (l.length : Int) := by omega
      clear hx htk hM hv bx hO hB hs
      go_upto_region 5 with (fail)
      rw [← hV]
      clear hV c0 c1 c2 c3
      obtain ⟨eqb, heqb⟩ : ∃ eqb, decide (M.getLast? = some qk) = eqb := ⟨_, rfl⟩
      go_cut [25] (fun v wc => v = .bool (!eqb) ∧ Hid (∃ q, wc = V.drewN q))
      case first =>
        rcases List.eq_nil_or_concat M with hM0 | ⟨M', y, hM0⟩
        · subst hM0
          have : eqb = false := by rw [← heqb]; rfl
          subst this
          obtain ⟨A3, c3, rfl⟩ := own_shape hOV
          have hz3 : ((([] : List ByteArray).length : Nat) : Int) = 0 := rfl
          simp only [List.length_nil]
          go_big_quiet (fail)
          go_wp2
          go_meet
          exact ⟨rfl, Lib.hid ⟨_, rfl⟩⟩
        · subst hM0
          have hel : decide (y = qk) = eqb := by rw [← heqb]; simp
          have hel2 : (y.toList == qk.toList) = eqb := by rw [str_beq, hel]
          rw [List.concat_eq_append] at hOV hnl
          rw [List.length_append, List.length_singleton] at hOV hnl
          obtain ⟨g, cap, rfl, hg1, hg2, -, -⟩ := own_form hOV (by omega)
          have hcy : V.cell? ⟨g, M'.length, none⟩ = some (.string y) := by
            obtain ⟨ad, u, e, _, hu, hc⟩ := (Rd.own hOV).get (k := M'.length) (by omega)
            injection e with e
            subst e
            have hu2 : (strv (M' ++ [y]))[M'.length]? = some (.string y) := by simp [strv]
            rw [hu2] at hu
            injection hu with hu
            subst hu
            rw [add_zero_off] at hc
            exact hc
          have hw1 : IntKind.i64.wrap (((M'.length + 1 : Nat) : Int) - 1) = (M'.length : Int) := by rw [IntWalk.i64_in _ (by omega)]; omega
          obtain ⟨mz, hmz⟩ : ∃ mz : Int, ((M'.length + 1 : Nat) : Int) = mz := ⟨_, rfl⟩
          have hm0 : (0 : Int) ≤ (M'.length : Int) := by omega
          have hm1 : (M'.length : Int) < mz := by omega
          have hmb : (mz == 0) = false := by rw [beq_eq_false_iff_ne]; omega
          have hmn : (M'.length + 1 == 0) = false := by simp
          rw [hmz] at hw1
          clear hel heqb hOV
          go_big_quiet (fail)
          go_wp2
          go_meet
          exact ⟨rfl, Lib.hid ⟨_, rfl⟩⟩
      case rest =>
        obtain ⟨rfl, hq⟩ := hcut
        have hV2 : Below w.heap.size w wc ∧ wc.ownsRow w.heap.size 9 1 u3 M.length (strv M) ∧ wc.cell? ⟨X, 0, none⟩ = some (.string qk) := by
          obtain ⟨q, rfl⟩ := hq.out
          exact ⟨⟨HBV.out.os, HBV.out.tape, HBV.out.output, HBV.out.size, HBV.out.block⟩, HOV.out, x0⟩
        obtain ⟨hB2, hO2, x0'⟩ := hV2
        clear HOV HBV hOV hBV hq x0
        cases eqb with
        | true =>
          have hM2 : nameS M ⟨qk, qs, qd, qv⟩ = M := by unfold nameS; rw [if_pos (of_decide_eq_true heqb)]
          have HT2 : Hid (namesE (l.take (k + 1)) = M) := Lib.hid (by rw [HTK.out, hM2])
          have HO2 := Lib.hid hO2
          have HB2 := Lib.hid hB2
          clear hM2 hO2 hB2 heqb HTK
          go_wp2
          go_roundw
          case rel => exact ⟨k + 1, by omega, by go_num, Lib.hid (by rw [HT2.out]; exact HO2.out), HB2⟩
          case measure => simp [intOf]; omega
        | false =>
          have hM2 : nameS M ⟨qk, qs, qd, qv⟩ = M ++ [qk] := by unfold nameS; rw [if_neg (of_decide_eq_false heqb)]
          have HT2 : Hid (namesE (l.take (k + 1)) = M ++ [qk]) := Lib.hid (by rw [HTK.out, hM2])
          clear hM2 heqb HTK
          go_wp2_with (at_builtin; refine wpList_push rfl (.tmp 26) (.tmp 29) 22 rfl w.heap.size 9 i0 _ 1 16 Try.underlying22 hi0 hz0 hz1 hz2 rfl (by omega) _ M.length (strv M) #[.string qk] rfl (by exact hO2) rfl rfl (by simp [Value.oneCell']) ?c1 ?c2 ?c3 ?_)
          case c1 => omega
          case c2 => unfold maxLen; omega
          case c3 => exact hB2.size
          intro v3 w3 hown3 hu3 hat3
          have hb3 : Below w.heap.size w w3 := hB2.trans (hu3.below (fun q hq e => by have := (hO2.lt q e).1; omega) hB2.size)
          have HO3 : Hid (w3.ownsRow w.heap.size 9 1 v3 (namesE (l.take (k + 1))).length (strv (namesE (l.take (k + 1))))) := Lib.hid (by
            rw [HT2.out, List.length_append, show strv (M ++ [qk]) = strv M ++ [Value.string qk] by simp [strv]]
            exact hown3)
          have HB3 := Lib.hid hb3
          clear hown3 hu3 hat3 hb3 hO2 hB2 x0'
          go_wp2
          go_roundw
          case rel => exact ⟨k + 1, by omega, by go_num, HO3, HB3⟩
          case measure => simp [intOf]; omega
    · obtain rfl : k = l.length := by omega
      have hO2 := hO.out
      rw [List.take_length] at hO2
      have HO2 := Lib.hid hO2
      have hz : ¬ (l.length : Int) < (l.length : Int) := by omega
      clear hO hO2
      go_wp2
      go_ret
      exact ⟨_, rfl, HO2.out, hB.out⟩
end Go.Proofs.Ytanieolnaiihmaa
