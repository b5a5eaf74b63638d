/- Merging versions: merge.groups and merge.newest, walked. -/
import Derived.Test.YtcfgmkiohmbdlaaMgGrpP
import Derived.Deep.QuietTactic
import Derived.BigQuiet
namespace Go.Proofs.Ytcfgmkiohmbdlaa
open Go.RowKit
theorem ls_info : (Try.prog.info? 22).map (fun i => (i.zero, i.size, i.bytes)) = some (some (.slice none 0 0), 1, 24) := by kernel_rfl
theorem rd_piece {w : World} {B n b off : Nat} {L : List Ent} (h : Rd w B 4 (some ⟨b, off, none⟩) n (entv L)) {f i : Nat} (hf : f ≤ i) (hi : i < n) : Rd w B 4 (some ⟨b, off + f * 4, none⟩) (i + 1 - f) (entv ((L.drop f).take (i + 1 - f))) := by
  have hn := rd_entlen h
  refine ⟨by rw [entv_length, List.length_take, List.length_drop]; congr 1; omega, fun h0 => ?_⟩
  obtain ⟨ad, e, hb, hc⟩ := h.at_ (by omega)
  injection e with e
  subst e
  refine ⟨_, rfl, hb, fun j u hu => ?_⟩
  have hsplit : entv L = entv (L.take f) ++ (entv ((L.drop f).take (i + 1 - f)) ++ entv ((L.drop f).drop (i + 1 - f))) := by rw [← entv_append, ← entv_append, List.take_append_drop, List.take_append_drop]
  have hlf : (entv (L.take f)).length = f * 4 := by rw [entv_length, List.length_take]; congr 1; omega
  have hj : j < (entv ((L.drop f).take (i + 1 - f))).length := (List.getElem?_eq_some_iff.1 hu).1
  have := hc (f * 4 + j) u (by rw [hsplit, List.getElem?_append_right (by omega), hlf, show f * 4 + j - f * 4 = j by omega, List.getElem?_append_left hj]; exact hu)
  rw [add_flat] at this ⊢
  rw [show off + f * 4 + j = off + (f * 4 + j) by omega]; exact this
/-- What 'groups' answers. -/
def GrpPost (w : World) (B : Nat) (L : List Ent) (e : Ending) (w' : World) : Prop := ∃ v vs Gs, e = .returned v ∧ Grp L Gs ∧ vs.length = Gs.length ∧ (∀ i (h : i < vs.length) (h' : i < Gs.length), LsAt w B vs[i] Gs[i]) ∧ w'.ownsRow w.heap.size 22 1 v vs.length vs ∧ Below w.heap.size w w'
set_option maxHeartbeats 4000000 in
set_option maxRecDepth 20000 in
theorem groups_any (w : World) (A : Option Addr) (n c B : Nat) (L : List Ent) (hr : Rd w B 4 A n (entv L)) (hB : B ≤ w.heap.size) (hL : L.Pairwise fun x y => cmpE x y < 0) (hc : n ≤ c) (hn : n ≤ 1073741824) :
    Calls Try.prog 52 #[.slice A n c] w (GrpPost w B L) := by
  obtain ⟨i0, hi0, hz0, hz1, hz2⟩ := info_parts ls_info
  have HLN := Lib.hid (rd_entlen hr)
  have HR := Lib.hid hr
  have HRL := Lib.hid hL
  clear hr hL
  go_enter Try.func52, Try.ntmps52
  go_wp2
  go_loopw [3, 4, 8] (fun v fv iv wx => ∃ (f i : Nat) (vs : List Value) (Gs : List (List Ent)), fv = .int .i64 f ∧ iv = .int .i64 i ∧ f ≤ i ∧ i ≤ n ∧ vs.length ≤ i ∧ Hid (GInv L Gs f i ∧ vs.length = Gs.length ∧ (∀ q (h : q < vs.length) (h' : q < Gs.length), LsAt w B vs[q] Gs[q]) ∧ ∀ u ∈ vs, u.oneCell' = true) ∧ Hid (wx.ownsRow w.heap.size 22 1 v vs.length vs) ∧ Hid (Below w.heap.size w wx)) (fun _ _ iv _ => n - (intOf iv).toNat)
  case atStart => exact ⟨0, 0, [], [], rfl, rfl, Nat.le_refl _, Nat.zero_le _, by simp, Lib.hid ⟨g_start L, rfl, fun q h => by simp at h, by simp⟩, Lib.hid (World.ownsRow_nil _ _ _ _), Lib.hid (Below.refl _ _)⟩
  case round =>
    obtain ⟨f, i, vs, Gs, rfl, rfl, hfi, hin, hvl, HG, HO, HB⟩ := hrel
    by_cases hlt : i < n
    · obtain ⟨b, off, rfl, hb, hs, k0, _⟩ := (HR.out.below (HB.out.mono hB)).ent hlt
      have fz : (f : Int) ≤ (i : Int) + 1 := by omega
      have fz2 : (i : Int) + 1 ≤ (c : Int) := by omega
      have fc : ¬ c = f := by omega
      have hw1 : IntKind.i64.wrap ((i : Int) + 1) = (i : Int) + 1 := by rw [IntKind.wrap_i64]; omega
      have o1 : ((i : Int) + 1).toNat = i + 1 := by omega
      have hln := HLN.out
      by_cases hend : i + 1 = n
      · have q1 : (((i : Int) + 1) == (n : Int)) = true := by rw [beq_iff_eq]; omega
        have HG2 : Hid (GInv L (Gs ++ [(L.drop f).take (i + 1 - f)]) (i + 1) (i + 1) ∧ (vs ++ [Value.slice (some ⟨b, off + f * 4, none⟩) (i + 1 - f) (c - f)]).length = (Gs ++ [(L.drop f).take (i + 1 - f)]).length ∧ (∀ q (h : q < (vs ++ [Value.slice (some ⟨b, off + f * 4, none⟩) (i + 1 - f) (c - f)]).length) (h' : q < (Gs ++ [(L.drop f).take (i + 1 - f)]).length), LsAt w B (vs ++ [Value.slice (some ⟨b, off + f * 4, none⟩) (i + 1 - f) (c - f)])[q] (Gs ++ [(L.drop f).take (i + 1 - f)])[q]) ∧ ∀ u ∈ (vs ++ [Value.slice (some ⟨b, off + f * 4, none⟩) (i + 1 - f) (c - f)]), u.oneCell' = true) := Lib.hid (by
          obtain ⟨g1, g2, g3, g4⟩ := HG.out
          refine ⟨g_close HRL.out g1 hs (.inl (by omega)), by rw [List.length_append, List.length_append, g2]; rfl, fun q h h' => ?_, fun u hu => ?_⟩
          · rcases Nat.lt_or_ge q vs.length with hq | hq
            · have e1 : (vs ++ [Value.slice (some ⟨b, off + f * 4, none⟩) (i + 1 - f) (c - f)])[q] = vs[q] := List.getElem_append_left hq
              have e2 : (Gs ++ [(L.drop f).take (i + 1 - f)])[q] = Gs[q]'(by omega) := List.getElem_append_left (by omega)
              rw [e1, e2]; exact g3 q hq (by omega)
            · have hq' : q = vs.length := by rw [List.length_append] at h; simp at h; omega
              have e1 : (vs ++ [Value.slice (some ⟨b, off + f * 4, none⟩) (i + 1 - f) (c - f)])[q] = Value.slice (some ⟨b, off + f * 4, none⟩) (i + 1 - f) (c - f) := by
                rw [List.getElem_append_right hq]; simp [hq']
              have e2 : (Gs ++ [(L.drop f).take (i + 1 - f)])[q] = (L.drop f).take (i + 1 - f) := by
                rw [List.getElem_append_right (by omega)]; simp [hq', g2]
              rw [e1, e2]
              exact ⟨_, _, _, rfl, rd_piece HR.out hfi hlt⟩
          · rcases List.mem_append.1 hu with hu | hu
            · exact g4 u hu
            · rw [List.mem_singleton.1 hu]; rfl)
        clear HG
        clear hend hln k0
        go_wp2
        go_quiet (fail)
        have HOq : Hid ((wr.drewN nq).ownsRow w.heap.size 22 1 u3 vs.length vs) := Lib.hid HO.out
        have HBq : Hid (Below w.heap.size w (wr.drewN nq)) := Lib.hid ⟨HB.out.os, HB.out.tape, HB.out.output, HB.out.size, HB.out.block⟩
        generalize wr.drewN nq = wq at HOq HBq ⊢
        have hbq := HBq.out.size
        go_wp2_with (at_builtin; refine wpList_push (w := wq) rfl (.tmp 30) (.tmp 36) 27 rfl w.heap.size 22 i0 _ 1 24 Try.underlying27 hi0 hz0 hz1 hz2 rfl (by decide) _ vs.length vs #[.slice (some ⟨b, off + f * 4, none⟩) (i + 1 - f) (c - f)] rfl (by exact HOq.out) rfl rfl ?a1 ?a2 ?a3 ?a4 ?_)
        case a1 => first | exact ⟨rfl, rfl, rfl⟩ | exact ⟨rfl, rfl⟩ | rfl | (intro u hu; simp at hu; subst hu; rfl)
        case a2 => omega
        case a3 => unfold maxLen; omega
        case a4 => exact hbq
        intro v3 w3 hown3 hu3 hat3
        have HW3 := Lib.hid (below_row HBq.out hbq HOq.out (Nat.le_refl _) hu3)
        have hown4 : w3.ownsRow w.heap.size 22 1 v3 (vs ++ [Value.slice (some ⟨b, off + f * 4, none⟩) (i + 1 - f) (c - f)]).length (vs ++ [Value.slice (some ⟨b, off + f * 4, none⟩) (i + 1 - f) (c - f)]) := by
          rw [List.length_append]; exact hown3
        have HO3 := Lib.hid hown4
        clear hown3 hown4 hu3 hat3 HOq HBq HO
        go_wp2
        go_roundw
        case rel => exact ⟨i + 1, i + 1, _, _, by go_num, by go_num, Nat.le_refl _, by omega, by rw [List.length_append]; simp; omega, HG2, HO3, HW3⟩
        case measure => simp [intOf]; omega
      · have q1 : (((i : Int) + 1) == (n : Int)) = false := beq_eq_false_iff_ne.2 (by omega)
        have hlt2 : i + 1 < n := by omega
        obtain ⟨b', off', hA, hb', hs', j0, _⟩ := (HR.out.below (HB.out.mono hB)).ent hlt2
        obtain ⟨rfl, rfl⟩ : b = b' ∧ off = off' := by simp at hA; exact hA
        have n1 : (0 : Int) ≤ (i : Int) + 1 := by omega
        have n2 : (i : Int) + 1 < (n : Int) := by omega
        have n3 : (i : Int) < (n : Int) := by omega
        by_cases hk : L[i + 1].key = L[i].key
        · have HG2 : Hid (GInv L Gs f (i + 1) ∧ vs.length = Gs.length ∧ (∀ q (h : q < vs.length) (h' : q < Gs.length), LsAt w B vs[q] Gs[q]) ∧ ∀ u ∈ vs, u.oneCell' = true) := Lib.hid ⟨g_next HG.out.1 hs' hk, HG.out.2⟩
          obtain ⟨K1, hK1⟩ : ∃ K, L[i + 1].key = K := ⟨_, rfl⟩
          obtain ⟨K0, hK0⟩ : ∃ K, L[i].key = K := ⟨_, rfl⟩
          rw [hK1] at j0 hk
          rw [hK0] at k0 hk
          subst hk
          clear hK1 hK0 hend hln HG hA
          go_wp2
          go_quiet (fail)
          have HOq : Hid ((wr.drewN nq).ownsRow w.heap.size 22 1 u3 vs.length vs) := Lib.hid HO.out
          have HBq : Hid (Below w.heap.size w (wr.drewN nq)) := Lib.hid ⟨HB.out.os, HB.out.tape, HB.out.output, HB.out.size, HB.out.block⟩
          go_wp2
          go_roundw
          case rel => exact ⟨f, i + 1, vs, Gs, rfl, by go_num, by omega, by omega, by omega, HG2, HOq, HBq⟩
          case measure => simp [intOf]; omega
        · have hkk : (L[i + 1].key.toList == L[i].key.toList) = false := by
            rw [beq_eq_false_iff_ne, ByteArray.toList_eq, ByteArray.toList_eq]
            exact fun e => hk (bytes_eq e)
          have HG2 : Hid (GInv L (Gs ++ [(L.drop f).take (i + 1 - f)]) (i + 1) (i + 1) ∧ (vs ++ [Value.slice (some ⟨b, off + f * 4, none⟩) (i + 1 - f) (c - f)]).length = (Gs ++ [(L.drop f).take (i + 1 - f)]).length ∧ (∀ q (h : q < (vs ++ [Value.slice (some ⟨b, off + f * 4, none⟩) (i + 1 - f) (c - f)]).length) (h' : q < (Gs ++ [(L.drop f).take (i + 1 - f)]).length), LsAt w B (vs ++ [Value.slice (some ⟨b, off + f * 4, none⟩) (i + 1 - f) (c - f)])[q] (Gs ++ [(L.drop f).take (i + 1 - f)])[q]) ∧ ∀ u ∈ (vs ++ [Value.slice (some ⟨b, off + f * 4, none⟩) (i + 1 - f) (c - f)]), u.oneCell' = true) := Lib.hid (by
            obtain ⟨g1, g2, g3, g4⟩ := HG.out
            refine ⟨g_close HRL.out g1 hs (.inr ⟨hs', hk⟩), by rw [List.length_append, List.length_append, g2]; rfl, fun q h h' => ?_, fun u hu => ?_⟩
            · rcases Nat.lt_or_ge q vs.length with hq | hq
              · have e1 : (vs ++ [Value.slice (some ⟨b, off + f * 4, none⟩) (i + 1 - f) (c - f)])[q] = vs[q] := List.getElem_append_left hq
                have e2 : (Gs ++ [(L.drop f).take (i + 1 - f)])[q] = Gs[q]'(by omega) := List.getElem_append_left (by omega)
                rw [e1, e2]; exact g3 q hq (by omega)
              · have hq' : q = vs.length := by rw [List.length_append] at h; simp at h; omega
                have e1 : (vs ++ [Value.slice (some ⟨b, off + f * 4, none⟩) (i + 1 - f) (c - f)])[q] = Value.slice (some ⟨b, off + f * 4, none⟩) (i + 1 - f) (c - f) := by
                  rw [List.getElem_append_right hq]; simp [hq']
                have e2 : (Gs ++ [(L.drop f).take (i + 1 - f)])[q] = (L.drop f).take (i + 1 - f) := by
                  rw [List.getElem_append_right (by omega)]; simp [hq', g2]
                rw [e1, e2]
                exact ⟨_, _, _, rfl, rd_piece HR.out hfi hlt⟩
            · rcases List.mem_append.1 hu with hu | hu
              · exact g4 u hu
              · rw [List.mem_singleton.1 hu]; rfl)
          clear HG
          obtain ⟨K1, hK1⟩ : ∃ K, L[i + 1].key = K := ⟨_, rfl⟩
          obtain ⟨K0, hK0⟩ : ∃ K, L[i].key = K := ⟨_, rfl⟩
          rw [hK1] at j0 hkk
          rw [hK0] at k0 hkk
          clear hK1 hK0 hend hln hk hA
          go_wp2
          go_quiet (fail)
          have HOq : Hid ((wr.drewN nq).ownsRow w.heap.size 22 1 u3 vs.length vs) := Lib.hid HO.out
          have HBq : Hid (Below w.heap.size w (wr.drewN nq)) := Lib.hid ⟨HB.out.os, HB.out.tape, HB.out.output, HB.out.size, HB.out.block⟩
          generalize wr.drewN nq = wq at HOq HBq ⊢
          have hbq := HBq.out.size
          go_wp2_with (at_builtin; refine wpList_push (w := wq) rfl (.tmp 30) (.tmp 36) 27 rfl w.heap.size 22 i0 _ 1 24 Try.underlying27 hi0 hz0 hz1 hz2 rfl (by decide) _ vs.length vs #[.slice (some ⟨b, off + f * 4, none⟩) (i + 1 - f) (c - f)] rfl (by exact HOq.out) rfl rfl ?b1 ?b2 ?b3 ?b4 ?_)
          case b1 => first | exact ⟨rfl, rfl, rfl⟩ | exact ⟨rfl, rfl⟩ | rfl | (intro u hu; simp at hu; subst hu; rfl)
          case b2 => omega
          case b3 => unfold maxLen; omega
          case b4 => exact hbq
          intro v3 w3 hown3 hu3 hat3
          have HW3 := Lib.hid (below_row HBq.out hbq HOq.out (Nat.le_refl _) hu3)
          have hown4 : w3.ownsRow w.heap.size 22 1 v3 (vs ++ [Value.slice (some ⟨b, off + f * 4, none⟩) (i + 1 - f) (c - f)]).length (vs ++ [Value.slice (some ⟨b, off + f * 4, none⟩) (i + 1 - f) (c - f)]) := by
            rw [List.length_append]; exact hown3
          have HO3 := Lib.hid hown4
          clear hown3 hown4 hu3 hat3 HOq HBq HO
          go_wp2
          go_roundw
          case rel => exact ⟨i + 1, i + 1, _, _, by go_num, by go_num, Nat.le_refl _, by omega, by rw [List.length_append]; simp; omega, HG2, HO3, HW3⟩
          case measure => simp [intOf]; omega
    · have HF : Hid (Grp L Gs) := Lib.hid (g_end HG.out.1 (by rw [← HLN.out]; omega))
      have HG2 := Lib.hid HG.out.2
      have hz : ¬ (i : Int) < (n : Int) := by omega
      clear HG
      go_wp2
      go_ret
      exact ⟨_, vs, Gs, rfl, HF.out, HG2.out.1, HG2.out.2.1, HO.out, HB.out⟩
end Go.Proofs.Ytcfgmkiohmbdlaa
