/- Frames: the law FrameSpoilt, walked. -/
import Derived.Test.YtlhcokpkjbjgpaaFrSpoilP
import Derived.Test.YtlhcokpkjbjgpaaBts
import Derived.Outline
import Derived.Deep.CutBlock
import Derived.Deep.DeepCutAuto
namespace Go.Proofs.Ytlhcokpkjbjgpaa
open Go.RowKit

theorem agg_cell (w : World) (l : List UInt8) (k : Nat) (h : k < l.length) (T : TypeId) : (w.alloc (.cells (bytv l).toArray T)).cell? ⟨w.heap.size, k, none⟩ = some (.int .u8 (l[k].toNat : Int)) := by
  rw [cell_of_row _ w.heap.size k _ T (0, 0) (heap_alloc_new w _)]
  simpa using bytv_get l k h
theorem bne_of {a b : ByteArray} (h : a ≠ b) : (a.toList == b.toList) = false := by
  refine beq_eq_false_iff_ne.2 fun e => h ?_
  rw [ByteArray.toList_eq, ByteArray.toList_eq] at e
  exact ByteArray.ext (Array.toList_inj.1 e)
set_option maxHeartbeats 4000000 in
set_option maxRecDepth 20000 in
theorem spoilt_any (w : World) (s : ByteArray) (a : Int) (l : List UInt8) (hs : s.size ≤ 140737488351232) (ha0 : -9223372036854775808 ≤ a) (ha1 : a ≤ 9223372036854775807) (hl : l.length = 4) :
    Calls Try.prog 7 #[.string s, .int .i64 a, .agg (bytv l).toArray] w fun e w' => e = .returned (.bool true) ∧ Below w.heap.size w w' := by
  by_cases hfit : s.size ≤ 65536
  · obtain ⟨t, ht⟩ : ∃ t : ByteArray, t.data.toList = sealB [s] := ⟨⟨(sealB [s]).toArray⟩, by simp⟩
    have hts : t.size = 8 + s.size := by
      have : t.data.toList.length = (sealB [s]).length := by rw [ht]
      rw [sealB_one, frameB_len] at this
      simpa using this
    have HT := Lib.hid ht
    have HTS := Lib.hid hts
    have ht0 : 8 ≤ t.size := by omega
    have ht1 : t.size ≤ 65544 := by omega
    have ht2 : decide ((t.size : Int) < 8) = false := decide_eq_false (by omega)
    clear ht hts
    go_enter Try.func7, Try.ntmps7
    go_wp2_with fail
    refine (flives_any _).mono ?_
    rintro e w1 ⟨rfl, hb1⟩
    have hr1 := rd_one w1 w1.heap.size rfl s
    have hbW : Below w.heap.size w (w.alloc (.cells (bytv l).toArray 41)) := (Below.refl _ _).alloc (Nat.le_refl _) _
    have hb1' := bel hbW hb1
    have hbA : Below w.heap.size w (w1.alloc (.cells #[Value.string s] 9)) := hb1'.alloc hb1'.size _
    have hbB := hb1.alloc hb1.size (.cells #[Value.string s] 9)
    go_wp2_with fail
    refine (fseal_x _ _ 1 1 [s] t HT.out (fits_one hfit) hr1 (by omega) (by omega)).mono ?_
    rintro e w2 ⟨rfl, hb2⟩
    have hbA2 := bel hbA hb2
    have hbB2 := bel hbB hb2
    have hcv := fun w s => run_bytes_of_string (P := Try.prog) w 9 24 5 s Try.underlying9 Try.underlying24 Try.underlying5
    clear hr1 hbA hbB hb1' hb1 hb2
    have hsz2 : w.heap.size + 1 ≤ w2.heap.size := by have := hbB2.size; simpa using this
    have hlt8 : (s.size : Int) ≤ 65536 := by omega
    go_upto_region 8 with (fail)
    have hB := Bts.made w2 t (grownCap w2 t.size 0 5) 5
    have hbA3 := hbA2.alloc hbA2.size (.cells (bytesRow t (grownCap w2 t.size 0 5)) 5 ((bytesRow t (grownCap w2 t.size 0 5)).size, (bytesRow t (grownCap w2 t.size 0 5)).size + 1))
    have hbB3 := hbB2.alloc hbB2.size (.cells (bytesRow t (grownCap w2 t.size 0 5)) 5 ((bytesRow t (grownCap w2 t.size 0 5)).size, (bytesRow t (grownCap w2 t.size 0 5)).size + 1))
    generalize w2.alloc (.cells (bytesRow t (grownCap w2 t.size 0 5)) 5 ((bytesRow t (grownCap w2 t.size 0 5)).size, (bytesRow t (grownCap w2 t.size 0 5)).size + 1)) = w3 at hB hbA3 hbB3 ⊢
    generalize grownCap w2 t.size 0 5 = cap
    clear hcv
    have HB := Lib.hid hB
    have HA3 := Lib.hid hbA3
    have HB3 := Lib.hid hbB3
    clear hB hbA3 hbB3 hbA2 hbB2
    go_cut [40] (fun b wc => ∃ c : Bool, b = .bool c ∧ (c = true → 0 < s.size) ∧ wc = w3.drew)
    case first =>
      go_wp2
      all_goals
        go_meet
        case rel => first | exact ⟨_, rfl, fun _ => by assumption, rfl⟩ | exact ⟨_, rfl, (fun h => by cases h), rfl⟩
    case rest =>
      obtain ⟨c, rfl, hc, rfl⟩ := hcut
      go_upto_if 40 with (fail)
      go_cut [10] (fun f wc => ∃ n : Nat, f = .int .i64 n ∧ (n = 4 ∨ ∃ j, j < s.size ∧ n = 8 + j) ∧ wc = w3.drew)
      case first =>
        cases c with
        | false =>
          go_wp2
          go_meet
          case rel => exact ⟨4, rfl, .inl rfl, rfl⟩
        | true =>
          have hs0 := hc rfl
          obtain ⟨k, hk, hkr⟩ := rem_nat a s.size hs0 (by omega)
          have hk1 : (k : Int) ≤ 65536 := by omega
          have hk2 : (0 : Int) ≤ (k : Int) := by omega
          have hsd : decide ((s.size : Int) = 0) = false := decide_eq_false (by omega)
          clear hc
          go_wp2
          go_meet
          case rel => exact ⟨8 + k, by go_num, .inr ⟨k, hk, rfl⟩, rfl⟩
      case rest =>
        clear hc
        obtain ⟨n, rfl, hn, rfl⟩ := hcut
        have hn8 : n ≤ 65544 ∧ n ≤ t.size := by
          have := HTS.out
          rcases hn with rfl | ⟨j, hj, rfl⟩ <;> omega
        obtain ⟨hn1, hn2⟩ := hn8
        have HN := Lib.hid hn
        clear hn
        have HL := Lib.hid hl
        clear hl hfit hlt8
        have hg : w.heap.size < w2.heap.size := by omega
        have HG := Lib.hid (show ∀ W, Below (w.alloc (.cells (bytv l).toArray 41)).heap.size (w.alloc (.cells (bytv l).toArray 41)) W → ∀ k (h : k < l.length), W.cell? ⟨w.heap.size, k, none⟩ = some (.int .u8 (l[k].toNat : Int)) from fun W hW k h => by
          rw [hW.cell (p := ⟨w.heap.size, k, none⟩) (by simp)]
          exact agg_cell w l k h _)
        go_wp2
        go_loopw [11] (fun i wx => ∃ k : Nat, k ≤ 4 ∧ n + k ≤ t.size ∧ i = .int .i64 k ∧ Bts wx w2.heap.size (patch t.data.toList l n k) ∧ Below w.heap.size w wx ∧ Below (w.alloc (.cells (bytv l).toArray 41)).heap.size (w.alloc (.cells (bytv l).toArray 41)) wx) (fun i _ => 4 - (intOf i).toNat)
        case atStart => exact ⟨0, Nat.zero_le _, by omega, rfl, by rw [patch_zero]; exact HB.out.drew, ⟨HA3.out.os, HA3.out.tape, HA3.out.output, HA3.out.size, HA3.out.block⟩, ⟨HB3.out.os, HB3.out.tape, HB3.out.output, HB3.out.size, HB3.out.block⟩⟩
        case round =>
          obtain ⟨k, hk4, hnk, rfl, hB, hA, hW⟩ := hrel
          have htl : t.data.toList.length = t.size := by simp
          by_cases hlt : k < 4 ∧ n + k < t.size
          · obtain ⟨h1, h2⟩ := hlt
            have hkl : k < l.length := by rw [HL.out]; exact h1
            have hpl : n + k < (patch t.data.toList l n k).length := by rw [patch_len _ _ _ _ (by omega) (by omega)]; omega
            have hce := hB.cell (n + k) hpl
            have hfz := hB.free (n + k) hpl
            have hla := HG.out _ hW k hkl
            have hst := hB.set (n + k) hpl l[k]
            rw [patch_set _ _ _ _ (by omega) hkl] at hst
            have b1 : decide ((k : Int) < 4) = true := decide_eq_true (by omega)
            have b2 : decide ((k : Int) < (t.size : Int) - (n : Int)) = true := decide_eq_true (by omega)
            have i1 : (k : Int) < 4 := by omega
            have i2 : (0 : Int) ≤ (k : Int) := by omega
            have i3 : (n : Int) + (k : Int) < (t.size : Int) := by omega
            have i4 : n + k < t.size := h2
            have hA' := hA.setCell (p := ⟨w2.heap.size, n + k, none⟩) (by show w.heap.size ≤ w2.heap.size; omega) (.int .u8 (l[k].toNat : Int))
            have hW' := hW.setCell (p := ⟨w2.heap.size, n + k, none⟩) (by show _ ≤ w2.heap.size; simp; omega) (.int .u8 (l[k].toNat : Int))
            generalize (patch t.data.toList l n k)[n + k] = y at hce
            generalize l[k] = x at *
            clear htl hpl hB hA hW
            go_wp2
            go_roundw
            case rel => exact ⟨k + 1, by omega, by omega, by go_num, hst, hA', hW'⟩
            case measure => simp [intOf]; omega
          · have hplen := patch_len t.data.toList l n k (by omega) (by rw [HL.out]; omega)
            have hcv : ∀ W, Below wr.heap.size wr W → (convert 24 9 (.slice (some ⟨w2.heap.size, 0, none⟩) t.size cap)).run Try.prog W = .ok (.string ⟨(patch t.data.toList l n k).toArray⟩) W := fun W hb =>
              (hB.below hb hB.lt).conv (P := Try.prog) Try.underlying24 Try.underlying5 Try.underlying9 _ _ (by rw [hplen, htl])
            obtain ⟨z, hz⟩ : ∃ z : ByteArray, z = ⟨(patch t.data.toList l n k).toArray⟩ := ⟨_, rfl⟩
            have hzd : z.data.toList = patch t.data.toList l n k := by rw [hz]
            have hzs : z.size = t.size := by rw [hz]; show (patch t.data.toList l n k).toArray.size = _; rw [List.size_toArray, hplen, htl]
            rw [← hz] at hcv
            have hTS := HTS.out
            have hTf : t.data.toList = frameB s.data.toList := by rw [HT.out, sealB_one]
            have hss : s.data.toList.length = s.size := by simp
            have hres : (z = t ∧ firstR z.data.toList 0 = (s.data.toList, (t.size : Int), 0)) ∨ (z ≠ t ∧ firstR z.data.toList 0 = ([], 0, 1)) := by
              by_cases hzt : z = t
              · refine .inl ⟨hzt, ?_⟩
                have h := frame_first [] [] s.data.toList (by omega)
                simp only [List.nil_append, List.append_nil, List.length_nil] at h
                rw [hzt, hTf]
                refine h.trans ?_
                rw [hTS, hss]
              · refine .inr ⟨hzt, ?_⟩
                rw [hzd, hTf]
                refine spoil s.data.toList l n k (by omega) HL.out ?_ hk4 (by rw [frameB_len, hss]; omega) ?_ ?_
                · rw [hss]; exact HN.out
                · intro h4
                  subst h4
                  omega
                · rw [← hTf, ← hzd]
                  intro h
                  exact hzt (by apply ByteArray.ext; exact Array.toList_inj.1 h)
            have hcall := first_any wr z 0 (by omega) (by omega) (by omega)
            have hc0 := hcv wr (Below.refl _ _)
            have HCV := Lib.hid hcv
            have hex : decide ((k : Int) < 4) = false ∨ (decide ((k : Int) < 4) = true ∧ decide ((k : Int) < (t.size : Int) - (n : Int)) = false) := by
              by_cases h : k < 4
              · exact .inr ⟨decide_eq_true (by omega), decide_eq_false (by omega)⟩
              · exact .inl (decide_eq_false (by omega))
            clear hcv hz hzd hzs hTS hTf hss hplen htl hlt hB hW HG HB HA3 HB3 HN HL
            rcases hres with ⟨rfl, hf⟩ | ⟨hne, hf⟩
            · rw [hf] at hcall
              have hs1 : (⟨s.data.toList.toArray⟩ : ByteArray) = s := by simp
              simp only [hs1] at hcall
              clear hs1 hf
              rcases hex with b1 | ⟨b1, b2⟩
              all_goals
                go_wp2_with fail
                refine hcall.mono ?_
                rintro e w5 ⟨rfl, hb5⟩
                have hc5 := HCV.out w5 hb5
                have hA5 := bel hA hb5
                go_wp2
                go_ret
                exact ⟨rfl, hA5⟩
            · rw [hf] at hcall
              have hq : (z.toList == t.toList) = false := bne_of hne
              clear hf
              rcases hex with b1 | ⟨b1, b2⟩
              all_goals
                go_wp2_with fail
                refine hcall.mono ?_
                rintro e w5 ⟨rfl, hb5⟩
                have hc5 := HCV.out w5 hb5
                have hA5 := bel hA hb5
                go_wp2
                go_ret
                exact ⟨rfl, hA5⟩
  · have hnf : ¬ fits [s] := fun h => hfit (h s List.mem_cons_self)
    go_enter Try.func7, Try.ntmps7
    go_wp2_with fail
    refine (flives_any _).mono ?_
    rintro e w1 ⟨rfl, hb1⟩
    have hr1 := rd_one w1 w1.heap.size rfl s
    have hbW : Below w.heap.size w (w.alloc (.cells (bytv l).toArray 41)) := (Below.refl _ _).alloc (Nat.le_refl _) _
    have hb1' := bel hbW hb1
    have hbA : Below w.heap.size w (w1.alloc (.cells #[Value.string s] 9)) := hb1'.alloc hb1'.size _
    go_wp2_with fail
    refine (fseal_bad _ _ 1 1 [s] hnf hr1 (by rw [sealB_one, frameB_len]; simp; omega) (by omega) (by intro x hx; rw [List.mem_singleton.1 hx]; omega)).mono ?_
    rintro e w2 ⟨rfl, hb2⟩
    have hb2' := bel hbA hb2
    clear hl
    go_wp2
    go_ret
    exact ⟨rfl, hb2'⟩
end Go.Proofs.Ytlhcokpkjbjgpaa
