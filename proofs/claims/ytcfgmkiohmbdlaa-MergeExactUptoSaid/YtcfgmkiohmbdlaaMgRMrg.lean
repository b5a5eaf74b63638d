/- Merging versions: the reference's Merge, walked. -/
import Derived.Test.YtcfgmkiohmbdlaaMgInsW
import Derived.Test.YtcfgmkiohmbdlaaMgJoins
namespace Go.Proofs.Ytcfgmkiohmbdlaa
open Go.RowKit
theorem flat_part (Ls : List (List Ent)) (k q : Nat) (h : k < Ls.length) : ((Ls.take k).flatten ++ Ls[k].take q).length ≤ Ls.flatten.length := by
  have h1 := flat_take_le Ls (k + 1)
  rw [flat_take Ls k h] at h1
  rw [List.length_append] at h1 ⊢
  have : (Ls[k].take q).length ≤ Ls[k].length := by rw [List.length_take]; omega
  omega
set_option maxHeartbeats 4000000 in
set_option maxRecDepth 20000 in
theorem rmerge_any (w : World) (A : Option Addr) (n c : Nat) (vs : List Value) (Ls : List (List Ent)) (hr : LsRd w w.heap.size A n vs Ls) (hn : n ≤ 1048576) (ht : Ls.flatten.length ≤ 1073741824) :
    Calls Try.prog 13 #[.slice A n c] w (RNewPost w.heap.size w (mergeL Ls.flatten)) := by
  have HR := Lib.hid hr
  have HVN := Lib.hid (show vs.length = n by have := hr.rd.len; omega)
  have HLN := Lib.hid (show Ls.length = n by have := hr.rd.len; have := hr.len; omega)
  have HT := Lib.hid ht
  clear hr ht
  go_enter Try.func13, Try.ntmps13
  go_wp2
  go_loopw [3, 10] (fun ov iv wx => ∃ k : Nat, k ≤ n ∧ iv = .int .i64 k ∧ ∃ A1 n1 c1, ov = .slice A1 n1 c1 ∧ Hid (n1 ≤ c1 ∧ Rd wx wx.heap.size 4 A1 n1 (entv (mergeL (Ls.take k).flatten)) ∧ (0 < n1 → ∃ ad, A1 = some ad ∧ w.heap.size ≤ ad.block)) ∧ Hid (Below w.heap.size w wx)) (fun _ iv _ => n - (intOf iv).toNat)
  case atStart => exact ⟨0, Nat.zero_le _, rfl, _, _, _, rfl, Lib.hid ⟨Nat.le_refl _, Rd.nil, fun h => absurd h (Nat.lt_irrefl _)⟩, Lib.hid (Below.refl _ _)⟩
  case round =>
    obtain ⟨k, hk, rfl, A1, n1, c1, rfl, HO, HW⟩ := hrel
    by_cases hlt : k < n
    · have hkv : k < vs.length := by rw [HVN.out]; exact hlt
      have hkl : k < Ls.length := by rw [HLN.out]; exact hlt
      obtain ⟨ad, u, rfl, hb, hu, hcl⟩ := (HR.out.rd.below HW.out).get hlt
      obtain ⟨A', n', c', hv, hrd⟩ := HR.out.each k hkv hkl
      rw [List.getElem?_eq_getElem hkv] at hu
      obtain rfl : vs[k] = u := by simpa using hu
      rw [hv] at hcl
      have hft := flat_take Ls k hkl
      have hfp := fun q => flat_part Ls k q hkl
      obtain ⟨G, hG⟩ : ∃ G, Ls[k] = G := ⟨_, rfl⟩
      rw [hG] at hrd hft
      have hfp2 : ∀ q, ((Ls.take k).flatten ++ G.take q).length ≤ Ls.flatten.length := fun q => by rw [← hG]; exact hfp q
      have HFT := Lib.hid hft
      have HFP := Lib.hid hfp2
      have hn' := rd_entlen hrd
      have HGL := Lib.hid hn'
      have hbn : n' ≤ 1073741824 := by
        have h1 := hfp2 n'
        rw [List.length_append, List.take_of_length_le (l := G) (by omega)] at h1
        have := HT.out
        omega
      have HG := Lib.hid hrd
      clear hu hv hft hfp hfp2 hG hrd hn' hkv hkl
      go_wp2
      go_loopw [3, 16] (fun ov iv wx => ∃ q : Nat, q ≤ n' ∧ iv = .int .i64 q ∧ ∃ A1 n1 c1, ov = .slice A1 n1 c1 ∧ Hid (n1 ≤ c1 ∧ Rd wx wx.heap.size 4 A1 n1 (entv (mergeL ((Ls.take k).flatten ++ G.take q))) ∧ (0 < n1 → ∃ ad, A1 = some ad ∧ w.heap.size ≤ ad.block)) ∧ Hid (Below w.heap.size w wx)) (fun _ iv _ => n' - (intOf iv).toNat)
      case atStart => exact ⟨0, Nat.zero_le _, rfl, _, _, _, rfl, Lib.hid (by rw [List.take_zero, List.append_nil]; exact HO.out), HW⟩
      case round =>
        clear HO HW
        obtain ⟨q, hq, rfl, A2, n2, c2, rfl, HO, HW⟩ := hrel
        by_cases hlt2 : q < n'
        · obtain ⟨b, off, rfl, hbb, hsq, e0, e1, e2, e3⟩ := (HG.out.below HW.out).ent hlt2
          have htk := List.take_succ_eq_append_getElem hsq
          obtain ⟨x, hx⟩ : ∃ x, G[q] = x := ⟨_, rfl⟩
          rw [hx] at e0 e1 e2 e3 htk
          obtain ⟨x1, x2, x3, x4⟩ := x
          simp only at e0 e1 e2 e3
          obtain ⟨S, hS⟩ : ∃ S, (Ls.take k).flatten ++ G.take q = S := ⟨_, rfl⟩
          have hS2 : (Ls.take k).flatten ++ G.take (q + 1) = S ++ [⟨x1, x2, x3, x4⟩] := by rw [htk, ← List.append_assoc, hS]
          rw [hS] at HO
          have HS2 := Lib.hid hS2
          have hws := HW.out.size
          have hn2 := rd_entlen HO.out.2.1
          have hSl : S.length ≤ 1073741824 := by
            have h1 := HFP.out q
            rw [hS] at h1
            have := HT.out
            omega
          have hml := mergeL_len S
          have hba : Below wr.heap.size wr (wr.alloc (.cells #[.string x1, .int .i64 x2, .bool x3, .string x4] 26)) := (Below.refl _ _).alloc (Nat.le_refl _) _
          have HI := Lib.hid (rins_any _ A2 n2 c2 (mergeL S) S x1 x2 x3 x4 (HO.out.2.1.go hba) (mergeL_of S) (by omega) HO.out.1 w.heap.size (by simp; omega) HO.out.2.2)
          have HBA := Lib.hid (bel_go HW.out hba)
          clear htk hx hS hS2 hml hba hn2
          go_wp2_with fail
          refine HI.out.mono ?_
          rintro e w3 ⟨A3, n3, c3, rfl, hnc, hr3, hb3, hA3⟩
          have HO3 : Hid (n3 ≤ c3 ∧ Rd w3 w3.heap.size 4 A3 n3 (entv (mergeL ((Ls.take k).flatten ++ G.take (q + 1)))) ∧ (0 < n3 → ∃ ad, A3 = some ad ∧ w.heap.size ≤ ad.block)) := Lib.hid (by rw [HS2.out]; exact ⟨hnc, hr3, hA3⟩)
          have HW3 := Lib.hid (bel_go HBA.out hb3)
          clear hnc hr3 hb3 hA3 HI HBA HS2 HO HW
          go_wp2
          go_roundw
          case rel => exact ⟨q + 1, by omega, by go_num, A3, n3, c3, rfl, HO3, HW3⟩
          case measure => simp [intOf]; omega
        · have HO3 : Hid (n2 ≤ c2 ∧ Rd wr wr.heap.size 4 A2 n2 (entv (mergeL (Ls.take (k + 1)).flatten)) ∧ (0 < n2 → ∃ ad, A2 = some ad ∧ w.heap.size ≤ ad.block)) := Lib.hid (by
            have h := HO.out
            rw [List.take_of_length_le (l := G) (by rw [← HGL.out]; omega)] at h
            rw [HFT.out]; exact h)
          have hz : ¬ (q : Int) < (n' : Int) := by omega
          clear HO
          go_wp2
          go_roundw
          case rel => exact ⟨k + 1, by omega, by go_num, A2, n2, c2, rfl, HO3, HW⟩
          case measure => simp [intOf]; omega
    · have HF : Hid (RNewPost w.heap.size w (mergeL Ls.flatten) (.returned (.slice A1 n1 c1)) wr) := Lib.hid (by
        have h := HO.out
        rw [List.take_of_length_le (by rw [HLN.out]; omega)] at h
        exact ⟨A1, n1, c1, rfl, h.1, h.2.1, HW.out, h.2.2⟩)
      have hz : ¬ (k : Int) < (n : Int) := by omega
      clear HO
      go_wp2
      go_ret
      exact HF.out
end Go.Proofs.Ytcfgmkiohmbdlaa
