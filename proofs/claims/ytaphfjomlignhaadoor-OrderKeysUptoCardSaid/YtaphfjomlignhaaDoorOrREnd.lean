/- Keys: the reference's End, walked; 'lives'. -/
import Derived.Test.YtaphfjomlignhaaDoorOrEnd
import Derived.Test.YtaphfjomlignhaaDoorOrKey
namespace Go.Proofs.YtaphfjomlignhaaDoor
open Go.RowKit
set_option maxHeartbeats 2000000 in
set_option maxRecDepth 20000 in
theorem rend_any (w : World) (s : ByteArray) (hs : s.size ≤ 140737488351232) :
    Calls Tryd.prog 11 #[.string s] w fun e w' => e = .returned (.string ⟨(endF s.data.toList).toArray⟩) ∧ Below w.heap.size w w' := by
  have hsl : s.data.toList.length = s.size := by simp
  have HSL := Lib.hid hsl
  clear hsl
  go_enter Tryd.func11, Tryd.ntmps11
  go_wp2
  go_loop [3] (fun p => ∃ k : Nat, k ≤ s.size ∧ p = .int .i64 k ∧ Hid (Tail255 s.data.toList k)) (fun p => (intOf p).toNat)
  case atStart => exact ⟨s.size, Nat.le_refl _, rfl, Lib.hid (by have := Tail255.start s.data.toList; rwa [HSL.out] at this)⟩
  case round =>
    obtain ⟨k, hk, rfl, hT⟩ := hrel
    cases k with
    | zero =>
      have HE := Lib.hid hT.out.none
      go_wp2
      go_ret
      rw [HE.out]
      exact ⟨rfl, Below.refl _ _⟩
    | succ k =>
      have hkl : k < s.data.toList.length := by rw [HSL.out]; omega
      have hks : k < s.size := by omega
      have hst := fun he => hT.out.step hkl he
      have hsm := fun he => hT.out.some hkl he
      have hgk : s.data.toList[k] = s[k] := rfl
      rw [hgk] at hst hsm
      by_cases he : s[k] = 255
      · have hT2 := Lib.hid (hst he)
        clear hst hsm hgk
        have hb1 : (((s[k]).toNat : Int) == 255) = true := by rw [he]; rfl
        clear he
        go_wp2
        go_round
        case rel => exact ⟨k, by omega, by go_num, hT2⟩
        case measure => simp [intOf]
      · have HE := Lib.hid (hsm he)
        have hb1 : (((s[k]).toNat : Int) == 255) = false := beq_eq_false_iff_ne.2 (fun h => he (UInt8.toNat_inj.1 (by show (s[k]).toNat = 255; omega)))
        have hinc := u8_inc s[k]
        clear hst hsm hgk
        obtain ⟨v, hv⟩ : ∃ v : UInt8, s[k] + 1 = v := ⟨_, rfl⟩
        rw [hv] at hinc
        have HV := Lib.hid hv
        have hc0 : (convert 43 9 (.slice (some ⟨w.heap.size, 0, none⟩) 1 1)).run Tryd.prog (w.alloc (.cells #[.int .u8 (v.toNat : Int)] 5)).drew = .ok (.string ⟨#[v]⟩) (w.alloc (.cells #[.int .u8 (v.toNat : Int)] 5)).drew :=
          run_convert_bytes_back (P := Tryd.prog) _ 43 9 5 ⟨w.heap.size, 0, none⟩ 1 [v] Tryd.underlying43 Tryd.underlying5 Tryd.underlying9 (fun j hj => by
            have : j = 0 := by simp at hj; omega
            subst this
            rw [add_zero_off]
            show (w.alloc (.cells #[.int .u8 (v.toNat : Int)] 5)).cell? _ = _
            rw [cell_of_row _ _ 0 _ _ _ (heap_alloc_new w _)]; rfl)
        have hl1 : (s.extract 0 k).size = k := by simp; omega
        have hlt : ¬ 9223372036854775807 < (s.extract 0 k).size + (⟨#[v]⟩ : ByteArray).size := by
          show ¬ _ < (s.extract 0 k).size + 1
          omega
        clear hv
        go_wp2
        go_region
        have HW : Hid (Below w.heap.size w (w.alloc (.cells #[.int .u8 (v.toNat : Int)] 5)).drew) := Lib.hid (below_drew2 ((Below.refl _ _).alloc (Nat.le_refl _) _))
        have hfin : s.extract 0 k ++ (⟨#[v]⟩ : ByteArray) = ⟨(endF s.data.toList).toArray⟩ := by
          rw [HE.out, HV.out]
          apply ByteArray.ext
          rw [ByteArray.data_append]
          apply Array.ext'
          simp [ByteArray.data_extract]
        have HF := Lib.hid hfin
        clear hfin
        go_wp2
        go_ret
        rw [HF.out]
        exact ⟨rfl, HW.out⟩
/-- The key of -1 and "a". -/
def K0 : List UInt8 := [1, 127, 255, 255, 255, 255, 255, 255, 255, 2, 97, 0, 0]
theorem key0 : keyR [⟨1, -1, ⟨#[]⟩⟩, ⟨2, 0, ⟨#[97]⟩⟩] = (K0, 0) := by decide +kernel
theorem end0 : endF [97, 98] = [97, 99] := by decide +kernel
end Go.Proofs.YtaphfjomlignhaaDoor
