/- Keys: End, walked. -/
import Derived.Test.YtaphfjomlignhaaDoorOrEndP
import Derived.Test.YtaphfjomlignhaaDoorBts
import Derived.Test.YtaphfjomlignhaaDoorByt
namespace Go.Proofs.YtaphfjomlignhaaDoor
open Go.RowKit
theorem below_drew2 {B : Nat} {w w1 : World} (h : Below B w w1) : Below B w w1.drew := ⟨h.os, h.tape, h.output, h.size, h.block⟩
def lenOf : Value → Nat
  | .slice _ n _ => n
  | _ => 0
theorem u8_inc (b : UInt8) : ((b.toNat : Int) + 1) % 256 = ((b + 1).toNat : Int) := by
  rw [UInt8.toNat_add]
  have : (1 : UInt8).toNat = 1 := rfl
  rw [this]; omega
/-- The first k bytes, and 255 behind them. -/
def Tail255 (l : List UInt8) (k : Nat) : Prop := l = l.take k ++ List.replicate (l.length - k) 255
theorem Tail255.start (l : List UInt8) : Tail255 l l.length := by unfold Tail255; simp
theorem Tail255.step {l : List UInt8} {k : Nat} (h : Tail255 l (k + 1)) (hk : k < l.length) (he : l[k] = 255) : Tail255 l k := by
  unfold Tail255 at h ⊢
  rw [List.take_succ_eq_append_getElem hk, he] at h
  have e : l.length - k = (l.length - (k + 1)) + 1 := by omega
  rw [e, List.replicate_succ]
  simpa using h
theorem Tail255.none {l : List UInt8} (h : Tail255 l 0) : endF l = [] := by
  unfold Tail255 at h
  rw [h]; simp [endF_all]
theorem Tail255.some {l : List UInt8} {k : Nat} (h : Tail255 l (k + 1)) (hk : k < l.length) (he : l[k] ≠ 255) : endF l = l.take k ++ [l[k] + 1] := by
  have h' := h
  unfold Tail255 at h'
  rw [List.take_succ_eq_append_getElem hk] at h'
  have := endF_at (l.take k) l[k] he (l.length - (k + 1))
  rw [← this]
  congr 1
  rw [List.append_assoc] at h'
  exact h'
theorem set_take (l : List UInt8) (k : Nat) (hk : k < l.length) (c : UInt8) : (l.take (k + 1)).set k c = l.take k ++ [c] := by
  rw [List.take_succ_eq_append_getElem hk, List.set_append_right _ _ (by simp; omega)]
  simp [Nat.min_eq_left (Nat.le_of_lt hk)]
set_option maxHeartbeats 2000000 in
set_option maxRecDepth 20000 in
theorem end_any (w : World) (s : ByteArray) (hs : s.size ≤ 140737488351232) :
    Calls Tryd.prog 10 #[.string s] w fun e w' => e = .returned (.string ⟨(endF s.data.toList).toArray⟩) ∧ Below w.heap.size w w' := by
  have hcv := fun w s => run_bytes_of_string (P := Tryd.prog) w 9 43 5 s Tryd.underlying9 Tryd.underlying43 Tryd.underlying5
  have hsl : s.data.toList.length = s.size := by simp
  have HSL := Lib.hid hsl
  have HB := Lib.hid (Bts.made w s (grownCap w s.size 0 5) 5).drew
  have HW := Lib.hid (below_drew2 ((Below.refl w.heap.size w).alloc (Nat.le_refl _) (.cells (bytesRow s (grownCap w s.size 0 5)) 5 ((bytesRow s (grownCap w s.size 0 5)).size, (bytesRow s (grownCap w s.size 0 5)).size + 1))))
  clear hsl
  go_enter Tryd.func10, Tryd.ntmps10
  go_wp2
  generalize hc1 : grownCap w s.size 0 5 = cap at *
  have hcl : Hid (s.size ≤ cap) := Lib.hid (by rw [← hc1]; exact grownCap_ge w s.size 0 5)
  clear hc1 hcv
  generalize (w.alloc (.cells (bytesRow s cap) 5 ((bytesRow s cap).size, (bytesRow s cap).size + 1))).drew = w2 at HB HW ⊢
  have hcl := hcl.out
  go_loop [3] (fun p => ∃ k : Nat, k ≤ s.size ∧ p = .slice (some ⟨w.heap.size, 0, none⟩) k cap ∧ Hid (Tail255 s.data.toList k)) (fun p => (lenOf p))
  case atStart => exact ⟨s.size, Nat.le_refl _, rfl, Lib.hid (by have := Tail255.start s.data.toList; rwa [HSL.out] at this)⟩
  case round =>
    obtain ⟨k, hk, rfl, hT⟩ := hrel
    cases k with
    | zero =>
      have HE := Lib.hid hT.out.none
      go_wp2
      go_ret
      rw [HE.out]
      exact ⟨rfl, HW.out⟩
    | succ k =>
      have hkl : k < s.data.toList.length := by rw [HSL.out]; omega
      have c0 := HB.out.cell k hkl
      have f0 := HB.out.free k hkl
      have hst := fun he => hT.out.step hkl he
      have hsm := fun he => hT.out.some hkl he
      have hset := fun c => set_take s.data.toList k hkl c
      obtain ⟨b, hb⟩ : ∃ b, s.data.toList[k] = b := ⟨_, rfl⟩
      rw [hb] at c0
      simp only [hb] at hst hsm
      clear hb
      by_cases he : b = 255
      · have hT2 := Lib.hid (hst he)
        subst he
        have c0' : w2.cell? ⟨w.heap.size, k, none⟩ = some (.int .u8 255) := c0
        clear hst hsm hset c0
        go_wp2
        go_round
        case rel => exact ⟨k, by omega, by go_num, hT2⟩
        case measure => simp [lenOf]
      · have HE := Lib.hid (hsm he)
        have hb1 : ((b.toNat : Int) == 255) = false := beq_eq_false_iff_ne.2 (fun h => he (UInt8.toNat_inj.1 (by show b.toNat = 255; omega)))
        have hinc := u8_inc b
        have hB2 := (HB.out.take (k + 1)).set k (by simp; omega) (b + 1)
        rw [hset, ← hinc] at hB2
        have hconv := hB2.conv (P := Tryd.prog) (src := 43) (dst := 9) Tryd.underlying43 Tryd.underlying5 Tryd.underlying9 (k + 1) cap (by simp; omega)
        have HW3 := Lib.hid (HW.out.setCell (p := ⟨w.heap.size, k, none⟩) (Nat.le_refl _) (.int .u8 (((b.toNat : Int) + 1) % 256)))
        clear hst hsm hset hB2 hinc
        go_wp2
        go_ret
        rw [HE.out]
        exact ⟨rfl, HW3.out⟩
end Go.Proofs.YtaphfjomlignhaaDoor
