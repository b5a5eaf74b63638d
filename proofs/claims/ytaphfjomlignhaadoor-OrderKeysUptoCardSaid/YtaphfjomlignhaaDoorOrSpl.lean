/- Keys: order.number and order.text, walked. -/
import Derived.Test.YtaphfjomlignhaaDoorOrSplP
import Derived.Test.YtaphfjomlignhaaDoorByt
namespace Go.Proofs.YtaphfjomlignhaaDoor
open Go.RowKit
theorem shl_or (a : Nat) (b : UInt8) (h : a < 72057594037927936) : bits BinOp.or IntKind.u64 ((a : Int) * 256) (IntKind.u64.wrap (b.toNat : Int)) = ((256 * a + b.toNat : Nat) : Int) := by
  have hb := b.toNat_lt
  rw [IntKind.wrap_u64, show ((a : Int) * 256) = ((a * 256 : Nat) : Int) by omega, show ((b.toNat : Int) % 18446744073709551616) = ((b.toNat : Nat) : Int) by omega,
    bits_or_u64_nat _ _ (by omega) (by omega), show a * 256 = 2 ^ 8 * a by omega, ← Nat.two_pow_add_eq_or_of_lt (by omega)]
theorem unB_take_lt (l : List UInt8) : ∀ k, k < 8 → k < l.length → unB (l.take k) < 72057594037927936 := by
  intro k hk hl
  have key : ∀ (l : List UInt8), unB l < 256 ^ l.length := by
    intro l
    have : ∀ (l : List UInt8) (n : Nat), l.foldl (fun n b => 256 * n + b.toNat) n < 256 ^ l.length * (n + 1) := by
      intro l
      induction l with
      | nil => intro n; simp
      | cons b l ih =>
        intro n
        have hb := b.toNat_lt
        have h1 := ih (256 * n + b.toNat)
        simp only [List.foldl_cons, List.length_cons]
        refine Nat.lt_of_lt_of_le h1 ?_
        rw [Nat.pow_succ, Nat.mul_assoc]
        exact Nat.mul_le_mul_left _ (by omega)
    have := this l 0
    simpa [unB] using this
  have h1 := key (l.take k)
  have h2 : (l.take k).length = k := by rw [List.length_take]; omega
  rw [h2] at h1
  have h3 : 256 ^ k ≤ 256 ^ 7 := Nat.pow_le_pow_right (by decide) (by omega)
  have h4 : (256 : Nat) ^ 7 = 72057594037927936 := by decide
  omega
theorem unB_take_step (s : ByteArray) (k : Nat) (h : k < s.size) : unB (s.data.toList.take (k + 1)) = 256 * unB (s.data.toList.take k) + s[k].toNat := by
  rw [take_snoc s k h, unB_snoc]
theorem down_xor (u : Nat) (h : u < 18446744073709551616) : IntKind.i64.wrap (bits BinOp.xor IntKind.u64 (u : Int) 9223372036854775808) = (u : Int) - 9223372036854775808 := by
  rw [show (9223372036854775808 : Int) = ((9223372036854775808 : Nat) : Int) from rfl, bits_xor_u64_nat _ _ h (by omega), xor_top u h]
  rw [IntKind.wrap_i64]; omega
theorem row3 (w : World) (R : Nat) (T : TypeId) (a b c a' b' c' : Value) (h : w.heap[R]? = some (.cells #[a, b, c] T (0, 0))) :
    (((w.setCell ⟨R, 0, none⟩ a').setCell ⟨R, 1, none⟩ b').setCell ⟨R, 2, none⟩ c').heap[R]? = some (.cells #[a', b', c'] T (0, 0)) ∧
    Upd (fun k => k = R) w (((w.setCell ⟨R, 0, none⟩ a').setCell ⟨R, 1, none⟩ b').setCell ⟨R, 2, none⟩ c') := by
  have h0 := heap_setCell_same w R 0 _ _ a' h
  have h1 := heap_setCell_same _ R 1 _ _ b' h0
  have h2 := heap_setCell_same _ R 2 _ _ c' h1
  exact ⟨h2, (((Upd.refl (fun k => k = R) w).setCell ⟨R, 0, none⟩ rfl _).setCell ⟨R, 1, none⟩ rfl _).setCell ⟨R, 2, none⟩ rfl _⟩
def noPart : Value := .agg #[.int .i64 0, .int .i64 0, .string ⟨#[]⟩]
set_option maxHeartbeats 2000000 in
set_option maxRecDepth 20000 in
theorem num_no (w : World) (s : ByteArray) (h8 : s.size < 8) :
    Calls Tryd.prog 25 #[.string s] w fun e w' => e = .returned (.tuple #[noPart, .string ⟨#[]⟩, .bool false]) ∧ Below w.heap.size w w' := by
  have hd : ((s.size : Int) < 8) := by omega
  have R0 := heap_alloc_new w (.cells #[.int .i64 0, .int .i64 0, .string ⟨#[]⟩] 31)
  have hb0 : Below w.heap.size w (w.alloc (.cells #[.int .i64 0, .int .i64 0, .string ⟨#[]⟩] 31)) := (Below.refl _ _).alloc (Nat.le_refl _) _
  have HB0 := Lib.hid hb0
  have HR0 := Lib.hid R0
  clear hb0 R0
  go_enter Tryd.func25, Tryd.ntmps25
  go_upto_region 1 with (fail)
  generalize hWA : w.alloc (.cells #[.int .i64 0, .int .i64 0, .string ⟨#[]⟩] 31) = wA at HB0 HR0 ⊢
  have c0 : wA.cell? ⟨w.heap.size, 0, none⟩ = some (.int .i64 0) := by rw [cell_of_row _ _ 0 _ _ _ HR0.out]; rfl
  have c1 : wA.cell? ⟨w.heap.size, 1, none⟩ = some (.int .i64 0) := by rw [cell_of_row _ _ 1 _ _ _ HR0.out]; rfl
  have c2 : wA.cell? ⟨w.heap.size, 2, none⟩ = some (.string ⟨#[]⟩) := by rw [cell_of_row _ _ 2 _ _ _ HR0.out]; rfl
  have f : ∀ i, wA.frozen? ⟨w.heap.size, i, none⟩ = false := fun i => frozen_of_row wA _ i _ _ HR0.out
  have f0 := f 0
  have f1 := f 1
  have f2 := f 2
  clear hWA f
  go_wp2
  have hF := row3 wA w.heap.size _ _ _ _ (.int .i64 0) (.int .i64 0) (.string ⟨#[]⟩) HR0.out
  have HW := Lib.hid (HB0.out.trans (hF.2.below (B := w.heap.size) (fun k hk e => by omega) HB0.out.size))
  generalize ((wA.setCell ⟨w.heap.size, 0, none⟩ (.int .i64 0)).setCell ⟨w.heap.size, 1, none⟩ (.int .i64 0)).setCell ⟨w.heap.size, 2, none⟩ (.string ⟨#[]⟩) = wF at hF HW ⊢
  have r0 : wF.cell? ⟨w.heap.size, 0, none⟩ = some (.int .i64 0) := by rw [cell_of_row wF _ 0 _ _ _ hF.1]; rfl
  have r1 : wF.cell? ⟨w.heap.size, 1, none⟩ = some (.int .i64 0) := by rw [cell_of_row wF _ 1 _ _ _ hF.1]; rfl
  have r2 : wF.cell? ⟨w.heap.size, 2, none⟩ = some (.string ⟨#[]⟩) := by rw [cell_of_row wF _ 2 _ _ _ hF.1]; rfl
  exact bodyPost_ret (v := .tuple #[noPart, .string ⟨#[]⟩, .bool false]) (by simp [results, noPart, Tryd.results25, go_sem, r0, r1, r2]) rfl ⟨rfl, HW.out⟩
set_option maxHeartbeats 2000000 in
set_option maxRecDepth 20000 in
theorem num_yes (w : World) (s : ByteArray) (h8 : ¬ s.size < 8) (hs : s.size ≤ 1073741824) :
    Calls Tryd.prog 25 #[.string s] w fun e w' => e = .returned (.tuple #[.agg #[.int .i64 1, .int .i64 ((unB (s.data.toList.take 8) : Int) - 9223372036854775808), .string ⟨#[]⟩], .string (s.extract 8 s.size), .bool true]) ∧ Below w.heap.size w w' := by
  have hd : ¬ ((s.size : Int) < 8) := by omega
  have R0 := heap_alloc_new w (.cells #[.int .i64 0, .int .i64 0, .string ⟨#[]⟩] 31)
  have hb0 : Below w.heap.size w (w.alloc (.cells #[.int .i64 0, .int .i64 0, .string ⟨#[]⟩] 31)) := (Below.refl _ _).alloc (Nat.le_refl _) _
  have HB0 := Lib.hid hb0
  have HR0 := Lib.hid R0
  have hsl : s.data.toList.length = s.size := by simp
  have HLT := Lib.hid (unB_take_lt s.data.toList)
  have HST := Lib.hid (unB_take_step s)
  have hu8 := unB_lt (s.data.toList.take 8) (by rw [List.length_take]; omega)
  have hdx := down_xor _ hu8
  have HDX := Lib.hid hdx
  clear hb0 R0 hdx
  go_enter Tryd.func25, Tryd.ntmps25
  go_upto_region 1 with (fail)
  generalize hWA : w.alloc (.cells #[.int .i64 0, .int .i64 0, .string ⟨#[]⟩] 31) = wA at HB0 HR0 ⊢
  clear hWA
  go_wp2
  go_loop [5, 11] (fun u i => ∃ k : Nat, k ≤ 8 ∧ i = .int .i64 k ∧ u = .int .u64 (unB (s.data.toList.take k) : Int)) (fun _ i => 8 - (intOf i).toNat)
  case atStart => exact ⟨0, Nat.zero_le _, rfl, rfl⟩
  case round =>
    obtain ⟨k, hk, rfl, rfl⟩ := hrel
    by_cases hlt : k < 8
    · have hks : k < s.size := by omega
      have hlt2 := HLT.out k hlt (by omega)
      have hstep := HST.out k hks
      have hor := shl_or (unB (s.data.toList.take k)) s[k] hlt2
      rw [← hstep] at hor
      have HOR := Lib.hid hor
      clear hor hstep
      go_wp2
      refine ⟨⟨k + 1, by omega, by go_num, ?_⟩, by simp [intOf]; omega⟩
      exact congrArg (Value.int .u64) HOR.out
    · have e : k = 8 := by omega
      clear hlt hk
      subst e
      have c0 : wA.cell? ⟨w.heap.size, 0, none⟩ = some (.int .i64 0) := by rw [cell_of_row _ _ 0 _ _ _ HR0.out]; rfl
      have c1 : wA.cell? ⟨w.heap.size, 1, none⟩ = some (.int .i64 0) := by rw [cell_of_row _ _ 1 _ _ _ HR0.out]; rfl
      have c2 : wA.cell? ⟨w.heap.size, 2, none⟩ = some (.string ⟨#[]⟩) := by rw [cell_of_row _ _ 2 _ _ _ HR0.out]; rfl
      have f : ∀ i, wA.frozen? ⟨w.heap.size, i, none⟩ = false := fun i => frozen_of_row wA _ i _ _ HR0.out
      have f0 := f 0
      have f1 := f 1
      have f2 := f 2
      obtain ⟨z, hz⟩ : ∃ z, IntKind.i64.wrap (bits BinOp.xor IntKind.u64 (unB (s.data.toList.take 8) : Int) 9223372036854775808) = z := ⟨_, rfl⟩
      have HZ : Hid ((unB (s.data.toList.take 8) : Int) - 9223372036854775808 = z) := Lib.hid (by rw [← hz]; exact HDX.out.symm)
      clear f
      go_wp2
      go_region
      go_wp2
      have hF := row3 wA w.heap.size _ _ _ _ (.int .i64 1) (.int .i64 z) (.string ⟨#[]⟩) HR0.out
      have HW := Lib.hid (below_drew1 (HB0.out.trans (hF.2.below (B := w.heap.size) (fun k hk e => by omega) HB0.out.size)))
      generalize ((wA.setCell ⟨w.heap.size, 0, none⟩ (.int .i64 1)).setCell ⟨w.heap.size, 1, none⟩ (.int .i64 z)).setCell ⟨w.heap.size, 2, none⟩ (.string ⟨#[]⟩) = wF at hF HW ⊢
      have r0 : wF.cell? ⟨w.heap.size, 0, none⟩ = some (.int .i64 1) := by rw [cell_of_row wF _ 0 _ _ _ hF.1]; rfl
      have r1 : wF.cell? ⟨w.heap.size, 1, none⟩ = some (.int .i64 z) := by rw [cell_of_row wF _ 1 _ _ _ hF.1]; rfl
      have r2 : wF.cell? ⟨w.heap.size, 2, none⟩ = some (.string ⟨#[]⟩) := by rw [cell_of_row wF _ 2 _ _ _ hF.1]; rfl
      rw [HZ.out]
      exact bodyPost_ret (v := .tuple #[.agg #[.int .i64 1, .int .i64 z, .string ⟨#[]⟩], .string (s.extract 8 s.size), .bool true]) (by simp [results, Tryd.results25, go_sem, r0, r1, r2]) rfl ⟨rfl, HW.out⟩
end Go.Proofs.YtaphfjomlignhaaDoor
