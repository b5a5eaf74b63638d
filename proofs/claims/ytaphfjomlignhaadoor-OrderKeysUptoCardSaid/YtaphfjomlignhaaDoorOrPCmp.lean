/- Keys: parts compared (order.Compare$1), walked. -/
import Derived.Test.YtaphfjomlignhaaDoorOrOr
import Derived.Lib.Bytealg
import Derived.StillTailTactics
namespace Go.Proofs.YtaphfjomlignhaaDoor
open Go.RowKit
theorem compareBytes_is (a b : List UInt8) : Lib.compareBytes a b = if Op.bytesLess a b = true then -1 else if a = b then 0 else 1 := by
  induction a generalizing b with
  | nil => cases b <;> simp [Lib.compareBytes, Op.bytesLess]
  | cons x a ih =>
    cases b with
    | nil => simp [Lib.compareBytes, Op.bytesLess]
    | cons y b =>
      unfold Lib.compareBytes
      have hl := less_cons x y a b
      by_cases h1 : x < y
      · rw [if_pos h1, if_pos (hl.2 (.inl h1))]
      · rw [if_neg h1]
        by_cases h2 : y < x
        · rw [if_pos h2, if_neg, if_neg]
          · intro e
            injection e with e1 _
            subst e1
            exact h1 h2
          · intro h
            rcases hl.1 h with h | ⟨h, _⟩
            · exact h1 h
            · have : y.toNat < x.toNat := h2
              omega
        · have hxy : x = y := UInt8.toNat_inj.1 (by
            have a1 : ¬ x.toNat < y.toNat := h1
            have a2 : ¬ y.toNat < x.toNat := h2
            omega)
          subst hxy
          rw [if_neg h2, ih b]
          simp only [hl, Nat.lt_irrefl, false_or, true_and, List.cons.injEq]
theorem cmpT_is (x y : ByteArray) : Lib.compareBytes x.data.toList y.data.toList = cmpT x y := by
  rw [compareBytes_is]; unfold cmpT
  rw [ByteArray.toList_eq, ByteArray.toList_eq]
  simp only [beq_iff_eq]
set_option maxHeartbeats 1000000 in
theorem bcmp_any (w : World) (a b : ByteArray) :
    Calls Tryd.prog 39 #[.string a, .string b] w fun e w' => e = .returned (.int .i64 (Lib.compareBytes a.data.toList b.data.toList)) ∧ w' = w := by
  go_enter Tryd.func39, Tryd.ntmps39
  go_wp2
  rw [run_callFunc_extern Tryd.func42 (by kernel_rfl) (by kernel_rfl) (by kernel_rfl) (e := Extern.BytealgCompare.compare) (by kernel_rfl), Lib.run_compareString]
  simp only [Result.andThen]
  rw [Oper.upon_value]
  go_wp2
  go_ret
  exact ⟨rfl, rfl⟩
set_option maxHeartbeats 1000000 in
theorem scmp_any (w : World) (a b : ByteArray) :
    Calls Tryd.prog 32 #[.string a, .string b] w fun e w' => e = .returned (.int .i64 (cmpT a b)) ∧ w' = w := by
  go_enter Tryd.func32, Tryd.ntmps32
  go_wp2_with fail
  refine (bcmp_any w a b).mono ?_
  rintro e w1 ⟨rfl, hw⟩
  obtain rfl := hw.symm
  rw [cmpT_is]
  go_wp2
  go_ret
  exact ⟨rfl, rfl⟩
/-- What parts' comparison answers. -/
def cmpP (x y : Pt) : Int := orL [cmpI x.kind y.kind, cmpI x.num y.num, cmpT x.text y.text]
set_option maxHeartbeats 2000000 in
theorem pcmp_any (w : World) (K N : Int) (T : ByteArray) (K' N' : Int) (T' : ByteArray) :
    Calls Tryd.prog 29 #[.agg #[.int .i64 K, .int .i64 N, .string T], .agg #[.int .i64 K', .int .i64 N', .string T']] w fun e w' => e = .returned (.int .i64 (cmpP ⟨K, N, T⟩ ⟨K', N', T'⟩)) ∧ Below w.heap.size w w' := by
  go_enter Tryd.func29, Tryd.ntmps29
  obtain ⟨X, hX⟩ : ∃ X, (w.alloc (.cells #[.int .i64 K, .int .i64 N, .string T] 31)).alloc (.cells #[.int .i64 K', .int .i64 N', .string T'] 31) = X := ⟨_, rfl⟩
  have hb : Below w.heap.size w X := by rw [← hX]; exact ((Below.refl _ _).alloc (Nat.le_refl _) _).alloc (by simp) _
  have r0 : X.heap[w.heap.size]? = some (.cells #[.int .i64 K, .int .i64 N, .string T] 31) := by
    rw [← hX, heap_alloc_old _ _ (by simp)]
    exact heap_alloc_new w _
  have r1 : X.heap[w.heap.size + 1]? = some (.cells #[.int .i64 K', .int .i64 N', .string T'] 31) := by
    have h := heap_alloc_new (w.alloc (.cells #[.int .i64 K, .int .i64 N, .string T] 31)) (.cells #[.int .i64 K', .int .i64 N', .string T'] 31)
    rw [show (w.alloc (.cells #[.int .i64 K, .int .i64 N, .string T] 31)).heap.size = w.heap.size + 1 by simp] at h
    rw [← hX]
    exact h
  have c00 : X.cell? ⟨w.heap.size, 0, none⟩ = some (.int .i64 K) := by rw [cell_of_row _ _ 0 _ _ _ r0]; rfl
  have c01 : X.cell? ⟨w.heap.size, 1, none⟩ = some (.int .i64 N) := by rw [cell_of_row _ _ 1 _ _ _ r0]; rfl
  have c02 : X.cell? ⟨w.heap.size, 2, none⟩ = some (.string T) := by rw [cell_of_row _ _ 2 _ _ _ r0]; rfl
  have c10 : X.cell? ⟨w.heap.size + 1, 0, none⟩ = some (.int .i64 K') := by rw [cell_of_row _ _ 0 _ _ _ r1]; rfl
  have c11 : X.cell? ⟨w.heap.size + 1, 1, none⟩ = some (.int .i64 N') := by rw [cell_of_row _ _ 1 _ _ _ r1]; rfl
  have c12 : X.cell? ⟨w.heap.size + 1, 2, none⟩ = some (.string T') := by rw [cell_of_row _ _ 2 _ _ _ r1]; rfl
  have HX := Lib.hid hX
  clear r0 r1 hX
  have G : Hid (∀ Y, Y = X → Hid (Y = X)) := Lib.hid fun _ h => Lib.hid h
  go_wp2
  rw [HX.out]
  clear HX G
  go_still_tail 15, (by kernel_rfl)
  still_call (cmpi_any _ K K')
  repeat still_step
  still_call (cmpi_any _ N N')
  repeat still_step
  still_call (scmp_any _ T T')
  repeat still_step
  refine wpStill_nil ?_
  change wpList _ _ _ _ _ X.drew
  generalize hw2 : X.drew = w2
  have hb2 : Below w.heap.size w w2 := by rw [← hw2]; exact ⟨hb.os, hb.tape, hb.output, hb.size, hb.block⟩
  clear hw2 hb c00 c01 c02 c10 c11 c12
  obtain ⟨c1, hc1⟩ : ∃ c1, cmpI K K' = c1 := ⟨_, rfl⟩
  obtain ⟨c2, hc2⟩ : ∃ c2, cmpI N N' = c2 := ⟨_, rfl⟩
  obtain ⟨c3, hc3⟩ : ∃ c3, cmpT T T' = c3 := ⟨_, rfl⟩
  rw [hc1, hc2, hc3]
  have HR : Hid (orL [c1, c2, c3] = cmpP ⟨K, N, T⟩ ⟨K', N', T'⟩) := Lib.hid (by rw [← hc1, ← hc2, ← hc3]; rfl)
  clear hc1 hc2 hc3
  go_wp2_with fail
  have hrd := Rd.new (w := w2) (size := 1) (n := 3) #[.int .i64 c1, .int .i64 c2, .int .i64 c3] 3 rfl
  refine (or_any _ _ 3 _ (w2.heap.size + 1) [c1, c2, c3] (by exact hrd) (by decide)).mono ?_
  rintro e w3 ⟨rfl, rfl⟩
  rw [HR.out]
  go_wp2
  go_ret
  exact ⟨rfl, hb2.alloc hb2.size _⟩
end Go.Proofs.YtaphfjomlignhaaDoor
