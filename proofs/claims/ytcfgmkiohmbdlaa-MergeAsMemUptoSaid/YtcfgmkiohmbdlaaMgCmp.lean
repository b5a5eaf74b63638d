/- Merging versions: merge.compare, walked. -/
import Derived.Test.YtcfgmkiohmbdlaaMmCmp
namespace Go.Proofs.Ytcfgmkiohmbdlaa
open Go.RowKit
set_option maxHeartbeats 2000000 in
set_option maxRecDepth 20000 in
theorem mcmp_any (w : World) (x y : Ent) :
    Calls Try.prog 48 #[x.agg, y.agg] w fun e w' => e = .returned (.int .i64 (cmpE x y)) ∧ Below w.heap.size w w' := by
  obtain ⟨K, S, D, V⟩ := x
  obtain ⟨K', S', D', V'⟩ := y
  show Calls Try.prog 48 #[.agg #[.string K, .int .i64 S, .bool D, .string V], .agg #[.string K', .int .i64 S', .bool D', .string V']] w _
  go_enter Try.func48, Try.ntmps48
  have hb : Below w.heap.size w ((w.alloc (.cells #[.string K, .int .i64 S, .bool D, .string V] 26)).alloc (.cells #[.string K', .int .i64 S', .bool D', .string V'] 26)) := ((Below.refl _ _).alloc (Nat.le_refl _) _).alloc (by simp) _
  have r0 : ((w.alloc (.cells #[.string K, .int .i64 S, .bool D, .string V] 26)).alloc (.cells #[.string K', .int .i64 S', .bool D', .string V'] 26)).heap[w.heap.size]? = some (.cells #[.string K, .int .i64 S, .bool D, .string V] 26) := by
    rw [heap_alloc_old _ _ (by simp)]
    exact heap_alloc_new w _
  have r1 : ((w.alloc (.cells #[.string K, .int .i64 S, .bool D, .string V] 26)).alloc (.cells #[.string K', .int .i64 S', .bool D', .string V'] 26)).heap[w.heap.size + 1]? = some (.cells #[.string K', .int .i64 S', .bool D', .string V'] 26) := by
    have h := heap_alloc_new (w.alloc (.cells #[.string K, .int .i64 S, .bool D, .string V] 26)) (.cells #[.string K', .int .i64 S', .bool D', .string V'] 26)
    rw [show (w.alloc (.cells #[.string K, .int .i64 S, .bool D, .string V] 26)).heap.size = w.heap.size + 1 by simp] at h
    exact h
  have c00 : ((w.alloc (.cells #[.string K, .int .i64 S, .bool D, .string V] 26)).alloc (.cells #[.string K', .int .i64 S', .bool D', .string V'] 26)).cell? ⟨w.heap.size, 0, none⟩ = some (.string K) := by rw [cell_of_row _ _ 0 _ _ _ r0]; rfl
  have c01 : ((w.alloc (.cells #[.string K, .int .i64 S, .bool D, .string V] 26)).alloc (.cells #[.string K', .int .i64 S', .bool D', .string V'] 26)).cell? ⟨w.heap.size, 1, none⟩ = some (.int .i64 S) := by rw [cell_of_row _ _ 1 _ _ _ r0]; rfl
  have c10 : ((w.alloc (.cells #[.string K, .int .i64 S, .bool D, .string V] 26)).alloc (.cells #[.string K', .int .i64 S', .bool D', .string V'] 26)).cell? ⟨w.heap.size + 1, 0, none⟩ = some (.string K') := by rw [cell_of_row _ _ 0 _ _ _ r1]; rfl
  have c11 : ((w.alloc (.cells #[.string K, .int .i64 S, .bool D, .string V] 26)).alloc (.cells #[.string K', .int .i64 S', .bool D', .string V'] 26)).cell? ⟨w.heap.size + 1, 1, none⟩ = some (.int .i64 S') := by rw [cell_of_row _ _ 1 _ _ _ r1]; rfl
  clear r0 r1
  go_wp2
  generalize (w.alloc (.cells #[.string K, .int .i64 S, .bool D, .string V] 26)).alloc (.cells #[.string K', .int .i64 S', .bool D', .string V'] 26) = W at hb c00 c01 c10 c11 ⊢
  go_still_tail 10, (by kernel_rfl)
  still_call (scmp_any _ K K')
  repeat still_step
  still_call (icmp_any _ S' S)
  repeat still_step
  refine wpStill_nil ?_
  change wpList _ _ _ _ _ W.drew
  generalize hw2 : W.drew = w2
  have hb2 : Below w.heap.size w w2 := by rw [← hw2]; exact ⟨hb.os, hb.tape, hb.output, hb.size, hb.block⟩
  clear hw2 hb c00 c01 c10 c11
  obtain ⟨c1, hc1⟩ : ∃ c1, c1 = Lib.compareBytes K.data.toList K'.data.toList := ⟨_, rfl⟩
  obtain ⟨c2, hc2⟩ : ∃ c2, c2 = cmpI S' S := ⟨_, rfl⟩
  rw [← hc1, ← hc2]
  have HC1 := Lib.hid hc1
  have HC2 := Lib.hid hc2
  clear hc1 hc2
  go_wp2_with fail
  have hg := heap_alloc_new w2 (.cells #[.int .i64 c1, .int .i64 c2] 3)
  refine (ior_any _ w2.heap.size c1 c2 (by rw [cell_of_row _ _ 0 _ _ _ hg]; rfl) (by rw [cell_of_row _ _ 1 _ _ _ hg]; rfl)).mono ?_
  rintro e w3 ⟨rfl, rfl⟩
  have hres : (if c1 = 0 then c2 else c1) = cmpE ⟨K, S, D, V⟩ ⟨K', S', D', V'⟩ := by rw [HC1.out, HC2.out]; rfl
  rw [hres]
  go_wp2
  go_ret
  exact ⟨rfl, hb2.alloc hb2.size _⟩
end Go.Proofs.Ytcfgmkiohmbdlaa
