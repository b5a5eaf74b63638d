/- Tables in memory: versions compared, walked. -/
import Derived.Test.YtcfgmkiohmbdlaaEnt
import Derived.Lib.Bytealg
import Derived.Lib.Hide
import Derived.StillTailTactics
namespace Go.Proofs.Ytcfgmkiohmbdlaa
open Go.RowKit
def cmpI (a b : Int) : Int := if a < b then -1 else if b < a then 1 else 0
/-- What 'compare' answers. -/
def cmpE (x y : Ent) : Int := if Lib.compareBytes x.key.data.toList y.key.data.toList = 0 then cmpI y.seq x.seq else Lib.compareBytes x.key.data.toList y.key.data.toList
set_option maxHeartbeats 1000000 in
set_option maxRecDepth 20000 in
theorem bcmp_any (w : World) (a b : ByteArray) :
    Calls Try.prog 117 #[.string a, .string b] w fun e w' => e = .returned (.int .i64 (Lib.compareBytes a.data.toList b.data.toList)) ∧ w' = w := by
  go_enter Try.func117, Try.ntmps117
  go_wp2
  rw [run_callFunc_extern Try.func132 (by kernel_rfl) (by kernel_rfl) (by kernel_rfl) (e := Extern.BytealgCompare.compare) (by kernel_rfl), Lib.run_compareString]
  simp only [Result.andThen]
  rw [Oper.upon_value]
  go_wp2
  go_ret
  exact ⟨rfl, rfl⟩
set_option maxHeartbeats 1000000 in
theorem scmp_any (w : World) (a b : ByteArray) :
    Calls Try.prog 88 #[.string a, .string b] w fun e w' => e = .returned (.int .i64 (Lib.compareBytes a.data.toList b.data.toList)) ∧ w' = w := by
  go_enter Try.func88, Try.ntmps88
  go_wp2_with fail
  refine (bcmp_any w a b).mono ?_
  rintro e w1 ⟨rfl, hw⟩
  obtain rfl := hw.symm
  go_wp2
  go_ret
  exact ⟨rfl, rfl⟩
set_option maxHeartbeats 1000000 in
theorem icmp_any (w : World) (a b : Int) :
    Calls Try.prog 89 #[.int .i64 a, .int .i64 b] w fun e w' => e = .returned (.int .i64 (cmpI a b)) ∧ w' = w := by
  go_enter Try.func89, Try.ntmps89
  go_wp2
  all_goals
    go_ret
    refine ⟨ret_int ?_, rfl⟩
    unfold cmpI
    first
      | (rw [if_pos (by assumption)]; done)
      | (rw [if_neg (by omega), if_pos (by assumption)]; done)
      | (rw [if_neg (by omega), if_neg (by omega)])
set_option maxHeartbeats 1000000 in
theorem ior_any (w : World) (g : Nat) (a b : Int) (h0 : w.cell? ⟨g, 0, none⟩ = some (.int .i64 a)) (h1 : w.cell? ⟨g, 1, none⟩ = some (.int .i64 b)) :
    Calls Try.prog 87 #[.slice (some ⟨g, 0, none⟩) 2 2] w fun e w' => e = .returned (.int .i64 (if a = 0 then b else a)) ∧ w' = w := by
  go_enter Try.func87, Try.ntmps87
  go_wp2
  go_loop [5, 8] (fun _ i => ∃ k : Nat, k ≤ 2 ∧ i = .int .i64 k ∧ (1 ≤ k → a = 0) ∧ (2 ≤ k → b = 0)) (fun _ i => 2 - (intOf i).toNat)
  case atStart => exact ⟨0, Nat.zero_le _, rfl, fun h => absurd h (by decide), fun h => absurd h (by decide)⟩
  case round =>
    obtain ⟨k, hk, rfl, ha, hb⟩ := hrel
    obtain rfl | rfl | rfl : k = 0 ∨ k = 1 ∨ k = 2 := by omega
    · by_cases h : a = 0
      · subst h
        go_wp2
        exact ⟨⟨1, by decide, rfl, fun _ => trivial, fun h => absurd h (by decide)⟩, by decide⟩
      · go_wp2
        go_ret
        exact ⟨rfl, rfl⟩
    · have ha0 : a = 0 := ha (by decide)
      subst ha0
      by_cases h : b = 0
      · subst h
        go_wp2
        exact ⟨⟨2, by decide, rfl, fun _ => trivial, fun _ => trivial⟩, by decide⟩
      · go_wp2
        go_ret
        exact ⟨rfl, rfl⟩
    · have ha0 : a = 0 := ha (by decide)
      have hb0 : b = 0 := hb (by decide)
      subst ha0 hb0
      go_wp2
      go_ret
      exact ⟨rfl, rfl⟩
set_option maxHeartbeats 2000000 in
set_option maxRecDepth 20000 in
theorem cmp_any (w : World) (x y : Ent) :
    Calls Try.prog 58 #[x.agg, y.agg] w fun e w' => e = .returned (.int .i64 (cmpE x y)) ∧ Below w.heap.size w w' := by
  obtain ⟨K, S, D, V⟩ := x
  obtain ⟨K', S', D', V'⟩ := y
  show Calls Try.prog 58 #[.agg #[.string K, .int .i64 S, .bool D, .string V], .agg #[.string K', .int .i64 S', .bool D', .string V']] w _
  go_enter Try.func58, Try.ntmps58
  have hb : Below w.heap.size w ((w.alloc (.cells #[.string K, .int .i64 S, .bool D, .string V] 26)).alloc (.cells #[.string K', .int .i64 S', .bool D', .string V'] 26)) := ((Below.refl _ _).alloc (Nat.le_refl _) _).alloc (by simp) _
  have r0 : ((w.alloc (.cells #[.string K, .int .i64 S, .bool D, .string V] 26)).alloc (.cells #[.string K', .int .i64 S', .bool D', .string V'] 26)).heap[w.heap.size]? = some (.cells #[.string K, .int .i64 S, .bool D, .string V] 26) := by
    rw [heap_alloc_old _ _ (by simp)]
    exact heap_alloc_new w _
  have r1 : ((w.alloc (.cells #[.string K, .int .i64 S, .bool D, .string V] 26)).alloc (.cells #[.string K', .int .i64 S', .bool D', .string V'] 26)).heap[w.heap.size + 1]? = some (.cells #[.string K', .int .i64 S', .bool D', .string V'] 26) := by
    have h := heap_alloc_new (w.alloc (.cells #[.string K, .int .i64 S, .bool D, .string V] 26)) (.cells #[.string K', .int .i64 S', .bool D', .string V'] 26)
    rw [show (w.alloc (.cells #[.string K, .int .i64 S, .bool D, .string V] 26)).heap.size = w.heap.size + 1 by simp] at h
    exact h
  have c00 : ((w.alloc (.cells #[.string K, .int .i64 S, .bool D, .string V] 26)).alloc (.cells #[.string K', .int .i64 S', .bool D', .string V'] 26)).cell? ⟨w.heap.size, 0, none⟩ = some (.string K) := by rw [cell_of_row _ _ 0 _ _ _ r0]; rfl
  have c01 : ((w.alloc (.cells #[.string K, .int .i64 S, .bool D, .string V] 26)).alloc (.cells #[.string K', .int .i64 S', .bool D', .string V'] 26)).cell? ⟨w.heap.size, 1, none⟩ = some (.int .i64 S) := by rw [cell_of_row _ _ 1 _ _ _ r0]; rfl
  have c10 : ((w.alloc (.cells #[.string K, .int .i64 S, .bool D, .string V] 26)).alloc (.cells #[.string K', .int .i64 S', .bool D', .string V'] 26)).cell? ⟨w.heap.size + 1, 0, none⟩ = some (.string K') := by rw [cell_of_row _ _ 0 _ _ _ r1]; rfl
  have c11 : ((w.alloc (.cells #[.string K, .int .i64 S, .bool D, .string V] 26)).alloc (.cells #[.string K', .int .i64 S', .bool D', .string V'] 26)).cell? ⟨w.heap.size + 1, 1, none⟩ = some (.int .i64 S') := by rw [cell_of_row _ _ 1 _ _ _ r1]; rfl
  clear r0 r1
  go_wp2
  generalize (w.alloc (.cells #[.string K, .int .i64 S, .bool D, .string V] 26)).alloc (.cells #[.string K', .int .i64 S', .bool D', .string V'] 26) = W at hb c00 c01 c10 c11 ⊢
  go_still_tail 10, (by kernel_rfl)
  still_call (scmp_any _ K K')
  repeat still_step
  still_call (icmp_any _ S' S)
  repeat still_step
  refine wpStill_nil ?_
  change wpList _ _ _ _ _ W.drew
  generalize hw2 : W.drew = w2
  have hb2 : Below w.heap.size w w2 := by rw [← hw2]; exact ⟨hb.os, hb.tape, hb.output, hb.size, hb.block⟩
  clear hw2 hb c00 c01 c10 c11
  obtain ⟨c1, hc1⟩ : ∃ c1, c1 = Lib.compareBytes K.data.toList K'.data.toList := ⟨_, rfl⟩
  obtain ⟨c2, hc2⟩ : ∃ c2, c2 = cmpI S' S := ⟨_, rfl⟩
  rw [← hc1, ← hc2]
  have HC1 := Lib.hid hc1
  have HC2 := Lib.hid hc2
  clear hc1 hc2
  go_wp2_with fail
  have hg := heap_alloc_new w2 (.cells #[.int .i64 c1, .int .i64 c2] 3)
  refine (ior_any _ w2.heap.size c1 c2 (by rw [cell_of_row _ _ 0 _ _ _ hg]; rfl) (by rw [cell_of_row _ _ 1 _ _ _ hg]; rfl)).mono ?_
  rintro e w3 ⟨rfl, rfl⟩
  have hres : (if c1 = 0 then c2 else c1) = cmpE ⟨K, S, D, V⟩ ⟨K', S', D', V'⟩ := by rw [HC1.out, HC2.out]; rfl
  rw [hres]
  go_wp2
  go_ret
  exact ⟨rfl, hb2.alloc hb2.size _⟩
end Go.Proofs.Ytcfgmkiohmbdlaa
