/- Matchings: reached, walked. -/
import Derived.Test.YtkhboengcbgooaaMtReachW
import Derived.Deep.RegionHeld3
namespace Go.Proofs.Ytkhboengcbgooaa
open Go.RowKit
theorem Ints.rep {w : World} {g n : Nat} (h : w.heap[g]? = some (.cells (Array.replicate n (Value.int .i64 0)) 3 (0, 0))) : Ints w g (List.replicate n 0) := by
  unfold Ints
  rw [h]
  congr 2
  apply Array.ext'
  simp
/-- Four new blocks. -/
theorem at4 (w : World) (a b c d : Obj) : ((((w.alloc a).alloc b).alloc c).alloc d).drew.heap[w.heap.size]? = some a ∧ ((((w.alloc a).alloc b).alloc c).alloc d).drew.heap[w.heap.size + 1]? = some b ∧
    ((((w.alloc a).alloc b).alloc c).alloc d).drew.heap[w.heap.size + 1 + 1]? = some c ∧ ((((w.alloc a).alloc b).alloc c).alloc d).drew.heap[w.heap.size + 1 + 1 + 1]? = some d ∧ Upd (fun _ => False) w ((((w.alloc a).alloc b).alloc c).alloc d).drew := by
  have e1 : (w.alloc a).heap.size = w.heap.size + 1 := by simp
  have e2 : ((w.alloc a).alloc b).heap.size = w.heap.size + 1 + 1 := by simp
  have e3 : (((w.alloc a).alloc b).alloc c).heap.size = w.heap.size + 1 + 1 + 1 := by simp
  refine ⟨?_, ?_, ?_, ?_, (((((Upd.refl _ w).alloc a).alloc b).alloc c).alloc d).drewN 1⟩
  · show ((((w.alloc a).alloc b).alloc c).alloc d).heap[w.heap.size]? = some a
    rw [Below.heap_alloc _ _ _ (by omega), Below.heap_alloc _ _ _ (by omega), Below.heap_alloc _ _ _ (by omega)]
    exact heap_alloc_new w a
  · show ((((w.alloc a).alloc b).alloc c).alloc d).heap[w.heap.size + 1]? = some b
    rw [Below.heap_alloc _ _ _ (by omega), Below.heap_alloc _ _ _ (by omega), ← e1]
    exact heap_alloc_new _ b
  · show ((((w.alloc a).alloc b).alloc c).alloc d).heap[w.heap.size + 1 + 1]? = some c
    rw [Below.heap_alloc _ _ _ (by omega), ← e2]
    exact heap_alloc_new _ c
  · show ((((w.alloc a).alloc b).alloc c).alloc d).heap[w.heap.size + 1 + 1 + 1]? = some d
    rw [← e3]
    exact heap_alloc_new _ d
theorem store_fresh {P : Program} (w : World) (t : TypeId) (u v : Value) (hv : v.oneCell' = true) : (store ⟨w.heap.size, 0, none⟩ v).run P (w.alloc (.cells #[u] t)) = .ok () (w.alloc (.cells #[v] t)) := by
  have hb := heap_alloc_new w (.cells #[u] t)
  rw [run_store _ _ _ _ _ hv, cell_of_row _ w.heap.size 0 _ _ _ hb]
  simp only [frozen_of_row _ w.heap.size 0 _ _ hb]
  rw [World.setCell_alloc_new]
  rfl
def R4 (wX wc : World) (n m C4 C5 RA RB : Nat) : Prop :=
  wc.heap[C4]? = some (.cells #[.slice (some ⟨RA, 0, none⟩) n n] 35 (0, 0)) ∧ wc.heap[C5]? = some (.cells #[.slice (some ⟨RB, 0, none⟩) m m] 35 (0, 0)) ∧
  wc.heap[RA]? = some (.cells (Array.replicate n (Value.int .i64 0)) 3 (0, 0)) ∧ wc.heap[RB]? = some (.cells (Array.replicate m (Value.int .i64 0)) 3 (0, 0)) ∧
  (RA ≠ RB ∧ RA ≠ C4 ∧ RA ≠ C5 ∧ RB ≠ C4 ∧ RB ≠ C5 ∧ C4 ≠ C5) ∧ (wX.heap.size ≤ RA ∧ wX.heap.size ≤ RB ∧ wX.heap.size ≤ C4 ∧ wX.heap.size ≤ C5) ∧ Upd (fun _ => False) wX wc
theorem R4.of {wX wc : World} {n m C4 C5 RA RB : Nat} (h1 : wc.heap[C4]? = some (.cells #[.slice (some ⟨RA, 0, none⟩) n n] 35 (0, 0))) (h2 : wc.heap[C5]? = some (.cells #[.slice (some ⟨RB, 0, none⟩) m m] 35 (0, 0)))
    (h3 : wc.heap[RA]? = some (.cells (Array.replicate n (Value.int .i64 0)) 3 (0, 0))) (h4 : wc.heap[RB]? = some (.cells (Array.replicate m (Value.int .i64 0)) 3 (0, 0)))
    (h5 : RA ≠ RB ∧ RA ≠ C4 ∧ RA ≠ C5 ∧ RB ≠ C4 ∧ RB ≠ C5 ∧ C4 ≠ C5) (h6 : wX.heap.size ≤ RA ∧ wX.heap.size ≤ RB ∧ wX.heap.size ≤ C4 ∧ wX.heap.size ≤ C5) (h7 : Upd (fun _ => False) wX wc) : R4 wX wc n m C4 C5 RA RB := ⟨h1, h2, h3, h4, h5, h6, h7⟩
set_option maxHeartbeats 16000000 in
set_option maxRecDepth 20000 in
theorem reached_any (w : World) (B P G N O W D n m : Nat) (l : List Eg) (s : PSt) (hn : n ≤ 200) (hm : m ≤ 200) (hA : PairA w B P G N O W (.slice (some ⟨D, 0, none⟩) n n) n m (rowsOf n l) s.of s.wi) (hS : SolveOut (natE l) n m s) (hall : ∀ e ∈ l, inE n m e) (hk : l.length ≤ 4000) :
    Calls Try.prog 21 #[.pointer (some ⟨P, 0, none⟩)] w fun e w' => ∃ RA RB xa bs, e = .returned (.tuple #[.slice (some ⟨RA, 0, none⟩) n n, .slice (some ⟨RB, 0, none⟩) m m]) ∧ Ints w' RA xa ∧ Ints w' RB bs ∧ ReachOut (natE l) n m s.of s.wi xa bs ∧ Below w.heap.size w w' := by
  have HLENS : Hid (∀ a, (nearOf (rowsOf n l) a).length ≤ 1048576) := Lib.hid fun a => by have := near_len n a l.length l rfl; omega
  have hbE := mem_near n m l.length l rfl hall
  obtain ⟨r, hr, hro⟩ := reach_out hbE (natE_ok hall) hS
  have HRO := Lib.hid hro
  have HR := Lib.hid hr
  have HFREE := Lib.hid hS.free
  have HZ1 : Hid (∀ a, (a < n ∧ 0 ≤ gi s.di a) → a < n) := Lib.hid fun a h => h.1
  have HZ2 : Hid (∀ a b, b ∈ nearOf (rowsOf n l) a → (a < n ∧ 0 ≤ gi s.di a) → 0 ≤ gi s.wi b ∧ ((gi s.wi b).toNat < n ∧ 0 ≤ gi s.di (gi s.wi b).toNat)) := Lib.hid fun a b hab hz => by
    obtain ⟨h1, h2⟩ := hS.clo _ ((hbE a b).1 hab) hz.2
    exact ⟨h1, (hS.pairs.bwd b (natE_ok hall _ ((hbE a b).1 hab)).2 h1).1, h2⟩
  clear hS hall hk hbE hr hro
  have hmk := fun w => mkints w n (by omega)
  have hmk2 := fun w => mkints w m (by omega)
  go_enter Try.func21, Try.ntmps21
  go_upto_region 1 with (fail)
  have u0 : Upd (fun k => w.heap.size < k) w (w.alloc (.cells #[.pointer (some ⟨P, 0, none⟩)] 44)) := (Upd.refl _ w).alloc _
  have b0 : (w.alloc (.cells #[.pointer (some ⟨P, 0, none⟩)] 44)).heap[w.heap.size]? = some (.cells #[.pointer (some ⟨P, 0, none⟩)] 44 (0, 0)) := heap_alloc_new w _
  have z0 : (w.alloc (.cells #[.pointer (some ⟨P, 0, none⟩)] 44)).heap.size = w.heap.size + 1 := by simp
  have hbX := (Below.refl w.heap.size w).alloc (Nat.le_refl _) (.cells #[.pointer (some ⟨P, 0, none⟩)] 44)
  generalize w.alloc (.cells #[.pointer (some ⟨P, 0, none⟩)] 44) = wX at u0 b0 z0 hbX ⊢
  have HA := Lib.hid hA
  have hplt := hA.plt
  have holt := hA.iof.lt
  have hwlt := hA.iwi.lt
  have hBlt := hA.Blt
  have hAX := hA.upd u0 (fun k hk => by omega) (by omega) (by omega) (by omega)
  have MK : Hid (∀ V, Upd (fun k => w.heap.size < k) wX V → V.cell? ⟨w.heap.size, 0, none⟩ = some (.pointer (some ⟨P, 0, none⟩)) ∧ V.cell? ⟨P, 0, none⟩ = some (.pointer (some ⟨G, 0, none⟩)) ∧ V.cell? ⟨G, 1, none⟩ = some (.int .i64 n) ∧ V.cell? ⟨G, 2, none⟩ = some (.int .i64 m)) := Lib.hid fun V hV => by
    have hg := hA.gB
    have hA2 := hAX.upd hV (fun k hk => by omega) (by omega) (by omega) (by omega)
    refine ⟨?_, hA2.c0, hA2.g.c1, hA2.g.c2⟩
    rw [cell_of_row V _ 0 _ _ _ ((hV.block _ (by omega) (by omega)).trans b0)]
    rfl
  have Z0 := Lib.hid z0
  have HAX := Lib.hid hAX
  have HB0 := Lib.hid b0
  have HBX := Lib.hid hbX
  clear hA u0 b0 z0 hAX hbX
  go_cut [4, 5] (fun v4 v5 wc => ∃ C4 C5 RA RB, v4 = .pointer (some ⟨C4, 0, none⟩) ∧ v5 = .pointer (some ⟨C5, 0, none⟩) ∧ Hid (R4 wX wc n m C4 C5 RA RB))
  case first =>
    go_region_held3 (fun V => V.cell? ⟨w.heap.size, 0, none⟩ = some (.pointer (some ⟨P, 0, none⟩)) ∧ V.cell? ⟨P, 0, none⟩ = some (.pointer (some ⟨G, 0, none⟩)) ∧ V.cell? ⟨G, 1, none⟩ = some (.int .i64 n) ∧ V.cell? ⟨G, 2, none⟩ = some (.int .i64 m))
      (exact MK.out _ (by repeat first | exact Upd.refl _ _ | refine Upd.drewN ?_ 1 | refine Upd.alloc ?_ _ | refine Upd.setCell ?_ _ (by have := Z0.out; simp; omega) _))
      (fail)
    all_goals clear hmk hmk2
    all_goals go_wp2
    all_goals go_meet
    all_goals (case rel =>
      first
        | exact ⟨_, _, wX.heap.size, wX.heap.size + 1, rfl, rfl, Lib.hid (R4.of (by first | exact (at4 wX _ _ _ _).1 | exact (at4 wX _ _ _ _).2.1 | exact (at4 wX _ _ _ _).2.2.1 | exact (at4 wX _ _ _ _).2.2.2.1) (by first | exact (at4 wX _ _ _ _).1 | exact (at4 wX _ _ _ _).2.1 | exact (at4 wX _ _ _ _).2.2.1 | exact (at4 wX _ _ _ _).2.2.2.1) (by first | exact (at4 wX _ _ _ _).1 | exact (at4 wX _ _ _ _).2.1 | exact (at4 wX _ _ _ _).2.2.1 | exact (at4 wX _ _ _ _).2.2.2.1) (by first | exact (at4 wX _ _ _ _).1 | exact (at4 wX _ _ _ _).2.1 | exact (at4 wX _ _ _ _).2.2.1 | exact (at4 wX _ _ _ _).2.2.2.1) (by omega) (by omega) (at4 wX _ _ _ _).2.2.2.2)⟩
        | exact ⟨_, _, wX.heap.size, wX.heap.size + 1 + 1, rfl, rfl, Lib.hid (R4.of (by first | exact (at4 wX _ _ _ _).1 | exact (at4 wX _ _ _ _).2.1 | exact (at4 wX _ _ _ _).2.2.1 | exact (at4 wX _ _ _ _).2.2.2.1) (by first | exact (at4 wX _ _ _ _).1 | exact (at4 wX _ _ _ _).2.1 | exact (at4 wX _ _ _ _).2.2.1 | exact (at4 wX _ _ _ _).2.2.2.1) (by first | exact (at4 wX _ _ _ _).1 | exact (at4 wX _ _ _ _).2.1 | exact (at4 wX _ _ _ _).2.2.1 | exact (at4 wX _ _ _ _).2.2.2.1) (by first | exact (at4 wX _ _ _ _).1 | exact (at4 wX _ _ _ _).2.1 | exact (at4 wX _ _ _ _).2.2.1 | exact (at4 wX _ _ _ _).2.2.2.1) (by omega) (by omega) (at4 wX _ _ _ _).2.2.2.2)⟩
        | exact ⟨_, _, wX.heap.size, wX.heap.size + 1 + 1 + 1, rfl, rfl, Lib.hid (R4.of (by first | exact (at4 wX _ _ _ _).1 | exact (at4 wX _ _ _ _).2.1 | exact (at4 wX _ _ _ _).2.2.1 | exact (at4 wX _ _ _ _).2.2.2.1) (by first | exact (at4 wX _ _ _ _).1 | exact (at4 wX _ _ _ _).2.1 | exact (at4 wX _ _ _ _).2.2.1 | exact (at4 wX _ _ _ _).2.2.2.1) (by first | exact (at4 wX _ _ _ _).1 | exact (at4 wX _ _ _ _).2.1 | exact (at4 wX _ _ _ _).2.2.1 | exact (at4 wX _ _ _ _).2.2.2.1) (by first | exact (at4 wX _ _ _ _).1 | exact (at4 wX _ _ _ _).2.1 | exact (at4 wX _ _ _ _).2.2.1 | exact (at4 wX _ _ _ _).2.2.2.1) (by omega) (by omega) (at4 wX _ _ _ _).2.2.2.2)⟩
        | exact ⟨_, _, wX.heap.size + 1, wX.heap.size, rfl, rfl, Lib.hid (R4.of (by first | exact (at4 wX _ _ _ _).1 | exact (at4 wX _ _ _ _).2.1 | exact (at4 wX _ _ _ _).2.2.1 | exact (at4 wX _ _ _ _).2.2.2.1) (by first | exact (at4 wX _ _ _ _).1 | exact (at4 wX _ _ _ _).2.1 | exact (at4 wX _ _ _ _).2.2.1 | exact (at4 wX _ _ _ _).2.2.2.1) (by first | exact (at4 wX _ _ _ _).1 | exact (at4 wX _ _ _ _).2.1 | exact (at4 wX _ _ _ _).2.2.1 | exact (at4 wX _ _ _ _).2.2.2.1) (by first | exact (at4 wX _ _ _ _).1 | exact (at4 wX _ _ _ _).2.1 | exact (at4 wX _ _ _ _).2.2.1 | exact (at4 wX _ _ _ _).2.2.2.1) (by omega) (by omega) (at4 wX _ _ _ _).2.2.2.2)⟩
        | exact ⟨_, _, wX.heap.size + 1, wX.heap.size + 1 + 1, rfl, rfl, Lib.hid (R4.of (by first | exact (at4 wX _ _ _ _).1 | exact (at4 wX _ _ _ _).2.1 | exact (at4 wX _ _ _ _).2.2.1 | exact (at4 wX _ _ _ _).2.2.2.1) (by first | exact (at4 wX _ _ _ _).1 | exact (at4 wX _ _ _ _).2.1 | exact (at4 wX _ _ _ _).2.2.1 | exact (at4 wX _ _ _ _).2.2.2.1) (by first | exact (at4 wX _ _ _ _).1 | exact (at4 wX _ _ _ _).2.1 | exact (at4 wX _ _ _ _).2.2.1 | exact (at4 wX _ _ _ _).2.2.2.1) (by first | exact (at4 wX _ _ _ _).1 | exact (at4 wX _ _ _ _).2.1 | exact (at4 wX _ _ _ _).2.2.1 | exact (at4 wX _ _ _ _).2.2.2.1) (by omega) (by omega) (at4 wX _ _ _ _).2.2.2.2)⟩
        | exact ⟨_, _, wX.heap.size + 1, wX.heap.size + 1 + 1 + 1, rfl, rfl, Lib.hid (R4.of (by first | exact (at4 wX _ _ _ _).1 | exact (at4 wX _ _ _ _).2.1 | exact (at4 wX _ _ _ _).2.2.1 | exact (at4 wX _ _ _ _).2.2.2.1) (by first | exact (at4 wX _ _ _ _).1 | exact (at4 wX _ _ _ _).2.1 | exact (at4 wX _ _ _ _).2.2.1 | exact (at4 wX _ _ _ _).2.2.2.1) (by first | exact (at4 wX _ _ _ _).1 | exact (at4 wX _ _ _ _).2.1 | exact (at4 wX _ _ _ _).2.2.1 | exact (at4 wX _ _ _ _).2.2.2.1) (by first | exact (at4 wX _ _ _ _).1 | exact (at4 wX _ _ _ _).2.1 | exact (at4 wX _ _ _ _).2.2.1 | exact (at4 wX _ _ _ _).2.2.2.1) (by omega) (by omega) (at4 wX _ _ _ _).2.2.2.2)⟩
        | exact ⟨_, _, wX.heap.size + 1 + 1, wX.heap.size, rfl, rfl, Lib.hid (R4.of (by first | exact (at4 wX _ _ _ _).1 | exact (at4 wX _ _ _ _).2.1 | exact (at4 wX _ _ _ _).2.2.1 | exact (at4 wX _ _ _ _).2.2.2.1) (by first | exact (at4 wX _ _ _ _).1 | exact (at4 wX _ _ _ _).2.1 | exact (at4 wX _ _ _ _).2.2.1 | exact (at4 wX _ _ _ _).2.2.2.1) (by first | exact (at4 wX _ _ _ _).1 | exact (at4 wX _ _ _ _).2.1 | exact (at4 wX _ _ _ _).2.2.1 | exact (at4 wX _ _ _ _).2.2.2.1) (by first | exact (at4 wX _ _ _ _).1 | exact (at4 wX _ _ _ _).2.1 | exact (at4 wX _ _ _ _).2.2.1 | exact (at4 wX _ _ _ _).2.2.2.1) (by omega) (by omega) (at4 wX _ _ _ _).2.2.2.2)⟩
        | exact ⟨_, _, wX.heap.size + 1 + 1, wX.heap.size + 1, rfl, rfl, Lib.hid (R4.of (by first | exact (at4 wX _ _ _ _).1 | exact (at4 wX _ _ _ _).2.1 | exact (at4 wX _ _ _ _).2.2.1 | exact (at4 wX _ _ _ _).2.2.2.1) (by first | exact (at4 wX _ _ _ _).1 | exact (at4 wX _ _ _ _).2.1 | exact (at4 wX _ _ _ _).2.2.1 | exact (at4 wX _ _ _ _).2.2.2.1) (by first | exact (at4 wX _ _ _ _).1 | exact (at4 wX _ _ _ _).2.1 | exact (at4 wX _ _ _ _).2.2.1 | exact (at4 wX _ _ _ _).2.2.2.1) (by first | exact (at4 wX _ _ _ _).1 | exact (at4 wX _ _ _ _).2.1 | exact (at4 wX _ _ _ _).2.2.1 | exact (at4 wX _ _ _ _).2.2.2.1) (by omega) (by omega) (at4 wX _ _ _ _).2.2.2.2)⟩
        | exact ⟨_, _, wX.heap.size + 1 + 1, wX.heap.size + 1 + 1 + 1, rfl, rfl, Lib.hid (R4.of (by first | exact (at4 wX _ _ _ _).1 | exact (at4 wX _ _ _ _).2.1 | exact (at4 wX _ _ _ _).2.2.1 | exact (at4 wX _ _ _ _).2.2.2.1) (by first | exact (at4 wX _ _ _ _).1 | exact (at4 wX _ _ _ _).2.1 | exact (at4 wX _ _ _ _).2.2.1 | exact (at4 wX _ _ _ _).2.2.2.1) (by first | exact (at4 wX _ _ _ _).1 | exact (at4 wX _ _ _ _).2.1 | exact (at4 wX _ _ _ _).2.2.1 | exact (at4 wX _ _ _ _).2.2.2.1) (by first | exact (at4 wX _ _ _ _).1 | exact (at4 wX _ _ _ _).2.1 | exact (at4 wX _ _ _ _).2.2.1 | exact (at4 wX _ _ _ _).2.2.2.1) (by omega) (by omega) (at4 wX _ _ _ _).2.2.2.2)⟩
        | exact ⟨_, _, wX.heap.size + 1 + 1 + 1, wX.heap.size, rfl, rfl, Lib.hid (R4.of (by first | exact (at4 wX _ _ _ _).1 | exact (at4 wX _ _ _ _).2.1 | exact (at4 wX _ _ _ _).2.2.1 | exact (at4 wX _ _ _ _).2.2.2.1) (by first | exact (at4 wX _ _ _ _).1 | exact (at4 wX _ _ _ _).2.1 | exact (at4 wX _ _ _ _).2.2.1 | exact (at4 wX _ _ _ _).2.2.2.1) (by first | exact (at4 wX _ _ _ _).1 | exact (at4 wX _ _ _ _).2.1 | exact (at4 wX _ _ _ _).2.2.1 | exact (at4 wX _ _ _ _).2.2.2.1) (by first | exact (at4 wX _ _ _ _).1 | exact (at4 wX _ _ _ _).2.1 | exact (at4 wX _ _ _ _).2.2.1 | exact (at4 wX _ _ _ _).2.2.2.1) (by omega) (by omega) (at4 wX _ _ _ _).2.2.2.2)⟩
        | exact ⟨_, _, wX.heap.size + 1 + 1 + 1, wX.heap.size + 1, rfl, rfl, Lib.hid (R4.of (by first | exact (at4 wX _ _ _ _).1 | exact (at4 wX _ _ _ _).2.1 | exact (at4 wX _ _ _ _).2.2.1 | exact (at4 wX _ _ _ _).2.2.2.1) (by first | exact (at4 wX _ _ _ _).1 | exact (at4 wX _ _ _ _).2.1 | exact (at4 wX _ _ _ _).2.2.1 | exact (at4 wX _ _ _ _).2.2.2.1) (by first | exact (at4 wX _ _ _ _).1 | exact (at4 wX _ _ _ _).2.1 | exact (at4 wX _ _ _ _).2.2.1 | exact (at4 wX _ _ _ _).2.2.2.1) (by first | exact (at4 wX _ _ _ _).1 | exact (at4 wX _ _ _ _).2.1 | exact (at4 wX _ _ _ _).2.2.1 | exact (at4 wX _ _ _ _).2.2.2.1) (by omega) (by omega) (at4 wX _ _ _ _).2.2.2.2)⟩
        | exact ⟨_, _, wX.heap.size + 1 + 1 + 1, wX.heap.size + 1 + 1, rfl, rfl, Lib.hid (R4.of (by first | exact (at4 wX _ _ _ _).1 | exact (at4 wX _ _ _ _).2.1 | exact (at4 wX _ _ _ _).2.2.1 | exact (at4 wX _ _ _ _).2.2.2.1) (by first | exact (at4 wX _ _ _ _).1 | exact (at4 wX _ _ _ _).2.1 | exact (at4 wX _ _ _ _).2.2.1 | exact (at4 wX _ _ _ _).2.2.2.1) (by first | exact (at4 wX _ _ _ _).1 | exact (at4 wX _ _ _ _).2.1 | exact (at4 wX _ _ _ _).2.2.1 | exact (at4 wX _ _ _ _).2.2.2.1) (by first | exact (at4 wX _ _ _ _).1 | exact (at4 wX _ _ _ _).2.1 | exact (at4 wX _ _ _ _).2.2.1 | exact (at4 wX _ _ _ _).2.2.2.1) (by omega) (by omega) (at4 wX _ _ _ _).2.2.2.2)⟩
        | fail)
  case rest =>
    obtain ⟨C4, C5, RA, RB, rfl, rfl, hR4⟩ := hcut
    obtain ⟨r1, r2, r3, r4, ⟨d1, d2, d3, d4, d5, d6⟩, ⟨z1, z2, z3, z4⟩, uc⟩ := hR4.out
    have hz := Z0.out
    have lt : ∀ {k : Nat} {o : Obj}, wc.heap[k]? = some o → k < wc.heap.size := fun h => (Array.getElem?_eq_some_iff.1 h).1
    have l1 := lt r1
    have l2 := lt r2
    have l3 := lt r3
    have l4 := lt r4
    have hc0 := HBX.out.trans (uc.below (fun _ _ h => h) HBX.out.size)
    have bz := (uc.block w.heap.size (by omega) (fun h => h)).trans HB0.out
    have lz := lt bz
    have hAc := HAX.out.upd uc (fun _ _ h => h) (fun h => h) (fun h => h) (fun h => h)
    have hF : RAt (wc.alloc (.cells #[.func (.func 26) #[] #[.pointer (some ⟨C4, 0, none⟩), .pointer (some ⟨w.heap.size, 0, none⟩), .pointer (some ⟨C5, 0, none⟩), .pointer (some ⟨wc.heap.size, 0, none⟩)]] 66)) B P G N O W (.slice (some ⟨D, 0, none⟩) n n) n m (rowsOf n l) s.of s.wi w.heap.size C4 C5 wc.heap.size RA RB ⟨List.replicate n 0, List.replicate m 0⟩ :=
      ⟨hAc.upd ((Upd.refl (fun _ => False) wc).alloc _) (fun _ _ h => h) (fun h => h) (fun h => h) (fun h => h), (Below.heap_alloc wc _ _ lz).trans bz, (Below.heap_alloc wc _ _ l1).trans r1, (Below.heap_alloc wc _ _ l2).trans r2, heap_alloc_new wc _, ((Ints.rep r3).upd ((Upd.refl (fun _ => False) wc).alloc _) (fun h => h)), ((Ints.rep r4).upd ((Upd.refl (fun _ => False) wc).alloc _) (fun h => h)), by simp, by simp,
        ⟨d1, by omega, d2, d3, by omega, by omega, by omega, by omega, by omega⟩, ⟨by omega, d4, d5, by omega, by omega, by omega, by omega, by omega⟩⟩
    have hbF : Below w.heap.size w (wc.alloc (.cells #[.func (.func 26) #[] #[.pointer (some ⟨C4, 0, none⟩), .pointer (some ⟨w.heap.size, 0, none⟩), .pointer (some ⟨C5, 0, none⟩), .pointer (some ⟨wc.heap.size, 0, none⟩)]] 66)) := hc0.alloc hc0.size _
    have hmf : ∀ (fn : Fn) (first cap : Array Value) (w : World), (Instr.makeFunc fn first cap).run Try.prog w = .ok (.func fn first cap) w := fun _ _ _ _ => rfl
    have hst := store_fresh (P := Try.prog) wc 66 .nilFunc (.func (.func 26) #[] #[.pointer (some ⟨C4, 0, none⟩), .pointer (some ⟨w.heap.size, 0, none⟩), .pointer (some ⟨C5, 0, none⟩), .pointer (some ⟨wc.heap.size, 0, none⟩)]) rfl
    have cz : wc.cell? ⟨w.heap.size, 0, none⟩ = some (.pointer (some ⟨P, 0, none⟩)) := by rw [cell_of_row wc _ 0 _ _ _ bz]; rfl
    have cp := hF.pa.c1
    have cz2 := hF.cz
    have hRA : w.heap.size ≤ RA := by omega
    have hRB : w.heap.size ≤ RB := by omega
    have HF := Lib.hid hF
    have HBF := Lib.hid hbF
    clear hmk hmk2 hR4 r1 r2 r3 r4 d1 d2 d3 d4 d5 d6 z1 z2 z3 z4 uc l1 l2 l3 l4 lt hc0 bz hAc hF hbF HBX HB0 HAX MK hz
    go_wp2
    generalize wc.alloc (.cells #[.func (.func 26) #[] #[.pointer (some ⟨C4, 0, none⟩), .pointer (some ⟨w.heap.size, 0, none⟩), .pointer (some ⟨C5, 0, none⟩), .pointer (some ⟨wc.heap.size, 0, none⟩)]] 66) = w2 at HF HBF cp cz2 ⊢
    generalize wc.heap.size = F at HF ⊢
    clear hmf hst cz cp cz2
    go_loopw [31] (fun i wx => ∃ (j : Nat) (st : RSt), j ≤ n ∧ i = .int .i64 j ∧ Hid (reachAll (nearOf (rowsOf n l)) s.wi s.of (m + 1) ((List.range n).drop j) st = some r) ∧ RAt wx B P G N O W (.slice (some ⟨D, 0, none⟩) n n) n m (rowsOf n l) s.of s.wi w.heap.size C4 C5 F RA RB st ∧ Below w.heap.size w wx) (fun i _ => n - (intOf i).toNat)
    case atStart => exact ⟨0, _, Nat.zero_le _, rfl, Lib.hid (by rw [List.drop_zero]; exact HR.out), HF.out, HBF.out⟩
    case round =>
      clear HF HBF
      obtain ⟨j, st, hj, rfl, hg, hRt, hb⟩ := hrel
      by_cases hlt : j < n
      · have hg' := hg.out
        rw [drop_range hlt, reachAll] at hg'
        have o0 := hRt.pa.iof.cell (k := j) (by rw [hRt.pa.lo]; exact hlt)
        have cf := hRt.cf
        obtain ⟨x, hx⟩ : ∃ x, gi s.of j = x := ⟨_, rfl⟩
        have hfr := HFREE.out j hlt
        rw [hx] at o0 hg' hfr
        by_cases hneg : x < 0
        · rw [if_pos hneg] at hg'
          obtain ⟨s2, hst, hnext⟩ : ∃ s2, reachF (nearOf (rowsOf n l)) s.wi (m + 1) j st = some s2 ∧ reachAll (nearOf (rowsOf n l)) s.wi s.of (m + 1) ((List.range n).drop (j + 1)) s2 = some r := by
            cases hc : reachF (nearOf (rowsOf n l)) s.wi (m + 1) j st with
            | none => rw [hc] at hg'; cases hg'
            | some s2 => rw [hc] at hg'; exact ⟨s2, rfl, hg'⟩
          have HC := Lib.hid (walk_any B P G N O W n m (.slice (some ⟨D, 0, none⟩) n n) (rowsOf n l) s.of s.wi w.heap.size C4 C5 F RA RB hn hm (fun a => a < n ∧ 0 ≤ gi s.di a) HZ1.out HZ2.out HLENS.out (m + 1) wr j st s2 hst ⟨hlt, hfr hneg⟩ hRt)
          have b1 : decide (x < 0) = true := decide_eq_true hneg
          have HN := Lib.hid hnext
          clear hg hg' hst hnext hRt hx hfr
          go_wp2_with fail
          refine HC.out.mono ?_
          rintro e w4 ⟨rfl, hR4, hu4⟩
          have hb4 : Below w.heap.size w w4 := hb.trans (hu4.below (fun k hk e => by rcases e with e | e <;> omega) hb.size)
          clear hu4 HC hb cf o0
          go_wp2
          go_roundw
          case rel => exact ⟨j + 1, s2, by omega, by go_num, HN, hR4, hb4⟩
          case measure => simp [intOf]; omega
        · rw [if_neg hneg] at hg'
          have b1 : decide (x < 0) = false := decide_eq_false hneg
          have HN := Lib.hid hg'
          clear hg hg' hx hfr
          go_wp2
          go_roundw
          case rel => exact ⟨j + 1, st, by omega, by go_num, HN, hRt, hb⟩
          case measure => simp [intOf]; omega
      · have hjn : j = n := by omega
        have hg' := hg.out
        rw [hjn, List.drop_of_length_le (by simp), reachAll] at hg'
        injection hg' with hg'
        subst hg'
        have ca := hRt.ca
        have cb := hRt.cb
        have hia := hRt.ia
        have hib := hRt.ib
        clear hg hRt
        go_wp2
        go_quiet (fail)
        go_wp2
        go_ret2
        exact ⟨RA, RB, st.xa, st.bs, rfl, hia, hib, HRO.out, ⟨hb.os, hb.tape, hb.output, hb.size, hb.block⟩⟩
end Go.Proofs.Ytkhboengcbgooaa
