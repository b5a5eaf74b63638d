/- Matchings: rows of numbers, and slices.Repeat of one number, walked. -/
import Derived.Test.YtkhboengcbgooaaRow
import Derived.Test.YtkhboengcbgooaaMtTryP
import Derived.Laws.CopyOwn
import Derived.Deep.RegionLaw
import Derived.Deep.CutBlock
import Derived.Deep.DeepCutAuto
namespace Go.Proofs.Ytkhboengcbgooaa
open Go.RowKit
/-- Block g is just this row of numbers. -/
def Ints (w : World) (g : Nat) (l : List Int) : Prop := w.heap[g]? = some (.cells (l.map (Value.int .i64)).toArray 3 (0, 0))
section
variable {w w' : World} {g : Nat} {l : List Int}
theorem Ints.lt (h : Ints w g l) : g < w.heap.size := (Array.getElem?_eq_some_iff.1 h).1
theorem Ints.cell (h : Ints w g l) {k : Nat} (hk : k < l.length) : w.cell? ⟨g, k, none⟩ = some (.int .i64 (gi l k)) := by
  rw [cell_of_row w g k _ _ _ h, gi_get hk]
  simp [hk]
theorem Ints.free (h : Ints w g l) (k : Nat) : w.frozen? ⟨g, k, none⟩ = false := frozen_of_row w g k _ _ h
theorem Ints.set (h : Ints w g l) (k : Nat) (v : Int) : Ints (w.setCell ⟨g, k, none⟩ (.int .i64 v)) g (l.set k v) := by
  have := heap_setCell_same w g k _ _ (.int .i64 v) h
  unfold Ints
  rw [this]
  congr 2
  apply Array.ext'
  simp [List.map_set]
theorem Ints.upd {S : Nat → Prop} (h : Ints w g l) (hu : Upd S w w') (hs : ¬ S g) : Ints w' g l := (hu.block g h.lt hs).trans h
theorem Ints.below {B : Nat} (h : Ints w g l) (hb : Below B w w') (hg : g < B) : Ints w' g l := (hb.block g hg).trans h
theorem Ints.rd (h : Ints w g l) {B : Nat} (hB : g < B) : Rd w B 1 (some ⟨g, 0, none⟩) l.length (l.map (Value.int .i64)) :=
  ⟨by simp, fun _ => ⟨_, rfl, hB, fun j u hu => by
    rw [add_zero_off, cell_of_row w g j _ _ _ h]
    simpa using hu⟩⟩
end
theorem int_info : (Try.prog.info? 3).map (fun i => (i.zero, i.size, i.bytes)) = some (some (.int .i64 0), 1, 8) := by kernel_rfl
/-- 'make([]int, n)'. -/
theorem mkints (w : World) (n : Nat) (hn : n ≤ 1048576) : (Instr.makeSlice 35 (.int .i64 n) (.int .i64 n)).run Try.prog w = .ok (.slice (some ⟨w.heap.size, 0, none⟩) n n) (w.alloc (.cells (Array.replicate n (Value.int .i64 0)) 3)) := by
  obtain ⟨i0, hi0, hz0, hz1, hz2⟩ := info_parts int_info
  have h := run_makeSlice (P := Try.prog) w 35 3 i0 (.int .i64 0) Try.underlying35 hi0 hz0 .i64 .i64 n n (by omega) (by omega) (by rw [hz1]; omega) (by rw [hz2]; omega) (by omega)
  rw [hz1, Int.toNat_natCast, Nat.mul_one] at h
  have e : (madeCells (Value.int IntKind.i64 0).cells n).toList = _ := toList_madeCells_one _ n
  have e2 : madeCells (Value.int IntKind.i64 0).cells n = Array.replicate n (Value.int .i64 0) := Array.ext' (by rw [e]; simp)
  rw [h, e2]
theorem made_ints (w : World) (n : Nat) : Ints (w.alloc (.cells (Array.replicate n (Value.int .i64 0)) 3)) w.heap.size (List.replicate n 0) := by
  have := heap_alloc_new w (.cells (Array.replicate n (Value.int .i64 0)) 3)
  unfold Ints
  rw [this]
  congr 2
  apply Array.ext'
  simp
set_option maxHeartbeats 1000000 in
theorem mul64_one (w : World) (n : Nat) (hn : n ≤ 200) :
    Calls Try.prog 30 #[.int .u64 1, .int .u64 n] w fun e w' => e = .returned (.tuple #[.int .u64 0, .int .u64 n]) ∧ w' = w := by
  have hA : bits BinOp.and IntKind.u64 1 4294967295 = 1 := by decide
  have hB : bits BinOp.and IntKind.u64 (n : Int) 4294967295 = (n : Int) := by
    have := bits_and_u64_nat n 4294967295 (by omega) (by decide)
    rw [show ((4294967295 : Nat) : Int) = 4294967295 from rfl] at this
    rw [this, nat_mask32]; omega
  have hD : (n : Int) / 4294967296 = 0 := by omega
  have hW : IntKind.u64.wrap (n : Int) = (n : Int) := by rw [IntKind.wrap_u64]; omega
  have hC : bits BinOp.and IntKind.u64 0 4294967295 = 0 := by decide
  have hZ : IntKind.u64.wrap 0 = 0 := by decide
  go_enter Try.func30, Try.ntmps30
  go_wp2
  go_ret2
  refine ⟨ret_two ?_ ?_, rfl⟩
  · simp [hA, hB, hD, hW, hC, hZ]
  · simp [hA, hB, hD, hW, hC, hZ]
theorem mul_one' (w : World) (n : Nat) (hn : n ≤ 200) :
    Calls Try.prog 28 #[.int .u64 1, .int .u64 n] w fun e w' => e = .returned (.tuple #[.int .u64 0, .int .u64 n]) ∧ w' = w := by
  go_enter Try.func28, Try.ntmps28
  go_wp2_with fail
  refine (mul64_one _ n hn).mono ?_
  rintro e w1 ⟨rfl, rfl⟩
  go_wp2
  go_ret2
  exact ⟨rfl, rfl⟩
/-- k numbers are laid, n - k are still to come. -/
def repN (k n : Nat) : List Int := List.replicate k (-1) ++ List.replicate (n - k) 0
theorem repN_len {k n : Nat} (h : k ≤ n) : (repN k n).length = n := by simp [repN]; omega
theorem repN_zero (n : Nat) : repN 0 n = List.replicate n 0 := by simp [repN]
theorem repN_full (n : Nat) : repN n n = List.replicate n (-1) := by simp [repN]
theorem splice_rep (k j n : Nat) (h : k + j ≤ n) : splice ((repN k n).map (Value.int .i64)) k ((List.replicate j (-1 : Int)).map (Value.int .i64)) = (repN (k + j) n).map (Value.int .i64) := by
  unfold splice repN
  simp only [List.map_append, List.map_replicate, List.length_replicate]
  rw [List.take_left' (by simp), ← List.append_assoc, List.replicate_append_replicate, List.drop_append, List.length_replicate]
  simp only [List.drop_replicate]
  rw [show k - (k + j) = 0 by omega, List.replicate_zero, List.nil_append, show n - k - (k + j - k) = n - (k + j) by omega]
theorem copy_rep_run (w : World) (ty : TypeId) (g k n c m cc : Nat) (ad : Addr) (hk : k ≤ n) (hr : Ints w g (repN k n)) (hsrc : ∀ j, j < m → w.cell? (ad.add j) = some (.int .i64 (-1))) (B : Nat) (w0 : World) (hb : Below B w0 w) (hBg : B ≤ g) :
    ∃ w', (Builtin.copy_ #[35, 35] ty #[.slice (some ⟨g, k, none⟩) (n - k) c, .slice (some ad) m cc]).run Try.prog w = .ok (.int .i64 ((min m (n - k) : Nat) : Int)) w' ∧ Ints w' g (repN (k + min m (n - k)) n) ∧ Below B w0 w' := by
  have hl : (repN k n).length = n := repN_len hk
  have h := run_copy_row (P := Try.prog) w 35 35 ty 3 g k (n - k) c ad m cc ((repN k n).map (Value.int .i64)).toArray 3 ((List.replicate (min m (n - k)) (-1 : Int)).map (Value.int .i64)) Try.underlying35 (by kernel_rfl) hr (by simp)
    (fun j v hv => by
      simp only [List.map_replicate, List.getElem?_replicate] at hv
      split at hv
      · injection hv with hv
        subst hv
        exact hsrc j (by omega)
      · cases hv) (by simp [hl]; omega) (fun v hv => by obtain ⟨x, _, rfl⟩ := List.mem_map.1 hv; rfl)
  have hs := splice_rep k (min m (n - k)) n (by omega)
  unfold splice at hs
  simp only [List.append_assoc] at h
  rw [hs] at h
  refine ⟨_, ?_, setRow_heap w g _ _ _ _ hr, below_setRow hb hBg _⟩
  rw [h]
  simp [goInt]
theorem wpList_copy_rep {ops : Array Oper} {rest : List Oper} {o : Oper} {a : Act} {w : World} {Q : Exit → Act → World → Prop} (hgd : o.guard = none) (d s : Operand)
    (ho : o.op = .call { callee := .builtin .copy, args := #[d, s], argTypes := #[35, 35] }) (g k n c m cc : Nat) (ad : Addr) (hd : a.eval d = .slice (some ⟨g, k, none⟩) (n - k) c) (hs : a.eval s = .slice (some ad) m cc)
    (hk : k ≤ n) (hr : Ints w g (repN k n)) (hsrc : ∀ j, j < m → w.cell? (ad.add j) = some (.int .i64 (-1))) (B : Nat) (w0 : World) (hb : Below B w0 w) (hBg : B ≤ g)
    (h : ∀ w', Ints w' g (repN (k + min m (n - k)) n) → Below B w0 w' → wpList Try.prog ops Q rest (a.put o.dst (.int .i64 ((min m (n - k) : Nat) : Int))) w') : wpList Try.prog ops Q (o :: rest) a w := by
  refine wpList_plain hgd fun K hK => ?_
  obtain ⟨w', hrun, h1, h2⟩ := copy_rep_run w o.type g k n c m cc ad hk hr hsrc B w0 hb hBg
  unfold Oper.wp
  simp [execOp, ho, resolve, invoke, builtin, hd, hs, hrun, Result.andThen]
  exact hK _ _ (h w' h1 h2)
theorem step_copy_rep {ops : Array Oper} {o : Oper} {a : Act} {w : World} {K : Act → World → Prop} {Q : Exit → Act → World → Prop} {E : Prop} (hgd : o.guard = none) (d s : Operand)
    (ho : o.op = .call { callee := .builtin .copy, args := #[d, s], argTypes := #[35, 35] }) (g k n c m cc : Nat) (ad : Addr) (hd : a.eval d = .slice (some ⟨g, k, none⟩) (n - k) c) (hs : a.eval s = .slice (some ad) m cc)
    (hk : k ≤ n) (hr : Ints w g (repN k n)) (hsrc : ∀ j, j < m → w.cell? (ad.add j) = some (.int .i64 (-1))) (B : Nat) (w0 : World) (hb : Below B w0 w) (hBg : B ≤ g)
    (h : ∀ w', Ints w' g (repN (k + min m (n - k)) n) → Below B w0 w' → K (a.put o.dst (.int .i64 ((min m (n - k) : Nat) : Int))) w') :
    if Region.wanted o (yielded ops a.tmps) = true then Oper.wp Try.prog o a w K Q else E := by
  have hw : Region.wanted o (yielded ops a.tmps) = true := by simp [Region.wanted, hgd]
  rw [if_pos hw]
  obtain ⟨w', hrun, h1, h2⟩ := copy_rep_run w o.type g k n c m cc ad hk hr hsrc B w0 hb hBg
  unfold Oper.wp
  simp [execOp, ho, resolve, invoke, builtin, hd, hs, hrun, Result.andThen]
  exact h w' h1 h2
set_option maxHeartbeats 4000000 in
set_option maxRecDepth 20000 in
theorem repeat_any (w : World) (g n : Nat) (hg : w.cell? ⟨g, 0, none⟩ = some (.int .i64 (-1))) (hgl : g < w.heap.size) (hn : n ≤ 200) :
    Calls Try.prog 27 #[.slice (some ⟨g, 0, none⟩) 1 1, .int .i64 n] w fun e w' => e = .returned (.slice (some ⟨w.heap.size, 0, none⟩) n n) ∧ Ints w' w.heap.size (List.replicate n (-1)) ∧ Below w.heap.size w w' := by
  have b1 : decide ((n : Int) < 0) = false := decide_eq_false (by omega)
  have b2 : IntKind.u64.wrap (n : Int) = (n : Int) := by rw [IntKind.wrap_u64]; omega
  have b3 : IntKind.i64.wrap (n : Int) = (n : Int) := IntWalk.i64_in _ (by omega)
  have b4 : decide ((n : Int) > 9223372036854775807) = false := decide_eq_false (by omega)
  go_enter Try.func27, Try.ntmps27
  go_wp2_with fail
  refine (mul_one' _ n hn).mono ?_
  rintro e w1 ⟨rfl, rfl⟩
  have hmk := fun w => mkints w n (by omega)
  have hw := made_ints w1 n
  have hbel := (Below.refl w1.heap.size w1).alloc (Nat.le_refl _) (.cells (Array.replicate n (Value.int .i64 0)) 3)
  have hc := (hbel.cell (p := ⟨g, 0, none⟩) hgl).trans hg
  rw [← repN_zero] at hw
  have HS : Hid (∀ j, j < 1 → (w1.alloc (.cells (Array.replicate n (Value.int .i64 0)) 3)).cell? ((⟨g, 0, none⟩ : Addr).add j) = some (.int .i64 (-1))) := Lib.hid fun j hj => by
    obtain rfl : j = 0 := by omega
    exact hc
  clear hc hg
  go_wp2_with ((refine wpList_copy_rep rfl (.tmp 31) (.tmp 32) rfl w1.heap.size 0 n n 1 1 ⟨g, 0, none⟩ rfl rfl (Nat.zero_le _) hw HS.out w1.heap.size w1 hbel (Nat.le_refl _) ?_))
  intro w2 hg2 hb2
  obtain ⟨k0, hk0⟩ : ∃ k0, k0 = min 1 n := ⟨_, rfl⟩
  rw [← hk0] at hg2 ⊢
  have HK0 := Lib.hid hk0
  clear hw hbel HS hmk hk0
  go_wp2
  go_loopw [8] (fun i wx => ∃ k : Nat, k ≤ n ∧ (0 < n → 0 < k) ∧ i = .int .i64 k ∧ Ints wx w1.heap.size (repN k n) ∧ Below w1.heap.size w1 wx) (fun i _ => n - (intOf i).toNat)
  case atStart => exact ⟨k0, by have := HK0.out; omega, by have := HK0.out; omega, rfl, hg2, hb2⟩
  case round =>
    obtain ⟨k, hk, hk0, rfl, hi, hb⟩ := hrel
    by_cases hlt : k < n
    · have i1 : (k : Int) < (n : Int) := by omega
      have b5 : decide ((k : Int) < (n : Int)) = true := decide_eq_true i1
      have hs : Hid (∀ j, j < k → wr.drew.cell? ((⟨w1.heap.size, 0, none⟩ : Addr).add j) = some (.int .i64 (-1))) := Lib.hid fun j hj => by
        rw [add_zero_off]
        have := hi.cell (k := j) (by rw [repN_len hk]; omega)
        rw [gi_get (by rw [repN_len hk]; omega)] at this
        unfold repN at this
        rw [List.getElem_append_left (by simpa using hj), List.getElem_replicate] at this
        exact this
      have hi' : Ints wr.drew w1.heap.size (repN k n) := hi
      have hb' : Below w1.heap.size w1 wr.drew := ⟨hb.os, hb.tape, hb.output, hb.size, hb.block⟩
      have b6 : (0 : Int) ≤ (k : Int) := by omega
      have b7 : (k : Int) ≤ (n : Int) := by omega
      have B8 : Hid (IntKind.i64.wrap ((k : Int) + ((min k (n - k) : Nat) : Int)) = ((k + min k (n - k) : Nat) : Int)) := Lib.hid (by rw [IntWalk.i64_in _ (by omega)]; omega)
      clear hi hb
      go_wp2
      go_region_law (refine step_copy_rep rfl (.tmp 41) (.tmp 44) rfl w1.heap.size k n (n - k) k n ⟨w1.heap.size, 0, none⟩ (by simp [Act.eval, Act.put]; omega) (by simp [Act.eval, Act.put]) hk hi' hs.out w1.heap.size w1 hb' (Nat.le_refl _) ?_; intro w4 hg4 hb4)
      all_goals go_wp2
      all_goals
        go_roundw
        case rel => exact ⟨k + min k (n - k), by omega, by omega, B8.out, hg4⟩
        case measure => rw [B8.out]; simp only [intOf]; omega
    · obtain rfl : k = n := by omega
      have b5 : decide ((k : Int) < (k : Int)) = false := decide_eq_false (by omega)
      rw [repN_full] at hi
      go_wp2
      go_ret
      exact ⟨rfl, hi, hb⟩
theorem none_any (w : World) (n : Nat) (hn : n ≤ 200) :
    Calls Try.prog 23 #[.int .i64 n] w fun e w' => ∃ g, e = .returned (.slice (some ⟨g, 0, none⟩) n n) ∧ w.heap.size ≤ g ∧ Ints w' g (List.replicate n (-1)) ∧ Below w.heap.size w w' := by
  go_enter Try.func23, Try.ntmps23
  have hb0 := (Below.refl w.heap.size w).alloc (Nat.le_refl _) (.cells #[.int .i64 (-1)] 3)
  have hz0 : w.heap.size < (w.alloc (.cells #[.int .i64 (-1)] 3)).heap.size := by simp
  have hc0 : (w.alloc (.cells #[.int .i64 (-1)] 3)).cell? ⟨w.heap.size, 0, none⟩ = some (.int .i64 (-1)) := by rw [cell_of_row _ w.heap.size 0 _ _ _ (heap_alloc_new w _)]; rfl
  go_wp2_with fail
  refine (repeat_any _ w.heap.size n hc0 hz0 hn).mono ?_
  rintro e w1 ⟨rfl, h1, h2⟩
  go_wp2
  go_ret
  exact ⟨(w.alloc (.cells #[.int .i64 (-1)] 3)).heap.size, by simp, Nat.le_of_lt hz0, h1, hb0.trans (h2.mono (Nat.le_of_lt hz0))⟩
end Go.Proofs.Ytkhboengcbgooaa