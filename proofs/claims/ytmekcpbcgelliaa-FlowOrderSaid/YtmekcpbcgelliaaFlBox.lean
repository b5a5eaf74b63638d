/- Flows: lives, walked; the laws' network in its box. -/
import Derived.Test.YtmekcpbcgelliaaFlRight
import Derived.Test.YtmekcpbcgelliaaStep
namespace Go.Proofs.Ytmekcpbcgelliaa
open Go.RowKit
theorem arc_info : (Try.prog.info? 28).map (fun i => (i.zero, i.size, i.bytes)) = some (some (.agg #[.int .i64 0, .int .i64 0, .int .i64 0, .int .i64 0]), 4, 32) := by kernel_rfl
/-- The example's network. -/
def exN : List Ar := [(0, 1, 2, 0), (0, 2, 1, 0), (1, 3, 1, 0), (2, 3, 2, 0), (1, 2, 1, 0)]
theorem exN_good : GoodN 4 0 3 exN := by
  refine ⟨by decide, by decide, by decide, by decide, by decide, ?_, by decide⟩
  intro a ha
  simp only [exN, List.mem_cons, List.not_mem_nil, or_false] at ha
  rcases ha with rfl | rfl | rfl | rfl | rfl <;> (unfold okA; decide)
theorem exN_max : MaxIs (nwOf exN) 4 0 3 3 := by
  refine ⟨⟨fun i => [2, 1, 1, 2, 1].getD i 0, ⟨?_, ?_, ?_⟩, by decide⟩, fun v => decide (v = 0), by decide, by decide, by decide⟩
  · intro i hi
    have : i = 0 ∨ i = 1 ∨ i = 2 ∨ i = 3 ∨ i = 4 := by have h : i < 5 := hi; omega
    rcases this with rfl | rfl | rfl | rfl | rfl <;> decide
  · intro i hi
    have : i = 0 ∨ i = 1 ∨ i = 2 ∨ i = 3 ∨ i = 4 := by have h : i < 5 := hi; omega
    rcases this with rfl | rfl | rfl | rfl | rfl <;> decide
  · intro v hv h0 h3
    have : v = 1 ∨ v = 2 := by omega
    rcases this with rfl | rfl <;> decide
set_option maxHeartbeats 4000000 in
theorem flives_any (w : World) : Calls Try.prog 9 #[] w fun e w' => e = .returned (.bool true) ∧ Below w.heap.size w w' := by
  go_enter Try.func9, Try.ntmps9
  go_wp2_with fail
  have hrd : Rd (w.alloc (.cells #[.int .i64 0, .int .i64 1, .int .i64 2, .int .i64 0, .int .i64 0, .int .i64 2, .int .i64 1, .int .i64 0, .int .i64 1, .int .i64 3, .int .i64 1, .int .i64 0, .int .i64 2, .int .i64 3, .int .i64 2, .int .i64 0, .int .i64 1, .int .i64 2, .int .i64 1, .int .i64 0] 28)) (w.alloc (.cells #[.int .i64 0, .int .i64 1, .int .i64 2, .int .i64 0, .int .i64 0, .int .i64 2, .int .i64 1, .int .i64 0, .int .i64 1, .int .i64 3, .int .i64 1, .int .i64 0, .int .i64 2, .int .i64 3, .int .i64 2, .int .i64 0, .int .i64 1, .int .i64 2, .int .i64 1, .int .i64 0] 28)).heap.size 4 (some ⟨w.heap.size, 0, none⟩) 5 (arv exN) := by
    have h := Rd.new (w := w) (size := 4) (n := 5) #[.int .i64 0, .int .i64 1, .int .i64 2, .int .i64 0, .int .i64 0, .int .i64 2, .int .i64 1, .int .i64 0, .int .i64 1, .int .i64 3, .int .i64 1, .int .i64 0, .int .i64 2, .int .i64 3, .int .i64 2, .int .i64 0, .int .i64 1, .int .i64 2, .int .i64 1, .int .i64 0] 28 rfl
    have e : (w.alloc (.cells #[.int .i64 0, .int .i64 1, .int .i64 2, .int .i64 0, .int .i64 0, .int .i64 2, .int .i64 1, .int .i64 0, .int .i64 1, .int .i64 3, .int .i64 1, .int .i64 0, .int .i64 2, .int .i64 3, .int .i64 2, .int .i64 0, .int .i64 1, .int .i64 2, .int .i64 1, .int .i64 0] 28)).heap.size = w.heap.size + 1 := by simp
    rw [e]
    exact h
  have hb0 : Below w.heap.size w (w.alloc (.cells #[.int .i64 0, .int .i64 1, .int .i64 2, .int .i64 0, .int .i64 0, .int .i64 2, .int .i64 1, .int .i64 0, .int .i64 1, .int .i64 3, .int .i64 1, .int .i64 0, .int .i64 2, .int .i64 3, .int .i64 2, .int .i64 0, .int .i64 1, .int .i64 2, .int .i64 1, .int .i64 0] 28)) := (Below.refl w.heap.size w).alloc (Nat.le_refl _) _
  generalize w.alloc (.cells #[.int .i64 0, .int .i64 1, .int .i64 2, .int .i64 0, .int .i64 0, .int .i64 2, .int .i64 1, .int .i64 0, .int .i64 1, .int .i64 3, .int .i64 1, .int .i64 0, .int .i64 2, .int .i64 3, .int .i64 2, .int .i64 0, .int .i64 1, .int .i64 2, .int .i64 1, .int .i64 0] 28) = w0 at hrd hb0 ⊢
  refine (value_any w0 4 0 3 (some ⟨w.heap.size, 0, none⟩) 5 5 exN hrd).mono ?_
  rintro e w1 ⟨v, er, rfl, hb, h⟩
  have hb1 := hb0.trans (hb.mono hb0.size)
  rcases h with ⟨_, rfl, hm, _⟩ | ⟨h, _⟩
  · have hok := exN_good.ok'
    obtain rfl : v = 3 := hm.uniq hok.ends hok.sn hok.tn hok.st exN_max
    clear hm hrd hb hb0 hok
    go_wp2
    go_ret
    exact ⟨rfl, hb1⟩
  · exact absurd exN_good h
/-- The network in its box. -/
structure NBox (w0 w : World) (N S T : Int) (A : Option Addr) (k c : Nat) : Prop where
  blk : w.heap[w0.heap.size]? = some (.cells #[.int .i64 N, .int .i64 S, .int .i64 T, .slice A k c] 24 (0, 0))
  bel : Below w0.heap.size w0 w
section
variable {w0 w w' : World} {N S T : Int} {A : Option Addr} {k c : Nat}
theorem NBox.made (w : World) (N S T : Int) (A : Option Addr) (k c : Nat) : NBox w (w.alloc (.cells #[.int .i64 N, .int .i64 S, .int .i64 T, .slice A k c] 24)) N S T A k c :=
  ⟨heap_alloc_new w _, (Below.refl w.heap.size w).alloc (Nat.le_refl _) _⟩
theorem NBox.lt (h : NBox w0 w N S T A k c) : w0.heap.size < w.heap.size := (Array.getElem?_eq_some_iff.1 h.blk).1
theorem NBox.c0 (h : NBox w0 w N S T A k c) : w.cell? ⟨w0.heap.size, 0, none⟩ = some (.int .i64 N) := by rw [cell_of_row w _ 0 _ _ _ h.blk]; rfl
theorem NBox.c1 (h : NBox w0 w N S T A k c) : w.cell? ⟨w0.heap.size, 1, none⟩ = some (.int .i64 S) := by rw [cell_of_row w _ 1 _ _ _ h.blk]; rfl
theorem NBox.c2 (h : NBox w0 w N S T A k c) : w.cell? ⟨w0.heap.size, 2, none⟩ = some (.int .i64 T) := by rw [cell_of_row w _ 2 _ _ _ h.blk]; rfl
theorem NBox.c3 (h : NBox w0 w N S T A k c) : w.cell? ⟨w0.heap.size, 3, none⟩ = some (.slice A k c) := by rw [cell_of_row w _ 3 _ _ _ h.blk]; rfl
theorem NBox.upd {Z : Nat → Prop} (h : NBox w0 w N S T A k c) (hu : Upd Z w w') (hs : ∀ i, i ≤ w0.heap.size → ¬ Z i) : NBox w0 w' N S T A k c :=
  ⟨(hu.block _ h.lt (hs _ (Nat.le_refl _))).trans h.blk, h.bel.trans (hu.below (fun i hi => hs i (by omega)) h.bel.size)⟩
theorem NBox.below (h : NBox w0 w N S T A k c) (hb : Below w.heap.size w w') : NBox w0 w' N S T A k c := h.upd (Z := fun _ => False) (Upd.of_below hb) (fun _ _ h => h)
theorem NBox.alloc (h : NBox w0 w N S T A k c) (o : Obj) : NBox w0 (w.alloc o) N S T A k c := h.upd (Z := fun _ => False) ((Upd.refl _ _).alloc o) (fun _ _ h => h)
theorem NBox.rd {l : List Ar} (h : NBox w0 w N S T A k c) (hr : Rd w0 w0.heap.size 4 A k (arv l)) : Rd w w.heap.size 4 A k (arv l) := (hr.below h.bel).mono h.bel.size
end
end Go.Proofs.Ytmekcpbcgelliaa
