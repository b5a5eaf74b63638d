/- Maps of ints to ints, as the gate's laws keep them. -/
import Derived.Test.YtppjpledjhinbaaDoorJGtGrd
namespace Go.Proofs.YtppjpledjhinbaaDoor
open Go.RowKit Go.Lib
open Go.Maps (Keyed)
def intV (x : Int) : Value := .int .i64 x
def InMap (w : World) (b n : Nat) (f : Int → Int) : Prop := ∃ s, VMap Tryd.prog 3 intV (.int .i64 0) w b n (fun q => .int .i64 (f q)) s
section
variable {w w' : World} {b n : Nat} {f : Int → Int}
theorem InMap.made (w : World) : InMap (w.alloc (.map #[] 0)) w.heap.size 0 (fun _ => 0) := ⟨fun _ => false, VMap.made w⟩
theorem InMap.upd {S : Nat → Prop} (h : InMap w b n f) (hu : Upd S w w') (hs : ¬ S b) : InMap w' b n f := by
  obtain ⟨s, h⟩ := h
  exact ⟨s, h.upd hu hs⟩
theorem InMap.below (h : InMap w b n f) (hb : Below w.heap.size w w') : InMap w' b n f := h.upd (Upd.of_below (S := fun _ => False) hb) id
theorem InMap.not_cells (h : InMap w b n f) {g : Nat} {cs : Array Value} {t : TypeId} {fr : Nat × Nat} (hg : w.heap[g]? = some (.cells cs t fr)) : g ≠ b := by
  rintro rfl
  obtain ⟨s, h⟩ := h
  obtain ⟨_, _, a⟩ := h.isMap
  rw [a] at hg
  cases hg
theorem InMap.lt (h : InMap w b n f) : b < w.heap.size := by obtain ⟨s, h⟩ := h; exact h.lt
theorem intV_inj : ∀ x y : Int, intV x = intV y → x = y := fun _ _ h => by unfold intV at h; injection h
theorem InMap.look (h : InMap w b n f) {q : Int} (hq : -9223372036854775808 ≤ q ∧ q ≤ 9223372036854775807) : (Instr.lookup 66 (.map (some b)) (.int .i64 q) false).run Tryd.prog w = .ok (.int .i64 (f q)) w := by
  obtain ⟨s, h⟩ := h
  exact h.look intKeyed Tryd.underlying66 (zeroI w) (q := q) (intKey hq)
theorem InMap.put (h : InMap w b n f) {q : Int} (hq : -9223372036854775808 ≤ q ∧ q ≤ 9223372036854775807) (hn : n < 1099511627776) (u : Int) :
    ∃ w2, (Instr.mapUpdate 66 (.map (some b)) (.int .i64 q) (.int .i64 u)).run Tryd.prog w = .ok () w2 ∧ InMap w2 b (n + 1) (fun x => if x = q then u else f x) ∧ Upd (fun i => i = b) w w2 := by
  obtain ⟨s, h⟩ := h
  obtain ⟨w2, e, v, hu⟩ := h.put intKeyed intV_inj Tryd.underlying66 (by unfold maxLen; omega) (q := q) (intKey hq) (.int .i64 u)
  refine ⟨w2, e, ⟨fun x => if x = q then true else s x, ?_⟩, hu⟩
  have e2 : (fun x => Value.int .i64 (if x = q then u else f x)) = fun x => if x = q then Value.int .i64 u else .int .i64 (f x) := by
    funext x
    by_cases h : x = q
    · rw [if_pos h, if_pos h]
    · rw [if_neg h, if_neg h]
  rw [e2]
  exact v
end
/-- Is q one of these places? -/
def inF (D : List Nat) (q : Int) : Int := if D.any (fun i => decide ((i : Int) = q)) = true then 1 else 0
theorem inF_nil : inF [] = fun _ => 0 := by funext q; rfl
theorem inF_snoc (D : List Nat) (i : Nat) : inF (D ++ [i]) = fun q => if q = (i : Int) then 1 else inF D q := by
  funext q
  unfold inF
  rw [List.any_append]
  by_cases h : q = (i : Int)
  · subst h; simp
  · rw [if_neg h]
    have : ¬ (i : Int) = q := fun e => h e.symm
    simp [this]
theorem inF_at (D : List Nat) (i : Nat) : inF D (i : Int) = if i ∈ D then 1 else 0 := by
  unfold inF
  have : D.any (fun j => decide ((j : Int) = (i : Int))) = decide (i ∈ D) := by
    rw [Bool.eq_iff_iff]
    simp only [List.any_eq_true, decide_eq_true_eq]
    constructor
    · rintro ⟨j, h, e⟩
      have : j = i := by omega
      exact this ▸ h
    · intro h; exact ⟨i, h, rfl⟩
  rw [this]
  simp
/-- A cell of an own row of ints. -/
theorem ints_cell {w : World} {base n c k : Nat} {A : Option Addr} {D : List Nat} (h : w.ownsRow base 3 1 (.slice A n c) n (D.map fun i : Nat => Value.int .i64 (i : Int))) (hk : k < n) (hD : k < D.length) : ∃ g, A = some ⟨g, 0, none⟩ ∧ g < w.heap.size ∧ w.cell? ⟨g, k, none⟩ = some (.int .i64 (D[k] : Int)) := by
  obtain ⟨g, c2, e, _, hg, _⟩ := own_form h (by omega)
  simp only [Value.slice.injEq] at e
  obtain ⟨rfl, -, -⟩ := e
  obtain ⟨ad, u, e, _, hx, hc⟩ := (Rd.own h).get hk
  injection e with e
  subst e
  rw [add_zero_off] at hc
  refine ⟨g, rfl, hg, ?_⟩
  rw [List.getElem?_map, List.getElem?_eq_getElem hD] at hx
  injection hx with hx
  rw [hc, ← hx]
end Go.Proofs.YtppjpledjhinbaaDoor
