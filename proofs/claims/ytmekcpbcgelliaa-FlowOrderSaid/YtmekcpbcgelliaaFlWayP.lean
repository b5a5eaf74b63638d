/- Flows: the search, step by step, in plain words. -/
import Derived.Test.YtmekcpbcgelliaaFlP2
namespace Go.Proofs.Ytmekcpbcgelliaa
section
variable {N : Nw} {costs : Bool} {room : List Int} {s nodes : Nat} {π : Nat → Int} {st : WSt}
theorem WInv.weak {done done' : Nat → Nat → Prop} (h : WInv N costs room s nodes π done st) (hd : ∀ u i, done' u i → done u i) : WInv N costs room s nodes π done' st :=
  ⟨h.lb, h.ld, h.lw, h.ds, h.bs, h.pot, h.unm, h.par, h.pth, h.wa01, h.wat, h.tn, h.nd, h.up, fun u j hu hm hut hdn => h.clo u j hu hm hut (hd u j hdn)⟩
theorem way_pop (h : WInv N costs room s nodes π (fun _ _ => True) st) {v : Nat} {T : List Nat} (hT : st.todo = v :: T) :
    v < nodes ∧ gi st.di v < FAR ∧ v ∉ T ∧ WInv N costs room s nodes π (fun u _ => u ≠ v) ⟨st.by_, st.di, st.wa.set v 0, T⟩ := by
  obtain ⟨hv, hmv⟩ := h.tn v (by rw [hT]; simp)
  have hnd := h.nd
  rw [hT] at hnd
  obtain ⟨n1, n2⟩ := List.nodup_cons.1 hnd
  have wv : ∀ x, gi (st.wa.set v 0) x = if x = v then 0 else gi st.wa x := fun x => gi_set (by rw [h.lw]; exact hv) _ _
  refine ⟨hv, hmv, n1, h.lb, h.ld, by show (st.wa.set v 0).length = nodes; rw [List.length_set]; exact h.lw, h.ds, h.bs, h.pot, h.unm, h.par, h.pth, fun x hx => ?_, fun x hx => ?_, fun x hx => h.tn x (by rw [hT]; exact List.mem_cons_of_mem _ hx), n2, h.up, fun u i hu hmu hut hne => h.clo u i hu hmu (by rw [hT]; simp only [List.mem_cons, not_or]; exact ⟨hne, hut⟩) trivial⟩
  · show gi (st.wa.set v 0) x = 0 ∨ gi (st.wa.set v 0) x = 1
    rw [wv]
    split
    · exact .inl rfl
    · exact h.wa01 x hx
  · intro hxs
    show gi (st.wa.set v 0) x = 1 ↔ x ∈ T
    rw [wv]
    by_cases e : x = v
    · rw [if_pos e, e]
      exact ⟨fun h => by omega, fun h => absurd h n1⟩
    · rw [if_neg e]
      refine (h.wat x hx hxs).trans ?_
      rw [hT, List.mem_cons]
      exact ⟨fun h => h.resolve_left e, .inr⟩
theorem WInv.count {done : Nat → Nat → Prop} (h : WInv N costs room s nodes π done st) : st.todo.length ≤ nodes := by
  have := nodup_sub_len (b := List.range nodes) h.nd fun x hx => by simpa using (h.tn x hx).1
  rwa [List.length_range] at this
/-- Numbers laid one by one. -/
def repC (c : Int) (k n : Nat) : List Int := List.replicate k c ++ List.replicate (n - k) 0
theorem repC_len {c : Int} {k n : Nat} (h : k ≤ n) : (repC c k n).length = n := by simp [repC]; omega
theorem repC_zero (c : Int) (n : Nat) : repC c 0 n = List.replicate n 0 := by simp [repC]
theorem repC_full (c : Int) (n : Nat) : repC c n n = List.replicate n c := by simp [repC]
theorem repC_set {c : Int} {k n : Nat} (h : k < n) : (repC c k n).set k c = repC c (k + 1) n := by
  unfold repC
  apply List.ext_getElem
  · simp; omega
  · intro i h1 h2
    rw [List.getElem_set]
    simp only [List.getElem_append, List.length_replicate, List.getElem_replicate]
    split
    · subst_vars
      simp
    · rename_i hne
      by_cases e : i < k
      · rw [dif_pos e, dif_pos (by omega)]
      · rw [dif_neg e, dif_neg (by omega)]
end
end Go.Proofs.Ytmekcpbcgelliaa
