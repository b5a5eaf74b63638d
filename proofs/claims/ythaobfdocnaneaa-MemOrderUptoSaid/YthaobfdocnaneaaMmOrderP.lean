/- Tables in memory: the order in which versions come is not seen (plain). -/
import Derived.Test.YthaobfdocnaneaaMmPlays
namespace Go.Proofs.Ythaobfdocnaneaa
open Go.RowKit
def hasE (m : List Ent) (x : Ent) : Bool := m.any fun y => decide (y.key = x.key) && decide (y.seq = x.seq)
theorem hasE_iff (m : List Ent) (x : Ent) : hasE m x = true ↔ ∃ y ∈ m, y.key = x.key ∧ y.seq = x.seq := by
  unfold hasE
  rw [List.any_eq_true]
  simp only [Bool.and_eq_true, decide_eq_true_eq]
theorem hasE_snoc (m : List Ent) (q x : Ent) : hasE (m ++ [q]) x = (hasE m x || (decide (q.key = x.key) && decide (q.seq = x.seq))) := by
  unfold hasE
  rw [List.any_append]
  simp
def putO (m : List Ent) (x : Ent) : List Ent := if hasE m x = true then m else m ++ [x]
def onceE (l : List Ent) : List Ent := l.foldl putO []
theorem onceE_snoc (l : List Ent) (x : Ent) : onceE (l ++ [x]) = putO (onceE l) x := by unfold onceE; rw [List.foldl_append]; rfl
def Unlike (l : List Ent) : Prop := l.Pairwise fun a b => ¬ (a.key = b.key ∧ a.seq = b.seq)
theorem putO_unlike {m : List Ent} (h : Unlike m) (x : Ent) : Unlike (putO m x) := by
  unfold putO
  split
  · exact h
  · rename_i hn
    refine List.pairwise_append.2 ⟨h, List.pairwise_singleton _ _, fun a ha b hb => ?_⟩
    rw [List.mem_singleton] at hb
    subst hb
    exact fun e => hn ((hasE_iff _ _).2 ⟨a, ha, e⟩)
theorem foldO_unlike : ∀ (l m : List Ent), Unlike m → Unlike (l.foldl putO m)
  | [], _, h => h
  | x :: l, m, h => foldO_unlike l _ (putO_unlike h x)
theorem putO_mem {m : List Ent} {x y : Ent} (h : y ∈ putO m x) : y ∈ m ∨ y = x := by
  unfold putO at h
  split at h
  · exact .inl h
  · simpa using h
theorem foldO_mem : ∀ {l m : List Ent} {y : Ent}, y ∈ l.foldl putO m → y ∈ m ∨ y ∈ l
  | [], _, _, h => .inl h
  | x :: l, m, y, h => by
    rcases foldO_mem (l := l) h with h | h
    · rcases putO_mem h with h | h
      · exact .inl h
      · exact .inr (by simp [h])
    · exact .inr (by simp [h])
theorem foldO_len : ∀ (l m : List Ent), (l.foldl putO m).length ≤ m.length + l.length ∧ sizE (l.foldl putO m) ≤ sizE m + sizE l
  | [], m => ⟨Nat.le_refl _, Nat.le_refl _⟩
  | x :: l, m => by
    obtain ⟨h1, h2⟩ := foldO_len l (putO m x)
    have h3 : (putO m x).length ≤ m.length + 1 ∧ sizE (putO m x) ≤ sizE m + sizE [x] := by
      unfold putO
      split
      · exact ⟨by omega, by omega⟩
      · exact ⟨by simp, by rw [sizE_append]; exact Nat.le_refl _⟩
    have h4 : sizE (x :: l) = sizE [x] + sizE l := sizE_append [x] l
    refine ⟨?_, ?_⟩
    · show (l.foldl putO (putO m x)).length ≤ m.length + (l.length + 1)
      omega
    · show sizE (l.foldl putO (putO m x)) ≤ _
      omega
theorem insE_self (l : List Ent) (x : Ent) : clean x ∈ insE l x := by rw [insE_skip]; simp
theorem insE_keep {l : List Ent} {x y : Ent} (h : y ∈ l) (hn : cmpE y x ≠ 0) : y ∈ insE l x := by
  obtain ⟨i, hi, rfl⟩ := List.mem_iff_getElem.1 h
  rw [insE_skip, List.mem_append, List.mem_cons]
  rcases Nat.lt_or_ge i (cutE l x) with h1 | h1
  · exact .inl (List.mem_iff_getElem.2 ⟨i, by rw [List.length_take]; omega, by rw [List.getElem_take]⟩)
  · have h2 : skipE l x ≤ i := by
      unfold skipE
      split
      · rename_i z hz
        split
        · rename_i hc
          rcases Nat.lt_or_ge (cutE l x) i with h3 | h3
          · exact h3
          · have e : i = cutE l x := by omega
            subst e
            rw [List.getElem?_eq_getElem hi] at hz
            injection hz with hz
            rw [hz] at hn
            exact absurd hc hn
        · exact h1
      · exact h1
    exact .inr (.inr (List.mem_iff_getElem.2 ⟨i - skipE l x, by rw [List.length_drop]; omega, by rw [List.getElem_drop]; congr 1; omega⟩))
theorem insE_len_new {l : List Ent} {x : Ent} (h : ∀ y ∈ l, cmpE y x ≠ 0) : (insE l x).length = l.length + 1 := by
  have hc := cutE_le l x
  have hs : skipE l x = cutE l x := by
    unfold skipE
    split
    · rename_i z hz
      rw [if_neg (h z (List.mem_of_getElem? hz))]
    · rfl
  rw [insE_skip, hs]
  simp
  omega
theorem foldE_all : ∀ (l m : List Ent), Unlike l → (∀ y ∈ m, ∀ x ∈ l, cmpE y x ≠ 0) → (∀ y ∈ m, y ∈ l.foldl insE m) ∧ (∀ x ∈ l, clean x ∈ l.foldl insE m) ∧ (l.foldl insE m).length = m.length + l.length
  | [], m, _, _ => ⟨fun _ h => h, fun _ h => absurd h List.not_mem_nil, rfl⟩
  | x :: l, m, hu, hm => by
    obtain ⟨hx, hu⟩ := List.pairwise_cons.1 hu
    have hm' : ∀ y ∈ insE m x, ∀ z ∈ l, cmpE y z ≠ 0 := by
      intro y hy z hz e
      rcases insE_mem hy with h | rfl
      · exact hm y h z (by simp [hz]) e
      · rw [clean_cmpE] at e
        exact hx z hz (cmpE_zero e)
    obtain ⟨h1, h2, h3⟩ := foldE_all l (insE m x) hu hm'
    refine ⟨fun y hy => h1 y (insE_keep hy (hm y hy x (by simp))), fun z hz => ?_, ?_⟩
    · rcases List.mem_cons.1 hz with rfl | hz
      · exact h1 _ (insE_self _ _)
      · exact h2 z hz
    · show (l.foldl insE (insE m x)).length = m.length + (l.length + 1)
      rw [h3, insE_len_new fun y hy => hm y hy x (by simp)]
      omega
theorem cmpE_irr (x : Ent) : ¬ cmpE x x < 0 := by rw [cmpE_same rfl rfl]; decide
theorem sorted_unique : ∀ {l1 l2 : List Ent}, l1.Pairwise (fun a b => cmpE a b < 0) → l2.Pairwise (fun a b => cmpE a b < 0) → (∀ x, x ∈ l1 ↔ x ∈ l2) → l1 = l2
  | [], [], _, _, _ => rfl
  | [], b :: l2, _, _, h => absurd ((h b).2 (by simp)) (by simp)
  | a :: l1, [], _, _, h => absurd ((h a).1 (by simp)) (by simp)
  | a :: l1, b :: l2, h1, h2, h => by
    obtain ⟨ha, g1⟩ := List.pairwise_cons.1 h1
    obtain ⟨hb, g2⟩ := List.pairwise_cons.1 h2
    have e : a = b := by
      rcases List.mem_cons.1 ((h a).1 (by simp)) with e | h3
      · exact e
      · rcases List.mem_cons.1 ((h b).2 (by simp)) with e | h4
        · exact e.symm
        · have k1 := hb a h3
          have k2 := ha b h4
          rw [cmpE_swap] at k1
          omega
    subst e
    have ht : ∀ x, x ∈ l1 ↔ x ∈ l2 := fun x => by
      constructor
      · intro hx
        rcases List.mem_cons.1 ((h x).1 (by simp [hx])) with e | h3
        · subst e
          exact absurd (ha x hx) (cmpE_irr x)
        · exact h3
      · intro hx
        rcases List.mem_cons.1 ((h x).2 (by simp [hx])) with e | h3
        · subst e
          exact absurd (hb x hx) (cmpE_irr x)
        · exact h3
    rw [sorted_unique g1 g2 ht]
theorem ents_rise {ns : List Nd} (h : ns.Pairwise fun a b => cmpE a.x b.x < 0) : (ents ns).Pairwise fun a b => cmpE a b < 0 := by
  unfold ents
  exact List.pairwise_map.2 h
theorem unlike_rev {l : List Ent} (h : Unlike l) : Unlike l.reverse := by
  unfold Unlike at *
  rw [List.pairwise_reverse]
  exact h.imp fun h e => h ⟨e.1.symm, e.2.symm⟩
/-- Forward or backward: the same list, of just so many versions. -/
theorem order_eq {n1 n2 : List Nd} {M : List Ent} (hM : Unlike M) (h1 : n1.Pairwise fun a b => cmpE a.x b.x < 0) (h2 : n2.Pairwise fun a b => cmpE a.x b.x < 0) (e1 : ents n1 = M.foldl insE []) (e2 : ents n2 = M.reverse.foldl insE []) :
    ents n1 = ents n2 ∧ n1.length = M.length := by
  obtain ⟨_, a2, a3⟩ := foldE_all M [] hM (fun _ h => by cases h)
  obtain ⟨_, b2, b3⟩ := foldE_all M.reverse [] (unlike_rev hM) (fun _ h => by cases h)
  refine ⟨sorted_unique (ents_rise h1) (ents_rise h2) fun x => ⟨fun h => ?_, fun h => ?_⟩, ?_⟩
  · rw [e1] at h
    rcases foldE_mem h with h | ⟨y, hy, rfl⟩
    · cases h
    · rw [e2]
      exact b2 y (by simpa using hy)
  · rw [e2] at h
    rcases foldE_mem h with h | ⟨y, hy, rfl⟩
    · cases h
    · rw [e1]
      exact a2 y (by simpa using hy)
  · have := congrArg List.length e1
    rw [a3] at this
    simpa [ents] using this
end Go.Proofs.Ythaobfdocnaneaa
