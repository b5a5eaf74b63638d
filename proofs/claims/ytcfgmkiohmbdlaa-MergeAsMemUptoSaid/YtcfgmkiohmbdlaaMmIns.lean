/- Tables in memory: a new node between (what lies on the heap). -/
import Derived.Test.YtcfgmkiohmbdlaaMmHigh
namespace Go.Proofs.Ytcfgmkiohmbdlaa
open Go.RowKit
def tabF (n bytes : Int) (f : Nat → Option Nat) (hv : Value) (turn : Int) : List Value := [.int .i64 n, .int .i64 bytes] ++ noEnt.cells ++ links f ++ [hv, .int .i64 turn]
def nodeF (x : Ent) (f : Nat → Option Nat) : List Value := x.cells ++ links f
/-- The links as they stand: of the head (0), of the node i (i + 1). -/
structure Mid (w : World) (t : Nat) (ns : List Nd) (n bytes : Int) (hv : Value) (turn : Int) (F : Nat → Nat → Option Nat) : Prop where
  tab : w.heap[t]? = some (.cells (tabF n bytes (F 0) hv turn).toArray 80 (0, 0))
  node : ∀ (i : Nat) (h : i < ns.length), w.heap[ns[i].b]? = some (.cells (nodeF ns[i].x (F (i + 1))).toArray 78 (0, 0))
def baseF (ns : List Nd) : Nat → Nat → Option Nat
  | 0, K => nx K ns
  | i + 1, K => match ns[i]? with
    | some d => own d (ns.drop (i + 1)) K
    | none => none
theorem baseF_succ (ns : List Nd) (i K : Nat) (h : i < ns.length) : baseF ns (i + 1) K = own ns[i] (ns.drop (i + 1)) K := by
  show (match ns[i]? with | some d => own d (ns.drop (i + 1)) K | none => none) = _
  rw [List.getElem?_eq_getElem h]
def upF (ns : List Nd) (P : Nat → Nat) (N L p K : Nat) : Option Nat := if K < L ∧ P K = p then some N else baseF ns p K
theorem tabF_set (n bytes : Int) (f : Nat → Option Nat) (hv : Value) (turn : Int) (L : Nat) (o : Option Nat) (h : L < 8) :
    (tabF n bytes f hv turn).toArray.setIfInBounds (2 + 4 + L) (pv o) = (tabF n bytes (fun K => if K = L then o else f K) hv turn).toArray := by
  obtain rfl | rfl | rfl | rfl | rfl | rfl | rfl | rfl : L = 0 ∨ L = 1 ∨ L = 2 ∨ L = 3 ∨ L = 4 ∨ L = 5 ∨ L = 6 ∨ L = 7 := by omega
  all_goals rfl
theorem nodeF_set (x : Ent) (f : Nat → Option Nat) (L : Nat) (o : Option Nat) (h : L < 8) :
    (nodeF x f).toArray.setIfInBounds (0 + 4 + L) (pv o) = (nodeF x (fun K => if K = L then o else f K)).toArray := by
  obtain rfl | rfl | rfl | rfl | rfl | rfl | rfl | rfl : L = 0 ∨ L = 1 ∨ L = 2 ∨ L = 3 ∨ L = 4 ∨ L = 5 ∨ L = 6 ∨ L = 7 := by omega
  all_goals rfl
theorem tabF_get (n bytes : Int) (f : Nat → Option Nat) (hv : Value) (turn : Int) (L : Nat) (h : L < 8) : (tabF n bytes f hv turn).toArray[2 + 4 + L]? = some (pv (f L)) := by
  obtain rfl | rfl | rfl | rfl | rfl | rfl | rfl | rfl : L = 0 ∨ L = 1 ∨ L = 2 ∨ L = 3 ∨ L = 4 ∨ L = 5 ∨ L = 6 ∨ L = 7 := by omega
  all_goals rfl
theorem nodeF_get (x : Ent) (f : Nat → Option Nat) (L : Nat) (h : L < 8) : (nodeF x f).toArray[0 + 4 + L]? = some (pv (f L)) := by
  obtain rfl | rfl | rfl | rfl | rfl | rfl | rfl | rfl : L = 0 ∨ L = 1 ∨ L = 2 ∨ L = 3 ∨ L = 4 ∨ L = 5 ∨ L = 6 ∨ L = 7 := by omega
  all_goals rfl
theorem tabF_ext {n bytes : Int} {f g : Nat → Option Nat} {hv : Value} {turn : Int} (h : ∀ L, L < 8 → f L = g L) : tabF n bytes f hv turn = tabF n bytes g hv turn := by
  unfold tabF; rw [links_ext h]
theorem nodeF_ext {x : Ent} {f g : Nat → Option Nat} (h : ∀ L, L < 8 → f L = g L) : nodeF x f = nodeF x g := by
  unfold nodeF; rw [links_ext h]
section
variable {w w' : World} {B t : Nat} {ns : List Nd} {n bytes turn : Int} {hv : Value} {hs : List Int} {F F' : Nat → Nat → Option Nat}
theorem Mid.ext (h : Mid w t ns n bytes hv turn F) (hF : ∀ p K, p ≤ ns.length → K < 8 → F' p K = F p K) : Mid w t ns n bytes hv turn F' where
  tab := by rw [h.tab, tabF_ext fun L hL => (hF 0 L (Nat.zero_le _) hL)]
  node := fun i hi => by rw [h.node i hi, nodeF_ext fun L hL => (hF (i + 1) L (by omega) hL)]
theorem Skip.mid (h : Skip w B t ns n bytes hv hs turn) (P : Nat → Nat) (N : Nat) : Mid w t ns n bytes hv turn (upF ns P N 0) where
  tab := by rw [h.tab]; rfl
  node := fun i hi => by
    rw [h.chain.at i hi]
    have : nodeF ns[i].x (upF ns P N 0 (i + 1)) = nodeC ns[i] (ns.drop (i + 1)) := by
      unfold nodeC
      exact nodeF_ext fun L hL => by unfold upF; rw [if_neg (by omega), baseF_succ ns i L hi]
    rw [this]
theorem Mid.upd {S : Nat → Prop} (h : Mid w t ns n bytes hv turn F) (hu : Upd S w w') (ht : ¬ S t) (hn : ∀ d ∈ ns, ¬ S d.b) : Mid w' t ns n bytes hv turn F where
  tab := (hu.block t (Array.getElem?_eq_some_iff.1 h.tab).1 ht).trans h.tab
  node := fun i hi => (hu.block _ (Array.getElem?_eq_some_iff.1 (h.node i hi)).1 (hn _ (List.getElem_mem hi))).trans (h.node i hi)
theorem Mid.next (h : Mid w t ns n bytes hv turn F) (p L : Nat) (hp : p ≤ ns.length) (hL : L < 8) : w.cell? ⟨(pb t ns p).1, (pb t ns p).2 + 4 + L, none⟩ = some (pv (F p L)) := by
  cases p with
  | zero =>
    show w.cell? ⟨t, 2 + 4 + L, none⟩ = _
    rw [cell_of_row w t _ _ _ _ h.tab, tabF_get _ _ _ _ _ _ hL]
  | succ p =>
    rw [pb_succ t ns p (by omega)]
    show w.cell? ⟨ns[p].b, 0 + 4 + L, none⟩ = _
    rw [cell_of_row w _ _ _ _ _ (h.node p (by omega)), nodeF_get _ _ _ hL]
theorem Mid.free (h : Mid w t ns n bytes hv turn F) (p L : Nat) (hp : p ≤ ns.length) : w.frozen? ⟨(pb t ns p).1, (pb t ns p).2 + 4 + L, none⟩ = false := by
  cases p with
  | zero => exact frozen_of_row _ _ _ _ _ h.tab
  | succ p =>
    rw [pb_succ t ns p (by omega)]
    exact frozen_of_row _ _ _ _ _ (h.node p (by omega))
theorem Mid.set (h : Mid w t ns n bytes hv turn F) (hnd : (ns.map (·.b)).Nodup) (hne : ∀ d ∈ ns, d.b ≠ t) (p L N : Nat) (hp : p ≤ ns.length) (hL : L < 8)
    (hF : ∀ p' K, p' ≤ ns.length → K < 8 → F' p' K = if p' = p ∧ K = L then some N else F p' K) : Mid (w.setCell ⟨(pb t ns p).1, (pb t ns p).2 + 4 + L, none⟩ (pptr (N, 0))) t ns n bytes hv turn F' := by
  cases p with
  | zero =>
    constructor
    · have h1 := heap_setCell_same w t (2 + 4 + L) _ _ (pptr (N, 0)) h.tab
      rw [show pptr (N, 0) = pv (some N) from rfl, tabF_set _ _ _ _ _ _ _ hL] at h1
      rw [tabF_ext (g := F' 0) fun K hK => by rw [hF 0 K (Nat.zero_le _) hK]; simp] at h1
      exact h1
    · intro i hi
      rw [heap_setCell_other _ _ _ _ (by show ns[i].b ≠ t; exact hne _ (List.getElem_mem hi)), h.node i hi, nodeF_ext (g := F' (i + 1)) fun K hK => by rw [hF (i + 1) K (by omega) hK, if_neg (by omega)]]
  | succ p =>
    rw [pb_succ t ns p (by omega)]
    constructor
    · rw [heap_setCell_other _ _ _ _ (by show t ≠ ns[p].b; exact fun e => hne _ (List.getElem_mem (show p < ns.length by omega)) e.symm), h.tab, tabF_ext (g := F' 0) fun K hK => by rw [hF 0 K (by omega) hK, if_neg (by omega)]]
    · intro i hi
      by_cases e : i = p
      · subst e
        have h1 := heap_setCell_same w ns[i].b (0 + 4 + L) _ _ (pptr (N, 0)) (h.node i hi)
        rw [show pptr (N, 0) = pv (some N) from rfl, nodeF_set _ _ _ _ hL] at h1
        rw [nodeF_ext (g := F' (i + 1)) fun K hK => by rw [hF (i + 1) K (by omega) hK]; simp] at h1
        exact h1
      · rw [heap_setCell_other _ _ _ _ (by
          show ns[i].b ≠ ns[p].b
          intro e1
          exact e ((List.getElem_inj (i := i) (j := p) (h₀ := by rw [List.length_map]; omega) (h₁ := by rw [List.length_map]; omega) hnd).1 (by simpa using e1))), h.node i hi, nodeF_ext (g := F' (i + 1)) fun K hK => by rw [hF (i + 1) K (by omega) hK, if_neg (by omega)]]
theorem nx_low {d : Nd} {K : Nat} (hd : ¬ K < d.h) : ∀ {a b : List Nd}, nx K (a ++ d :: b) = nx K (a ++ b)
  | [], b => by rw [List.nil_append, List.nil_append, nx, if_neg hd]
  | e :: a, b => by
    rw [List.cons_append, List.cons_append, nx, nx, nx_low hd]
theorem nx_at {d : Nd} {K : Nat} (hd : K < d.h) {a b : List Nd} (ha : ∀ e ∈ a, ¬ K < e.h) : nx K (a ++ d :: b) = some d.b := by
  rw [nx_skip ha, nx, if_pos hd]
/-- What stands behind the places 0 .. i when the new node is in. -/
theorem nx_ins {d : Nd} {K c p : Nat} (hc : c ≤ ns.length) (hp : IsLp ns c K p) (i : Nat) (hi : i ≤ c) (hip : i = 0 ∨ ∃ h : i - 1 < ns.length, K < ns[i - 1].h) :
    nx K ((ns.take c).drop i ++ d :: ns.drop c) = if K < d.h ∧ p = i then some d.b else nx K (ns.drop i) := by
  have hsplit : ns.drop i = (ns.take c).drop i ++ ns.drop c := by
    conv => lhs; rw [← List.take_append_drop c ns]
    rw [List.drop_append_of_le_length (by rw [List.length_take]; omega)]
  by_cases hd : K < d.h
  · by_cases e : p = i
    · subst e
      rw [if_pos ⟨hd, rfl⟩]
      refine nx_at hd fun e he => ?_
      rw [List.mem_drop_iff_getElem] at he
      obtain ⟨j, hj, rfl⟩ := he
      rw [List.length_take] at hj
      have := hp.2.2 (p + j) (by omega) (by omega) (by omega)
      rw [List.getElem_take]
      exact this
    · rw [if_neg (by omega), hsplit]
      refine nx_front ?_
      rcases Nat.lt_or_ge p i with h1 | h1
      · rcases hip with h2 | ⟨h2, h3⟩
        · omega
        · exact absurd h3 (hp.2.2 (i - 1) h2 (by omega) (by omega))
      · rcases hp.2.1 with h2 | ⟨h2, h3⟩
        · omega
        · refine ⟨ns[p - 1], ?_, h3⟩
          rw [List.mem_drop_iff_getElem]
          have := hp.1
          refine ⟨p - 1 - i, by rw [List.length_take]; omega, ?_⟩
          rw [List.getElem_take]
          congr 1
          omega
  · rw [if_neg (by omega), nx_low hd, hsplit]
theorem Mid.done {w0 : World} {turn0 n0 bytes0 : Int} (h0 : Skip w0 B t ns n0 bytes0 hv hs turn0) (P : Nat → Nat) (N c q : Nat) (x : Ent) (h : Mid w t ns n bytes hv turn (upF ns P N q)) (hc : c ≤ ns.length) (hP : ∀ K, K < 8 → IsLp ns c K (P K))
    (hN : w.heap[N]? = some (.cells (nodeF x (fun K => if K < q then nx K (ns.drop c) else none)).toArray 78 (0, 0)))
    (hNB : w0.heap.size ≤ N) (hq : 1 ≤ q ∧ q ≤ 8) (hown : w.ownsRow B 3 1 hv hs.length (hs.map (Value.int .i64)))
    (hlt : ∀ j (hj : j < ns.length), j < c → cmpE ns[j].x x < 0) (hge : ∀ j (hj : j < ns.length), c ≤ j → cmpE x ns[j].x < 0) :
    Skip w B t (ns.take c ++ ⟨N, x, q⟩ :: ns.drop c) n bytes hv hs turn := by
  have hmem : ∀ d, d ∈ ns.take c ++ ⟨N, x, q⟩ :: ns.drop c → d ∈ ns ∨ d = ⟨N, x, q⟩ := by
    intro d hd
    rw [List.mem_append, List.mem_cons] at hd
    rcases hd with hd | hd | hd
    · exact .inl (List.mem_of_mem_take hd)
    · exact .inr hd
    · exact .inl (List.mem_of_mem_drop hd)
  have hBN : B ≤ N := Nat.le_trans h0.tbase (Nat.le_trans (Nat.le_of_lt h0.tlt) hNB)
  have hnn : ∀ d ∈ ns, d.b < w0.heap.size := fun d hd => by
    obtain ⟨i, hi, rfl⟩ := List.mem_iff_getElem.1 hd
    exact h0.nlt i hi
  constructor
  · rw [h.tab]
    have : tabF n bytes (upF ns P N q 0) hv turn = tabC n bytes (ns.take c ++ ⟨N, x, q⟩ :: ns.drop c) hv turn := by
      show _ = tabF n bytes (fun L => nx L (ns.take c ++ ⟨N, x, q⟩ :: ns.drop c)) hv turn
      refine tabF_ext fun K hK => ?_
      have := nx_ins (d := ⟨N, x, q⟩) hc (hP K hK) 0 (Nat.zero_le _) (.inl rfl)
      rw [List.drop_zero, List.drop_zero] at this
      rw [this]
      rfl
    rw [this]
  · refine Chain.of fun i hi => ?_
    rw [List.length_append, List.length_cons, List.length_take, List.length_drop] at hi
    have htl : (ns.take c).length = c := by rw [List.length_take]; omega
    rcases Nat.lt_trichotomy i c with h1 | h1 | h1
    · have e1 : (ns.take c ++ ⟨N, x, q⟩ :: ns.drop c)[i]'(by rw [List.length_append, List.length_cons, List.length_take, List.length_drop]; omega) = ns[i] := by
        rw [List.getElem_append_left (by omega), List.getElem_take]
      have e2 : (ns.take c ++ ⟨N, x, q⟩ :: ns.drop c).drop (i + 1) = (ns.take c).drop (i + 1) ++ ⟨N, x, q⟩ :: ns.drop c := by
        rw [List.drop_append_of_le_length (by omega)]
      rw [e1, e2, h.node i (by omega)]
      have : nodeF ns[i].x (upF ns P N q (i + 1)) = nodeC ns[i] ((ns.take c).drop (i + 1) ++ ⟨N, x, q⟩ :: ns.drop c) := by
        unfold nodeC
        refine nodeF_ext fun K hK => ?_
        unfold upF
        rw [baseF_succ ns i K (by omega)]
        unfold own
        by_cases h2 : K < ns[i].h
        · rw [if_pos h2, if_pos h2, nx_ins (d := ⟨N, x, q⟩) hc (hP K hK) (i + 1) (by omega) (.inr ⟨by simp; omega, by simpa using h2⟩)]
        · rw [if_neg h2, if_neg h2, if_neg]
          intro h3
          rcases (hP K hK).2.1 with h4 | ⟨h4, h5⟩
          · omega
          · refine h2 ?_
            have e : P K - 1 = i := by omega
            simp only [e] at h5
            exact h5
      rw [this]
    · subst h1
      have e1 : (ns.take i ++ ⟨N, x, q⟩ :: ns.drop i)[i]'(by rw [List.length_append, List.length_cons, List.length_take, List.length_drop]; omega) = ⟨N, x, q⟩ := by
        rw [List.getElem_append_right (by omega)]
        simp only [htl, Nat.sub_self, List.getElem_cons_zero]
      have e2 : (ns.take i ++ ⟨N, x, q⟩ :: ns.drop i).drop (i + 1) = ns.drop i := by
        rw [List.drop_append, htl, List.drop_eq_nil_of_le (by omega), show i + 1 - i = 1 by omega]
        rfl
      rw [e1, e2]
      exact hN
    · have e1 : (ns.take c ++ ⟨N, x, q⟩ :: ns.drop c)[i]'(by rw [List.length_append, List.length_cons, List.length_take, List.length_drop]; omega) = ns[i - 1]'(by omega) := by
        rw [List.getElem_append_right (by omega), List.getElem_cons, dif_neg (by omega), List.getElem_drop]
        congr 1
        omega
      have e2 : (ns.take c ++ ⟨N, x, q⟩ :: ns.drop c).drop (i + 1) = ns.drop (i - 1 + 1) := by
        rw [List.drop_append, htl, List.drop_eq_nil_of_le (by omega), List.nil_append, show i + 1 - c = (i - c) + 1 by omega, List.drop_succ_cons, List.drop_drop]
        congr 1
        omega
      rw [e1, e2, h.node (i - 1) (by omega)]
      have : nodeF (ns[i - 1]'(by omega)).x (upF ns P N q (i - 1 + 1)) = nodeC (ns[i - 1]'(by omega)) (ns.drop (i - 1 + 1)) := by
        unfold nodeC
        refine nodeF_ext fun K hK => ?_
        unfold upF
        rw [baseF_succ ns (i - 1) K (by omega), if_neg]
        have := (hP K hK).1
        omega
      rw [this]
  · exact h0.tbase
  · intro d hd
    rcases hmem d hd with h1 | rfl
    · exact h0.nbase d h1
    · exact ⟨hBN, by have := h0.tlt; show N ≠ t; omega⟩
  · have hperm : (ns.take c ++ ⟨N, x, q⟩ :: ns.drop c).Perm (⟨N, x, q⟩ :: ns) := by
      have := (List.perm_middle (a := (⟨N, x, q⟩ : Nd)) (l₁ := ns.take c) (l₂ := ns.drop c))
      rwa [List.take_append_drop] at this
    rw [(hperm.map (·.b)).nodup_iff, List.map_cons, List.nodup_cons]
    refine ⟨fun hm => ?_, h0.nodup⟩
    rw [List.mem_map] at hm
    obtain ⟨d, hd, e⟩ := hm
    have := hnn d hd
    change d.b = N at e
    omega
  · intro d hd
    rcases hmem d hd with h1 | rfl
    · exact h0.high d h1
    · exact hq
  · have hr := h0.rise
    rw [← List.take_append_drop c ns, List.pairwise_append] at hr
    rw [List.pairwise_append, List.pairwise_cons]
    refine ⟨hr.1, ⟨fun d hd => ?_, hr.2.1⟩, fun d hd e he => ?_⟩
    · rw [List.mem_drop_iff_getElem] at hd
      obtain ⟨j, hj, rfl⟩ := hd
      exact hge (c + j) (by omega) (by omega)
    · rcases List.mem_cons.1 he with rfl | he
      · obtain ⟨j, hj, rfl⟩ := List.mem_iff_getElem.1 hd
        rw [List.length_take] at hj
        rw [List.getElem_take]
        exact hlt j (by omega) (by omega)
      · exact hr.2.2 d hd e he
  · exact hown
  · intro k hk
    refine ⟨(h0.hne k hk).1, fun d hd => ?_⟩
    rcases hmem d hd with h1 | rfl
    · exact (h0.hne k hk).2 d h1
    · have := (h0.hown.lt k hk).2
      show N ≠ k
      omega
  · exact h0.hsOk
end
end Go.Proofs.Ytcfgmkiohmbdlaa
