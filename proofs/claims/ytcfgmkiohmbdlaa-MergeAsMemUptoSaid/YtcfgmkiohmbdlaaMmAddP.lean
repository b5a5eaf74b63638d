/- Tables in memory: what Add does to the list (plain), and a node's new version (heap). -/
import Derived.Test.YtcfgmkiohmbdlaaMmIns
namespace Go.Proofs.Ytcfgmkiohmbdlaa
open Go.RowKit
def ents (ns : List Nd) : List Ent := ns.map (·.x)
def clean (x : Ent) : Ent := if x.dead then ⟨x.key, x.seq, x.dead, ⟨#[]⟩⟩ else x
theorem clean_key (x : Ent) : (clean x).key = x.key := by unfold clean; split <;> rfl
theorem clean_seq (x : Ent) : (clean x).seq = x.seq := by unfold clean; split <;> rfl
theorem clean_val (x : Ent) : (clean x).val.size ≤ x.val.size := by
  unfold clean
  split
  · exact Nat.zero_le _
  · exact Nat.le_refl _
theorem cmpE_cong {x y x' y' : Ent} (h1 : x'.key = x.key) (h2 : x'.seq = x.seq) (h3 : y'.key = y.key) (h4 : y'.seq = y.seq) : cmpE x' y' = cmpE x y := by
  unfold cmpE; rw [h1, h2, h3, h4]
theorem cmpE_clean (y x : Ent) : cmpE y (clean x) = cmpE y x := cmpE_cong rfl rfl (clean_key x) (clean_seq x)
theorem clean_cmpE (y x : Ent) : cmpE (clean x) y = cmpE x y := cmpE_cong (clean_key x) (clean_seq x) rfl rfl
def cutE (l : List Ent) (x : Ent) : Nat := (l.takeWhile fun e => decide (cmpE e x < 0)).length
theorem cutE_ents (ns : List Nd) (x : Ent) : cutE (ents ns) x = cutOf ns x := by
  unfold cutE cutOf ents
  rw [List.takeWhile_map, List.length_map]
  rfl
def sizE (l : List Ent) : Nat := (l.map fun e => e.key.size + e.val.size).sum
theorem sizE_append (a b : List Ent) : sizE (a ++ b) = sizE a + sizE b := by unfold sizE; rw [List.map_append, List.sum_append]
theorem sizE_cons (x : Ent) (b : List Ent) : sizE (x :: b) = x.key.size + x.val.size + sizE b := by unfold sizE; rw [List.map_cons, List.sum_cons]
/-- The list when x is taken in. -/
noncomputable def insE (l : List Ent) (x : Ent) : List Ent :=
  match l[cutE l x]? with
  | some y => if cmpE y x = 0 then l.take (cutE l x) ++ clean x :: l.drop (cutE l x + 1) else l.take (cutE l x) ++ clean x :: l.drop (cutE l x)
  | none => l.take (cutE l x) ++ clean x :: l.drop (cutE l x)
def putN (ns : List Nd) (c : Nat) (x : Ent) (d : Nd) : List Nd := ns.take c ++ ⟨d.b, x, d.h⟩ :: ns.drop (c + 1)
theorem split_at {ns : List Nd} {c : Nat} (hc : c < ns.length) : ns = ns.take c ++ ns[c] :: ns.drop (c + 1) := by
  conv => lhs; rw [← List.take_append_drop c ns]
  rw [List.drop_eq_getElem_cons hc]
theorem nx_put {x : Ent} {d : Nd} {K : Nat} : ∀ {a b : List Nd}, nx K (a ++ ⟨d.b, x, d.h⟩ :: b) = nx K (a ++ d :: b)
  | [], b => rfl
  | e :: a, b => by rw [List.cons_append, List.cons_append, nx, nx, nx_put]
theorem ins_new {ns : List Nd} {x : Ent} {N q : Nat} (h : ∀ hc : cutOf ns x < ns.length, cmpE ns[cutOf ns x].x x ≠ 0) : ents (ns.take (cutOf ns x) ++ ⟨N, clean x, q⟩ :: ns.drop (cutOf ns x)) = insE (ents ns) x := by
  unfold insE
  rw [cutE_ents]
  have e : ents (ns.take (cutOf ns x) ++ ⟨N, clean x, q⟩ :: ns.drop (cutOf ns x)) = (ents ns).take (cutOf ns x) ++ clean x :: (ents ns).drop (cutOf ns x) := by
    simp [ents, List.map_take, List.map_drop]
  rw [e]
  split
  · rename_i y hy
    unfold ents at hy
    rw [List.getElem?_map] at hy
    rcases Nat.lt_or_ge (cutOf ns x) ns.length with hc | hc
    · rw [List.getElem?_eq_getElem hc] at hy
      simp only [Option.map_some] at hy
      injection hy with hy
      have := h hc
      rw [hy] at this
      rw [if_neg this]
    · rw [List.getElem?_eq_none hc] at hy
      cases hy
  · rfl
theorem ins_old {ns : List Nd} {x : Ent} (hc : cutOf ns x < ns.length) (h : cmpE ns[cutOf ns x].x x = 0) : ents (putN ns (cutOf ns x) (clean x) ns[cutOf ns x]) = insE (ents ns) x := by
  unfold insE
  rw [cutE_ents]
  have e : ents (putN ns (cutOf ns x) (clean x) ns[cutOf ns x]) = (ents ns).take (cutOf ns x) ++ clean x :: (ents ns).drop (cutOf ns x + 1) := by
    simp [ents, putN, List.map_take, List.map_drop]
  rw [e, show (ents ns)[cutOf ns x]? = some ns[cutOf ns x].x by unfold ents; rw [List.getElem?_map, List.getElem?_eq_getElem hc]; rfl]
  simp only
  rw [if_pos h]
theorem siz_new {ns : List Nd} {x : Ent} {N q c : Nat} : sizE (ents (ns.take c ++ ⟨N, x, q⟩ :: ns.drop c)) = sizE (ents ns) + (x.key.size + x.val.size) := by
  have h1 : sizE (ents ns) = sizE (ents (ns.take c)) + sizE (ents (ns.drop c)) := by
    rw [← sizE_append]; unfold ents; rw [← List.map_append, List.take_append_drop]
  have h2 : ents (ns.take c ++ ⟨N, x, q⟩ :: ns.drop c) = ents (ns.take c) ++ x :: ents (ns.drop c) := by simp [ents]
  rw [h2, sizE_append, sizE_cons, h1]; omega
theorem siz_old {ns : List Nd} {x : Ent} {c : Nat} (hc : c < ns.length) (hk : x.key = ns[c].x.key) : sizE (ents (putN ns c x ns[c])) + ns[c].x.val.size = sizE (ents ns) + x.val.size := by
  have h1 : sizE (ents ns) = sizE (ents (ns.take c)) + (ns[c].x.key.size + ns[c].x.val.size + sizE (ents (ns.drop (c + 1)))) := by
    have h0 := congrArg (fun l => sizE (ents l)) (split_at hc)
    refine h0.trans ?_
    rw [← sizE_cons, ← sizE_append]
    show sizE (ents (ns.take c ++ ns[c] :: ns.drop (c + 1))) = sizE (ents (ns.take c) ++ ns[c].x :: ents (ns.drop (c + 1)))
    unfold ents
    rw [List.map_append, List.map_cons]
  have h2 : ents (putN ns c x ns[c]) = ents (ns.take c) ++ x :: ents (ns.drop (c + 1)) := by simp [ents, putN]
  rw [h2, sizE_append, sizE_cons, h1, hk]; omega
section
variable {w w' : World} {B t : Nat} {ns : List Nd} {n bytes turn n' bytes' turn' : Int} {hv : Value} {hs : List Int}
/-- A node has a new version. -/
theorem Skip.put (h : Skip w B t ns n bytes hv hs turn) (c : Nat) (hc : c < ns.length) (x : Ent) (hk : x.key = ns[c].x.key) (hq : x.seq = ns[c].x.seq)
    (hu : Upd (fun k => k = t ∨ k = ns[c].b) w w') (ht : w'.heap[t]? = some (.cells (tabC n' bytes' ns hv turn').toArray 80 (0, 0)))
    (hn : w'.heap[ns[c].b]? = some (.cells (nodeF x (own ns[c] (ns.drop (c + 1)))).toArray 78 (0, 0))) :
    Skip w' B t (putN ns c x ns[c]) n' bytes' hv hs turn' := by
  have hlen : (putN ns c x ns[c]).length = ns.length := by unfold putN; rw [List.length_append, List.length_cons, List.length_take, List.length_drop]; omega
  have htl : (ns.take c).length = c := by rw [List.length_take]; omega
  have hget : ∀ i (hi : i < ns.length), ((putN ns c x ns[c])[i]'(by omega)).b = ns[i].b ∧ ((putN ns c x ns[c])[i]'(by omega)).h = ns[i].h ∧ ((putN ns c x ns[c])[i]'(by omega)).x = if i = c then x else ns[i].x := by
    intro i hi
    unfold putN
    rcases Nat.lt_trichotomy i c with h1 | h1 | h1
    · rw [List.getElem_append_left (by omega), List.getElem_take, if_neg (by omega)]
      exact ⟨rfl, rfl, rfl⟩
    · subst h1
      rw [List.getElem_append_right (by omega)]
      simp only [htl, Nat.sub_self, List.getElem_cons_zero]
      simp
    · rw [List.getElem_append_right (by omega), List.getElem_cons, dif_neg (by omega), List.getElem_drop, if_neg (by omega)]
      simp only [htl, show c + 1 + (i - c - 1) = i by omega]
      exact ⟨trivial, trivial, trivial⟩
  have hdr : ∀ (i K : Nat), nx K ((putN ns c x ns[c]).drop i) = nx K (ns.drop i) := by
    intro i K
    rcases Nat.lt_or_ge c i with h1 | h1
    · unfold putN
      rw [List.drop_append, htl, List.drop_eq_nil_of_le (by omega), List.nil_append, show i - c = (i - c - 1) + 1 by omega, List.drop_succ_cons, List.drop_drop]
      congr 2
      omega
    · have e1 : (putN ns c x ns[c]).drop i = (ns.take c).drop i ++ ⟨ns[c].b, x, ns[c].h⟩ :: ns.drop (c + 1) := by
        unfold putN
        rw [List.drop_append_of_le_length (by omega)]
      have e2 : ns.drop i = (ns.take c).drop i ++ ns[c] :: ns.drop (c + 1) := by
        conv => lhs; rw [split_at hc]
        rw [List.drop_append_of_le_length (by omega)]
      rw [e1, e2, nx_put]
  constructor
  · rw [ht]
    have : tabC n' bytes' (putN ns c x ns[c]) hv turn' = tabC n' bytes' ns hv turn' := by
      show tabF n' bytes' (fun L => nx L (putN ns c x ns[c])) hv turn' = tabF n' bytes' (fun L => nx L ns) hv turn'
      exact tabF_ext fun K _ => hdr 0 K
    rw [this]
  · refine Chain.of fun i hi => ?_
    rw [hlen] at hi
    obtain ⟨g1, g2, g3⟩ := hget i hi
    have ho : ∀ K, own ((putN ns c x ns[c])[i]'(by omega)) ((putN ns c x ns[c]).drop (i + 1)) K = own ns[i] (ns.drop (i + 1)) K := by
      intro K
      unfold own
      rw [g2, hdr]
    have hnc : nodeC ((putN ns c x ns[c])[i]'(by omega)) ((putN ns c x ns[c]).drop (i + 1)) = nodeF (if i = c then x else ns[i].x) (own ns[i] (ns.drop (i + 1))) := by
      show nodeF _ _ = _
      rw [g3]
      exact nodeF_ext fun K _ => ho K
    rw [g1, hnc]
    by_cases e : i = c
    · subst e
      rw [if_pos rfl]
      exact hn
    · rw [if_neg e, hu.block _ (h.nlt i hi), h.chain.at i hi]
      · rfl
      · intro h1
        rcases h1 with h1 | h1
        · exact (h.nbase _ (List.getElem_mem hi)).2 h1
        · exact e ((List.getElem_inj (i := i) (j := c) (h₀ := by rw [List.length_map]; omega) (h₁ := by rw [List.length_map]; omega) h.nodup).1 (by simpa using h1))
  · exact h.tbase
  · intro d hd
    obtain ⟨i, hi, rfl⟩ := List.mem_iff_getElem.1 hd
    rw [hlen] at hi
    rw [(hget i hi).1]
    exact h.nbase _ (List.getElem_mem hi)
  · have : (putN ns c x ns[c]).map (·.b) = ns.map (·.b) := by
      have h0 := congrArg (fun l => l.map (fun d : Nd => d.b)) (split_at hc)
      refine Eq.trans ?_ h0.symm
      show (putN ns c x ns[c]).map (fun d : Nd => d.b) = (ns.take c ++ ns[c] :: ns.drop (c + 1)).map (fun d : Nd => d.b)
      unfold putN
      rw [List.map_append, List.map_append, List.map_cons, List.map_cons]
    rw [this]
    exact h.nodup
  · intro d hd
    obtain ⟨i, hi, rfl⟩ := List.mem_iff_getElem.1 hd
    rw [hlen] at hi
    rw [(hget i hi).2.1]
    exact h.high _ (List.getElem_mem hi)
  · rw [List.pairwise_iff_getElem]
    intro i j hi hj hij
    rw [hlen] at hi hj
    have hp := List.pairwise_iff_getElem.1 h.rise i j hi hj hij
    rw [(hget i hi).2.2, (hget j hj).2.2]
    have k1 : ∀ i (hi : i < ns.length), (if i = c then x else ns[i].x).key = ns[i].x.key ∧ (if i = c then x else ns[i].x).seq = ns[i].x.seq := by
      intro i hi
      by_cases e : i = c
      · subst e
        rw [if_pos rfl]
        exact ⟨hk, hq⟩
      · rw [if_neg e]
        exact ⟨rfl, rfl⟩
    rw [cmpE_cong (k1 i hi).1 (k1 i hi).2 (k1 j hj).1 (k1 j hj).2]
    exact hp
  · refine own_upd h.hown hu fun k hk h1 => ?_
    rcases h1 with h1 | h1
    · exact (h.hne k hk).1 h1
    · exact (h.hne k hk).2 _ (List.getElem_mem hc) h1.symm
  · intro k hk
    refine ⟨(h.hne k hk).1, fun d hd => ?_⟩
    obtain ⟨i, hi, rfl⟩ := List.mem_iff_getElem.1 hd
    rw [hlen] at hi
    rw [(hget i hi).1]
    exact (h.hne k hk).2 _ (List.getElem_mem hi)
  · exact h.hsOk
/-- The blocks of a table. -/
def foot (t : Nat) (ns : List Nd) (k : Nat) : Prop := k = t ∨ ∃ d ∈ ns, d.b = k
structure Added (w w' : World) (B t : Nat) (ns ns' : List Nd) (hv : Value) (hs : List Int) (turn turn' : Int) (l : List Ent) : Prop where
  skip : Skip w' B t ns' ns'.length (sizE (ents ns')) hv hs turn'
  list : ents ns' = l.foldl insE (ents ns)
  turn0 : turn ≤ turn'
  turn1 : turn' ≤ turn + l.length
  len : ns'.length ≤ ns.length + l.length
  size : sizE (ents ns') ≤ sizE (ents ns) + sizE l
  upd : Upd (foot t ns) w w'
  new : ∀ d ∈ ns', (∃ d0 ∈ ns, d0.b = d.b) ∨ w.heap.size ≤ d.b
theorem Added.refl {ns : List Nd} (h : Skip w B t ns ns.length (sizE (ents ns)) hv hs turn) : Added w w B t ns ns hv hs turn turn [] :=
  ⟨h, rfl, Int.le_refl _, by simp, by simp, by simp [sizE], Upd.refl _ _, fun d hd => .inl ⟨d, hd, rfl⟩⟩
theorem Added.snoc {w1 w2 : World} {ns1 ns2 : List Nd} {turn1 turn2 : Int} {l : List Ent} {x : Ent} (h : Added w w1 B t ns ns1 hv hs turn turn1 l) (h2 : Added w1 w2 B t ns1 ns2 hv hs turn1 turn2 [x]) : Added w w2 B t ns ns2 hv hs turn turn2 (l ++ [x]) where
  skip := h2.skip
  list := by rw [h2.list, h.list, List.foldl_append]
  turn0 := by have := h.turn0; have := h2.turn0; omega
  turn1 := by have := h.turn1; have := h2.turn1; simp at *; omega
  len := by have := h.len; have := h2.len; simp at *; omega
  size := by have := h.size; have := h2.size; rw [sizE_append]; omega
  upd := h.upd.trans h2.upd fun k hk hf => by
    rcases hf with rfl | ⟨d, hd, rfl⟩
    · exact .inl rfl
    · rcases h.new d hd with ⟨d0, hd0, e⟩ | h3
      · exact .inr ⟨d0, hd0, e⟩
      · omega
  new := fun d hd => by
    rcases h2.new d hd with ⟨d1, hd1, e⟩ | h3
    · rw [← e]
      exact h.new d1 hd1
    · have := h.upd.size
      exact .inr (by omega)
end
end Go.Proofs.Ytcfgmkiohmbdlaa
