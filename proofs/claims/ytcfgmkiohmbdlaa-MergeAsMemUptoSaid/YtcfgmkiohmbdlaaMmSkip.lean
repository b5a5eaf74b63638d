/- Tables in memory: skip lists (what lies on the heap). -/
import Derived.Test.YtcfgmkiohmbdlaaMmPlain
namespace Go.Proofs.Ytcfgmkiohmbdlaa
open Go.RowKit
/-- A node: its block, its version, its tower's height. -/
structure Nd where
  b : Nat
  x : Ent
  h : Nat
/-- The next node that is higher than L. -/
def nx (L : Nat) : List Nd → Option Nat
  | [] => none
  | d :: r => if L < d.h then some d.b else nx L r
def pv (o : Option Nat) : Value := .pointer (o.map fun b => ⟨b, 0, none⟩)
def links (f : Nat → Option Nat) : List Value := [pv (f 0), pv (f 1), pv (f 2), pv (f 3), pv (f 4), pv (f 5), pv (f 6), pv (f 7)]
def own (d : Nd) (r : List Nd) (L : Nat) : Option Nat := if L < d.h then nx L r else none
def nodeC (d : Nd) (r : List Nd) : List Value := d.x.cells ++ links (own d r)
def noEnt : Ent := ⟨⟨#[]⟩, 0, false, ⟨#[]⟩⟩
def tabC (n bytes : Int) (ns : List Nd) (hv : Value) (turn : Int) : List Value := [.int .i64 n, .int .i64 bytes] ++ noEnt.cells ++ links (fun L => nx L ns) ++ [hv, .int .i64 turn]
theorem links_get (f : Nat → Option Nat) (L : Nat) (h : L < 8) : (links f)[L]? = some (pv (f L)) := by
  obtain rfl | rfl | rfl | rfl | rfl | rfl | rfl | rfl : L = 0 ∨ L = 1 ∨ L = 2 ∨ L = 3 ∨ L = 4 ∨ L = 5 ∨ L = 6 ∨ L = 7 := by omega
  all_goals rfl
theorem links_set (f : Nat → Option Nat) (L : Nat) (o : Option Nat) (h : L < 8) : (links f).set L (pv o) = links (fun K => if K = L then o else f K) := by
  obtain rfl | rfl | rfl | rfl | rfl | rfl | rfl | rfl : L = 0 ∨ L = 1 ∨ L = 2 ∨ L = 3 ∨ L = 4 ∨ L = 5 ∨ L = 6 ∨ L = 7 := by omega
  all_goals rfl
theorem links_len (f : Nat → Option Nat) : (links f).length = 8 := rfl
theorem links_ext {f g : Nat → Option Nat} (h : ∀ L, L < 8 → f L = g L) : links f = links g := by
  unfold links
  rw [h 0 (by decide), h 1 (by decide), h 2 (by decide), h 3 (by decide), h 4 (by decide), h 5 (by decide), h 6 (by decide), h 7 (by decide)]
/-- The nodes lie on the heap. -/
def Chain (w : World) : List Nd → Prop
  | [] => True
  | d :: r => w.heap[d.b]? = some (.cells (nodeC d r).toArray 78 (0, 0)) ∧ Chain w r
theorem Chain.at {w : World} : ∀ {ns : List Nd}, Chain w ns → ∀ (i : Nat) (h : i < ns.length), w.heap[ns[i].b]? = some (.cells (nodeC ns[i] (ns.drop (i + 1))).toArray 78 (0, 0))
  | [], _, i, h => absurd h (Nat.not_lt_zero _)
  | d :: r, hc, 0, h => hc.1
  | d :: r, hc, i + 1, h => by
    have := hc.2.at i (by simpa using h)
    simpa using this
theorem Chain.of {w : World} : ∀ {ns : List Nd}, (∀ (i : Nat) (h : i < ns.length), w.heap[ns[i].b]? = some (.cells (nodeC ns[i] (ns.drop (i + 1))).toArray 78 (0, 0))) → Chain w ns
  | [], _ => trivial
  | d :: r, hc => ⟨hc 0 (by simp), Chain.of fun i h => by
    have := hc (i + 1) (by simpa using h)
    simpa using this⟩
theorem nx_none {L : Nat} : ∀ {l : List Nd}, nx L l = none → ∀ d ∈ l, ¬ L < d.h
  | [], _, d, hd => by cases hd
  | e :: r, h, d, hd => by
    unfold nx at h
    split at h
    · cases h
    · rcases List.mem_cons.1 hd with rfl | hd
      · assumption
      · exact nx_none h d hd
theorem nx_some {L b : Nat} : ∀ {l : List Nd}, nx L l = some b → ∃ q, ∃ h : q < l.length, l[q].b = b ∧ L < l[q].h ∧ ∀ j (hj : j < q), ¬ L < (l[j]'(by omega)).h
  | [], h => by cases h
  | e :: r, h => by
    unfold nx at h
    split at h
    · injection h with h
      exact ⟨0, by simp, h, by assumption, fun j hj => absurd hj (Nat.not_lt_zero _)⟩
    · obtain ⟨q, hq, h1, h2, h3⟩ := nx_some h
      refine ⟨q + 1, by simpa using hq, by simpa using h1, by simpa using h2, fun j hj => ?_⟩
      cases j with
      | zero => assumption
      | succ j => simpa using h3 j (by omega)
theorem nx_skip {L : Nat} : ∀ {a b : List Nd}, (∀ d ∈ a, ¬ L < d.h) → nx L (a ++ b) = nx L b
  | [], _, _ => rfl
  | e :: a, b, h => by
    rw [List.cons_append, nx, if_neg (h e (by simp))]
    exact nx_skip fun d hd => h d (by simp [hd])
theorem nx_front {L : Nat} : ∀ {a b c : List Nd}, (∃ d ∈ a, L < d.h) → nx L (a ++ b) = nx L (a ++ c)
  | [], _, _, ⟨d, hd, _⟩ => by cases hd
  | e :: a, b, c, ⟨d, hd, hL⟩ => by
    rw [List.cons_append, List.cons_append, nx, nx]
    split
    · rfl
    · rename_i hn
      rcases List.mem_cons.1 hd with rfl | hd
      · exact absurd hL hn
      · exact nx_front ⟨d, hd, hL⟩
/-- A table in block t; its heights hs lie in the slice hv. -/
structure Skip (w : World) (B t : Nat) (ns : List Nd) (n bytes : Int) (hv : Value) (hs : List Int) (turn : Int) : Prop where
  tab : w.heap[t]? = some (.cells (tabC n bytes ns hv turn).toArray 80 (0, 0))
  chain : Chain w ns
  tbase : B ≤ t
  nbase : ∀ d ∈ ns, B ≤ d.b ∧ d.b ≠ t
  nodup : (ns.map (·.b)).Nodup
  high : ∀ d ∈ ns, 1 ≤ d.h ∧ d.h ≤ 8
  rise : ns.Pairwise fun a b => cmpE a.x b.x < 0
  hown : w.ownsRow B 3 1 hv hs.length (hs.map (Value.int .i64))
  hne : ∀ k, hv.ownBlock = some k → k ≠ t ∧ ∀ d ∈ ns, d.b ≠ k
  hsOk : ∀ h ∈ hs, 1 ≤ h ∧ h ≤ 8
/-- Where the position p lies: the head, or the node behind which it stands. -/
def pb (t : Nat) (ns : List Nd) : Nat → Nat × Nat
  | 0 => (t, 2)
  | p + 1 => ((ns[p]?.map (·.b)).getD 0, 0)
section
variable {w w' : World} {B t : Nat} {ns : List Nd} {n bytes turn : Int} {hv : Value} {hs : List Int}
theorem Skip.tlt (h : Skip w B t ns n bytes hv hs turn) : t < w.heap.size := (Array.getElem?_eq_some_iff.1 h.tab).1
theorem Skip.nlt (h : Skip w B t ns n bytes hv hs turn) (i : Nat) (hi : i < ns.length) : ns[i].b < w.heap.size := (Array.getElem?_eq_some_iff.1 (h.chain.at i hi)).1
theorem pb_succ (t : Nat) (ns : List Nd) (p : Nat) (h : p < ns.length) : pb t ns (p + 1) = (ns[p].b, 0) := by
  show ((ns[p]?.map (·.b)).getD 0, 0) = _
  rw [List.getElem?_eq_getElem h]
  rfl
/-- The next node from position p on, at the height L. -/
theorem Skip.next (h : Skip w B t ns n bytes hv hs turn) (p L : Nat) (hp : p ≤ ns.length) (hL : L < 8) (hh : p = 0 ∨ ∃ hq : p - 1 < ns.length, L < ns[p - 1].h) :
    w.cell? ⟨(pb t ns p).1, (pb t ns p).2 + 4 + L, none⟩ = some (pv (nx L (ns.drop p))) := by
  cases p with
  | zero =>
    show w.cell? ⟨t, 2 + 4 + L, none⟩ = _
    rw [cell_of_row w t _ _ _ _ h.tab, List.getElem?_toArray, tabC, List.append_assoc, List.append_assoc, List.getElem?_append_right (by simp; omega), List.getElem?_append_right (by simp [noEnt, Ent.cells]; omega),
      List.getElem?_append_left (by simp [noEnt, Ent.cells, links_len]; omega)]
    simp only [noEnt, Ent.cells, List.length_cons, List.length_nil]
    rw [show 2 + 4 + L - (0 + 1 + 1) - (0 + 1 + 1 + 1 + 1) = L by omega, links_get _ _ hL]
    rfl
  | succ p =>
    have hp' : p < ns.length := by omega
    rw [pb_succ t ns p hp']
    show w.cell? ⟨ns[p].b, 0 + 4 + L, none⟩ = _
    rcases hh with hh | ⟨hq, hh⟩
    · omega
    · have hh' : L < ns[p].h := by simpa using hh
      rw [cell_of_row w _ _ _ _ _ (h.chain.at p hp'), List.getElem?_toArray, nodeC, List.getElem?_append_right (by simp [Ent.cells])]
      simp only [Ent.cells, List.length_cons, List.length_nil]
      rw [show 0 + 4 + L - (0 + 1 + 1 + 1 + 1) = L by omega, links_get _ _ hL, own, if_pos hh']
theorem Skip.ent (h : Skip w B t ns n bytes hv hs turn) (i : Nat) (hi : i < ns.length) :
    w.cell? ⟨ns[i].b, 0, none⟩ = some (.string ns[i].x.key) ∧ w.cell? ⟨ns[i].b, 1, none⟩ = some (.int .i64 ns[i].x.seq) ∧ w.cell? ⟨ns[i].b, 2, none⟩ = some (.bool ns[i].x.dead) ∧ w.cell? ⟨ns[i].b, 3, none⟩ = some (.string ns[i].x.val) := by
  have hc := h.chain.at i hi
  refine ⟨?_, ?_, ?_, ?_⟩
  · rw [cell_of_row w _ 0 _ _ _ hc]; rfl
  · rw [cell_of_row w _ 1 _ _ _ hc]; rfl
  · rw [cell_of_row w _ 2 _ _ _ hc]; rfl
  · rw [cell_of_row w _ 3 _ _ _ hc]; rfl
theorem Skip.upd {S : Nat → Prop} (h : Skip w B t ns n bytes hv hs turn) (hu : Upd S w w') (hs' : ∀ k, B ≤ k → k < w.heap.size → ¬ S k) : Skip w' B t ns n bytes hv hs turn where
  tab := (hu.block t h.tlt (hs' t h.tbase h.tlt)).trans h.tab
  chain := Chain.of fun i hi => (hu.block _ (h.nlt i hi) (hs' _ (h.nbase _ (List.getElem_mem hi)).1 (h.nlt i hi))).trans (h.chain.at i hi)
  tbase := h.tbase
  nbase := h.nbase
  nodup := h.nodup
  high := h.high
  rise := h.rise
  hown := own_upd h.hown hu fun k hk => hs' k (h.hown.lt k hk).1 (h.hown.lt k hk).2
  hne := h.hne
  hsOk := h.hsOk
theorem Skip.below (h : Skip w B t ns n bytes hv hs turn) (hb : Below w.heap.size w w') : Skip w' B t ns n bytes hv hs turn := h.upd (S := fun _ => False) (Upd.of_below hb) (fun _ _ _ h => h)
end
end Go.Proofs.Ytcfgmkiohmbdlaa
