/- Cabins: blocks whose seats are overwritten one by one. -/
import Derived.Test.YtddiabpjmnmllaaDoorJCbMpM
namespace Go.Proofs.YtddiabpjmnmllaaDoor
open Go.RowKit Go.Lib
/-- The blocks that may be written to. -/
def SMp (a b c d k : Nat) : Prop := (a ≤ k ∧ k < b) ∨ (c ≤ k ∧ k < d)
structure XAt (wx w1 : World) (a b lo hi : Nat) (v : Value) (N j : Nat) (out : List MBlk) (vs : List Value) : Prop where
  row : BlkRow wx lo v out vs
  len : out.length = N
  neg : ∀ (i : Nat) (x : MBlk), i < j → out[i]? = some x → ∀ s ∈ x.seats, s.num < 0
  small : ∀ (i : Nat) (x : MBlk), out[i]? = some x → x.seats.length ≤ if i < j then 67 else 66
  outer : ∀ k, v.ownBlock = some k → k < hi
  inner : ∀ (i : Nat) (u : Value) (k : Nat), vs[i]? = some u → u.ownBlock = some k → k < hi ∨ w1.heap.size ≤ k
  upd : Upd (SMp a b lo hi) w1 wx
/-- The first k seats of a block have gone. -/
def NegTo (out : List MBlk) (j k n : Nat) : Prop := ∃ x, out[j]? = some x ∧ x.seats.length = n ∧ ∀ (i : Nat) (s : MSeat), i < k → x.seats[i]? = some s → s.num < 0
theorem upd_at {S : Nat → Prop} {w1 wx w' : World} {g : Nat} (h : Upd S w1 wx) (h2 : Upd (fun k => k = g) wx w') (hg : g < w1.heap.size → S g) : Upd S w1 w' :=
  h.trans h2 (fun k hk e => by subst e; exact hg hk)
theorem XAt.set {wx w1 : World} {a b lo hi N j k n g c : Nat} {v : Value} {out : List MBlk} {vs : List Value} (h : XAt wx w1 a b lo hi v N j out vs) (hj : j < N) (hn : NegTo out j k n) (hk : k < n) (hv : vs[j]? = some (.slice (some ⟨g, 0, none⟩) n c)) :
    ∃ out', XAt ((wx.setCell ⟨g, k * 2, none⟩ (.int .i64 (-1))).setCell ⟨g, k * 2 + 1, none⟩ (.int .u8 0)) w1 a b lo hi v N j out' vs ∧ NegTo out' j (k + 1) n := by
  obtain ⟨x, hx, hxn, hneg⟩ := hn
  obtain ⟨hjl, rfl⟩ := List.getElem?_eq_some_iff.1 hx
  have hg : ∀ hgl : g < w1.heap.size, SMp a b lo hi g := fun hgl => by
    have h1 := (h.row.own j hjl _ hv).lt g rfl
    rcases h.inner j _ g hv rfl with h2 | h2
    · exact .inr ⟨h1.1, h2⟩
    · omega
  have hrow := h.row.set (b := j) (j := k) (s := ⟨-1, 0⟩) hjl (by rw [hxn]; exact hv) (by omega)
  have hget : ∀ (i : Nat) (y : MBlk), (out.modify j fun x => { x with seats := x.seats.set k ⟨-1, 0⟩ })[i]? = some y → (i ≠ j ∧ out[i]? = some y) ∨ (i = j ∧ y = { out[j] with seats := (out[j]).seats.set k ⟨-1, 0⟩ }) := by
    intro i y hy
    rw [List.getElem?_modify] at hy
    by_cases e : j = i
    · subst e
      rw [hx] at hy
      simp at hy
      exact .inr ⟨rfl, hy.symm⟩
    · cases hoi : out[i]? with
      | none => rw [hoi] at hy; simp at hy
      | some z => rw [hoi] at hy; simp [e] at hy; exact .inl ⟨fun e2 => e e2.symm, by rw [hy]⟩
  refine ⟨out.modify j fun x => { x with seats := x.seats.set k ⟨-1, 0⟩ }, ⟨hrow, by simpa using h.len, fun i y hi hy => ?_, fun i y hy => ?_, h.outer, h.inner, ?_⟩, ?_⟩
  · rcases hget i y hy with ⟨_, hy⟩ | ⟨rfl, _⟩
    · exact h.neg i y hi hy
    · omega
  · rcases hget i y hy with ⟨_, hy⟩ | ⟨rfl, rfl⟩
    · exact h.small i y hy
    · have := h.small i _ hx
      simpa using this
  · exact upd_at (upd_at h.upd ((Upd.refl (fun k => k = g) wx).setCell ⟨g, k * 2, none⟩ rfl _) hg) ((Upd.refl (fun k => k = g) _).setCell ⟨g, k * 2 + 1, none⟩ rfl _) hg
  · refine ⟨{ out[j] with seats := (out[j]).seats.set k ⟨-1, 0⟩ }, by rw [List.getElem?_modify, hx]; simp, by simpa using hxn, fun i s hi hs => ?_⟩
    simp only [List.getElem?_set] at hs
    by_cases e : k = i
    · subst e
      rw [if_pos rfl, if_pos (by omega)] at hs
      injection hs with hs
      rw [← hs]; decide
    · rw [if_neg e] at hs
      exact hneg i s (by omega) hs
theorem XAt.push {wx w1 w' : World} {a b lo hi N j n g c : Nat} {out : List MBlk} {vs : List Value} {u u' : Value} (h : XAt wx w1 a b lo hi (.slice (some ⟨g, 0, none⟩) N c) N j out vs) (hj : j < N) (hn : NegTo out j n n) (hv : vs[j]? = some u)
    (ho : ∀ x, out[j]? = some x → w'.ownsRow lo 32 2 u' (n + 1) (catv seatC x.seats ++ seatC ⟨-2, 0⟩)) (hu : Upd (fun k => u.ownBlock = some k) wx w') (hat : RowAt wx u u') (hs1 : w1.heap.size ≤ wx.heap.size) :
    ∃ out' vs', XAt (w'.setCell ⟨g, j * 4 + 3, none⟩ u') w1 a b lo hi (.slice (some ⟨g, 0, none⟩) N c) N (j + 1) out' vs' := by
  obtain ⟨x, hx, hxn, hneg⟩ := hn
  have ho := ho x hx
  obtain ⟨hjl, rfl⟩ := List.getElem?_eq_some_iff.1 hx
  have hrow := h.row.push (b := j) (s := ⟨-2, 0⟩) h.len.symm hjl hv (by rw [hxn]; exact ho) hu hat
  have hsg := h.row.row.lt g rfl
  have hgo := h.outer g rfl
  have hget : ∀ (i : Nat) (y : MBlk), (out.modify j fun x => { x with seats := x.seats ++ [⟨-2, 0⟩] })[i]? = some y → (i ≠ j ∧ out[i]? = some y) ∨ (i = j ∧ y = { out[j] with seats := (out[j]).seats ++ [⟨-2, 0⟩] }) := by
    intro i y hy
    rw [List.getElem?_modify] at hy
    by_cases e : j = i
    · subst e
      rw [hx] at hy
      simp at hy
      exact .inr ⟨rfl, hy.symm⟩
    · cases hoi : out[i]? with
      | none => rw [hoi] at hy; simp at hy
      | some z => rw [hoi] at hy; simp [e] at hy; exact .inl ⟨fun e2 => e e2.symm, by rw [hy]⟩
  refine ⟨out.modify j fun x => { x with seats := x.seats ++ [⟨-2, 0⟩] }, vs.set j u', ⟨hrow, by simpa using h.len, fun i y hi hy => ?_, fun i y hy => ?_, h.outer, fun i z k hz hk => ?_, ?_⟩⟩
  · rcases hget i y hy with ⟨hne, hy⟩ | ⟨rfl, rfl⟩
    · exact h.neg i y (by omega) hy
    · intro s hs
      rcases List.mem_append.1 hs with hs | hs
      · obtain ⟨q, hq, rfl⟩ := List.mem_iff_getElem.1 hs
        exact hneg q _ (by omega) (List.getElem?_eq_getElem hq)
      · simp at hs; rw [hs]; decide
  · rcases hget i y hy with ⟨hne, hy⟩ | ⟨rfl, rfl⟩
    · have := h.small i y hy
      split at this <;> split <;> omega
    · have := h.small i _ hx
      simp only [List.length_append, List.length_singleton]
      rw [if_neg (by omega)] at this
      rw [if_pos (by omega)]
      omega
  · rw [List.getElem?_set] at hz
    by_cases e : j = i
    · subst e
      rw [if_pos rfl, if_pos (by rw [h.row.len]; exact hjl)] at hz
      injection hz with hz
      subst hz
      rcases hat with h1 | ⟨k', hk', h1⟩
      · rw [h1] at hk; exact h.inner j u k hv hk
      · rw [hk] at h1; injection h1 with h1; right; omega
    · rw [if_neg e] at hz
      exact h.inner i z k hz hk
  · refine upd_at (h.upd.trans hu (fun k hk e => ?_)) ((Upd.refl (fun k => k = g) w').setCell ⟨g, j * 4 + 3, none⟩ rfl _) (fun hgl => .inr ⟨hsg.1, hgo⟩)
    rcases h.inner j u k hv e with h2 | h2
    · exact .inr ⟨((h.row.own j hjl u hv).lt k e).1, h2⟩
    · omega
end Go.Proofs.YtddiabpjmnmllaaDoor
