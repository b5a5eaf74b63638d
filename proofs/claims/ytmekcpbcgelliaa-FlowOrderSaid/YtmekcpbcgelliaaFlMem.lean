/- Flows: networks in memory. -/
import Derived.Test.YtmekcpbcgelliaaFlGraph
import Derived.Test.YtmekcpbcgelliaaFlP3
namespace Go.Proofs.Ytmekcpbcgelliaa
open Go.RowKit
/-! ### Arcs that come in -/
abbrev Ar := Int × Int × Int × Int
def arv (l : List Ar) : List Value := l.flatMap fun e => [.int .i64 e.1, .int .i64 e.2.1, .int .i64 e.2.2.1, .int .i64 e.2.2.2]
theorem arv_cons (x : Ar) (l : List Ar) : arv (x :: l) = [.int .i64 x.1, .int .i64 x.2.1, .int .i64 x.2.2.1, .int .i64 x.2.2.2] ++ arv l := by simp [arv]
theorem arv_append (a b : List Ar) : arv (a ++ b) = arv a ++ arv b := by simp [arv]
theorem arv_one (x : Ar) : arv [x] = [.int .i64 x.1, .int .i64 x.2.1, .int .i64 x.2.2.1, .int .i64 x.2.2.2] := by simp [arv]
theorem arv_length (l : List Ar) : (arv l).length = l.length * 4 := by
  induction l with
  | nil => rfl
  | cons i l ih => rw [arv_cons, List.length_append, ih, List.length_cons]; simp only [List.length_cons, List.length_nil]; omega
theorem arv_cell (l : List Ar) : ∀ u ∈ arv l, u.oneCell' = true := by
  intro u hu
  simp only [arv, List.mem_flatMap] at hu
  obtain ⟨x, _, hx⟩ := hu
  simp only [List.mem_cons, List.not_mem_nil, or_false] at hx
  rcases hx with rfl | rfl | rfl | rfl <;> rfl
theorem arv_get (l : List Ar) : ∀ (k j : Nat) (h : k < l.length), j < 4 → (arv l)[4 * k + j]? = [Value.int .i64 l[k].1, .int .i64 l[k].2.1, .int .i64 l[k].2.2.1, .int .i64 l[k].2.2.2][j]? := by
  induction l with
  | nil => intro k j h; simp at h
  | cons i l ih =>
    intro k j h hj
    rw [arv_cons]
    cases k with
    | zero => rw [List.getElem?_append_left (by simp; omega)]; simp
    | succ k =>
      rw [List.getElem?_append_right (by simp; omega)]
      simp only [List.length_cons, List.length_nil] at h ⊢
      rw [show 4 * (k + 1) + j - (0 + 1 + 1 + 1 + 1) = 4 * k + j by omega, ih k j (by omega) hj]
      rfl
theorem Rd.arc {w : World} {B n k : Nat} {A : Option Addr} {l : List Ar} (h : Rd w B 4 A n (arv l)) (hk : k < n) :
    ∃ b off, A = some ⟨b, off, none⟩ ∧ b < B ∧ ∃ hs : k < l.length, w.cell? ⟨b, off + k * 4, none⟩ = some (.int .i64 l[k].1) ∧ w.cell? ⟨b, off + k * 4 + 1, none⟩ = some (.int .i64 l[k].2.1) ∧
      w.cell? ⟨b, off + k * 4 + 2, none⟩ = some (.int .i64 l[k].2.2.1) ∧ w.cell? ⟨b, off + k * 4 + 3, none⟩ = some (.int .i64 l[k].2.2.2) := by
  have hs : k < l.length := by have := h.len; rw [arv_length] at this; omega
  obtain ⟨ad, e, hb, hc⟩ := h.at_ (by omega)
  have h0 := hc _ _ (by have := arv_get l k 0 hs (by omega); simpa using this)
  have h1 := hc _ _ (by have := arv_get l k 1 hs (by omega); simpa using this)
  have h2 := hc _ _ (by have := arv_get l k 2 hs (by omega); simpa using this)
  have h3 := hc _ _ (by have := arv_get l k 3 hs (by omega); simpa using this)
  obtain ⟨b, off, spot⟩ := ad
  have hz := hc _ _ (by have := arv_get l 0 0 (by omega) (by omega); simpa using this)
  have hspot : spot = none := by simpa [Addr.add] using World.cell?_spot hz
  subst hspot
  rw [add_flat, show 4 * k = k * 4 by omega] at h0
  rw [add_flat, show off + (4 * k + 1) = off + k * 4 + 1 by omega] at h1
  rw [add_flat, show off + (4 * k + 2) = off + k * 4 + 2 by omega] at h2
  rw [add_flat, show off + (4 * k + 3) = off + k * 4 + 3 by omega] at h3
  exact ⟨b, off, e, hb, hs, h0, h1, h2, h3⟩
theorem rd_arlen {w : World} {B n : Nat} {A : Option Addr} {l : List Ar} (h : Rd w B 4 A n (arv l)) : n = l.length := by have := h.len; rw [arv_length] at this; omega
/-- The arcs as a network. -/
def nwOf (l : List Ar) : Nw := ⟨l.length, fun i => (l.getD i (0, 0, 0, 0)).1.toNat, fun i => (l.getD i (0, 0, 0, 0)).2.1.toNat, fun i => (l.getD i (0, 0, 0, 0)).2.2.1, fun i => (l.getD i (0, 0, 0, 0)).2.2.2⟩
theorem nw_at {l : List Ar} {i : Nat} (h : i < l.length) : (nwOf l).fr i = l[i].1.toNat ∧ (nwOf l).to i = l[i].2.1.toNat ∧ (nwOf l).cap i = l[i].2.2.1 ∧ (nwOf l).cost i = l[i].2.2.2 := by
  have e : l.getD i (0, 0, 0, 0) = l[i] := by rw [List.getD_eq_getElem?_getD, List.getElem?_eq_getElem h]; rfl
  unfold nwOf
  simp only [e]
  exact ⟨trivial, trivial, trivial, trivial⟩
def okA (nodes : Int) (a : Ar) : Prop := (0 ≤ a.1 ∧ a.1 < nodes) ∧ (0 ≤ a.2.1 ∧ a.2.1 < nodes) ∧ a.1 ≠ a.2.1 ∧ (0 ≤ a.2.2.1 ∧ a.2.2.1 ≤ 200) ∧ (0 ≤ a.2.2.2 ∧ a.2.2.2 ≤ 1000)
/-- What goes out of s, up to the arc number k. -/
def outTo (l : List Ar) (s : Nat) (k : Nat) : Int := sm k fun i => if (nwOf l).fr i = s then (nwOf l).cap i else 0
/-- A right network. -/
def GoodN (nodes s t : Int) (l : List Ar) : Prop := (2 ≤ nodes ∧ nodes ≤ 200) ∧ (0 ≤ s ∧ s < nodes) ∧ (0 ≤ t ∧ t < nodes) ∧ s ≠ t ∧ l.length ≤ 4000 ∧ (∀ a ∈ l, okA nodes a) ∧ outTo l s.toNat l.length ≤ 200
theorem GoodN.ok {nodes s t : Nat} {l : List Ar} (h : GoodN nodes s t l) : NwOk (nwOf l) nodes s t := by
  obtain ⟨h1, h2, h3, h4, h5, h6, h7⟩ := h
  have ha : ∀ i, (hi : i < l.length) → okA nodes l[i] := fun i hi => h6 _ (List.getElem_mem hi)
  refine ⟨by omega, by omega, fun e => h4 (by rw [e]), by omega, h5, fun i hi => ?_, fun i hi => ?_, fun i hi => ?_, fun i hi => ?_, ?_⟩
  · obtain ⟨n1, n2, n3, n4⟩ := nw_at (l := l) hi
    obtain ⟨a1, a2, a3, a4, a5⟩ := ha i hi
    rw [n1, n2]; omega
  · obtain ⟨n1, n2, n3, n4⟩ := nw_at (l := l) hi
    obtain ⟨a1, a2, a3, a4, a5⟩ := ha i hi
    rw [n1, n2]; omega
  · obtain ⟨n1, n2, n3, n4⟩ := nw_at (l := l) hi
    obtain ⟨a1, a2, a3, a4, a5⟩ := ha i hi
    rw [n3]; exact a4
  · obtain ⟨n1, n2, n3, n4⟩ := nw_at (l := l) hi
    obtain ⟨a1, a2, a3, a4, a5⟩ := ha i hi
    rw [n4]; exact a5
  · rw [Int.toNat_natCast] at h7; exact h7
/-! ### The rows of arcs -/
def pushR (rows : List (List Nat)) (v j : Nat) : List (List Nat) := rows.set v (nearOf rows v ++ [j])
def rowsO (nodes : Nat) (l : List Ar) (k : Nat) : List (List Nat) := (List.range k).foldl (fun r i => pushR (pushR r ((nwOf l).fr i) (2 * i)) ((nwOf l).to i) (2 * i + 1)) (List.replicate nodes [])
theorem rowsO_succ (nodes : Nat) (l : List Ar) (k : Nat) : rowsO nodes l (k + 1) = pushR (pushR (rowsO nodes l k) ((nwOf l).fr k) (2 * k)) ((nwOf l).to k) (2 * k + 1) := by
  unfold rowsO
  rw [List.range_succ, List.foldl_append]
  rfl
theorem pushR_len (r : List (List Nat)) (v j : Nat) : (pushR r v j).length = r.length := by simp [pushR]
theorem rowsO_len (nodes : Nat) (l : List Ar) (k : Nat) : (rowsO nodes l k).length = nodes := by
  induction k with
  | zero => simp [rowsO]
  | succ k ih => rw [rowsO_succ, pushR_len, pushR_len, ih]
theorem near_pushR {r : List (List Nat)} {v : Nat} (h : v < r.length) (j a : Nat) : nearOf (pushR r v j) a = if a = v then nearOf r a ++ [j] else nearOf r a := by
  unfold nearOf pushR
  rw [List.getD_eq_getElem?_getD, List.getD_eq_getElem?_getD, List.getElem?_set]
  by_cases e : a = v
  · rw [if_pos e, if_pos e.symm, if_pos h, e]
    simp [nearOf]
  · rw [if_neg e, if_neg (fun e' => e e'.symm)]
theorem mem_rowsO {nodes : Nat} {l : List Ar} (hl : ∀ a ∈ l, okA nodes a) : ∀ k, k ≤ l.length → ∀ v j, j ∈ nearOf (rowsO nodes l k) v ↔ j < 2 * k ∧ rfr (nwOf l) j = v := by
  intro k
  induction k with
  | zero =>
    intro _ v j
    constructor
    · intro h
      unfold rowsO nearOf at h
      simp only [List.range_zero, List.foldl_nil, List.getD_eq_getElem?_getD, List.getElem?_replicate] at h
      split at h <;> simp at h
    · intro h; omega
  | succ k ih =>
    intro hk v j
    have hk' : k < l.length := by omega
    obtain ⟨n1, n2, _, _⟩ := nw_at (l := l) hk'
    obtain ⟨a1, a2, _⟩ := hl _ (List.getElem_mem hk')
    have hlen := rowsO_len nodes l k
    have hf : (nwOf l).fr k < nodes := by rw [n1]; omega
    have ht : (nwOf l).to k < nodes := by rw [n2]; omega
    rw [rowsO_succ, near_pushR (by rw [pushR_len, hlen]; exact ht), near_pushR (by rw [hlen]; exact hf)]
    have e0 : rfr (nwOf l) (2 * k) = (nwOf l).fr k := by unfold rfr; rw [if_pos (by omega), show 2 * k / 2 = k by omega]
    have e1 : rfr (nwOf l) (2 * k + 1) = (nwOf l).to k := by unfold rfr; rw [if_neg (by omega), show (2 * k + 1) / 2 = k by omega]
    have key : j ∈ nearOf (rowsO nodes l k) v ↔ j < 2 * k ∧ rfr (nwOf l) j = v := ih (by omega) v j
    have split : (j < 2 * (k + 1) ∧ rfr (nwOf l) j = v) ↔ ((j < 2 * k ∧ rfr (nwOf l) j = v) ∨ (j = 2 * k ∧ v = (nwOf l).fr k)) ∨ (j = 2 * k + 1 ∧ v = (nwOf l).to k) := by
      constructor
      · rintro ⟨h1, h2⟩
        by_cases x : j < 2 * k
        · exact .inl (.inl ⟨x, h2⟩)
        · by_cases y : j = 2 * k
          · subst y; exact .inl (.inr ⟨rfl, by rw [← h2, e0]⟩)
          · obtain rfl : j = 2 * k + 1 := by omega
            exact .inr ⟨rfl, by rw [← h2, e1]⟩
      · rintro ((⟨h1, h2⟩ | ⟨rfl, rfl⟩) | ⟨rfl, rfl⟩)
        · exact ⟨by omega, h2⟩
        · exact ⟨by omega, e0⟩
        · exact ⟨by omega, e1⟩
    have m1 : ∀ (L : List Nat) a, j ∈ L ++ [a] ↔ j ∈ L ∨ j = a := by simp
    rw [split, ← key]
    clear split key
    by_cases y : v = (nwOf l).to k
    · rw [if_pos y, m1, and_iff_left y]
      by_cases x : v = (nwOf l).fr k
      · rw [if_pos x, m1, and_iff_left x]
      · rw [if_neg x]; simp only [x, and_false, or_false]
    · rw [if_neg y]
      by_cases x : v = (nwOf l).fr k
      · rw [if_pos x, m1, and_iff_left x]; simp only [y, and_false, or_false]
      · rw [if_neg x]; simp only [x, y, and_false, or_false]
theorem rowsO_len_le (nodes : Nat) (l : List Ar) : ∀ k v, (nearOf (rowsO nodes l k) v).length ≤ 2 * k := by
  intro k
  induction k with
  | zero =>
    intro v
    unfold rowsO nearOf
    simp only [List.range_zero, List.foldl_nil, List.getD_eq_getElem?_getD, List.getElem?_replicate]
    split <;> simp
  | succ k ih =>
    intro v
    have h1 : ∀ (r : List (List Nat)) x j, (nearOf (pushR r x j) v).length ≤ (nearOf r v).length + 1 := fun r x j => by
      by_cases hx : x < r.length
      · rw [near_pushR hx]
        split <;> simp
      · unfold pushR
        rw [List.set_eq_of_length_le (by omega)]
        omega
    rw [rowsO_succ]
    have a := h1 (pushR (rowsO nodes l k) ((nwOf l).fr k) (2 * k)) ((nwOf l).to k) (2 * k + 1)
    have b := h1 (rowsO nodes l k) ((nwOf l).fr k) (2 * k)
    have := ih v
    omega
/-! ### In memory -/
/-- The blocks of the rows. -/
def RowB (N : Nat) (vs : List Value) (k : Nat) : Prop := k = N ∨ ∃ (i : Nat) (v : Value), vs[i]? = some v ∧ v.ownBlock = some k
theorem Nears.updB {S : Nat → Prop} {w w' : World} {N : Nat} {rows : List (List Nat)} {vs : List Value} (h : Nears w N rows vs) (hu : Upd S w w') (hs : ∀ k, RowB N vs k → ¬ S k) : Nears w' N rows vs :=
  ⟨(hu.block N h.lt (hs N (.inl rfl))).trans h.blk, h.len, fun i v l hv hl => own_upd (h.own i v l hv hl) hu fun k hk => hs k (.inr ⟨i, v, hv, hk⟩), h.apart⟩
theorem own_elem {w : World} {base size n k : Nat} {e : TypeId} {v : Value} {xs : List Value} (h : w.ownsRow base e size v n xs) (hk : v.ownBlock = some k) : ∃ cur, w.heap[k]? = some (.cells cur e (0, 0)) := by
  rcases h.2 with ⟨rfl, _⟩ | ⟨g, cap, cur, rfl, hb, hg, _⟩
  · simp [Value.ownBlock] at hk
  · simp [Value.ownBlock] at hk
    subst hk
    exact ⟨cur, hg⟩
theorem Nears.elem {w : World} {N : Nat} {rows : List (List Nat)} {vs : List Value} (h : Nears w N rows vs) {k : Nat} (hk : RowB N vs k) : ∃ cur, w.heap[k]? = some (.cells cur 3 (0, 0)) ∨ w.heap[k]? = some (.cells cur 39 (0, 0)) := by
  rcases hk with rfl | ⟨i, v, hv, hk⟩
  · exact ⟨_, .inr h.blk⟩
  · have hi : i < rows.length := by rw [← h.len]; exact (List.getElem?_eq_some_iff.1 hv).1
    obtain ⟨cur, hc⟩ := own_elem (h.own i v _ hv (List.getElem?_eq_getElem hi)) hk
    exact ⟨cur, .inl hc⟩
/-- A block of another type is none of the rows'. -/
theorem Nears.other {w : World} {N : Nat} {rows : List (List Nat)} {vs : List Value} (h : Nears w N rows vs) {k : Nat} {cur : Array Value} {e : TypeId} (hk : w.heap[k]? = some (.cells cur e (0, 0))) (h1 : e ≠ 3) (h2 : e ≠ 39) : ¬ RowB N vs k := by
  intro hr
  obtain ⟨c, hc | hc⟩ := h.elem hr
  · rw [hk] at hc
    injection hc with hc
    injection hc with _ hc
    exact h1 hc
  · rw [hk] at hc
    injection hc with hc
    injection hc with _ hc
    exact h2 hc
/-- What the arcs read as. -/
def arcv (N : Nw) (room : Nat → Int) (n : Nat) : List Value := (List.range n).flatMap fun j => [.int .i64 (rto N j : Nat), .int .i64 (room j), .int .i64 (rc N j)]
theorem arcv_succ (N : Nw) (room : Nat → Int) (n : Nat) : arcv N room (n + 1) = arcv N room n ++ [.int .i64 (rto N n : Nat), .int .i64 (room n), .int .i64 (rc N n)] := by
  unfold arcv
  rw [List.range_succ, List.flatMap_append]
  simp
theorem arcv_length (N : Nw) (room : Nat → Int) (n : Nat) : (arcv N room n).length = n * 3 := by
  induction n with
  | zero => rfl
  | succ n ih => rw [arcv_succ, List.length_append, ih]; simp only [List.length_cons, List.length_nil]; omega
theorem arcv_get (N : Nw) (room : Nat → Int) (n : Nat) : ∀ (k j : Nat), k < n → j < 3 → (arcv N room n)[3 * k + j]? = [Value.int .i64 (rto N k : Nat), .int .i64 (room k), .int .i64 (rc N k)][j]? := by
  induction n with
  | zero => intro k j h; omega
  | succ n ih =>
    intro k j hk hj
    rw [arcv_succ]
    by_cases e : k < n
    · rw [List.getElem?_append_left (by rw [arcv_length]; omega)]
      exact ih k j e hj
    · obtain rfl : k = n := by omega
      rw [List.getElem?_append_right (by rw [arcv_length]; omega), arcv_length, show 3 * k + j - k * 3 = j by omega]
/-- The rooms at the start: all of each arc, nothing of the one back. -/
def room0 (N : Nw) (j : Nat) : Int := if j % 2 = 0 then N.cap (j / 2) else 0
/-- The arcs in their block, as they are gone. -/
structure ArcsAt (w : World) (R : Nat) (N : Nw) (room : List Int) : Prop where
  blk : ∃ cur, w.heap[R]? = some (.cells cur 71 (0, 0)) ∧ ∀ j, j < 2 * N.m → cur[3 * j]? = some (.int .i64 (rto N j : Nat)) ∧ cur[3 * j + 1]? = some (.int .i64 (gi room j)) ∧ cur[3 * j + 2]? = some (.int .i64 (rc N j))
  len : room.length = 2 * N.m
section
variable {w w' : World} {R : Nat} {N : Nw} {room : List Int}
theorem ArcsAt.lt (h : ArcsAt w R N room) : R < w.heap.size := by
  obtain ⟨_, h, _⟩ := h.blk
  exact (Array.getElem?_eq_some_iff.1 h).1
theorem ArcsAt.upd {S : Nat → Prop} (h : ArcsAt w R N room) (hu : Upd S w w') (hs : ¬ S R) : ArcsAt w' R N room := by
  have hlt := h.lt
  obtain ⟨cur, h1, h2⟩ := h.blk
  exact ⟨⟨cur, (hu.block R hlt hs).trans h1, h2⟩, h.len⟩
theorem ArcsAt.c0 (h : ArcsAt w R N room) {j : Nat} (hj : j < 2 * N.m) : w.cell? ⟨R, j * 3, none⟩ = some (.int .i64 (rto N j : Nat)) := by
  obtain ⟨cur, h1, h2⟩ := h.blk
  rw [cell_of_row w R _ _ _ _ h1, show j * 3 = 3 * j by omega]
  exact (h2 j hj).1
theorem ArcsAt.c1 (h : ArcsAt w R N room) {j : Nat} (hj : j < 2 * N.m) : w.cell? ⟨R, j * 3 + 1, none⟩ = some (.int .i64 (gi room j)) := by
  obtain ⟨cur, h1, h2⟩ := h.blk
  rw [cell_of_row w R _ _ _ _ h1, show j * 3 + 1 = 3 * j + 1 by omega]
  exact (h2 j hj).2.1
theorem ArcsAt.c2 (h : ArcsAt w R N room) {j : Nat} (hj : j < 2 * N.m) : w.cell? ⟨R, j * 3 + 2, none⟩ = some (.int .i64 (rc N j)) := by
  obtain ⟨cur, h1, h2⟩ := h.blk
  rw [cell_of_row w R _ _ _ _ h1, show j * 3 + 2 = 3 * j + 2 by omega]
  exact (h2 j hj).2.2
theorem ArcsAt.free (h : ArcsAt w R N room) (k : Nat) : w.frozen? ⟨R, k, none⟩ = false := by
  obtain ⟨cur, h1, _⟩ := h.blk
  exact frozen_of_row w R k _ _ h1
theorem ArcsAt.set (h : ArcsAt w R N room) {j : Nat} (hj : j < 2 * N.m) (v : Int) : ArcsAt (w.setCell ⟨R, j * 3 + 1, none⟩ (.int .i64 v)) R N (room.set j v) := by
  obtain ⟨cur, h1, h2⟩ := h.blk
  refine ⟨⟨_, heap_setCell_same w R _ _ _ _ h1, fun k hk => ?_⟩, by rw [List.length_set]; exact h.len⟩
  obtain ⟨a, b, c⟩ := h2 k hk
  have hb : 3 * k + 1 < cur.size := (Array.getElem?_eq_some_iff.1 b).1
  refine ⟨?_, ?_, ?_⟩
  · rw [Array.getElem?_setIfInBounds, if_neg (by omega)]; exact a
  · rw [Array.getElem?_setIfInBounds, gi_set (by rw [h.len]; exact hj)]
    by_cases e : k = j
    · subst e
      rw [if_pos (by omega), if_pos (by omega), if_pos rfl]
    · rw [if_neg (by omega), if_neg e]
      exact b
  · rw [Array.getElem?_setIfInBounds, if_neg (by omega)]; exact c
end
end Go.Proofs.Ytmekcpbcgelliaa
