/- Matchings: rows of numbers, and slices.Repeat of one number, walked. -/
import Derived.Test.YtppjpledjhinbaaDoorJVMap
import Derived.Test.YtppjpledjhinbaaDoorJFlP3
import Derived.Laws.CopyOwn
import Derived.Deep.RegionLaw
import Derived.Deep.CutBlock
import Derived.Deep.DeepCutAuto
import Derived.Deep.RegionHeld3
namespace Go.Proofs.YtppjpledjhinbaaDoor
open Go.RowKit
/-- Block g is just this row of numbers. -/
def Ints (w : World) (g : Nat) (l : List Int) : Prop := w.heap[g]? = some (.cells (l.map (Value.int .i64)).toArray 3 (0, 0))
section
variable {w w' : World} {g : Nat} {l : List Int}
theorem Ints.lt (h : Ints w g l) : g < w.heap.size := (Array.getElem?_eq_some_iff.1 h).1
theorem Ints.cell (h : Ints w g l) {k : Nat} (hk : k < l.length) : w.cell? ⟨g, k, none⟩ = some (.int .i64 (gi l k)) := by
  rw [cell_of_row w g k _ _ _ h, gi_get hk]
  simp [hk]
theorem Ints.free (h : Ints w g l) (k : Nat) : w.frozen? ⟨g, k, none⟩ = false := frozen_of_row w g k _ _ h
theorem Ints.set (h : Ints w g l) (k : Nat) (v : Int) : Ints (w.setCell ⟨g, k, none⟩ (.int .i64 v)) g (l.set k v) := by
  have := heap_setCell_same w g k _ _ (.int .i64 v) h
  unfold Ints
  rw [this]
  congr 2
  apply Array.ext'
  simp [List.map_set]
theorem Ints.upd {S : Nat → Prop} (h : Ints w g l) (hu : Upd S w w') (hs : ¬ S g) : Ints w' g l := (hu.block g h.lt hs).trans h
theorem Ints.below {B : Nat} (h : Ints w g l) (hb : Below B w w') (hg : g < B) : Ints w' g l := (hb.block g hg).trans h
theorem Ints.rd (h : Ints w g l) {B : Nat} (hB : g < B) : Rd w B 1 (some ⟨g, 0, none⟩) l.length (l.map (Value.int .i64)) :=
  ⟨by simp, fun _ => ⟨_, rfl, hB, fun j u hu => by
    rw [add_zero_off, cell_of_row w g j _ _ _ h]
    simpa using hu⟩⟩
end
theorem int_info : (Tryd.prog.info? 3).map (fun i => (i.zero, i.size, i.bytes)) = some (some (.int .i64 0), 1, 8) := by kernel_rfl
/-- 'make([]int, n)'. -/
theorem mkints (w : World) (n : Nat) (hn : n ≤ 1048576) : (Instr.makeSlice 61 (.int .i64 n) (.int .i64 n)).run Tryd.prog w = .ok (.slice (some ⟨w.heap.size, 0, none⟩) n n) (w.alloc (.cells (Array.replicate n (Value.int .i64 0)) 3)) := by
  obtain ⟨i0, hi0, hz0, hz1, hz2⟩ := info_parts int_info
  have h := run_makeSlice (P := Tryd.prog) w 61 3 i0 (.int .i64 0) Tryd.underlying61 hi0 hz0 .i64 .i64 n n (by omega) (by omega) (by rw [hz1]; omega) (by rw [hz2]; omega) (by omega)
  rw [hz1, Int.toNat_natCast, Nat.mul_one] at h
  have e : (madeCells (Value.int IntKind.i64 0).cells n).toList = _ := toList_madeCells_one _ n
  have e2 : madeCells (Value.int IntKind.i64 0).cells n = Array.replicate n (Value.int .i64 0) := Array.ext' (by rw [e]; simp)
  rw [h, e2]
theorem made_ints (w : World) (n : Nat) : Ints (w.alloc (.cells (Array.replicate n (Value.int .i64 0)) 3)) w.heap.size (List.replicate n 0) := by
  have := heap_alloc_new w (.cells (Array.replicate n (Value.int .i64 0)) 3)
  unfold Ints
  rw [this]
  congr 2
  apply Array.ext'
  simp
end Go.Proofs.YtppjpledjhinbaaDoor
/- Matchings: the rows of neighbours; the reference's rows, walked. -/
namespace Go.Proofs.YtppjpledjhinbaaDoor
open Go.RowKit
/-! ### Edges and rows, plain -/
abbrev Eg := Int × Int
def edgv (l : List Eg) : List Value := l.flatMap fun e => [.int .i64 e.1, .int .i64 e.2]
theorem edgv_cons (x : Eg) (l : List Eg) : edgv (x :: l) = [.int .i64 x.1, .int .i64 x.2] ++ edgv l := by simp [edgv]
theorem edgv_append (a b : List Eg) : edgv (a ++ b) = edgv a ++ edgv b := by simp [edgv]
theorem edgv_one (x : Eg) : edgv [x] = [.int .i64 x.1, .int .i64 x.2] := by simp [edgv]
theorem edgv_length (l : List Eg) : (edgv l).length = l.length * 2 := by
  induction l with
  | nil => rfl
  | cons i l ih => rw [edgv_cons, List.length_append, ih, List.length_cons]; simp only [List.length_cons, List.length_nil]; omega
theorem edgv_cell (l : List Eg) : ∀ u ∈ edgv l, u.oneCell' = true := by
  intro u hu
  simp only [edgv, List.mem_flatMap] at hu
  obtain ⟨x, _, hx⟩ := hu
  simp only [List.mem_cons, List.not_mem_nil, or_false] at hx
  rcases hx with rfl | rfl <;> rfl
theorem edgv_get (l : List Eg) : ∀ (k j : Nat) (h : k < l.length), j < 2 → (edgv l)[2 * k + j]? = [Value.int .i64 l[k].1, .int .i64 l[k].2][j]? := by
  induction l with
  | nil => intro k j h; simp at h
  | cons i l ih =>
    intro k j h hj
    rw [edgv_cons]
    cases k with
    | zero => rw [List.getElem?_append_left (by simp; omega)]; simp
    | succ k =>
      rw [List.getElem?_append_right (by simp; omega), show 2 * (k + 1) + j - [Value.int .i64 i.1, Value.int .i64 i.2].length = 2 * k + j by simp; omega]
      exact ih k j (by simpa using h) hj
theorem add_flat (b off j : Nat) : (⟨b, off, none⟩ : Addr).add j = ⟨b, off + j, none⟩ := by unfold Addr.add; split <;> simp_all
theorem Rd.edge {w : World} {B n k : Nat} {A : Option Addr} {l : List Eg} (h : Rd w B 2 A n (edgv l)) (hk : k < n) :
    ∃ b off, A = some ⟨b, off, none⟩ ∧ b < B ∧ ∃ hs : k < l.length, w.cell? ⟨b, off + k * 2, none⟩ = some (.int .i64 l[k].1) ∧ w.cell? ⟨b, off + k * 2 + 1, none⟩ = some (.int .i64 l[k].2) := by
  have hs : k < l.length := by have := h.len; rw [edgv_length] at this; omega
  obtain ⟨ad, e, hb, hc⟩ := h.at_ (by omega)
  have h0 := hc _ _ (by have := edgv_get l k 0 hs (by omega); simpa using this)
  have h1 := hc _ _ (by have := edgv_get l k 1 hs (by omega); simpa using this)
  obtain ⟨b, off, spot⟩ := ad
  have hz := hc _ _ (by have := edgv_get l 0 0 (by omega) (by omega); simpa using this)
  have hspot : spot = none := by simpa [Addr.add] using World.cell?_spot hz
  subst hspot
  rw [add_flat, show 2 * k = k * 2 by omega] at h0
  rw [add_flat, show off + (2 * k + 1) = off + k * 2 + 1 by omega] at h1
  exact ⟨b, off, e, hb, hs, h0, h1⟩
theorem rd_edglen {w : World} {B n : Nat} {A : Option Addr} {l : List Eg} (h : Rd w B 2 A n (edgv l)) : n = l.length := by have := h.len; rw [edgv_length] at this; omega
def inE (n m : Nat) (e : Eg) : Prop := 0 ≤ e.1 ∧ e.1 < n ∧ 0 ≤ e.2 ∧ e.2 < m
def natE (l : List Eg) : Es := l.map fun e => (e.1.toNat, e.2.toNat)
def addE (rows : List (List Nat)) (e : Eg) : List (List Nat) := rows.set e.1.toNat (rows.getD e.1.toNat [] ++ [e.2.toNat])
def rowsOf (n : Nat) (l : List Eg) : List (List Nat) := l.foldl addE (List.replicate n [])
def nearOf (rows : List (List Nat)) (a : Nat) : List Nat := rows.getD a []
theorem rowsOf_snoc (n : Nat) (l : List Eg) (e : Eg) : rowsOf n (l ++ [e]) = addE (rowsOf n l) e := by unfold rowsOf; rw [foldl_snoc]
theorem rowsOf_len (n : Nat) (l : List Eg) : (rowsOf n l).length = n := by
  have : ∀ (l : List Eg) (r : List (List Nat)), (l.foldl addE r).length = r.length := by
    intro l
    induction l with
    | nil => intro r; rfl
    | cons e l ih => intro r; rw [List.foldl_cons, ih]; simp [addE]
  unfold rowsOf
  rw [this]; simp
theorem near_add (r : List (List Nat)) (e : Eg) (h : e.1.toNat < r.length) (a : Nat) : nearOf (addE r e) a = if a = e.1.toNat then nearOf r a ++ [e.2.toNat] else nearOf r a := by
  unfold nearOf addE
  rw [List.getD_eq_getElem?_getD, List.getD_eq_getElem?_getD, List.getElem?_set]
  by_cases ea : a = e.1.toNat
  · subst ea
    rw [if_pos rfl, if_pos h, if_pos rfl, List.getD_eq_getElem?_getD]
    rfl
  · rw [if_neg (fun h => ea h.symm), if_neg ea, List.getD_eq_getElem?_getD]
theorem mem_near (n m : Nat) : ∀ (k : Nat) (l : List Eg), l.length = k → (∀ e ∈ l, inE n m e) → ∀ a b, b ∈ nearOf (rowsOf n l) a ↔ (a, b) ∈ natE l := by
  intro k
  induction k with
  | zero =>
    intro l hl _ a b
    rw [List.eq_nil_of_length_eq_zero hl]
    have : nearOf (rowsOf n []) a = [] := by
      unfold nearOf rowsOf
      rw [List.foldl_nil, List.getD_eq_getElem?_getD, List.getElem?_replicate]
      split <;> rfl
    rw [this]
    simp [natE]
  | succ k ih =>
    intro l hl h a b
    obtain ⟨l', e, rfl⟩ : ∃ l' e, l = l' ++ [e] := ⟨l.dropLast, l.getLast (by intro h; rw [h] at hl; simp at hl), (List.dropLast_concat_getLast _).symm⟩
    have he := h e (by simp)
    have ih' := ih l' (by simpa using hl) (fun x hx => h x (by simp [hx])) a b
    rw [rowsOf_snoc, near_add _ _ (by rw [rowsOf_len]; have := he.1; have := he.2.1; omega)]
    unfold natE at *
    rw [List.map_append, List.mem_append]
    by_cases ea : a = e.1.toNat
    · rw [if_pos ea, List.mem_append, ih']
      simp only [List.mem_singleton, List.map_cons, List.map_nil, Prod.mk.injEq]
      exact ⟨fun h => h.imp id fun h => ⟨ea, h⟩, fun h => h.imp id fun h => h.2⟩
    · rw [if_neg ea, ih']
      simp only [List.mem_singleton, List.map_cons, List.map_nil, Prod.mk.injEq]
      exact ⟨.inl, fun h => h.resolve_right fun h => ea h.1⟩
theorem near_len (n : Nat) (a : Nat) : ∀ (k : Nat) (l : List Eg), l.length = k → (nearOf (rowsOf n l) a).length ≤ k := by
  intro k
  induction k with
  | zero =>
    intro l hl
    rw [List.eq_nil_of_length_eq_zero hl]
    have : nearOf (rowsOf n []) a = [] := by
      unfold nearOf rowsOf
      rw [List.foldl_nil, List.getD_eq_getElem?_getD, List.getElem?_replicate]
      split <;> rfl
    rw [this]
    simp
  | succ k ih =>
    intro l hl
    obtain ⟨l', e, rfl⟩ : ∃ l' e, l = l' ++ [e] := ⟨l.dropLast, l.getLast (by intro h; rw [h] at hl; simp at hl), (List.dropLast_concat_getLast _).symm⟩
    have h1 := ih l' (by simpa using hl)
    rw [rowsOf_snoc]
    by_cases h : e.1.toNat < (rowsOf n l').length
    · rw [near_add _ _ h]
      split
      · rw [List.length_append]; simp; omega
      · omega
    · unfold addE
      rw [List.set_eq_of_length_le (by omega)]
      omega
/-! ### Rows in memory, as they grow -/
def natv (l : List Nat) : List Value := l.map fun (b : Nat) => Value.int .i64 (b : Int)
theorem natv_length (l : List Nat) : (natv l).length = l.length := by simp [natv]
theorem natv_append (a b : List Nat) : natv (a ++ b) = natv a ++ natv b := by simp [natv]
theorem natv_get (l : List Nat) (k : Nat) (h : k < l.length) : (natv l)[k]? = some (.int .i64 (l[k] : Int)) := by simp [natv, h]
structure Nears (w : World) (N : Nat) (rows : List (List Nat)) (vs : List Value) : Prop where
  blk : w.heap[N]? = some (.cells vs.toArray 61 (0, 0))
  len : vs.length = rows.length
  own : ∀ (i : Nat) (v : Value) (l : List Nat), vs[i]? = some v → rows[i]? = some l → w.ownsRow (N + 1) 3 1 v l.length (natv l)
  apart : ∀ (i j : Nat) (v u : Value) (k : Nat), i ≠ j → vs[i]? = some v → vs[j]? = some u → v.ownBlock = some k → u.ownBlock ≠ some k
section
variable {w w' : World} {N : Nat} {rows : List (List Nat)} {vs : List Value}
theorem Nears.lt (h : Nears w N rows vs) : N < w.heap.size := (Array.getElem?_eq_some_iff.1 h.blk).1
theorem Nears.blt (h : Nears w N rows vs) {i : Nat} {v : Value} {k : Nat} (hv : vs[i]? = some v) (hk : v.ownBlock = some k) : N < k ∧ k < w.heap.size := by
  have hi : i < rows.length := by rw [← h.len]; exact (List.getElem?_eq_some_iff.1 hv).1
  have := (h.own i v _ hv (List.getElem?_eq_getElem hi)).lt k hk
  omega
theorem Nears.upd {S : Nat → Prop} (h : Nears w N rows vs) (hu : Upd S w w') (hs : ∀ k, N ≤ k → k < w.heap.size → ¬ S k) : Nears w' N rows vs :=
  ⟨(hu.block N h.lt (hs N (Nat.le_refl _) h.lt)).trans h.blk, h.len, fun i v l hv hl => own_upd (h.own i v l hv hl) hu fun k hk => hs k (Nat.le_of_lt (h.blt hv hk).1) (h.blt hv hk).2, h.apart⟩
theorem Nears.cell (h : Nears w N rows vs) {i : Nat} (hi : i < vs.length) : w.cell? ⟨N, i, none⟩ = some vs[i] := by
  rw [cell_of_row w N i _ _ _ h.blk]
  simp [hi]
theorem Nears.push {i : Nat} {v v' : Value} {l l' : List Nat} (h : Nears w N rows vs) (hv : vs[i]? = some v) (hl : rows[i]? = some l) (ho : w'.ownsRow (N + 1) 3 1 v' l'.length (natv l')) (hu : Upd (fun k => v.ownBlock = some k) w w') (hat : RowAt w v v') :
    Nears (w'.setCell ⟨N, i, none⟩ v') N (rows.set i l') (vs.set i v') := by
  have hi : i < vs.length := (List.getElem?_eq_some_iff.1 hv).1
  have hN : ¬ v.ownBlock = some N := fun e => by have := (h.blt hv e).1; omega
  have hN' : ∀ k, v'.ownBlock = some k → k ≠ N := fun k hk e => by
    have := (ho.lt k hk).1
    omega
  have hu2 : Upd (fun k => k = N) w' (w'.setCell ⟨N, i, none⟩ v') := (Upd.refl (fun k => k = N) w').setCell ⟨N, i, none⟩ rfl v'
  have hblk := heap_setCell_same w' N i _ _ v' ((hu.block N h.lt hN).trans h.blk)
  refine ⟨by rw [hblk]; congr 2; apply Array.ext'; simp, by simp [h.len], fun j u r hj hr => ?_, fun a b x y k hab hx hy hk => ?_⟩
  · rw [List.getElem?_set] at hj hr
    by_cases e : i = j
    · subst e
      rw [if_pos rfl, if_pos hi] at hj
      rw [if_pos rfl, if_pos (by rw [← h.len]; exact hi)] at hr
      injection hj with hj
      injection hr with hr
      subst hj; subst hr
      exact own_upd ho hu2 fun k hk e => hN' k hk e
    · rw [if_neg e] at hj hr
      have h1 := h.own j u r hj hr
      exact own_upd (own_upd h1 hu fun k hk e2 => h.apart i j v u k e hv hj e2 hk) hu2 fun k hk e2 => by have := (h.blt hj hk).1; omega
  · rw [List.getElem?_set] at hx hy
    by_cases e1 : i = a
    · by_cases e2 : i = b
      · exact absurd (e1.symm.trans e2) hab
      · rw [if_pos e1, if_pos hi] at hx
        rw [if_neg e2] at hy
        injection hx with hx
        subst hx
        intro e
        have hb := (h.blt hy e).2
        exact h.apart i b v y k e2 hv hy (hat.old hb hk) e
    · by_cases e2 : i = b
      · rw [if_neg e1] at hx
        rw [if_pos e2, if_pos hi] at hy
        injection hy with hy
        subst hy
        intro e
        have hb := (h.blt hx hk).2
        exact h.apart a i x v k (fun e => e1 e.symm) hx hv hk (hat.old hb e)
      · rw [if_neg e1] at hx
        rw [if_neg e2] at hy
        exact h.apart a b x y k hab hx hy hk
end
/-- 'append(v, b)' runs. -/
theorem push_run (W : World) (v : Value) (l : List Nat) (b : Nat) (base : Nat) (hown : W.ownsRow base 3 1 v l.length (natv l)) (hbase : base ≤ W.heap.size) (hl : l.length + 1 ≤ 1048576) :
    ∃ v' w', (Builtin.append_ #[61, 61] 61 #[v, .slice (some ⟨W.heap.size, 0, none⟩) 1 1]).run Tryd.prog (W.alloc (.cells #[.int .i64 (b : Int)] 3)) = .ok v' w' ∧
      w'.ownsRow base 3 1 v' (l ++ [b]).length (natv (l ++ [b])) ∧ Upd (fun k => v.ownBlock = some k) W w' ∧ RowAt W v v' := by
  obtain ⟨i0, hi0, hz0, hz1, hz2⟩ := info_parts int_info
  obtain ⟨v', w', hrun, h2, h3, _, h5⟩ := run_append_own_at (P := Tryd.prog) (W.alloc (.cells #[.int .i64 (b : Int)] 3)) base 61 61 3 i0 (.int .i64 0) 1 8 Tryd.underlying61 hi0 hz0 hz1 hz2 rfl (by omega) v l.length (natv l) (hown.alloc _) ⟨W.heap.size, 0, none⟩ 1 1 [.int .i64 (b : Int)] rfl
    (fun j u hu => by
      rw [add_zero_off, cell_of_row _ W.heap.size j _ _ (0, 0) (heap_alloc_new W _)]
      simpa using hu) (by intro u hu; simp only [List.mem_singleton] at hu; subst hu; rfl) (by unfold maxLen; omega) (by omega) (by simp; omega)
  refine ⟨v', w', hrun, by rw [natv_append, List.length_append]; exact h2, Upd.of_grown (grown_pre h3), ?_⟩
  rcases h5 with h5 | h5
  · exact .inl h5
  · exact .inr ⟨_, by simp, h5⟩
theorem step_append_run {P : Program} {ops : Array Oper} {o : Oper} {a : Act} {w : World} {K : Act → World → Prop} {Q : Exit → Act → World → Prop} {E : Prop} (hgd : o.guard = none) (s x : Operand) (t : TypeId)
    (ho : o.op = .call { callee := .builtin .append, args := #[s, x], argTypes := #[t, t] }) (v u : Value) (hs : a.eval s = v) (hx : a.eval x = u) (v' : Value) (w' : World)
    (hrun : (Builtin.append_ #[t, t] o.type #[v, u]).run P w = .ok v' w') (h : K (a.put o.dst v') w') :
    if Region.wanted o (yielded ops a.tmps) = true then Oper.wp P o a w K Q else E := by
  have hw : Region.wanted o (yielded ops a.tmps) = true := by simp [Region.wanted, hgd]
  rw [if_pos hw]
  unfold Oper.wp execOp
  simp only [ho, resolve, invoke, builtin, Sem.run_bind, Sem.run_pure, Result.andThen_ok, List.map_toArray, List.map_cons, List.map_nil, hs, hx, hrun]
  exact h
theorem ints_info : (Tryd.prog.info? 61).map (fun i => (i.zero, i.size, i.bytes)) = some (some (.slice none 0 0), 1, 24) := by kernel_rfl
/-- 'make([][]int, n)'. -/
theorem mkrows (w : World) (n : Nat) (hn : n ≤ 1048576) : (Instr.makeSlice 150 (.int .i64 n) (.int .i64 n)).run Tryd.prog w = .ok (.slice (some ⟨w.heap.size, 0, none⟩) n n) (w.alloc (.cells (Array.replicate n (Value.slice none 0 0)) 61)) := by
  obtain ⟨i0, hi0, hz0, hz1, hz2⟩ := info_parts ints_info
  have h := run_makeSlice (P := Tryd.prog) w 150 61 i0 (.slice none 0 0) Tryd.underlying150 hi0 hz0 .i64 .i64 n n (by omega) (by omega) (by rw [hz1]; omega) (by rw [hz2]; omega) (by omega)
  rw [hz1, Int.toNat_natCast, Nat.mul_one] at h
  have e : (madeCells (Value.slice none 0 0).cells n).toList = _ := toList_madeCells_one _ n
  have e2 : madeCells (Value.slice none 0 0).cells n = Array.replicate n (Value.slice none 0 0) := Array.ext' (by rw [e]; simp)
  rw [h, e2]
theorem nears_made (w : World) (n : Nat) : Nears (w.alloc (.cells (Array.replicate n (Value.slice none 0 0)) 61)) w.heap.size (rowsOf n []) (List.replicate n (Value.slice none 0 0)) := by
  refine ⟨?_, by simp [rowsOf], fun i v l hv hl => ?_, fun i j v u k _ hv _ hk => ?_⟩
  · have := heap_alloc_new w (.cells (Array.replicate n (Value.slice none 0 0)) 61)
    rw [this, ← List.toArray_replicate]
  · unfold rowsOf at hl
    rw [List.foldl_nil, List.getElem?_replicate] at hl
    rw [List.getElem?_replicate] at hv
    split at hv
    · rw [if_pos (by assumption)] at hl
      injection hv with hv
      injection hl with hl
      subst hv; subst hl
      exact World.ownsRow_nil _ _ _ _
    · cases hv
  · rw [List.getElem?_replicate] at hv
    split at hv
    · injection hv with hv
      subst hv
      simp [Value.ownBlock] at hk
    · cases hv
end Go.Proofs.YtppjpledjhinbaaDoor
/- Flows: networks in memory. -/
namespace Go.Proofs.YtppjpledjhinbaaDoor
open Go.RowKit
/-! ### Arcs that come in -/
abbrev Ar := Int × Int × Int × Int
def arv (l : List Ar) : List Value := l.flatMap fun e => [.int .i64 e.1, .int .i64 e.2.1, .int .i64 e.2.2.1, .int .i64 e.2.2.2]
theorem arv_cons (x : Ar) (l : List Ar) : arv (x :: l) = [.int .i64 x.1, .int .i64 x.2.1, .int .i64 x.2.2.1, .int .i64 x.2.2.2] ++ arv l := by simp [arv]
theorem arv_append (a b : List Ar) : arv (a ++ b) = arv a ++ arv b := by simp [arv]
theorem arv_one (x : Ar) : arv [x] = [.int .i64 x.1, .int .i64 x.2.1, .int .i64 x.2.2.1, .int .i64 x.2.2.2] := by simp [arv]
theorem arv_length (l : List Ar) : (arv l).length = l.length * 4 := by
  induction l with
  | nil => rfl
  | cons i l ih => rw [arv_cons, List.length_append, ih, List.length_cons]; simp only [List.length_cons, List.length_nil]; omega
theorem arv_cell (l : List Ar) : ∀ u ∈ arv l, u.oneCell' = true := by
  intro u hu
  simp only [arv, List.mem_flatMap] at hu
  obtain ⟨x, _, hx⟩ := hu
  simp only [List.mem_cons, List.not_mem_nil, or_false] at hx
  rcases hx with rfl | rfl | rfl | rfl <;> rfl
theorem arv_get (l : List Ar) : ∀ (k j : Nat) (h : k < l.length), j < 4 → (arv l)[4 * k + j]? = [Value.int .i64 l[k].1, .int .i64 l[k].2.1, .int .i64 l[k].2.2.1, .int .i64 l[k].2.2.2][j]? := by
  induction l with
  | nil => intro k j h; simp at h
  | cons i l ih =>
    intro k j h hj
    rw [arv_cons]
    cases k with
    | zero => rw [List.getElem?_append_left (by simp; omega)]; simp
    | succ k =>
      rw [List.getElem?_append_right (by simp; omega)]
      simp only [List.length_cons, List.length_nil] at h ⊢
      rw [show 4 * (k + 1) + j - (0 + 1 + 1 + 1 + 1) = 4 * k + j by omega, ih k j (by omega) hj]
      rfl
theorem Rd.arc {w : World} {B n k : Nat} {A : Option Addr} {l : List Ar} (h : Rd w B 4 A n (arv l)) (hk : k < n) :
    ∃ b off, A = some ⟨b, off, none⟩ ∧ b < B ∧ ∃ hs : k < l.length, w.cell? ⟨b, off + k * 4, none⟩ = some (.int .i64 l[k].1) ∧ w.cell? ⟨b, off + k * 4 + 1, none⟩ = some (.int .i64 l[k].2.1) ∧
      w.cell? ⟨b, off + k * 4 + 2, none⟩ = some (.int .i64 l[k].2.2.1) ∧ w.cell? ⟨b, off + k * 4 + 3, none⟩ = some (.int .i64 l[k].2.2.2) := by
  have hs : k < l.length := by have := h.len; rw [arv_length] at this; omega
  obtain ⟨ad, e, hb, hc⟩ := h.at_ (by omega)
  have h0 := hc _ _ (by have := arv_get l k 0 hs (by omega); simpa using this)
  have h1 := hc _ _ (by have := arv_get l k 1 hs (by omega); simpa using this)
  have h2 := hc _ _ (by have := arv_get l k 2 hs (by omega); simpa using this)
  have h3 := hc _ _ (by have := arv_get l k 3 hs (by omega); simpa using this)
  obtain ⟨b, off, spot⟩ := ad
  have hz := hc _ _ (by have := arv_get l 0 0 (by omega) (by omega); simpa using this)
  have hspot : spot = none := by simpa [Addr.add] using World.cell?_spot hz
  subst hspot
  rw [add_flat, show 4 * k = k * 4 by omega] at h0
  rw [add_flat, show off + (4 * k + 1) = off + k * 4 + 1 by omega] at h1
  rw [add_flat, show off + (4 * k + 2) = off + k * 4 + 2 by omega] at h2
  rw [add_flat, show off + (4 * k + 3) = off + k * 4 + 3 by omega] at h3
  exact ⟨b, off, e, hb, hs, h0, h1, h2, h3⟩
theorem rd_arlen {w : World} {B n : Nat} {A : Option Addr} {l : List Ar} (h : Rd w B 4 A n (arv l)) : n = l.length := by have := h.len; rw [arv_length] at this; omega
/-- The arcs as a network. -/
def nwOf (l : List Ar) : Nw := ⟨l.length, fun i => (l.getD i (0, 0, 0, 0)).1.toNat, fun i => (l.getD i (0, 0, 0, 0)).2.1.toNat, fun i => (l.getD i (0, 0, 0, 0)).2.2.1, fun i => (l.getD i (0, 0, 0, 0)).2.2.2⟩
theorem nw_at {l : List Ar} {i : Nat} (h : i < l.length) : (nwOf l).fr i = l[i].1.toNat ∧ (nwOf l).to i = l[i].2.1.toNat ∧ (nwOf l).cap i = l[i].2.2.1 ∧ (nwOf l).cost i = l[i].2.2.2 := by
  have e : l.getD i (0, 0, 0, 0) = l[i] := by rw [List.getD_eq_getElem?_getD, List.getElem?_eq_getElem h]; rfl
  unfold nwOf
  simp only [e]
  exact ⟨trivial, trivial, trivial, trivial⟩
def okA (nodes : Int) (a : Ar) : Prop := (0 ≤ a.1 ∧ a.1 < nodes) ∧ (0 ≤ a.2.1 ∧ a.2.1 < nodes) ∧ a.1 ≠ a.2.1 ∧ (0 ≤ a.2.2.1 ∧ a.2.2.1 ≤ 200) ∧ (0 ≤ a.2.2.2 ∧ a.2.2.2 ≤ 1000)
/-- What goes out of s, up to the arc number k. -/
def outTo (l : List Ar) (s : Nat) (k : Nat) : Int := sm k fun i => if (nwOf l).fr i = s then (nwOf l).cap i else 0
/-- A right network. -/
def GoodN (nodes s t : Int) (l : List Ar) : Prop := (2 ≤ nodes ∧ nodes ≤ 200) ∧ (0 ≤ s ∧ s < nodes) ∧ (0 ≤ t ∧ t < nodes) ∧ s ≠ t ∧ l.length ≤ 4000 ∧ (∀ a ∈ l, okA nodes a) ∧ outTo l s.toNat l.length ≤ 200
theorem GoodN.ok {nodes s t : Nat} {l : List Ar} (h : GoodN nodes s t l) : NwOk (nwOf l) nodes s t := by
  obtain ⟨h1, h2, h3, h4, h5, h6, h7⟩ := h
  have ha : ∀ i, (hi : i < l.length) → okA nodes l[i] := fun i hi => h6 _ (List.getElem_mem hi)
  refine ⟨by omega, by omega, fun e => h4 (by rw [e]), by omega, h5, fun i hi => ?_, fun i hi => ?_, fun i hi => ?_, fun i hi => ?_, ?_⟩
  · obtain ⟨n1, n2, n3, n4⟩ := nw_at (l := l) hi
    obtain ⟨a1, a2, a3, a4, a5⟩ := ha i hi
    rw [n1, n2]; omega
  · obtain ⟨n1, n2, n3, n4⟩ := nw_at (l := l) hi
    obtain ⟨a1, a2, a3, a4, a5⟩ := ha i hi
    rw [n1, n2]; omega
  · obtain ⟨n1, n2, n3, n4⟩ := nw_at (l := l) hi
    obtain ⟨a1, a2, a3, a4, a5⟩ := ha i hi
    rw [n3]; exact a4
  · obtain ⟨n1, n2, n3, n4⟩ := nw_at (l := l) hi
    obtain ⟨a1, a2, a3, a4, a5⟩ := ha i hi
    rw [n4]; exact a5
  · rw [Int.toNat_natCast] at h7; exact h7
/-! ### The rows of arcs -/
def pushR (rows : List (List Nat)) (v j : Nat) : List (List Nat) := rows.set v (nearOf rows v ++ [j])
def rowsO (nodes : Nat) (l : List Ar) (k : Nat) : List (List Nat) := (List.range k).foldl (fun r i => pushR (pushR r ((nwOf l).fr i) (2 * i)) ((nwOf l).to i) (2 * i + 1)) (List.replicate nodes [])
theorem rowsO_succ (nodes : Nat) (l : List Ar) (k : Nat) : rowsO nodes l (k + 1) = pushR (pushR (rowsO nodes l k) ((nwOf l).fr k) (2 * k)) ((nwOf l).to k) (2 * k + 1) := by
  unfold rowsO
  rw [List.range_succ, List.foldl_append]
  rfl
theorem pushR_len (r : List (List Nat)) (v j : Nat) : (pushR r v j).length = r.length := by simp [pushR]
theorem rowsO_len (nodes : Nat) (l : List Ar) (k : Nat) : (rowsO nodes l k).length = nodes := by
  induction k with
  | zero => simp [rowsO]
  | succ k ih => rw [rowsO_succ, pushR_len, pushR_len, ih]
theorem near_pushR {r : List (List Nat)} {v : Nat} (h : v < r.length) (j a : Nat) : nearOf (pushR r v j) a = if a = v then nearOf r a ++ [j] else nearOf r a := by
  unfold nearOf pushR
  rw [List.getD_eq_getElem?_getD, List.getD_eq_getElem?_getD, List.getElem?_set]
  by_cases e : a = v
  · rw [if_pos e, if_pos e.symm, if_pos h, e]
    simp [nearOf]
  · rw [if_neg e, if_neg (fun e' => e e'.symm)]
theorem mem_rowsO {nodes : Nat} {l : List Ar} (hl : ∀ a ∈ l, okA nodes a) : ∀ k, k ≤ l.length → ∀ v j, j ∈ nearOf (rowsO nodes l k) v ↔ j < 2 * k ∧ rfr (nwOf l) j = v := by
  intro k
  induction k with
  | zero =>
    intro _ v j
    constructor
    · intro h
      unfold rowsO nearOf at h
      simp only [List.range_zero, List.foldl_nil, List.getD_eq_getElem?_getD, List.getElem?_replicate] at h
      split at h <;> simp at h
    · intro h; omega
  | succ k ih =>
    intro hk v j
    have hk' : k < l.length := by omega
    obtain ⟨n1, n2, _, _⟩ := nw_at (l := l) hk'
    obtain ⟨a1, a2, _⟩ := hl _ (List.getElem_mem hk')
    have hlen := rowsO_len nodes l k
    have hf : (nwOf l).fr k < nodes := by rw [n1]; omega
    have ht : (nwOf l).to k < nodes := by rw [n2]; omega
    rw [rowsO_succ, near_pushR (by rw [pushR_len, hlen]; exact ht), near_pushR (by rw [hlen]; exact hf)]
    have e0 : rfr (nwOf l) (2 * k) = (nwOf l).fr k := by unfold rfr; rw [if_pos (by omega), show 2 * k / 2 = k by omega]
    have e1 : rfr (nwOf l) (2 * k + 1) = (nwOf l).to k := by unfold rfr; rw [if_neg (by omega), show (2 * k + 1) / 2 = k by omega]
    have key : j ∈ nearOf (rowsO nodes l k) v ↔ j < 2 * k ∧ rfr (nwOf l) j = v := ih (by omega) v j
    have split : (j < 2 * (k + 1) ∧ rfr (nwOf l) j = v) ↔ ((j < 2 * k ∧ rfr (nwOf l) j = v) ∨ (j = 2 * k ∧ v = (nwOf l).fr k)) ∨ (j = 2 * k + 1 ∧ v = (nwOf l).to k) := by
      constructor
      · rintro ⟨h1, h2⟩
        by_cases x : j < 2 * k
        · exact .inl (.inl ⟨x, h2⟩)
        · by_cases y : j = 2 * k
          · subst y; exact .inl (.inr ⟨rfl, by rw [← h2, e0]⟩)
          · obtain rfl : j = 2 * k + 1 := by omega
            exact .inr ⟨rfl, by rw [← h2, e1]⟩
      · rintro ((⟨h1, h2⟩ | ⟨rfl, rfl⟩) | ⟨rfl, rfl⟩)
        · exact ⟨by omega, h2⟩
        · exact ⟨by omega, e0⟩
        · exact ⟨by omega, e1⟩
    have m1 : ∀ (L : List Nat) a, j ∈ L ++ [a] ↔ j ∈ L ∨ j = a := by simp
    rw [split, ← key]
    clear split key
    by_cases y : v = (nwOf l).to k
    · rw [if_pos y, m1, and_iff_left y]
      by_cases x : v = (nwOf l).fr k
      · rw [if_pos x, m1, and_iff_left x]
      · rw [if_neg x]; simp only [x, and_false, or_false]
    · rw [if_neg y]
      by_cases x : v = (nwOf l).fr k
      · rw [if_pos x, m1, and_iff_left x]; simp only [y, and_false, or_false]
      · rw [if_neg x]; simp only [x, y, and_false, or_false]
theorem rowsO_len_le (nodes : Nat) (l : List Ar) : ∀ k v, (nearOf (rowsO nodes l k) v).length ≤ 2 * k := by
  intro k
  induction k with
  | zero =>
    intro v
    unfold rowsO nearOf
    simp only [List.range_zero, List.foldl_nil, List.getD_eq_getElem?_getD, List.getElem?_replicate]
    split <;> simp
  | succ k ih =>
    intro v
    have h1 : ∀ (r : List (List Nat)) x j, (nearOf (pushR r x j) v).length ≤ (nearOf r v).length + 1 := fun r x j => by
      by_cases hx : x < r.length
      · rw [near_pushR hx]
        split <;> simp
      · unfold pushR
        rw [List.set_eq_of_length_le (by omega)]
        omega
    rw [rowsO_succ]
    have a := h1 (pushR (rowsO nodes l k) ((nwOf l).fr k) (2 * k)) ((nwOf l).to k) (2 * k + 1)
    have b := h1 (rowsO nodes l k) ((nwOf l).fr k) (2 * k)
    have := ih v
    omega
/-! ### In memory -/
/-- The blocks of the rows. -/
def RowB (N : Nat) (vs : List Value) (k : Nat) : Prop := k = N ∨ ∃ (i : Nat) (v : Value), vs[i]? = some v ∧ v.ownBlock = some k
theorem Nears.updB {S : Nat → Prop} {w w' : World} {N : Nat} {rows : List (List Nat)} {vs : List Value} (h : Nears w N rows vs) (hu : Upd S w w') (hs : ∀ k, RowB N vs k → ¬ S k) : Nears w' N rows vs :=
  ⟨(hu.block N h.lt (hs N (.inl rfl))).trans h.blk, h.len, fun i v l hv hl => own_upd (h.own i v l hv hl) hu fun k hk => hs k (.inr ⟨i, v, hv, hk⟩), h.apart⟩
theorem own_elem {w : World} {base size n k : Nat} {e : TypeId} {v : Value} {xs : List Value} (h : w.ownsRow base e size v n xs) (hk : v.ownBlock = some k) : ∃ cur, w.heap[k]? = some (.cells cur e (0, 0)) := by
  rcases h.2 with ⟨rfl, _⟩ | ⟨g, cap, cur, rfl, hb, hg, _⟩
  · simp [Value.ownBlock] at hk
  · simp [Value.ownBlock] at hk
    subst hk
    exact ⟨cur, hg⟩
theorem Nears.elem {w : World} {N : Nat} {rows : List (List Nat)} {vs : List Value} (h : Nears w N rows vs) {k : Nat} (hk : RowB N vs k) : ∃ cur, w.heap[k]? = some (.cells cur 3 (0, 0)) ∨ w.heap[k]? = some (.cells cur 61 (0, 0)) := by
  rcases hk with rfl | ⟨i, v, hv, hk⟩
  · exact ⟨_, .inr h.blk⟩
  · have hi : i < rows.length := by rw [← h.len]; exact (List.getElem?_eq_some_iff.1 hv).1
    obtain ⟨cur, hc⟩ := own_elem (h.own i v _ hv (List.getElem?_eq_getElem hi)) hk
    exact ⟨cur, .inl hc⟩
/-- A block of another type is none of the rows'. -/
theorem Nears.other {w : World} {N : Nat} {rows : List (List Nat)} {vs : List Value} (h : Nears w N rows vs) {k : Nat} {cur : Array Value} {e : TypeId} (hk : w.heap[k]? = some (.cells cur e (0, 0))) (h1 : e ≠ 3) (h2 : e ≠ 61) : ¬ RowB N vs k := by
  intro hr
  obtain ⟨c, hc | hc⟩ := h.elem hr
  · rw [hk] at hc
    injection hc with hc
    injection hc with _ hc
    exact h1 hc
  · rw [hk] at hc
    injection hc with hc
    injection hc with _ hc
    exact h2 hc
/-- What the arcs read as. -/
def arcv (N : Nw) (room : Nat → Int) (n : Nat) : List Value := (List.range n).flatMap fun j => [.int .i64 (rto N j : Nat), .int .i64 (room j), .int .i64 (rc N j)]
theorem arcv_succ (N : Nw) (room : Nat → Int) (n : Nat) : arcv N room (n + 1) = arcv N room n ++ [.int .i64 (rto N n : Nat), .int .i64 (room n), .int .i64 (rc N n)] := by
  unfold arcv
  rw [List.range_succ, List.flatMap_append]
  simp
theorem arcv_length (N : Nw) (room : Nat → Int) (n : Nat) : (arcv N room n).length = n * 3 := by
  induction n with
  | zero => rfl
  | succ n ih => rw [arcv_succ, List.length_append, ih]; simp only [List.length_cons, List.length_nil]; omega
theorem arcv_get (N : Nw) (room : Nat → Int) (n : Nat) : ∀ (k j : Nat), k < n → j < 3 → (arcv N room n)[3 * k + j]? = [Value.int .i64 (rto N k : Nat), .int .i64 (room k), .int .i64 (rc N k)][j]? := by
  induction n with
  | zero => intro k j h; omega
  | succ n ih =>
    intro k j hk hj
    rw [arcv_succ]
    by_cases e : k < n
    · rw [List.getElem?_append_left (by rw [arcv_length]; omega)]
      exact ih k j e hj
    · obtain rfl : k = n := by omega
      rw [List.getElem?_append_right (by rw [arcv_length]; omega), arcv_length, show 3 * k + j - k * 3 = j by omega]
/-- The rooms at the start: all of each arc, nothing of the one back. -/
def room0 (N : Nw) (j : Nat) : Int := if j % 2 = 0 then N.cap (j / 2) else 0
/-- The arcs in their block, as they are gone. -/
structure ArcsAt (w : World) (R : Nat) (N : Nw) (room : List Int) : Prop where
  blk : ∃ cur, w.heap[R]? = some (.cells cur 171 (0, 0)) ∧ ∀ j, j < 2 * N.m → cur[3 * j]? = some (.int .i64 (rto N j : Nat)) ∧ cur[3 * j + 1]? = some (.int .i64 (gi room j)) ∧ cur[3 * j + 2]? = some (.int .i64 (rc N j))
  len : room.length = 2 * N.m
section
variable {w w' : World} {R : Nat} {N : Nw} {room : List Int}
theorem ArcsAt.lt (h : ArcsAt w R N room) : R < w.heap.size := by
  obtain ⟨_, h, _⟩ := h.blk
  exact (Array.getElem?_eq_some_iff.1 h).1
theorem ArcsAt.upd {S : Nat → Prop} (h : ArcsAt w R N room) (hu : Upd S w w') (hs : ¬ S R) : ArcsAt w' R N room := by
  have hlt := h.lt
  obtain ⟨cur, h1, h2⟩ := h.blk
  exact ⟨⟨cur, (hu.block R hlt hs).trans h1, h2⟩, h.len⟩
theorem ArcsAt.c0 (h : ArcsAt w R N room) {j : Nat} (hj : j < 2 * N.m) : w.cell? ⟨R, j * 3, none⟩ = some (.int .i64 (rto N j : Nat)) := by
  obtain ⟨cur, h1, h2⟩ := h.blk
  rw [cell_of_row w R _ _ _ _ h1, show j * 3 = 3 * j by omega]
  exact (h2 j hj).1
theorem ArcsAt.c1 (h : ArcsAt w R N room) {j : Nat} (hj : j < 2 * N.m) : w.cell? ⟨R, j * 3 + 1, none⟩ = some (.int .i64 (gi room j)) := by
  obtain ⟨cur, h1, h2⟩ := h.blk
  rw [cell_of_row w R _ _ _ _ h1, show j * 3 + 1 = 3 * j + 1 by omega]
  exact (h2 j hj).2.1
theorem ArcsAt.c2 (h : ArcsAt w R N room) {j : Nat} (hj : j < 2 * N.m) : w.cell? ⟨R, j * 3 + 2, none⟩ = some (.int .i64 (rc N j)) := by
  obtain ⟨cur, h1, h2⟩ := h.blk
  rw [cell_of_row w R _ _ _ _ h1, show j * 3 + 2 = 3 * j + 2 by omega]
  exact (h2 j hj).2.2
theorem ArcsAt.free (h : ArcsAt w R N room) (k : Nat) : w.frozen? ⟨R, k, none⟩ = false := by
  obtain ⟨cur, h1, _⟩ := h.blk
  exact frozen_of_row w R k _ _ h1
theorem ArcsAt.set (h : ArcsAt w R N room) {j : Nat} (hj : j < 2 * N.m) (v : Int) : ArcsAt (w.setCell ⟨R, j * 3 + 1, none⟩ (.int .i64 v)) R N (room.set j v) := by
  obtain ⟨cur, h1, h2⟩ := h.blk
  refine ⟨⟨_, heap_setCell_same w R _ _ _ _ h1, fun k hk => ?_⟩, by rw [List.length_set]; exact h.len⟩
  obtain ⟨a, b, c⟩ := h2 k hk
  have hb : 3 * k + 1 < cur.size := (Array.getElem?_eq_some_iff.1 b).1
  refine ⟨?_, ?_, ?_⟩
  · rw [Array.getElem?_setIfInBounds, if_neg (by omega)]; exact a
  · rw [Array.getElem?_setIfInBounds, gi_set (by rw [h.len]; exact hj)]
    by_cases e : k = j
    · subst e
      rw [if_pos (by omega), if_pos (by omega), if_pos rfl]
    · rw [if_neg (by omega), if_neg e]
      exact b
  · rw [Array.getElem?_setIfInBounds, if_neg (by omega)]; exact c
end
end Go.Proofs.YtppjpledjhinbaaDoor
