/- Matchings: the rows of neighbours; the reference's rows, walked. -/
import Derived.Test.YtmekcpbcgelliaaFlInts
import Derived.Deep.RegionHeld3
namespace Go.Proofs.Ytmekcpbcgelliaa
open Go.RowKit
/-! ### Edges and rows, plain -/
abbrev Eg := Int × Int
def edgv (l : List Eg) : List Value := l.flatMap fun e => [.int .i64 e.1, .int .i64 e.2]
theorem edgv_cons (x : Eg) (l : List Eg) : edgv (x :: l) = [.int .i64 x.1, .int .i64 x.2] ++ edgv l := by simp [edgv]
theorem edgv_append (a b : List Eg) : edgv (a ++ b) = edgv a ++ edgv b := by simp [edgv]
theorem edgv_one (x : Eg) : edgv [x] = [.int .i64 x.1, .int .i64 x.2] := by simp [edgv]
theorem edgv_length (l : List Eg) : (edgv l).length = l.length * 2 := by
  induction l with
  | nil => rfl
  | cons i l ih => rw [edgv_cons, List.length_append, ih, List.length_cons]; simp only [List.length_cons, List.length_nil]; omega
theorem edgv_cell (l : List Eg) : ∀ u ∈ edgv l, u.oneCell' = true := by
  intro u hu
  simp only [edgv, List.mem_flatMap] at hu
  obtain ⟨x, _, hx⟩ := hu
  simp only [List.mem_cons, List.not_mem_nil, or_false] at hx
  rcases hx with rfl | rfl <;> rfl
theorem edgv_get (l : List Eg) : ∀ (k j : Nat) (h : k < l.length), j < 2 → (edgv l)[2 * k + j]? = [Value.int .i64 l[k].1, .int .i64 l[k].2][j]? := by
  induction l with
  | nil => intro k j h; simp at h
  | cons i l ih =>
    intro k j h hj
    rw [edgv_cons]
    cases k with
    | zero => rw [List.getElem?_append_left (by simp; omega)]; simp
    | succ k =>
      rw [List.getElem?_append_right (by simp; omega), show 2 * (k + 1) + j - [Value.int .i64 i.1, Value.int .i64 i.2].length = 2 * k + j by simp; omega]
      exact ih k j (by simpa using h) hj
theorem add_flat (b off j : Nat) : (⟨b, off, none⟩ : Addr).add j = ⟨b, off + j, none⟩ := by unfold Addr.add; split <;> simp_all
theorem Rd.edge {w : World} {B n k : Nat} {A : Option Addr} {l : List Eg} (h : Rd w B 2 A n (edgv l)) (hk : k < n) :
    ∃ b off, A = some ⟨b, off, none⟩ ∧ b < B ∧ ∃ hs : k < l.length, w.cell? ⟨b, off + k * 2, none⟩ = some (.int .i64 l[k].1) ∧ w.cell? ⟨b, off + k * 2 + 1, none⟩ = some (.int .i64 l[k].2) := by
  have hs : k < l.length := by have := h.len; rw [edgv_length] at this; omega
  obtain ⟨ad, e, hb, hc⟩ := h.at_ (by omega)
  have h0 := hc _ _ (by have := edgv_get l k 0 hs (by omega); simpa using this)
  have h1 := hc _ _ (by have := edgv_get l k 1 hs (by omega); simpa using this)
  obtain ⟨b, off, spot⟩ := ad
  have hz := hc _ _ (by have := edgv_get l 0 0 (by omega) (by omega); simpa using this)
  have hspot : spot = none := by simpa [Addr.add] using World.cell?_spot hz
  subst hspot
  rw [add_flat, show 2 * k = k * 2 by omega] at h0
  rw [add_flat, show off + (2 * k + 1) = off + k * 2 + 1 by omega] at h1
  exact ⟨b, off, e, hb, hs, h0, h1⟩
theorem rd_edglen {w : World} {B n : Nat} {A : Option Addr} {l : List Eg} (h : Rd w B 2 A n (edgv l)) : n = l.length := by have := h.len; rw [edgv_length] at this; omega
def inE (n m : Nat) (e : Eg) : Prop := 0 ≤ e.1 ∧ e.1 < n ∧ 0 ≤ e.2 ∧ e.2 < m
def natE (l : List Eg) : Es := l.map fun e => (e.1.toNat, e.2.toNat)
def addE (rows : List (List Nat)) (e : Eg) : List (List Nat) := rows.set e.1.toNat (rows.getD e.1.toNat [] ++ [e.2.toNat])
def rowsOf (n : Nat) (l : List Eg) : List (List Nat) := l.foldl addE (List.replicate n [])
def nearOf (rows : List (List Nat)) (a : Nat) : List Nat := rows.getD a []
theorem rowsOf_snoc (n : Nat) (l : List Eg) (e : Eg) : rowsOf n (l ++ [e]) = addE (rowsOf n l) e := by unfold rowsOf; rw [foldl_snoc]
theorem rowsOf_len (n : Nat) (l : List Eg) : (rowsOf n l).length = n := by
  have : ∀ (l : List Eg) (r : List (List Nat)), (l.foldl addE r).length = r.length := by
    intro l
    induction l with
    | nil => intro r; rfl
    | cons e l ih => intro r; rw [List.foldl_cons, ih]; simp [addE]
  unfold rowsOf
  rw [this]; simp
theorem near_add (r : List (List Nat)) (e : Eg) (h : e.1.toNat < r.length) (a : Nat) : nearOf (addE r e) a = if a = e.1.toNat then nearOf r a ++ [e.2.toNat] else nearOf r a := by
  unfold nearOf addE
  rw [List.getD_eq_getElem?_getD, List.getD_eq_getElem?_getD, List.getElem?_set]
  by_cases ea : a = e.1.toNat
  · subst ea
    rw [if_pos rfl, if_pos h, if_pos rfl, List.getD_eq_getElem?_getD]
    rfl
  · rw [if_neg (fun h => ea h.symm), if_neg ea, List.getD_eq_getElem?_getD]
theorem mem_near (n m : Nat) : ∀ (k : Nat) (l : List Eg), l.length = k → (∀ e ∈ l, inE n m e) → ∀ a b, b ∈ nearOf (rowsOf n l) a ↔ (a, b) ∈ natE l := by
  intro k
  induction k with
  | zero =>
    intro l hl _ a b
    rw [List.eq_nil_of_length_eq_zero hl]
    have : nearOf (rowsOf n []) a = [] := by
      unfold nearOf rowsOf
      rw [List.foldl_nil, List.getD_eq_getElem?_getD, List.getElem?_replicate]
      split <;> rfl
    rw [this]
    simp [natE]
  | succ k ih =>
    intro l hl h a b
    obtain ⟨l', e, rfl⟩ : ∃ l' e, l = l' ++ [e] := ⟨l.dropLast, l.getLast (by intro h; rw [h] at hl; simp at hl), (List.dropLast_concat_getLast _).symm⟩
    have he := h e (by simp)
    have ih' := ih l' (by simpa using hl) (fun x hx => h x (by simp [hx])) a b
    rw [rowsOf_snoc, near_add _ _ (by rw [rowsOf_len]; have := he.1; have := he.2.1; omega)]
    unfold natE at *
    rw [List.map_append, List.mem_append]
    by_cases ea : a = e.1.toNat
    · rw [if_pos ea, List.mem_append, ih']
      simp only [List.mem_singleton, List.map_cons, List.map_nil, Prod.mk.injEq]
      exact ⟨fun h => h.imp id fun h => ⟨ea, h⟩, fun h => h.imp id fun h => h.2⟩
    · rw [if_neg ea, ih']
      simp only [List.mem_singleton, List.map_cons, List.map_nil, Prod.mk.injEq]
      exact ⟨.inl, fun h => h.resolve_right fun h => ea h.1⟩
theorem near_len (n : Nat) (a : Nat) : ∀ (k : Nat) (l : List Eg), l.length = k → (nearOf (rowsOf n l) a).length ≤ k := by
  intro k
  induction k with
  | zero =>
    intro l hl
    rw [List.eq_nil_of_length_eq_zero hl]
    have : nearOf (rowsOf n []) a = [] := by
      unfold nearOf rowsOf
      rw [List.foldl_nil, List.getD_eq_getElem?_getD, List.getElem?_replicate]
      split <;> rfl
    rw [this]
    simp
  | succ k ih =>
    intro l hl
    obtain ⟨l', e, rfl⟩ : ∃ l' e, l = l' ++ [e] := ⟨l.dropLast, l.getLast (by intro h; rw [h] at hl; simp at hl), (List.dropLast_concat_getLast _).symm⟩
    have h1 := ih l' (by simpa using hl)
    rw [rowsOf_snoc]
    by_cases h : e.1.toNat < (rowsOf n l').length
    · rw [near_add _ _ h]
      split
      · rw [List.length_append]; simp; omega
      · omega
    · unfold addE
      rw [List.set_eq_of_length_le (by omega)]
      omega
/-! ### Rows in memory, as they grow -/
def natv (l : List Nat) : List Value := l.map fun (b : Nat) => Value.int .i64 (b : Int)
theorem natv_length (l : List Nat) : (natv l).length = l.length := by simp [natv]
theorem natv_append (a b : List Nat) : natv (a ++ b) = natv a ++ natv b := by simp [natv]
theorem natv_get (l : List Nat) (k : Nat) (h : k < l.length) : (natv l)[k]? = some (.int .i64 (l[k] : Int)) := by simp [natv, h]
structure Nears (w : World) (N : Nat) (rows : List (List Nat)) (vs : List Value) : Prop where
  blk : w.heap[N]? = some (.cells vs.toArray 39 (0, 0))
  len : vs.length = rows.length
  own : ∀ (i : Nat) (v : Value) (l : List Nat), vs[i]? = some v → rows[i]? = some l → w.ownsRow (N + 1) 3 1 v l.length (natv l)
  apart : ∀ (i j : Nat) (v u : Value) (k : Nat), i ≠ j → vs[i]? = some v → vs[j]? = some u → v.ownBlock = some k → u.ownBlock ≠ some k
section
variable {w w' : World} {N : Nat} {rows : List (List Nat)} {vs : List Value}
theorem Nears.lt (h : Nears w N rows vs) : N < w.heap.size := (Array.getElem?_eq_some_iff.1 h.blk).1
theorem Nears.blt (h : Nears w N rows vs) {i : Nat} {v : Value} {k : Nat} (hv : vs[i]? = some v) (hk : v.ownBlock = some k) : N < k ∧ k < w.heap.size := by
  have hi : i < rows.length := by rw [← h.len]; exact (List.getElem?_eq_some_iff.1 hv).1
  have := (h.own i v _ hv (List.getElem?_eq_getElem hi)).lt k hk
  omega
theorem Nears.upd {S : Nat → Prop} (h : Nears w N rows vs) (hu : Upd S w w') (hs : ∀ k, N ≤ k → k < w.heap.size → ¬ S k) : Nears w' N rows vs :=
  ⟨(hu.block N h.lt (hs N (Nat.le_refl _) h.lt)).trans h.blk, h.len, fun i v l hv hl => own_upd (h.own i v l hv hl) hu fun k hk => hs k (Nat.le_of_lt (h.blt hv hk).1) (h.blt hv hk).2, h.apart⟩
theorem Nears.cell (h : Nears w N rows vs) {i : Nat} (hi : i < vs.length) : w.cell? ⟨N, i, none⟩ = some vs[i] := by
  rw [cell_of_row w N i _ _ _ h.blk]
  simp [hi]
theorem Nears.push {i : Nat} {v v' : Value} {l l' : List Nat} (h : Nears w N rows vs) (hv : vs[i]? = some v) (hl : rows[i]? = some l) (ho : w'.ownsRow (N + 1) 3 1 v' l'.length (natv l')) (hu : Upd (fun k => v.ownBlock = some k) w w') (hat : RowAt w v v') :
    Nears (w'.setCell ⟨N, i, none⟩ v') N (rows.set i l') (vs.set i v') := by
  have hi : i < vs.length := (List.getElem?_eq_some_iff.1 hv).1
  have hN : ¬ v.ownBlock = some N := fun e => by have := (h.blt hv e).1; omega
  have hN' : ∀ k, v'.ownBlock = some k → k ≠ N := fun k hk e => by
    have := (ho.lt k hk).1
    omega
  have hu2 : Upd (fun k => k = N) w' (w'.setCell ⟨N, i, none⟩ v') := (Upd.refl (fun k => k = N) w').setCell ⟨N, i, none⟩ rfl v'
  have hblk := heap_setCell_same w' N i _ _ v' ((hu.block N h.lt hN).trans h.blk)
  refine ⟨by rw [hblk]; congr 2; apply Array.ext'; simp, by simp [h.len], fun j u r hj hr => ?_, fun a b x y k hab hx hy hk => ?_⟩
  · rw [List.getElem?_set] at hj hr
    by_cases e : i = j
    · subst e
      rw [if_pos rfl, if_pos hi] at hj
      rw [if_pos rfl, if_pos (by rw [← h.len]; exact hi)] at hr
      injection hj with hj
      injection hr with hr
      subst hj; subst hr
      exact own_upd ho hu2 fun k hk e => hN' k hk e
    · rw [if_neg e] at hj hr
      have h1 := h.own j u r hj hr
      exact own_upd (own_upd h1 hu fun k hk e2 => h.apart i j v u k e hv hj e2 hk) hu2 fun k hk e2 => by have := (h.blt hj hk).1; omega
  · rw [List.getElem?_set] at hx hy
    by_cases e1 : i = a
    · by_cases e2 : i = b
      · exact absurd (e1.symm.trans e2) hab
      · rw [if_pos e1, if_pos hi] at hx
        rw [if_neg e2] at hy
        injection hx with hx
        subst hx
        intro e
        have hb := (h.blt hy e).2
        exact h.apart i b v y k e2 hv hy (hat.old hb hk) e
    · by_cases e2 : i = b
      · rw [if_neg e1] at hx
        rw [if_pos e2, if_pos hi] at hy
        injection hy with hy
        subst hy
        intro e
        have hb := (h.blt hx hk).2
        exact h.apart a i x v k (fun e => e1 e.symm) hx hv hk (hat.old hb e)
      · rw [if_neg e1] at hx
        rw [if_neg e2] at hy
        exact h.apart a b x y k hab hx hy hk
end
/-- 'append(v, b)' runs. -/
theorem push_run (W : World) (v : Value) (l : List Nat) (b : Nat) (base : Nat) (hown : W.ownsRow base 3 1 v l.length (natv l)) (hbase : base ≤ W.heap.size) (hl : l.length + 1 ≤ 1048576) :
    ∃ v' w', (Builtin.append_ #[39, 39] 39 #[v, .slice (some ⟨W.heap.size, 0, none⟩) 1 1]).run Try.prog (W.alloc (.cells #[.int .i64 (b : Int)] 3)) = .ok v' w' ∧
      w'.ownsRow base 3 1 v' (l ++ [b]).length (natv (l ++ [b])) ∧ Upd (fun k => v.ownBlock = some k) W w' ∧ RowAt W v v' := by
  obtain ⟨i0, hi0, hz0, hz1, hz2⟩ := info_parts int_info
  obtain ⟨v', w', hrun, h2, h3, _, h5⟩ := run_append_own_at (P := Try.prog) (W.alloc (.cells #[.int .i64 (b : Int)] 3)) base 39 39 3 i0 (.int .i64 0) 1 8 Try.underlying39 hi0 hz0 hz1 hz2 rfl (by omega) v l.length (natv l) (hown.alloc _) ⟨W.heap.size, 0, none⟩ 1 1 [.int .i64 (b : Int)] rfl
    (fun j u hu => by
      rw [add_zero_off, cell_of_row _ W.heap.size j _ _ (0, 0) (heap_alloc_new W _)]
      simpa using hu) (by intro u hu; simp only [List.mem_singleton] at hu; subst hu; rfl) (by unfold maxLen; omega) (by omega) (by simp; omega)
  refine ⟨v', w', hrun, by rw [natv_append, List.length_append]; exact h2, Upd.of_grown (grown_pre h3), ?_⟩
  rcases h5 with h5 | h5
  · exact .inl h5
  · exact .inr ⟨_, by simp, h5⟩
theorem step_append_run {P : Program} {ops : Array Oper} {o : Oper} {a : Act} {w : World} {K : Act → World → Prop} {Q : Exit → Act → World → Prop} {E : Prop} (hgd : o.guard = none) (s x : Operand) (t : TypeId)
    (ho : o.op = .call { callee := .builtin .append, args := #[s, x], argTypes := #[t, t] }) (v u : Value) (hs : a.eval s = v) (hx : a.eval x = u) (v' : Value) (w' : World)
    (hrun : (Builtin.append_ #[t, t] o.type #[v, u]).run P w = .ok v' w') (h : K (a.put o.dst v') w') :
    if Region.wanted o (yielded ops a.tmps) = true then Oper.wp P o a w K Q else E := by
  have hw : Region.wanted o (yielded ops a.tmps) = true := by simp [Region.wanted, hgd]
  rw [if_pos hw]
  unfold Oper.wp execOp
  simp only [ho, resolve, invoke, builtin, Sem.run_bind, Sem.run_pure, Result.andThen_ok, List.map_toArray, List.map_cons, List.map_nil, hs, hx, hrun]
  exact h
theorem ints_info : (Try.prog.info? 39).map (fun i => (i.zero, i.size, i.bytes)) = some (some (.slice none 0 0), 1, 24) := by kernel_rfl
/-- 'make([][]int, n)'. -/
theorem mkrows (w : World) (n : Nat) (hn : n ≤ 1048576) : (Instr.makeSlice 55 (.int .i64 n) (.int .i64 n)).run Try.prog w = .ok (.slice (some ⟨w.heap.size, 0, none⟩) n n) (w.alloc (.cells (Array.replicate n (Value.slice none 0 0)) 39)) := by
  obtain ⟨i0, hi0, hz0, hz1, hz2⟩ := info_parts ints_info
  have h := run_makeSlice (P := Try.prog) w 55 39 i0 (.slice none 0 0) Try.underlying55 hi0 hz0 .i64 .i64 n n (by omega) (by omega) (by rw [hz1]; omega) (by rw [hz2]; omega) (by omega)
  rw [hz1, Int.toNat_natCast, Nat.mul_one] at h
  have e : (madeCells (Value.slice none 0 0).cells n).toList = _ := toList_madeCells_one _ n
  have e2 : madeCells (Value.slice none 0 0).cells n = Array.replicate n (Value.slice none 0 0) := Array.ext' (by rw [e]; simp)
  rw [h, e2]
theorem nears_made (w : World) (n : Nat) : Nears (w.alloc (.cells (Array.replicate n (Value.slice none 0 0)) 39)) w.heap.size (rowsOf n []) (List.replicate n (Value.slice none 0 0)) := by
  refine ⟨?_, by simp [rowsOf], fun i v l hv hl => ?_, fun i j v u k _ hv _ hk => ?_⟩
  · have := heap_alloc_new w (.cells (Array.replicate n (Value.slice none 0 0)) 39)
    rw [this, ← List.toArray_replicate]
  · unfold rowsOf at hl
    rw [List.foldl_nil, List.getElem?_replicate] at hl
    rw [List.getElem?_replicate] at hv
    split at hv
    · rw [if_pos (by assumption)] at hl
      injection hv with hv
      injection hl with hl
      subst hv; subst hl
      exact World.ownsRow_nil _ _ _ _
    · cases hv
  · rw [List.getElem?_replicate] at hv
    split at hv
    · injection hv with hv
      subst hv
      simp [Value.ownBlock] at hk
    · cases hv
set_option maxHeartbeats 4000000 in
set_option maxRecDepth 20000 in
theorem rrows_any (w : World) (n m : Nat) (A : Option Addr) (k c : Nat) (l : List Eg) (hr : Rd w w.heap.size 2 A k (edgv l)) (hk : k ≤ 4000) (hn : n ≤ 200) (hok : ∀ e ∈ l, inE n m e) (hm : m ≤ 200) :
    Calls Try.prog 21 #[.int .i64 n, .slice A k c] w fun e w' => e = .returned (.slice (some ⟨w.heap.size, 0, none⟩) n n) ∧ (∃ vs, Nears w' w.heap.size (rowsOf n l) vs) ∧ Below w.heap.size w w' := by
  have HKL := Lib.hid (rd_edglen hr)
  have HOK := Lib.hid hok
  have hmk := fun w => mkrows w n (by omega)
  have hN0 := nears_made w n
  have hB0 := (Below.refl w.heap.size w).alloc (Nat.le_refl _) (.cells (Array.replicate n (Value.slice none 0 0)) 39)
  clear hok
  go_enter Try.func21, Try.ntmps21
  go_wp2
  clear hmk
  go_loopw [12] (fun i wx => ∃ j : Nat, j ≤ k ∧ i = .int .i64 j ∧ (∃ vs, Nears wx w.heap.size (rowsOf n (l.take j)) vs) ∧ Below w.heap.size w wx) (fun i _ => k - (intOf i).toNat)
  case atStart => exact ⟨0, Nat.zero_le _, rfl, ⟨_, hN0⟩, hB0⟩
  case round =>
    obtain ⟨j, hj, rfl, ⟨vs, hN⟩, hb⟩ := hrel
    clear hN0 hB0
    by_cases hlt : j < k
    · obtain ⟨b, off, rfl, hbB, hs, c0, c1⟩ := hr.edge hlt
      have d0 := (hb.cell (p := ⟨b, off + j * 2, none⟩) hbB).trans c0
      have d1 := (hb.cell (p := ⟨b, off + j * 2 + 1, none⟩) hbB).trans c1
      have hoe := HOK.out _ (List.getElem_mem hs)
      have hsn := rowsOf_snoc n (l.take j) l[j]
      rw [← List.take_succ_eq_append_getElem hs] at hsn
      obtain ⟨⟨ea, eb⟩, he⟩ : ∃ e, l[j] = e := ⟨_, rfl⟩
      rw [he] at d0 d1 hoe hsn
      obtain ⟨h1, h2, h3, h4⟩ := hoe
      simp only at d0 d1 h1 h2 h3 h4
      obtain ⟨a, rfl⟩ : ∃ a : Nat, ea = (a : Int) := ⟨ea.toNat, by omega⟩
      obtain ⟨q, rfl⟩ : ∃ q : Nat, eb = (q : Int) := ⟨eb.toNat, by omega⟩
      have hal : a < vs.length := by rw [hN.len, rowsOf_len]; omega
      have hva := List.getElem?_eq_getElem hal
      have hra : (rowsOf n (l.take j))[a]? = some (nearOf (rowsOf n (l.take j)) a) := by
        have : a < (rowsOf n (l.take j)).length := by rw [rowsOf_len]; omega
        unfold nearOf
        rw [List.getD_eq_getElem?_getD, List.getElem?_eq_getElem this]
        rfl
      clear c0 c1
      obtain ⟨v, hv⟩ : ∃ v, vs[a] = v := ⟨_, rfl⟩
      rw [hv] at hva
      go_wp2
      have hXu : Upd (fun _ => False) wr (wr.alloc (.cells #[.int .i64 (a : Int), .int .i64 (q : Int)] 37)).drew := ((Upd.refl (fun _ => False) wr).alloc _).drewN 1
      have hXz : wr.heap.size < (wr.alloc (.cells #[.int .i64 (a : Int), .int .i64 (q : Int)] 37)).drew.heap.size := by show wr.heap.size < (wr.alloc _).heap.size; simp
      have hXb : (wr.alloc (.cells #[.int .i64 (a : Int), .int .i64 (q : Int)] 37)).drew.heap[wr.heap.size]? = some (.cells #[.int .i64 (a : Int), .int .i64 (q : Int)] 37 (0, 0)) := heap_alloc_new wr _
      obtain ⟨wX, hwX⟩ : ∃ wX, wX = (wr.alloc (.cells #[.int .i64 (a : Int), .int .i64 (q : Int)] 37)) := ⟨_, rfl⟩
      rw [← hwX] at hXu hXz hXb ⊢
      clear hwX
      have hNX := hN.upd hXu (fun _ _ _ h => h)
      obtain ⟨v', w3, happ, ho3, hu3, hat3⟩ := push_run wX.drew v (nearOf (rowsOf n (l.take j)) a) q (w.heap.size + 1) (hNX.own _ _ _ hva hra) (by have := hNX.lt; omega) (by have := near_len n a j (l.take j) (by rw [List.length_take]; omega); omega)
      obtain ⟨A', L', c', hv'⟩ : ∃ A' L' c', v' = .slice A' L' c' := by
        obtain ⟨A', c', h⟩ := own_shape ho3
        exact ⟨A', _, c', h⟩
      have hN4 := hNX.push hva hra ho3 hu3 hat3
      have cN : wX.drew.cell? ⟨w.heap.size, a, none⟩ = some v := by rw [hNX.cell hal, hv]
      have nN : ¬ v.ownBlock = some w.heap.size := fun e => by have := (hNX.blt hva e).1; omega
      have cA : (wX.drew.alloc (.cells #[.int .i64 (q : Int)] 3)).cell? ⟨w.heap.size, a, none⟩ = some v := (((Upd.refl (fun _ => False) wX.drew).alloc _).cell hNX.lt (fun h => h)).trans cN
      have cB : (wX.alloc (.cells #[.int .i64 (q : Int)] 3)).drew.cell? ⟨w.heap.size, a, none⟩ = some v := cA
      have c3 : w3.cell? ⟨w.heap.size, a, none⟩ = some v := (hu3.cell hNX.lt nN).trans cN
      have f3 : w3.frozen? ⟨w.heap.size, a, none⟩ = false := frozen_of_row _ _ _ _ _ ((hu3.block _ hNX.lt nN).trans hNX.blk)
      have MK : Hid (∀ W, Upd (fun k => v.ownBlock = some k ∨ k = w.heap.size) wX.drew W → W.cell? ⟨wr.heap.size, 0, none⟩ = some (.int .i64 (a : Int)) ∧ W.cell? ⟨wr.heap.size, 1, none⟩ = some (.int .i64 (q : Int))) := Lib.hid fun W hW => by
        have hX := (hW.block wr.heap.size hXz (by
          rintro (e | e)
          · have := (hN.blt hva e).2; omega
          · have := hN.lt; omega)).trans hXb
        constructor
        · rw [cell_of_row W _ 0 _ _ _ hX]; rfl
        · rw [cell_of_row W _ 1 _ _ _ hX]; rfl
      have U0 : Upd (fun k => v.ownBlock = some k ∨ k = w.heap.size) wX.drew wX.drew := Upd.refl _ _
      have U1 : Upd (fun k => v.ownBlock = some k ∨ k = w.heap.size) wX.drew (wX.drew.alloc (.cells #[.int .i64 (q : Int)] 3)) := U0.alloc _
      have U3 : Upd (fun k => v.ownBlock = some k ∨ k = w.heap.size) wX.drew w3 := hu3.mono fun _ _ h => .inl h
      have U4 : Upd (fun k => v.ownBlock = some k ∨ k = w.heap.size) wX.drew (w3.setCell ⟨w.heap.size, a, none⟩ v') := U3.setCell _ (.inr rfl) _
      have hB4 : Below w.heap.size w (w3.setCell ⟨w.heap.size, a, none⟩ v') := hb.trans (((hXu.mono (S' := fun k => v.ownBlock = some k ∨ k = w.heap.size) (fun _ _ h => h.elim)).trans U4 (fun _ _ h => h)).below (fun k hk e => by
        rcases e with e | e
        · have := (hN.blt hva e).1; omega
        · omega) hb.size)
      have HU := Lib.hid (And.intro U0 (And.intro U1 (And.intro U3 U4)))
      have HN4 := Lib.hid hN4
      have HB4 := Lib.hid hB4
      have HSN := Lib.hid hsn
      have HAPP := Lib.hid happ
      clear U0 U1 U3 U4 hN4 hB4 hNX hXu hXz hXb ho3 hu3 hat3 hN hr d0 d1 hb hra hva hv he hsn happ
      subst hv'
      refine wp_region_held_drew (S := fun W => W.cell? ⟨wr.heap.size, 0, none⟩ = some (.int .i64 (a : Int)) ∧ W.cell? ⟨wr.heap.size, 1, none⟩ = some (.int .i64 (q : Int))) (by kernel_rfl) (MK.out _ HU.out.1) (fun hHeld => ?_)
      refine wpAnyH_take (i := 0) (v := ?vq0) rfl (by kernel_rfl) (by kernel_rfl) (by kernel_rfl) (fun _ _ _ h => h) (Or.inl ⟨by rfl, ?yq0⟩) (by assumption) ?rq0
      case yq0 => (intro w hSw; (try dsimp only at hSw); go_simp; try with_reducible rfl)
      try simp only [Act.put, List.setIfInBounds_toArray, List.set_cons_zero, List.set_cons_succ]
      refine wpAnyH_take (i := 1) (v := ?vq1) rfl (by kernel_rfl) (by kernel_rfl) (by kernel_rfl) (fun _ _ _ h => h) (Or.inl ⟨by rfl, ?yq1⟩) (by assumption) ?rq1
      case yq1 => (intro w hSw; (try dsimp only at hSw); go_simp; try with_reducible rfl)
      try simp only [Act.put, List.setIfInBounds_toArray, List.set_cons_zero, List.set_cons_succ]
      refine wpAnyH_take (i := 2) (v := ?vq2) rfl (by kernel_rfl) (by kernel_rfl) (by kernel_rfl) (fun _ _ _ h => h) (Or.inl ⟨by rfl, ?yq2⟩) (by assumption) ?rq2
      case yq2 => (intro w hSw; (try dsimp only at hSw); go_simp; try with_reducible rfl)
      try simp only [Act.put, List.setIfInBounds_toArray, List.set_cons_zero, List.set_cons_succ]
      refine wpAnyH_take (i := 3) (v := ?vq3) rfl (by kernel_rfl) (by kernel_rfl) (by kernel_rfl) (fun _ _ _ h => h) (Or.inl ⟨by rfl, ?yq3⟩) (by assumption) ?rq3
      case yq3 => (intro w hSw; (try dsimp only at hSw); go_simp; try with_reducible rfl)
      try simp only [Act.put, List.setIfInBounds_toArray, List.set_cons_zero, List.set_cons_succ]
      refine wpAnyH_take (i := 4) (v := ?vq4) rfl (by kernel_rfl) (by kernel_rfl) (by kernel_rfl) (fun _ _ _ h => h) (Or.inl ⟨by rfl, ?yq4⟩) (by assumption) ?rq4
      case yq4 => (intro w hSw; (try dsimp only at hSw); go_simp; try with_reducible rfl)
      try simp only [Act.put, List.setIfInBounds_toArray, List.set_cons_zero, List.set_cons_succ]
      refine wpAnyH_take (i := 5) (v := ?vq5) rfl (by kernel_rfl) (by kernel_rfl) (by kernel_rfl) (fun _ _ _ h => h) (Or.inl ⟨by rfl, ?yq5⟩) (by assumption) ?rq5
      case yq5 => (intro w hSw; (try dsimp only at hSw); go_simp; try with_reducible rfl)
      try simp only [Act.put, List.setIfInBounds_toArray, List.set_cons_zero, List.set_cons_succ]
      refine wpAnyH_take (i := 6) (v := ?vq6) rfl (by kernel_rfl) (by kernel_rfl) (by kernel_rfl) (fun _ _ _ h => h) (Or.inl ⟨by rfl, ?yq6⟩) (by assumption) ?rq6
      case yq6 => (intro w hSw; (try dsimp only at hSw); go_simp; try with_reducible rfl)
      try simp only [Act.put, List.setIfInBounds_toArray, List.set_cons_zero, List.set_cons_succ]
      refine wpAnyH_take (i := 8) (v := ?vq8) rfl (by kernel_rfl) (by kernel_rfl) (by kernel_rfl) (fun _ _ _ h => h) (Or.inl ⟨by rfl, ?yq8⟩) (by assumption) ?rq8
      case yq8 => (intro w hSw; (try dsimp only at hSw); go_simp; try with_reducible rfl)
      try simp only [Act.put, List.setIfInBounds_toArray, List.set_cons_zero, List.set_cons_succ]
      refine wpAnyH_take (i := 9) (v := ?vq9) rfl (by kernel_rfl) (by kernel_rfl) (by kernel_rfl) (fun _ _ _ h => h) (Or.inl ⟨by rfl, ?yq9⟩) (by assumption) ?rq9
      case yq9 => (intro w hSw; (try dsimp only at hSw); go_simp; try with_reducible rfl)
      try simp only [Act.put, List.setIfInBounds_toArray, List.set_cons_zero, List.set_cons_succ]
      refine wpAnyH_ready (rs := [7, 10]) (by kernel_rfl) (by simp) ?_
      refine AllReadyH.cons rfl (fun K hK => ?_) (AllReadyH.cons rfl (fun K hK => ?_) AllReadyH.nil)
      · go_simp
        refine hK.out _ _ (MK.out _ HU.out.1) (fun hHeld => ?_)
        clear hK K
        try simp only [Act.put, List.setIfInBounds_toArray, List.set_cons_zero, List.set_cons_succ]
        refine wpAnyH_ready (rs := [10]) (by kernel_rfl) (by simp) ?_
        refine AllReadyH.cons rfl (fun K hK => ?_) AllReadyH.nil
        go_simp
        refine hK.out _ _ (MK.out _ HU.out.2.1) (fun hHeld => ?_)
        clear hK K
        try simp only [Act.put, List.setIfInBounds_toArray, List.set_cons_zero, List.set_cons_succ]
        refine wpAnyH_ready (rs := [11]) (by kernel_rfl) (by simp) ?_
        refine AllReadyH.cons rfl (fun K hK => ?_) AllReadyH.nil
        refine step_append_run rfl (.tmp 23) (.tmp 26) 39 rfl v (.slice (some ⟨wX.drew.heap.size, 0, none⟩) 1 1) rfl rfl _ w3 (by exact HAPP.out) ?_
        refine hK.out _ _ (MK.out _ HU.out.2.2.1) (fun hHeld => ?_)
        clear hK K
        try simp only [Act.put, List.setIfInBounds_toArray, List.set_cons_zero, List.set_cons_succ]
        refine wpAnyH_ready (rs := [12]) (by kernel_rfl) (by simp) ?_
        refine AllReadyH.cons rfl (fun K hK => ?_) AllReadyH.nil
        go_simp
        refine hK.out _ _ (MK.out _ HU.out.2.2.1) (fun hHeld => ?_)
        clear hK K
        try simp only [Act.put, List.setIfInBounds_toArray, List.set_cons_zero, List.set_cons_succ]
        refine wpAnyH_ready (rs := [13]) (by kernel_rfl) (by simp) ?_
        refine AllReadyH.cons rfl (fun K hK => ?_) AllReadyH.nil
        go_simp
        refine hK.out _ _ (MK.out _ HU.out.2.2.2) (fun hHeld => ?_)
        clear hK K
        try simp only [Act.put, List.setIfInBounds_toArray, List.set_cons_zero, List.set_cons_succ]
        refine wpAnyH_done (by kernel_rfl) ?_ _
        go_wp2
        go_roundw
        case rel => exact ⟨j + 1, by omega, by go_num, ⟨_, by rw [HSN.out]; exact HN4.out⟩, HB4.out⟩
        case measure => simp [intOf]; omega
      · go_simp
        refine hK.out _ _ (MK.out _ HU.out.2.1) (fun hHeld => ?_)
        clear hK K
        try simp only [Act.put, List.setIfInBounds_toArray, List.set_cons_zero, List.set_cons_succ]
        refine wpAnyH_ready (rs := [7]) (by kernel_rfl) (by simp) ?_
        refine AllReadyH.cons rfl (fun K hK => ?_) AllReadyH.nil
        go_simp
        refine hK.out _ _ (MK.out _ HU.out.2.1) (fun hHeld => ?_)
        clear hK K
        try simp only [Act.put, List.setIfInBounds_toArray, List.set_cons_zero, List.set_cons_succ]
        refine wpAnyH_ready (rs := [11]) (by kernel_rfl) (by simp) ?_
        refine AllReadyH.cons rfl (fun K hK => ?_) AllReadyH.nil
        refine step_append_run rfl (.tmp 23) (.tmp 26) 39 rfl v (.slice (some ⟨wX.drew.heap.size, 0, none⟩) 1 1) rfl rfl _ w3 (by exact HAPP.out) ?_
        refine hK.out _ _ (MK.out _ HU.out.2.2.1) (fun hHeld => ?_)
        clear hK K
        try simp only [Act.put, List.setIfInBounds_toArray, List.set_cons_zero, List.set_cons_succ]
        refine wpAnyH_ready (rs := [12]) (by kernel_rfl) (by simp) ?_
        refine AllReadyH.cons rfl (fun K hK => ?_) AllReadyH.nil
        go_simp
        refine hK.out _ _ (MK.out _ HU.out.2.2.1) (fun hHeld => ?_)
        clear hK K
        try simp only [Act.put, List.setIfInBounds_toArray, List.set_cons_zero, List.set_cons_succ]
        refine wpAnyH_ready (rs := [13]) (by kernel_rfl) (by simp) ?_
        refine AllReadyH.cons rfl (fun K hK => ?_) AllReadyH.nil
        go_simp
        refine hK.out _ _ (MK.out _ HU.out.2.2.2) (fun hHeld => ?_)
        clear hK K
        try simp only [Act.put, List.setIfInBounds_toArray, List.set_cons_zero, List.set_cons_succ]
        refine wpAnyH_done (by kernel_rfl) ?_ _
        go_wp2
        go_roundw
        case rel => exact ⟨j + 1, by omega, by go_num, ⟨_, by rw [HSN.out]; exact HN4.out⟩, HB4.out⟩
        case measure => simp [intOf]; omega
    · obtain rfl : j = k := by omega
      rw [HKL.out, List.take_length] at hN
      go_wp2
      go_ret
      exact ⟨rfl, ⟨vs, hN⟩, hb⟩
end Go.Proofs.Ytmekcpbcgelliaa