/- Rows that grow, and where they then lie; what a call turns (Upd). -/
import Derived.Test.YtppjpledjhinbaaDoorMem
import Derived.Maps.AppendAt
import Derived.Lib.AppendStr
import Derived.ProofKit
import Derived.SizedLaws
import Derived.SliceStrings
import Derived.ChangeOld
import Derived.OpenShut
import Derived.Deep.Slices
import Derived.Deep.Fields
import Derived.Test.YtppjpledjhinbaaDoorRows
import Derived.Deep.CondSized
import Derived.Maps.OwnOps
import Derived.Maps.OwnSet
import Derived.Maps.Views
import Derived.MapViews
import Derived.WideKeyEntry
namespace Go.Proofs.YtppjpledjhinbaaDoor
open Go.RowKit

/-- w' is w but for the blocks in S, and new ones. -/
structure Upd (S : Nat → Prop) (w w' : World) : Prop where
  os : w'.os = w.os
  tape : w'.tape = w.tape
  output : w'.output = w.output
  size : w.heap.size ≤ w'.heap.size
  block : ∀ k, k < w.heap.size → ¬ S k → w'.heap[k]? = w.heap[k]?
section
variable {S S' : Nat → Prop} {w w' w1 w2 : World}
theorem Upd.refl (S : Nat → Prop) (w : World) : Upd S w w := ⟨rfl, rfl, rfl, Nat.le_refl _, fun _ _ _ => rfl⟩
theorem Upd.trans (h : Upd S w w1) (h2 : Upd S' w1 w2) (hs : ∀ k, k < w.heap.size → S' k → S k) : Upd S w w2 :=
  ⟨h2.os.trans h.os, h2.tape.trans h.tape, h2.output.trans h.output, Nat.le_trans h.size h2.size, fun k hk hn =>
    (h2.block k (Nat.lt_of_lt_of_le hk h.size) (fun h' => hn (hs k hk h'))).trans (h.block k hk hn)⟩
theorem Upd.mono (h : Upd S w w') (hs : ∀ k, k < w.heap.size → S k → S' k) : Upd S' w w' := ⟨h.os, h.tape, h.output, h.size, fun k hk hn => h.block k hk (fun h' => hn (hs k hk h'))⟩
theorem Upd.of_below (h : Below w.heap.size w w') : Upd S w w' := ⟨h.os, h.tape, h.output, h.size, fun k hk _ => h.block k hk⟩
theorem Upd.below {B : Nat} (h : Upd S w w') (hs : ∀ k, k < B → ¬ S k) (hB : B ≤ w.heap.size) : Below B w w' := ⟨h.os, h.tape, h.output, h.size, fun k hk => h.block k (Nat.lt_of_lt_of_le hk hB) (hs k hk)⟩
theorem Upd.of_grown {row : Option Nat} (h : w.grownBy w' row) : Upd (fun k => row = some k) w w' := ⟨h.os, h.tape, h.output, h.size, fun k hk hn => h.block k hk (fun e => hn e.symm)⟩
theorem Upd.alloc (h : Upd S w w') (o : Obj) : Upd S w (w'.alloc o) := h.trans (S' := fun _ => False) (⟨rfl, rfl, rfl, by simp, fun k hk _ => Below.heap_alloc w' o k hk⟩) (fun _ _ h => h.elim)
theorem Upd.setCell (h : Upd S w w') (p : Addr) (hp : S p.block) (u : Value) : Upd S w (w'.setCell p u) :=
  ⟨h.os, h.tape, h.output, by simpa using h.size, fun k hk hn => (Below.heap_setCell w' p u k (fun e => hn (e ▸ hp))).trans (h.block k hk hn)⟩
theorem Upd.drewN (h : Upd S w w') (n : Nat) : Upd S w (w'.drewN n) := ⟨h.os, h.tape, h.output, h.size, h.block⟩
theorem Upd.cell {p : Addr} (h : Upd S w w') (hp : p.block < w.heap.size) (hn : ¬ S p.block) : w'.cell? p = w.cell? p := World.cell?_of_block (w := w) (h.block p.block hp hn)
theorem Upd.frozen {p : Addr} (h : Upd S w w') (hp : p.block < w.heap.size) (hn : ¬ S p.block) : w'.frozen? p = w.frozen? p := World.frozen?_of_block (w := w) (h.block p.block hp hn)
theorem own_upd {base size n : Nat} {e : TypeId} {v : Value} {xs : List Value} (h : w.ownsRow base e size v n xs) (hu : Upd S w w') (hs : ∀ k, v.ownBlock = some k → ¬ S k) : w'.ownsRow base e size v n xs := by
  refine ⟨h.1, ?_⟩
  rcases h.2 with hn | ⟨g, cap, cur, rfl, hb, hg, rest⟩
  · exact .inl hn
  · exact .inr ⟨g, cap, cur, rfl, hb, (hu.block g (Array.getElem?_eq_some_iff.1 hg).1 (hs g rfl)).trans hg, rest⟩
theorem Rd.upd {B size n : Nat} {A : Option Addr} {xs : List Value} (h : Rd w B size A n xs) (hu : Upd S w w') (hB : B ≤ w.heap.size) (hs : 0 < n → ∀ ad, A = some ad → ¬ S ad.block) : Rd w' B size A n xs :=
  ⟨h.len, fun hn => by
    obtain ⟨ad, e, hb, hc⟩ := h.at_ hn
    exact ⟨ad, e, hb, fun j u hu' => (hu.cell (by rw [block_add]; omega) (by rw [block_add]; exact hs hn ad e)).trans (hc j u hu')⟩⟩
theorem own_mono {base base' size n : Nat} {e : TypeId} {v : Value} {xs : List Value} (h : w.ownsRow base e size v n xs) (hb : base' ≤ base) : w.ownsRow base' e size v n xs :=
  ⟨h.1, h.2.imp id fun ⟨g, cap, cur, h1, h2, h3⟩ => ⟨g, cap, cur, h1, Nat.le_trans hb h2, h3⟩⟩

/-- Below the callee's own rows nothing turns. -/
theorem below_row {B base n size : Nat} {w0 w w' : World} {e : TypeId} {v : Value} {xs : List Value} (hb : Below B w0 w) (hB : B ≤ w.heap.size) (hown : w.ownsRow base e size v n xs) (hbase : B ≤ base) (hu : Upd (fun k => v.ownBlock = some k) w w') : Below B w0 w' :=
  hb.trans (hu.below (fun k hk e => by have := (hown.lt k e).1; omega) hB)

/-- The row of v' is that of v, or a new one. -/
def RowAt (w : World) (v v' : Value) : Prop := v'.ownBlock = v.ownBlock ∨ ∃ k, w.heap.size ≤ k ∧ v'.ownBlock = some k
theorem RowAt.refl (w : World) (v : Value) : RowAt w v v := .inl rfl
theorem RowAt.trans {v v1 v2 : Value} (h : RowAt w v v1) (h2 : RowAt w1 v1 v2) (hw : w.heap.size ≤ w1.heap.size) : RowAt w v v2 := by
  rcases h2 with h2 | ⟨k, hk, h2⟩
  · rcases h with h | ⟨k, hk, h⟩
    · exact .inl (h2.trans h)
    · exact .inr ⟨k, hk, h2.trans h⟩
  · exact .inr ⟨k, Nat.le_trans hw hk, h2⟩
theorem RowAt.old {v v' : Value} (h : RowAt w v v') {k : Nat} (hk : k < w.heap.size) (e : v'.ownBlock = some k) : v.ownBlock = some k := by
  rcases h with h | ⟨k', hk', h⟩
  · rw [← h]; exact e
  · rw [e] at h; injection h with h; omega
end

section
variable {P : Program} {w : World}
/-- Where 'append(out, s...)', s a string, puts the row. -/
theorem append_string_at (base : Nat) (t u ty e : TypeId) (i : TypeInfo) (ht : P.underlying t = some (.slice e)) (hu : P.underlying u = some .string) (hi : P.info? e = some i) (hz : i.zero = some (.int .u8 0))
    (hsize : i.size = 1) (hby : i.bytes = 1) (v : Value) (n : Nat) (xs : List Value) (hown : w.ownsRow base e 1 v n xs) (s : ByteArray) (hbytes : n + s.size ≤ 140737488355328)
    {v' : Value} {w' : World} (hr : (Builtin.append_ #[t, u] ty #[v, .string s]).run P w = .ok v' w') : RowAt w v v' := by
  have hxl : xs.length = n := by simpa using hown.1
  rcases hown.2 with ⟨rfl, rfl⟩ | ⟨g, cap, cur, rfl, hbg, hg, hnc, hcm, hcs, _⟩
  · by_cases hm : s.size = 0
    · have hf := Lib.run_firstCells_string (P := P) w 1 s
      rw [hm] at hf
      simp [Builtin.append_, run_underlying ht, run_underlying hu, sizeOf, typeInfo, hi, hsize, Builtin.lenOf, hm, hf] at hr
      rw [← hr.1]
      exact .inl rfl
    · have hr2 := run_append_nil_string (P := P) w t u ty e i (.int .u8 0) ht hu hi hz s (by omega) (by omega) (by rw [hby]; omega)
      rw [hr2] at hr
      injection hr with hv _
      rw [← hv]
      exact .inr ⟨_, Nat.le_refl _, rfl⟩
  · by_cases hroom : n + s.size ≤ cap
    · have hcs' : cur.size = cap := by simpa using hcs
      have hr2 := Lib.run_append_room_string (P := P) w t u ty e i ht hu hi hsize g n cap cur hg s hroom (by omega)
      rw [hr2] at hr
      injection hr with hv _
      rw [← hv]
      exact .inl rfl
    · have holds : ∀ j u, xs[j]? = some u → w.cell? ((⟨g, 0, none⟩ : Addr).add j) = some u := hown.cells (g := g) rfl
      have hr2 := Lib.run_append_grow_string (P := P) w t u ty e i (.int .u8 0) ht hu hi hz ⟨g, 0, none⟩ n cap xs (by rw [hsize]; simpa using hxl) holds s (by omega) (by omega) (by rw [hby]; exact growslice_fits (by omega) (by omega))
      rw [hr2] at hr
      injection hr with hv _
      rw [← hv]
      exact .inr ⟨_, Nat.le_refl _, rfl⟩

/-- 'append(out, x)', x one element in the newest block. -/
theorem wpList_push {ops : Array Oper} {rest : List Oper} {o : Oper} {a : Act} {Q : Exit → Act → World → Prop} (hgd : o.guard = none) (s x : Operand) (t : TypeId)
    (ho : o.op = .call { callee := .builtin .append, args := #[s, x], argTypes := #[t, t] })
    (base : Nat) (e : TypeId) (i : TypeInfo) (z : Value) (size bytes : Nat) (ht : P.underlying t = some (.slice e)) (hi : P.info? e = some i) (hz : i.zero = some z)
    (hsize : i.size = size) (hby : i.bytes = bytes) (hzs : z.cells.size = size) (hsz : 0 < size)
    (v : Value) (n : Nat) (xs : List Value) (cs : Array Value) (hs : a.eval s = v) (hown : w.ownsRow base e size v n xs) (hx : a.eval x = .slice (some ⟨w.heap.size, 0, none⟩) 1 1) (hcs : cs.size = size) (h1 : ∀ u ∈ cs.toList, u.oneCell' = true)
    (hbytes : (n + 1) * bytes ≤ 140737488355328) (h63 : n + 1 ≤ maxLen) (hbase : base ≤ w.heap.size)
    (h : ∀ v' w', w'.ownsRow base e size v' (n + 1) (xs ++ cs.toList) → Upd (fun k => v.ownBlock = some k) w w' → RowAt w v v' → wpList P ops Q rest (a.put o.dst v') w') : wpList P ops Q (o :: rest) a (w.alloc (.cells cs e)) := by
  refine wpList_plain hgd fun K hK => ?_
  obtain ⟨v', w', hrun, h2, h3, _, h5⟩ := run_append_own_at (P := P) (w.alloc (.cells cs e)) base t o.type e i z size bytes ht hi hz hsize hby hzs hsz v n xs (hown.alloc _) ⟨w.heap.size, 0, none⟩ 1 1 cs.toList (by simpa using hcs)
    (fun j u hu => by
      rw [add_zero_off, cell_of_row _ w.heap.size j cs e (0, 0) (heap_alloc_new w _)]
      simpa using hu) h1 h63 hbytes (by simp; omega)
  unfold Oper.wp execOp
  simp only [ho, resolve, invoke, builtin, Sem.run_bind, Sem.run_pure, Result.andThen_ok, List.map_toArray, List.map_cons, List.map_nil, hs, hx, hrun]
  refine hK _ _ (h v' w' h2 (Upd.of_grown (grown_pre h3)) ?_)
  rcases h5 with h5 | h5
  · exact .inl h5
  · exact .inr ⟨_, by simp, h5⟩
/-- 'append(out, xs...)', xs a slice that reads as news. -/
theorem wpList_app {ops : Array Oper} {rest : List Oper} {o : Oper} {a : Act} {Q : Exit → Act → World → Prop} (hgd : o.guard = none) (s x : Operand) (t : TypeId)
    (ho : o.op = .call { callee := .builtin .append, args := #[s, x], argTypes := #[t, t] })
    (base : Nat) (e : TypeId) (i : TypeInfo) (z : Value) (size bytes : Nat) (ht : P.underlying t = some (.slice e)) (hi : P.info? e = some i) (hz : i.zero = some z)
    (hsize : i.size = size) (hby : i.bytes = bytes) (hzs : z.cells.size = size) (hsz : 0 < size)
    (v : Value) (n : Nat) (xs : List Value) (B : Nat) (A : Option Addr) (m c : Nat) (news : List Value) (hs : a.eval s = v) (hown : w.ownsRow base e size v n xs) (hx : a.eval x = .slice A m c) (hr : Rd w B size A m news) (h1 : ∀ u ∈ news, u.oneCell' = true)
    (hbytes : (n + m) * bytes ≤ 140737488355328) (h63 : n + m ≤ maxLen) (hbase : base ≤ w.heap.size)
    (h : ∀ v' w', w'.ownsRow base e size v' (n + m) (xs ++ news) → Upd (fun k => v.ownBlock = some k) w w' → RowAt w v v' → wpList P ops Q rest (a.put o.dst v') w') : wpList P ops Q (o :: rest) a w := by
  refine wpList_plain hgd fun K hK => ?_
  have main : ∃ v' w', (Builtin.append_ #[t, t] o.type #[v, .slice A m c]).run P w = .ok v' w' ∧ w'.ownsRow base e size v' (n + m) (xs ++ news) ∧ Upd (fun k => v.ownBlock = some k) w w' ∧ RowAt w v v' := by
    have some_case : ∀ ad, A = some ad → (∀ j u, news[j]? = some u → w.cell? (ad.add j) = some u) → ∃ v' w', (Builtin.append_ #[t, t] o.type #[v, .slice A m c]).run P w = .ok v' w' ∧ w'.ownsRow base e size v' (n + m) (xs ++ news) ∧ Upd (fun k => v.ownBlock = some k) w w' ∧ RowAt w v v' := by
      rintro ad rfl hc
      obtain ⟨v', w', hrun, h2, h3, _, h5⟩ := run_append_own_at (P := P) w base t o.type e i z size bytes ht hi hz hsize hby hzs hsz v n xs hown ad m c news hr.len hc h1 h63 hbytes hbase
      exact ⟨v', w', hrun, h2, Upd.of_grown h3, h5.imp id fun h => ⟨_, Nat.le_refl _, h⟩⟩
    by_cases hm : m = 0
    · subst hm
      have hn : news = [] := List.eq_nil_of_length_eq_zero (by simpa using hr.len)
      subst hn
      cases A with
      | none => exact ⟨v, w, run_append_empty (P := P) w base t o.type e i size c ht hi v n xs hown, by simpa using hown, Upd.refl _ _, RowAt.refl _ _⟩
      | some ad => exact some_case ad rfl (by simp)
    · obtain ⟨ad, hA, _, hc⟩ := hr.at_ (by omega)
      exact some_case ad hA hc
  obtain ⟨v', w', hrun, h2, h3, h5⟩ := main
  unfold Oper.wp execOp
  simp only [ho, resolve, invoke, builtin, Sem.run_bind, Sem.run_pure, Result.andThen_ok, List.map_toArray, List.map_cons, List.map_nil, hs, hx, hrun]
  exact hK _ _ (h v' w' h2 h3 h5)
theorem strCells_bytv (s : ByteArray) : Lib.strCells s = bytv s.data.toList := rfl
/-- 'append(out, s...)', s a string. -/
theorem wpList_apps {ops : Array Oper} {rest : List Oper} {o : Oper} {a : Act} {Q : Exit → Act → World → Prop} (hgd : o.guard = none) (sl x : Operand) (t u : TypeId)
    (ho : o.op = .call { callee := .builtin .append, args := #[sl, x], argTypes := #[t, u] })
    (base : Nat) (e : TypeId) (i : TypeInfo) (ht : P.underlying t = some (.slice e)) (hu : P.underlying u = some .string) (hi : P.info? e = some i) (hz : i.zero = some (.int .u8 0))
    (hsize : i.size = 1) (hby : i.bytes = 1)
    (v : Value) (n : Nat) (l : List UInt8) (s : ByteArray) (hs : a.eval sl = v) (hown : w.ownsRow base e 1 v n (bytv l)) (hx : a.eval x = .string s)
    (hbytes : n + s.size ≤ 140737488355328) (hbase : base ≤ w.heap.size)
    (h : ∀ v' w', w'.ownsRow base e 1 v' (n + s.size) (bytv (l ++ s.data.toList)) → Upd (fun k => v.ownBlock = some k) w w' → RowAt w v v' → wpList P ops Q rest (a.put o.dst v') w') : wpList P ops Q (o :: rest) a w := by
  refine wpList_plain hgd fun K hK => ?_
  obtain ⟨v', w', hr, h2, h3, _⟩ := Lib.run_append_own_string (P := P) w base t u o.type e i ht hu hi hz hsize hby v n (bytv l) hown s (by unfold maxLen; omega) hbytes hbase
  have h5 := append_string_at base t u o.type e i ht hu hi hz hsize hby v n (bytv l) hown s hbytes hr
  unfold Oper.wp execOp
  simp only [ho, resolve, invoke, builtin, Sem.run_bind, Sem.run_pure, Result.andThen_ok, List.map_toArray, List.map_cons, List.map_nil, hs, hx, hr]
  exact hK _ _ (h v' w' (by rw [bytv_append, ← strCells_bytv]; exact h2) (Upd.of_grown h3) h5)
end
end Go.Proofs.YtppjpledjhinbaaDoor
/- Arguments opened, each in one term: what the form says of a value that is read, in this seat's own words (Rd). -/
namespace Go.Proofs.YtppjpledjhinbaaDoor
open Go.RowKit Go.ChangeShapes Go.WideShapes Go.ChangeAt

section
variable {H : Type} {enc : TypeId × Value → H} {P : Program} {w : World} {base : Nat} {spare : Nat → Bool} {held : Bool}

theorem lt_of_trod {t : TypeId} {v : Value} {d : DataW H} {p : List MemPlace} (h : DataW.Trod enc P w base spare held t v d p) : ∀ x ∈ p, x.block < w.heap.size := by
  obtain ⟨m, hm⟩ := h
  exact DataW.trod_lt m _ _ _ hm
theorem sz_at {ts : List TypeId} {ds : List (DataW H)} (h : (DataW.weightsEach P ts ds).all (· ≤ reachBytes) = true) (j : Nat) {t : TypeId} {d : DataW H} (ht : ts[j]? = some t) (hd : ds[j]? = some d) : ∀ n ∈ d.weights P t, n ≤ reachBytes := by
  intro n hn
  have := List.all_eq_true.1 h _ (DataW.weights_mem_each ht hd n hn)
  simpa using this
theorem reach_eq : reachBytes = 140737488351232 := rfl
theorem weightsAll_mem {e : TypeId} : ∀ {l : List (DataW H)} {d : DataW H}, d ∈ l → ∀ n ∈ d.weights P e, n ∈ DataW.weightsAll P e l
  | d0 :: r, d, hd, n, hn => by
    simp only [DataW.weightsAll, List.mem_append]
    rcases List.mem_cons.1 hd with rfl | h
    · exact .inl hn
    · exact .inr (weightsAll_mem h n hn)

/-- A string. -/
theorem open_str {t : TypeId} {v : Value} {d : DataW H} {p : List MemPlace} {b r} (ht : P.underlying t = some .string) (hval : Value.okWide P w r b t v)
    (h : DataW.Trod enc P w base spare held t v d p) (hsz : ∀ n ∈ d.weights P t, n ≤ reachBytes) :
    ∃ s : ByteArray, v = .string s ∧ s.size ≤ 140737488351232 := by
  obtain ⟨s, rfl, rfl, rfl, _⟩ := ChangeMaps.open_string ht hval h
  exact ⟨s, rfl, hsz _ (by simp [DataW.weights])⟩

/-- Numbers. -/
theorem open_u64 {t : TypeId} {v : Value} {d : DataW H} {p : List MemPlace} {b r} (ht : P.underlying t = some (.int .u64)) (hval : Value.okWide P w r b t v) (h : DataW.Trod enc P w base spare held t v d p) :
    ∃ n : Nat, v = .int .u64 (n : Int) ∧ n < 18446744073709551616 := by
  obtain ⟨x, rfl, rfl, rfl, wx⟩ := open_int ht hval h
  obtain ⟨h0, h1⟩ := bounds_u64 wx
  exact ⟨x.toNat, by rw [Int.toNat_of_nonneg h0], by omega⟩
theorem open_i64 {t : TypeId} {v : Value} {d : DataW H} {p : List MemPlace} {b r} (ht : P.underlying t = some (.int .i64)) (hval : Value.okWide P w r b t v) (h : DataW.Trod enc P w base spare held t v d p) :
    ∃ x : Int, v = .int .i64 x ∧ -9223372036854775808 ≤ x ∧ x ≤ 9223372036854775807 := by
  obtain ⟨x, rfl, rfl, rfl, wx⟩ := open_int ht hval h
  obtain ⟨h0, h1⟩ := bounds_i64 wx
  exact ⟨x, rfl, h0, h1⟩

/-- A slice of strings. -/
theorem open_strs {t e : TypeId} {v : Value} {d : DataW H} {p : List MemPlace} {b r} (ht : P.underlying t = some (.slice e)) (he : P.underlying e = some .string) (hc : P.cellsOf e = 1) (hb : P.bytesOf e = 16)
    (hval : Value.okWide P w r b t v) (h : DataW.Trod enc P w 0 (fun _ => true) held t v d p) (hsz : ∀ n ∈ d.weights P t, n ≤ reachBytes) :
    ∃ A n c, ∃ ss : List ByteArray, v = .slice A n c ∧ Rd w w.heap.size 1 A n (strv ss) ∧ n * 16 ≤ 140737488351232 ∧ ∀ s ∈ ss, s.size ≤ 140737488351232 := by
  have hlt := lt_of_trod h
  obtain ⟨a0, n, c, rfl⟩ := okWide_slice ht hval
  obtain ⟨fuel, hf⟩ := h
  rcases open_strings ht he hc hf with ⟨hcs, _⟩ | ⟨a, len', cap', ss, hcs, _, hl, hm, hz, hx, hcell, _⟩
  · simp [Value.cells] at hcs
    obtain ⟨rfl, rfl, rfl⟩ := hcs
    exact ⟨none, 0, 0, [], rfl, Rd.nil, by omega, by simp⟩
  · simp [Value.cells] at hcs
    obtain ⟨rfl, rfl, rfl⟩ := hcs
    simp only [if_true] at hz
    simp only [Prod.mk.injEq] at hx
    obtain ⟨rfl, rfl⟩ := hx
    have h1 := hsz ((ss.take n).length * 16 + (ss.drop n).length * 16) (by
      simp only [DataW.weights, ht, hb, strs, List.length_map, ← Nat.add_mul]
      exact List.mem_cons_self)
    rw [reach_eq] at h1
    simp only [List.length_take, List.length_drop] at h1
    refine ⟨some a, n, c, ss.take n, rfl, ⟨by rw [strv_length, List.length_take]; omega, fun hn => ⟨a, rfl, ?_, ?_⟩⟩, by omega, ?_⟩
    · exact hlt (.cell a.block (a.off + 0)) (by simp only [MemPlace.row, List.mem_map, List.mem_range]; exact ⟨0, by omega, rfl⟩)
    · intro j u hu
      have hj : j < (strv (ss.take n)).length := (List.getElem?_eq_some_iff.1 hu).1
      rw [strv_length, List.length_take] at hj
      rw [hcell j (by omega), ← hu, strv_get _ _ (by rw [List.length_take]; omega), List.getElem_take, List.getD_eq_getElem?_getD, List.getElem?_eq_getElem (by omega)]
      rfl
    · intro s hs
      have hd : (DataW.lit (.string s.data.toList) : DataW H) ∈ strs (ss.take n) := List.mem_map.2 ⟨s, hs, rfl⟩
      have h2 := hsz s.data.toList.length (by
        simp only [DataW.weights, ht]
        refine List.mem_cons_of_mem _ (List.mem_append.2 (.inl (weightsAll_mem hd _ ?_)))
        simp [DataW.weights])
      rw [reach_eq] at h2
      simpa using h2
end
end Go.Proofs.YtppjpledjhinbaaDoor
/- A slice of structs whose fields are one cell each, opened row by row. -/
namespace Go.Proofs.YtppjpledjhinbaaDoor
open Go.RowKit Go.ChangeShapes Go.WideShapes Go.ChangeAt

section
variable {H : Type} {enc : TypeId × Value → H} {P : Program} {w : World} {held : Bool}

theorem open_rows {t e : TypeId} {fs : Array Field} {v : Value} {d : DataW H} {p : List MemPlace} {b r} (ht : P.underlying t = some (.slice e)) (he : P.underlying e = some (.struct fs))
    (hone : Deep.oneCellFields P fs = true) (hC : P.cellsOf e = fs.size) (hpos : 0 < fs.size) (hval : Value.okWide P w r b t v) (h : DataW.Trod enc P w 0 (fun _ => true) held t v d p) (hsz : ∀ n ∈ d.weights P t, n ≤ reachBytes) :
    ∃ A n c, ∃ V : Nat → Nat → Value, v = .slice A n c ∧ n * P.bytesOf e ≤ 140737488351232 ∧
      (0 < n → ∃ ad, A = some ad ∧ ad.block < w.heap.size ∧ ∀ i j, i < n → j < fs.size → w.cell? (ad.add (i * fs.size + j)) = some (V i j)) ∧
      ∀ (i j : Nat) (f : Field), i < n → fs[j]? = some f → ∃ (y : DataW H × List MemPlace) (fuel : Nat), DataW.trod enc P w 0 (fun _ => true) held fuel f.type [V i j] = some y ∧ ∀ k ∈ y.1.weights P f.type, k ≤ 140737488351232 := by
  have hlt := lt_of_trod h
  obtain ⟨a0, n, c, rfl⟩ := okWide_slice ht hval
  obtain ⟨fuel, hf⟩ := h
  rcases Deep.open_slice ht hf with ⟨hcs, _⟩ | ⟨a, len', cap', m, fu, D, Pl, hcs, _, hl, hm, hmm, hx, hi⟩
  · simp [Value.cells] at hcs
    obtain ⟨rfl, rfl, rfl⟩ := hcs
    exact ⟨none, 0, 0, fun _ _ => undef, rfl, by omega, fun h => absurd h (by omega), fun i j f h => absurd h (by omega)⟩
  · simp [Value.cells] at hcs
    obtain ⟨rfl, rfl, rfl⟩ := hcs
    simp only [if_true] at hmm
    subst hmm
    simp only [Prod.mk.injEq] at hx
    obtain ⟨rfl, rfl⟩ := hx
    have row : ∀ i, i < n → ∃ (ys : List (DataW H × List MemPlace)) (nn : Nat), D i = .agg (ys.map (·.1)) ∧
        ∀ (j : Nat) (f : Field), fs[j]? = some f → ∃ (u : Value) (y : DataW H × List MemPlace), w.cell? (a.add (i * fs.size + j)) = some u ∧ ys[j]? = some y ∧ DataW.trod enc P w 0 (fun _ => true) held nn f.type [u] = some y := by
      intro i hin
      obtain ⟨cs', hc, ht'⟩ := hi i (by omega)
      rw [hC] at hc
      obtain ⟨ys, n', _, hy, hlen, hyl, hf'⟩ := DataW.trod_struct he ht'
      obtain ⟨_, hcl, hat⟩ := World.cells?_some hc
      simp only [Prod.mk.injEq] at hy
      refine ⟨ys, n', hy.1, fun j f hj => ?_⟩
      obtain ⟨ho, hk⟩ := Deep.hone_of hone j f hj
      have hjl : j < fs.size := (Array.getElem?_eq_some_iff.1 hj).1
      have hcell := hat j hjl
      have hv : cs'[j]? = some (cs'[j]'(by omega)) := List.getElem?_eq_getElem (by omega)
      have h1 := hf' j f hj
      rw [ho, hk, List.drop_eq_getElem_cons (by omega)] at h1
      have hys : ys[j]? = some (ys[j]'(by omega)) := List.getElem?_eq_getElem (by omega)
      exact ⟨_, _, by rw [← Deep.add_add, hcell, hv], hys, h1.trans hys⟩
    refine ⟨some a, n, m, fun i j => (w.cell? (a.add (i * fs.size + j))).getD undef, rfl, ?_, fun hn => ⟨a, rfl, ?_, fun i j hin hj => ?_⟩, fun i j f hin hj => ?_⟩
    · have := hsz (((List.range n).map D).length * P.bytesOf e + ((List.range (m - n)).map fun j => D (n + j)).length * P.bytesOf e) (by
        simp only [DataW.weights, ht, ← Nat.add_mul]
        exact List.mem_cons_self)
      rw [reach_eq] at this
      simp only [List.length_map, List.length_range] at this
      omega
    · exact hlt (.cell a.block (a.off + 0)) (List.mem_append.2 (.inl (by
        simp only [MemPlace.row, List.mem_map, List.mem_range]
        exact ⟨0, by rw [hC]; exact Nat.mul_pos (by omega) hpos, rfl⟩)))
    · obtain ⟨ys, nn, _, hrow⟩ := row i hin
      obtain ⟨u, y, hu, _⟩ := hrow j fs[j] (Array.getElem?_eq_getElem hj)
      simp only [hu, Option.getD_some]
    · obtain ⟨ys, nn, hD, hrow⟩ := row i hin
      obtain ⟨u, y, hu, hyj, htr⟩ := hrow j f hj
      refine ⟨y, nn, by simp only [hu, Option.getD_some]; exact htr, fun k hk => ?_⟩
      have hd : D i ∈ (List.range n).map D := List.mem_map.2 ⟨i, List.mem_range.2 hin, rfl⟩
      have := hsz k (by
        simp only [DataW.weights, ht]
        refine List.mem_cons_of_mem _ (List.mem_append.2 (.inl (weightsAll_mem hd k ?_)))
        rw [hD]
        simp only [DataW.weights, he]
        exact DataW.weights_mem_each (j := j) (t := f.type) (d := y.1) (by rw [List.getElem?_map, Array.getElem?_toList, hj]; rfl) (by rw [List.getElem?_map, hyj]; rfl) k hk)
      rw [reach_eq] at this
      exact this
/-- The rows as cells. -/
theorem rd_of_rows {B n m : Nat} {A : Option Addr} {V : Nat → Nat → Value} {xs : List Value} (hm : 0 < m) (hlen : xs.length = n * m)
    (hc : 0 < n → ∃ ad, A = some ad ∧ ad.block < B ∧ ∀ i j, i < n → j < m → w.cell? (ad.add (i * m + j)) = some (V i j)) (hx : ∀ i j, i < n → j < m → xs[i * m + j]? = some (V i j)) : Rd w B m A n xs :=
  ⟨hlen, fun hn => by
    obtain ⟨ad, e, hb, hcell⟩ := hc hn
    refine ⟨ad, e, hb, fun k u hu => ?_⟩
    have hk : k < n * m := by rw [← hlen]; exact (List.getElem?_eq_some_iff.1 hu).1
    have hi : k / m < n := by rw [Nat.div_lt_iff_lt_mul hm]; exact hk
    have hj : k % m < m := Nat.mod_lt _ hm
    have e1 : k / m * m + k % m = k := by rw [Nat.mul_comm]; exact Nat.div_add_mod k m
    have h1 := hcell _ _ hi hj
    have h2 := hx _ _ hi hj
    rw [e1] at h1 h2
    rw [h1, ← h2, hu]⟩
theorem field_int {t : TypeId} {k : IntKind} {v : Value} {y : DataW H × List MemPlace} {fuel : Nat} (ht : P.underlying t = some (.int k)) (h : DataW.trod enc P w 0 (fun _ => true) held fuel t [v] = some y) : ∃ n, v = .int k n ∧ (Lit.int k n).wf = true := by
  obtain ⟨n, hv, _, hw⟩ := DataW.trod_int ht h
  exact ⟨n, by simpa using hv, hw⟩
theorem field_str {t : TypeId} {v : Value} {y : DataW H × List MemPlace} {fuel : Nat} (ht : P.underlying t = some .string) (h : DataW.trod enc P w 0 (fun _ => true) held fuel t [v] = some y) (hs : ∀ k ∈ y.1.weights P t, k ≤ 140737488351232) : ∃ s : ByteArray, v = .string s ∧ s.size ≤ 140737488351232 := by
  obtain ⟨s, hv, rfl, _⟩ := DataW.trod_string ht h
  exact ⟨s, by simpa using hv, hs _ (by simp [DataW.weights])⟩
theorem field_bool {t : TypeId} {v : Value} {y : DataW H × List MemPlace} {fuel : Nat} (ht : P.underlying t = some .bool) (h : DataW.trod enc P w 0 (fun _ => true) held fuel t [v] = some y) : ∃ b, v = .bool b := by
  obtain ⟨b, hv, _⟩ := DataW.trod_bool ht h
  exact ⟨b, by simpa using hv⟩
end
end Go.Proofs.YtppjpledjhinbaaDoor
/- For the '..UptoSaid' statements: what the bound gives of slices of rows and of strings. -/
namespace Go.Proofs.YtppjpledjhinbaaDoor
open Go.RowKit Go.ChangeShapes Go.WideShapes Go.ChangeAt

section
variable {H : Type} {enc : TypeId × Value → H} {P : Program} {w : World} {held : Bool}

theorem bulkAll_sum (l : List (DataW H)) : Rows.uptoBulkAll l = (l.map Rows.uptoBulk).sum := by
  induction l with
  | nil => simp [Rows.uptoBulkAll]
  | cons x l ih => simp only [Rows.uptoBulkAll, ih, List.map_cons, List.sum_cons]
theorem le_sum {l : List Nat} {x : Nat} (h : x ∈ l) : x ≤ l.sum := by
  induction l with
  | nil => cases h
  | cons a l ih =>
    simp only [List.sum_cons]
    rcases List.mem_cons.1 h with rfl | h
    · omega
    · have := ih h; omega
theorem sum_le_map {α : Type} {f g : α → Nat} {l : List α} (h : ∀ x ∈ l, f x ≤ g x) : (l.map f).sum ≤ (l.map g).sum := by
  induction l with
  | nil => simp
  | cons a l ih =>
    simp only [List.map_cons, List.sum_cons]
    have h1 := h a List.mem_cons_self
    have h2 := ih fun x hx => h x (List.mem_cons_of_mem _ hx)
    omega
/-- The bound of a part. -/
theorem bulk_mem {l : List (DataW H)} {d : DataW H} (h : d ∈ l) : Rows.uptoBulk d ≤ Rows.uptoBulkAll l := by
  rw [bulkAll_sum]
  exact le_sum (List.mem_map.2 ⟨d, h, rfl⟩)
theorem bulk_le {l : List (DataW H)} (hk : Rows.uptoSmall H l = true) : Rows.uptoBulkAll l ≤ 1048576 := of_decide_eq_true hk
theorem bulk_at {l : List (DataW H)} (hk : Rows.uptoSmall H l = true) {d : DataW H} (h : d ∈ l) : Rows.uptoBulk d ≤ 1048576 := Nat.le_trans (bulk_mem h) (bulk_le hk)

theorem open_rowsB {t e : TypeId} {fs : Array Field} {v : Value} {d : DataW H} {p : List MemPlace} {b r} (ht : P.underlying t = some (.slice e)) (he : P.underlying e = some (.struct fs))
    (hone : Deep.oneCellFields P fs = true) (hC : P.cellsOf e = fs.size) (hpos : 0 < fs.size) (hval : Value.okWide P w r b t v) (h : DataW.Trod enc P w 0 (fun _ => true) held t v d p) (hsz : ∀ n ∈ d.weights P t, n ≤ reachBytes) :
    ∃ A n c, ∃ V : Nat → Nat → Value, ∃ β : Nat → Nat, v = .slice A n c ∧ n * P.bytesOf e ≤ 140737488351232 ∧
      (0 < n → ∃ ad, A = some ad ∧ ad.block < w.heap.size ∧ ∀ i j, i < n → j < fs.size → w.cell? (ad.add (i * fs.size + j)) = some (V i j)) ∧
      ((List.range n).map β).sum ≤ Rows.uptoBulk d ∧
      ∀ i, i < n → ∃ ys : List (DataW H × List MemPlace), (ys.map fun y => Rows.uptoBulk y.1).sum + 1 ≤ β i ∧
        ∀ (j : Nat) (f : Field), fs[j]? = some f → ∃ (y : DataW H × List MemPlace) (fuel : Nat), y ∈ ys ∧ DataW.trod enc P w 0 (fun _ => true) held fuel f.type [V i j] = some y ∧ ∀ k ∈ y.1.weights P f.type, k ≤ 140737488351232 := by
  have hlt := lt_of_trod h
  obtain ⟨a0, n, c, rfl⟩ := okWide_slice ht hval
  obtain ⟨fuel, hf⟩ := h
  rcases Deep.open_slice ht hf with ⟨hcs, _⟩ | ⟨a, len', cap', m, fu, D, Pl, hcs, _, hl, hm, hmm, hx, hi⟩
  · simp [Value.cells] at hcs
    obtain ⟨rfl, rfl, rfl⟩ := hcs
    exact ⟨none, 0, 0, fun _ _ => undef, fun _ => 0, rfl, by omega, fun h => absurd h (by omega), by simp, fun i h => absurd h (by omega)⟩
  · simp [Value.cells] at hcs
    obtain ⟨rfl, rfl, rfl⟩ := hcs
    simp only [if_true] at hmm
    subst hmm
    simp only [Prod.mk.injEq] at hx
    obtain ⟨rfl, rfl⟩ := hx
    have row : ∀ i, i < n → ∃ (ys : List (DataW H × List MemPlace)) (nn : Nat), D i = .agg (ys.map (·.1)) ∧
        ∀ (j : Nat) (f : Field), fs[j]? = some f → ∃ (u : Value) (y : DataW H × List MemPlace), w.cell? (a.add (i * fs.size + j)) = some u ∧ ys[j]? = some y ∧ DataW.trod enc P w 0 (fun _ => true) held nn f.type [u] = some y := by
      intro i hin
      obtain ⟨cs', hc, ht'⟩ := hi i (by omega)
      rw [hC] at hc
      obtain ⟨ys, n', _, hy, hlen, hyl, hf'⟩ := DataW.trod_struct he ht'
      obtain ⟨_, hcl, hat⟩ := World.cells?_some hc
      simp only [Prod.mk.injEq] at hy
      refine ⟨ys, n', hy.1, fun j f hj => ?_⟩
      obtain ⟨ho, hk⟩ := Deep.hone_of hone j f hj
      have hjl : j < fs.size := (Array.getElem?_eq_some_iff.1 hj).1
      have hcell := hat j hjl
      have hv : cs'[j]? = some (cs'[j]'(by omega)) := List.getElem?_eq_getElem (by omega)
      have h1 := hf' j f hj
      rw [ho, hk, List.drop_eq_getElem_cons (by omega)] at h1
      have hys : ys[j]? = some (ys[j]'(by omega)) := List.getElem?_eq_getElem (by omega)
      exact ⟨_, _, by rw [← Deep.add_add, hcell, hv], hys, h1.trans hys⟩
    refine ⟨some a, n, m, fun i j => (w.cell? (a.add (i * fs.size + j))).getD undef, fun i => Rows.uptoBulk (D i), rfl, ?_, fun hn => ⟨a, rfl, ?_, fun i j hin hj => ?_⟩, ?_, fun i hin => ?_⟩
    · have := hsz (((List.range n).map D).length * P.bytesOf e + ((List.range (m - n)).map fun j => D (n + j)).length * P.bytesOf e) (by
        simp only [DataW.weights, ht, ← Nat.add_mul]
        exact List.mem_cons_self)
      rw [reach_eq] at this
      simp only [List.length_map, List.length_range] at this
      omega
    · exact hlt (.cell a.block (a.off + 0)) (List.mem_append.2 (.inl (by
        simp only [MemPlace.row, List.mem_map, List.mem_range]
        exact ⟨0, by rw [hC]; exact Nat.mul_pos (by omega) hpos, rfl⟩)))
    · obtain ⟨ys, nn, _, hrow⟩ := row i hin
      obtain ⟨u, y, hu, _⟩ := hrow j fs[j] (Array.getElem?_eq_getElem hj)
      simp only [hu, Option.getD_some]
    · simp only [Rows.uptoBulk]
      rw [bulkAll_sum, List.map_map]
      have : ((List.range n).map (Rows.uptoBulk ∘ D)).sum = ((List.range n).map fun i => Rows.uptoBulk (D i)).sum := rfl
      omega
    · obtain ⟨ys, nn, hD, hrow⟩ := row i hin
      refine ⟨ys, ?_, fun j f hj => ?_⟩
      · simp only [hD, Rows.uptoBulk]
        rw [bulkAll_sum, List.map_map]
        exact Nat.le_refl _
      · obtain ⟨u, y, hu, hyj, htr⟩ := hrow j f hj
        refine ⟨y, nn, List.mem_of_getElem? hyj, by simp only [hu, Option.getD_some]; exact htr, fun k hk => ?_⟩
        have hd : D i ∈ (List.range n).map D := List.mem_map.2 ⟨i, List.mem_range.2 hin, rfl⟩
        have := hsz k (by
          simp only [DataW.weights, ht]
          refine List.mem_cons_of_mem _ (List.mem_append.2 (.inl (weightsAll_mem hd k ?_)))
          rw [hD]
          simp only [DataW.weights, he]
          exact DataW.weights_mem_each (j := j) (t := f.type) (d := y.1) (by rw [List.getElem?_map, Array.getElem?_toList, hj]; rfl) (by rw [List.getElem?_map, hyj]; rfl) k hk)
        rw [reach_eq] at this
        exact this
theorem field_strB {t : TypeId} {v : Value} {y : DataW H × List MemPlace} {fuel : Nat} (ht : P.underlying t = some .string) (h : DataW.trod enc P w 0 (fun _ => true) held fuel t [v] = some y) (hs : ∀ k ∈ y.1.weights P t, k ≤ 140737488351232) : ∃ s : ByteArray, v = .string s ∧ s.size ≤ 140737488351232 ∧ Rows.uptoBulk y.1 = s.size + 1 := by
  obtain ⟨s, hv, rfl, _⟩ := DataW.trod_string ht h
  exact ⟨s, by simpa using hv, hs _ (by simp [DataW.weights]), by simp [Rows.uptoBulk]⟩
end
end Go.Proofs.YtppjpledjhinbaaDoor
/- Slices of structs, as cells: whatever the struct. -/
namespace Go.Proofs.YtppjpledjhinbaaDoor
open Go.RowKit
/-- The elements' cells, one behind the other. -/
def catv {α : Type} (f : α → List Value) (l : List α) : List Value := l.flatMap f
section
variable {α : Type} {f : α → List Value} {m : Nat}
theorem catv_cons (x : α) (l : List α) : catv f (x :: l) = f x ++ catv f l := by simp [catv]
theorem catv_nil : catv f [] = [] := rfl
theorem catv_append (a b : List α) : catv f (a ++ b) = catv f a ++ catv f b := by simp [catv]
theorem catv_one (x : α) : catv f [x] = f x := by simp [catv]
theorem catv_length (hf : ∀ x, (f x).length = m) (l : List α) : (catv f l).length = l.length * m := by
  induction l with
  | nil => simp [catv]
  | cons x l ih => rw [catv_cons, List.length_append, ih, hf, List.length_cons, Nat.add_mul]; omega
theorem catv_get (hf : ∀ x, (f x).length = m) : ∀ (l : List α) (k j : Nat) (h : k < l.length), j < m → (catv f l)[k * m + j]? = (f l[k])[j]? := by
  intro l
  induction l with
  | nil => intro k j h; simp at h
  | cons x l ih =>
    intro k j h hj
    have hl := hf x
    rw [catv_cons]
    cases k with
    | zero => rw [Nat.zero_mul, Nat.zero_add, List.getElem?_append_left (by omega)]; rfl
    | succ k =>
      have e : (k + 1) * m = k * m + m := Nat.succ_mul k m
      rw [List.getElem?_append_right (by omega), hl, show (k + 1) * m + j - m = k * m + j by omega]
      exact ih k j (by simpa using h) hj
theorem catv_cell (h1 : ∀ x, ∀ u ∈ f x, u.oneCell' = true) (l : List α) : ∀ u ∈ catv f l, u.oneCell' = true := by
  intro u hu
  simp only [catv, List.mem_flatMap] at hu
  obtain ⟨x, _, hx⟩ := hu
  exact h1 x u hx
theorem catv_take (hf : ∀ x, (f x).length = m) (l : List α) (k : Nat) : (catv f l).take (k * m) = catv f (l.take k) := by
  induction l generalizing k with
  | nil => simp [catv]
  | cons x l ih =>
    have hl := hf x
    cases k with
    | zero => simp [catv]
    | succ k =>
      have e : (k + 1) * m = k * m + m := Nat.succ_mul k m
      rw [catv_cons, List.take_succ_cons, catv_cons, ← ih, List.take_append, hl, List.take_of_length_le (by omega), show (k + 1) * m - m = k * m by omega]
theorem addr_flat (b off j : Nat) : (⟨b, off, none⟩ : Addr).add j = ⟨b, off + j, none⟩ := by unfold Addr.add; split <;> simp_all
theorem rd_catlen {w : World} {B n : Nat} {A : Option Addr} {l : List α} (hf : ∀ x, (f x).length = m) (hm : 0 < m) (h : Rd w B m A n (catv f l)) : n = l.length := by
  have := h.len
  rw [catv_length hf] at this
  exact (Nat.eq_of_mul_eq_mul_right hm this).symm
/-- Element k, cell by cell. -/
theorem Rd.elem {w : World} {B n k : Nat} {A : Option Addr} {l : List α} (hf : ∀ x, (f x).length = m) (hm : 0 < m) (h : Rd w B m A n (catv f l)) (hk : k < n) :
    ∃ b off, A = some ⟨b, off, none⟩ ∧ b < B ∧ ∃ hs : k < l.length, ∀ j u, (f l[k])[j]? = some u → w.cell? ⟨b, off + k * m + j, none⟩ = some u := by
  have hs : k < l.length := by rw [← rd_catlen hf hm h]; exact hk
  obtain ⟨ad, e, hb, hc⟩ := h.at_ (by omega)
  obtain ⟨b, off, spot⟩ := ad
  have h0 : (catv f l)[0]? = some ((f l[0])[0]'(by rw [hf]; exact hm)) := by
    have := catv_get hf l 0 0 (by omega) hm
    rw [Nat.zero_mul, Nat.zero_add] at this
    rw [this, List.getElem?_eq_getElem]
  have hz := hc 0 _ h0
  have hspot : spot = none := by simpa [Addr.add] using World.cell?_spot hz
  subst hspot
  refine ⟨b, off, e, hb, hs, fun j u hu => ?_⟩
  have hj : j < m := by rw [← hf l[k]]; exact (List.getElem?_eq_some_iff.1 hu).1
  have := hc (k * m + j) u (by rw [catv_get hf l k j hs hj]; exact hu)
  rw [addr_flat, ← Nat.add_assoc] at this
  exact this
end
end Go.Proofs.YtppjpledjhinbaaDoor
/- Maps of the call's own, whatever their elements: what they say as a function of plain keys. -/
namespace Go.Proofs.YtppjpledjhinbaaDoor
open Go.RowKit
open Go.Maps (Keyed)
/-- An element reads as itself. -/
def heldR (v : Value) : Option (DataW Value × List MemPlace) := some (.held v, [])
/-- Block b is a map of at most n entries that reads as f, z where nothing is; s: is there an entry? -/
def VMap {α : Type} (P : Program) (k : TypeId) (kv : α → Value) (z : Value) (w : World) (b n : Nat) (f : α → Value) (s : α → Bool) : Prop :=
  ∃ D : DataW Value, w.ownsMap P k heldR b n D ∧ Maps.Tidy D ∧ (∀ x kl, keyOf P k (kv x) = some kl → D.atKey kl (.held z) = .held (f x)) ∧ (∀ x kl, keyOf P k (kv x) = some kl → Maps.has D kl = s x)
theorem ownsMap_block {H : Type} {w w' : World} {P : Program} {b n : Nat} {D : DataW H} {R : Value → Option (DataW H × List MemPlace)} {K : TypeId} (h : w.ownsMap P K R b n D) (e : w'.heap[b]? = w.heap[b]?) : w'.ownsMap P K R b n D := by
  obtain ⟨es, clock, hb, F, hs', hD⟩ := h
  exact ⟨es, clock, e.trans hb, F, hs', hD⟩
section
variable {α : Type} {P : Program} {k : TypeId} {kv : α → Value} {z : Value} {w w' : World} {b n : Nat} {f : α → Value} {s : α → Bool}
theorem VMap.made (w : World) : VMap P k kv z (w.alloc (.map #[] 0)) w.heap.size 0 (fun _ => z) (fun _ => false) :=
  ⟨_, World.ownsMap_made w P k _, Maps.tidy_empty, fun _ _ _ => rfl, fun _ _ _ => rfl⟩
theorem VMap.lt (h : VMap P k kv z w b n f s) : b < w.heap.size := by obtain ⟨D, h, _⟩ := h; exact h.lt
theorem VMap.isMap (h : VMap P k kv z w b n f s) : ∃ es clock, w.heap[b]? = some (.map es clock) := by obtain ⟨D, ⟨es, c, h, _⟩, _⟩ := h; exact ⟨es, c, h⟩
theorem VMap.mono {n' : Nat} (h : VMap P k kv z w b n f s) (hn : n ≤ n') : VMap P k kv z w b n' f s := by
  obtain ⟨D, h, h2⟩ := h
  exact ⟨D, h.mono hn, h2⟩
theorem VMap.upd {S : Nat → Prop} (h : VMap P k kv z w b n f s) (hu : Upd S w w') (hs : ¬ S b) : VMap P k kv z w' b n f s := by
  have hlt := h.lt
  obtain ⟨D, h, h2⟩ := h
  exact ⟨D, ownsMap_block h (hu.block b hlt hs), h2⟩
theorem VMap.look (h : VMap P k kv z w b n f s) (K : Keyed P k) {t e : TypeId} (ht : P.underlying t = some (.map k e)) (hz : (zeroValue e).run P w = .ok z w) {q : α} {kl : Lit} (hq : keyOf P k (kv q) = some kl) :
    (Instr.lookup t (.map (some b)) (kv q) false).run P w = .ok (f q) w := by
  obtain ⟨D, h, _, h3, _⟩ := h
  obtain ⟨v, ps, hrun, hv⟩ := h.lookup K ht hz (zd := .held z) (zp := []) rfl hq
  rw [h3 q kl hq] at hv
  unfold heldR at hv
  injection hv with hv
  injection hv with hv _
  injection hv with hv
  rw [hrun, hv]
theorem VMap.look_ok (h : VMap P k kv z w b n f s) (K : Keyed P k) {t e : TypeId} (ht : P.underlying t = some (.map k e)) (hz : (zeroValue e).run P w = .ok z w) {q : α} {kl : Lit} (hq : keyOf P k (kv q) = some kl) :
    (Instr.lookup t (.map (some b)) (kv q) true).run P w = .ok (.tuple #[f q, .bool (s q)]) w := by
  obtain ⟨D, h, _, h3, h4⟩ := h
  obtain ⟨v, ps, hrun, hv⟩ := h.look_ok K ht hz (zd := .held z) (zp := []) rfl hq
  rw [h3 q kl hq] at hv
  unfold heldR at hv
  injection hv with hv
  injection hv with hv _
  injection hv with hv
  rw [hrun, hv, h4 q kl hq]
theorem VMap.turn [DecidableEq α] (K : Keyed P k) (inj : ∀ x y, kv x = kv y → x = y) {D : DataW Value} (h2 : Maps.Tidy D) (h3 : ∀ x kl, keyOf P k (kv x) = some kl → D.atKey kl (.held z) = .held (f x)) (h4 : ∀ x kl, keyOf P k (kv x) = some kl → Maps.has D kl = s x)
    {q : α} {kq : Lit} (hq : keyOf P k (kv q) = some kq) (u : Value) : Maps.Tidy (D.put kq (.held u)) ∧ (∀ x kl, keyOf P k (kv x) = some kl → (D.put kq (.held u)).atKey kl (.held z) = .held (if x = q then u else f x)) ∧ (∀ x kl, keyOf P k (kv x) = some kl → Maps.has (D.put kq (.held u)) kl = if x = q then true else s x) := by
  have hk := K.key hq
  have ne : ∀ x kl, keyOf P k (kv x) = some kl → x ≠ q → kl ≠ kq := fun x kl hx hne e => by
    subst e
    exact hne (inj _ _ (K.inj hx hq))
  refine ⟨h2.put hk _, fun x kl hx => ?_, fun x kl hx => ?_⟩
  · by_cases e : x = q
    · subst e
      rw [hx] at hq
      injection hq with hq
      subst hq
      rw [Maps.atKey_put_same h2.isMap hk, if_pos rfl]
    · rw [Maps.atKey_put_other (ne x kl hx e), if_neg e, h3 x kl hx]
  · by_cases e : x = q
    · subst e
      rw [hx] at hq
      injection hq with hq
      subst hq
      rw [Maps.has_put_same h2.isMap hk, if_pos rfl]
    · rw [Maps.has_put_other (ne x kl hx e), if_neg e, h4 x kl hx]
/-- 'm[q] = u'. -/
theorem VMap.put [DecidableEq α] (h : VMap P k kv z w b n f s) (K : Keyed P k) (inj : ∀ x y, kv x = kv y → x = y) {t e : TypeId} (ht : P.underlying t = some (.map k e)) (hn : n < maxLen) {q : α} {kl : Lit} (hq : keyOf P k (kv q) = some kl) (u : Value) :
    ∃ w', (Instr.mapUpdate t (.map (some b)) (kv q) u).run P w = .ok () w' ∧ VMap P k kv z w' b (n + 1) (fun x => if x = q then u else f x) (fun x => if x = q then true else s x) ∧ Upd (fun i => i = b) w w' := by
  obtain ⟨D, h, h2, h3, h4⟩ := h
  obtain ⟨w', hrun, r1, r2⟩ := h.store K ht hn hq (val := u) (d := .held u) (ps := []) rfl
  exact ⟨w', hrun, ⟨_, r1, VMap.turn K inj h2 h3 h4 hq u⟩, (Upd.of_grown r2.grown).mono fun _ _ e => by injection e with e; exact e.symm⟩
theorem upd_setBlock {w : World} {b : Nat} {es : Array MapEntry} {clock : Nat} (hb : w.heap[b]? = some (.map es clock)) (es' : Array MapEntry) (clock' : Nat) : Upd (fun i => i = b) w (ChangeMaps.setBlock w b (.map es' clock')) :=
  ⟨rfl, rfl, rfl, by simp [ChangeMaps.setBlock], fun i _ hi => ChangeMaps.heap_setBlock_other hb _ hi⟩
theorem okInj {β : Type} {a b : β} {w w' : World} (h : Result.ok a w = Result.ok b w') : a = b ∧ w = w' := by
  injection h with h1 h2
  exact ⟨h1, h2⟩
/-- An entry is made as if its present value were stored. -/
theorem entry_is_put {R : Value → Option (DataW Value × List MemPlace)} {es : Array MapEntry} {clock : Nat} (K : WideMaps.KeyLaw P k) {t e : TypeId} (ht : P.underlying t = some (.map k e)) (hz : ∀ u : World, (zeroValue e).run P u = .ok z u) (hb : w.heap[b]? = some (.map es clock)) (F : WideElems.Fit P k R es clock)
    {key : Value} {kl : Lit} (hkey : keyOf P k key = some kl) :
    ∃ (v0 st : Value) (w1 : World), (Instr.mapEntry t (.map (some b)) key).run P w = .ok (.tuple #[v0, st]) w1 ∧ (Instr.mapUpdate t (.map (some b)) key v0).run P w = .ok () w1 ∧ (Instr.lookup t (.map (some b)) key false).run P w = .ok v0 w := by
  rcases K.find w hkey es.toList F.keys with ⟨h1, h2⟩ | ⟨j, e0, h1, h2, h3⟩
  · refine ⟨z, goInt clock, ChangeMaps.setBlock w b (.map (es.push ⟨key, z, clock⟩) (clock + 1)), ?_, ?_, ?_⟩
    · simp [Instr.mapEntry, run_underlying ht, MapKept.run_getObj_map hb, K.check w false hkey, h1, hz, MapKept.run_setObj_map _ hb, Result.andThen, ChangeMaps.setBlock]
    · simp [Instr.mapUpdate, run_underlying ht, MapKept.run_getObj_map hb, K.check w false hkey, h1, MapKept.run_setObj_map _ hb, Result.andThen, ChangeMaps.setBlock]
    · simp [Instr.lookup, run_underlying ht, MapKept.run_getObj_map hb, K.check w _ hkey, h1, hz, Result.andThen]
  · have hj : es[j]? = some e0 := by simpa using h2
    have hsame : es.modify j (fun e => { e with key := key }) = es := by
      apply Array.ext'
      rw [Array.toList_modify, ChangeMaps.modify_eq_set _ _ _ _ h2]
      have : ({ e0 with key := key } : MapEntry) = e0 := by rw [← h3]
      rw [this]
      exact WideElems.set_self _ _ _ h2
    have hsame2 : es.modify j (fun e => { e with key := key, val := e0.val }) = es := by
      apply Array.ext'
      rw [Array.toList_modify, ChangeMaps.modify_eq_set _ _ _ _ h2]
      have : ({ e0 with key := key, val := e0.val } : MapEntry) = e0 := by rw [← h3]
      rw [this]
      exact WideElems.set_self _ _ _ h2
    refine ⟨e0.val, goInt e0.born, ChangeMaps.setBlock w b (.map es clock), ?_, ?_, ?_⟩
    · simp [Instr.mapEntry, run_underlying ht, MapKept.run_getObj_map hb, K.check w false hkey, h1, hj, h3, K.stays w hkey, hsame, MapKept.run_setObj_map _ hb, Result.andThen, ChangeMaps.setBlock]
    · simp [Instr.mapUpdate, run_underlying ht, MapKept.run_getObj_map hb, K.check w false hkey, h1, hj, h3, K.stays w hkey, hsame2, MapKept.run_setObj_map _ hb, Result.andThen, ChangeMaps.setBlock]
    · simp [Instr.lookup, run_underlying ht, MapKept.run_getObj_map hb, K.check w _ hkey, h1, Result.andThen]
/-- 'm[q] op= u': the entry, and then the store in it. -/
theorem VMap.entry [DecidableEq α] (h : VMap P k kv z w b n f s) (K : WideMaps.KeyLaw P k) (inj : ∀ x y, kv x = kv y → x = y) {t e : TypeId} (ht : P.underlying t = some (.map k e)) (hz : ∀ u : World, (zeroValue e).run P u = .ok z u) (hn : n < maxLen) {q : α} {kl : Lit} (hq : keyOf P k (kv q) = some kl) (u : Value) :
    ∃ v0 st w1 w2, (Instr.mapEntry t (.map (some b)) (kv q)).run P w = .ok (.tuple #[v0, goInt st]) w1 ∧ (Instr.entryStore t (.map (some b)) (goInt st) u).run P w1 = .ok () w2 ∧ (Instr.lookup t (.map (some b)) (kv q) false).run P w1 = .ok (f q) w1 ∧ Upd (fun i => i = b) w w1 ∧ Upd (fun i => i = b) w w2 ∧
      VMap P k kv z w2 b (n + 1) (fun x => if x = q then u else f x) (fun x => if x = q then true else s x) := by
  have K' : Keyed P k := Keyed.of_law K
  have hl := h.look K' ht (hz w) hq
  have hput := fun v => h.put K' inj ht hn hq v
  obtain ⟨D, h, h2, h3, h4⟩ := h
  obtain ⟨w', hrun, r1, r2⟩ := h.store K' ht hn hq (val := u) (d := .held u) (ps := []) rfl
  obtain ⟨es, clock, hb, F, _, _⟩ := h
  obtain ⟨v0, st, es1, clock1, e1, _, e2⟩ := WideElems.entry_then_store K ht hz hb F hq
  have hb1 := ChangeMaps.heap_setBlock_same hb (.map es1 clock1)
  obtain ⟨es', clock', e3, e4⟩ := e2 _ u hb1
  rw [hrun] at e4
  injection e4 with _ e4
  subst e4
  have u1 := upd_setBlock hb es1 clock1
  have hlk : (Instr.lookup t (.map (some b)) (kv q) false).run P (ChangeMaps.setBlock w b (.map es1 clock1)) = .ok (f q) (ChangeMaps.setBlock w b (.map es1 clock1)) := by
    obtain ⟨v0', st', w1', a1, a2, a3⟩ := entry_is_put K ht hz hb F hq
    have a1' := okInj (e1.symm.trans a1)
    have a3' := okInj (hl.symm.trans a3)
    obtain ⟨w3, b1, b2, _⟩ := hput (f q)
    rw [← a3'.1] at a2
    have b1' := okInj (b1.symm.trans a2)
    rw [b1'.2, ← a1'.2] at b2
    have := b2.look K' ht (hz _) hq
    simpa using this
  have u2 := upd_setBlock hb1 es' clock'
  exact ⟨v0, st, _, _, e1, e3, hlk, u1, u1.trans u2 (fun _ _ e => e), _, ownsMap_block r1 ((ChangeMaps.heap_setBlock_same hb1 _).trans (ChangeMaps.heap_setBlock_same hb _).symm), VMap.turn K' inj h2 h3 h4 hq u⟩
end
end Go.Proofs.YtppjpledjhinbaaDoor
/- append at a step of a region that draws its order. -/
namespace Go.Proofs.YtppjpledjhinbaaDoor
open Go.RowKit
section
variable {P : Program}
/-- 'append(s, xs...)' runs. -/
theorem app_run (w : World) (t ty : TypeId) (base : Nat) (e : TypeId) (i : TypeInfo) (z : Value) (size bytes : Nat) (ht : P.underlying t = some (.slice e)) (hi : P.info? e = some i) (hz : i.zero = some z)
    (hsize : i.size = size) (hby : i.bytes = bytes) (hzs : z.cells.size = size) (hsz : 0 < size)
    (v : Value) (n : Nat) (xs : List Value) (B : Nat) (A : Option Addr) (m c : Nat) (news : List Value) (hown : w.ownsRow base e size v n xs) (hr : Rd w B size A m news) (h1 : ∀ u ∈ news, u.oneCell' = true)
    (hbytes : (n + m) * bytes ≤ 140737488355328) (h63 : n + m ≤ maxLen) (hbase : base ≤ w.heap.size) :
    ∃ v' w', (Builtin.append_ #[t, t] ty #[v, .slice A m c]).run P w = .ok v' w' ∧ w'.ownsRow base e size v' (n + m) (xs ++ news) ∧ Upd (fun k => v.ownBlock = some k) w w' ∧ RowAt w v v' := by
  have some_case : ∀ ad, A = some ad → (∀ j u, news[j]? = some u → w.cell? (ad.add j) = some u) → ∃ v' w', (Builtin.append_ #[t, t] ty #[v, .slice A m c]).run P w = .ok v' w' ∧ w'.ownsRow base e size v' (n + m) (xs ++ news) ∧ Upd (fun k => v.ownBlock = some k) w w' ∧ RowAt w v v' := by
    rintro ad rfl hc
    obtain ⟨v', w', hrun, h2, h3, _, h5⟩ := run_append_own_at (P := P) w base t ty e i z size bytes ht hi hz hsize hby hzs hsz v n xs hown ad m c news hr.len hc h1 h63 hbytes hbase
    exact ⟨v', w', hrun, h2, Upd.of_grown h3, h5.imp id fun h => ⟨_, Nat.le_refl _, h⟩⟩
  by_cases hm : m = 0
  · subst hm
    have hn : news = [] := List.eq_nil_of_length_eq_zero (by simpa using hr.len)
    subst hn
    cases A with
    | none => exact ⟨v, w, run_append_empty (P := P) w base t ty e i size c ht hi v n xs hown, by simpa using hown, Upd.refl _ _, RowAt.refl _ _⟩
    | some ad => exact some_case ad rfl (by simp)
  · obtain ⟨ad, hA, _, hc⟩ := hr.at_ (by omega)
    exact some_case ad hA hc
/-- .. at a step of a region that draws. -/
theorem step_app {ops : Array Oper} {o : Oper} {a : Act} {w : World} {K : Act → World → Prop} {Q : Exit → Act → World → Prop} {E : Prop} (hgd : o.guard = none) (s x : Operand) (t : TypeId)
    (ho : o.op = .call { callee := .builtin .append, args := #[s, x], argTypes := #[t, t] })
    (base : Nat) (e : TypeId) (i : TypeInfo) (z : Value) (size bytes : Nat) (ht : P.underlying t = some (.slice e)) (hi : P.info? e = some i) (hz : i.zero = some z)
    (hsize : i.size = size) (hby : i.bytes = bytes) (hzs : z.cells.size = size) (hsz : 0 < size)
    (v : Value) (n : Nat) (xs : List Value) (B : Nat) (A : Option Addr) (m c : Nat) (news : List Value) (hs : a.eval s = v) (hown : w.ownsRow base e size v n xs) (hx : a.eval x = .slice A m c) (hr : Rd w B size A m news) (h1 : ∀ u ∈ news, u.oneCell' = true)
    (hbytes : (n + m) * bytes ≤ 140737488355328) (h63 : n + m ≤ maxLen) (hbase : base ≤ w.heap.size)
    (h : ∀ v' w', w'.ownsRow base e size v' (n + m) (xs ++ news) → Upd (fun k => v.ownBlock = some k) w w' → RowAt w v v' → K (a.put o.dst v') w') :
    if Region.wanted o (yielded ops a.tmps) = true then Oper.wp P o a w K Q else E := by
  have hw : Region.wanted o (yielded ops a.tmps) = true := by simp [Region.wanted, hgd]
  rw [if_pos hw]
  obtain ⟨v', w', hrun, h2, h3, h5⟩ := app_run (P := P) w t o.type base e i z size bytes ht hi hz hsize hby hzs hsz v n xs B A m c news hown hr h1 hbytes h63 hbase
  unfold Oper.wp execOp
  simp only [ho, resolve, invoke, builtin, Sem.run_bind, Sem.run_pure, Result.andThen_ok, List.map_toArray, List.map_cons, List.map_nil, hs, hx, hrun]
  exact h v' w' h2 h3 h5
end
theorem own_empty (w : World) (e : TypeId) (size base : Nat) (hb : base ≤ w.heap.size) : (w.alloc (.cells #[] e)).ownsRow base e size (.slice (some ⟨w.heap.size, 0, none⟩) 0 0) 0 [] :=
  ⟨by simp, .inr ⟨_, 0, #[], rfl, hb, heap_alloc_new w _, Nat.le_refl _, Nat.zero_le _, by simp, by simp⟩⟩
theorem rd_block {w : World} {h size : Nat} {cs : Array Value} {t : TypeId} (hb : w.heap[h]? = some (.cells cs t (0, 0))) (hs : cs.size = size) : Rd w w.heap.size size (some ⟨h, 0, none⟩) 1 cs.toList :=
  ⟨by simpa using hs, fun _ => ⟨_, rfl, (Array.getElem?_eq_some_iff.1 hb).1, fun j u hu => by
    rw [add_zero_off, cell_of_row w h j _ _ _ hb]
    simpa using hu⟩⟩
end Go.Proofs.YtppjpledjhinbaaDoor
