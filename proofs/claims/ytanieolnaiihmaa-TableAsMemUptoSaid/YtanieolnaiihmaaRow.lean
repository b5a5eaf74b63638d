/- Rows that grow, and where they then lie; what a call turns (Upd). -/
import Derived.Test.YtanieolnaiihmaaMem
import Derived.Maps.AppendAt
import Derived.Lib.AppendStr
namespace Go.Proofs.Ytanieolnaiihmaa
open Go.RowKit

/-- w' is w but for the blocks in S, and new ones. -/
structure Upd (S : Nat → Prop) (w w' : World) : Prop where
  os : w'.os = w.os
  tape : w'.tape = w.tape
  output : w'.output = w.output
  size : w.heap.size ≤ w'.heap.size
  block : ∀ k, k < w.heap.size → ¬ S k → w'.heap[k]? = w.heap[k]?
section
variable {S S' : Nat → Prop} {w w' w1 w2 : World}
theorem Upd.refl (S : Nat → Prop) (w : World) : Upd S w w := ⟨rfl, rfl, rfl, Nat.le_refl _, fun _ _ _ => rfl⟩
theorem Upd.trans (h : Upd S w w1) (h2 : Upd S' w1 w2) (hs : ∀ k, k < w.heap.size → S' k → S k) : Upd S w w2 :=
  ⟨h2.os.trans h.os, h2.tape.trans h.tape, h2.output.trans h.output, Nat.le_trans h.size h2.size, fun k hk hn =>
    (h2.block k (Nat.lt_of_lt_of_le hk h.size) (fun h' => hn (hs k hk h'))).trans (h.block k hk hn)⟩
theorem Upd.mono (h : Upd S w w') (hs : ∀ k, k < w.heap.size → S k → S' k) : Upd S' w w' := ⟨h.os, h.tape, h.output, h.size, fun k hk hn => h.block k hk (fun h' => hn (hs k hk h'))⟩
theorem Upd.of_below (h : Below w.heap.size w w') : Upd S w w' := ⟨h.os, h.tape, h.output, h.size, fun k hk _ => h.block k hk⟩
theorem Upd.below {B : Nat} (h : Upd S w w') (hs : ∀ k, k < B → ¬ S k) (hB : B ≤ w.heap.size) : Below B w w' := ⟨h.os, h.tape, h.output, h.size, fun k hk => h.block k (Nat.lt_of_lt_of_le hk hB) (hs k hk)⟩
theorem Upd.of_grown {row : Option Nat} (h : w.grownBy w' row) : Upd (fun k => row = some k) w w' := ⟨h.os, h.tape, h.output, h.size, fun k hk hn => h.block k hk (fun e => hn e.symm)⟩
theorem Upd.alloc (h : Upd S w w') (o : Obj) : Upd S w (w'.alloc o) := h.trans (S' := fun _ => False) (⟨rfl, rfl, rfl, by simp, fun k hk _ => Below.heap_alloc w' o k hk⟩) (fun _ _ h => h.elim)
theorem Upd.setCell (h : Upd S w w') (p : Addr) (hp : S p.block) (u : Value) : Upd S w (w'.setCell p u) :=
  ⟨h.os, h.tape, h.output, by simpa using h.size, fun k hk hn => (Below.heap_setCell w' p u k (fun e => hn (e ▸ hp))).trans (h.block k hk hn)⟩
theorem Upd.drewN (h : Upd S w w') (n : Nat) : Upd S w (w'.drewN n) := ⟨h.os, h.tape, h.output, h.size, h.block⟩
theorem Upd.cell {p : Addr} (h : Upd S w w') (hp : p.block < w.heap.size) (hn : ¬ S p.block) : w'.cell? p = w.cell? p := World.cell?_of_block (w := w) (h.block p.block hp hn)
theorem Upd.frozen {p : Addr} (h : Upd S w w') (hp : p.block < w.heap.size) (hn : ¬ S p.block) : w'.frozen? p = w.frozen? p := World.frozen?_of_block (w := w) (h.block p.block hp hn)
theorem own_upd {base size n : Nat} {e : TypeId} {v : Value} {xs : List Value} (h : w.ownsRow base e size v n xs) (hu : Upd S w w') (hs : ∀ k, v.ownBlock = some k → ¬ S k) : w'.ownsRow base e size v n xs := by
  refine ⟨h.1, ?_⟩
  rcases h.2 with hn | ⟨g, cap, cur, rfl, hb, hg, rest⟩
  · exact .inl hn
  · exact .inr ⟨g, cap, cur, rfl, hb, (hu.block g (Array.getElem?_eq_some_iff.1 hg).1 (hs g rfl)).trans hg, rest⟩
theorem Rd.upd {B size n : Nat} {A : Option Addr} {xs : List Value} (h : Rd w B size A n xs) (hu : Upd S w w') (hB : B ≤ w.heap.size) (hs : 0 < n → ∀ ad, A = some ad → ¬ S ad.block) : Rd w' B size A n xs :=
  ⟨h.len, fun hn => by
    obtain ⟨ad, e, hb, hc⟩ := h.at_ hn
    exact ⟨ad, e, hb, fun j u hu' => (hu.cell (by rw [block_add]; omega) (by rw [block_add]; exact hs hn ad e)).trans (hc j u hu')⟩⟩
theorem own_mono {base base' size n : Nat} {e : TypeId} {v : Value} {xs : List Value} (h : w.ownsRow base e size v n xs) (hb : base' ≤ base) : w.ownsRow base' e size v n xs :=
  ⟨h.1, h.2.imp id fun ⟨g, cap, cur, h1, h2, h3⟩ => ⟨g, cap, cur, h1, Nat.le_trans hb h2, h3⟩⟩

/-- Below the callee's own rows nothing turns. -/
theorem below_row {B base n size : Nat} {w0 w w' : World} {e : TypeId} {v : Value} {xs : List Value} (hb : Below B w0 w) (hB : B ≤ w.heap.size) (hown : w.ownsRow base e size v n xs) (hbase : B ≤ base) (hu : Upd (fun k => v.ownBlock = some k) w w') : Below B w0 w' :=
  hb.trans (hu.below (fun k hk e => by have := (hown.lt k e).1; omega) hB)

/-- The row of v' is that of v, or a new one. -/
def RowAt (w : World) (v v' : Value) : Prop := v'.ownBlock = v.ownBlock ∨ ∃ k, w.heap.size ≤ k ∧ v'.ownBlock = some k
theorem RowAt.refl (w : World) (v : Value) : RowAt w v v := .inl rfl
theorem RowAt.trans {v v1 v2 : Value} (h : RowAt w v v1) (h2 : RowAt w1 v1 v2) (hw : w.heap.size ≤ w1.heap.size) : RowAt w v v2 := by
  rcases h2 with h2 | ⟨k, hk, h2⟩
  · rcases h with h | ⟨k, hk, h⟩
    · exact .inl (h2.trans h)
    · exact .inr ⟨k, hk, h2.trans h⟩
  · exact .inr ⟨k, Nat.le_trans hw hk, h2⟩
theorem RowAt.old {v v' : Value} (h : RowAt w v v') {k : Nat} (hk : k < w.heap.size) (e : v'.ownBlock = some k) : v.ownBlock = some k := by
  rcases h with h | ⟨k', hk', h⟩
  · rw [← h]; exact e
  · rw [e] at h; injection h with h; omega
end

section
variable {P : Program} {w : World}
/-- Where 'append(out, s...)', s a string, puts the row. -/
theorem append_string_at (base : Nat) (t u ty e : TypeId) (i : TypeInfo) (ht : P.underlying t = some (.slice e)) (hu : P.underlying u = some .string) (hi : P.info? e = some i) (hz : i.zero = some (.int .u8 0))
    (hsize : i.size = 1) (hby : i.bytes = 1) (v : Value) (n : Nat) (xs : List Value) (hown : w.ownsRow base e 1 v n xs) (s : ByteArray) (hbytes : n + s.size ≤ 140737488355328)
    {v' : Value} {w' : World} (hr : (Builtin.append_ #[t, u] ty #[v, .string s]).run P w = .ok v' w') : RowAt w v v' := by
  have hxl : xs.length = n := by simpa using hown.1
  rcases hown.2 with ⟨rfl, rfl⟩ | ⟨g, cap, cur, rfl, hbg, hg, hnc, hcm, hcs, _⟩
  · by_cases hm : s.size = 0
    · have hf := Lib.run_firstCells_string (P := P) w 1 s
      rw [hm] at hf
      simp [Builtin.append_, run_underlying ht, run_underlying hu, sizeOf, typeInfo, hi, hsize, Builtin.lenOf, hm, hf] at hr
      rw [← hr.1]
      exact .inl rfl
    · have hr2 := run_append_nil_string (P := P) w t u ty e i (.int .u8 0) ht hu hi hz s (by omega) (by omega) (by rw [hby]; omega)
      rw [hr2] at hr
      injection hr with hv _
      rw [← hv]
      exact .inr ⟨_, Nat.le_refl _, rfl⟩
  · by_cases hroom : n + s.size ≤ cap
    · have hcs' : cur.size = cap := by simpa using hcs
      have hr2 := Lib.run_append_room_string (P := P) w t u ty e i ht hu hi hsize g n cap cur hg s hroom (by omega)
      rw [hr2] at hr
      injection hr with hv _
      rw [← hv]
      exact .inl rfl
    · have holds : ∀ j u, xs[j]? = some u → w.cell? ((⟨g, 0, none⟩ : Addr).add j) = some u := hown.cells (g := g) rfl
      have hr2 := Lib.run_append_grow_string (P := P) w t u ty e i (.int .u8 0) ht hu hi hz ⟨g, 0, none⟩ n cap xs (by rw [hsize]; simpa using hxl) holds s (by omega) (by omega) (by rw [hby]; exact growslice_fits (by omega) (by omega))
      rw [hr2] at hr
      injection hr with hv _
      rw [← hv]
      exact .inr ⟨_, Nat.le_refl _, rfl⟩

/-- 'append(out, x)', x one element in the newest block. -/
theorem wpList_push {ops : Array Oper} {rest : List Oper} {o : Oper} {a : Act} {Q : Exit → Act → World → Prop} (hgd : o.guard = none) (s x : Operand) (t : TypeId)
    (ho : o.op = .call { callee := .builtin .append, args := #[s, x], argTypes := #[t, t] })
    (base : Nat) (e : TypeId) (i : TypeInfo) (z : Value) (size bytes : Nat) (ht : P.underlying t = some (.slice e)) (hi : P.info? e = some i) (hz : i.zero = some z)
    (hsize : i.size = size) (hby : i.bytes = bytes) (hzs : z.cells.size = size) (hsz : 0 < size)
    (v : Value) (n : Nat) (xs : List Value) (cs : Array Value) (hs : a.eval s = v) (hown : w.ownsRow base e size v n xs) (hx : a.eval x = .slice (some ⟨w.heap.size, 0, none⟩) 1 1) (hcs : cs.size = size) (h1 : ∀ u ∈ cs.toList, u.oneCell' = true)
    (hbytes : (n + 1) * bytes ≤ 140737488355328) (h63 : n + 1 ≤ maxLen) (hbase : base ≤ w.heap.size)
    (h : ∀ v' w', w'.ownsRow base e size v' (n + 1) (xs ++ cs.toList) → Upd (fun k => v.ownBlock = some k) w w' → RowAt w v v' → wpList P ops Q rest (a.put o.dst v') w') : wpList P ops Q (o :: rest) a (w.alloc (.cells cs e)) := by
  refine wpList_plain hgd fun K hK => ?_
  obtain ⟨v', w', hrun, h2, h3, _, h5⟩ := run_append_own_at (P := P) (w.alloc (.cells cs e)) base t o.type e i z size bytes ht hi hz hsize hby hzs hsz v n xs (hown.alloc _) ⟨w.heap.size, 0, none⟩ 1 1 cs.toList (by simpa using hcs)
    (fun j u hu => by
      rw [add_zero_off, cell_of_row _ w.heap.size j cs e (0, 0) (heap_alloc_new w _)]
      simpa using hu) h1 h63 hbytes (by simp; omega)
  unfold Oper.wp execOp
  simp only [ho, resolve, invoke, builtin, Sem.run_bind, Sem.run_pure, Result.andThen_ok, List.map_toArray, List.map_cons, List.map_nil, hs, hx, hrun]
  refine hK _ _ (h v' w' h2 (Upd.of_grown (grown_pre h3)) ?_)
  rcases h5 with h5 | h5
  · exact .inl h5
  · exact .inr ⟨_, by simp, h5⟩
/-- 'append(out, xs...)', xs a slice that reads as news. -/
theorem wpList_app {ops : Array Oper} {rest : List Oper} {o : Oper} {a : Act} {Q : Exit → Act → World → Prop} (hgd : o.guard = none) (s x : Operand) (t : TypeId)
    (ho : o.op = .call { callee := .builtin .append, args := #[s, x], argTypes := #[t, t] })
    (base : Nat) (e : TypeId) (i : TypeInfo) (z : Value) (size bytes : Nat) (ht : P.underlying t = some (.slice e)) (hi : P.info? e = some i) (hz : i.zero = some z)
    (hsize : i.size = size) (hby : i.bytes = bytes) (hzs : z.cells.size = size) (hsz : 0 < size)
    (v : Value) (n : Nat) (xs : List Value) (B : Nat) (A : Option Addr) (m c : Nat) (news : List Value) (hs : a.eval s = v) (hown : w.ownsRow base e size v n xs) (hx : a.eval x = .slice A m c) (hr : Rd w B size A m news) (h1 : ∀ u ∈ news, u.oneCell' = true)
    (hbytes : (n + m) * bytes ≤ 140737488355328) (h63 : n + m ≤ maxLen) (hbase : base ≤ w.heap.size)
    (h : ∀ v' w', w'.ownsRow base e size v' (n + m) (xs ++ news) → Upd (fun k => v.ownBlock = some k) w w' → RowAt w v v' → wpList P ops Q rest (a.put o.dst v') w') : wpList P ops Q (o :: rest) a w := by
  refine wpList_plain hgd fun K hK => ?_
  have main : ∃ v' w', (Builtin.append_ #[t, t] o.type #[v, .slice A m c]).run P w = .ok v' w' ∧ w'.ownsRow base e size v' (n + m) (xs ++ news) ∧ Upd (fun k => v.ownBlock = some k) w w' ∧ RowAt w v v' := by
    have some_case : ∀ ad, A = some ad → (∀ j u, news[j]? = some u → w.cell? (ad.add j) = some u) → ∃ v' w', (Builtin.append_ #[t, t] o.type #[v, .slice A m c]).run P w = .ok v' w' ∧ w'.ownsRow base e size v' (n + m) (xs ++ news) ∧ Upd (fun k => v.ownBlock = some k) w w' ∧ RowAt w v v' := by
      rintro ad rfl hc
      obtain ⟨v', w', hrun, h2, h3, _, h5⟩ := run_append_own_at (P := P) w base t o.type e i z size bytes ht hi hz hsize hby hzs hsz v n xs hown ad m c news hr.len hc h1 h63 hbytes hbase
      exact ⟨v', w', hrun, h2, Upd.of_grown h3, h5.imp id fun h => ⟨_, Nat.le_refl _, h⟩⟩
    by_cases hm : m = 0
    · subst hm
      have hn : news = [] := List.eq_nil_of_length_eq_zero (by simpa using hr.len)
      subst hn
      cases A with
      | none => exact ⟨v, w, run_append_empty (P := P) w base t o.type e i size c ht hi v n xs hown, by simpa using hown, Upd.refl _ _, RowAt.refl _ _⟩
      | some ad => exact some_case ad rfl (by simp)
    · obtain ⟨ad, hA, _, hc⟩ := hr.at_ (by omega)
      exact some_case ad hA hc
  obtain ⟨v', w', hrun, h2, h3, h5⟩ := main
  unfold Oper.wp execOp
  simp only [ho, resolve, invoke, builtin, Sem.run_bind, Sem.run_pure, Result.andThen_ok, List.map_toArray, List.map_cons, List.map_nil, hs, hx, hrun]
  exact hK _ _ (h v' w' h2 h3 h5)
theorem strCells_bytv (s : ByteArray) : Lib.strCells s = bytv s.data.toList := rfl
/-- 'append(out, s...)', s a string. -/
theorem wpList_apps {ops : Array Oper} {rest : List Oper} {o : Oper} {a : Act} {Q : Exit → Act → World → Prop} (hgd : o.guard = none) (sl x : Operand) (t u : TypeId)
    (ho : o.op = .call { callee := .builtin .append, args := #[sl, x], argTypes := #[t, u] })
    (base : Nat) (e : TypeId) (i : TypeInfo) (ht : P.underlying t = some (.slice e)) (hu : P.underlying u = some .string) (hi : P.info? e = some i) (hz : i.zero = some (.int .u8 0))
    (hsize : i.size = 1) (hby : i.bytes = 1)
    (v : Value) (n : Nat) (l : List UInt8) (s : ByteArray) (hs : a.eval sl = v) (hown : w.ownsRow base e 1 v n (bytv l)) (hx : a.eval x = .string s)
    (hbytes : n + s.size ≤ 140737488355328) (hbase : base ≤ w.heap.size)
    (h : ∀ v' w', w'.ownsRow base e 1 v' (n + s.size) (bytv (l ++ s.data.toList)) → Upd (fun k => v.ownBlock = some k) w w' → RowAt w v v' → wpList P ops Q rest (a.put o.dst v') w') : wpList P ops Q (o :: rest) a w := by
  refine wpList_plain hgd fun K hK => ?_
  obtain ⟨v', w', hr, h2, h3, _⟩ := Lib.run_append_own_string (P := P) w base t u o.type e i ht hu hi hz hsize hby v n (bytv l) hown s (by unfold maxLen; omega) hbytes hbase
  have h5 := append_string_at base t u o.type e i ht hu hi hz hsize hby v n (bytv l) hown s hbytes hr
  unfold Oper.wp execOp
  simp only [ho, resolve, invoke, builtin, Sem.run_bind, Sem.run_pure, Result.andThen_ok, List.map_toArray, List.map_cons, List.map_nil, hs, hx, hr]
  exact hK _ _ (h v' w' (by rw [bytv_append, ← strCells_bytv]; exact h2) (Upd.of_grown h3) h5)
end
end Go.Proofs.Ytanieolnaiihmaa
