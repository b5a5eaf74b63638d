/- Maps of the call's own, whatever their elements: what they say as a function of plain keys. -/
import Derived.Test.YtddiabpjmnmllaaDoorRow
import Derived.Maps.OwnOps
import Derived.Maps.OwnSet
import Derived.Maps.Views
import Derived.MapViews
import Derived.WideKeyEntry
namespace Go.Proofs.YtddiabpjmnmllaaDoor
open Go.RowKit
open Go.Maps (Keyed)
/-- An element reads as itself. -/
def heldR (v : Value) : Option (DataW Value × List MemPlace) := some (.held v, [])
/-- Block b is a map of at most n entries that reads as f, z where nothing is; s: is there an entry? -/
def VMap {α : Type} (P : Program) (k : TypeId) (kv : α → Value) (z : Value) (w : World) (b n : Nat) (f : α → Value) (s : α → Bool) : Prop :=
  ∃ D : DataW Value, w.ownsMap P k heldR b n D ∧ Maps.Tidy D ∧ (∀ x kl, keyOf P k (kv x) = some kl → D.atKey kl (.held z) = .held (f x)) ∧ (∀ x kl, keyOf P k (kv x) = some kl → Maps.has D kl = s x)
theorem ownsMap_block {H : Type} {w w' : World} {P : Program} {b n : Nat} {D : DataW H} {R : Value → Option (DataW H × List MemPlace)} {K : TypeId} (h : w.ownsMap P K R b n D) (e : w'.heap[b]? = w.heap[b]?) : w'.ownsMap P K R b n D := by
  obtain ⟨es, clock, hb, F, hs', hD⟩ := h
  exact ⟨es, clock, e.trans hb, F, hs', hD⟩
section
variable {α : Type} {P : Program} {k : TypeId} {kv : α → Value} {z : Value} {w w' : World} {b n : Nat} {f : α → Value} {s : α → Bool}
theorem VMap.made (w : World) : VMap P k kv z (w.alloc (.map #[] 0)) w.heap.size 0 (fun _ => z) (fun _ => false) :=
  ⟨_, World.ownsMap_made w P k _, Maps.tidy_empty, fun _ _ _ => rfl, fun _ _ _ => rfl⟩
theorem VMap.lt (h : VMap P k kv z w b n f s) : b < w.heap.size := by obtain ⟨D, h, _⟩ := h; exact h.lt
theorem VMap.isMap (h : VMap P k kv z w b n f s) : ∃ es clock, w.heap[b]? = some (.map es clock) := by obtain ⟨D, ⟨es, c, h, _⟩, _⟩ := h; exact ⟨es, c, h⟩
theorem VMap.mono {n' : Nat} (h : VMap P k kv z w b n f s) (hn : n ≤ n') : VMap P k kv z w b n' f s := by
  obtain ⟨D, h, h2⟩ := h
  exact ⟨D, h.mono hn, h2⟩
theorem VMap.upd {S : Nat → Prop} (h : VMap P k kv z w b n f s) (hu : Upd S w w') (hs : ¬ S b) : VMap P k kv z w' b n f s := by
  have hlt := h.lt
  obtain ⟨D, h, h2⟩ := h
  exact ⟨D, ownsMap_block h (hu.block b hlt hs), h2⟩
theorem VMap.look (h : VMap P k kv z w b n f s) (K : Keyed P k) {t e : TypeId} (ht : P.underlying t = some (.map k e)) (hz : (zeroValue e).run P w = .ok z w) {q : α} {kl : Lit} (hq : keyOf P k (kv q) = some kl) :
    (Instr.lookup t (.map (some b)) (kv q) false).run P w = .ok (f q) w := by
  obtain ⟨D, h, _, h3, _⟩ := h
  obtain ⟨v, ps, hrun, hv⟩ := h.lookup K ht hz (zd := .held z) (zp := []) rfl hq
  rw [h3 q kl hq] at hv
  unfold heldR at hv
  injection hv with hv
  injection hv with hv _
  injection hv with hv
  rw [hrun, hv]
theorem VMap.look_ok (h : VMap P k kv z w b n f s) (K : Keyed P k) {t e : TypeId} (ht : P.underlying t = some (.map k e)) (hz : (zeroValue e).run P w = .ok z w) {q : α} {kl : Lit} (hq : keyOf P k (kv q) = some kl) :
    (Instr.lookup t (.map (some b)) (kv q) true).run P w = .ok (.tuple #[f q, .bool (s q)]) w := by
  obtain ⟨D, h, _, h3, h4⟩ := h
  obtain ⟨v, ps, hrun, hv⟩ := h.look_ok K ht hz (zd := .held z) (zp := []) rfl hq
  rw [h3 q kl hq] at hv
  unfold heldR at hv
  injection hv with hv
  injection hv with hv _
  injection hv with hv
  rw [hrun, hv, h4 q kl hq]
theorem VMap.turn [DecidableEq α] (K : Keyed P k) (inj : ∀ x y, kv x = kv y → x = y) {D : DataW Value} (h2 : Maps.Tidy D) (h3 : ∀ x kl, keyOf P k (kv x) = some kl → D.atKey kl (.held z) = .held (f x)) (h4 : ∀ x kl, keyOf P k (kv x) = some kl → Maps.has D kl = s x)
    {q : α} {kq : Lit} (hq : keyOf P k (kv q) = some kq) (u : Value) : Maps.Tidy (D.put kq (.held u)) ∧ (∀ x kl, keyOf P k (kv x) = some kl → (D.put kq (.held u)).atKey kl (.held z) = .held (if x = q then u else f x)) ∧ (∀ x kl, keyOf P k (kv x) = some kl → Maps.has (D.put kq (.held u)) kl = if x = q then true else s x) := by
  have hk := K.key hq
  have ne : ∀ x kl, keyOf P k (kv x) = some kl → x ≠ q → kl ≠ kq := fun x kl hx hne e => by
    subst e
    exact hne (inj _ _ (K.inj hx hq))
  refine ⟨h2.put hk _, fun x kl hx => ?_, fun x kl hx => ?_⟩
  · by_cases e : x = q
    · subst e
      rw [hx] at hq
      injection hq with hq
      subst hq
      rw [Maps.atKey_put_same h2.isMap hk, if_pos rfl]
    · rw [Maps.atKey_put_other (ne x kl hx e), if_neg e, h3 x kl hx]
  · by_cases e : x = q
    · subst e
      rw [hx] at hq
      injection hq with hq
      subst hq
      rw [Maps.has_put_same h2.isMap hk, if_pos rfl]
    · rw [Maps.has_put_other (ne x kl hx e), if_neg e, h4 x kl hx]
/-- 'm[q] = u'. -/
theorem VMap.put [DecidableEq α] (h : VMap P k kv z w b n f s) (K : Keyed P k) (inj : ∀ x y, kv x = kv y → x = y) {t e : TypeId} (ht : P.underlying t = some (.map k e)) (hn : n < maxLen) {q : α} {kl : Lit} (hq : keyOf P k (kv q) = some kl) (u : Value) :
    ∃ w', (Instr.mapUpdate t (.map (some b)) (kv q) u).run P w = .ok () w' ∧ VMap P k kv z w' b (n + 1) (fun x => if x = q then u else f x) (fun x => if x = q then true else s x) ∧ Upd (fun i => i = b) w w' := by
  obtain ⟨D, h, h2, h3, h4⟩ := h
  obtain ⟨w', hrun, r1, r2⟩ := h.store K ht hn hq (val := u) (d := .held u) (ps := []) rfl
  exact ⟨w', hrun, ⟨_, r1, VMap.turn K inj h2 h3 h4 hq u⟩, (Upd.of_grown r2.grown).mono fun _ _ e => by injection e with e; exact e.symm⟩
theorem upd_setBlock {w : World} {b : Nat} {es : Array MapEntry} {clock : Nat} (hb : w.heap[b]? = some (.map es clock)) (es' : Array MapEntry) (clock' : Nat) : Upd (fun i => i = b) w (ChangeMaps.setBlock w b (.map es' clock')) :=
  ⟨rfl, rfl, rfl, by simp [ChangeMaps.setBlock], fun i _ hi => ChangeMaps.heap_setBlock_other hb _ hi⟩
theorem okInj {β : Type} {a b : β} {w w' : World} (h : Result.ok a w = Result.ok b w') : a = b ∧ w = w' := by
  injection h with h1 h2
  exact ⟨h1, h2⟩
/-- An entry is made as if its present value were stored. -/
theorem entry_is_put {R : Value → Option (DataW Value × List MemPlace)} {es : Array MapEntry} {clock : Nat} (K : WideMaps.KeyLaw P k) {t e : TypeId} (ht : P.underlying t = some (.map k e)) (hz : ∀ u : World, (zeroValue e).run P u = .ok z u) (hb : w.heap[b]? = some (.map es clock)) (F : WideElems.Fit P k R es clock)
    {key : Value} {kl : Lit} (hkey : keyOf P k key = some kl) :
    ∃ (v0 st : Value) (w1 : World), (Instr.mapEntry t (.map (some b)) key).run P w = .ok (.tuple #[v0, st]) w1 ∧ (Instr.mapUpdate t (.map (some b)) key v0).run P w = .ok () w1 ∧ (Instr.lookup t (.map (some b)) key false).run P w = .ok v0 w := by
  rcases K.find w hkey es.toList F.keys with ⟨h1, h2⟩ | ⟨j, e0, h1, h2, h3⟩
  · refine ⟨z, goInt clock, ChangeMaps.setBlock w b (.map (es.push ⟨key, z, clock⟩) (clock + 1)), ?_, ?_, ?_⟩
    · simp [Instr.mapEntry, run_underlying ht, MapKept.run_getObj_map hb, K.check w false hkey, h1, hz, MapKept.run_setObj_map _ hb, Result.andThen, ChangeMaps.setBlock]
    · simp [Instr.mapUpdate, run_underlying ht, MapKept.run_getObj_map hb, K.check w false hkey, h1, MapKept.run_setObj_map _ hb, Result.andThen, ChangeMaps.setBlock]
    · simp [Instr.lookup, run_underlying ht, MapKept.run_getObj_map hb, K.check w _ hkey, h1, hz, Result.andThen]
  · have hj : es[j]? = some e0 := by simpa using h2
    have hsame : es.modify j (fun e => { e with key := key }) = es := by
      apply Array.ext'
      rw [Array.toList_modify, ChangeMaps.modify_eq_set _ _ _ _ h2]
      have : ({ e0 with key := key } : MapEntry) = e0 := by rw [← h3]
      rw [this]
      exact WideElems.set_self _ _ _ h2
    have hsame2 : es.modify j (fun e => { e with key := key, val := e0.val }) = es := by
      apply Array.ext'
      rw [Array.toList_modify, ChangeMaps.modify_eq_set _ _ _ _ h2]
      have : ({ e0 with key := key, val := e0.val } : MapEntry) = e0 := by rw [← h3]
      rw [this]
      exact WideElems.set_self _ _ _ h2
    refine ⟨e0.val, goInt e0.born, ChangeMaps.setBlock w b (.map es clock), ?_, ?_, ?_⟩
    · simp [Instr.mapEntry, run_underlying ht, MapKept.run_getObj_map hb, K.check w false hkey, h1, hj, h3, K.stays w hkey, hsame, MapKept.run_setObj_map _ hb, Result.andThen, ChangeMaps.setBlock]
    · simp [Instr.mapUpdate, run_underlying ht, MapKept.run_getObj_map hb, K.check w false hkey, h1, hj, h3, K.stays w hkey, hsame2, MapKept.run_setObj_map _ hb, Result.andThen, ChangeMaps.setBlock]
    · simp [Instr.lookup, run_underlying ht, MapKept.run_getObj_map hb, K.check w _ hkey, h1, Result.andThen]
/-- 'm[q] op= u': the entry, and then the store in it. -/
theorem VMap.entry [DecidableEq α] (h : VMap P k kv z w b n f s) (K : WideMaps.KeyLaw P k) (inj : ∀ x y, kv x = kv y → x = y) {t e : TypeId} (ht : P.underlying t = some (.map k e)) (hz : ∀ u : World, (zeroValue e).run P u = .ok z u) (hn : n < maxLen) {q : α} {kl : Lit} (hq : keyOf P k (kv q) = some kl) (u : Value) :
    ∃ v0 st w1 w2, (Instr.mapEntry t (.map (some b)) (kv q)).run P w = .ok (.tuple #[v0, goInt st]) w1 ∧ (Instr.entryStore t (.map (some b)) (goInt st) u).run P w1 = .ok () w2 ∧ (Instr.lookup t (.map (some b)) (kv q) false).run P w1 = .ok (f q) w1 ∧ Upd (fun i => i = b) w w1 ∧ Upd (fun i => i = b) w w2 ∧
      VMap P k kv z w2 b (n + 1) (fun x => if x = q then u else f x) (fun x => if x = q then true else s x) := by
  have K' : Keyed P k := Keyed.of_law K
  have hl := h.look K' ht (hz w) hq
  have hput := fun v => h.put K' inj ht hn hq v
  obtain ⟨D, h, h2, h3, h4⟩ := h
  obtain ⟨w', hrun, r1, r2⟩ := h.store K' ht hn hq (val := u) (d := .held u) (ps := []) rfl
  obtain ⟨es, clock, hb, F, _, _⟩ := h
  obtain ⟨v0, st, es1, clock1, e1, _, e2⟩ := WideElems.entry_then_store K ht hz hb F hq
  have hb1 := ChangeMaps.heap_setBlock_same hb (.map es1 clock1)
  obtain ⟨es', clock', e3, e4⟩ := e2 _ u hb1
  rw [hrun] at e4
  injection e4 with _ e4
  subst e4
  have u1 := upd_setBlock hb es1 clock1
  have hlk : (Instr.lookup t (.map (some b)) (kv q) false).run P (ChangeMaps.setBlock w b (.map es1 clock1)) = .ok (f q) (ChangeMaps.setBlock w b (.map es1 clock1)) := by
    obtain ⟨v0', st', w1', a1, a2, a3⟩ := entry_is_put K ht hz hb F hq
    have a1' := okInj (e1.symm.trans a1)
    have a3' := okInj (hl.symm.trans a3)
    obtain ⟨w3, b1, b2, _⟩ := hput (f q)
    rw [← a3'.1] at a2
    have b1' := okInj (b1.symm.trans a2)
    rw [b1'.2, ← a1'.2] at b2
    have := b2.look K' ht (hz _) hq
    simpa using this
  have u2 := upd_setBlock hb1 es' clock'
  exact ⟨v0, st, _, _, e1, e3, hlk, u1, u1.trans u2 (fun _ _ e => e), _, ownsMap_block r1 ((ChangeMaps.heap_setBlock_same hb1 _).trans (ChangeMaps.heap_setBlock_same hb _).symm), VMap.turn K' inj h2 h3 h4 hq u⟩
end
end Go.Proofs.YtddiabpjmnmllaaDoor
/- append at a step of a region that draws its order. -/
namespace Go.Proofs.YtddiabpjmnmllaaDoor
open Go.RowKit
section
variable {P : Program}
/-- 'append(s, xs...)' runs. -/
theorem app_run (w : World) (t ty : TypeId) (base : Nat) (e : TypeId) (i : TypeInfo) (z : Value) (size bytes : Nat) (ht : P.underlying t = some (.slice e)) (hi : P.info? e = some i) (hz : i.zero = some z)
    (hsize : i.size = size) (hby : i.bytes = bytes) (hzs : z.cells.size = size) (hsz : 0 < size)
    (v : Value) (n : Nat) (xs : List Value) (B : Nat) (A : Option Addr) (m c : Nat) (news : List Value) (hown : w.ownsRow base e size v n xs) (hr : Rd w B size A m news) (h1 : ∀ u ∈ news, u.oneCell' = true)
    (hbytes : (n + m) * bytes ≤ 140737488355328) (h63 : n + m ≤ maxLen) (hbase : base ≤ w.heap.size) :
    ∃ v' w', (Builtin.append_ #[t, t] ty #[v, .slice A m c]).run P w = .ok v' w' ∧ w'.ownsRow base e size v' (n + m) (xs ++ news) ∧ Upd (fun k => v.ownBlock = some k) w w' ∧ RowAt w v v' := by
  have some_case : ∀ ad, A = some ad → (∀ j u, news[j]? = some u → w.cell? (ad.add j) = some u) → ∃ v' w', (Builtin.append_ #[t, t] ty #[v, .slice A m c]).run P w = .ok v' w' ∧ w'.ownsRow base e size v' (n + m) (xs ++ news) ∧ Upd (fun k => v.ownBlock = some k) w w' ∧ RowAt w v v' := by
    rintro ad rfl hc
    obtain ⟨v', w', hrun, h2, h3, _, h5⟩ := run_append_own_at (P := P) w base t ty e i z size bytes ht hi hz hsize hby hzs hsz v n xs hown ad m c news hr.len hc h1 h63 hbytes hbase
    exact ⟨v', w', hrun, h2, Upd.of_grown h3, h5.imp id fun h => ⟨_, Nat.le_refl _, h⟩⟩
  by_cases hm : m = 0
  · subst hm
    have hn : news = [] := List.eq_nil_of_length_eq_zero (by simpa using hr.len)
    subst hn
    cases A with
    | none => exact ⟨v, w, run_append_empty (P := P) w base t ty e i size c ht hi v n xs hown, by simpa using hown, Upd.refl _ _, RowAt.refl _ _⟩
    | some ad => exact some_case ad rfl (by simp)
  · obtain ⟨ad, hA, _, hc⟩ := hr.at_ (by omega)
    exact some_case ad hA hc
/-- .. at a step of a region that draws. -/
theorem step_app {ops : Array Oper} {o : Oper} {a : Act} {w : World} {K : Act → World → Prop} {Q : Exit → Act → World → Prop} {E : Prop} (hgd : o.guard = none) (s x : Operand) (t : TypeId)
    (ho : o.op = .call { callee := .builtin .append, args := #[s, x], argTypes := #[t, t] })
    (base : Nat) (e : TypeId) (i : TypeInfo) (z : Value) (size bytes : Nat) (ht : P.underlying t = some (.slice e)) (hi : P.info? e = some i) (hz : i.zero = some z)
    (hsize : i.size = size) (hby : i.bytes = bytes) (hzs : z.cells.size = size) (hsz : 0 < size)
    (v : Value) (n : Nat) (xs : List Value) (B : Nat) (A : Option Addr) (m c : Nat) (news : List Value) (hs : a.eval s = v) (hown : w.ownsRow base e size v n xs) (hx : a.eval x = .slice A m c) (hr : Rd w B size A m news) (h1 : ∀ u ∈ news, u.oneCell' = true)
    (hbytes : (n + m) * bytes ≤ 140737488355328) (h63 : n + m ≤ maxLen) (hbase : base ≤ w.heap.size)
    (h : ∀ v' w', w'.ownsRow base e size v' (n + m) (xs ++ news) → Upd (fun k => v.ownBlock = some k) w w' → RowAt w v v' → K (a.put o.dst v') w') :
    if Region.wanted o (yielded ops a.tmps) = true then Oper.wp P o a w K Q else E := by
  have hw : Region.wanted o (yielded ops a.tmps) = true := by simp [Region.wanted, hgd]
  rw [if_pos hw]
  obtain ⟨v', w', hrun, h2, h3, h5⟩ := app_run (P := P) w t o.type base e i z size bytes ht hi hz hsize hby hzs hsz v n xs B A m c news hown hr h1 hbytes h63 hbase
  unfold Oper.wp execOp
  simp only [ho, resolve, invoke, builtin, Sem.run_bind, Sem.run_pure, Result.andThen_ok, List.map_toArray, List.map_cons, List.map_nil, hs, hx, hrun]
  exact h v' w' h2 h3 h5
end
theorem own_empty (w : World) (e : TypeId) (size base : Nat) (hb : base ≤ w.heap.size) : (w.alloc (.cells #[] e)).ownsRow base e size (.slice (some ⟨w.heap.size, 0, none⟩) 0 0) 0 [] :=
  ⟨by simp, .inr ⟨_, 0, #[], rfl, hb, heap_alloc_new w _, Nat.le_refl _, Nat.zero_le _, by simp, by simp⟩⟩
theorem rd_block {w : World} {h size : Nat} {cs : Array Value} {t : TypeId} (hb : w.heap[h]? = some (.cells cs t (0, 0))) (hs : cs.size = size) : Rd w w.heap.size size (some ⟨h, 0, none⟩) 1 cs.toList :=
  ⟨by simpa using hs, fun _ => ⟨_, rfl, (Array.getElem?_eq_some_iff.1 hb).1, fun j u hu => by
    rw [add_zero_off, cell_of_row w h j _ _ _ hb]
    simpa using hu⟩⟩
end Go.Proofs.YtddiabpjmnmllaaDoor
