/- Maps of the call's own whose elements are ints: what they say as a function of plain keys. -/
import Derived.Test.YtcfgmkiohmbdlaaRow
import Derived.Maps.OwnOps
import Derived.Maps.OwnSet
import Derived.Maps.Views
import Derived.MapViews
namespace Go.Proofs.Ytcfgmkiohmbdlaa
open Go.RowKit
open Go.Maps (Keyed)
/-- The map reads as f (0 where nothing is), and its keys are those of Ks. -/
structure MapF {α : Type} [DecidableEq α] (P : Program) (k : TypeId) (kv : α → Value) (D : DataW Unit) (f : α → Int) (Ks : List α) : Prop where
  tidy : Maps.Tidy D
  nd : Ks.Nodup
  val : ∀ x kl, keyOf P k (kv x) = some kl → D.atKey kl (.lit (.int .i64 0)) = .lit (.int .i64 (f x))
  has : ∀ x kl, keyOf P k (kv x) = some kl → Maps.has D kl = decide (x ∈ Ks)
  size : Maps.size D = Ks.length
section
variable {α : Type} [DecidableEq α] {P : Program} {k : TypeId} {kv : α → Value} {D : DataW Unit} {f : α → Int} {Ks : List α}
theorem MapF.nil : MapF P k kv (.map []) (fun _ => 0) [] :=
  ⟨Maps.tidy_empty, List.nodup_nil, fun _ _ _ => rfl, fun _ _ _ => rfl, rfl⟩
def addK (Ks : List α) (q : α) : List α := if q ∈ Ks then Ks else Ks ++ [q]
theorem mem_addK {Ks : List α} {q x : α} : x ∈ addK Ks q ↔ x ∈ Ks ∨ x = q := by
  unfold addK
  split
  · rename_i h
    exact ⟨.inl, fun h' => h'.elim id (fun e => e ▸ h)⟩
  · simp
theorem nodup_addK {Ks : List α} {q : α} (h : Ks.Nodup) : (addK Ks q).Nodup := by
  unfold addK
  split
  · exact h
  · rename_i hn
    rw [List.nodup_append]
    exact ⟨h, by simp, fun a ha b hb e => hn (by simp at hb; rw [← hb, ← e]; exact ha)⟩
theorem MapF.put (h : MapF P k kv D f Ks) (K : Keyed P k) (inj : ∀ x y, kv x = kv y → x = y) {q : α} {kq : Lit} (hq : keyOf P k (kv q) = some kq) (v : Int) :
    MapF P k kv (D.put kq (.lit (.int .i64 v))) (fun x => if x = q then v else f x) (addK Ks q) := by
  have hk := K.key hq
  have ne : ∀ x kl, keyOf P k (kv x) = some kl → x ≠ q → kl ≠ kq := fun x kl hx hne e => by
    subst e
    exact hne (inj _ _ (K.inj hx hq))
  refine ⟨h.tidy.put hk _, nodup_addK h.nd, fun x kl hx => ?_, fun x kl hx => ?_, ?_⟩
  · by_cases e : x = q
    · subst e
      rw [hx] at hq
      injection hq with hq
      subst hq
      rw [Maps.atKey_put_same h.tidy.isMap hk, if_pos rfl]
    · rw [Maps.atKey_put_other (ne x kl hx e), if_neg e, h.val x kl hx]
  · by_cases e : x = q
    · subst e
      rw [hx] at hq
      injection hq with hq
      subst hq
      rw [Maps.has_put_same h.tidy.isMap hk]
      exact (decide_eq_true (mem_addK.2 (.inr rfl))).symm
    · rw [Maps.has_put_other (ne x kl hx e), h.has x kl hx]
      congr 1
      rw [mem_addK]
      simp [e]
  · rw [Maps.size_put h.tidy, h.has q kq hq, h.size]
    unfold addK
    by_cases e : q ∈ Ks
    · simp [e]
    · simp [e]
/-- What a look-up finds. -/
theorem MapF.look {w : World} {b n : Nat} {t e : TypeId} (h : MapF P k kv D f Ks) (hown : w.ownsMap P k (plainElem P e) b n D) (K : Keyed P k) (ht : P.underlying t = some (.map k e)) (he : P.underlying e = some (.int .i64)) (hz : (zeroValue e).run P w = .ok (.int .i64 0) w)
    {q : α} {kq : Lit} (hq : keyOf P k (kv q) = some kq) : (Instr.lookup t (.map (some b)) (kv q) false).run P w = .ok (.int .i64 (f q)) w := by
  obtain ⟨c, hrun, hat, _⟩ := hown.lookup_int K ht he hz hq
  rw [h.val q kq hq] at hat
  injection hat with hat
  injection hat with _ hat
  rw [hrun, hat]
end
theorem ownsMap_updU {S : Nat → Prop} {w w' : World} {P : Program} {b n : Nat} {D : DataW Unit} {R : Value → Option (DataW Unit × List MemPlace)} {K : TypeId} (h : w.ownsMap P K R b n D) (hu : Upd S w w') (hs : ¬ S b) : w'.ownsMap P K R b n D := by
  have hlt := h.lt
  obtain ⟨es, clock, hb, F, hs', hD⟩ := h
  exact ⟨es, clock, (hu.block b hlt hs).trans hb, F, hs', hD⟩
/-- An int as a key. -/
theorem intKeyed : Keyed Try.prog 3 := Maps.int_keyed Try.underlying3
theorem intKey {x : Int} (h : -9223372036854775808 ≤ x ∧ x ≤ 9223372036854775807) : keyOf Try.prog 3 (.int .i64 x) = some (.int .i64 x) :=
  Maps.keyOf_int_mk Try.underlying3 (by simp [Lit.wf]; exact h)
theorem intKeyInj : ∀ x y : Int, Value.int .i64 x = Value.int .i64 y → x = y := fun _ _ h => by injection h
theorem zeroI (w : World) : (zeroValue 3).run Try.prog w = .ok (.int .i64 0) w := by kernel_rfl
def IMap (w : World) (b n : Nat) (f : Int → Int) (Ks : List Int) : Prop := ∃ D, w.ownsMap Try.prog 3 (plainElem Try.prog 3) b n D ∧ MapF Try.prog 3 (Value.int .i64) D f Ks
section
variable {w w' : World} {b n : Nat} {f : Int → Int} {Ks : List Int}
theorem IMap.made (w : World) : IMap (w.alloc (.map #[] 0)) w.heap.size 0 (fun _ => 0) [] := ⟨_, World.ownsMap_made w Try.prog 3 _, .nil⟩
theorem IMap.lt (h : IMap w b n f Ks) : b < w.heap.size := by obtain ⟨D, h, _⟩ := h; exact h.lt
theorem IMap.upd {S : Nat → Prop} (h : IMap w b n f Ks) (hu : Upd S w w') (hs : ¬ S b) : IMap w' b n f Ks := by
  obtain ⟨D, h, h2⟩ := h
  exact ⟨D, ownsMap_updU h hu hs, h2⟩
theorem IMap.mono {n' : Nat} (h : IMap w b n f Ks) (hn : n ≤ n') : IMap w b n' f Ks := by
  obtain ⟨D, h, h2⟩ := h
  exact ⟨D, h.mono hn, h2⟩
theorem IMap.look (h : IMap w b n f Ks) {q : Int} (hq : -9223372036854775808 ≤ q ∧ q ≤ 9223372036854775807) : (Instr.lookup 121 (.map (some b)) (.int .i64 q) false).run Try.prog w = .ok (.int .i64 (f q)) w := by
  obtain ⟨D, h, h2⟩ := h
  exact h2.look h intKeyed Try.underlying121 Try.underlying3 (zeroI w) (intKey hq)
theorem IMap.len (h : IMap w b n f Ks) (ty : TypeId) : (Builtin.len_ #[121] ty #[.map (some b)]).run Try.prog w = .ok (.int .i64 Ks.length) w := by
  obtain ⟨D, h, h2⟩ := h
  rw [h.len Try.underlying121 ty, h2.size]
theorem plainInt (v : Int) (h : -9223372036854775808 ≤ v ∧ v ≤ 9223372036854775807) : plainElem (H := Unit) Try.prog 3 (.int .i64 v) = some (.lit (.int .i64 v), []) := plainElem_int Try.underlying3 (by simp [Lit.wf]; exact h)
set_option maxRecDepth 20000 in
/-- 'm[q] = v'. -/
theorem IMap.put (h : IMap w b n f Ks) (hn : n < maxLen) {q v : Int} (hq : -9223372036854775808 ≤ q ∧ q ≤ 9223372036854775807) (hv : -9223372036854775808 ≤ v ∧ v ≤ 9223372036854775807) :
    ∃ w', (Instr.mapUpdate 121 (.map (some b)) (.int .i64 q) (.int .i64 v)).run Try.prog w = .ok () w' ∧ IMap w' b (n + 1) (fun x => if x = q then v else f x) (addK Ks q) ∧ Upd (fun k => k = b) w w' := by
  obtain ⟨D, h, h2⟩ := h
  obtain ⟨w', hrun, h3, h4⟩ := h.update intKeyed Try.underlying121 hn (intKey hq) (plainInt v hv)
  exact ⟨w', hrun, ⟨_, h3, h2.put intKeyed intKeyInj (intKey hq) v⟩, (Upd.of_grown h4).mono fun _ _ e => by injection e with e; exact e.symm⟩
theorem wpList_putI {ops : Array Oper} {rest : List Oper} {o : Oper} {a : Act} {Q : Exit → Act → World → Prop} (hg : o.guard = none) (m x v : Operand) (hop : o.op = Op.mapUpdate 121 m x v)
    (hm : a.eval m = .map (some b)) (h : IMap w b n f Ks) (hn : n < maxLen) {q u : Int} (hx : a.eval x = .int .i64 q) (hv : a.eval v = .int .i64 u) (hq : -9223372036854775808 ≤ q ∧ q ≤ 9223372036854775807) (hu : -9223372036854775808 ≤ u ∧ u ≤ 9223372036854775807)
    (hK : ∀ w', IMap w' b (n + 1) (fun x => if x = q then u else f x) (addK Ks q) → Upd (fun k => k = b) w w' → wpList Try.prog ops Q rest (a.put o.dst undef) w') : wpList Try.prog ops Q (o :: rest) a w := by
  refine wpList_plain hg fun K' hK' => ?_
  obtain ⟨w', hrun, r1, r2⟩ := h.put hn hq hu
  unfold Oper.wp
  simp [execOp, hop, hm, hx, hv, hrun, Result.andThen]
  exact hK' _ _ (hK w' r1 r2)
end
end Go.Proofs.Ytcfgmkiohmbdlaa
