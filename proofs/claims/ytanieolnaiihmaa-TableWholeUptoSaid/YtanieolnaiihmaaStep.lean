/- append at a step of a region that draws its order. -/
import Derived.Test.YtanieolnaiihmaaRow
namespace Go.Proofs.Ytanieolnaiihmaa
open Go.RowKit
section
variable {P : Program}
/-- 'append(s, xs...)' runs. -/
theorem app_run (w : World) (t ty : TypeId) (base : Nat) (e : TypeId) (i : TypeInfo) (z : Value) (size bytes : Nat) (ht : P.underlying t = some (.slice e)) (hi : P.info? e = some i) (hz : i.zero = some z)
    (hsize : i.size = size) (hby : i.bytes = bytes) (hzs : z.cells.size = size) (hsz : 0 < size)
    (v : Value) (n : Nat) (xs : List Value) (B : Nat) (A : Option Addr) (m c : Nat) (news : List Value) (hown : w.ownsRow base e size v n xs) (hr : Rd w B size A m news) (h1 : ∀ u ∈ news, u.oneCell' = true)
    (hbytes : (n + m) * bytes ≤ 140737488355328) (h63 : n + m ≤ maxLen) (hbase : base ≤ w.heap.size) :
    ∃ v' w', (Builtin.append_ #[t, t] ty #[v, .slice A m c]).run P w = .ok v' w' ∧ w'.ownsRow base e size v' (n + m) (xs ++ news) ∧ Upd (fun k => v.ownBlock = some k) w w' ∧ RowAt w v v' := by
  have some_case : ∀ ad, A = some ad → (∀ j u, news[j]? = some u → w.cell? (ad.add j) = some u) → ∃ v' w', (Builtin.append_ #[t, t] ty #[v, .slice A m c]).run P w = .ok v' w' ∧ w'.ownsRow base e size v' (n + m) (xs ++ news) ∧ Upd (fun k => v.ownBlock = some k) w w' ∧ RowAt w v v' := by
    rintro ad rfl hc
    obtain ⟨v', w', hrun, h2, h3, _, h5⟩ := run_append_own_at (P := P) w base t ty e i z size bytes ht hi hz hsize hby hzs hsz v n xs hown ad m c news hr.len hc h1 h63 hbytes hbase
    exact ⟨v', w', hrun, h2, Upd.of_grown h3, h5.imp id fun h => ⟨_, Nat.le_refl _, h⟩⟩
  by_cases hm : m = 0
  · subst hm
    have hn : news = [] := List.eq_nil_of_length_eq_zero (by simpa using hr.len)
    subst hn
    cases A with
    | none => exact ⟨v, w, run_append_empty (P := P) w base t ty e i size c ht hi v n xs hown, by simpa using hown, Upd.refl _ _, RowAt.refl _ _⟩
    | some ad => exact some_case ad rfl (by simp)
  · obtain ⟨ad, hA, _, hc⟩ := hr.at_ (by omega)
    exact some_case ad hA hc
/-- .. at a step of a region that draws. -/
theorem step_app {ops : Array Oper} {o : Oper} {a : Act} {w : World} {K : Act → World → Prop} {Q : Exit → Act → World → Prop} {E : Prop} (hgd : o.guard = none) (s x : Operand) (t : TypeId)
    (ho : o.op = .call { callee := .builtin .append, args := #[s, x], argTypes := #[t, t] })
    (base : Nat) (e : TypeId) (i : TypeInfo) (z : Value) (size bytes : Nat) (ht : P.underlying t = some (.slice e)) (hi : P.info? e = some i) (hz : i.zero = some z)
    (hsize : i.size = size) (hby : i.bytes = bytes) (hzs : z.cells.size = size) (hsz : 0 < size)
    (v : Value) (n : Nat) (xs : List Value) (B : Nat) (A : Option Addr) (m c : Nat) (news : List Value) (hs : a.eval s = v) (hown : w.ownsRow base e size v n xs) (hx : a.eval x = .slice A m c) (hr : Rd w B size A m news) (h1 : ∀ u ∈ news, u.oneCell' = true)
    (hbytes : (n + m) * bytes ≤ 140737488355328) (h63 : n + m ≤ maxLen) (hbase : base ≤ w.heap.size)
    (h : ∀ v' w', w'.ownsRow base e size v' (n + m) (xs ++ news) → Upd (fun k => v.ownBlock = some k) w w' → RowAt w v v' → K (a.put o.dst v') w') :
    if Region.wanted o (yielded ops a.tmps) = true then Oper.wp P o a w K Q else E := by
  have hw : Region.wanted o (yielded ops a.tmps) = true := by simp [Region.wanted, hgd]
  rw [if_pos hw]
  obtain ⟨v', w', hrun, h2, h3, h5⟩ := app_run (P := P) w t o.type base e i z size bytes ht hi hz hsize hby hzs hsz v n xs B A m c news hown hr h1 hbytes h63 hbase
  unfold Oper.wp execOp
  simp only [ho, resolve, invoke, builtin, Sem.run_bind, Sem.run_pure, Result.andThen_ok, List.map_toArray, List.map_cons, List.map_nil, hs, hx, hrun]
  exact h v' w' h2 h3 h5
end
theorem own_empty (w : World) (e : TypeId) (size base : Nat) (hb : base ≤ w.heap.size) : (w.alloc (.cells #[] e)).ownsRow base e size (.slice (some ⟨w.heap.size, 0, none⟩) 0 0) 0 [] :=
  ⟨by simp, .inr ⟨_, 0, #[], rfl, hb, heap_alloc_new w _, Nat.le_refl _, Nat.zero_le _, by simp, by simp⟩⟩
theorem rd_block {w : World} {h size : Nat} {cs : Array Value} {t : TypeId} (hb : w.heap[h]? = some (.cells cs t (0, 0))) (hs : cs.size = size) : Rd w w.heap.size size (some ⟨h, 0, none⟩) 1 cs.toList :=
  ⟨by simpa using hs, fun _ => ⟨_, rfl, (Array.getElem?_eq_some_iff.1 hb).1, fun j u hu => by
    rw [add_zero_off, cell_of_row w h j _ _ _ hb]
    simpa using hu⟩⟩
end Go.Proofs.Ytanieolnaiihmaa
