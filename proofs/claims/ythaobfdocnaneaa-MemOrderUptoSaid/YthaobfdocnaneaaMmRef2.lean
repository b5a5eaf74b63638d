/- Tables in memory: the reference's list, walked: Get, From, Bytes, Rising. -/
import Derived.Test.YthaobfdocnaneaaMmRef
namespace Go.Proofs.Ythaobfdocnaneaa
open Go.RowKit
/-- What the reference finds. -/
def getE (l : List Ent) (key : ByteArray) (sq : Int) : Option Ent := l.find? fun x => decide (x.key = key) && decide (x.seq ≤ sq)
theorem find_take {α : Type} {p : α → Bool} {l : List α} {k : Nat} (h : k < l.length) (h1 : ∀ j (hj : j < l.length), j < k → p l[j] = false) (h2 : p l[k] = true) : l.find? p = some l[k] := by
  induction l generalizing k with
  | nil => simp at h
  | cons a l ih =>
    cases k with
    | zero => rw [List.find?_cons]; simp at h2; simp [h2]
    | succ k =>
      have h0 := h1 0 (by simp) (by omega)
      simp at h0
      rw [List.find?_cons, h0]
      simp only [List.getElem_cons_succ] at h2 ⊢
      exact ih (by simpa using h) (fun j hj hjk => by have := h1 (j + 1) (by simpa using hj) (by omega); simpa using this) h2
theorem find_none {α : Type} {p : α → Bool} {l : List α} (h1 : ∀ j (hj : j < l.length), p l[j] = false) : l.find? p = none := by
  rw [List.find?_eq_none]
  intro x hx
  obtain ⟨j, hj, rfl⟩ := List.mem_iff_getElem.1 hx
  rw [h1 j hj]
  decide
set_option maxHeartbeats 4000000 in
set_option maxRecDepth 20000 in
theorem rget_any (w : World) (A : Option Addr) (n c : Nat) (l : List Ent) (key : ByteArray) (sq : Int) (hr : Rd w w.heap.size 4 A n (entv l)) (hn : n ≤ 1099511627776) :
    Calls Try.prog 17 #[.slice A n c, .string key, .int .i64 sq] w fun e w' => e = .returned (.tuple #[((getE l key sq).getD noEnt).agg, .bool (getE l key sq).isSome]) ∧ Below w.heap.size w w' := by
  have HR := Lib.hid hr
  have HML := Lib.hid (rd_entlen hr)
  clear hr
  go_enter Try.func17, Try.ntmps17
  have hz := heap_alloc_new w (.cells #[.string ⟨#[]⟩, .int .i64 0, .bool false, .string ⟨#[]⟩] 27)
  have hb0 : Below w.heap.size w (w.alloc (.cells #[.string ⟨#[]⟩, .int .i64 0, .bool false, .string ⟨#[]⟩] 27)) := (Below.refl _ _).alloc (Nat.le_refl _) _
  have HZ := Lib.hid hz
  clear hz
  go_wp2
  go_loopw [12] (fun i wx => ∃ k : Nat, k ≤ n ∧ i = .int .i64 (k : Int) ∧ Hid (wx.heap[w.heap.size]? = some (.cells #[.string ⟨#[]⟩, .int .i64 0, .bool false, .string ⟨#[]⟩] 27 (0, 0))) ∧ Below w.heap.size w wx ∧ Hid (∀ j (hj : j < l.length), j < k → (decide (l[j].key = key) && decide (l[j].seq ≤ sq)) = false)) (fun i _ => n - (intOf i).toNat)
  case atStart => exact ⟨0, Nat.zero_le _, rfl, HZ, hb0, Lib.hid fun j _ hj => absurd hj (Nat.not_lt_zero _)⟩
  case round =>
    clear hb0 HZ
    obtain ⟨k, hkn, rfl, hz, hb, hle⟩ := hrel
    have hzl := (Array.getElem?_eq_some_iff.1 hz.out).1
    have hbz := hb.size
    by_cases hlt : k < n
    · have hrx := HR.out.below hb
      obtain ⟨b, off, rfl, hB, hs, c0, c1, c2, c3⟩ := hrx.ent hlt
      obtain ⟨q, hq⟩ : ∃ q, l[k] = q := ⟨_, rfl⟩
      have HQ := Lib.hid hq
      rw [hq] at c0 c1 c2 c3
      obtain ⟨qk, qs, qd, qv⟩ := q
      change wr.cell? ⟨b, off + k * 4, none⟩ = some (.string qk) at c0
      change wr.cell? ⟨b, off + k * 4 + 1, none⟩ = some (.int .i64 qs) at c1
      change wr.cell? ⟨b, off + k * 4 + 2, none⟩ = some (.bool qd) at c2
      change wr.cell? ⟨b, off + k * 4 + 3, none⟩ = some (.string qv) at c3
      have i1 : (0 : Int) ≤ (k : Int) := by omega
      have i2 : (k : Int) < (n : Int) := by omega
      have hbX := hb.alloc hbz (.cells #[.string qk, .int .i64 qs, .bool qd, .string qv] 27)
      have hzX : Hid ((wr.alloc (.cells #[.string qk, .int .i64 qs, .bool qd, .string qv] 27)).heap[w.heap.size]? = some (.cells #[.string ⟨#[]⟩, .int .i64 0, .bool false, .string ⟨#[]⟩] 27 (0, 0))) := Lib.hid (by rw [heap_alloc_old _ _ hzl]; exact hz.out)
      clear hq hrx
      have next : (decide (qk = key) && decide (qs ≤ sq)) = false → Hid (∀ j (hj : j < l.length), j < k + 1 → (decide (l[j].key = key) && decide (l[j].seq ≤ sq)) = false) := fun h => Lib.hid fun j hj hjk => by
        by_cases e : j = k
        · subst e
          rw [HQ.out]
          exact h
        · exact hle.out j hj (by omega)
      by_cases e1 : qk = key
      · subst e1
        by_cases e2 : qs ≤ sq
        · have hfd : Hid (getE l qk sq = some ⟨qk, qs, qd, qv⟩) := Lib.hid (by
            unfold getE
            rw [find_take hs hle.out (by rw [HQ.out]; simp [e2]), HQ.out])
          have z0 : (wr.alloc (.cells #[.string qk, .int .i64 qs, .bool qd, .string qv] 27)).cell? ⟨w.heap.size, 0, none⟩ = some (.string ⟨#[]⟩) := by rw [cell_of_row _ _ 0 _ _ _ hzX.out]; rfl
          have f0 : (wr.alloc (.cells #[.string qk, .int .i64 qs, .bool qd, .string qv] 27)).frozen? ⟨w.heap.size, 0, none⟩ = false := frozen_of_row _ _ _ _ _ hzX.out
          have z1 : (wr.alloc (.cells #[.string qk, .int .i64 qs, .bool qd, .string qv] 27)).cell? ⟨w.heap.size, 1, none⟩ = some (.int .i64 0) := by rw [cell_of_row _ _ 1 _ _ _ hzX.out]; rfl
          have f1 : (wr.alloc (.cells #[.string qk, .int .i64 qs, .bool qd, .string qv] 27)).frozen? ⟨w.heap.size, 1, none⟩ = false := frozen_of_row _ _ _ _ _ hzX.out
          have z2 : (wr.alloc (.cells #[.string qk, .int .i64 qs, .bool qd, .string qv] 27)).cell? ⟨w.heap.size, 2, none⟩ = some (.bool false) := by rw [cell_of_row _ _ 2 _ _ _ hzX.out]; rfl
          have f2 : (wr.alloc (.cells #[.string qk, .int .i64 qs, .bool qd, .string qv] 27)).frozen? ⟨w.heap.size, 2, none⟩ = false := frozen_of_row _ _ _ _ _ hzX.out
          have z3 : (wr.alloc (.cells #[.string qk, .int .i64 qs, .bool qd, .string qv] 27)).cell? ⟨w.heap.size, 3, none⟩ = some (.string ⟨#[]⟩) := by rw [cell_of_row _ _ 3 _ _ _ hzX.out]; rfl
          have f3 : (wr.alloc (.cells #[.string qk, .int .i64 qs, .bool qd, .string qv] 27)).frozen? ⟨w.heap.size, 3, none⟩ = false := frozen_of_row _ _ _ _ _ hzX.out
          clear next hle hz hzl
          go_wp2
          have hF := row4 (wr.alloc (.cells #[.string qk, .int .i64 qs, .bool qd, .string qv] 27)) w.heap.size _ _ _ _ _ (.string qk) (.int .i64 qs) (.bool qd) (.string qv) hzX.out
          generalize (((((wr.alloc (.cells #[.string qk, .int .i64 qs, .bool qd, .string qv] 27)).setCell ⟨w.heap.size, 0, none⟩ (.string qk)).setCell ⟨w.heap.size, 1, none⟩ (.int .i64 qs)).setCell ⟨w.heap.size, 2, none⟩ (.bool qd)).setCell ⟨w.heap.size, 3, none⟩ (.string qv)) = wF at hF ⊢
          have r0 : wF.cell? ⟨w.heap.size, 0, none⟩ = some (.string qk) := by rw [cell_of_row wF _ 0 _ _ _ hF.1]; rfl
          have r1 : wF.cell? ⟨w.heap.size, 1, none⟩ = some (.int .i64 qs) := by rw [cell_of_row wF _ 1 _ _ _ hF.1]; rfl
          have r2 : wF.cell? ⟨w.heap.size, 2, none⟩ = some (.bool qd) := by rw [cell_of_row wF _ 2 _ _ _ hF.1]; rfl
          have r3 : wF.cell? ⟨w.heap.size, 3, none⟩ = some (.string qv) := by rw [cell_of_row wF _ 3 _ _ _ hF.1]; rfl
          have hbF : Below w.heap.size w wF := hbX.trans (hF.2.below (fun k hk e => by omega) hbX.size)
          exact bodyPost_ret (v := .tuple #[.agg #[(.string qk), (.int .i64 qs), (.bool qd), (.string qv)], .bool true]) (by simp [results, Try.results17, go_sem, r0, r1, r2, r3]) rfl ⟨by rw [hfd.out]; rfl, hbF⟩
        · have HN := next (by simp [e2])
          have e3 : decide (qs ≤ sq) = false := decide_eq_false e2
          clear next hle hz hzl e2
          go_wp2
          go_roundw
          case rel => exact ⟨k + 1, by omega, by go_num, hzX, hbX, HN⟩
          case measure => simp [intOf]; omega
      · have HN := next (by simp [e1])
        have e3 := str_ne e1
        clear next hle hz hzl e1
        go_wp2
        go_roundw
        case rel => exact ⟨k + 1, by omega, by go_num, hzX, hbX, HN⟩
        case measure => simp [intOf]; omega
    · have hfd : Hid (getE l key sq = none) := Lib.hid (find_none fun j hj => hle.out j hj (by have := HML.out; omega))
      have b1 : decide ((k : Int) < (n : Int)) = false := decide_eq_false (by omega)
      have z0 : wr.cell? ⟨w.heap.size, 0, none⟩ = some (.string ⟨#[]⟩) := by rw [cell_of_row _ _ 0 _ _ _ hz.out]; rfl
      have f0 : wr.frozen? ⟨w.heap.size, 0, none⟩ = false := frozen_of_row _ _ _ _ _ hz.out
      have z1 : wr.cell? ⟨w.heap.size, 1, none⟩ = some (.int .i64 0) := by rw [cell_of_row _ _ 1 _ _ _ hz.out]; rfl
      have f1 : wr.frozen? ⟨w.heap.size, 1, none⟩ = false := frozen_of_row _ _ _ _ _ hz.out
      have z2 : wr.cell? ⟨w.heap.size, 2, none⟩ = some (.bool false) := by rw [cell_of_row _ _ 2 _ _ _ hz.out]; rfl
      have f2 : wr.frozen? ⟨w.heap.size, 2, none⟩ = false := frozen_of_row _ _ _ _ _ hz.out
      have z3 : wr.cell? ⟨w.heap.size, 3, none⟩ = some (.string ⟨#[]⟩) := by rw [cell_of_row _ _ 3 _ _ _ hz.out]; rfl
      have f3 : wr.frozen? ⟨w.heap.size, 3, none⟩ = false := frozen_of_row _ _ _ _ _ hz.out
      clear hle hzl
      go_wp2
      have hF := row4 wr w.heap.size _ _ _ _ _ (.string ⟨#[]⟩) (.int .i64 0) (.bool false) (.string ⟨#[]⟩) hz.out
      generalize ((((wr.setCell ⟨w.heap.size, 0, none⟩ (.string ⟨#[]⟩)).setCell ⟨w.heap.size, 1, none⟩ (.int .i64 0)).setCell ⟨w.heap.size, 2, none⟩ (.bool false)).setCell ⟨w.heap.size, 3, none⟩ (.string ⟨#[]⟩)) = wF at hF ⊢
      have r0 : wF.cell? ⟨w.heap.size, 0, none⟩ = some (.string ⟨#[]⟩) := by rw [cell_of_row wF _ 0 _ _ _ hF.1]; rfl
      have r1 : wF.cell? ⟨w.heap.size, 1, none⟩ = some (.int .i64 0) := by rw [cell_of_row wF _ 1 _ _ _ hF.1]; rfl
      have r2 : wF.cell? ⟨w.heap.size, 2, none⟩ = some (.bool false) := by rw [cell_of_row wF _ 2 _ _ _ hF.1]; rfl
      have r3 : wF.cell? ⟨w.heap.size, 3, none⟩ = some (.string ⟨#[]⟩) := by rw [cell_of_row wF _ 3 _ _ _ hF.1]; rfl
      have hbF : Below w.heap.size w wF := hb.trans (hF.2.below (fun k hk e => by omega) hb.size)
      exact bodyPost_ret (v := .tuple #[.agg #[(.string ⟨#[]⟩), (.int .i64 0), (.bool false), (.string ⟨#[]⟩)], .bool false]) (by simp [results, Try.results17, go_sem, r0, r1, r2, r3]) rfl ⟨by rw [hfd.out]; rfl, hbF⟩
end Go.Proofs.Ythaobfdocnaneaa
