/- Tables: the reference's Get and From, walked (printed by wip/tools/gen_ref6.py). -/
import Derived.Test.YtanieolnaiihmaaJTbGet
import Derived.Deep.RegionWith
import Derived.OwnWalk
import Derived.Deep.Slices
namespace Go.Proofs.Ytanieolnaiihmaa
open Go.RowKit
def noEnt : Ent := ⟨⟨#[]⟩, 0, false, ⟨#[]⟩⟩
theorem entv_take (l : List Ent) (k : Nat) : (entv l).take (k * 4) = entv (l.take k) := by
  induction l generalizing k with
  | nil => simp [entv]
  | cons x l ih =>
    cases k with
    | zero => simp [entv]
    | succ k =>
      rw [entv_cons, List.take_succ_cons, entv_cons, ← ih]
      have hl : x.cells.length = 4 := rfl
      rw [List.take_append, hl, show (k + 1) * 4 - 4 = k * 4 by omega, List.take_of_length_le (by omega)]
theorem entv_drop (l : List Ent) (k : Nat) : (entv l).drop (k * 4) = entv (l.drop k) := by
  induction l generalizing k with
  | nil => simp [entv]
  | cons x l ih =>
    cases k with
    | zero => simp [entv]
    | succ k =>
      rw [entv_cons, List.drop_succ_cons, ← ih]
      have hl : x.cells.length = 4 := rfl
      rw [List.drop_append, hl, show (k + 1) * 4 - 4 = k * 4 by omega, List.drop_eq_nil_of_le (by omega), List.nil_append]
theorem Rd.drop {w : World} {B size n : Nat} {ad : Addr} {xs : List Value} (h : Rd w B size (some ad) n xs) (k : Nat) (hk : k ≤ n) : Rd w B size (some (ad.add (k * size))) (n - k) (xs.drop (k * size)) :=
  ⟨by rw [List.length_drop, h.len, Nat.sub_mul], fun h0 => by
    obtain ⟨ad', e, hb, hc⟩ := h.at_ (by omega)
    injection e with e
    subst e
    refine ⟨_, rfl, by rw [block_add]; exact hb, fun j u hu => ?_⟩
    rw [Deep.add_add]
    exact hc _ u (by rw [List.getElem?_drop] at hu; exact hu)⟩
theorem str_ne {a b : ByteArray} (h : ¬ a = b) : (a.toList == b.toList) = false := by
  rw [beq_eq_false_iff_ne]
  intro e
  rw [ByteArray.toList_eq, ByteArray.toList_eq] at e
  exact h (ByteArray.ext (Array.toList_inj.1 e))
/-- What the reference finds. -/
def getE (l : List Ent) (key : ByteArray) (sq : Int) : Option Ent := l.find? fun x => decide (x.key = key) && decide (x.seq ≤ sq)
theorem find_take {α : Type} {p : α → Bool} {l : List α} {k : Nat} (h : k < l.length) (h1 : ∀ j (hj : j < l.length), j < k → p l[j] = false) (h2 : p l[k] = true) : l.find? p = some l[k] := by
  induction l generalizing k with
  | nil => simp at h
  | cons a l ih =>
    cases k with
    | zero => rw [List.find?_cons]; simp at h2; simp [h2]
    | succ k =>
      have h0 := h1 0 (by simp) (by omega)
      simp at h0
      rw [List.find?_cons, h0]
      simp only [List.getElem_cons_succ] at h2 ⊢
      exact ih (by simpa using h) (fun j hj hjk => by have := h1 (j + 1) (by simpa using hj) (by omega); simpa using this) h2
theorem find_none {α : Type} {p : α → Bool} {l : List α} (h1 : ∀ j (hj : j < l.length), p l[j] = false) : l.find? p = none := by
  rw [List.find?_eq_none]
  intro x hx
  obtain ⟨j, hj, rfl⟩ := List.mem_iff_getElem.1 hx
  rw [h1 j hj]
  decide
set_option maxHeartbeats 4000000 in
set_option maxRecDepth 20000 in
theorem rget_any (w : World) (A : Option Addr) (n c : Nat) (l : List Ent) (key : ByteArray) (sq : Int) (hr : Rd w w.heap.size 4 A n (entv l)) (hn : n ≤ 1099511627776) :
    Calls Try.prog 28 #[.slice A n c, .string key, .int .i64 sq] w fun e w' => e = .returned (.tuple #[((getE l key sq).getD noEnt).agg, .bool (getE l key sq).isSome]) ∧ Below w.heap.size w w' := by
  have HR := Lib.hid hr
  have HML := Lib.hid (rd_entlen hr)
  clear hr
  go_enter Try.func28, Try.ntmps28
  have hz := heap_alloc_new w (.cells #[.string ⟨#[]⟩, .int .i64 0, .bool false, .string ⟨#[]⟩] 41)
  have hb0 : Below w.heap.size w (w.alloc (.cells #[.string ⟨#[]⟩, .int .i64 0, .bool false, .string ⟨#[]⟩] 41)) := (Below.refl _ _).alloc (Nat.le_refl _) _
  have HZ := Lib.hid hz
  clear hz
  go_wp2
  go_loopw [12] (fun i wx => ∃ k : Nat, k ≤ n ∧ i = .int .i64 (k : Int) ∧ Hid (wx.heap[w.heap.size]? = some (.cells #[.string ⟨#[]⟩, .int .i64 0, .bool false, .string ⟨#[]⟩] 41 (0, 0))) ∧ Below w.heap.size w wx ∧ Hid (∀ j (hj : j < l.length), j < k → (decide (l[j].key = key) && decide (l[j].seq ≤ sq)) = false)) (fun i _ => n - (intOf i).toNat)
  case atStart => exact ⟨0, Nat.zero_le _, rfl, HZ, hb0, Lib.hid fun j _ hj => absurd hj (Nat.not_lt_zero _)⟩
  case round =>
    clear hb0 HZ
    obtain ⟨k, hkn, rfl, hz, hb, hle⟩ := hrel
    have hzl := (Array.getElem?_eq_some_iff.1 hz.out).1
    have hbz := hb.size
    by_cases hlt : k < n
    · have hrx := HR.out.below hb
      obtain ⟨b, off, rfl, hB, hs, c0, c1, c2, c3⟩ := hrx.ent hlt
      obtain ⟨q, hq⟩ : ∃ q, l[k] = q := ⟨_, rfl⟩
      have HQ := Lib.hid hq
      rw [hq] at c0 c1 c2 c3
      obtain ⟨qk, qs, qd, qv⟩ := q
      change wr.cell? ⟨b, off + k * 4, none⟩ = some (.string qk) at c0
      change wr.cell? ⟨b, off + k * 4 + 1, none⟩ = some (.int .i64 qs) at c1
      change wr.cell? ⟨b, off + k * 4 + 2, none⟩ = some (.bool qd) at c2
      change wr.cell? ⟨b, off + k * 4 + 3, none⟩ = some (.string qv) at c3
      have i1 : (0 : Int) ≤ (k : Int) := by omega
      have i2 : (k : Int) < (n : Int) := by omega
      have hbX := hb.alloc hbz (.cells #[.string qk, .int .i64 qs, .bool qd, .string qv] 41)
      have hzX : Hid ((wr.alloc (.cells #[.string qk, .int .i64 qs, .bool qd, .string qv] 41)).heap[w.heap.size]? = some (.cells #[.string ⟨#[]⟩, .int .i64 0, .bool false, .string ⟨#[]⟩] 41 (0, 0))) := Lib.hid (by rw [heap_alloc_old _ _ hzl]; exact hz.out)
      clear hq hrx
      have next : (decide (qk = key) && decide (qs ≤ sq)) = false → Hid (∀ j (hj : j < l.length), j < k + 1 → (decide (l[j].key = key) && decide (l[j].seq ≤ sq)) = false) := fun h => Lib.hid fun j hj hjk => by
        by_cases e : j = k
        · subst e
          rw [HQ.out]
          exact h
        · exact hle.out j hj (by omega)
      by_cases e1 : qk = key
      · subst e1
        by_cases e2 : qs ≤ sq
        · have hfd : Hid (getE l qk sq = some ⟨qk, qs, qd, qv⟩) := Lib.hid (by
            unfold getE
            rw [find_take hs hle.out (by rw [HQ.out]; simp [e2]), HQ.out])
          have z0 : (wr.alloc (.cells #[.string qk, .int .i64 qs, .bool qd, .string qv] 41)).cell? ⟨w.heap.size, 0, none⟩ = some (.string ⟨#[]⟩) := by rw [cell_of_row _ _ 0 _ _ _ hzX.out]; rfl
          have f0 : (wr.alloc (.cells #[.string qk, .int .i64 qs, .bool qd, .string qv] 41)).frozen? ⟨w.heap.size, 0, none⟩ = false := frozen_of_row _ _ _ _ _ hzX.out
          have z1 : (wr.alloc (.cells #[.string qk, .int .i64 qs, .bool qd, .string qv] 41)).cell? ⟨w.heap.size, 1, none⟩ = some (.int .i64 0) := by rw [cell_of_row _ _ 1 _ _ _ hzX.out]; rfl
          have f1 : (wr.alloc (.cells #[.string qk, .int .i64 qs, .bool qd, .string qv] 41)).frozen? ⟨w.heap.size, 1, none⟩ = false := frozen_of_row _ _ _ _ _ hzX.out
          have z2 : (wr.alloc (.cells #[.string qk, .int .i64 qs, .bool qd, .string qv] 41)).cell? ⟨w.heap.size, 2, none⟩ = some (.bool false) := by rw [cell_of_row _ _ 2 _ _ _ hzX.out]; rfl
          have f2 : (wr.alloc (.cells #[.string qk, .int .i64 qs, .bool qd, .string qv] 41)).frozen? ⟨w.heap.size, 2, none⟩ = false := frozen_of_row _ _ _ _ _ hzX.out
          have z3 : (wr.alloc (.cells #[.string qk, .int .i64 qs, .bool qd, .string qv] 41)).cell? ⟨w.heap.size, 3, none⟩ = some (.string ⟨#[]⟩) := by rw [cell_of_row _ _ 3 _ _ _ hzX.out]; rfl
          have f3 : (wr.alloc (.cells #[.string qk, .int .i64 qs, .bool qd, .string qv] 41)).frozen? ⟨w.heap.size, 3, none⟩ = false := frozen_of_row _ _ _ _ _ hzX.out
          clear next hle hz hzl
          go_wp2
          have hF := row4 (wr.alloc (.cells #[.string qk, .int .i64 qs, .bool qd, .string qv] 41)) w.heap.size _ _ _ _ _ (.string qk) (.int .i64 qs) (.bool qd) (.string qv) hzX.out
          generalize (((((wr.alloc (.cells #[.string qk, .int .i64 qs, .bool qd, .string qv] 41)).setCell ⟨w.heap.size, 0, none⟩ (.string qk)).setCell ⟨w.heap.size, 1, none⟩ (.int .i64 qs)).setCell ⟨w.heap.size, 2, none⟩ (.bool qd)).setCell ⟨w.heap.size, 3, none⟩ (.string qv)) = wF at hF ⊢
          have r0 : wF.cell? ⟨w.heap.size, 0, none⟩ = some (.string qk) := by rw [cell_of_row wF _ 0 _ _ _ hF.1]; rfl
          have r1 : wF.cell? ⟨w.heap.size, 1, none⟩ = some (.int .i64 qs) := by rw [cell_of_row wF _ 1 _ _ _ hF.1]; rfl
          have r2 : wF.cell? ⟨w.heap.size, 2, none⟩ = some (.bool qd) := by rw [cell_of_row wF _ 2 _ _ _ hF.1]; rfl
          have r3 : wF.cell? ⟨w.heap.size, 3, none⟩ = some (.string qv) := by rw [cell_of_row wF _ 3 _ _ _ hF.1]; rfl
          have hbF : Below w.heap.size w wF := hbX.trans (hF.2.below (fun k hk e => by omega) hbX.size)
          exact bodyPost_ret (v := .tuple #[.agg #[(.string qk), (.int .i64 qs), (.bool qd), (.string qv)], .bool true]) (by simp [results, Try.results28, go_sem, r0, r1, r2, r3]) rfl ⟨by rw [hfd.out]; rfl, hbF⟩
        · have HN := next (by simp [e2])
          have e3 : decide (qs ≤ sq) = false := decide_eq_false e2
          clear next hle hz hzl e2
          go_wp2
          go_roundw
          case rel => exact ⟨k + 1, by omega, by go_num, hzX, hbX, HN⟩
          case measure => simp [intOf]; omega
      · have HN := next (by simp [e1])
        have e3 := str_ne e1
        clear next hle hz hzl e1
        go_wp2
        go_roundw
        case rel => exact ⟨k + 1, by omega, by go_num, hzX, hbX, HN⟩
        case measure => simp [intOf]; omega
    · have hfd : Hid (getE l key sq = none) := Lib.hid (find_none fun j hj => hle.out j hj (by have := HML.out; omega))
      have b1 : decide ((k : Int) < (n : Int)) = false := decide_eq_false (by omega)
      have z0 : wr.cell? ⟨w.heap.size, 0, none⟩ = some (.string ⟨#[]⟩) := by rw [cell_of_row _ _ 0 _ _ _ hz.out]; rfl
      have f0 : wr.frozen? ⟨w.heap.size, 0, none⟩ = false := frozen_of_row _ _ _ _ _ hz.out
      have z1 : wr.cell? ⟨w.heap.size, 1, none⟩ = some (.int .i64 0) := by rw [cell_of_row _ _ 1 _ _ _ hz.out]; rfl
      have f1 : wr.frozen? ⟨w.heap.size, 1, none⟩ = false := frozen_of_row _ _ _ _ _ hz.out
      have z2 : wr.cell? ⟨w.heap.size, 2, none⟩ = some (.bool false) := by rw [cell_of_row _ _ 2 _ _ _ hz.out]; rfl
      have f2 : wr.frozen? ⟨w.heap.size, 2, none⟩ = false := frozen_of_row _ _ _ _ _ hz.out
      have z3 : wr.cell? ⟨w.heap.size, 3, none⟩ = some (.string ⟨#[]⟩) := by rw [cell_of_row _ _ 3 _ _ _ hz.out]; rfl
      have f3 : wr.frozen? ⟨w.heap.size, 3, none⟩ = false := frozen_of_row _ _ _ _ _ hz.out
      clear hle hzl
      go_wp2
      have hF := row4 wr w.heap.size _ _ _ _ _ (.string ⟨#[]⟩) (.int .i64 0) (.bool false) (.string ⟨#[]⟩) hz.out
      generalize ((((wr.setCell ⟨w.heap.size, 0, none⟩ (.string ⟨#[]⟩)).setCell ⟨w.heap.size, 1, none⟩ (.int .i64 0)).setCell ⟨w.heap.size, 2, none⟩ (.bool false)).setCell ⟨w.heap.size, 3, none⟩ (.string ⟨#[]⟩)) = wF at hF ⊢
      have r0 : wF.cell? ⟨w.heap.size, 0, none⟩ = some (.string ⟨#[]⟩) := by rw [cell_of_row wF _ 0 _ _ _ hF.1]; rfl
      have r1 : wF.cell? ⟨w.heap.size, 1, none⟩ = some (.int .i64 0) := by rw [cell_of_row wF _ 1 _ _ _ hF.1]; rfl
      have r2 : wF.cell? ⟨w.heap.size, 2, none⟩ = some (.bool false) := by rw [cell_of_row wF _ 2 _ _ _ hF.1]; rfl
      have r3 : wF.cell? ⟨w.heap.size, 3, none⟩ = some (.string ⟨#[]⟩) := by rw [cell_of_row wF _ 3 _ _ _ hF.1]; rfl
      have hbF : Below w.heap.size w wF := hb.trans (hF.2.below (fun k hk e => by omega) hb.size)
      exact bodyPost_ret (v := .tuple #[.agg #[(.string ⟨#[]⟩), (.int .i64 0), (.bool false), (.string ⟨#[]⟩)], .bool false]) (by simp [results, Try.results28, go_sem, r0, r1, r2, r3]) rfl ⟨by rw [hfd.out]; rfl, hbF⟩
theorem ret_sl {A : Option Addr} {n n' c : Nat} (h : n = n') : Ending.returned (.slice A n c) = .returned (.slice A n' c) := by rw [h]
/-- Where the reference's versions from a key on begin. -/
def fromE (l : List Ent) (key : ByteArray) : Nat := (l.takeWhile fun e => Op.bytesLess e.key.toList key.toList).length
theorem fromE_le (l : List Ent) (key : ByteArray) : fromE l key ≤ l.length := List.Sublist.length_le (List.takeWhile_sublist _)
theorem tw_is {α : Type} {p : α → Bool} : ∀ {l : List α} {k : Nat}, k ≤ l.length → (∀ j (h : j < l.length), j < k → p l[j] = true) → (∀ h : k < l.length, p l[k] = false) → (l.takeWhile p).length = k
  | [], k, hk, _, _ => by simp at hk; subst hk; rfl
  | y :: l, 0, _, _, h2 => by
    have := h2 (by simp)
    rw [List.getElem_cons_zero] at this
    rw [List.takeWhile_cons, if_neg (by rw [this]; decide)]
    rfl
  | y :: l, k + 1, hk, h1, h2 => by
    have h0 := h1 0 (by simp) (by omega)
    rw [List.getElem_cons_zero] at h0
    rw [List.takeWhile_cons, if_pos h0, List.length_cons, tw_is (k := k) (by simpa using hk) (fun j hj hjk => by have := h1 (j + 1) (by simpa using hj) (by omega); simpa using this) (fun h => by have := h2 (by simpa using h); simpa using this)]
set_option maxHeartbeats 4000000 in
set_option maxRecDepth 20000 in
theorem rfrom_any (w : World) (A : Option Addr) (n c : Nat) (l : List Ent) (key : ByteArray) (hr : Rd w w.heap.size 4 A n (entv l)) (hn : n ≤ 1099511627776) (hnc : n ≤ c) :
    Calls Try.prog 34 #[.slice A n c, .string key] w fun e w' => (∃ A' c', e = .returned (.slice A' (n - fromE l key) c') ∧ Rd w' w.heap.size 4 A' (n - fromE l key) (entv (l.drop (fromE l key)))) ∧ Below w.heap.size w w' := by
  have HR := Lib.hid hr
  have HML := Lib.hid (rd_entlen hr)
  clear hr
  go_enter Try.func34, Try.ntmps34
  go_wp2
  go_loopw [9] (fun i wx => ∃ k : Nat, k ≤ n ∧ i = .int .i64 (k : Int) ∧ Below w.heap.size w wx ∧ Hid (∀ j (hj : j < l.length), j < k → Op.bytesLess l[j].key.toList key.toList = true)) (fun i _ => n - (intOf i).toNat)
  case atStart => exact ⟨0, Nat.zero_le _, rfl, Below.refl _ _, Lib.hid fun j _ hj => absurd hj (Nat.not_lt_zero _)⟩
  case round =>
    obtain ⟨k, hkn, rfl, hb, hle⟩ := hrel
    have hbz := hb.size
    by_cases hlt : k < n
    · have hrx := HR.out.below hb
      obtain ⟨b, off, rfl, hB, hs, c0, c1, c2, c3⟩ := hrx.ent hlt
      obtain ⟨q, hq⟩ : ∃ q, l[k] = q := ⟨_, rfl⟩
      have HQ := Lib.hid hq
      rw [hq] at c0 c1 c2 c3
      obtain ⟨qk, qs, qd, qv⟩ := q
      change wr.cell? ⟨b, off + k * 4, none⟩ = some (.string qk) at c0
      change wr.cell? ⟨b, off + k * 4 + 1, none⟩ = some (.int .i64 qs) at c1
      change wr.cell? ⟨b, off + k * 4 + 2, none⟩ = some (.bool qd) at c2
      change wr.cell? ⟨b, off + k * 4 + 3, none⟩ = some (.string qv) at c3
      have i1 : (0 : Int) ≤ (k : Int) := by omega
      have i2 : (k : Int) < (n : Int) := by omega
      have hbX := hb.alloc hbz (.cells #[.string qk, .int .i64 qs, .bool qd, .string qv] 41)
      clear hq hrx
      cases hls : Op.bytesLess qk.toList key.toList with
      | true =>
        have HN : Hid (∀ j (hj : j < l.length), j < k + 1 → Op.bytesLess l[j].key.toList key.toList = true) := Lib.hid fun j hj hjk => by
          by_cases e : j = k
          · subst e
            rw [HQ.out]
            exact hls
          · exact hle.out j hj (by omega)
        clear hle
        go_wp2
        go_roundw
        case rel => exact ⟨k + 1, by omega, by go_num, hbX, HN⟩
        case measure => simp [intOf]; omega
      | false =>
        have hfr : Hid (fromE l key = k) := Lib.hid (tw_is (by have := HML.out; omega) (fun j hj hjk => hle.out j hj hjk) (fun h => by rw [HQ.out]; exact hls))
        have hkc : ¬ k = c := by omega
        have HRD := Lib.hid ((HR.out.below hbX).drop k hkn)
        rw [entv_drop, add_flat] at HRD
        have hkc2 : ¬ c = k := by omega
        clear hle
        go_wp2
        go_ret
        exact ⟨⟨_, _, ret_sl (by rw [hfr.out]), by rw [hfr.out]; exact HRD.out⟩, hbX⟩
    · obtain rfl : k = n := by omega
      have hfr : Hid (fromE l key = k) := Lib.hid (tw_is (by have := HML.out; omega) (fun j hj hjk => hle.out j hj hjk) (fun h => by have := HML.out; omega))
      clear hle
      go_wp2
      go_ret
      exact ⟨⟨none, 0, ret_sl (by rw [hfr.out, Nat.sub_self]), by rw [hfr.out, Nat.sub_self, List.drop_eq_nil_of_le (by have := HML.out; omega)]; exact Rd.nil⟩, hb⟩
end Go.Proofs.Ytanieolnaiihmaa
/- Tables: the order of versions; place answers alike from one place on. Plain. -/
namespace Go.Proofs.Ytanieolnaiihmaa
open Go.RowKit
theorem bl_trans : ∀ a b c : List UInt8, Op.bytesLess a b = true → Op.bytesLess b c = true → Op.bytesLess a c = true
  | _, [], _, h, _ => by cases ‹List UInt8› <;> simp [Op.bytesLess] at h
  | _, _ :: _, [], _, h => by simp [Op.bytesLess] at h
  | [], _ :: _, _ :: _, _, _ => rfl
  | x :: a, y :: b, z :: c, h1, h2 => by
    simp only [Op.bytesLess, Bool.or_eq_true, decide_eq_true_eq, Bool.and_eq_true, beq_iff_eq] at h1 h2 ⊢
    rcases h1 with h1 | ⟨rfl, h1⟩
    · rcases h2 with h2 | ⟨rfl, _⟩
      · exact .inl (UInt8.lt_trans h1 h2)
      · exact .inl h1
    · rcases h2 with h2 | ⟨rfl, h2⟩
      · exact .inl h2
      · exact .inr ⟨rfl, bl_trans a b c h1 h2⟩
theorem bl_total : ∀ a b : List UInt8, Op.bytesLess a b = false → a ≠ b → Op.bytesLess b a = true
  | [], [], _, h => absurd rfl h
  | [], _ :: _, h, _ => by simp [Op.bytesLess] at h
  | _ :: _, [], _, _ => rfl
  | x :: a, y :: b, h, hne => by
    simp only [Op.bytesLess, Bool.or_eq_false_iff, decide_eq_false_iff_not, Bool.and_eq_false_iff, beq_eq_false_iff_ne] at h
    simp only [Op.bytesLess, Bool.or_eq_true, decide_eq_true_eq, Bool.and_eq_true, beq_iff_eq]
    by_cases hxy : x = y
    · subst hxy
      refine .inr ⟨rfl, bl_total a b ?_ fun e => hne (by rw [e])⟩
      rcases h.2 with h2 | h2
      · exact absurd rfl h2
      · exact h2
    · left
      have h1 := h.1
      rw [UInt8.lt_iff_toNat_lt] at h1 ⊢
      have : x.toNat ≠ y.toNat := fun e => hxy (UInt8.toNat_inj.1 e)
      omega
theorem lessK_is {K K' : ByteArray} {S S' : Int} : lessK K S K' S' = true ↔ Op.bytesLess K.toList K'.toList = true ∨ (K.toList = K'.toList ∧ S' < S) := by
  unfold lessK
  simp [Bool.or_eq_true, Bool.and_eq_true]
theorem lessK_trans {K K' K2 : ByteArray} {S S' S2 : Int} (h1 : lessK K S K' S' = true) (h2 : lessK K' S' K2 S2 = true) : lessK K S K2 S2 = true := by
  rw [lessK_is] at *
  rcases h1 with h1 | ⟨e1, h1⟩
  · rcases h2 with h2 | ⟨e2, _⟩
    · exact .inl (bl_trans _ _ _ h1 h2)
    · exact .inl (e2 ▸ h1)
  · rcases h2 with h2 | ⟨e2, h2⟩
    · exact .inl (e1 ▸ h2)
    · exact .inr ⟨e1.trans e2, by omega⟩
theorem rises_head : ∀ (l : List Ent) (x : Ent), risesE (some x) l → ∀ y ∈ l, lessE x y = true := by
  intro l
  induction l with
  | nil => intro x _ y h; cases h
  | cons z l ih =>
    intro x h y hy
    have h1 := h.1 x rfl
    rcases List.mem_cons.1 hy with rfl | hy
    · exact h1
    · exact lessK_trans h1 (ih z h.2 y hy)
theorem rises_lt : ∀ (l : List Ent) (p : Option Ent), risesE p l → ∀ (i j : Nat) (hj : j < l.length) (hij : i < j), lessE (l[i]'(by omega)) (l[j]'hj) = true := by
  intro l
  induction l with
  | nil => intro p _ i j hj; exact absurd hj (Nat.not_lt_zero _)
  | cons x l ih =>
    intro p h i j hj hij
    obtain ⟨j, rfl⟩ : ∃ j', j = j' + 1 := ⟨j - 1, by omega⟩
    have hj' : j < l.length := by simpa using hj
    cases i with
    | zero =>
      rw [List.getElem_cons_zero, List.getElem_cons_succ]
      exact rises_head l x h.2 _ (List.getElem_mem hj')
    | succ i =>
      rw [List.getElem_cons_succ, List.getElem_cons_succ]
      exact ih (some x) h.2 i j hj' (by omega)
theorem hit_mono {l : List Ent} (hr : rightE l) (key : ByteArray) (sq : Int) : ∀ a b, a ≤ b → b < l.length → hitE l key sq a = true → hitE l key sq b = true := by
  intro a b hab hb h
  by_cases e : a = b
  · rw [← e]; exact h
  · have hlt := rises_lt l none hr.2 a b hb (by omega)
    unfold hitE at h ⊢
    rw [List.getElem?_eq_getElem (show a < l.length by omega)] at h
    rw [List.getElem?_eq_getElem hb]
    simp only [Option.map_some, Option.getD_some, Bool.not_eq_true'] at h ⊢
    cases hc : lessK (l[b]'hb).key (l[b]'hb).seq key sq with
    | false => rfl
    | true => rw [lessK_trans hlt hc] at h; cases h
end Go.Proofs.Ytanieolnaiihmaa
/- Tables: what Get answers is what the reference finds. Plain. (not built yet) -/
namespace Go.Proofs.Ytanieolnaiihmaa
open Go.RowKit
theorem toList_inj {a b : ByteArray} (h : a.toList = b.toList) : a = b := by
  rw [ByteArray.toList_eq, ByteArray.toList_eq] at h
  exact ByteArray.ext (Array.toList_inj.1 h)
theorem hit_at {l : List Ent} {key : ByteArray} {sq : Int} {j : Nat} (hj : j < l.length) : hitE l key sq j = !lessK (l[j]'hj).key (l[j]'hj).seq key sq := by
  unfold hitE
  rw [List.getElem?_eq_getElem hj]; rfl
theorem less_no {x : Ent} {key : ByteArray} {sq : Int} (h : lessK x.key x.seq key sq = true) : (decide (x.key = key) && decide (x.seq ≤ sq)) = false := by
  rw [lessK_is] at h
  by_cases e : x.key = key
  · rw [e, less_irr] at h
    rcases h with h | ⟨_, h⟩
    · cases h
    · rw [decide_eq_false (show ¬ x.seq ≤ sq by omega), Bool.and_false]
  · rw [decide_eq_false e, Bool.false_and]
theorem getT_is {l : List Ent} (hr : rightE l) {key : ByteArray} {sq : Int} {r : Nat} (h1 : r ≤ l.length) (h2 : ∀ j, j < r → hitE l key sq j = false) (h3 : r < l.length → hitE l key sq r = true) : getT l key r = getE l key sq := by
  have hlow : ∀ j (hj : j < l.length), j < r → (decide (l[j].key = key) && decide (l[j].seq ≤ sq)) = false := fun j hj hjr => by
    have := h2 j hjr
    rw [hit_at hj] at this
    exact less_no (by simpa using this)
  by_cases hrn : r = l.length
  · have hn : getE l key sq = none := find_none fun j hj => hlow j hj (by omega)
    rw [hn]
    unfold getT
    rw [hrn, List.getElem?_eq_none (Nat.le_refl _)]
    split <;> rfl
  · have hlt : r < l.length := by omega
    have hh := h3 hlt
    rw [hit_at hlt] at hh
    have hnl : lessK (l[r]'hlt).key (l[r]'hlt).seq key sq = false := by simpa using hh
    by_cases hk : (l[r]'hlt).key = key
    · have hs : (l[r]'hlt).seq ≤ sq := by
        cases Int.lt_or_le sq (l[r]'hlt).seq with
        | inl h => rw [lessK_is.2 (.inr ⟨by rw [hk], h⟩)] at hnl; cases hnl
        | inr h => exact h
      have hf : getE l key sq = some (l[r]'hlt) := find_take hlt hlow (by rw [decide_eq_true hk, decide_eq_true hs]; rfl)
      have hm : may (bld (namesE l)) key.data.toList = true := by
        rw [← hk]
        exact may_bld _ _ (mem_names (List.getElem_mem hlt))
      rw [hf]
      unfold getT
      rw [if_pos hm, List.getElem?_eq_getElem hlt]
      simp [Option.filter, hk]
    · have hn : getE l key sq = none := find_none fun j hj => by
        by_cases hjr : j < r
        · exact hlow j hj hjr
        · by_cases e : l[j].key = key
          · exfalso
            have hjne : j ≠ r := fun e2 => by subst e2; exact hk e
            have hll := rises_lt l none hr.2 r j hj (by omega)
            unfold lessE at hll
            rw [e, lessK_is] at hll
            rcases hll with h | ⟨h, _⟩
            · rw [lessK_is.2 (.inl h)] at hnl; cases hnl
            · exact hk (toList_inj h)
          · rw [decide_eq_false e, Bool.false_and]
      rw [hn]
      unfold getT
      rw [List.getElem?_eq_getElem hlt]
      split
      · simp [Option.filter, hk]
      · rfl
/-- A key that the table has may be there. -/
theorem may_getE {l : List Ent} {key : ByteArray} {sq : Int} (h : (getE l key sq).isSome = true) : may (bld (namesE l)) key.data.toList = true := by
  unfold getE at h
  obtain ⟨x, hx⟩ := Option.isSome_iff_exists.1 h
  have h1 := List.find?_some hx
  simp only [Bool.and_eq_true, decide_eq_true_eq] at h1
  rw [← h1.1]
  exact may_bld _ _ (mem_names (List.mem_of_find?_eq_some hx))
/-- place at the greatest number: where the reference's versions from a key on begin. -/
theorem place_from {l : List Ent} (hb : ∀ x ∈ l, x.seq ≤ 9223372036854775807) {key : ByteArray} {r : Nat} (h1 : r ≤ l.length) (h2 : ∀ j, j < r → hitE l key 9223372036854775807 j = false) (h3 : r < l.length → hitE l key 9223372036854775807 r = true) : fromE l key = r := by
  unfold fromE
  have hl : ∀ j (hj : j < l.length), lessK l[j].key l[j].seq key 9223372036854775807 = Op.bytesLess l[j].key.toList key.toList := fun j hj => by
    unfold lessK
    have := hb _ (List.getElem_mem hj)
    rw [decide_eq_false (show ¬ 9223372036854775807 < l[j].seq by omega), Bool.and_false, Bool.or_false]
  refine tw_is h1 (fun j hj hjr => ?_) fun hlt => ?_
  · have := h2 j hjr
    rw [hit_at hj, hl j hj] at this
    simpa using this
  · have := h3 hlt
    rw [hit_at hlt, hl r hlt] at this
    simpa using this
end Go.Proofs.Ytanieolnaiihmaa
