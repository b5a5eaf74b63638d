/- Tables in memory: the reference's list, walked: From, Bytes, Rising. -/
import Derived.Test.YthaobfdocnaneaaMmRef2
namespace Go.Proofs.Ythaobfdocnaneaa
open Go.RowKit
theorem ret_sl {A : Option Addr} {n n' c : Nat} (h : n = n') : Ending.returned (.slice A n c) = .returned (.slice A n' c) := by rw [h]
/-- Where the reference's versions from a key on begin. -/
def fromE (l : List Ent) (key : ByteArray) : Nat := (l.takeWhile fun e => Op.bytesLess e.key.toList key.toList).length
theorem fromE_le (l : List Ent) (key : ByteArray) : fromE l key ≤ l.length := List.Sublist.length_le (List.takeWhile_sublist _)
theorem tw_is {α : Type} {p : α → Bool} : ∀ {l : List α} {k : Nat}, k ≤ l.length → (∀ j (h : j < l.length), j < k → p l[j] = true) → (∀ h : k < l.length, p l[k] = false) → (l.takeWhile p).length = k
  | [], k, hk, _, _ => by simp at hk; subst hk; rfl
  | y :: l, 0, _, _, h2 => by
    have := h2 (by simp)
    rw [List.getElem_cons_zero] at this
    rw [List.takeWhile_cons, if_neg (by rw [this]; decide)]
    rfl
  | y :: l, k + 1, hk, h1, h2 => by
    have h0 := h1 0 (by simp) (by omega)
    rw [List.getElem_cons_zero] at h0
    rw [List.takeWhile_cons, if_pos h0, List.length_cons, tw_is (k := k) (by simpa using hk) (fun j hj hjk => by have := h1 (j + 1) (by simpa using hj) (by omega); simpa using this) (fun h => by have := h2 (by simpa using h); simpa using this)]
set_option maxHeartbeats 4000000 in
set_option maxRecDepth 20000 in
theorem rfrom_any (w : World) (A : Option Addr) (n c : Nat) (l : List Ent) (key : ByteArray) (hr : Rd w w.heap.size 4 A n (entv l)) (hn : n ≤ 1099511627776) (hnc : n ≤ c) :
    Calls Try.prog 20 #[.slice A n c, .string key] w fun e w' => (∃ A' c', e = .returned (.slice A' (n - fromE l key) c') ∧ Rd w' w.heap.size 4 A' (n - fromE l key) (entv (l.drop (fromE l key)))) ∧ Below w.heap.size w w' := by
  have HR := Lib.hid hr
  have HML := Lib.hid (rd_entlen hr)
  clear hr
  go_enter Try.func20, Try.ntmps20
  go_wp2
  go_loopw [9] (fun i wx => ∃ k : Nat, k ≤ n ∧ i = .int .i64 (k : Int) ∧ Below w.heap.size w wx ∧ Hid (∀ j (hj : j < l.length), j < k → Op.bytesLess l[j].key.toList key.toList = true)) (fun i _ => n - (intOf i).toNat)
  case atStart => exact ⟨0, Nat.zero_le _, rfl, Below.refl _ _, Lib.hid fun j _ hj => absurd hj (Nat.not_lt_zero _)⟩
  case round =>
    obtain ⟨k, hkn, rfl, hb, hle⟩ := hrel
    have hbz := hb.size
    by_cases hlt : k < n
    · have hrx := HR.out.below hb
      obtain ⟨b, off, rfl, hB, hs, c0, c1, c2, c3⟩ := hrx.ent hlt
      obtain ⟨q, hq⟩ : ∃ q, l[k] = q := ⟨_, rfl⟩
      have HQ := Lib.hid hq
      rw [hq] at c0 c1 c2 c3
      obtain ⟨qk, qs, qd, qv⟩ := q
      change wr.cell? ⟨b, off + k * 4, none⟩ = some (.string qk) at c0
      change wr.cell? ⟨b, off + k * 4 + 1, none⟩ = some (.int .i64 qs) at c1
      change wr.cell? ⟨b, off + k * 4 + 2, none⟩ = some (.bool qd) at c2
      change wr.cell? ⟨b, off + k * 4 + 3, none⟩ = some (.string qv) at c3
      have i1 : (0 : Int) ≤ (k : Int) := by omega
      have i2 : (k : Int) < (n : Int) := by omega
      have hbX := hb.alloc hbz (.cells #[.string qk, .int .i64 qs, .bool qd, .string qv] 27)
      clear hq hrx
      cases hls : Op.bytesLess qk.toList key.toList with
      | true =>
        have HN : Hid (∀ j (hj : j < l.length), j < k + 1 → Op.bytesLess l[j].key.toList key.toList = true) := Lib.hid fun j hj hjk => by
          by_cases e : j = k
          · subst e
            rw [HQ.out]
            exact hls
          · exact hle.out j hj (by omega)
        clear hle
        go_wp2
        go_roundw
        case rel => exact ⟨k + 1, by omega, by go_num, hbX, HN⟩
        case measure => simp [intOf]; omega
      | false =>
        have hfr : Hid (fromE l key = k) := Lib.hid (tw_is (by have := HML.out; omega) (fun j hj hjk => hle.out j hj hjk) (fun h => by rw [HQ.out]; exact hls))
        have hkc : ¬ k = c := by omega
        have HRD := Lib.hid ((HR.out.below hbX).drop k hkn)
        rw [entv_drop, add_flat] at HRD
        have hkc2 : ¬ c = k := by omega
        clear hle
        go_wp2
        go_ret
        exact ⟨⟨_, _, ret_sl (by rw [hfr.out]), by rw [hfr.out]; exact HRD.out⟩, hbX⟩
    · obtain rfl : k = n := by omega
      have hfr : Hid (fromE l key = k) := Lib.hid (tw_is (by have := HML.out; omega) (fun j hj hjk => hle.out j hj hjk) (fun h => by have := HML.out; omega))
      clear hle
      go_wp2
      go_ret
      exact ⟨⟨none, 0, ret_sl (by rw [hfr.out, Nat.sub_self]), by rw [hfr.out, Nat.sub_self, List.drop_eq_nil_of_le (by have := HML.out; omega)]; exact Rd.nil⟩, hb⟩
set_option maxHeartbeats 4000000 in
set_option maxRecDepth 20000 in
theorem rbytes_any (w : World) (A : Option Addr) (n c : Nat) (l : List Ent) (hr : Rd w w.heap.size 4 A n (entv l)) (hn : n ≤ 1099511627776) (hz : sizE l ≤ 2305843009213693952) :
    Calls Try.prog 18 #[.slice A n c] w fun e w' => e = .returned (.int .i64 (sizE l : Int)) ∧ Below w.heap.size w w' := by
  have HR := Lib.hid hr
  have HML := Lib.hid (rd_entlen hr)
  clear hr
  go_enter Try.func18, Try.ntmps18
  go_wp2
  go_loopw [3, 8] (fun v i wx => ∃ k s : Nat, k ≤ n ∧ i = .int .i64 (k : Int) ∧ v = .int .i64 (s : Int) ∧ Hid (s = sizE (l.take k)) ∧ Below w.heap.size w wx) (fun _ i _ => n - (intOf i).toNat)
  case atStart => exact ⟨0, 0, Nat.zero_le _, rfl, rfl, Lib.hid rfl, Below.refl _ _⟩
  case round =>
    obtain ⟨k, s, hkn, rfl, rfl, hss, hb⟩ := hrel
    have hbz := hb.size
    by_cases hlt : k < n
    · have hrx := HR.out.below hb
      obtain ⟨b, off, rfl, hB, hs, c0, c1, c2, c3⟩ := hrx.ent hlt
      obtain ⟨q, hq⟩ : ∃ q, l[k] = q := ⟨_, rfl⟩
      have HQ := Lib.hid hq
      rw [hq] at c0 c1 c2 c3
      obtain ⟨qk, qs, qd, qv⟩ := q
      change wr.cell? ⟨b, off + k * 4, none⟩ = some (.string qk) at c0
      change wr.cell? ⟨b, off + k * 4 + 1, none⟩ = some (.int .i64 qs) at c1
      change wr.cell? ⟨b, off + k * 4 + 2, none⟩ = some (.bool qd) at c2
      change wr.cell? ⟨b, off + k * 4 + 3, none⟩ = some (.string qv) at c3
      have hst : sizE (l.take (k + 1)) = s + (qk.size + qv.size) := by
        rw [List.take_succ_eq_append_getElem hs, HQ.out, sizE_append, sizE_cons, hss.out]
        simp [sizE]
      have hle := sizE_take l (k + 1)
      rw [hst] at hle
      have i1 : (0 : Int) ≤ (k : Int) := by omega
      have i2 : (k : Int) < (n : Int) := by omega
      have b1 : (s : Int) + ((qk.size : Int) + qv.size) ≤ 2305843009213693952 := by omega
      have b2 : (qk.size : Int) + qv.size ≤ 2305843009213693952 := by omega
      have hbX := hb.alloc hbz (.cells #[.string qk, .int .i64 qs, .bool qd, .string qv] 27)
      have HST := Lib.hid hst
      clear hq hrx hst hle
      go_wp2
      go_roundw
      case rel => exact ⟨k + 1, s + (qk.size + qv.size), by omega, by go_num, by go_num, Lib.hid HST.out.symm, hbX⟩
      case measure => simp [intOf]; omega
    · obtain rfl : k = n := by omega
      have hs2 : Hid (s = sizE l) := Lib.hid (by rw [hss.out, List.take_of_length_le (by have := HML.out; omega)])
      clear hss
      go_wp2
      go_ret
      exact ⟨ret_int (by rw [hs2.out]), hb⟩
/-- Does the list rise, up to there? -/
def risesTo (l : List Ent) (k : Nat) : Prop := ∀ j (h : j + 1 < l.length), j + 1 < k → lessE l[j] l[j + 1] = true
theorem bel_drew {B : Nat} {w a b : World} (h : Below B w a) (hB : B ≤ a.heap.size) (h2 : Below a.drew.heap.size a.drew b) : Below B w b := by
  have h1 : Below B w a.drew := ⟨h.os, h.tape, h.output, h.size, h.block⟩
  exact h1.trans (h2.mono hB)
set_option maxHeartbeats 4000000 in
set_option maxRecDepth 20000 in
theorem rising_any (w : World) (A : Option Addr) (n c : Nat) (l : List Ent) (hr : Rd w w.heap.size 4 A n (entv l)) (hn : n ≤ 1099511627776) :
    Calls Try.prog 12 #[.slice A n c] w fun e w' => ∃ r, e = .returned (.bool r) ∧ (r = true ↔ risesTo l l.length) ∧ Below w.heap.size w w' := by
  have HNL := Lib.hid (rd_entlen hr)
  go_enter Try.func12, Try.ntmps12
  go_wp2
  go_loopw [3] (fun i wx => ∃ j : Nat, (j < n ∨ j = 0) ∧ i = .int .i64 ((j : Int) + 1) ∧ Below w.heap.size w wx ∧ Hid (risesTo l (j + 1))) (fun i _ => n + 1 - (intOf i).toNat)
  case atStart => exact ⟨0, .inr rfl, rfl, Below.refl _ _, Lib.hid fun j _ hj => absurd hj (by omega)⟩
  case round =>
    obtain ⟨j, hj, rfl, hb, hri⟩ := hrel
    by_cases hlt : j + 1 < n
    · have hrx := hr.below hb
      obtain ⟨b, off, rfl, hB, hs, c0, c1, c2, c3⟩ := hrx.ent (k := j) (by omega)
      obtain ⟨b', off', he, hB', hs', d0, d1, d2, d3⟩ := hrx.ent hlt
      injection he with he
      injection he with he1 he2
      subst he1; subst he2
      obtain ⟨q, hq⟩ : ∃ q, l[j] = q := ⟨_, rfl⟩
      obtain ⟨y, hy⟩ : ∃ y, l[j + 1] = y := ⟨_, rfl⟩
      have HQ := Lib.hid hq
      have HY := Lib.hid hy
      rw [hq] at c0 c1 c2 c3
      rw [hy] at d0 d1 d2 d3
      have i1 : (0 : Int) ≤ (j : Int) := by omega
      have i2 : (j : Int) < (n : Int) := by omega
      have i3 : (j : Int) + 1 < (n : Int) := by omega
      have i4 : IntKind.i64.wrap (j : Int) = (j : Int) := IntWalk.i64_in _ (by omega)
      have i6 : j < n := by omega
      have hbz := hb.size
      clear hq hy hrx hr
      obtain ⟨r, hls⟩ : ∃ r, lessK q.key q.seq y.key y.seq = r := ⟨_, rfl⟩
      cases r with
      | true =>
        have hri' : Hid (risesTo l (j + 1 + 1)) := Lib.hid fun i hi hij => by
          by_cases e : i = j
          · subst e
            have := HQ.out
            have := HY.out
            simp_all [lessE]
          · exact hri.out i hi (by omega)
        clear hri HQ HY
        go_wp2_with fail
        first
          | go_region_with (first
            | (go_at_call 25; refine (less_is _ _ _ _ _ _ _ _ _ true hls).mono ?_; rintro e w5 ⟨rfl, hb5⟩; have hb6 : Below w.heap.size w w5 := bel_drew hb hbz hb5))
          | fail
        all_goals go_wp2
        all_goals
          go_roundw
          case rel => exact ⟨j + 1, Or.inl hlt, by go_num, by assumption, hri'⟩
          case measure => simp [intOf]; omega
      | false =>
        have hno : Hid (¬ risesTo l l.length) := Lib.hid fun h => by
          have := h j hs' hs'
          rw [HQ.out, HY.out] at this
          unfold lessE at this
          rw [hls] at this
          cases this
        clear hri HQ HY
        go_wp2_with fail
        first
          | go_region_with (first
            | (go_at_call 25; refine (less_is _ _ _ _ _ _ _ _ _ false hls).mono ?_; rintro e w5 ⟨rfl, hb5⟩; have hb6 : Below w.heap.size w w5 := bel_drew hb hbz hb5))
          | fail
        all_goals go_wp2
        all_goals go_ret
        all_goals exact ⟨false, rfl, ⟨(fun h => by cases h), fun h => absurd h hno.out⟩, by assumption⟩
    · have hri' : Hid (risesTo l l.length) := Lib.hid fun i hi hij => hri.out i hi (by have := HNL.out; omega)
      have b1 : decide ((j : Int) + 1 < (n : Int)) = false := decide_eq_false (by omega)
      go_wp2
      go_ret
      exact ⟨true, rfl, ⟨fun _ => hri'.out, fun _ => rfl⟩, hb⟩
end Go.Proofs.Ythaobfdocnaneaa
