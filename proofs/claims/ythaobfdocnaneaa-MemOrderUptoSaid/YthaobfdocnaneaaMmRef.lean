/- Tables in memory: the reference's list, walked: Add. -/
import Derived.Test.YthaobfdocnaneaaMmAdd
import Derived.Deep.RegionWith
import Derived.OwnWalk
import Derived.Deep.Slices
namespace Go.Proofs.Ythaobfdocnaneaa
open Go.RowKit
theorem entv_take (l : List Ent) (k : Nat) : (entv l).take (k * 4) = entv (l.take k) := by
  induction l generalizing k with
  | nil => simp [entv]
  | cons x l ih =>
    cases k with
    | zero => simp [entv]
    | succ k =>
      rw [entv_cons, List.take_succ_cons, entv_cons, ← ih]
      have hl : x.cells.length = 4 := rfl
      rw [List.take_append, hl, show (k + 1) * 4 - 4 = k * 4 by omega, List.take_of_length_le (by omega)]
theorem entv_drop (l : List Ent) (k : Nat) : (entv l).drop (k * 4) = entv (l.drop k) := by
  induction l generalizing k with
  | nil => simp [entv]
  | cons x l ih =>
    cases k with
    | zero => simp [entv]
    | succ k =>
      rw [entv_cons, List.drop_succ_cons, ← ih]
      have hl : x.cells.length = 4 := rfl
      rw [List.drop_append, hl, show (k + 1) * 4 - 4 = k * 4 by omega, List.drop_eq_nil_of_le (by omega), List.nil_append]
theorem Rd.drop {w : World} {B size n : Nat} {ad : Addr} {xs : List Value} (h : Rd w B size (some ad) n xs) (k : Nat) (hk : k ≤ n) : Rd w B size (some (ad.add (k * size))) (n - k) (xs.drop (k * size)) :=
  ⟨by rw [List.length_drop, h.len, Nat.sub_mul], fun h0 => by
    obtain ⟨ad', e, hb, hc⟩ := h.at_ (by omega)
    injection e with e
    subst e
    refine ⟨_, rfl, by rw [block_add]; exact hb, fun j u hu => ?_⟩
    rw [Deep.add_add]
    exact hc _ u (by rw [List.getElem?_drop] at hu; exact hu)⟩
theorem cutE_le (l : List Ent) (x : Ent) : cutE l x ≤ l.length := List.Sublist.length_le (List.takeWhile_sublist _)
theorem cutE_is : ∀ (l : List Ent) (x : Ent) (k : Nat), k ≤ l.length → (∀ j (h : j < l.length), j < k → lessE l[j] x = true) → (∀ h : k < l.length, lessE l[k] x = false) → cutE l x = k
  | [], x, k, hk, _, _ => by simp at hk; subst hk; rfl
  | y :: l, x, 0, _, _, h2 => by
    have := h2 (by simp)
    unfold cutE
    rw [List.takeWhile_cons, if_neg]
    · rfl
    · rw [less_cmp] at this
      intro h
      rw [List.getElem_cons_zero] at this
      rw [this] at h
      cases h
  | y :: l, x, k + 1, hk, h1, h2 => by
    have h0 := h1 0 (by simp) (by omega)
    have ih := cutE_is l x k (by simpa using hk) (fun j hj hjk => by have := h1 (j + 1) (by simpa using hj) (by omega); simpa using this) (fun h => by have := h2 (by simpa using h); simpa using this)
    rw [less_cmp] at h0
    unfold cutE at ih ⊢
    rw [List.takeWhile_cons, if_pos (by simpa using h0), List.length_cons, ih]
theorem insE_len (l : List Ent) (x : Ent) : (insE l x).length ≤ l.length + 1 := by
  have := cutE_le l x
  unfold insE
  split
  · split
    · simp; omega
    · simp; omega
  · simp; omega
/-- What 'at' is behind the test for the same version. -/
noncomputable def skipE (l : List Ent) (x : Ent) : Nat := match l[cutE l x]? with
  | some y => if cmpE y x = 0 then cutE l x + 1 else cutE l x
  | none => cutE l x
theorem insE_skip (l : List Ent) (x : Ent) : insE l x = l.take (cutE l x) ++ clean x :: l.drop (skipE l x) := by
  unfold insE skipE
  split
  · rename_i y hy
    simp only [hy]
    split <;> rfl
  · rename_i hy
    simp only [hy]
theorem skipE_le (l : List Ent) (x : Ent) : skipE l x ≤ l.length := by
  have := cutE_le l x
  unfold skipE
  split
  · rename_i y hy
    have := (List.getElem?_eq_some_iff.1 hy).1
    split <;> omega
  · exact this
theorem same_key_iff (y x : Ent) : cmpE y x = 0 ↔ y.key = x.key ∧ y.seq = x.seq := ⟨cmpE_zero, fun h => cmpE_same h.1 h.2⟩
theorem str_eq (a b : ByteArray) : (a.toList == b.toList) = decide (a = b) := by
  by_cases h : a = b
  · subst h; simp
  · rw [decide_eq_false h]; exact str_ne h
theorem bel_drew' {w w' : World} (h : Below w.drew.heap.size w.drew w') : Below w.heap.size w w' := ⟨h.os, h.tape, h.output, h.size, h.block⟩
set_option maxHeartbeats 8000000 in
set_option maxRecDepth 20000 in
theorem radd_any (w : World) (A : Option Addr) (n c : Nat) (l : List Ent) (y : Ent) (hr : Rd w w.heap.size 4 A n (entv l)) (hn : n ≤ 1099511627776) (hnc : n ≤ c) :
    Calls Try.prog 15 #[.slice A n c, y.agg] w fun e w' => ∃ v, e = .returned v ∧ w'.ownsRow w.heap.size 27 4 v (insE l y).length (entv (insE l y)) ∧ Below w.heap.size w w' := by
  obtain ⟨i0, hi0, hz0, hz1, hz2⟩ := info_parts ent_info
  have HR := Lib.hid hr
  have HML := Lib.hid (rd_entlen hr)
  clear hr
  obtain ⟨K, S, D, V⟩ := y
  show Calls Try.prog 15 #[.slice A n c, .agg #[.string K, .int .i64 S, .bool D, .string V]] w _
  go_enter Try.func15, Try.ntmps15
  go_upto_if 8 with (fail)
  go_cut [3, 4] (fun xv ov wc => xv = .pointer (some ⟨w.heap.size, 0, none⟩) ∧ ov = .slice none 0 0 ∧ Hid (wc.heap[w.heap.size]? = some (.cells (clean ⟨K, S, D, V⟩).cells.toArray 27 (0, 0))) ∧ Below w.heap.size w wc)
  case first =>
    have n1 := heap_alloc_new w (.cells #[.string K, .int .i64 S, .bool D, .string V] 27)
    have u1 : Below w.heap.size w (w.alloc (.cells #[.string K, .int .i64 S, .bool D, .string V] 27)) := (Below.refl _ _).alloc (Nat.le_refl _) _
    cases D with
    | false =>
      have N1 := Lib.hid n1
      clear n1
      go_wp2
      go_meet
      case rel => exact ⟨rfl, rfl, Lib.hid N1.out, u1⟩
    | true =>
      have c3 := cell_of_row _ w.heap.size 3 _ _ _ n1
      have f3 := frozen_of_row _ w.heap.size 3 _ _ n1
      have N1 := Lib.hid n1
      clear n1
      go_wp2
      go_meet
      case rel => exact ⟨rfl, rfl, Lib.hid (heap_alloc_new w (.cells #[.string K, .int .i64 S, .bool true, .string ⟨#[]⟩] 27)), (Below.refl _ _).alloc (Nat.le_refl _) _⟩
  case rest =>
    obtain ⟨rfl, rfl, hx, hb⟩ := hcut
    obtain ⟨x, hxx⟩ : ∃ x, x = clean ⟨K, S, D, V⟩ := ⟨_, rfl⟩
    rw [← hxx] at hx
    have hkx : x.key = K := by rw [hxx, clean_key]
    have hsx : x.seq = S := by rw [hxx, clean_seq]
    have HXX := Lib.hid hxx
    clear hxx
    obtain ⟨xk, xs, xd, xv⟩ := x
    obtain rfl : xk = K := hkx
    obtain rfl : xs = S := hsx
    go_wp2
    go_loopw [5] (fun i wx => ∃ k : Nat, k ≤ n ∧ i = .int .i64 (k : Int) ∧ Hid (wx.heap[w.heap.size]? = some (.cells (Ent.cells ⟨xk, xs, xd, xv⟩).toArray 27 (0, 0))) ∧ Below w.heap.size w wx ∧ Hid (∀ j (h : j < l.length), j < k → lessE l[j] ⟨xk, xs, xd, xv⟩ = true)) (fun i _ => n - (intOf i).toNat)
    case atStart => exact ⟨0, Nat.zero_le _, rfl, hx, hb, Lib.hid fun j _ hj => absurd hj (Nat.not_lt_zero _)⟩
    case round =>
      clear hx hb
      obtain ⟨k, hkn, rfl, hx, hb, hle⟩ := hrel
      have hxl := (Array.getElem?_eq_some_iff.1 hx.out).1
      have x0 : wr.cell? ⟨w.heap.size, 0, none⟩ = some (.string xk) := by rw [cell_of_row _ _ 0 _ _ _ hx.out]; rfl
      have x1 : wr.cell? ⟨w.heap.size, 1, none⟩ = some (.int .i64 xs) := by rw [cell_of_row _ _ 1 _ _ _ hx.out]; rfl
      have x2 : wr.cell? ⟨w.heap.size, 2, none⟩ = some (.bool xd) := by rw [cell_of_row _ _ 2 _ _ _ hx.out]; rfl
      have x3 : wr.cell? ⟨w.heap.size, 3, none⟩ = some (.string xv) := by rw [cell_of_row _ _ 3 _ _ _ hx.out]; rfl
      go_upto_region 4 with (fail)
      go_cut [21] (fun rv wc => ∃ bb : Bool, rv = .bool bb ∧ Hid (bb = true ↔ ∃ h : k < l.length, lessE l[k] ⟨xk, xs, xd, xv⟩ = true) ∧ Hid (Below wr.heap.size wr wc))
      case first =>
        by_cases hlt : k < n
        · have hrx := HR.out.below hb
          obtain ⟨b, off, rfl, hB, hs, c0, c1, c2, c3⟩ := hrx.ent hlt
          obtain ⟨q, hq⟩ : ∃ q, l[k] = q := ⟨_, rfl⟩
          have HQ := Lib.hid hq
          rw [hq] at c0 c1 c2 c3
          have i1 : (0 : Int) ≤ (k : Int) := by omega
          have i2 : (k : Int) < (n : Int) := by omega
          clear hq hrx
          obtain ⟨r, hls⟩ : ∃ r, lessK q.key q.seq xk xs = r := ⟨_, rfl⟩
          have hiff : Hid (r = true ↔ ∃ h : k < l.length, lessE l[k] ⟨xk, xs, xd, xv⟩ = true) := Lib.hid ⟨fun h => ⟨hs, by rw [HQ.out]; show lessK _ _ _ _ = true; rw [hls]; exact h⟩, fun ⟨_, h⟩ => by rw [HQ.out] at h; change lessK _ _ _ _ = true at h; rw [hls] at h; exact h⟩
          have HLS := Lib.hid hls
          clear hle hls
          go_wp2_with fail
          first
            | go_region_with (first
              | (go_at_call 25; refine (less_is _ _ _ _ _ _ _ _ _ r HLS.out).mono ?_; rintro e w5 ⟨rfl, hb5⟩; have hb6 : Hid (Below wr.heap.size wr w5) := Lib.hid (bel_drew' hb5)))
            | fail
          all_goals go_wp2
          all_goals go_meet
          all_goals exact ⟨r, rfl, hiff, hb6⟩
        · have b1 : decide ((k : Int) < (n : Int)) = false := decide_eq_false (by omega)
          have hno : Hid (false = true ↔ ∃ h : k < l.length, lessE l[k] ⟨xk, xs, xd, xv⟩ = true) := Lib.hid ⟨(fun h => by cases h), fun ⟨h, _⟩ => by have := HML.out; omega⟩
          clear hle
          first
            | go_quiet (fail)
            | fail
          go_wp2
          go_meet
          case rel => exact ⟨false, rfl, hno, Lib.hid (below_drewNs (Below.refl _ _) _)⟩
      case rest =>
        obtain ⟨bb, rfl, hbb, hb6⟩ := hcut
        have hbz := hb.size
        have hx2 : Hid (wc.heap[w.heap.size]? = some (.cells (Ent.cells ⟨xk, xs, xd, xv⟩).toArray 27 (0, 0))) := Lib.hid ((hb6.out.block _ hxl).trans hx.out)
        have hb2 := hb.trans (hb6.out.mono hbz)
        cases bb with
        | true =>
          obtain ⟨hkl, hlk⟩ := hbb.out.1 rfl
          have hle2 : Hid (∀ j (h : j < l.length), j < k + 1 → lessE l[j] ⟨xk, xs, xd, xv⟩ = true) := Lib.hid fun j hj hjk => by
            by_cases e : j = k
            · subst e
              exact hlk
            · exact hle.out j hj (by omega)
          have hkn2 : k + 1 ≤ n := by have := HML.out; omega
          clear hlk hle
          go_wp2
          go_roundw
          case rel => exact ⟨k + 1, hkn2, by go_num, hx2, hb2, hle2⟩
          case measure => simp [intOf]; omega
        | false =>
          have hce : Hid (cutE l ⟨xk, xs, D, V⟩ = k) := Lib.hid (cutE_is _ _ _ (by have := HML.out; omega) (fun j hj hjk => hle.out j hj hjk) (fun h => by
            cases e : lessE l[k] ⟨xk, xs, D, V⟩ with
            | false => rfl
            | true => exact absurd (hbb.out.2 ⟨h, e⟩) (by decide)))
          clear hle hbb hx hb hb6 x0 x1 x2 x3
          have hrx := (HR.out.below hb2)
          have hrt : Hid (Rd wc w.heap.size 4 A k (entv (l.take k))) := Lib.hid (by rw [← entv_take]; exact hrx.take k hkn)
          have hkc : k ≤ c := by omega
          have hxl2 := (Array.getElem?_eq_some_iff.1 hx2.out).1
          have hbz2 := hb2.size
          clear hrx
          go_wp2_with (at_builtin; refine wpList_app rfl (.tmp 24) (.tmp 27) 23 rfl wc.heap.size 27 i0 _ 4 48 Try.underlying23 hi0 hz0 hz1 hz2 rfl (by omega) _ 0 [] w.heap.size A k c (entv (l.take k)) rfl (World.ownsRow_nil _ _ _ _) rfl (by exact hrt.out) (entv_cell _) ?c1 ?c2 ?c3 ?_)
          case c1 => omega
          case c2 => unfold maxLen; omega
          all_goals try (exact Nat.le_refl _)
          intro v2 w2 ho2 hu2 _
          have hb3 := hb2.trans (hu2.below (fun k hk e => by simp [Value.ownBlock] at e) hbz2)
          have hx3 : Hid (w2.heap[w.heap.size]? = some (.cells (Ent.cells ⟨xk, xs, xd, xv⟩).toArray 27 (0, 0))) := Lib.hid ((hu2.block _ hxl2 (by simp [Value.ownBlock])).trans hx2.out)
          have ho2' := own_mono ho2 hbz2
          have hnb : Hid (v2.ownBlock ≠ some w.heap.size) := Lib.hid fun e => by have := (ho2.lt _ e).1; omega
          have HO2 := Lib.hid ho2'
          have hbz3 := hb3.size
          have hxl3 := (Array.getElem?_eq_some_iff.1 hx3.out).1
          clear ho2 hu2 hb2 hx2 ho2' hrt
          have x0 : w2.cell? ⟨w.heap.size, 0, none⟩ = some (.string xk) := by rw [cell_of_row _ _ 0 _ _ _ hx3.out]; rfl
          have x1 : w2.cell? ⟨w.heap.size, 1, none⟩ = some (.int .i64 xs) := by rw [cell_of_row _ _ 1 _ _ _ hx3.out]; rfl
          have x2 : w2.cell? ⟨w.heap.size, 2, none⟩ = some (.bool xd) := by rw [cell_of_row _ _ 2 _ _ _ hx3.out]; rfl
          have x3 : w2.cell? ⟨w.heap.size, 3, none⟩ = some (.string xv) := by rw [cell_of_row _ _ 3 _ _ _ hx3.out]; rfl
          go_wp2_with (at_builtin; refine wpList_push rfl (.tmp 29) (.tmp 31) 23 rfl w.heap.size 27 i0 _ 4 48 Try.underlying23 hi0 hz0 hz1 hz2 rfl (by omega) _ k (entv (l.take k)) #[.string xk, .int .i64 xs, .bool xd, .string xv] rfl (by exact HO2.out) rfl rfl (by simp [Value.oneCell']) ?d1 ?d2 ?d3 ?_)
          case d1 => omega
          case d2 => unfold maxLen; omega
          all_goals try (exact hbz3)
          intro v3 w3 ho3 hu3 hra3
          have hb4 := below_row hb3 hbz3 HO2.out (Nat.le_refl _) hu3
          have hx4 : Hid (w3.heap[w.heap.size]? = some (.cells (Ent.cells ⟨xk, xs, xd, xv⟩).toArray 27 (0, 0))) := Lib.hid ((hu3.block _ (by omega) (fun e => hnb.out e)).trans hx3.out)
          have hsz3 := hu3.size
          have hnb3 : Hid (v3.ownBlock ≠ some w.heap.size) := Lib.hid fun e => hnb.out (hra3.old (by omega) e)
          have ho3' : Hid (w3.ownsRow w.heap.size 27 4 v3 (k + 1) (entv (l.take k ++ [⟨xk, xs, xd, xv⟩]))) := Lib.hid (by rw [entv_append, entv_one]; exact ho3)
          have y0 : w3.cell? ⟨w.heap.size, 0, none⟩ = some (.string xk) := by rw [cell_of_row _ _ 0 _ _ _ hx4.out]; rfl
          have y1 : w3.cell? ⟨w.heap.size, 1, none⟩ = some (.int .i64 xs) := by rw [cell_of_row _ _ 1 _ _ _ hx4.out]; rfl
          have hbz4 := hb4.size
          clear x0 x1 x2 x3 ho3 hu3 hra3 hx3 hb3 hx4 HO2 hnb
          go_upto_region 9 with (fail)
          go_cut [56] (fun rv wc => ∃ bb : Bool, rv = .bool bb ∧ Hid (bb = true ↔ ∃ h : k < l.length, cmpE l[k] ⟨xk, xs, D, V⟩ = 0) ∧ Hid (Below w3.heap.size w3 wc))
          case first =>
            by_cases hlt : k < n
            · have hrx := HR.out.below hb4
              obtain ⟨b, off, rfl, hB, hs, c0, c1, c2, c3⟩ := hrx.ent hlt
              obtain ⟨q, hq⟩ : ∃ q, l[k] = q := ⟨_, rfl⟩
              have HQ := Lib.hid hq
              rw [hq] at c0 c1 c2 c3
              obtain ⟨qk, qs, qd, qv⟩ := q
              change w3.cell? ⟨b, off + k * 4, none⟩ = some (.string qk) at c0
              change w3.cell? ⟨b, off + k * 4 + 1, none⟩ = some (.int .i64 qs) at c1
              have i1 : (0 : Int) ≤ (k : Int) := by omega
              have i2 : (k : Int) < (n : Int) := by omega
              clear hq hrx c2 c3
              by_cases e1 : qk = xk
              · subst e1
                by_cases e2 : qs = xs
                · subst e2
                  have hiff : Hid (true = true ↔ ∃ h : k < l.length, cmpE l[k] ⟨qk, qs, D, V⟩ = 0) := Lib.hid ⟨fun _ => ⟨hs, by rw [HQ.out]; exact cmpE_same rfl rfl⟩, fun _ => rfl⟩
                  first
                    | go_quiet (fail)
                    | fail
                  go_wp2
                  go_meet
                  case rel => exact ⟨true, rfl, Lib.hid (by simpa using hiff.out), Lib.hid (below_drewNs (Below.refl _ _) _)⟩
                · have e3 : (qs == xs) = false := beq_eq_false_iff_ne.2 e2
                  have hiff : Hid (false = true ↔ ∃ h : k < l.length, cmpE l[k] ⟨qk, xs, D, V⟩ = 0) := Lib.hid ⟨(fun h => by cases h), fun ⟨_, h⟩ => by rw [HQ.out] at h; exact absurd (cmpE_zero h).2 e2⟩
                  clear e2
                  first
                    | go_quiet (fail)
                    | fail
                  go_wp2
                  go_meet
                  case rel => exact ⟨false, rfl, hiff, Lib.hid (below_drewNs (Below.refl _ _) _)⟩
              · have e3 := str_ne e1
                have hiff : Hid (false = true ↔ ∃ h : k < l.length, cmpE l[k] ⟨xk, xs, D, V⟩ = 0) := Lib.hid ⟨(fun h => by cases h), fun ⟨_, h⟩ => by rw [HQ.out] at h; exact absurd (cmpE_zero h).1 e1⟩
                clear e1
                first
                  | go_quiet (fail)
                  | fail
                go_wp2
                go_meet
                case rel => exact ⟨false, rfl, hiff, Lib.hid (below_drewNs (Below.refl _ _) _)⟩
            · have b1 : decide ((k : Int) < (n : Int)) = false := decide_eq_false (by omega)
              have hno : Hid (false = true ↔ ∃ h : k < l.length, cmpE l[k] ⟨xk, xs, D, V⟩ = 0) := Lib.hid ⟨(fun h => by cases h), fun ⟨h, _⟩ => by have := HML.out; omega⟩
              first
                | go_quiet (fail)
                | fail
              go_wp2
              go_meet
              case rel => exact ⟨false, rfl, hno, Lib.hid (below_drewNs (Below.refl _ _) _)⟩
          case rest =>
            obtain ⟨bb, rfl, hbb, hb6⟩ := hcut
            clear y0 y1
            have hb5 : Below w.heap.size w wc := hb4.trans (hb6.out.mono hbz4)
            have ho4 : Hid (wc.ownsRow w.heap.size 27 4 v3 (k + 1) (entv (l.take k ++ [⟨xk, xs, xd, xv⟩]))) := Lib.hid (own_upd ho3'.out (Upd.of_below hb6.out (S := fun _ => False)) (fun _ _ h => h))
            clear hb4 hb6 ho3'
            have hsk : Hid (skipE l ⟨xk, xs, D, V⟩ = if bb = true then k + 1 else k) := Lib.hid (by
              unfold skipE
              rw [hce.out]
              cases bb with
              | true =>
                obtain ⟨h1, h2⟩ := hbb.out.1 rfl
                rw [List.getElem?_eq_getElem h1]
                simp only [if_pos h2, if_true]
              | false =>
                rw [if_neg (by decide)]
                split
                · rename_i y hy
                  obtain ⟨h1, h2⟩ := List.getElem?_eq_some_iff.1 hy
                  rw [if_neg]
                  intro h
                  rw [← h2] at h
                  exact absurd (hbb.out.2 ⟨h1, h⟩) (by decide)
                · rfl)
            go_upto_if 56 with (fail)
            go_cut [5] (fun iv wx => ∃ at' : Nat, iv = .int .i64 (at' : Int) ∧ Hid (at' = skipE l ⟨xk, xs, D, V⟩) ∧ Hid (Below wc.heap.size wc wx))
            case first =>
              cases bb with
              | true =>
                go_wp2
                go_meet
                case rel => exact ⟨k + 1, by go_num, Lib.hid hsk.out.symm, Lib.hid (Below.refl _ _)⟩
              | false =>
                go_wp2
                go_meet
                case rel => exact ⟨k, rfl, Lib.hid hsk.out.symm, Lib.hid (Below.refl _ _)⟩
            case rest =>
              obtain ⟨p, rfl, hat, hb6⟩ := hcut
              have hpn : p ≤ n := by rw [hat.out, HML.out]; exact skipE_le _ _
              have hb7 : Below w.heap.size w wc := hb5.trans (hb6.out.mono hb5.size)
              have ho5 : Hid (wc.ownsRow w.heap.size 27 4 v3 (k + 1) (entv (l.take k ++ [⟨xk, xs, xd, xv⟩]))) := Lib.hid (own_upd ho4.out (Upd.of_below hb6.out (S := fun _ => False)) (fun _ _ h => h))
              have hbz7 := hb7.size
              have hres : Hid (entv (l.take k ++ [⟨xk, xs, xd, xv⟩]) ++ entv (l.drop p) = entv (insE l ⟨xk, xs, D, V⟩) ∧ k + 1 + (n - p) = (insE l ⟨xk, xs, D, V⟩).length) := Lib.hid (by
                rw [insE_skip, hce.out, ← HXX.out, ← hat.out]
                refine ⟨by rw [← entv_append, List.append_assoc]; rfl, ?_⟩
                have := HML.out
                rw [List.length_append, List.length_cons, List.length_take, List.length_drop]
                omega)
              clear hb5 hb6 ho4 hat hsk hbb
              have fin : ∀ v' (W : World), W.ownsRow w.heap.size 27 4 v' (k + 1 + (n - p)) (entv (l.take k ++ [⟨xk, xs, xd, xv⟩]) ++ entv (l.drop p)) → W.ownsRow w.heap.size 27 4 v' (insE l ⟨xk, xs, D, V⟩).length (entv (insE l ⟨xk, xs, D, V⟩)) := fun v' W h => by
                rw [← hres.out.1, ← hres.out.2]
                exact h
              have FIN := Lib.hid fin
              have hrw := HR.out.below hb7
              clear fin hres
              by_cases hpc : p = c
              · subst hpc
                obtain rfl : n = p := by omega
                have hrd : ∀ A', Rd wc w.heap.size 4 A' 0 (entv (l.drop n)) := fun A' => by
                  rw [List.drop_eq_nil_of_le (by have := HML.out; omega)]
                  exact Rd.nil
                have HRD := Lib.hid hrd
                rw [Nat.sub_self] at FIN
                clear hrd hrw
                go_wp2_with (at_builtin; refine wpList_app rfl (.tmp 59) (.tmp 62) 23 rfl w.heap.size 27 i0 _ 4 48 Try.underlying23 hi0 hz0 hz1 hz2 rfl (by omega) _ (k + 1) (entv (l.take k ++ [⟨xk, xs, xd, xv⟩])) w.heap.size _ 0 _ (entv (l.drop n)) rfl (by exact ho5.out) rfl (by exact HRD.out _) (entv_cell _) ?e1 ?e2 ?e3 ?_)
                case e1 => omega
                case e2 => unfold maxLen; omega
                all_goals try (exact hbz7)
                intro v4 w4 ho6 hu4 _
                have hb8 := below_row hb7 hbz7 ho5.out (Nat.le_refl _) hu4
                have ho7 := FIN.out _ _ ho6
                clear ho6 hu4
                go_wp2
                go_ret
                exact ⟨v4, rfl, ho7, hb8⟩
              · cases A with
                | none =>
                  have hn0 : n = 0 := by
                    rcases Nat.eq_zero_or_pos n with h | h
                    · exact h
                    · obtain ⟨_, h1, _⟩ := hrw.at_ h
                      cases h1
                  have hp0 : n - p = 0 := by omega
                  have hrd : ∀ A', Rd wc w.heap.size 4 A' (n - p) (entv (l.drop p)) := fun A' => by
                    rw [List.drop_eq_nil_of_le (by have := HML.out; omega), hp0]
                    exact Rd.nil
                  have HRD := Lib.hid hrd
                  clear hrd hrw hn0 hp0
                  go_wp2_with (at_builtin; refine wpList_app rfl (.tmp 59) (.tmp 62) 23 rfl w.heap.size 27 i0 _ 4 48 Try.underlying23 hi0 hz0 hz1 hz2 rfl (by omega) _ (k + 1) (entv (l.take k ++ [⟨xk, xs, xd, xv⟩])) w.heap.size _ (n - p) _ (entv (l.drop p)) rfl (by exact ho5.out) rfl (by exact HRD.out _) (entv_cell _) ?g1 ?g2 ?g3 ?_)
                  case g1 => omega
                  case g2 => unfold maxLen; omega
                  all_goals try (exact hbz7)
                  intro v4 w4 ho6 hu4 _
                  have hb8 := below_row hb7 hbz7 ho5.out (Nat.le_refl _) hu4
                  have ho7 := FIN.out _ _ ho6
                  clear ho6 hu4
                  go_wp2
                  go_ret
                  exact ⟨v4, rfl, ho7, hb8⟩
                | some ad =>
                  have hrd := hrw.drop p hpn
                  rw [entv_drop] at hrd
                  have HRD := Lib.hid hrd
                  clear hrd hrw
                  go_wp2_with (at_builtin; refine wpList_app rfl (.tmp 59) (.tmp 62) 23 rfl w.heap.size 27 i0 _ 4 48 Try.underlying23 hi0 hz0 hz1 hz2 rfl (by omega) _ (k + 1) (entv (l.take k ++ [⟨xk, xs, xd, xv⟩])) w.heap.size _ (n - p) _ (entv (l.drop p)) rfl (by exact ho5.out) rfl (by exact HRD.out) (entv_cell _) ?h1 ?h2 ?h3 ?_)
                  case h1 => omega
                  case h2 => unfold maxLen; omega
                  all_goals try (exact hbz7)
                  intro v4 w4 ho6 hu4 _
                  have hb8 := below_row hb7 hbz7 ho5.out (Nat.le_refl _) hu4
                  have ho7 := FIN.out _ _ ho6
                  clear ho6 hu4
                  go_wp2
                  go_ret
                  exact ⟨v4, rfl, ho7, hb8⟩
end Go.Proofs.Ythaobfdocnaneaa
