/- Blocks: the reference's Rising and Right, walked. -/
import Derived.Test.YtanieolnaiihmaaBkEnc
import Derived.OwnWalk
import Derived.Deep.RegionWith
namespace Go.Proofs.Ytanieolnaiihmaa
open Go.RowKit
theorem bel_drew {B : Nat} {w a b : World} (h : Below B w a) (hB : B ≤ a.heap.size) (h2 : Below a.drew.heap.size a.drew b) : Below B w b := by
  have h1 : Below B w a.drew := ⟨h.os, h.tape, h.output, h.size, h.block⟩
  exact h1.trans (h2.mono hB)
set_option maxHeartbeats 4000000 in
set_option maxRecDepth 20000 in
theorem rising_any (w : World) (A : Option Addr) (n c : Nat) (l : List Ent) (hr : Rd w w.heap.size 4 A n (entv l)) (hn : n ≤ 1099511627776) :
    Calls Try.prog 61 #[.slice A n c] w fun e w' => ∃ r, e = .returned (.bool r) ∧ (r = true ↔ risesTo l l.length) ∧ Below w.heap.size w w' := by
  have HNL := Lib.hid (rd_entlen hr)
  go_enter Try.func61, Try.ntmps61
  go_wp2
  go_loopw [3] (fun i wx => ∃ j : Nat, (j < n ∨ j = 0) ∧ i = .int .i64 ((j : Int) + 1) ∧ Below w.heap.size w wx ∧ Hid (risesTo l (j + 1))) (fun i _ => n + 1 - (intOf i).toNat)
  case atStart => exact ⟨0, .inr rfl, rfl, Below.refl _ _, Lib.hid fun j _ hj => absurd hj (by omega)⟩
  case round =>
    obtain ⟨j, hj, rfl, hb, hri⟩ := hrel
    by_cases hlt : j + 1 < n
    · have hrx := hr.below hb
      obtain ⟨b, off, rfl, hB, hs, c0, c1, c2, c3⟩ := hrx.ent (k := j) (by omega)
      obtain ⟨b', off', he, hB', hs', d0, d1, d2, d3⟩ := hrx.ent hlt
      injection he with he
      injection he with he1 he2
      subst he1; subst he2
      obtain ⟨q, hq⟩ : ∃ q, l[j] = q := ⟨_, rfl⟩
      obtain ⟨y, hy⟩ : ∃ y, l[j + 1] = y := ⟨_, rfl⟩
      have HQ := Lib.hid hq
      have HY := Lib.hid hy
      rw [hq] at c0 c1 c2 c3
      rw [hy] at d0 d1 d2 d3
      have i1 : (0 : Int) ≤ (j : Int) := by omega
      have i2 : (j : Int) < (n : Int) := by omega
      have i3 : (j : Int) + 1 < (n : Int) := by omega
      have i4 : IntKind.i64.wrap (j : Int) = (j : Int) := IntWalk.i64_in _ (by omega)
      have i6 : j < n := by omega
      have hbz := hb.size
      clear hq hy hrx hr
      obtain ⟨r, hls⟩ : ∃ r, lessK q.key q.seq y.key y.seq = r := ⟨_, rfl⟩
      cases r with
      | true =>
        have hri' : Hid (risesTo l (j + 1 + 1)) := Lib.hid fun i hi hij => by
          by_cases e : i = j
          · subst e
            have := HQ.out
            have := HY.out
            simp_all [lessE]
          · exact hri.out i hi (by omega)
        clear hri HQ HY
        go_wp2_with fail
        first
          | go_region_with (first
            | (go_at_call 88; refine (less_is _ _ _ _ _ _ _ _ _ true hls).mono ?_; rintro e w5 ⟨rfl, hb5⟩; have hb6 : Below w.heap.size w w5 := bel_drew hb hbz hb5))
          | fail
        all_goals go_wp2
        all_goals
          go_roundw
          case rel => exact ⟨j + 1, Or.inl hlt, by go_num, by assumption, hri'⟩
          case measure => simp [intOf]; omega
      | false =>
        have hno : Hid (¬ risesTo l l.length) := Lib.hid fun h => by
          have := h j hs' hs'
          rw [HQ.out, HY.out] at this
          unfold lessE at this
          rw [hls] at this
          cases this
        clear hri HQ HY
        go_wp2_with fail
        first
          | go_region_with (first
            | (go_at_call 88; refine (less_is _ _ _ _ _ _ _ _ _ false hls).mono ?_; rintro e w5 ⟨rfl, hb5⟩; have hb6 : Below w.heap.size w w5 := bel_drew hb hbz hb5))
          | fail
        all_goals go_wp2
        all_goals go_ret
        all_goals exact ⟨false, rfl, ⟨(fun h => by cases h), fun h => absurd h hno.out⟩, by assumption⟩
    · have hri' : Hid (risesTo l l.length) := Lib.hid fun i hi hij => hri.out i hi (by have := HNL.out; omega)
      have b1 : decide ((j : Int) + 1 < (n : Int)) = false := decide_eq_false (by omega)
      go_wp2
      go_ret
      exact ⟨true, rfl, ⟨fun _ => hri'.out, fun _ => rfl⟩, hb⟩
set_option maxHeartbeats 4000000 in
set_option maxRecDepth 20000 in
theorem right_any (w : World) (A : Option Addr) (n c : Nat) (l : List Ent) (hr : Rd w w.heap.size 4 A n (entv l)) (hn : n ≤ 1099511627776) :
    Calls Try.prog 23 #[.slice A n c] w fun e w' => ∃ r, e = .returned (.bool r) ∧ (r = true ↔ rightE l) ∧ Below w.heap.size w w' := by
  have HNL := Lib.hid (rd_entlen hr)
  go_enter Try.func23, Try.ntmps23
  go_wp2
  go_loopw [7] (fun i wx => ∃ k : Nat, k ≤ n ∧ i = .int .i64 k ∧ Below w.heap.size w wx ∧ Hid (livesTo l k)) (fun i _ => n - (intOf i).toNat)
  case atStart => exact ⟨0, Nat.zero_le _, rfl, Below.refl _ _, Lib.hid fun j _ hj => absurd hj (by omega)⟩
  case round =>
    obtain ⟨k, hk, rfl, hb, hli⟩ := hrel
    by_cases hlt : k < n
    · have hrx := hr.below hb
      obtain ⟨b, off, rfl, hB, hs, c0, c1, c2, c3⟩ := hrx.ent hlt
      obtain ⟨q, hq⟩ : ∃ q, l[k] = q := ⟨_, rfl⟩
      have HQ := Lib.hid hq
      rw [hq] at c0 c1 c2 c3
      have hbz := hb.size
      have hbX := hb.alloc hbz (.cells #[.string q.key, .int .i64 q.seq, .bool q.dead, .string q.val] 41)
      clear hq hrx hr
      by_cases hlv : q.dead = true ∧ ¬ q.val.size = 0
      · obtain ⟨hd, hv⟩ := hlv
        have hno : Hid (¬ rightE l) := Lib.hid fun h => by
          have := h.1 l[k] (List.getElem_mem hs)
          rw [HQ.out] at this
          have h2 := this hd
          have h3 : q.vl.length = q.val.size := by simp [Ent.vl]
          rw [h2] at h3
          exact hv h3.symm
        have v1 := isEmpty_of_size hv
        clear HQ hli hv
        rw [hd] at c2 hbX
        go_wp2
        go_ret
        exact ⟨false, rfl, ⟨(fun h => by cases h), fun h => absurd h hno.out⟩, hbX⟩
      · have hli' : Hid (livesTo l (k + 1)) := Lib.hid fun i hi hik => by
          by_cases e : i = k
          · subst e
            rw [HQ.out]
            intro hd
            have : q.val.size = 0 := Classical.byContradiction fun h => hlv ⟨hd, h⟩
            exact List.eq_nil_of_length_eq_zero (by simpa [Ent.vl] using this)
          · exact hli.out i hi (by omega)
        rcases Bool.eq_false_or_eq_true q.dead with hd | hd
        · have hv : q.val.size = 0 := Classical.byContradiction fun h => hlv ⟨hd, h⟩
          have v1 := empty_of_size hv
          clear HQ hli hlv hv
          rw [hd] at c2 hbX
          go_wp2
          go_roundw
          case rel => exact ⟨k + 1, by omega, by go_num, hbX, hli'⟩
          case measure => simp [intOf]; omega
        · clear HQ hli hlv
          rw [hd] at c2 hbX
          go_wp2
          go_roundw
          case rel => exact ⟨k + 1, by omega, by go_num, hbX, hli'⟩
          case measure => simp [intOf]; omega
    · have hkn : k = n := by omega
      have hli' : Hid (livesTo l l.length) := Lib.hid fun i hi _ => hli.out i hi (by have := HNL.out; omega)
      go_wp2_with fail
      refine (rising_any _ A n c l ((hr.below hb).mono hb.size) hn).mono ?_
      rintro e w' ⟨r, rfl, hri, hb'⟩
      go_wp2
      go_ret
      exact ⟨r, rfl, by rw [right_iff, hri]; exact ⟨fun h => ⟨hli'.out, h⟩, fun h => h.2⟩, hb.trans (hb'.mono hb.size)⟩
end Go.Proofs.Ytanieolnaiihmaa
