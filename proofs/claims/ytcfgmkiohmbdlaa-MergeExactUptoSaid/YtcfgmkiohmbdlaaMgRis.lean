/- Merging versions: the reference's Rising, walked. -/
import Derived.Test.YtcfgmkiohmbdlaaMgLives
import Derived.OwnWalk
import Derived.Deep.RegionWith
import Derived.Deep.CutBlock
import Derived.Deep.DeepCutAuto
namespace Go.Proofs.Ytcfgmkiohmbdlaa
open Go.RowKit
def risesTo (l : List Ent) (k : Nat) : Prop := ∀ j (h : j + 1 < l.length), j + 1 < k → lessE l[j] l[j + 1] = true
theorem bel_drew {B : Nat} {w a b : World} (h : Below B w a) (hB : B ≤ a.heap.size) (h2 : Below a.drew.heap.size a.drew b) : Below B w b := by
  have h1 : Below B w a.drew := ⟨h.os, h.tape, h.output, h.size, h.block⟩
  exact h1.trans (h2.mono hB)
set_option maxHeartbeats 4000000 in
set_option maxRecDepth 20000 in
theorem rising_any (w : World) (A : Option Addr) (n c : Nat) (l : List Ent) (hr : Rd w w.heap.size 4 A n (entv l)) (hn : n ≤ 1099511627776) :
    Calls Try.prog 19 #[.slice A n c] w fun e w' => ∃ r, e = .returned (.bool r) ∧ (r = true ↔ risesTo l l.length) ∧ Below w.heap.size w w' := by
  have HNL := Lib.hid (rd_entlen hr)
  go_enter Try.func19, Try.ntmps19
  go_wp2
  go_loopw [3] (fun i wx => ∃ j : Nat, (j < n ∨ j = 0) ∧ i = .int .i64 ((j : Int) + 1) ∧ Below w.heap.size w wx ∧ Hid (risesTo l (j + 1))) (fun i _ => n + 1 - (intOf i).toNat)
  case atStart => exact ⟨0, .inr rfl, rfl, Below.refl _ _, Lib.hid fun j _ hj => absurd hj (by omega)⟩
  case round =>
    obtain ⟨j, hj, rfl, hb, hri⟩ := hrel
    by_cases hlt : j + 1 < n
    · have hrx := hr.below hb
      obtain ⟨b, off, rfl, hB, hs, c0, c1, c2, c3⟩ := hrx.ent (k := j) (by omega)
      obtain ⟨b', off', he, hB', hs', d0, d1, d2, d3⟩ := hrx.ent hlt
      injection he with he
      injection he with he1 he2
      subst he1; subst he2
      obtain ⟨q, hq⟩ : ∃ q, l[j] = q := ⟨_, rfl⟩
      obtain ⟨y, hy⟩ : ∃ y, l[j + 1] = y := ⟨_, rfl⟩
      have HQ := Lib.hid hq
      have HY := Lib.hid hy
      rw [hq] at c0 c1 c2 c3
      rw [hy] at d0 d1 d2 d3
      have i1 : (0 : Int) ≤ (j : Int) := by omega
      have i2 : (j : Int) < (n : Int) := by omega
      have i3 : (j : Int) + 1 < (n : Int) := by omega
      have i4 : IntKind.i64.wrap (j : Int) = (j : Int) := IntWalk.i64_in _ (by omega)
      have i6 : j < n := by omega
      have hbz := hb.size
      clear hq hy hrx hr
      obtain ⟨r, hls⟩ : ∃ r, lessK q.key q.seq y.key y.seq = r := ⟨_, rfl⟩
      cases r with
      | true =>
        have hri' : Hid (risesTo l (j + 1 + 1)) := Lib.hid fun i hi hij => by
          by_cases e : i = j
          · subst e
            have := HQ.out
            have := HY.out
            simp_all [lessE]
          · exact hri.out i hi (by omega)
        clear hri HQ HY
        go_wp2_with fail
        first
          | go_region_with (first
            | (go_at_call 56; refine (less_is _ _ _ _ _ _ _ _ _ true hls).mono ?_; rintro e w5 ⟨rfl, hb5⟩; have hb6 : Below w.heap.size w w5 := bel_drew hb hbz hb5))
          | fail
        all_goals go_wp2
        all_goals
          go_roundw
          case rel => exact ⟨j + 1, Or.inl hlt, by go_num, by assumption, hri'⟩
          case measure => simp [intOf]; omega
      | false =>
        have hno : Hid (¬ risesTo l l.length) := Lib.hid fun h => by
          have := h j hs' hs'
          rw [HQ.out, HY.out] at this
          unfold lessE at this
          rw [hls] at this
          cases this
        clear hri HQ HY
        go_wp2_with fail
        first
          | go_region_with (first
            | (go_at_call 56; refine (less_is _ _ _ _ _ _ _ _ _ false hls).mono ?_; rintro e w5 ⟨rfl, hb5⟩; have hb6 : Below w.heap.size w w5 := bel_drew hb hbz hb5))
          | fail
        all_goals go_wp2
        all_goals go_ret
        all_goals exact ⟨false, rfl, ⟨(fun h => by cases h), fun h => absurd h hno.out⟩, by assumption⟩
    · have hri' : Hid (risesTo l l.length) := Lib.hid fun i hi hij => hri.out i hi (by have := HNL.out; omega)
      have b1 : decide ((j : Int) + 1 < (n : Int)) = false := decide_eq_false (by omega)
      go_wp2
      go_ret
      exact ⟨true, rfl, ⟨fun _ => hri'.out, fun _ => rfl⟩, hb⟩
theorem rises_merge (S : List Ent) : risesTo (mergeL S) (mergeL S).length := fun j h _ => by
  rw [less_cmp]
  exact decide_eq_true (List.pairwise_iff_getElem.1 (rise_merge S) j (j + 1) (by omega) h (by omega))
end Go.Proofs.Ytcfgmkiohmbdlaa
