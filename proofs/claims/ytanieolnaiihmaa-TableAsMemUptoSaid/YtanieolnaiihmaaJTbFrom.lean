/- Tables: All, First, Last, walked. (not built yet) -/
import Derived.Test.YtanieolnaiihmaaJTbGet
import Derived.Test.YtanieolnaiihmaaJRgMarks
import Derived.Lib.SliceRun
import Derived.Test.YtanieolnaiihmaaJTbFindP
import Derived.Deep.RegionHeld3
namespace Go.Proofs.Ytanieolnaiihmaa
open Go.RowKit
set_option maxHeartbeats 4000000 in
set_option maxRecDepth 20000 in
theorem clone_any (w : World) (A : Option Addr) (n c : Nat) (l : List Ent) (hr : Rd w w.heap.size 4 A n (entv l)) (hn : n ≤ 1000000000000) :
    Calls Try.prog 60 #[.slice A n c] w fun e w' => ∃ v, e = .returned v ∧ w'.ownsRow w.heap.size 41 4 v l.length (entv l) ∧ Below w.heap.size w w' := by
  obtain ⟨i0, hi0, hz0, hz1, hz2⟩ := info_parts ent_info
  obtain rfl := rd_entlen hr
  have HR := Lib.hid hr
  cases A with
  | none =>
    have h0 : l = [] := by
      cases l with
      | nil => rfl
      | cons x t => obtain ⟨ad, e, _⟩ := hr.at_ (by simp); cases e
    subst h0
    clear hr
    have hnil := fun (W : World) => Lib.run_eql_slice_nil (P := Try.prog) W 31 41 none 0 c 0 0 Try.underlying31
    go_enter Try.func60, Try.ntmps60
    go_wp2
    go_ret
    exact ⟨_, rfl, World.ownsRow_nil _ _ _ _, Below.refl _ _⟩
  | some ad =>
    clear hr
    have hnil := fun (W : World) => Lib.run_eql_slice_nil (P := Try.prog) W 31 41 (some ad) l.length c 0 0 Try.underlying31
    go_enter Try.func60, Try.ntmps60
    have hb0 : Below w.heap.size w (w.alloc (.cells #[] 41)) := (Below.refl _ _).alloc (Nat.le_refl _) _
    have ho0 := own_empty w 41 4 w.heap.size (Nat.le_refl _)
    have hr1 := HR.out.below hb0
    go_wp2_with (at_builtin; refine wpList_app rfl (.tmp 5) (.tmp 6) 31 rfl w.heap.size 41 i0 _ 4 48 Try.underlying31 hi0 hz0 hz1 hz2 rfl (by omega) _ 0 [] w.heap.size (some ad) l.length c (entv l) rfl (by exact ho0) rfl (by exact hr1) (entv_cell l) ?c1 ?c2 ?c3 ?_)
    case c1 => omega
    case c2 => unfold maxLen; omega
    case c3 => exact hb0.size
    intro v3 w3 ho3 hu3 hat3
    have hb3 : Below w.heap.size w w3 := hb0.trans (hu3.below (fun q hq e => by have := (ho0.lt q e).1; omega) hb0.size)
    have HO3 := Lib.hid ho3
    have HB3 := Lib.hid hb3
    clear ho3 hu3 hat3 hb3 ho0 hr1 hb0
    go_wp2
    go_ret
    exact ⟨_, rfl, HO3.out, HB3.out⟩
set_option maxRecDepth 20000 in
theorem tall_any (w : World) (base TB : Nat) (l : List Ent) (hT : TabAt base w TB l) (hl : l.length ≤ 1000000000000) :
    Calls Try.prog 22 #[.pointer (some ⟨TB, 0, none⟩)] w fun e w' => ∃ v, e = .returned v ∧ w'.ownsRow w.heap.size 41 4 v l.length (entv l) ∧ Below w.heap.size w w' := by
  obtain ⟨A, c, -, -, t2, -, hr, -⟩ := hT.cells
  have HC := Lib.hid (clone_any w A l.length c l hr hl)
  clear hT hr
  go_enter Try.func22, Try.ntmps22
  go_wp2_with fail
  refine HC.out.mono ?_
  rintro e w2 ⟨v, rfl, ho, hb⟩
  have HO := Lib.hid ho
  have HB := Lib.hid hb
  clear ho hb
  go_wp2
  go_ret
  exact ⟨_, rfl, HO.out, HB.out⟩
def keyAt (l : List Ent) (i : Nat) : ByteArray := (l[i]?.map (·.key)).getD ⟨#[]⟩
set_option maxRecDepth 20000 in
theorem tfirst_any (w : World) (base TB : Nat) (l : List Ent) (hT : TabAt base w TB l) :
    Calls Try.prog 31 #[.pointer (some ⟨TB, 0, none⟩)] w fun e w' => e = .returned (.tuple #[.string (keyAt l 0), .bool (decide (0 < l.length))]) ∧ w' = w := by
  obtain ⟨A, c, t0, -, t2, -, hr, -⟩ := hT.cells
  by_cases h0 : l.length = 0
  · have hl : l = [] := List.eq_nil_of_length_eq_zero h0
    subst hl
    clear hT hr
    have t0' : w.cell? ⟨TB, 0, none⟩ = some (.int .i64 0) := t0
    clear t0
    go_enter Try.func31, Try.ntmps31
    go_wp2
    go_ret2
    exact ⟨rfl, rfl⟩
  · obtain ⟨b, off, rfl, hbB, hs, c0, -, -, -⟩ := hr.ent (k := 0) (by omega)
    have HK : Hid (keyAt l 0 = (l[0]'hs).key) := Lib.hid (by unfold keyAt; rw [List.getElem?_eq_getElem hs]; rfl)
    obtain ⟨q, hq⟩ : ∃ q, (l[0]'hs).key = q := ⟨_, rfl⟩
    rw [hq] at c0 HK
    rw [Nat.zero_mul, Nat.add_zero] at c0
    have hne : ¬ ((l.length : Int) = 0) := by omega
    have hlt : (0 : Int) < (l.length : Int) := by omega
    clear hT hr hq
    go_enter Try.func31, Try.ntmps31
    go_wp2
    go_ret2
    exact ⟨by rw [HK.out, decide_eq_true (by omega)]; rfl, rfl⟩
set_option maxRecDepth 20000 in
theorem tlast_any (w : World) (base TB : Nat) (l : List Ent) (hT : TabAt base w TB l) (hll : l.length ≤ 1000000000000) :
    Calls Try.prog 32 #[.pointer (some ⟨TB, 0, none⟩)] w fun e w' => e = .returned (.tuple #[.string (keyAt l (l.length - 1)), .bool (decide (0 < l.length))]) ∧ ∃ m, w' = w.drewN m := by
  obtain ⟨A, c, t0, -, t2, -, hr, -⟩ := hT.cells
  by_cases h0 : l.length = 0
  · have hl : l = [] := List.eq_nil_of_length_eq_zero h0
    subst hl
    clear hT hr
    have t0' : w.cell? ⟨TB, 0, none⟩ = some (.int .i64 0) := t0
    clear t0
    go_enter Try.func32, Try.ntmps32
    go_wp2
    go_ret2
    exact ⟨rfl, 0, rfl⟩
  · obtain ⟨j, hj⟩ : ∃ j, l.length - 1 = j := ⟨_, rfl⟩
    obtain ⟨b, off, rfl, hbB, hs, c0, -, -, -⟩ := hr.ent (k := j) (by omega)
    have HK : Hid (keyAt l (l.length - 1) = (l[j]'hs).key) := Lib.hid (by unfold keyAt; rw [hj, List.getElem?_eq_getElem hs]; rfl)
    obtain ⟨q, hq⟩ : ∃ q, (l[j]'hs).key = q := ⟨_, rfl⟩
    rw [hq] at c0 HK
    have hne : ¬ ((l.length : Int) = 0) := by omega
    have hw : IntKind.i64.wrap ((l.length : Int) - 1) = (j : Int) := by rw [IntWalk.i64_in _ (by omega)]; omega
    have hj0 : (0 : Int) ≤ (j : Int) := by omega
    have hlt : (j : Int) < (l.length : Int) := by omega
    clear hT hr hq hj
    go_enter Try.func32, Try.ntmps32
    go_wp2
    go_quiet (fail)
    go_wp2
    go_ret2
    exact ⟨by rw [HK.out, decide_eq_true (by omega)]; rfl, ⟨_, rfl⟩⟩
end Go.Proofs.Ytanieolnaiihmaa
/- Tables: From, walked. -/
namespace Go.Proofs.Ytanieolnaiihmaa
open Go.RowKit
theorem place_at {w : World} {base TB : Nat} {l : List Ent} (key : ByteArray) (hT : TabAt base w TB l) (hl : l.length ≤ 1000000000000) (hr : rightE l) (hs : ∀ x ∈ l, x.seq ≤ 9223372036854775807) :
    Calls Try.prog 62 #[.pointer (some ⟨TB, 0, none⟩), .string key, .int .i64 9223372036854775807] w fun e w' => e = .returned (.int .i64 (fromE l key : Int)) ∧ Below w.heap.size w w' := by
  refine (place_any w base TB l key 9223372036854775807 hT (by omega) (hit_mono hr key _)).mono ?_
  rintro e w2 ⟨r, h1, rfl, h2, h3, hb⟩
  exact ⟨by rw [place_from hs h1 h2 h3], hb⟩
set_option maxHeartbeats 4000000 in
set_option maxRecDepth 20000 in
theorem tfrom_any (w : World) (base TB : Nat) (l : List Ent) (key : ByteArray) (hT : TabAt base w TB l) (hl : l.length ≤ 1000000000000) (hr : rightE l) (hs : ∀ x ∈ l, x.seq ≤ 9223372036854775807) :
    Calls Try.prog 33 #[.pointer (some ⟨TB, 0, none⟩), .string key] w fun e w' => ∃ v, e = .returned v ∧ w'.ownsRow w.heap.size 41 4 v (l.drop (fromE l key)).length (entv (l.drop (fromE l key))) ∧ Below w.heap.size w w' := by
  have HPL : Hid (∀ W, Below w.heap.size w W → Calls Try.prog 62 #[.pointer (some ⟨TB, 0, none⟩), .string key, .int .i64 9223372036854775807] W fun e w' => e = .returned (.int .i64 (fromE l key : Int)) ∧ Below w.heap.size w w') := Lib.hid (fun W hW => (place_at key (hT.below hW) hl hr hs).mono fun e w' h => ⟨h.1, hW.trans (h.2.mono hW.size)⟩)
  obtain ⟨A, c, -, -, t2, -, hrd, hnc⟩ := hT.cells
  have hfl := fromE_le l key
  have MK : Hid (∀ W, Below w.heap.size w W → Below w.heap.size w W ∧ W.cell? ⟨TB, 2, none⟩ = some (.slice A l.length c)) := Lib.hid (fun W hW => ⟨hW, (hW.cell (World.block_lt_of_cell? w _ t2)).trans t2⟩)
  obtain ⟨L, hL⟩ : ∃ L, l.drop (fromE l key) = L := ⟨_, rfl⟩
  have hLl : L.length = l.length - fromE l key := by rw [← hL, List.length_drop]
  have HRD : Hid (∀ W ad, A = some ad → Below w.heap.size w W → Rd W W.heap.size 4 (some (ad.add (fromE l key * 4))) (l.length - fromE l key) (entv L)) := Lib.hid (fun W ad e hW => by
    subst e
    rw [← hL, ← entv_drop]
    exact ((hrd.below hW).mono hW.size).drop _ hfl)
  have HNO : Hid (¬ c = fromE l key → ∃ ad, A = some ad) := Lib.hid (fun hne => by
    cases A with
    | some ad => exact ⟨ad, rfl⟩
    | none =>
      exfalso
      obtain ⟨_, v, h2, h3⟩ := hT
      have e2 : w.cell? ⟨TB, 2, none⟩ = some v := by rw [cell_of_row _ _ 2 _ _ _ h2]; rfl
      rw [t2] at e2
      injection e2 with e2
      rcases h3.2 with ⟨hv, h0⟩ | ⟨g, cap, cur, hv, _⟩
      · rw [← e2] at hv
        injection hv with _ _ h5
        omega
      · rw [← e2] at hv
        injection hv with h4
        cases h4)
  obtain ⟨r, hr'⟩ : ∃ r, fromE l key = r := ⟨_, rfl⟩
  rw [hr'] at hfl hLl HPL HRD HNO
  have hri : (r : Int) ≤ (l.length : Int) := by omega
  have hr0 : (0 : Int) ≤ (r : Int) := by omega
  have HLL := Lib.hid hLl
  rw [hL]
  have hb0 := Below.refl w.heap.size w
  clear hT hr hs hrd hL hr' hLl
  by_cases hcr : c = r
  · have hLn : L = [] := List.eq_nil_of_length_eq_zero (by have := HLL.out; omega)
    have HCL : Hid (∀ W, Below w.heap.size w W → Calls Try.prog 60 #[.slice A 0 0] W fun e w' => ∃ v, e = .returned v ∧ w'.ownsRow w.heap.size 41 4 v L.length (entv L) ∧ Below w.heap.size w w') := Lib.hid (fun W hW => by
      subst hLn
      refine (clone_any W A 0 0 [] ⟨rfl, fun h => absurd h (Nat.lt_irrefl _)⟩ (by omega)).mono ?_
      rintro e w' ⟨v, rfl, ho, hb⟩
      exact ⟨v, rfl, own_mono ho hW.size, hW.trans (hb.mono hW.size)⟩)
    have hcl : l.length = r := by omega
    subst hcr
    go_enter Try.func33, Try.ntmps33
    go_wp2
    go_region_held3 (fun W => Below w.heap.size w W ∧ W.cell? ⟨TB, 2, none⟩ = some (.slice A l.length c)) (first | exact MK.out _ (by assumption) | exact MK.out _ (Below.drew hb0)) (first
      | (go_at_call 62; refine (HPL.out _ (And.left (by assumption))).mono ?_; rintro e w2 ⟨rfl, hS2⟩)
      | (go_at_call 60; refine (HCL.out _ (And.left (by assumption))).mono ?_; rintro e w3 ⟨v3, rfl, ho3, hS3⟩))
    all_goals go_wp2
    all_goals go_ret
    all_goals exact ⟨_, rfl, ho3, hS3⟩
  · obtain ⟨ad, rfl⟩ := HNO.out hcr
    have HCL : Hid (∀ W, Below w.heap.size w W → Calls Try.prog 60 #[.slice (some (ad.add (r * 4))) (l.length - r) (c - r)] W fun e w' => ∃ v, e = .returned v ∧ w'.ownsRow w.heap.size 41 4 v L.length (entv L) ∧ Below w.heap.size w w') := Lib.hid (fun W hW => by
      refine (clone_any W _ _ _ L (HRD.out W ad rfl hW) (by omega)).mono ?_
      rintro e w' ⟨v, rfl, ho, hb⟩
      exact ⟨v, rfl, own_mono ho hW.size, hW.trans (hb.mono hW.size)⟩)
    go_enter Try.func33, Try.ntmps33
    go_wp2
    go_region_held3 (fun W => Below w.heap.size w W ∧ W.cell? ⟨TB, 2, none⟩ = some (.slice (some ad) l.length c)) (first | exact MK.out _ (by assumption) | exact MK.out _ (Below.drew hb0)) (first
      | (go_at_call 62; refine (HPL.out _ (And.left (by assumption))).mono ?_; rintro e w2 ⟨rfl, hS2⟩)
      | (go_at_call 60; refine (HCL.out _ (And.left (by assumption))).mono ?_; rintro e w3 ⟨v3, rfl, ho3, hS3⟩))
    all_goals go_wp2
    all_goals go_ret
    all_goals exact ⟨_, rfl, ho3, hS3⟩
end Go.Proofs.Ytanieolnaiihmaa
