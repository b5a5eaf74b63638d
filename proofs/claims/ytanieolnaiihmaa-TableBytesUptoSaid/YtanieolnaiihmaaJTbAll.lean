/- Tables: All, First, Last, walked. (not built yet) -/
import Derived.Test.YtanieolnaiihmaaJTbGet
import Derived.Test.YtanieolnaiihmaaJRgMarks
import Derived.Lib.SliceRun
namespace Go.Proofs.Ytanieolnaiihmaa
open Go.RowKit
set_option maxHeartbeats 4000000 in
set_option maxRecDepth 20000 in
theorem clone_any (w : World) (A : Option Addr) (n c : Nat) (l : List Ent) (hr : Rd w w.heap.size 4 A n (entv l)) (hn : n ≤ 1000000000000) :
    Calls Try.prog 60 #[.slice A n c] w fun e w' => ∃ v, e = .returned v ∧ w'.ownsRow w.heap.size 41 4 v l.length (entv l) ∧ Below w.heap.size w w' := by
  obtain ⟨i0, hi0, hz0, hz1, hz2⟩ := info_parts ent_info
  obtain rfl := rd_entlen hr
  have HR := Lib.hid hr
  cases A with
  | none =>
    have h0 : l = [] := by
      cases l with
      | nil => rfl
      | cons x t => obtain ⟨ad, e, _⟩ := hr.at_ (by simp); cases e
    subst h0
    clear hr
    have hnil := fun (W : World) => Lib.run_eql_slice_nil (P := Try.prog) W 31 41 none 0 c 0 0 Try.underlying31
    go_enter Try.func60, Try.ntmps60
    go_wp2
    go_ret
    exact ⟨_, rfl, World.ownsRow_nil _ _ _ _, Below.refl _ _⟩
  | some ad =>
    clear hr
    have hnil := fun (W : World) => Lib.run_eql_slice_nil (P := Try.prog) W 31 41 (some ad) l.length c 0 0 Try.underlying31
    go_enter Try.func60, Try.ntmps60
    have hb0 : Below w.heap.size w (w.alloc (.cells #[] 41)) := (Below.refl _ _).alloc (Nat.le_refl _) _
    have ho0 := own_empty w 41 4 w.heap.size (Nat.le_refl _)
    have hr1 := HR.out.below hb0
    go_wp2_with (at_builtin; refine wpList_app rfl (.tmp 5) (.tmp 6) 31 rfl w.heap.size 41 i0 _ 4 48 Try.underlying31 hi0 hz0 hz1 hz2 rfl (by omega) _ 0 [] w.heap.size (some ad) l.length c (entv l) rfl (by exact ho0) rfl (by exact hr1) (entv_cell l) ?c1 ?c2 ?c3 ?_)
    case c1 => omega
    case c2 => unfold maxLen; omega
    case c3 => exact hb0.size
    intro v3 w3 ho3 hu3 hat3
    have hb3 : Below w.heap.size w w3 := hb0.trans (hu3.below (fun q hq e => by have := (ho0.lt q e).1; omega) hb0.size)
    have HO3 := Lib.hid ho3
    have HB3 := Lib.hid hb3
    clear ho3 hu3 hat3 hb3 ho0 hr1 hb0
    go_wp2
    go_ret
    exact ⟨_, rfl, HO3.out, HB3.out⟩
set_option maxRecDepth 20000 in
theorem tall_any (w : World) (base TB : Nat) (l : List Ent) (hT : TabAt base w TB l) (hl : l.length ≤ 1000000000000) :
    Calls Try.prog 22 #[.pointer (some ⟨TB, 0, none⟩)] w fun e w' => ∃ v, e = .returned v ∧ w'.ownsRow w.heap.size 41 4 v l.length (entv l) ∧ Below w.heap.size w w' := by
  obtain ⟨A, c, -, -, t2, -, hr, -⟩ := hT.cells
  have HC := Lib.hid (clone_any w A l.length c l hr hl)
  clear hT hr
  go_enter Try.func22, Try.ntmps22
  go_wp2_with fail
  refine HC.out.mono ?_
  rintro e w2 ⟨v, rfl, ho, hb⟩
  have HO := Lib.hid ho
  have HB := Lib.hid hb
  clear ho hb
  go_wp2
  go_ret
  exact ⟨_, rfl, HO.out, HB.out⟩
def keyAt (l : List Ent) (i : Nat) : ByteArray := (l[i]?.map (·.key)).getD ⟨#[]⟩
set_option maxRecDepth 20000 in
theorem tfirst_any (w : World) (base TB : Nat) (l : List Ent) (hT : TabAt base w TB l) :
    Calls Try.prog 31 #[.pointer (some ⟨TB, 0, none⟩)] w fun e w' => e = .returned (.tuple #[.string (keyAt l 0), .bool (decide (0 < l.length))]) ∧ w' = w := by
  obtain ⟨A, c, t0, -, t2, -, hr, -⟩ := hT.cells
  by_cases h0 : l.length = 0
  · have hl : l = [] := List.eq_nil_of_length_eq_zero h0
    subst hl
    clear hT hr
    have t0' : w.cell? ⟨TB, 0, none⟩ = some (.int .i64 0) := t0
    clear t0
    go_enter Try.func31, Try.ntmps31
    go_wp2
    go_ret2
    exact ⟨rfl, rfl⟩
  · obtain ⟨b, off, rfl, hbB, hs, c0, -, -, -⟩ := hr.ent (k := 0) (by omega)
    have HK : Hid (keyAt l 0 = (l[0]'hs).key) := Lib.hid (by unfold keyAt; rw [List.getElem?_eq_getElem hs]; rfl)
    obtain ⟨q, hq⟩ : ∃ q, (l[0]'hs).key = q := ⟨_, rfl⟩
    rw [hq] at c0 HK
    rw [Nat.zero_mul, Nat.add_zero] at c0
    have hne : ¬ ((l.length : Int) = 0) := by omega
    have hlt : (0 : Int) < (l.length : Int) := by omega
    clear hT hr hq
    go_enter Try.func31, Try.ntmps31
    go_wp2
    go_ret2
    exact ⟨by rw [HK.out, decide_eq_true (by omega)]; rfl, rfl⟩
set_option maxRecDepth 20000 in
theorem tlast_any (w : World) (base TB : Nat) (l : List Ent) (hT : TabAt base w TB l) (hll : l.length ≤ 1000000000000) :
    Calls Try.prog 32 #[.pointer (some ⟨TB, 0, none⟩)] w fun e w' => e = .returned (.tuple #[.string (keyAt l (l.length - 1)), .bool (decide (0 < l.length))]) ∧ ∃ m, w' = w.drewN m := by
  obtain ⟨A, c, t0, -, t2, -, hr, -⟩ := hT.cells
  by_cases h0 : l.length = 0
  · have hl : l = [] := List.eq_nil_of_length_eq_zero h0
    subst hl
    clear hT hr
    have t0' : w.cell? ⟨TB, 0, none⟩ = some (.int .i64 0) := t0
    clear t0
    go_enter Try.func32, Try.ntmps32
    go_wp2
    go_ret2
    exact ⟨rfl, 0, rfl⟩
  · obtain ⟨j, hj⟩ : ∃ j, l.length - 1 = j := ⟨_, rfl⟩
    obtain ⟨b, off, rfl, hbB, hs, c0, -, -, -⟩ := hr.ent (k := j) (by omega)
    have HK : Hid (keyAt l (l.length - 1) = (l[j]'hs).key) := Lib.hid (by unfold keyAt; rw [hj, List.getElem?_eq_getElem hs]; rfl)
    obtain ⟨q, hq⟩ : ∃ q, (l[j]'hs).key = q := ⟨_, rfl⟩
    rw [hq] at c0 HK
    have hne : ¬ ((l.length : Int) = 0) := by omega
    have hw : IntKind.i64.wrap ((l.length : Int) - 1) = (j : Int) := by rw [IntWalk.i64_in _ (by omega)]; omega
    have hj0 : (0 : Int) ≤ (j : Int) := by omega
    have hlt : (j : Int) < (l.length : Int) := by omega
    clear hT hr hq hj
    go_enter Try.func32, Try.ntmps32
    go_wp2
    go_quiet (fail)
    go_wp2
    go_ret2
    exact ⟨by rw [HK.out, decide_eq_true (by omega)]; rfl, ⟨_, rfl⟩⟩
end Go.Proofs.Ytanieolnaiihmaa
