/- Merging versions: lives. -/
import Derived.Test.YtcfgmkiohmbdlaaMgTrimW
namespace Go.Proofs.Ytcfgmkiohmbdlaa
open Go.RowKit
theorem ls_many {w : World} {vs : List Value} {Ls : List (List Ent)} (hl : vs.length = Ls.length) (h : ∀ i (h1 : i < vs.length) (h2 : i < Ls.length), LsAt w w.heap.size vs[i] Ls[i]) :
    LsRd (w.alloc (.cells vs.toArray 22)) (w.alloc (.cells vs.toArray 22)).heap.size (some ⟨w.heap.size, 0, none⟩) vs.length vs Ls := by
  have hb : Below w.heap.size w (w.alloc (.cells vs.toArray 22)) := (Below.refl _ _).alloc (Nat.le_refl _) _
  refine ⟨?_, hl, fun i h1 h2 => ?_⟩
  · have := Rd.new (w := w) (size := 1) (n := vs.length) vs.toArray 22 (by simp)
    simpa using this
  · obtain ⟨A, n, c, e, hr⟩ := h i h1 h2
    exact ⟨A, n, c, e, (hr.below hb).mono hb.size⟩
theorem ls_two {w : World} {A1 A2 : Option Addr} {n1 n2 c1 c2 : Nat} {l1 l2 : List Ent} (h1 : Rd w w.heap.size 4 A1 n1 (entv l1)) (h2 : Rd w w.heap.size 4 A2 n2 (entv l2)) :
    LsRd (w.alloc (.cells #[.slice A1 n1 c1, .slice A2 n2 c2] 22)) (w.alloc (.cells #[.slice A1 n1 c1, .slice A2 n2 c2] 22)).heap.size (some ⟨w.heap.size, 0, none⟩) 2 [.slice A1 n1 c1, .slice A2 n2 c2] [l1, l2] :=
  ls_many (vs := [.slice A1 n1 c1, .slice A2 n2 c2]) rfl fun i g1 g2 => by
    match i, g1, g2 with
    | 0, _, _ => exact ⟨_, _, _, rfl, h1⟩
    | 1, _, _ => exact ⟨_, _, _, rfl, h2⟩
theorem ls_three {w : World} {A1 A2 A3 : Option Addr} {n1 n2 n3 c1 c2 c3 : Nat} {l1 l2 l3 : List Ent} (h1 : Rd w w.heap.size 4 A1 n1 (entv l1)) (h2 : Rd w w.heap.size 4 A2 n2 (entv l2)) (h3 : Rd w w.heap.size 4 A3 n3 (entv l3)) :
    LsRd (w.alloc (.cells #[.slice A1 n1 c1, .slice A2 n2 c2, .slice A3 n3 c3] 22)) (w.alloc (.cells #[.slice A1 n1 c1, .slice A2 n2 c2, .slice A3 n3 c3] 22)).heap.size (some ⟨w.heap.size, 0, none⟩) 3 [.slice A1 n1 c1, .slice A2 n2 c2, .slice A3 n3 c3] [l1, l2, l3] :=
  ls_many (vs := [.slice A1 n1 c1, .slice A2 n2 c2, .slice A3 n3 c3]) rfl fun i g1 g2 => by
    match i, g1, g2 with
    | 0, _, _ => exact ⟨_, _, _, rfl, h1⟩
    | 1, _, _ => exact ⟨_, _, _, rfl, h2⟩
    | 2, _, _ => exact ⟨_, _, _, rfl, h3⟩
def exL : List Ent := [⟨⟨#[97]⟩, 3, true, ⟨#[]⟩⟩, ⟨⟨#[97]⟩, 1, false, ⟨#[119]⟩⟩, ⟨⟨#[98]⟩, 2, false, ⟨#[121]⟩⟩]
def exR : List Ent := [⟨⟨#[97]⟩, 1, false, ⟨#[119]⟩⟩, ⟨⟨#[98]⟩, 2, false, ⟨#[121]⟩⟩]
theorem ex_view : viewL (mergeL exL) 2 = exR := by kernel_rfl
theorem ex_merge : mergeL [exR, exR].flatten = exR := by kernel_rfl
theorem ex_trim : trimL (mergeL exR) true [] = exR := by kernel_rfl
set_option maxHeartbeats 4000000 in
set_option maxRecDepth 20000 in
theorem mlives_any (w : World) : Calls Try.prog 11 #[] w fun e w' => e = .returned (.bool true) ∧ Below w.heap.size w w' := by
  have hr0 : Rd (w.alloc (.cells #[.string ⟨#[97]⟩, .int .i64 3, .bool true, .string ⟨#[]⟩, .string ⟨#[97]⟩, .int .i64 1, .bool false, .string ⟨#[119]⟩, .string ⟨#[98]⟩, .int .i64 2, .bool false, .string ⟨#[121]⟩] 26)) (w.heap.size + 1) 4 (some ⟨w.heap.size, 0, none⟩) 3 (entv exL) := Rd.new _ _ rfl
  have hv := view_any (w.alloc (.cells #[.string ⟨#[97]⟩, .int .i64 3, .bool true, .string ⟨#[]⟩, .string ⟨#[97]⟩, .int .i64 1, .bool false, .string ⟨#[119]⟩, .string ⟨#[98]⟩, .int .i64 2, .bool false, .string ⟨#[121]⟩] 26)) _ 3 3 exL 2 (by simpa using hr0) (by decide)
  rw [ex_view] at hv
  have HV := Lib.hid hv
  have HB0 : Hid (Below w.heap.size w (w.alloc (.cells #[.string ⟨#[97]⟩, .int .i64 3, .bool true, .string ⟨#[]⟩, .string ⟨#[97]⟩, .int .i64 1, .bool false, .string ⟨#[119]⟩, .string ⟨#[98]⟩, .int .i64 2, .bool false, .string ⟨#[121]⟩] 26))) := Lib.hid ((Below.refl _ _).alloc (Nat.le_refl _) _)
  clear hr0 hv
  go_enter Try.func11, Try.ntmps11
  go_wp2_with fail
  refine HV.out.mono ?_
  rintro e w1 ⟨v, rfl, ho, hb⟩
  have HB1 := Lib.hid (HB0.out.trans (hb.mono HB0.out.size))
  obtain ⟨A, c, rfl⟩ := own_shape ho
  have HR := Lib.hid (Rd.own ho)
  have hl2 : exR.length = 2 := rfl
  rw [hl2] at HR ⊢
  obtain ⟨b, off, rfl, _, _, _, _, _, e3⟩ := HR.out.ent (l := exR) (k := 0) (by decide)
  obtain ⟨b', off', he, _, _, _, _, _, g3⟩ := HR.out.ent (l := exR) (k := 1) (by decide)
  injection he with he
  injection he with he1 he2
  subst he1; subst he2
  have e4 : w1.cell? ⟨b, off + 3, none⟩ = some (.string ⟨#[119]⟩) := by simpa [exR] using e3
  have g4 : w1.cell? ⟨b, off + 4 + 3, none⟩ = some (.string ⟨#[121]⟩) := by simpa [exR] using g3
  have hm := merge_any _ _ 2 2 _ _ (ls_two (c1 := c) (c2 := c) HR.out HR.out) (by decide) (by decide)
  rw [ex_merge, hl2] at hm
  have HM := Lib.hid hm
  clear ho hb HV HB0 e3 g3 hm
  go_wp2_with fail
  refine HM.out.mono ?_
  rintro e w2 ⟨v2, rfl, ho2, hb2⟩
  have hba : Below w1.heap.size w1 (w1.alloc (.cells #[.slice (some ⟨b, off, none⟩) 2 c, .slice (some ⟨b, off, none⟩) 2 c] 22)) := (Below.refl _ _).alloc (Nat.le_refl _) _
  have hb12 : Below w1.heap.size w1 w2 := hba.trans (hb2.mono hba.size)
  have HB2 := Lib.hid (HB1.out.trans (hb12.mono HB1.out.size))
  obtain ⟨A2, c2, rfl⟩ := own_shape ho2
  have hr2 := (HR.out.below hb12).mono hb12.size
  have ht := trim_any w2 _ 2 c exR true none 0 0 [] hr2 Rd.nil (by decide) (by decide) (by decide)
  rw [ex_trim, hl2] at ht
  have HT := Lib.hid ht
  clear HM HB1 HR e4 g4 ho2 hb2 hba hb12 hr2 ht
  go_wp2_with fail
  refine HT.out.mono ?_
  rintro e w3 ⟨v3, rfl, ho3, hb3⟩
  obtain ⟨A3, c3, rfl⟩ := own_shape ho3
  have HB3 := Lib.hid (HB2.out.trans (hb3.mono HB2.out.size))
  clear HT ho3 hb3 HB2
  go_wp2
  go_ret
  exact ⟨rfl, HB3.out⟩
end Go.Proofs.Ytcfgmkiohmbdlaa
