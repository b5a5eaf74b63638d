/- Tables in memory: lives, walked. -/
import Derived.Test.YthaobfdocnaneaaMmPlain2
namespace Go.Proofs.Ythaobfdocnaneaa
open Go.RowKit
section
variable {w w' : World} {B t : Nat} {ns : List Nd} {turn : Int} {hv : Value} {hs : List Int}
/-- A slice whose row lies behind the table's. -/
theorem foot_new {n bytes : Int} (h : Skip w B t ns n bytes hv hs turn) {b : Nat} (hb : w.heap.size ≤ b) : ¬ foot t ns b := fun hf => by
  have := (foot_base h b hf).2
  omega
theorem foot_old {n bytes : Int} (h : Skip w B t ns n bytes hv hs turn) {b : Nat} (hb : b < B) : ¬ foot t ns b := fun hf => by
  have := (foot_base h b hf).1
  omega
theorem Added.below {ns' : List Nd} {turn' : Int} {l : List Ent} (h : Added w w' B t ns ns' hv hs turn turn' l) {n bytes : Int} (hsk : Skip w B t ns n bytes hv hs turn) {C : Nat} (hC : C ≤ B) (hB : C ≤ w.heap.size) : Below C w w' :=
  h.upd.below (fun k hk hf => by have := (foot_base hsk k hf).1; omega) hB
end
theorem rd_new (w : World) (size n : Nat) (cs : Array Value) (t : TypeId) (xs : List Value) (hn : cs.size = n * size) (hx : cs.toList = xs) : Rd (w.alloc (.cells cs t)) (w.alloc (.cells cs t)).heap.size size (some ⟨w.heap.size, 0, none⟩) n xs := by
  have := Rd.new (w := w) (size := size) (n := n) cs t hn
  rw [hx] at this
  simpa using this
theorem below_alloc (w : World) (o : Obj) : Below w.heap.size w (w.alloc o) := (Below.refl _ _).alloc (Nat.le_refl _) _
set_option maxHeartbeats 4000000 in
set_option maxRecDepth 20000 in
theorem mlives_any (w : World) : Calls Try.prog 7 #[] w fun e w' => e = .returned (.bool true) ∧ Below w.heap.size w w' := by
  go_enter Try.func7, Try.ntmps7
  go_wp2_with fail
  refine (new_any _ _ 2 2 [3, 1] (rd_new _ 1 2 #[.int .i64 3, .int .i64 1] _ _ rfl rfl) (by omega)).mono ?_
  rintro e w1 ⟨t, hv, rfl, hsk, hb1⟩
  have hb := (below_alloc w (.cells #[.int .i64 3, .int .i64 1] 3)).trans (hb1.mono (by simp))
  have hB : w.heap.size ≤ (w.alloc (.cells #[.int .i64 3, .int .i64 1] 3)).heap.size := by simp
  generalize (w.alloc (.cells #[.int .i64 3, .int .i64 1] 3)).heap.size = B at hsk hB
  have HSK := Lib.hid hsk
  have HB := Lib.hid hb
  clear hsk hb1 hb
  go_wp2_with fail
  refine (add_any _ (HSK.out.below (below_alloc _ _)) _ 3 3 exL (rd_new _ 4 3 _ _ _ rfl rfl) (fun _ ad e => by injection e with e; subst e; exact foot_new HSK.out (Nat.le_refl _)) (by omega) (by omega) (by rw [highs_len]; decide) (by simp) (by decide)).mono ?_
  rintro e w2 ⟨ns', turn', rfl, had⟩
  have hb2 : Below w.heap.size w w2 := HB.out.trans (((below_alloc w1 _).mono HB.out.size).trans (had.below (HSK.out.below (below_alloc _ _)) hB (Nat.le_trans HB.out.size (by simp))))
  have hg := get_any w2 ⟨#[97]⟩ 2 had.skip
  have hl0 : ents ns' = exL.foldl insE [] := had.list
  rw [getN_getE _ _ _ had.skip.rise, hl0, exL_get] at hg
  have hln : ns'.length = 3 := by
    have := congrArg List.length hl0
    rw [exL_fold] at this
    simpa [ents] using this
  have HS2 := Lib.hid had.skip
  rw [hln, hl0, exL_siz] at HS2
  have HG := Lib.hid hg
  have HB2 := Lib.hid hb2
  clear hg hb2 hl0 hln had
  go_wp2_with fail
  refine HG.out.mono ?_
  rintro e w3 ⟨rfl, hb3⟩
  have HB3 := Lib.hid hb3
  have HS3 := Lib.hid (HS2.out.below hb3)
  clear hb3
  unfold Option.getD Option.isSome Ent.agg
  go_wp2_with fail
  refine (len_any _ (HS3.out.below (below_alloc _ _))).mono ?_
  rintro e w4 ⟨rfl, hw4⟩
  subst hw4
  go_wp2_with fail
  refine (bytes_any _ (HS3.out.below (below_alloc _ _))).mono ?_
  rintro e w5 ⟨rfl, hw5⟩
  subst hw5
  go_wp2
  go_ret
  exact ⟨rfl, (HB2.out.trans (HB3.out.mono HB2.out.size)).alloc (Nat.le_trans HB2.out.size HB3.out.size) _⟩
end Go.Proofs.Ythaobfdocnaneaa
