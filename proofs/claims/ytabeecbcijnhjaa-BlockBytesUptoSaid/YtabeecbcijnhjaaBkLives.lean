/- Blocks: lives. -/
import Derived.Test.YtabeecbcijnhjaaBkEnc
import Derived.Test.YtabeecbcijnhjaaBkShared
namespace Go.Proofs.Ytabeecbcijnhjaa
open Go.RowKit
def exE : List Ent := [⟨⟨#[97, 98]⟩, 3, false, ⟨#[120]⟩⟩, ⟨⟨#[97, 99]⟩, 1, true, ⟨#[]⟩⟩]
theorem exE_right : rightE exE := by
  refine ⟨fun x hx => ?_, ?_⟩
  · rcases List.mem_cons.1 hx with rfl | hx
    · intro h; cases h
    · rcases List.mem_cons.1 hx with rfl | hx
      · intro _; rfl
      · cases hx
  · refine ⟨fun q hq => (by cases hq), fun q hq => ?_, trivial⟩
    injection hq with e; subst e
    have h1 : (ByteArray.mk #[97, 98]).toList = [97, 98] := by rw [ByteArray.toList_eq]
    have h2 : (ByteArray.mk #[97, 99]).toList = [97, 99] := by rw [ByteArray.toList_eq]
    unfold lessE lessK
    simp only [h1, h2]
    decide
theorem exE_block : blockB exE = [2, 0, 2, 97, 98, 6, 0, 1, 120, 1, 1, 99, 2, 1] := by
  have e1 : lcp [] [97, 98] = 0 := rfl
  have e2 : lcp [97, 98] [97, 99] = 1 := by decide
  have f1 : fold 3 = 6 := rfl
  have f2 : fold 1 = 2 := rfl
  have k1 : Ent.kl ⟨⟨#[97, 98]⟩, 3, false, ⟨#[120]⟩⟩ = [97, 98] := rfl
  have k2 : Ent.kl ⟨⟨#[97, 99]⟩, 1, true, ⟨#[]⟩⟩ = [97, 99] := rfl
  have v1 : Ent.vl ⟨⟨#[97, 98]⟩, 3, false, ⟨#[120]⟩⟩ = [120] := rfl
  simp only [blockB, exE, entsB, entB, k1, k2, v1, e1, e2, textB, intB, f1, f2, List.length_cons, List.length_nil, List.drop_zero, List.drop_succ_cons, if_true]
  rw [numB_small (n := 0) (by omega), numB_small (n := 0 + 1) (by omega), numB_small (n := 0 + 1 + 1) (by omega), numB_small (n := 6) (by omega)]
  rw [if_neg (by decide)]
  decide
theorem exE_enc (w : World) (cs : Array Value) (hcs : cs.toList = entv exE) : Calls Try.prog 5 #[.slice (some ⟨w.heap.size, 0, none⟩) 2 2] (w.alloc (.cells cs 25)) fun e w' => e = .returned (.tuple #[.string ⟨#[2, 0, 2, 97, 98, 6, 0, 1, 120, 1, 1, 99, 2, 1]⟩, .int .i64 0]) ∧ Below w.heap.size w w' := by
  have hsz : cs.size = 2 * 4 := by rw [← Array.length_toList, hcs]; rfl
  have hr := Rd.new (w := w) (size := 4) (n := 2) cs 25 hsz
  rw [hcs] at hr
  have := enc_any (w.alloc (.cells cs 25)) (some ⟨w.heap.size, 0, none⟩) 2 2 exE (by simpa using hr) (by omega)
    (by
      intro x hx
      rcases List.mem_cons.1 hx with rfl | hx
      · exact ⟨⟨by decide, by decide⟩, by decide, by decide⟩
      · rcases List.mem_cons.1 hx with rfl | hx
        · exact ⟨⟨by decide, by decide⟩, by decide, by decide⟩
        · cases hx)
    (by rw [exE_block]; simp)
  rw [encR_ok exE_right, exE_block] at this
  exact this.mono fun e w' ⟨he, hb⟩ => ⟨he, ((Below.refl _ _).alloc (Nat.le_refl _) _).trans (hb.mono (by simp))⟩
theorem below_drewN (w : World) (m : Nat) : Below w.heap.size w (w.drewN m) := ⟨rfl, rfl, rfl, Nat.le_refl _, fun _ _ => rfl⟩
set_option maxHeartbeats 400000 in
set_option maxRecDepth 20000 in
theorem blives_any (w : World) : Calls Try.prog 4 #[] w fun e w' => e = .returned (.bool true) ∧ Below w.heap.size w w' := by
  go_enter Try.func4, Try.ntmps4
  go_wp2_with fail
  refine (exE_enc _ _ rfl).mono ?_
  rintro e w1 ⟨rfl, hb1⟩
  go_wp2_with fail
  refine (shared_any _ _ _ (by decide) (by decide)).mono ?_
  rintro e w2 ⟨rfl, hw2⟩
  obtain ⟨m, rfl⟩ := hw2.out
  have e2 : lcp (ByteArray.mk #[97, 98, 99]).data.toList (ByteArray.mk #[97, 98, 100]).data.toList = 2 := by decide
  rw [e2]
  have hb2 := bel hb1 (below_drewN w1 m)
  clear e2
  go_wp2
  go_ret
  exact ⟨rfl, hb2⟩
end Go.Proofs.Ytabeecbcijnhjaa
