/- Merging versions: merge.Merge, walked. -/
import Derived.Test.YtcfgmkiohmbdlaaMgCat
import Derived.Test.YtcfgmkiohmbdlaaMgCmpt
import Derived.Test.YtcfgmkiohmbdlaaMgRP
namespace Go.Proofs.Ytcfgmkiohmbdlaa
open Go.RowKit
set_option maxHeartbeats 1000000 in
set_option maxRecDepth 20000 in
theorem sort_nil (w : World) : Calls Try.prog 47 #[.slice none 0 0, .func (.func 48) #[] #[]] w fun e w' => e = .returned (.tuple #[]) ∧ w' = w := by
  have HI : Hid (∀ W : World, Calls Try.prog 115 #[.slice none 0 0, .int .i64 0, .int .i64 0, .func (.func 48) #[] #[]] W fun e w' => e = .returned (.tuple #[]) ∧ w' = W) := Lib.hid fun W => by
    go_enter Try.func115, Try.ntmps115
    go_wp2
    go_loopw [8] (fun iv wx => iv = .int .i64 1 ∧ Hid (wx = W)) (fun _ _ => 0)
    case atStart => exact ⟨rfl, Lib.hid rfl⟩
    case round =>
      obtain ⟨rfl, hw⟩ := hrel
      go_wp2
      refine bodyPost_end (results_none rfl _ _ _) rfl ?_
      exact ⟨rfl, hw.out⟩
  have HS : Hid (∀ W : World, Calls Try.prog 86 #[.slice none 0 0, .int .i64 0, .func (.func 48) #[] #[]] W fun e w' => e = .returned (.tuple #[]) ∧ w' = W) := Lib.hid fun W => by
    go_enter Try.func86, Try.ntmps86
    go_wp2
    go_loopw [7, 8] (fun av bv wx => av = .int .i64 0 ∧ bv = .int .i64 20 ∧ Hid (wx = W)) (fun _ _ _ => 0)
    case atStart => exact ⟨rfl, rfl, Lib.hid rfl⟩
    case round =>
      obtain ⟨rfl, rfl, hw⟩ := hrel
      go_wp2_with fail
      refine (HI.out _).mono ?_
      rintro e w1 ⟨rfl, rfl⟩
      go_wp2
      go_loopw [6] (fun kv wx => kv = .int .i64 20 ∧ Hid (wx = W)) (fun _ _ => 0)
      case atStart => exact ⟨rfl, hw⟩
      case round =>
        obtain ⟨rfl, hw⟩ := hrel
        go_wp2
        refine bodyPost_end (results_none rfl _ _ _) rfl ?_
        exact ⟨rfl, hw.out⟩
  go_enter Try.func47, Try.ntmps47
  go_wp2_with fail
  refine (HS.out _).mono ?_
  rintro e w1 ⟨rfl, rfl⟩
  go_wp2
  refine bodyPost_end (results_none rfl _ _ _) rfl ?_
  exact ⟨rfl, rfl⟩
set_option maxHeartbeats 4000000 in
set_option maxRecDepth 20000 in
theorem merge_any (w : World) (A : Option Addr) (n c : Nat) (vs : List Value) (Ls : List (List Ent)) (hr : LsRd w w.heap.size A n vs Ls) (hn : n ≤ 1048576) (ht : Ls.flatten.length ≤ 1073741824) :
    Calls Try.prog 12 #[.slice A n c] w fun e w' => ∃ v, e = .returned v ∧ w'.ownsRow w.heap.size 26 4 v (mergeL Ls.flatten).length (entv (mergeL Ls.flatten)) ∧ Below w.heap.size w w' := by
  have HT := Lib.hid ht
  have HC := Lib.hid (concat_any w A n c vs Ls hr hn ht)
  clear hr ht
  go_enter Try.func12, Try.ntmps12
  go_wp2_with fail
  refine HC.out.mono ?_
  rintro e w1 ⟨v, rfl, ho, hb1⟩
  have HB1 := Lib.hid hb1
  obtain ⟨S, hS⟩ : ∃ S, Ls.flatten = S := ⟨_, rfl⟩
  rw [hS] at ho HT
  have HSS := Lib.hid hS
  have HO := Lib.hid ho
  rcases ho.2 with ⟨rfl, hl0⟩ | ⟨g, cap, cur, rfl, hbg, hg, hnc, hcm, _, _⟩
  · have hs0 : S = [] := List.eq_nil_of_length_eq_zero hl0
    have HM : Hid (mergeL Ls.flatten = []) := Lib.hid (by rw [HSS.out, hs0]; rfl)
    clear hs0 hl0 ho hS hb1 HC
    go_wp2_with fail
    refine (sort_nil _).mono ?_
    rintro e w2 ⟨rfl, rfl⟩
    go_wp2
    go_ret
    rw [HM.out]
    exact ⟨_, rfl, World.ownsRow_nil _ _ _ _, HB1.out⟩
  · have hgl := (Array.getElem?_eq_some_iff.1 hg).1
    have HE := Lib.hid (ERow.of_own ho)
    have hSl : S.length ≤ 1073741824 := HT.out
    have hcm' : cap ≤ 9223372036854775807 := by unfold maxLen at hcm; exact hcm
    obtain ⟨N, hN⟩ : ∃ N, S.length = N := ⟨_, rfl⟩
    rw [hN] at hnc hSl HO
    rw [hN]
    have HN := Lib.hid hN
    clear ho hg hcm hS hb1 HC hN
    go_wp2_with fail
    refine (sort_any w1 w1 g cap N S HE.out HN.out.symm (by omega)).mono ?_
    rintro e w2 ⟨rfl, S', s1, s2, s3⟩
    have HE2 := Lib.hid s3
    have hl2 : N = S'.length := by rw [s2.length, HN.out]
    have HMG := Lib.hid (dd_merge s1 s2).is
    have HL2 := Lib.hid hl2
    clear s1 s2 s3 hl2 HE
    go_wp2_with fail
    refine (compact_any w1 w2 g cap N S' HE2.out HL2.out hnc (by omega) hcm').mono ?_
    rintro e w3 ⟨rfl, hr3⟩
    have hdl : (dd S').length ≤ cap := by have := dd_len S'; rw [← HL2.out] at this; omega
    have hown := hr3.own HO.out rfl hdl
    have hb3 : Below w.heap.size w w3 := HB1.out.trans (hr3.up.below (fun k hk e => by omega) HB1.out.size)
    rw [HMG.out] at hown
    have HOWN := Lib.hid hown
    have HB3 := Lib.hid hb3
    rw [HMG.out]
    clear hr3 hdl hown hb3 HE2
    go_wp2
    go_ret
    rw [HSS.out]
    exact ⟨_, rfl, HOWN.out, HB3.out⟩
end Go.Proofs.Ytcfgmkiohmbdlaa
