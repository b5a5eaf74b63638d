/- Keys: the small comparisons, walked. -/
import Derived.Test.YtaphfjomlignhaaDoorOrCmpP
namespace Go.Proofs.YtaphfjomlignhaaDoor
open Go.RowKit
def cmpI (x y : Int) : Int := if x < y then -1 else if y < x then 1 else 0
def cmpT (x y : ByteArray) : Int := if Op.bytesLess x.toList y.toList = true then -1 else if (x.toList == y.toList) = true then 0 else 1
set_option maxHeartbeats 400000 in
theorem rcmpi_any (w : World) (x y : Int) : Calls Tryd.prog 33 #[.int .i64 x, .int .i64 y] w fun e w' => e = .returned (.int .i64 (cmpI x y)) ∧ w' = w := by
  unfold cmpI
  by_cases h1 : x < y
  · rw [if_pos h1]
    go_enter Tryd.func33, Tryd.ntmps33
    go_wp2
    go_ret
    exact ⟨rfl, rfl⟩
  · rw [if_neg h1]
    by_cases h2 : y < x
    · rw [if_pos h2]
      go_enter Tryd.func33, Tryd.ntmps33
      go_wp2
      go_ret
      exact ⟨rfl, rfl⟩
    · rw [if_neg h2]
      go_enter Tryd.func33, Tryd.ntmps33
      go_wp2
      go_ret
      exact ⟨rfl, rfl⟩
set_option maxHeartbeats 400000 in
theorem rcmpt_any (w : World) (x y : ByteArray) : Calls Tryd.prog 34 #[.string x, .string y] w fun e w' => e = .returned (.int .i64 (cmpT x y)) ∧ w' = w := by
  unfold cmpT
  cases h1 : Op.bytesLess x.toList y.toList with
  | true =>
    rw [if_pos rfl]
    go_enter Tryd.func34, Tryd.ntmps34
    go_wp2
    go_ret
    exact ⟨rfl, rfl⟩
  | false =>
    rw [if_neg (by decide)]
    cases h2 : (x.toList == y.toList) with
    | true =>
      rw [if_pos rfl]
      go_enter Tryd.func34, Tryd.ntmps34
      go_wp2
      go_ret
      exact ⟨rfl, rfl⟩
    | false =>
      rw [if_neg (by decide)]
      go_enter Tryd.func34, Tryd.ntmps34
      go_wp2
      go_ret
      exact ⟨rfl, rfl⟩
theorem nan_any (w : World) (x : Int) : Calls Tryd.prog 38 #[.int .i64 x] w fun e w' => e = .returned (.bool false) ∧ w' = w := by
  go_enter Tryd.func38, Tryd.ntmps38
  go_wp2
  go_ret
  exact ⟨rfl, rfl⟩
set_option maxHeartbeats 400000 in
theorem cmpi_any (w : World) (x y : Int) : Calls Tryd.prog 31 #[.int .i64 x, .int .i64 y] w fun e w' => e = .returned (.int .i64 (cmpI x y)) ∧ w' = w := by
  have HN := Lib.hid nan_any
  have HE : Hid (∀ b : Int, b = cmpI x y → Ending.returned (.int .i64 b) = .returned (.int .i64 (cmpI x y))) := Lib.hid fun b h => by rw [h]
  have E1 := Lib.hid (fun h : x < y => (show (-1 : Int) = cmpI x y by unfold cmpI; rw [if_pos h]))
  have E2 := Lib.hid (fun (h : ¬ x < y) (h2 : y < x) => (show (1 : Int) = cmpI x y by unfold cmpI; rw [if_neg h, if_pos h2]))
  have E3 := Lib.hid (fun (h : ¬ x < y) (h2 : ¬ y < x) => (show (0 : Int) = cmpI x y by unfold cmpI; rw [if_neg h, if_neg h2]))
  go_enter Tryd.func31, Tryd.ntmps31
  go_wp2_with fail
  refine (HN.out _ x).mono ?_
  rintro e w1 ⟨rfl, rfl⟩
  go_wp2_with fail
  refine (HN.out _ y).mono ?_
  rintro e w2 ⟨rfl, rfl⟩
  by_cases h1 : x < y
  · go_wp2
    go_ret
    exact ⟨HE.out _ (E1.out h1), rfl⟩
  · by_cases h2 : y < x
    · go_wp2
      go_ret
      exact ⟨HE.out _ (E2.out h1 h2), rfl⟩
    · go_wp2
      go_ret
      exact ⟨HE.out _ (E3.out h1 h2), rfl⟩
end Go.Proofs.YtaphfjomlignhaaDoor
