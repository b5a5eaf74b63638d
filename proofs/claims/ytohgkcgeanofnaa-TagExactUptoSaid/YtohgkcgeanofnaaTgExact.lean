/- Digests: TagExact, walked. -/
import Derived.Test.YtohgkcgeanofnaaTgRMac
namespace Go.Proofs.Ytohgkcgeanofnaa
open Go.RowKit
set_option maxHeartbeats 4000000 in
set_option maxRecDepth 20000 in
theorem exact_any (w : World) (key text : ByteArray) (hk : key.size ≤ 1099511627776) (ht : text.size ≤ 1099511627776) :
    Calls Try.prog 3 #[.string key, .string text] w fun e w' => e = .returned (.bool true) ∧ Below w.heap.size w w' := by
  go_enter Try.func3, Try.ntmps3
  go_wp2_with fail
  refine (lives_any w).mono ?_
  rintro e w1 ⟨rfl, hb1⟩
  go_wp2_with fail
  refine (sum1_any w1 text (by omega)).mono ?_
  rintro e w2 ⟨rfl, hb2⟩
  go_wp2_with fail
  refine (rsum_any w2 text (by omega)).mono ?_
  rintro e w3 ⟨rfl, hb3⟩
  go_wp2_with fail
  refine (mac1_any w3 key text (by omega) (by omega)).mono ?_
  rintro e w4 ⟨rfl, hb4⟩
  go_wp2_with fail
  refine (rmac_any w4 key text (by omega) (by omega)).mono ?_
  rintro e w5 ⟨rfl, hb5⟩
  go_wp2_with fail
  refine (hex_any w5 text (by omega)).mono ?_
  rintro e w6 ⟨rfl, hb6⟩
  go_wp2_with fail
  refine (rhex_any w6 text (by omega)).mono ?_
  rintro e w7 ⟨rfl, hb7⟩
  go_wp2
  go_ret
  exact ⟨rfl, bel (bel (bel (bel (bel (bel hb1 hb2) hb3) hb4) hb5) hb6) hb7⟩
end Go.Proofs.Ytohgkcgeanofnaa
