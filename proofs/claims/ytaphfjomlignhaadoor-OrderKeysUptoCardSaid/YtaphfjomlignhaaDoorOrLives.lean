/- Keys: 'lives', walked. -/
import Derived.Test.YtaphfjomlignhaaDoorOrREnd
import Derived.Test.YtaphfjomlignhaaDoorOrList
namespace Go.Proofs.YtaphfjomlignhaaDoor
open Go.RowKit
/-- What the library's own variable holds, and where. -/
def MaxAt (w : World) (m : Int) : Prop := w.cell? ⟨0, 0, none⟩ = some (.int .i64 m) ∧ 0 < w.heap.size
theorem MaxAt.below {w w' : World} {m : Int} (h : MaxAt w m) (hb : Below w.heap.size w w') : MaxAt w' m :=
  ⟨(hb.cell (p := ⟨0, 0, none⟩) h.2).trans h.1, Nat.lt_of_lt_of_le h.2 hb.size⟩
set_option maxHeartbeats 2000000 in
set_option maxRecDepth 20000 in
theorem olives_any (w : World) (m : Int) (hm : MaxAt w m) : Calls Tryd.prog 9 #[] w fun e w' => e = .returned (.bool true) ∧ Below w.heap.size w w' := by
  have HM := Lib.hid hm
  clear hm
  go_enter Tryd.func9, Tryd.ntmps9
  go_wp2_with fail
  have hbA : Below w.heap.size w (w.alloc (.cells #[.int .i64 1, .int .i64 (-1), .string ⟨#[]⟩, .int .i64 2, .int .i64 0, .string ⟨#[97]⟩] 31)) := (Below.refl _ _).alloc (Nat.le_refl _) _
  have hmA := HM.out.below hbA
  have h1 := key_any (w.alloc (.cells #[.int .i64 1, .int .i64 (-1), .string ⟨#[]⟩, .int .i64 2, .int .i64 0, .string ⟨#[97]⟩] 31)) (some ⟨w.heap.size, 0, none⟩) 2 2 [⟨1, -1, ⟨#[]⟩⟩, ⟨2, 0, ⟨#[97]⟩⟩] m hmA.1 hmA.2
    (by simpa [ptv, Pt.cells] using Rd.new (w := w) (size := 3) (n := 2) #[.int .i64 1, .int .i64 (-1), .string ⟨#[]⟩, .int .i64 2, .int .i64 0, .string ⟨#[97]⟩] 31 rfl) (by decide)
    (by intro x hx; rcases List.mem_cons.1 hx with rfl | hx
        · decide
        · rw [List.mem_singleton.1 hx]; decide) (by decide +kernel)
  rw [key0] at h1
  have HA := Lib.hid hbA
  clear hbA hmA
  refine h1.mono ?_
  rintro e w1 ⟨rfl, hb1⟩
  have HB1 := Lib.hid (bel HA.out hb1)
  clear h1 hb1 HA
  go_wp2_with fail
  have h2 := end_any w1 ⟨#[97, 98]⟩ (by decide)
  have e2 : endF (⟨#[97, 98]⟩ : ByteArray).data.toList = [97, 99] := end0
  rw [e2] at h2
  refine h2.mono ?_
  rintro e w2 ⟨rfl, hb2⟩
  have HB2 := Lib.hid (bel HB1.out hb2)
  clear h2 hb2 HB1 e2
  go_wp2_with fail
  refine (ints_any (w2.alloc (.cells #[.int .i64 1, .int .i64 2] 3)) (some ⟨w2.heap.size, 0, none⟩) 2 2 [1, 2] (by simpa [i64v] using Rd.new (w := w2) (size := 1) (n := 2) #[.int .i64 1, .int .i64 2] 3 rfl) (by decide)).mono ?_
  rintro e w3 ⟨v, rfl, hown, hb3⟩
  obtain ⟨A3, c3, hv3⟩ := own_shape hown
  subst hv3
  have HB3 := Lib.hid (bel (bel HB2.out ((Below.refl w2.heap.size w2).alloc (Nat.le_refl _) (.cells #[.int .i64 1, .int .i64 2] 3))) hb3)
  clear hown hb3 HB2
  go_wp2
  go_ret
  exact ⟨rfl, HB3.out⟩
end Go.Proofs.YtaphfjomlignhaaDoor
