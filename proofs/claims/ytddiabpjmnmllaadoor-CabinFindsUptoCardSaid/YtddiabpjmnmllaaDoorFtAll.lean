/- Seating: All and Free, walked. -/
import Derived.Test.YtddiabpjmnmllaaDoorFtNew
namespace Go.Proofs.YtddiabpjmnmllaaDoor
open Go.RowKit Go.Lib
open Go.Maps (Keyed)
theorem RoomAt.spared {w w' : World} {base p m1 m2 m3 n : Nat} {L : List MSpot} {B : List MSit} (h : RoomAt w base p m1 m2 m3 n L B) (hu : Upd (fun q => q = m2 ∨ q = m3) w w') {b : Nat} (hb : b ≤ base) (hB : b ≤ w.heap.size) : Below b w w' :=
  hu.below (fun k hk e => by have := h.b2; have := h.b3; omega) hB
set_option maxHeartbeats 8000000 in
set_option maxRecDepth 20000 in
theorem all_any (w : World) (m : Int) (A : Option Addr) (n c : Nat) (l : List MRow) (S : Option Addr) (k d : Nat) (q : List MSit) (hr : Rd w w.heap.size 5 A n (catv rowC l)) (hf : ∀ r ∈ l, r.fits) (hs : Rd w w.heap.size 5 S k (catv sitC q)) (hq : ∀ x ∈ q, x.seat.fits) (h40 : q.length ≤ 1099511627776) (hLib : LibAt w m) :
    Calls Tryd.prog 13 #[.slice A n c, .slice S k d] w fun e w' => e = .returned (.int .i64 (allE l q)) ∧ Below w.heap.size w w' := by
  have HR := Lib.hid hr
  have HF := Lib.hid hf
  have HS := Lib.hid hs
  have HQ := Lib.hid hq
  have HLib := Lib.hid hLib
  have HCK := Lib.hid (check_any w m A n c l hr hf hLib)
  obtain ⟨E, hE⟩ : ∃ E, allE l q = E := ⟨_, rfl⟩
  rw [hE]
  have HE := Lib.hid hE
  clear hr hf hs hq hLib hE
  go_enter Tryd.func13, Tryd.ntmps13
  go_wp2_with fail
  refine HCK.out.mono ?_
  rintro e w1 ⟨rfl, hb1⟩
  have HB1 := Lib.hid hb1
  clear hb1 HCK
  unfold errC
  cases hck : checkL l with
  | false =>
    have HE2 : Hid (E = 13) := Lib.hid (by rw [← HE.out]; unfold allE; rw [hck]; rfl)
    simp only [Bool.false_eq_true, if_false]
    go_wp2
    go_ret
    exact ⟨ret_int HE2.out.symm, HB1.out⟩
  | true =>
    have HE2 : Hid (E = sitE (spotsL l) [] q) := Lib.hid (by rw [← HE.out]; unfold allE; rw [hck]; rfl)
    simp only [if_true]
    have hr1 := (HR.out.below HB1.out).mono HB1.out.size
    have HN := Lib.hid (newRoom_any w1 m A n c l hr1 HF.out (HLib.out.below HB1.out))
    clear hr1
    go_wp2_with fail
    refine HN.out.mono ?_
    rintro e w2 ⟨rfl, hR, hb2⟩
    have hs2 : Rd w2 w1.heap.size 5 S k (catv sitC q) := ((HS.out.below HB1.out).mono HB1.out.size).below hb2
    have HM := Lib.hid (sit_any w2 w1.heap.size (w1.heap.size + 3) w1.heap.size (w1.heap.size + 1) (w1.heap.size + 2) 66 (spotsL l) [] S k d q hR hs2 HQ.out (by simpa using h40))
    have HB2 := Lib.hid (HB1.out.trans (hb2.mono HB1.out.size))
    have HRm := Lib.hid hR
    clear hR hb2 hs2 HN
    go_wp2_with fail
    refine HM.out.mono ?_
    rintro e w3 ⟨rfl, -, hu⟩
    have HB3 : Hid (Below w.heap.size w w3) := Lib.hid (HB2.out.trans (HRm.out.spared hu HB1.out.size HB2.out.size))
    clear hu HM
    go_wp2
    go_ret
    exact ⟨ret_int HE2.out.symm, HB3.out⟩
end Go.Proofs.YtddiabpjmnmllaaDoor
