/- Matchings: Cover and Short, walked. -/
import Derived.Test.YtkhboengcbgooaaMtReached
namespace Go.Proofs.Ytkhboengcbgooaa
open Go.RowKit
theorem OwnQ.mono {w : World} {base base' : Nat} {v : Value} {T : List Nat} (h : OwnQ w base v T) (hb : base' ≤ base) : OwnQ w base' v T := by
  rcases h with hn | ⟨g, off, cap, cur, rfl, h1, rest⟩
  · exact .inl hn
  · exact .inr ⟨g, off, cap, cur, rfl, Nat.le_trans hb h1, rest⟩
theorem OwnQ.below {w w' : World} {base : Nat} {v : Value} {T : List Nat} (h : OwnQ w base v T) (hb : Below w.heap.size w w') : OwnQ w' base v T :=
  h.upd (S := fun _ => False) (Upd.of_below hb) (fun _ _ h => h)
/-- What 'Short' answers. -/
def ShortAns (n m : Int) (l : List Eg) (w : World) (e : Ending) (w' : World) : Prop :=
  (GoodG n m l ∧ ∃ (n0 m0 : Nat) (s : PSt) (xa bs : List Int) (v : Value), n = n0 ∧ m = m0 ∧ SolveOut (natE l) n0 m0 s ∧ ReachOut (natE l) n0 m0 s.of s.wi xa bs ∧ e = .returned (.tuple #[v, .int .i64 0]) ∧ OwnQ w' w.heap.size v (placesN xa 1)) ∨
    (¬ GoodG n m l ∧ e = .returned (.tuple #[.slice none 0 0, .int .i64 19]))
set_option maxHeartbeats 4000000 in
theorem short_any (w : World) (n m : Int) (A : Option Addr) (k c : Nat) (l : List Eg) (hr : Rd w w.heap.size 2 A k (edgv l)) :
    Calls Try.prog 12 #[.int .i64 n, .int .i64 m, .slice A k c] w fun e w' => ShortAns n m l w e w' ∧ Below w.heap.size w w' := by
  have HKL := Lib.hid (rd_edglen hr)
  go_enter Try.func12, Try.ntmps12
  go_wp2_with fail
  refine (solve_all _ n m A k c l hr).mono ?_
  rintro e w1 (⟨n0, m0, rfl, rfl, hn, hm, hk, hg, B, P, G, N, O, W, D, s, rfl, hwB, hA, hS, hall, hb⟩ | ⟨hng, rfl, hb⟩)
  · have HS := Lib.hid hS
    have HG := Lib.hid hg
    have HRC := Lib.hid (reached_any w1 B P G N O W D n0 m0 l s hn hm hA hS hall (by have := HKL.out; omega))
    clear hr hA hS hall hg
    go_wp2_with fail
    refine HRC.out.mono ?_
    rintro e w2 ⟨RA, RB, xa, bs, rfl, hia, hib, hro, hb2⟩
    have HRO := Lib.hid hro
    have hla := hro.ba.1
    clear hro HRC
    have HP := Lib.hid (places_any w2 RA n0 xa 1 hia hla hn)
    have hb3 := hb.trans (hb2.mono hb.size)
    have hz2 : w.heap.size ≤ w2.heap.size := Nat.le_trans hb.size hb2.size
    clear hb hb2 hia hib hla
    go_wp2_with fail
    refine HP.out.mono ?_
    rintro e w3 ⟨v, rfl, hq, hb4⟩
    have HQ := Lib.hid (hq.mono hz2)
    clear hq HP
    go_wp2
    go_ret2
    exact ⟨.inl ⟨HG.out, n0, m0, s, xa, bs, v, rfl, rfl, HS.out, HRO.out, rfl, HQ.out⟩, hb3.trans (hb4.mono hz2)⟩
  · have HNG := Lib.hid hng
    clear hng hr
    go_wp2
    go_ret2
    exact ⟨.inr ⟨HNG.out, rfl⟩, hb⟩
/-- What 'Cover' answers. -/
def CoverAns (n m : Int) (l : List Eg) (w : World) (e : Ending) (w' : World) : Prop :=
  (GoodG n m l ∧ ∃ (n0 m0 : Nat) (s : PSt) (xa bs : List Int) (v u : Value), n = n0 ∧ m = m0 ∧ SolveOut (natE l) n0 m0 s ∧ ReachOut (natE l) n0 m0 s.of s.wi xa bs ∧ e = .returned (.tuple #[v, u, .int .i64 0]) ∧ OwnQ w' w.heap.size v (placesN xa 0) ∧ OwnQ w' w.heap.size u (placesN bs 1)) ∨
    (¬ GoodG n m l ∧ e = .returned (.tuple #[.slice none 0 0, .slice none 0 0, .int .i64 19]))
set_option maxHeartbeats 8000000 in
set_option maxRecDepth 20000 in
theorem cover_any (w : World) (n m : Int) (A : Option Addr) (k c : Nat) (l : List Eg) (hr : Rd w w.heap.size 2 A k (edgv l)) :
    Calls Try.prog 15 #[.int .i64 n, .int .i64 m, .slice A k c] w fun e w' => CoverAns n m l w e w' ∧ Below w.heap.size w w' := by
  have HKL := Lib.hid (rd_edglen hr)
  go_enter Try.func15, Try.ntmps15
  go_wp2_with fail
  refine (solve_all _ n m A k c l hr).mono ?_
  rintro e w1 (⟨n0, m0, rfl, rfl, hn, hm, hk, hg, B, P, G, N, O, W, D, s, rfl, hwB, hA, hS, hall, hb⟩ | ⟨hng, rfl, hb⟩)
  · have HS := Lib.hid hS
    have HG := Lib.hid hg
    have HRC := Lib.hid (reached_any w1 B P G N O W D n0 m0 l s hn hm hA hS hall (by have := HKL.out; omega))
    clear hr hA hS hall hg
    go_wp2_with fail
    refine HRC.out.mono ?_
    rintro e w2 ⟨RA, RB, xa, bs, rfl, hia, hib, hro, hb2⟩
    have HRO := Lib.hid hro
    have hla := hro.ba.1
    have hlb := hro.bb.1
    have hra := hia.lt
    have hrb := hib.lt
    have HCA : Hid (∀ V, Below w2.heap.size w2 V → Calls Try.prog 18 #[.slice (some ⟨RA, 0, none⟩) n0 n0, .int .i64 0] V (fun e w' => ∃ v, e = .returned v ∧ Below w2.heap.size w2 w' ∧ OwnQ w' w2.heap.size v (placesN xa 0) ∧ Below V.heap.size V w')) := Lib.hid fun V hV => by
      refine (places_any V RA n0 xa 0 (hia.below hV hra) hla hn).mono ?_
      rintro e w' ⟨v, rfl, hq, hbv⟩
      exact ⟨v, rfl, hV.trans (hbv.mono hV.size), hq.mono hV.size, hbv⟩
    have HCB : Hid (∀ V, Below w2.heap.size w2 V → Calls Try.prog 18 #[.slice (some ⟨RB, 0, none⟩) m0 m0, .int .i64 1] V (fun e w' => ∃ v, e = .returned v ∧ Below w2.heap.size w2 w' ∧ OwnQ w' w2.heap.size v (placesN bs 1) ∧ Below V.heap.size V w')) := Lib.hid fun V hV => by
      refine (places_any V RB m0 bs 1 (hib.below hV hrb) hlb hm).mono ?_
      rintro e w' ⟨v, rfl, hq, hbv⟩
      exact ⟨v, rfl, hV.trans (hbv.mono hV.size), hq.mono hV.size, hbv⟩
    have hb3 := hb.trans (hb2.mono hb.size)
    have hz2 : w.heap.size ≤ w2.heap.size := Nat.le_trans hb.size hb2.size
    clear hro HRC hb hb2 hia hib hla hlb hra hrb
    go_wp2_with fail
    refine (HCA.out _ (Below.refl _ _)).mono ?_
    rintro e w3 ⟨v, rfl, hv1, hv2, _⟩
    have HV := Lib.hid hv2
    have HV1 := Lib.hid hv1
    clear hv1 hv2 HCA
    go_wp2_with fail
    refine (HCB.out _ HV1.out).mono ?_
    rintro e w4 ⟨u, rfl, hu1, hu2, hu3⟩
    have HA4 := Lib.hid ((HV.out.below hu3).mono hz2)
    have HB4 := Lib.hid (hu2.mono hz2)
    have HBB := Lib.hid (hb3.trans (hu1.mono hz2))
    clear hu1 hu2 hu3 HCB hb3
    go_wp2
    go_ret3
    exact ⟨.inl ⟨HG.out, n0, m0, s, xa, bs, v, u, rfl, rfl, HS.out, HRO.out, rfl, HA4.out, HB4.out⟩, HBB.out⟩
  · have HNG := Lib.hid hng
    clear hng hr
    go_wp2
    go_ret3
    exact ⟨.inr ⟨HNG.out, rfl⟩, hb⟩
end Go.Proofs.Ytkhboengcbgooaa
