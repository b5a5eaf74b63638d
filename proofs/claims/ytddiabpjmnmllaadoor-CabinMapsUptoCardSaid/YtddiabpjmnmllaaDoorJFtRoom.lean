/- Seating: a room, may somebody sit there? -/
import Derived.Test.YtddiabpjmnmllaaDoorJStep
import Derived.Test.YtddiabpjmnmllaaDoorJFtOne
import Derived.Test.YtddiabpjmnmllaaDoorJCbRSp
import Derived.BigRegion
import Derived.BigQuiet
import Derived.DeepKeys4
namespace Go.Proofs.YtddiabpjmnmllaaDoor
open Go.RowKit Go.Lib
open Go.Maps (Keyed)
theorem seatLaw : WideMaps.KeyLaw Tryd.prog 32 :=
  deep_law_laid (by kernel_rfl) (m := 2) (by omega) (of_decide_eq_true (by kernel_rfl)) (by kernel_rfl) (by rw [Tryd.underlying32])
theorem seatKeyed : Keyed Tryd.prog 32 := Keyed.of_law seatLaw
theorem seatKey (x : MSeat) (h : x.fits) : ∃ kl, keyOf Tryd.prog 32 (seatV x) = some kl := by
  have hc : Tryd.prog.cellsOf 32 = 2 := by kernel_rfl
  have k1 : Tryd.prog.cellsOf 3 = 1 := by kernel_rfl
  have k2 : Tryd.prog.cellsOf 5 = 1 := by kernel_rfl
  have h1 : (Lit.int .i64 x.num).wf = true := by simp [Lit.wf]; exact h
  have h2 : (Lit.int .u8 (x.ltr.toNat : Int)).wf = true := by have := x.ltr.toNat_lt; simp [Lit.wf, show IntKind.u8.min = 0 from rfl, show IntKind.u8.max = 255 from rfl]; omega
  have ht := ChangeShapes.trod_struct2_mk (H := Unit) (enc := fun _ => ()) (P := Tryd.prog) (w := default) (base := 0) (spare := fun _ => true) (held := true) (n := 1) (cs := [.int .i64 x.num, .int .u8 (x.ltr.toNat : Int)])
    (y0 := (.lit (.int .i64 x.num), [])) (y1 := (.lit (.int .u8 (x.ltr.toNat : Int)), [])) Tryd.underlying32 (by rw [hc]; rfl)
    (by simp [k1, DataW.trod, Tryd.underlying3, h1]) (by simp [k2, DataW.trod, Tryd.underlying5, h2])
  exact ⟨_, (keyOf_asKey (by kernel_rfl) (by rw [Tryd.underlying32]) (v := seatV x) (by simp [seatV, Value.formed, Tryd.underlying32, hc]) ⟨2, ht⟩).1⟩
theorem intKeyed : Keyed Tryd.prog 3 := Maps.int_keyed Tryd.underlying3
theorem intKey {x : Int} (h : -9223372036854775808 ≤ x ∧ x ≤ 9223372036854775807) : keyOf Tryd.prog 3 (.int .i64 x) = some (.int .i64 x) :=
  Maps.keyOf_int_mk Tryd.underlying3 (by simp [Lit.wf]; exact h)
theorem intKeyInj : ∀ x y : Int, Value.int .i64 x = Value.int .i64 y → x = y := fun _ _ h => by injection h
theorem zeroI (w : World) : (zeroValue 3).run Tryd.prog w = .ok (.int .i64 0) w := by kernel_rfl
theorem zeroS (w : World) : (zeroValue 35).run Tryd.prog w = .ok (spotV spotZ) w := by kernel_rfl
def SpMap (w : World) (b n : Nat) (L : List MSpot) : Prop := VMap Tryd.prog 32 seatV (spotV spotZ) w b n (fun q => spotV (spotAt L q)) (fun q => (findS L q).isSome)
def TkMap (w : World) (b n : Nat) (B : List MSit) : Prop := ∃ s, VMap Tryd.prog 32 seatV (.int .i64 0) w b n (fun q => .int .i64 (takenN B q : Nat)) s
def InMap (w : World) (b n : Nat) (L : List MSpot) (B : List MSit) : Prop := ∃ s, VMap Tryd.prog 3 (Value.int .i64) (.int .i64 0) w b n (fun q => .int .i64 (infN L B q : Nat)) s
/-- A room: the pointer p, its maps from base on. -/
structure RoomAt (w : World) (base p m1 m2 m3 n : Nat) (L : List MSpot) (B : List MSit) : Prop where
  b1 : base ≤ m1
  b2 : base ≤ m2
  b3 : base ≤ m3
  n12 : m1 ≠ m2
  n13 : m1 ≠ m3
  n23 : m2 ≠ m3
  box : w.heap[p]? = some (.cells #[.map (some m1), .map (some m2), .map (some m3)] 99 (0, 0))
  spots : SpMap w m1 n L
  taken : TkMap w m2 B.length B
  infants : InMap w m3 B.length L B
  blks : ∀ x ∈ L, -9223372036854775808 ≤ x.blk ∧ x.blk ≤ 9223372036854775807
theorem blkOf_fits {L : List MSpot} (h : ∀ x ∈ L, -9223372036854775808 ≤ x.blk ∧ x.blk ≤ 9223372036854775807) (q : MSeat) : -9223372036854775808 ≤ blkOf L q ∧ blkOf L q ≤ 9223372036854775807 := by
  unfold blkOf spotAt
  cases hf : findS L q with
  | none => simp [spotZ]
  | some s => exact h s (findS_some hf).1
theorem RoomAt.upd {S : Nat → Prop} {w w' : World} {base p m1 m2 m3 n : Nat} {L : List MSpot} {B : List MSit} (h : RoomAt w base p m1 m2 m3 n L B) (hu : Upd S w w') (h0 : ¬ S p) (h1 : ¬ S m1) (h2 : ¬ S m2) (h3 : ¬ S m3) : RoomAt w' base p m1 m2 m3 n L B := by
  obtain ⟨s2, t2⟩ := h.taken
  obtain ⟨s3, t3⟩ := h.infants
  exact ⟨h.b1, h.b2, h.b3, h.n12, h.n13, h.n23, box_keep h.box hu h0, h.spots.upd hu h1, ⟨s2, t2.upd hu h2⟩, ⟨s3, t3.upd hu h3⟩, h.blks⟩
theorem RoomAt.below {w w' : World} {base p m1 m2 m3 n : Nat} {L : List MSpot} {B : List MSit} (h : RoomAt w base p m1 m2 m3 n L B) (hb : Below w.heap.size w w') : RoomAt w' base p m1 m2 m3 n L B :=
  h.upd (S := fun _ => False) (Upd.of_below hb) id id id id
def sitV (x : MSit) : Value := .agg #[.int .i64 x.who.cab, .bool x.who.fit, .bool x.who.inf, .int .i64 x.seat.num, .int .u8 (x.seat.ltr.toNat : Int)]
/-- What a room answers, in a world. -/
theorem RoomAt.says {w : World} {base p m1 m2 m3 n : Nat} {L : List MSpot} {B : List MSit} (h : RoomAt w base p m1 m2 m3 n L B) {q : MSeat} (hq : q.fits) :
    (Instr.lookup 95 (.map (some m1)) (.agg #[.int .i64 q.num, .int .u8 (q.ltr.toNat : Int)]) true).run Tryd.prog w = .ok (.tuple #[spotV (spotAt L q), .bool (findS L q).isSome]) w ∧
    (Instr.lookup 96 (.map (some m2)) (.agg #[.int .i64 q.num, .int .u8 (q.ltr.toNat : Int)]) false).run Tryd.prog w = .ok (.int .i64 (takenN B q : Nat)) w ∧
    (Instr.lookup 97 (.map (some m3)) (.int .i64 (blkOf L q)) false).run Tryd.prog w = .ok (.int .i64 (infN L B (blkOf L q) : Nat)) w := by
  obtain ⟨kl, hk⟩ := seatKey q hq
  obtain ⟨s2, t2⟩ := h.taken
  obtain ⟨s3, t3⟩ := h.infants
  refine ⟨?_, ?_, ?_⟩
  · exact VMap.look_ok h.spots seatKeyed Tryd.underlying95 (zeroS w) hk
  · exact t2.look seatKeyed Tryd.underlying96 (zeroI w) hk
  · exact t3.look intKeyed Tryd.underlying97 (zeroI w) (intKey (blkOf_fits h.blks q))
set_option maxHeartbeats 8000000 in
set_option maxRecDepth 20000 in
theorem may_any (w : World) (base p m1 m2 m3 n : Nat) (L : List MSpot) (B : List MSit) (x : MSit) (hR : RoomAt w base p m1 m2 m3 n L B) (hx : x.seat.fits) :
    Calls Tryd.prog 41 #[.pointer (some ⟨p, 0, none⟩), sitV x] w fun e w' => e = .returned (.int .i64 (mayE L B x)) ∧ Below w.heap.size w w' := by
  have HR := Lib.hid hR
  have HX := Lib.hid hx
  obtain ⟨E, hE⟩ : ∃ E, mayE L B x = E := ⟨_, rfl⟩
  have HE := Lib.hid hE
  rw [hE]
  have hp := (Array.getElem?_eq_some_iff.1 hR.box).1
  obtain ⟨W0, hW0⟩ : ∃ W0, W0 = w.alloc (.cells #[.int .i64 x.who.cab, .bool x.who.fit, .bool x.who.inf, .int .i64 x.seat.num, .int .u8 (x.seat.ltr.toNat : Int)] 39) := ⟨_, rfl⟩
  have hb0 : Below w.heap.size w W0 := by rw [hW0]; exact (Below.refl _ w).alloc (Nat.le_refl _) _
  have r0 := hR.below hb0
  clear hR hE hx
  unfold sitV
  go_enter Tryd.func41, Tryd.ntmps41
  go_upto_region 1 with (fail)
  rw [← hW0]
  have hbd : Below w.heap.size w W0.drew := hb0.drew
  have hba : Below w.heap.size w (W0.alloc (.cells #[.int .i64 0, .int .u8 0, .int .i64 0, .int .i64 0, .int .i64 0, .bool false, .bool false] 35)).drew := (hb0.alloc hb0.size _).drew
  obtain ⟨l1, -, -⟩ := (HR.out.below hbd).says HX.out
  obtain ⟨l2, -, -⟩ := (HR.out.below hba).says HX.out
  have x0 : W0.heap[w.heap.size]? = some (.cells #[.int .i64 x.who.cab, .bool x.who.fit, .bool x.who.inf, .int .i64 x.seat.num, .int .u8 (x.seat.ltr.toNat : Int)] 39 (0, 0)) := by rw [hW0]; exact heap_alloc_new w _
  have c0 : W0.cell? ⟨w.heap.size, 3, none⟩ = some (.int .i64 x.seat.num) := by rw [cell_of_row _ _ 3 _ _ _ x0]; rfl
  have c1 : W0.cell? ⟨w.heap.size, 4, none⟩ = some (.int .u8 (x.seat.ltr.toNat : Int)) := by rw [cell_of_row _ _ 4 _ _ _ x0]; rfl
  have c2 : W0.cell? ⟨p, 0, none⟩ = some (.map (some m1)) := by rw [cell_of_row _ _ 0 _ _ _ r0.box]; rfl
  have hp0 : p < W0.heap.size := Nat.lt_of_lt_of_le hp hb0.size
  have hw0 : w.heap.size < W0.heap.size := (Array.getElem?_eq_some_iff.1 x0).1
  obtain ⟨⟨⟨sn, sl⟩, sc, sz, sb, se, sk⟩, hS⟩ : ∃ S, spotAt L x.seat = S := ⟨_, rfl⟩
  obtain ⟨ok, hok⟩ : ∃ ok, (findS L x.seat).isSome = ok := ⟨_, rfl⟩
  rw [hS, hok] at l1 l2
  unfold spotV at l1 l2
  simp only at l1 l2
  have HS := Lib.hid hS
  have HOK := Lib.hid hok
  have HX0 := Lib.hid x0
  have hba0 := hb0
  clear hS hok hW0 x0 r0 hb0 hbd hba
  obtain ⟨W1, hW1⟩ : ∃ W1, W1 = (W0.alloc (.cells #[.int .i64 sn, .int .u8 (sl.toNat : Int), .int .i64 sc, .int .i64 sz, .int .i64 sb, .bool se, .bool sk] 35)).drew := ⟨_, rfl⟩
  go_cut [5, 6] (fun v5 v6 wc => v5 = .pointer (some ⟨W0.heap.size, 0, none⟩) ∧ v6 = .bool ok ∧ wc = W1)
  case first =>
    go_big_region
    all_goals (go_wp2_with fail; go_meet; exact ⟨rfl, rfl, hW1.symm⟩)
  case rest =>
    obtain ⟨rfl, rfl, rfl⟩ := hcut
    have hbW : Below w.heap.size w wc := by rw [hW1]; exact (hba0.alloc hba0.size _).drew
    have s0 : wc.heap[W0.heap.size]? = some (.cells #[.int .i64 sn, .int .u8 (sl.toNat : Int), .int .i64 sc, .int .i64 sz, .int .i64 sb, .bool se, .bool sk] 35 (0, 0)) := by rw [hW1]; exact heap_alloc_new W0 _
    have x1 : wc.heap[w.heap.size]? = some (.cells #[.int .i64 x.who.cab, .bool x.who.fit, .bool x.who.inf, .int .i64 x.seat.num, .int .u8 (x.seat.ltr.toNat : Int)] 39 (0, 0)) := by rw [hW1]; exact (Below.heap_alloc W0 _ _ hw0).trans HX0.out
    have HBW := Lib.hid hbW
    have HS0 := Lib.hid s0
    have HX1 := Lib.hid x1
    have d0 : wc.cell? ⟨W0.heap.size, 0, none⟩ = some (.int .i64 sn) := by rw [cell_of_row _ _ 0 _ _ _ s0]; rfl
    have d1 : wc.cell? ⟨W0.heap.size, 1, none⟩ = some (.int .u8 (sl.toNat : Int)) := by rw [cell_of_row _ _ 1 _ _ _ s0]; rfl
    have d2 : wc.cell? ⟨W0.heap.size, 2, none⟩ = some (.int .i64 sc) := by rw [cell_of_row _ _ 2 _ _ _ s0]; rfl
    have d3 : wc.cell? ⟨W0.heap.size, 3, none⟩ = some (.int .i64 sz) := by rw [cell_of_row _ _ 3 _ _ _ s0]; rfl
    have d4 : wc.cell? ⟨W0.heap.size, 4, none⟩ = some (.int .i64 sb) := by rw [cell_of_row _ _ 4 _ _ _ s0]; rfl
    have d5 : wc.cell? ⟨W0.heap.size, 5, none⟩ = some (.bool se) := by rw [cell_of_row _ _ 5 _ _ _ s0]; rfl
    have d6 : wc.cell? ⟨W0.heap.size, 6, none⟩ = some (.bool sk) := by rw [cell_of_row _ _ 6 _ _ _ s0]; rfl
    have e0 : wc.cell? ⟨w.heap.size, 0, none⟩ = some (.int .i64 x.who.cab) := by rw [cell_of_row _ _ 0 _ _ _ x1]; rfl
    have e1 : wc.cell? ⟨w.heap.size, 1, none⟩ = some (.bool x.who.fit) := by rw [cell_of_row _ _ 1 _ _ _ x1]; rfl
    have e2 : wc.cell? ⟨w.heap.size, 2, none⟩ = some (.bool x.who.inf) := by rw [cell_of_row _ _ 2 _ _ _ x1]; rfl
    clear hW1 hbW s0 x1 c0 c1 c2 l1 l2
    cases ok with
    | false =>
      have HE14 : Hid (E = 14) := Lib.hid (by rw [← HE.out]; unfold mayE; rw [HOK.out]; rfl)
      go_wp2
      go_ret
      exact ⟨ret_int HE14.out.symm, HBW.out⟩
    | true =>
      have HE2 : Hid (E = if oneE x.who (spotAt L x.seat) ≠ 0 then oneE x.who (spotAt L x.seat) else if 0 < takenN B x.seat then 17 else if x.who.inf = true ∧ 1 ≤ infN L B (blkOf L x.seat) then 18 else 0) := Lib.hid (by
        rw [← HE.out]; unfold mayE; rw [HOK.out]; rfl)
      have h1 := one_any wc x.who ⟨⟨sn, sl⟩, sc, sz, sb, se, sk⟩
      rw [← HS.out] at h1
      obtain ⟨O, hO⟩ : ∃ O, oneE x.who (spotAt L x.seat) = O := ⟨_, rfl⟩
      rw [hO] at h1
      have HO := Lib.hid hO
      have H1 := Lib.hid h1
      clear hO h1
      go_wp2_with fail
      have h1 := H1.out
      rw [HS.out] at h1
      refine h1.mono ?_
      rintro e w2 ⟨rfl, hb2⟩
      clear h1 H1
      have hbW2 : Below w.heap.size w w2 := HBW.out.trans (hb2.mono HBW.out.size)
      have HBW2 := Lib.hid hbW2
      have r2 := HR.out.below hbW2
      have s2 := (hb2.block _ (Array.getElem?_eq_some_iff.1 HS0.out).1).trans HS0.out
      have x2 := (hb2.block _ (Array.getElem?_eq_some_iff.1 HX1.out).1).trans HX1.out
      obtain ⟨-, k2, -⟩ := (HR.out.below hbW2.drew).says HX.out
      obtain ⟨-, -, k3⟩ := (HR.out.below hbW2.drew.drew).says HX.out
      have f3 : w2.cell? ⟨W0.heap.size, 4, none⟩ = some (.int .i64 sb) := by rw [cell_of_row _ _ 4 _ _ _ s2]; rfl
      have f4 : w2.cell? ⟨w.heap.size, 2, none⟩ = some (.bool x.who.inf) := by rw [cell_of_row _ _ 2 _ _ _ x2]; rfl
      have f5 : w2.cell? ⟨w.heap.size, 3, none⟩ = some (.int .i64 x.seat.num) := by rw [cell_of_row _ _ 3 _ _ _ x2]; rfl
      have f6 : w2.cell? ⟨w.heap.size, 4, none⟩ = some (.int .u8 (x.seat.ltr.toNat : Int)) := by rw [cell_of_row _ _ 4 _ _ _ x2]; rfl
      have g1 : w2.cell? ⟨p, 1, none⟩ = some (.map (some m2)) := by rw [cell_of_row _ _ 1 _ _ _ r2.box]; rfl
      have g2 : w2.cell? ⟨p, 2, none⟩ = some (.map (some m3)) := by rw [cell_of_row _ _ 2 _ _ _ r2.box]; rfl
      have hbl : blkOf L x.seat = sb := by unfold blkOf; rw [HS.out]
      have hse := HE2.out
      rw [HO.out, hbl] at hse
      rw [hbl] at k3
      obtain ⟨T, hT⟩ : ∃ T, takenN B x.seat = T := ⟨_, rfl⟩
      obtain ⟨I, hI⟩ : ∃ I, infN L B sb = I := ⟨_, rfl⟩
      rw [hT] at k2 hse
      rw [hI] at k3 hse
      have HSE := Lib.hid hse
      clear r2 s2 x2 hbl hse hT hI hbW2 hb2 d0 d1 d2 d3 d4 d5 d6 e0 e1 e2
      by_cases hO : O = 0
      · subst hO
        by_cases hT : 0 < T
        · have dT : decide ((T : Int) > 0) = true := by simp; omega
          have HF : Hid (E = 17) := Lib.hid (by rw [HSE.out]; simp [hT])
          clear HSE
          go_wp2_with fail
          go_big_region
          all_goals (go_wp2; go_ret; exact ⟨ret_int HF.out.symm, HBW2.out.drew⟩)
        · have dT : decide ((T : Int) > 0) = false := by simp; omega
          have HF : Hid (E = if x.who.inf = true ∧ 1 ≤ I then 18 else 0) := Lib.hid (by rw [HSE.out]; simp [hT])
          clear HSE
          obtain ⟨⟨xc, xf, xi⟩, xs⟩ := x
          simp only at *
          cases xi with
          | false =>
            have HF2 : Hid (E = 0) := Lib.hid (by rw [HF.out]; simp)
            clear HF
            go_wp2_with fail
            go_big_region
            all_goals (go_wp2_with fail; go_big_region)
            all_goals (go_wp2; go_ret; exact ⟨ret_int HF2.out.symm, HBW2.out.drew.drew⟩)
          | true =>
            by_cases hI : 1 ≤ I
            · have dI : decide ((I : Int) ≥ 1) = true := by simp; omega
              have HF2 : Hid (E = 18) := Lib.hid (by rw [HF.out]; simp [hI])
              clear HF
              go_wp2_with fail
              go_big_region
              all_goals (go_wp2_with fail; go_big_region)
              all_goals (go_wp2; go_ret; exact ⟨ret_int HF2.out.symm, HBW2.out.drew.drew⟩)
            · have dI : decide ((I : Int) ≥ 1) = false := by simp; omega
              have HF2 : Hid (E = 0) := Lib.hid (by rw [HF.out]; simp [hI])
              clear HF
              go_wp2_with fail
              go_big_region
              all_goals (go_wp2_with fail; go_big_region)
              all_goals (go_wp2; go_ret; exact ⟨ret_int HF2.out.symm, HBW2.out.drew.drew⟩)
      · have HF : Hid (E = O) := Lib.hid (by rw [HSE.out]; simp [hO])
        clear HSE
        go_wp2
        go_ret
        exact ⟨ret_int HF.out.symm, HBW2.out⟩
end Go.Proofs.YtddiabpjmnmllaaDoor
