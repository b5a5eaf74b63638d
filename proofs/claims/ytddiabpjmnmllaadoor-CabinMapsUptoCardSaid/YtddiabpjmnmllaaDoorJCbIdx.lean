/- Seats, and people, compared. -/
import Derived.Test.YtddiabpjmnmllaaDoorJFtOne
import Derived.Test.YtddiabpjmnmllaaDoorJFtRef
import Derived.BigQuiet
namespace Go.Proofs.YtddiabpjmnmllaaDoor
open Go.RowKit Go.Lib
theorem fldSeat : Tryd.prog.underlying 32 = some (.struct (Tryd.prog.fieldsOf 32)) := by kernel_rfl
theorem hldSeat : Tryd.prog.stoodInHeld 32 = false := by kernel_rfl
theorem fldWho : Tryd.prog.underlying 24 = some (.struct (Tryd.prog.fieldsOf 24)) := by kernel_rfl
theorem hldWho : Tryd.prog.stoodInHeld 24 = false := by kernel_rfl
theorem seat_eqIn (w : World) (a b : MSeat) : (Op.equalIn 10000 32 (.agg #[.int .i64 a.num, .int .u8 (a.ltr.toNat : Int)]) (.agg #[.int .i64 b.num, .int .u8 (b.ltr.toNat : Int)])).run Tryd.prog w = .ok (decide (a = b)) w := by
  have u3 := Tryd.underlying3
  have u5 := Tryd.underlying5
  rw [show (10000 : Nat) = 9999 + 1 from rfl, run_equalIn_agg w 9999 32 _ _ fldSeat hldSeat]
  simp only [Program.fieldsOf, Tryd.underlying32]
  obtain ⟨an, al⟩ := a
  obtain ⟨bn, bl⟩ := b
  go_simp
  have e : al ≠ bl → ¬ al.toNat = bl.toNat := fun h h' => h (UInt8.toNat_inj.1 h')
  by_cases h1 : an = bn <;> by_cases h2 : al = bl <;> simp [h1, h2]
  exact fun h => e h2 (by omega)
theorem seat_eql (w : World) (a b : MSeat) : (binOp .eql 32 (.agg #[.int .i64 a.num, .int .u8 (a.ltr.toNat : Int)]) (.agg #[.int .i64 b.num, .int .u8 (b.ltr.toNat : Int)])).run Tryd.prog w = .ok (.bool (decide (a = b))) w := by
  rw [run_eql_struct, seat_eqIn]; rfl
theorem seat_neq (w : World) (a b : MSeat) : (binOp .neq 32 (.agg #[.int .i64 a.num, .int .u8 (a.ltr.toNat : Int)]) (.agg #[.int .i64 b.num, .int .u8 (b.ltr.toNat : Int)])).run Tryd.prog w = .ok (.bool (!decide (a = b))) w := by
  rw [run_neq_struct, seat_eqIn]; rfl
theorem who_eqIn (w : World) (a b : MWho) : (Op.equalIn 10000 24 (.agg #[.int .i64 a.cab, .bool a.fit, .bool a.inf]) (.agg #[.int .i64 b.cab, .bool b.fit, .bool b.inf])).run Tryd.prog w = .ok (decide (a = b)) w := by
  have u3 := Tryd.underlying3
  have u4 := Tryd.underlying4
  rw [show (10000 : Nat) = 9999 + 1 from rfl, run_equalIn_agg w 9999 24 _ _ fldWho hldWho]
  simp only [Program.fieldsOf, Tryd.underlying24]
  obtain ⟨ac, af, ai⟩ := a
  obtain ⟨bc, bf, bi⟩ := b
  go_simp
  by_cases h1 : ac = bc <;> by_cases h2 : af = bf <;> by_cases h3 : ai = bi <;> simp [h1, h2, h3]
theorem who_neq (w : World) (a b : MWho) : (binOp .neq 24 (.agg #[.int .i64 a.cab, .bool a.fit, .bool a.inf]) (.agg #[.int .i64 b.cab, .bool b.fit, .bool b.inf])).run Tryd.prog w = .ok (.bool (!decide (a = b))) w := by
  rw [run_neq_struct, who_eqIn]; rfl
end Go.Proofs.YtddiabpjmnmllaaDoor
/- Cabins: the place of a seat, walked. -/
namespace Go.Proofs.YtddiabpjmnmllaaDoor
open Go.RowKit Go.Lib
/-- The place of the first spot with that seat; -1: there is none. -/
def idxGo (q : MSeat) : Nat → List MSpot → Int
  | _, [] => -1
  | i, x :: t => if x.seat = q then (i : Int) else idxGo q (i + 1) t
def idxS (L : List MSpot) (q : MSeat) : Int := idxGo q 0 L
theorem idxGo_cases (q : MSeat) : ∀ (L : List MSpot) (i : Nat), (idxGo q i L = -1 ∧ findS L q = none) ∨ ∃ j : Nat, idxGo q i L = ((i + j : Nat) : Int) ∧ ∃ h : j < L.length, L[j].seat = q ∧ findS L q = some L[j] := by
  intro L
  induction L with
  | nil => intro i; exact .inl ⟨rfl, rfl⟩
  | cons x t ih =>
    intro i
    simp only [idxGo]
    by_cases e : x.seat = q
    · rw [if_pos e]
      exact .inr ⟨0, rfl, by simp, by simpa using e, by simp [findS, e]⟩
    · rw [if_neg e]
      rcases ih (i + 1) with ⟨h1, h2⟩ | ⟨j, h1, h, h2, h3⟩
      · exact .inl ⟨h1, by simp [findS] at h2 ⊢; exact ⟨e, h2⟩⟩
      · exact .inr ⟨j + 1, by rw [h1]; congr 1; omega, by simpa using h, by simpa using h2, by
          unfold findS at h3 ⊢
          rw [List.find?_cons, decide_eq_false e]
          simpa using h3⟩
theorem idxS_cases (L : List MSpot) (q : MSeat) : (idxS L q = -1 ∧ findS L q = none) ∨ ∃ j : Nat, idxS L q = (j : Int) ∧ ∃ h : j < L.length, L[j].seat = q ∧ findS L q = some L[j] := by
  rcases idxGo_cases q L 0 with h | ⟨j, h1, h⟩
  · exact .inl h
  · exact .inr ⟨j, by rw [Nat.zero_add] at h1; exact h1, h⟩
theorem idxGo_drop {q : MSeat} {L : List MSpot} {j : Nat} (hj : j < L.length) : idxGo q j (L.drop j) = if L[j].seat = q then (j : Int) else idxGo q (j + 1) (L.drop (j + 1)) := by
  rw [List.drop_eq_getElem_cons hj]; rfl
/-- A closure that asks for a seat. -/
def AsksSeat (g : Nat) : Prop := ∀ (w : World) (s : MSpot) (q : MSeat) (pb : Nat), pb < w.heap.size → w.cell? ⟨pb, 0, none⟩ = some (.int .i64 q.num) → w.cell? ⟨pb, 1, none⟩ = some (.int .u8 (q.ltr.toNat : Int)) →
  Calls Tryd.prog g #[spotV s, .pointer (some ⟨pb, 0, none⟩)] w fun e w' => e = .returned (.bool (decide (s.seat = q))) ∧ Below w.heap.size w w'
set_option maxHeartbeats 4000000 in
set_option maxRecDepth 20000 in
theorem asks1 : AsksSeat 49 := by
  intro w s q pb hpb h0 h1
  obtain ⟨⟨sn, sl⟩, sc, sz, sb, se, sk⟩ := s
  obtain ⟨qn, ql⟩ := q
  obtain ⟨eqb, heqb⟩ : ∃ eqb, decide ((⟨sn, sl⟩ : MSeat) = ⟨qn, ql⟩) = eqb := ⟨_, rfl⟩
  have hse : ∀ V : World, (Op.equalIn 10000 32 (.agg #[.int .i64 sn, .int .u8 (sl.toNat : Int)]) (.agg #[.int .i64 qn, .int .u8 (ql.toNat : Int)])).run Tryd.prog V = .ok eqb V := fun V => by rw [← heqb]; exact seat_eqIn V ⟨sn, sl⟩ ⟨qn, ql⟩
  simp only at h0 h1 ⊢
  rw [heqb]
  have hbw : Below w.heap.size w (w.alloc (.cells #[.int .i64 sn, .int .u8 (sl.toNat : Int), .int .i64 sc, .int .i64 sz, .int .i64 sb, .bool se, .bool sk] 35)) := (Below.refl _ w).alloc (Nat.le_refl _) _
  have HBW := Lib.hid hbw
  clear heqb hbw
  unfold spotV
  simp only
  go_enter Tryd.func49, Tryd.ntmps49
  go_wp2
  go_ret
  exact ⟨rfl, HBW.out⟩
set_option maxHeartbeats 4000000 in
set_option maxRecDepth 20000 in
theorem asks2 : AsksSeat 50 := by
  intro w s q pb hpb h0 h1
  obtain ⟨⟨sn, sl⟩, sc, sz, sb, se, sk⟩ := s
  obtain ⟨qn, ql⟩ := q
  obtain ⟨eqb, heqb⟩ : ∃ eqb, decide ((⟨sn, sl⟩ : MSeat) = ⟨qn, ql⟩) = eqb := ⟨_, rfl⟩
  have hse : ∀ V : World, (Op.equalIn 10000 32 (.agg #[.int .i64 sn, .int .u8 (sl.toNat : Int)]) (.agg #[.int .i64 qn, .int .u8 (ql.toNat : Int)])).run Tryd.prog V = .ok eqb V := fun V => by rw [← heqb]; exact seat_eqIn V ⟨sn, sl⟩ ⟨qn, ql⟩
  simp only at h0 h1 ⊢
  rw [heqb]
  have hbw : Below w.heap.size w (w.alloc (.cells #[.int .i64 sn, .int .u8 (sl.toNat : Int), .int .i64 sc, .int .i64 sz, .int .i64 sb, .bool se, .bool sk] 35)) := (Below.refl _ w).alloc (Nat.le_refl _) _
  have HBW := Lib.hid hbw
  clear heqb hbw
  unfold spotV
  simp only
  go_enter Tryd.func50, Tryd.ntmps50
  go_wp2
  go_ret
  exact ⟨rfl, HBW.out⟩
set_option maxHeartbeats 4000000 in
set_option maxRecDepth 20000 in
theorem asks3 : AsksSeat 51 := by
  intro w s q pb hpb h0 h1
  obtain ⟨⟨sn, sl⟩, sc, sz, sb, se, sk⟩ := s
  obtain ⟨qn, ql⟩ := q
  obtain ⟨eqb, heqb⟩ : ∃ eqb, decide ((⟨sn, sl⟩ : MSeat) = ⟨qn, ql⟩) = eqb := ⟨_, rfl⟩
  have hse : ∀ V : World, (Op.equalIn 10000 32 (.agg #[.int .i64 sn, .int .u8 (sl.toNat : Int)]) (.agg #[.int .i64 qn, .int .u8 (ql.toNat : Int)])).run Tryd.prog V = .ok eqb V := fun V => by rw [← heqb]; exact seat_eqIn V ⟨sn, sl⟩ ⟨qn, ql⟩
  simp only at h0 h1 ⊢
  rw [heqb]
  have hbw : Below w.heap.size w (w.alloc (.cells #[.int .i64 sn, .int .u8 (sl.toNat : Int), .int .i64 sc, .int .i64 sz, .int .i64 sb, .bool se, .bool sk] 35)) := (Below.refl _ w).alloc (Nat.le_refl _) _
  have HBW := Lib.hid hbw
  clear heqb hbw
  unfold spotV
  simp only
  go_enter Tryd.func51, Tryd.ntmps51
  go_wp2
  go_ret
  exact ⟨rfl, HBW.out⟩
set_option maxHeartbeats 4000000 in
set_option maxRecDepth 20000 in
theorem index1 (w : World) (A : Option Addr) (n c : Nat) (L : List MSpot) (q : MSeat) (pb : Nat) (hr : Rd w w.heap.size 7 A n (catv spotC L)) (hpb : pb < w.heap.size) (h0 : w.cell? ⟨pb, 0, none⟩ = some (.int .i64 q.num)) (h1 : w.cell? ⟨pb, 1, none⟩ = some (.int .u8 (q.ltr.toNat : Int))) (hn : n ≤ 1099511627776) :
    Calls Tryd.prog 48 #[.slice A n c, .func (.func 49) #[] #[.pointer (some ⟨pb, 0, none⟩)]] w fun e w' => e = .returned (.int .i64 (idxS L q)) ∧ Below w.heap.size w w' := by
  obtain rfl := rd_catlen spotC_len (by decide) hr
  obtain ⟨E, hE⟩ : ∃ E, idxS L q = E := ⟨_, rfl⟩
  rw [hE]
  have HE : Hid (E = idxGo q 0 (L.drop 0)) := Lib.hid hE.symm
  have HR := Lib.hid hr
  have HG : Hid (∀ (V : World) (s : MSpot), Below w.heap.size w V → Calls Tryd.prog 49 #[spotV s, .pointer (some ⟨pb, 0, none⟩)] V fun e w' => e = .returned (.bool (decide (s.seat = q))) ∧ Below V.heap.size V w') := Lib.hid (fun V s hV => asks1 V s q pb (Nat.lt_of_lt_of_le hpb hV.size) ((hV.cell (p := ⟨pb, 0, none⟩) hpb).trans h0) ((hV.cell (p := ⟨pb, 1, none⟩) hpb).trans h1))
  clear hr hpb h0 h1 hE
  go_enter Tryd.func48, Tryd.ntmps48
  go_wp2
  go_loopw [8] (fun iv wx => ∃ j : Nat, j ≤ L.length ∧ iv = .int .i64 (j : Int) ∧ Hid (E = idxGo q j (L.drop j)) ∧ Hid (Below w.heap.size w wx)) (fun iv _ => L.length - (intOf iv).toNat)
  case atStart => exact ⟨0, Nat.zero_le _, rfl, HE, Lib.hid (Below.refl _ _)⟩
  case round =>
    obtain ⟨j, hj, rfl, hG, hB⟩ := hrel
    by_cases hlt : j < L.length
    · obtain ⟨gb, off, rfl, hgb, hs, hcc⟩ := (HR.out.below hB.out).elem spotC_len (by decide) hlt
      have hG2 := hG.out
      rw [idxGo_drop hs] at hG2
      obtain ⟨s, hss⟩ : ∃ s, L[j] = s := ⟨_, rfl⟩
      rw [hss] at hcc hG2
      have hC := HG.out wr s hB.out
      obtain ⟨R, hR⟩ : ∃ R, decide (s.seat = q) = R := ⟨_, rfl⟩
      rw [hR] at hC
      have HRR := Lib.hid hR
      have HGG := Lib.hid hG2
      obtain ⟨⟨sn, sl⟩, sc, sz, sb, se, sk⟩ := s
      have c0 := hcc 0 _ rfl
      have c1 := hcc 1 _ rfl
      have c2 := hcc 2 _ rfl
      have c3 := hcc 3 _ rfl
      have c4 := hcc 4 _ rfl
      have c5 := hcc 5 _ rfl
      have c6 := hcc 6 _ rfl
      rw [Nat.add_zero] at c0
      unfold spotV at hC
      simp only at hC
      have HC := Lib.hid hC
      clear hcc hG hG2 hss hR hC
      go_wp2_with fail
      refine HC.out.mono ?_
      rintro e w2 ⟨rfl, hb2⟩
      have HB2 := Lib.hid (hB.out.trans (hb2.mono hB.out.size))
      clear HC hb2 c0 c1 c2 c3 c4 c5 c6
      cases R with
      | true =>
        have HF : Hid (E = (j : Int)) := Lib.hid (by rw [HGG.out, if_pos (of_decide_eq_true HRR.out)])
        clear HGG HRR
        go_wp2
        go_ret
        exact ⟨ret_int HF.out.symm, HB2.out⟩
      | false =>
        have HF : Hid (E = idxGo q (j + 1) (L.drop (j + 1))) := Lib.hid (by rw [HGG.out, if_neg (of_decide_eq_false HRR.out)])
        clear HGG HRR
        go_wp2
        go_roundw
        case rel => exact ⟨j + 1, by omega, by go_num, HF, HB2⟩
        case measure => simp [intOf]; omega
    · have hlz : ¬ (j : Int) < (L.length : Int) := by omega
      have hG2 := hG.out
      rw [List.drop_eq_nil_of_le (by omega)] at hG2
      have HG2 := Lib.hid hG2
      clear hG hG2
      go_wp2
      go_ret
      exact ⟨ret_int HG2.out.symm, hB.out⟩
set_option maxHeartbeats 4000000 in
set_option maxRecDepth 20000 in
theorem index2 (w : World) (A : Option Addr) (n c : Nat) (L : List MSpot) (q : MSeat) (pb : Nat) (hr : Rd w w.heap.size 7 A n (catv spotC L)) (hpb : pb < w.heap.size) (h0 : w.cell? ⟨pb, 0, none⟩ = some (.int .i64 q.num)) (h1 : w.cell? ⟨pb, 1, none⟩ = some (.int .u8 (q.ltr.toNat : Int))) (hn : n ≤ 1099511627776) :
    Calls Tryd.prog 48 #[.slice A n c, .func (.func 50) #[] #[.pointer (some ⟨pb, 0, none⟩)]] w fun e w' => e = .returned (.int .i64 (idxS L q)) ∧ Below w.heap.size w w' := by
  obtain rfl := rd_catlen spotC_len (by decide) hr
  obtain ⟨E, hE⟩ : ∃ E, idxS L q = E := ⟨_, rfl⟩
  rw [hE]
  have HE : Hid (E = idxGo q 0 (L.drop 0)) := Lib.hid hE.symm
  have HR := Lib.hid hr
  have HG : Hid (∀ (V : World) (s : MSpot), Below w.heap.size w V → Calls Tryd.prog 50 #[spotV s, .pointer (some ⟨pb, 0, none⟩)] V fun e w' => e = .returned (.bool (decide (s.seat = q))) ∧ Below V.heap.size V w') := Lib.hid (fun V s hV => asks2 V s q pb (Nat.lt_of_lt_of_le hpb hV.size) ((hV.cell (p := ⟨pb, 0, none⟩) hpb).trans h0) ((hV.cell (p := ⟨pb, 1, none⟩) hpb).trans h1))
  clear hr hpb h0 h1 hE
  go_enter Tryd.func48, Tryd.ntmps48
  go_wp2
  go_loopw [8] (fun iv wx => ∃ j : Nat, j ≤ L.length ∧ iv = .int .i64 (j : Int) ∧ Hid (E = idxGo q j (L.drop j)) ∧ Hid (Below w.heap.size w wx)) (fun iv _ => L.length - (intOf iv).toNat)
  case atStart => exact ⟨0, Nat.zero_le _, rfl, HE, Lib.hid (Below.refl _ _)⟩
  case round =>
    obtain ⟨j, hj, rfl, hG, hB⟩ := hrel
    by_cases hlt : j < L.length
    · obtain ⟨gb, off, rfl, hgb, hs, hcc⟩ := (HR.out.below hB.out).elem spotC_len (by decide) hlt
      have hG2 := hG.out
      rw [idxGo_drop hs] at hG2
      obtain ⟨s, hss⟩ : ∃ s, L[j] = s := ⟨_, rfl⟩
      rw [hss] at hcc hG2
      have hC := HG.out wr s hB.out
      obtain ⟨R, hR⟩ : ∃ R, decide (s.seat = q) = R := ⟨_, rfl⟩
      rw [hR] at hC
      have HRR := Lib.hid hR
      have HGG := Lib.hid hG2
      obtain ⟨⟨sn, sl⟩, sc, sz, sb, se, sk⟩ := s
      have c0 := hcc 0 _ rfl
      have c1 := hcc 1 _ rfl
      have c2 := hcc 2 _ rfl
      have c3 := hcc 3 _ rfl
      have c4 := hcc 4 _ rfl
      have c5 := hcc 5 _ rfl
      have c6 := hcc 6 _ rfl
      rw [Nat.add_zero] at c0
      unfold spotV at hC
      simp only at hC
      have HC := Lib.hid hC
      clear hcc hG hG2 hss hR hC
      go_wp2_with fail
      refine HC.out.mono ?_
      rintro e w2 ⟨rfl, hb2⟩
      have HB2 := Lib.hid (hB.out.trans (hb2.mono hB.out.size))
      clear HC hb2 c0 c1 c2 c3 c4 c5 c6
      cases R with
      | true =>
        have HF : Hid (E = (j : Int)) := Lib.hid (by rw [HGG.out, if_pos (of_decide_eq_true HRR.out)])
        clear HGG HRR
        go_wp2
        go_ret
        exact ⟨ret_int HF.out.symm, HB2.out⟩
      | false =>
        have HF : Hid (E = idxGo q (j + 1) (L.drop (j + 1))) := Lib.hid (by rw [HGG.out, if_neg (of_decide_eq_false HRR.out)])
        clear HGG HRR
        go_wp2
        go_roundw
        case rel => exact ⟨j + 1, by omega, by go_num, HF, HB2⟩
        case measure => simp [intOf]; omega
    · have hlz : ¬ (j : Int) < (L.length : Int) := by omega
      have hG2 := hG.out
      rw [List.drop_eq_nil_of_le (by omega)] at hG2
      have HG2 := Lib.hid hG2
      clear hG hG2
      go_wp2
      go_ret
      exact ⟨ret_int HG2.out.symm, hB.out⟩
set_option maxHeartbeats 4000000 in
set_option maxRecDepth 20000 in
theorem index3 (w : World) (A : Option Addr) (n c : Nat) (L : List MSpot) (q : MSeat) (pb : Nat) (hr : Rd w w.heap.size 7 A n (catv spotC L)) (hpb : pb < w.heap.size) (h0 : w.cell? ⟨pb, 0, none⟩ = some (.int .i64 q.num)) (h1 : w.cell? ⟨pb, 1, none⟩ = some (.int .u8 (q.ltr.toNat : Int))) (hn : n ≤ 1099511627776) :
    Calls Tryd.prog 48 #[.slice A n c, .func (.func 51) #[] #[.pointer (some ⟨pb, 0, none⟩)]] w fun e w' => e = .returned (.int .i64 (idxS L q)) ∧ Below w.heap.size w w' := by
  obtain rfl := rd_catlen spotC_len (by decide) hr
  obtain ⟨E, hE⟩ : ∃ E, idxS L q = E := ⟨_, rfl⟩
  rw [hE]
  have HE : Hid (E = idxGo q 0 (L.drop 0)) := Lib.hid hE.symm
  have HR := Lib.hid hr
  have HG : Hid (∀ (V : World) (s : MSpot), Below w.heap.size w V → Calls Tryd.prog 51 #[spotV s, .pointer (some ⟨pb, 0, none⟩)] V fun e w' => e = .returned (.bool (decide (s.seat = q))) ∧ Below V.heap.size V w') := Lib.hid (fun V s hV => asks3 V s q pb (Nat.lt_of_lt_of_le hpb hV.size) ((hV.cell (p := ⟨pb, 0, none⟩) hpb).trans h0) ((hV.cell (p := ⟨pb, 1, none⟩) hpb).trans h1))
  clear hr hpb h0 h1 hE
  go_enter Tryd.func48, Tryd.ntmps48
  go_wp2
  go_loopw [8] (fun iv wx => ∃ j : Nat, j ≤ L.length ∧ iv = .int .i64 (j : Int) ∧ Hid (E = idxGo q j (L.drop j)) ∧ Hid (Below w.heap.size w wx)) (fun iv _ => L.length - (intOf iv).toNat)
  case atStart => exact ⟨0, Nat.zero_le _, rfl, HE, Lib.hid (Below.refl _ _)⟩
  case round =>
    obtain ⟨j, hj, rfl, hG, hB⟩ := hrel
    by_cases hlt : j < L.length
    · obtain ⟨gb, off, rfl, hgb, hs, hcc⟩ := (HR.out.below hB.out).elem spotC_len (by decide) hlt
      have hG2 := hG.out
      rw [idxGo_drop hs] at hG2
      obtain ⟨s, hss⟩ : ∃ s, L[j] = s := ⟨_, rfl⟩
      rw [hss] at hcc hG2
      have hC := HG.out wr s hB.out
      obtain ⟨R, hR⟩ : ∃ R, decide (s.seat = q) = R := ⟨_, rfl⟩
      rw [hR] at hC
      have HRR := Lib.hid hR
      have HGG := Lib.hid hG2
      obtain ⟨⟨sn, sl⟩, sc, sz, sb, se, sk⟩ := s
      have c0 := hcc 0 _ rfl
      have c1 := hcc 1 _ rfl
      have c2 := hcc 2 _ rfl
      have c3 := hcc 3 _ rfl
      have c4 := hcc 4 _ rfl
      have c5 := hcc 5 _ rfl
      have c6 := hcc 6 _ rfl
      rw [Nat.add_zero] at c0
      unfold spotV at hC
      simp only at hC
      have HC := Lib.hid hC
      clear hcc hG hG2 hss hR hC
      go_wp2_with fail
      refine HC.out.mono ?_
      rintro e w2 ⟨rfl, hb2⟩
      have HB2 := Lib.hid (hB.out.trans (hb2.mono hB.out.size))
      clear HC hb2 c0 c1 c2 c3 c4 c5 c6
      cases R with
      | true =>
        have HF : Hid (E = (j : Int)) := Lib.hid (by rw [HGG.out, if_pos (of_decide_eq_true HRR.out)])
        clear HGG HRR
        go_wp2
        go_ret
        exact ⟨ret_int HF.out.symm, HB2.out⟩
      | false =>
        have HF : Hid (E = idxGo q (j + 1) (L.drop (j + 1))) := Lib.hid (by rw [HGG.out, if_neg (of_decide_eq_false HRR.out)])
        clear HGG HRR
        go_wp2
        go_roundw
        case rel => exact ⟨j + 1, by omega, by go_num, HF, HB2⟩
        case measure => simp [intOf]; omega
    · have hlz : ¬ (j : Int) < (L.length : Int) := by omega
      have hG2 := hG.out
      rw [List.drop_eq_nil_of_le (by omega)] at hG2
      have HG2 := Lib.hid hG2
      clear hG hG2
      go_wp2
      go_ret
      exact ⟨ret_int HG2.out.symm, hB.out⟩
end Go.Proofs.YtddiabpjmnmllaaDoor
