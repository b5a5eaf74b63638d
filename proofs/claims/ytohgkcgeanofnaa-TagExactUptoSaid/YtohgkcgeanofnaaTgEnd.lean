/- Digests: the end, walked. -/
import Derived.Test.YtohgkcgeanofnaaTgAdd
import Derived.Test.YtohgkcgeanofnaaTgPlain
namespace Go.Proofs.Ytohgkcgeanofnaa
open Go.RowKit
theorem Dg.alloc {w : World} {B d n : Nat} {H : List Nat} {rv : Value} {l : List UInt8} (h : Dg w B d H rv l n) (o : Obj) : Dg (w.alloc o) B d H rv l n :=
  h.upd (S := fun _ => False) ((Upd.refl _ w).alloc o) (fun _ _ _ h => h)
theorem Dg.le {w : World} {B d n : Nat} {H : List Nat} {rv : Value} {l : List UInt8} (h : Dg w B d H rv l n) : B ≤ w.heap.size := Nat.le_trans h.base (Nat.le_of_lt h.row.lt)
theorem Dg.rlen {w : World} {B d n : Nat} {H : List Nat} {rv : Value} {l : List UInt8} (h : Dg w B d H rv l n) : restLen w d = l.length := by
  obtain ⟨A, c, rfl⟩ := h.ow.shape
  exact h.len
theorem one_rd (w : World) (x : UInt8) : Rd (w.alloc (.cells #[.int .u8 (x.toNat : Int)] 5)) (w.heap.size + 1) 1 (some ⟨w.heap.size, 0, none⟩) 1 (bytv [x]) :=
  Rd.new (w := w) (size := 1) (n := 1) #[.int .u8 (x.toNat : Int)] 5 rfl
/-- One byte. -/
theorem add1_any (w : World) (B d : Nat) (H : List Nat) (rv : Value) (l : List UInt8) (n : Nat) (x : UInt8) (h : Dg w B d H rv l n) (hl : l.length < 1024) :
    Calls Try.prog 14 #[.pointer (some ⟨d, 0, none⟩), .slice (some ⟨w.heap.size, 0, none⟩) 1 1] (w.alloc (.cells #[.int .u8 (x.toNat : Int)] 5)) fun e w' => e = .returned (.tuple #[]) ∧
      (∃ rv' n', Dg w' B d (fed H (l ++ [x])).1 rv' (fed H (l ++ [x])).2 n') ∧ Below B w w' := by
  have hb : Below B w (w.alloc (.cells #[.int .u8 (x.toNat : Int)] 5)) := (Below.refl _ _).alloc h.le _
  refine (add_any _ B d H rv l n _ 1 1 [x] (h.alloc _) ?_ ?_).mono ?_
  · have h1 := one_rd w x
    simpa using h1
  · show l.length + 1 ≤ _; omega
  · rintro e w' ⟨h1, ⟨rv', h2⟩, h3⟩
    exact ⟨h1, ⟨rv', _, h2⟩, hb.trans h3⟩
theorem byte_of (v k : Nat) : (v : Int) / 2 ^ k % 256 = (((UInt8.ofNat (v / 2 ^ k)).toNat : Nat) : Int) := by
  rw [UInt8.toNat_ofNat']
  simp
theorem wb_cells (y : Nat) (hy : y < 4294967296) : [Value.int IntKind.u8 ((y : Int) / 16777216), Value.int IntKind.u8 ((y : Int) / 65536 % 256), Value.int IntKind.u8 ((y : Int) / 256 % 256), Value.int IntKind.u8 ((y : Int) % 256)] = bytv (wb y) := by
  have e1 : (y : Int) / 16777216 = (((UInt8.ofNat (y / 16777216)).toNat : Nat) : Int) := by rw [UInt8.toNat_ofNat']; omega
  have e2 : (y : Int) / 65536 % 256 = (((UInt8.ofNat (y / 65536)).toNat : Nat) : Int) := by rw [UInt8.toNat_ofNat']; omega
  have e3 : (y : Int) / 256 % 256 = (((UInt8.ofNat (y / 256)).toNat : Nat) : Int) := by rw [UInt8.toNat_ofNat']; omega
  have e4 : (y : Int) % 256 = (((UInt8.ofNat y).toNat : Nat) : Int) := by rw [UInt8.toNat_ofNat']; omega
  rw [e1, e2, e3, e4]
  rfl
theorem take_more (l : List Nat) (j : Nat) (h : j < l.length) : l.take (j + 1) = l.take j ++ [l.getD j 0] := by
  rw [List.take_add_one, List.getElem?_eq_getElem h, List.getD_eq_getElem?_getD, List.getElem?_eq_getElem h]
  rfl
set_option maxHeartbeats 8000000 in
set_option maxRecDepth 20000 in
theorem end_any (w : World) (B d : Nat) (H : List Nat) (rv : Value) (l : List UInt8) (n : Nat) (h : Dg w B d H rv l n) (hl : l.length < 64) :
    Calls Try.prog 15 #[.pointer (some ⟨d, 0, none⟩)] w fun e w' => e = .returned (.string ⟨(outB (fin H l n)).toArray⟩) ∧ Below B w w' := by
  obtain ⟨i0, hi0, hz0, hz1, hz2⟩ := info_parts u8_info
  have hr := h.row.rest h.hH
  have hn := h.row.num h.hH
  obtain ⟨v, hv⟩ : ∃ v, v = 8 * n % 18446744073709551616 := ⟨_, rfl⟩
  have hw8 : IntKind.u64.wrap (8 * (n : Int)) = (v : Int) := by rw [IntKind.wrap_u64, hv]; omega
  have HV := Lib.hid hv
  clear hv
  go_enter Try.func15, Try.ntmps15
  go_wp2_with fail
  refine (add1_any w B d H rv l n 128 h (by omega)).mono ?_
  rintro e w1 ⟨rfl, ⟨rv1, n1, hD1⟩, hB1⟩
  clear hr hn
  go_wp2
  go_loopw [] (fun wx => ∃ z Hk rvk lk nk, z ≤ zer l.length ∧ Dg wx B d Hk rvk lk nk ∧ fed H (l ++ [128] ++ List.replicate z 0) = (Hk, lk) ∧ Below B w wx) (fun wx => (120 - restLen wx d) % 64)
  case atStart => exact ⟨0, _, _, _, _, Nat.zero_le _, hD1, by rw [List.replicate_zero, List.append_nil], hB1⟩
  case round =>
    clear hD1 hB1
    obtain ⟨z, Hk, rvk, lk, nk, hz, hD, hfed, hB⟩ := hrel
    have hlk : lk.length = (l.length + 1 + z) % 64 := by
      have := fed_mod (l ++ [128] ++ List.replicate z 0) H
      rw [hfed] at this
      rw [List.length_append, List.length_append, List.length_replicate] at this
      exact this
    obtain ⟨A, c, rfl⟩ := hD.ow.shape
    have hr := hD.row.rest hD.hH
    by_cases h56 : lk.length = 56
    · have hz2 : z = zer l.length := by unfold zer at hz ⊢; omega
      have hHk : fed H (l ++ [128] ++ List.replicate (zer l.length) 0) = (Hk, lk) := by rw [← hz2]; exact hfed
      clear hz hfed hz2 hlk
      have HF := Lib.hid hHk
      have hi56 : (lk.length : Int) = 56 := by omega
      clear hHk
      go_wp2
      go_loopw [4] (fun s wx => ∃ (j : Nat) (Hk : List Nat) (rvk : Value) (lk : List UInt8) (nk : Nat), j ≤ 8 ∧ s = .int .i64 (56 - 8 * (j : Int)) ∧ Dg wx B d Hk rvk lk nk ∧ fed H (l ++ [128] ++ List.replicate (zer l.length) 0 ++ (be8 v).take j) = (Hk, lk) ∧ Below B w wx) (fun s _ => (intOf s + 8).toNat)
      case atStart => exact ⟨0, _, _, _, _, Nat.zero_le _, rfl, hD, by rw [List.take_zero, List.append_nil]; exact HF.out, hB⟩
      case round =>
        clear hD hB HF hr h56 hi56
        obtain ⟨j, Hk, rvk, lk, nk, hj, rfl, hD, hfed, hB⟩ := hrel
        have HF := Lib.hid hfed
        have HB := Lib.hid hB
        by_cases hlt : j < 8
        · have hlk : lk.length < 64 := by
            have := fed_rest (l ++ [128] ++ List.replicate (zer l.length) 0 ++ (be8 v).take j) H
            rw [hfed] at this
            exact this
          clear hfed hB
          have b0 : 0 ≤ 56 - 8 * (j : Int) := by omega
          have b1 : IntKind.u64.wrap (56 - 8 * (j : Int)) = 56 - 8 * (j : Int) := by rw [IntKind.wrap_u64]; omega
          have b2 : (56 - 8 * (j : Int)).toNat = 56 - 8 * j := by omega
          have b3 : IntKind.i64.wrap (56 - 8 * (j : Int) - 8) = 56 - 8 * ((j + 1 : Nat) : Int) := by rw [IntWalk.i64_in _ (by omega)]; omega
          go_wp2_with fail
          rw [byte_of v (56 - 8 * j)]
          refine (add1_any wr B d Hk _ lk nk _ hD (by omega)).mono ?_
          rintro e w2 ⟨rfl, ⟨rv2, n2, hD2⟩, hB2⟩
          go_wp2
          refine ⟨⟨j + 1, _, rv2, _, n2, by omega, by first | rfl | (congr 1; omega), hD2, ?_, HB.out.trans hB2⟩, ?_⟩
          · rw [be8_take v j hlt, ← List.append_assoc, fed_append, HF.out]
          · simp [intOf]; omega
        · obtain rfl : j = 8 := by omega
          clear hB
          have hHk : Hk = fin H l n := by
            unfold fin tailB
            have := HF.out
            rw [List.take_of_length_le (by rw [be8_length]; exact Nat.le_refl _)] at this
            rw [← HV.out, ← List.append_assoc, ← List.append_assoc, this]
          have HH := Lib.hid hHk
          have hH8 := hD.hH
          have hHlt := hD.hl
          clear hfed HF hHk
          obtain ⟨a0, a1, a2, a3, a4, a5, a6, a7, rfl⟩ : ∃ a0 a1 a2 a3 a4 a5 a6 a7, Hk = [a0, a1, a2, a3, a4, a5, a6, a7] := by
            match Hk, hH8 with
            | [a0, a1, a2, a3, a4, a5, a6, a7], _ => exact ⟨_, _, _, _, _, _, _, _, rfl⟩
          have hrk : RowK wr d 54 [a0, a1, a2, a3, a4, a5, a6, a7] [rvk, .int .u64 (nk : Int)] := hD.row
          have q0 : wr.cell? ⟨d, 0, none⟩ = some (.int .u32 (a0 : Int)) := hrk.cell 0 (by simp)
          have q1 : wr.cell? ⟨d, 1, none⟩ = some (.int .u32 (a1 : Int)) := hrk.cell 1 (by simp)
          have q2 : wr.cell? ⟨d, 2, none⟩ = some (.int .u32 (a2 : Int)) := hrk.cell 2 (by simp)
          have q3 : wr.cell? ⟨d, 3, none⟩ = some (.int .u32 (a3 : Int)) := hrk.cell 3 (by simp)
          have q4 : wr.cell? ⟨d, 4, none⟩ = some (.int .u32 (a4 : Int)) := hrk.cell 4 (by simp)
          have q5 : wr.cell? ⟨d, 5, none⟩ = some (.int .u32 (a5 : Int)) := hrk.cell 5 (by simp)
          have q6 : wr.cell? ⟨d, 6, none⟩ = some (.int .u32 (a6 : Int)) := hrk.cell 6 (by simp)
          have q7 : wr.cell? ⟨d, 7, none⟩ = some (.int .u32 (a7 : Int)) := hrk.cell 7 (by simp)
          have hBw : B ≤ wr.heap.size := hD.le
          clear hrk hD
          go_wp2
          clear q0 q1 q2 q3 q4 q5 q6 q7
          simp only [show (56 - 8 * ((8 : Nat) : Int)) = -8 from rfl]
          go_loopw [5, 7, 41] (fun v5 _ i wx => ∃ j : Nat, j ≤ 8 ∧ i = .int .i64 j ∧ OwnB wx B 5 v5 (outB ([a0, a1, a2, a3, a4, a5, a6, a7].take j)) ∧ Below B w wx) (fun _ _ i _ => 8 - (intOf i).toNat)
          case atStart => exact ⟨0, by omega, rfl, .inl ⟨rfl, rfl⟩, HB.out⟩
          case round =>
            clear hBw HB
            obtain ⟨j, hj, rfl, how, hB⟩ := hrel
            have HB := Lib.hid hB
            have hBw : B ≤ wr.heap.size := Nat.le_trans h.le hB.size
            clear hB
            obtain ⟨L, hL⟩ : ∃ L, L = outB ([a0, a1, a2, a3, a4, a5, a6, a7].take j) := ⟨_, rfl⟩
            rw [← hL] at how
            obtain ⟨A5, c5, rfl⟩ := how.shape
            have HL := Lib.hid hL
            by_cases hlt : j < 8
            · have hix := vix wr a0 a1 a2 a3 a4 a5 a6 a7 j hlt
              obtain ⟨y, hy⟩ : ∃ y, y = [a0, a1, a2, a3, a4, a5, a6, a7].getD j 0 := ⟨_, rfl⟩
              rw [← hy] at hix
              have hlo : L.length = 4 * j := by
                rw [hL, outB_length, List.length_take]
                show 4 * min j 8 = _
                omega
              have hyl : y < 4294967296 := by rw [hy]; exact getD_lt hHlt _
              have HY := Lib.hid hy
              have HOW := Lib.hid how
              have HLO := Lib.hid hlo
              clear hy how hlo hL
              have m4 : (j : Int) < 8 := by omega
              go_wp2_with (at_builtin; refine wpList_bpush wr rfl (.tmp 44) (.tmp 56) 29 rfl B 5 i0 Try.underlying29 hi0 hz0 hz1 hz2 _ L (wb y) _ 4 4 ?c1 rfl rfl (by exact HOW.out) rfl ?c2 ?c3 ?_)
              case c1 => exact wb_cells y hyl
              case c2 => rw [HLO.out]; omega
              case c3 => exact hBw
              intro v' w2 ho2 hu2 _
              go_wp2
              refine ⟨⟨j + 1, by omega, by go_num, ?_, below_ownB HB.out hBw HOW.out (Nat.le_refl _) hu2⟩, ?_⟩
              · rw [take_more _ j (by simpa using hlt), outB_snoc, ← HL.out, ← HY.out]
                exact ho2
              · simp [intOf]; omega
            · obtain rfl : j = 8 := by omega
              have hcv := how.str (P := Try.prog) (src := 29) (dst := 9) Try.underlying29 Try.underlying5 Try.underlying9
              have h9 : L = outB (fin H l n) := by
                rw [← HH.out]
                exact HL.out
              have H9 := Lib.hid h9
              clear hL how h9
              go_wp2
              go_ret
              exact ⟨by rw [← H9.out]; rfl, HB.out⟩
    · have hz3 : z < zer l.length := by
        have : z ≠ zer l.length := fun e => h56 (by rw [hlk, e]; unfold zer; omega)
        omega
      have hi56 : ¬ ((lk.length : Int) = 56) := by omega
      have hlk64 : lk.length < 64 := by omega
      have HF := Lib.hid hfed
      have HB := Lib.hid hB
      have HZ := Lib.hid hz3
      clear hfed hB hz hz3 hlk
      go_wp2_with fail
      refine (add1_any wr B d Hk _ lk nk 0 hD (by omega)).mono ?_
      rintro e w2 ⟨rfl, ⟨rv2, n2, hD2⟩, hB2⟩
      go_wp2
      refine ⟨⟨z + 1, _, rv2, _, n2, HZ.out, hD2, ?_, HB.out.trans hB2⟩, ?_⟩
      · rw [List.replicate_succ', ← List.append_assoc, fed_append, HF.out]
      · rw [hD2.rlen, hD.rlen, fed_mod, List.length_append]
        show (120 - (lk.length + 1) % 64) % 64 < _
        omega
end Go.Proofs.Ytohgkcgeanofnaa
