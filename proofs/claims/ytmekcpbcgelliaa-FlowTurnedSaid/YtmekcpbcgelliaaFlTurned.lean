/- Flows: FlowTurned, walked. -/
import Derived.Test.YtmekcpbcgelliaaFlBox
namespace Go.Proofs.Ytmekcpbcgelliaa
open Go.RowKit
def turnA (x : Ar) : Ar := (x.2.1, x.1, x.2.2.1, x.2.2.2)
def turnN (l : List Ar) : List Ar := l.map turnA
theorem turnN_snoc (l : List Ar) (e : Ar) : turnN (l ++ [e]) = turnN l ++ [turnA e] := by simp [turnN]
theorem nw_turn (l : List Ar) : nwOf (turnN l) = (nwOf l).turn := by
  have g : ∀ i, (turnN l).getD i (0, 0, 0, 0) = turnA (l.getD i (0, 0, 0, 0)) := fun i => by
    rw [List.getD_eq_getElem?_getD, List.getD_eq_getElem?_getD]
    unfold turnN
    rw [List.getElem?_map]
    cases l[i]? <;> rfl
  unfold nwOf Nw.turn
  simp only [g]
  simp [turnN, turnA]
set_option maxHeartbeats 8000000 in
set_option maxRecDepth 20000 in
theorem fturned_any (w : World) (N S T : Int) (A : Option Addr) (k c : Nat) (l : List Ar) (hr : Rd w w.heap.size 4 A k (arv l)) (hk32 : k * 32 ≤ 140737488351232) :
    Calls Try.prog 5 #[.agg #[.int .i64 N, .int .i64 S, .int .i64 T, .slice A k c]] w fun e w' => e = .returned (.bool true) ∧ Below w.heap.size w w' := by
  obtain ⟨i0, hi0, hz0, hz1, hz2⟩ := info_parts arc_info
  have HKL := Lib.hid (rd_arlen hr)
  have HR := Lib.hid hr
  clear hr
  have HG := Lib.hid (NBox.made w N S T A k c)
  go_enter Try.func5, Try.ntmps5
  go_wp2_with fail
  refine (flives_any _).mono ?_
  rintro e w2 ⟨rfl, hb2⟩
  have HG2 := Lib.hid (HG.out.below hb2)
  have c3 := HG2.out.c3
  have hB := HG2.out.lt
  clear hb2 HG
  go_wp2
  go_loopw [21, 3] (fun i tv wx => ∃ j : Nat, j ≤ k ∧ i = .int .i64 j ∧ Hid (wx.ownsRow (w.heap.size + 1) 28 4 tv j (arv (turnN (l.take j)))) ∧ Hid (NBox w wx N S T A k c)) (fun i _ _ => k - (intOf i).toNat)
  case atStart => exact ⟨0, Nat.zero_le _, rfl, Lib.hid (by rw [List.take_zero]; exact World.ownsRow_nil _ _ _ _), HG2⟩
  case round =>
    clear HG2 c3 hB
    obtain ⟨j, hj, rfl, ho, hG⟩ := hrel
    have hB := hG.out.lt
    by_cases hlt : j < k
    · obtain ⟨b, off, rfl, hbB, hsl, e0, e1, e2, e3⟩ := ((HR.out.below hG.out.bel)).arc hlt
      have htk : turnN (l.take (j + 1)) = turnN (l.take j) ++ [turnA l[j]] := by rw [List.take_succ_eq_append_getElem hsl, turnN_snoc]
      obtain ⟨⟨ef, et, ec, ek⟩, he⟩ : ∃ e, l[j] = e := ⟨_, rfl⟩
      rw [he] at e0 e1 e2 e3 htk
      simp only at e0 e1 e2 e3 htk
      have HTK := Lib.hid htk
      have HG1 := Lib.hid (hG.out.alloc (.cells #[.int .i64 ef, .int .i64 et, .int .i64 ec, .int .i64 ek] 28))
      have HO1 := Lib.hid (ho.out.alloc (.cells #[.int .i64 ef, .int .i64 et, .int .i64 ec, .int .i64 ek] 28))
      have hB1 := HG1.out.lt
      have hxr := heap_alloc_new wr (.cells #[.int .i64 ef, .int .i64 et, .int .i64 ec, .int .i64 ek] 28)
      obtain ⟨A7, c7, rfl⟩ := own_shape ho.out
      clear he htk hG ho
      go_upto_region 7 with (fail)
      generalize wr.alloc (.cells #[.int .i64 ef, .int .i64 et, .int .i64 ec, .int .i64 ek] 28) = wA at HG1 HO1 hB1 hxr ⊢
      have x0 : wA.cell? ⟨wr.heap.size, 0, none⟩ = some (.int .i64 ef) := by rw [cell_of_row _ _ 0 _ _ _ hxr]; rfl
      have x1 : wA.cell? ⟨wr.heap.size, 1, none⟩ = some (.int .i64 et) := by rw [cell_of_row _ _ 1 _ _ _ hxr]; rfl
      have x2 : wA.cell? ⟨wr.heap.size, 2, none⟩ = some (.int .i64 ec) := by rw [cell_of_row _ _ 2 _ _ _ hxr]; rfl
      have x3 : wA.cell? ⟨wr.heap.size, 3, none⟩ = some (.int .i64 ek) := by rw [cell_of_row _ _ 3 _ _ _ hxr]; rfl
      clear hxr
      go_wp2_with (at_builtin; refine wpList_push rfl (.tmp 25) (.tmp 35) 22 rfl (w.heap.size + 1) 28 i0 _ 4 32 Try.underlying22 hi0 hz0 hz1 hz2 rfl (by omega) _ j _ #[.int .i64 et, .int .i64 ef, .int .i64 ec, .int .i64 ek] rfl (by exact HO1.out) rfl rfl (by simp [Value.oneCell']) ?c1 ?c2 ?c3 ?_)
      case c1 => omega
      case c2 => unfold maxLen; omega
      case c3 => exact hB1
      intro v8 w8 ho8 hu8 _
      have HO8 : Hid (w8.ownsRow (w.heap.size + 1) 28 4 v8 (j + 1) (arv (turnN (l.take (j + 1))))) := Lib.hid (by rw [HTK.out, arv_append, arv_one]; exact ho8)
      have HG8 := Lib.hid (HG1.out.upd hu8 (fun i hi e => by have := (HO1.out.lt i e).1; omega))
      clear ho8 hu8 HO1 HG1 x0 x1 x2 x3 e0 e1 e2 e3
      go_wp2
      go_roundw
      case rel => exact ⟨j + 1, by omega, by go_num, HO8, HG8⟩
      case measure => simp [intOf]; omega
    · obtain rfl : j = k := by omega
      have ho2 := ho.out
      rw [List.take_of_length_le (by have := HKL.out; omega)] at ho2
      obtain ⟨A7, c7, rfl⟩ := own_shape ho2
      have HRT := Lib.hid (Rd.own ho2)
      have c0 := hG.out.c0
      have c1 := hG.out.c1
      have c2 := hG.out.c2
      have c3 := hG.out.c3
      clear ho ho2
      go_wp2_with fail
      refine (nright_any wr N S T A j c l (hG.out.rd HR.out)).mono ?_
      rintro e w3 ⟨r, rfl, hri, hb3⟩
      have HG3 := Lib.hid (hG.out.below hb3)
      have HRT3 := Lib.hid ((HRT.out.below hb3).mono hb3.size)
      have c0 := HG3.out.c0
      have c1 := HG3.out.c1
      have c2 := HG3.out.c2
      clear hb3 hG HRT c3
      cases r with
      | false =>
        clear hri
        go_wp2
        go_ret
        exact ⟨rfl, HG3.out.bel⟩
      | true =>
        have HGD := Lib.hid (hri.1 rfl)
        clear hri
        go_wp2_with fail
        refine (nright_any w3 N T S A7 j c7 (turnN l) HRT3.out).mono ?_
        rintro e w4 ⟨r, rfl, hri, hb4⟩
        have HG4 := Lib.hid (HG3.out.below hb4)
        have HRT4 := Lib.hid ((HRT3.out.below hb4).mono hb4.size)
        have c0 := HG4.out.c0
        have c1 := HG4.out.c1
        have c2 := HG4.out.c2
        have c3 := HG4.out.c3
        clear hb4 HG3 HRT3
        cases r with
        | false =>
          clear hri
          go_wp2
          go_ret
          exact ⟨rfl, HG4.out.bel⟩
        | true =>
          have HGT := Lib.hid (hri.1 rfl)
          clear hri
          go_wp2_with fail
          refine (value_any w4 N S T A j c l (HG4.out.rd HR.out)).mono ?_
          rintro e w5 ⟨a, er, rfl, hb5, (⟨_, rfl, hma, ha0, ha1⟩ | ⟨h, _⟩)⟩
          rotate_left
          · exact absurd HGD.out h
          have HG5 := Lib.hid (HG4.out.below hb5)
          have HRT5 := Lib.hid ((HRT4.out.below hb5).mono hb5.size)
          have HMA := Lib.hid hma
          have c0 := HG5.out.c0
          have c1 := HG5.out.c1
          have c2 := HG5.out.c2
          clear hma hb5 HG4 HRT4 c3
          go_wp2_with fail
          refine (value_any w5 N T S A7 j c7 (turnN l) HRT5.out).mono ?_
          rintro e w6 ⟨b, er, rfl, hb6, (⟨_, rfl, hmb, hb0, hb1⟩ | ⟨h, _⟩)⟩
          rotate_left
          · exact absurd HGT.out h
          have hok := HGD.out.ok'
          have hok2 := HGT.out.ok'
          rw [nw_turn] at hmb hok2
          obtain rfl : b = a := hmb.uniq hok2.ends hok2.sn hok2.tn hok2.st (HMA.out.turn hok.ends hok.sn hok.tn hok.st)
          have HG6 := Lib.hid (HG5.out.below hb6)
          have HRT6 := Lib.hid ((HRT5.out.below hb6).mono hb6.size)
          have c0 := HG6.out.c0
          have c1 := HG6.out.c1
          have c2 := HG6.out.c2
          have c3 := HG6.out.c3
          have HOK := Lib.hid hok
          have HOK2 := Lib.hid hok2
          clear hmb hb6 HG5 HRT5 HMA hok hok2
          go_wp2_with fail
          refine (cheap_any w6 N S T A j c l (HG6.out.rd HR.out)).mono ?_
          rintro e w7 ⟨v7, x, er, rfl, hb7, (⟨va, ra, hfa, rfl, hoa⟩ | ⟨h, _⟩)⟩
          rotate_left
          · exact absurd HGD.out h
          obtain ⟨B7, d7, rfl⟩ := own_shape hoa
          have HG7 := Lib.hid (HG6.out.below hb7)
          have HRT7 := Lib.hid ((HRT6.out.below hb7).mono hb7.size)
          have HFA := Lib.hid (hfa.cheap rfl)
          have c0 := HG7.out.c0
          have c1 := HG7.out.c1
          have c2 := HG7.out.c2
          clear hfa hoa hb7 HG6 HRT6 c3
          go_wp2_with fail
          refine (cheap_any w7 N T S A7 j c7 (turnN l) HRT7.out).mono ?_
          rintro e w8 ⟨v8, y, er, rfl, hb8, (⟨vb, rb, hfb, rfl, hob⟩ | ⟨h, _⟩)⟩
          rotate_left
          · exact absurd HGT.out h
          obtain ⟨B8, d8, rfl⟩ := own_shape hob
          have HG8 := Lib.hid (HG7.out.below hb8)
          have hcb := hfb.cheap rfl
          rw [nw_turn] at hcb
          obtain ⟨_, rfl⟩ := hcb.uniq HOK2.out.ends HOK2.out.sn HOK2.out.tn HOK2.out.st (HFA.out.turn HOK.out.ends HOK.out.sn HOK.out.tn HOK.out.st)
          clear hfb hob hb8 HG7 hcb c0 c1 c2
          go_wp2
          all_goals go_ret
          all_goals exact ⟨rfl, HG8.out.bel⟩
end Go.Proofs.Ytmekcpbcgelliaa
