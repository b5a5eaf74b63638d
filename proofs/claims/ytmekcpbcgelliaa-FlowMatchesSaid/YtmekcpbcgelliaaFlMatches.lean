/- Flows: FlowMatches, walked. -/
import Derived.Test.YtmekcpbcgelliaaFlBox
import Derived.Test.YtmekcpbcgelliaaFlBipP
import Derived.Test.YtmekcpbcgelliaaFlRight15
import Derived.Test.YtmekcpbcgelliaaFlRSize
namespace Go.Proofs.Ytmekcpbcgelliaa
open Go.RowKit
theorem biA_succ (n : Nat) : biA (n + 1) = biA n ++ [(0, 2 + (n : Int), 1, 0)] := by simp [biA, List.range_succ]
theorem biB_succ (n m : Nat) : biB n (m + 1) = biB n m ++ [(2 + (n : Int) + (m : Int), 1, 1, 0)] := by simp [biB, List.range_succ]
theorem biC_snoc (n : Nat) (l : List Eg) (e : Eg) : biC n (l ++ [e]) = biC n l ++ [(2 + e.1, 2 + (n : Int) + e.2, 1, 0)] := by simp [biC]
theorem match_ways {n m : Int} {k : Nat} (h : ¬ ((0 ≤ n ∧ n ≤ 90) ∧ (0 ≤ m ∧ m ≤ 90) ∧ k ≤ 3000)) : n < 0 ∨ (0 ≤ n ∧ m < 0) ∨ (0 ≤ n ∧ 0 ≤ m ∧ 90 < n) ∨ (0 ≤ n ∧ 0 ≤ m ∧ n ≤ 90 ∧ 90 < m) ∨ (0 ≤ n ∧ 0 ≤ m ∧ n ≤ 90 ∧ m ≤ 90 ∧ 3000 < k) := by
  by_cases h1 : n < 0
  · exact .inl h1
  refine .inr ?_
  by_cases h2 : m < 0
  · exact .inl ⟨by omega, h2⟩
  refine .inr ?_
  by_cases h3 : 90 < n
  · exact .inl ⟨by omega, by omega, h3⟩
  refine .inr ?_
  by_cases h4 : 90 < m
  · exact .inl ⟨by omega, by omega, by omega, h4⟩
  refine .inr ⟨by omega, by omega, by omega, by omega, ?_⟩
  apply Classical.byContradiction
  intro h5
  exact h ⟨⟨by omega, by omega⟩, ⟨by omega, by omega⟩, by omega⟩
set_option maxHeartbeats 8000000 in
set_option maxRecDepth 20000 in
theorem fmatches_bad (w : World) (n m : Int) (A : Option Addr) (k c : Nat) (h0 : ¬ ((0 ≤ n ∧ n ≤ 90) ∧ (0 ≤ m ∧ m ≤ 90) ∧ k ≤ 3000)) :
    Calls Try.prog 4 #[.int .i64 n, .int .i64 m, .slice A k c] w fun e w' => e = .returned (.bool true) ∧ Below w.heap.size w w' := by
  have h := match_ways h0
  clear h0
  rcases h with g1 | ⟨g1, g2⟩ | ⟨g1, g2, g3⟩ | ⟨g1, g2, g3, g4⟩ | ⟨g1, g2, g3, g4, g5⟩
  all_goals
    go_enter Try.func4, Try.ntmps4
    go_wp2_with fail
    refine (flives_any _).mono ?_
    rintro e w2 ⟨rfl, hb2⟩
    go_wp2
    go_ret
    exact ⟨rfl, hb2⟩
set_option maxHeartbeats 8000000 in
set_option maxRecDepth 20000 in
theorem fmatches_in (w : World) (n m : Nat) (A : Option Addr) (k c : Nat) (l : List Eg) (hr : Rd w w.heap.size 2 A k (edgv l)) (hn : n ≤ 90) (hm : m ≤ 90) (hk : k ≤ 3000) :
    Calls Try.prog 4 #[.int .i64 n, .int .i64 m, .slice A k c] w fun e w' => e = .returned (.bool true) ∧ Below w.heap.size w w' := by
  obtain ⟨i0, hi0, hz0, hz1, hz2⟩ := info_parts arc_info
  have HKL := Lib.hid (rd_edglen hr)
  have HR := Lib.hid hr
  have g1 : decide ((n : Int) < 0) = false := decide_eq_false (by omega)
  have g2 : decide ((m : Int) < 0) = false := decide_eq_false (by omega)
  have g3 : decide ((n : Int) > 90) = false := decide_eq_false (by omega)
  have g4 : decide ((m : Int) > 90) = false := decide_eq_false (by omega)
  have g5 : decide ((k : Int) > 3000) = false := decide_eq_false (by omega)
  clear hr
  go_enter Try.func4, Try.ntmps4
  go_wp2_with fail
  refine (flives_any _).mono ?_
  rintro e w2 ⟨rfl, hb2⟩
  have HB2 := Lib.hid hb2
  have HR2 := Lib.hid ((HR.out.below hb2).mono hb2.size)
  clear hb2
  go_wp2_with fail
  refine (rright_any w2 n m A k c l HR2.out).mono ?_
  rintro e w3 ⟨r, rfl, hri, hb3⟩
  have HB3 := Lib.hid (HB2.out.trans (hb3.mono HB2.out.size))
  clear hb3 HR2 HB2
  cases r with
  | false =>
    clear hri
    go_wp2
    go_ret
    exact ⟨rfl, HB3.out⟩
  | true =>
    have hgood := hri.1 rfl
    have HALL : Hid (∀ e ∈ l, (0 ≤ e.1 ∧ e.1 < (n : Int)) ∧ (0 ≤ e.2 ∧ e.2 < (m : Int))) := Lib.hid hgood.2.2.2
    clear hri hgood g1 g2 g3 g4 g5
    go_wp2
    go_loopw [8, 7] (fun i tv wx => ∃ a : Nat, a ≤ n ∧ i = .int .i64 a ∧ Hid (wx.ownsRow w.heap.size 28 4 tv a (arv (biA a))) ∧ Hid (Below w.heap.size w wx)) (fun i _ _ => n - (intOf i).toNat)
    case atStart => exact ⟨0, Nat.zero_le _, rfl, Lib.hid (World.ownsRow_nil _ _ _ _), HB3⟩
    case round =>
      clear HB3
      obtain ⟨a, ha, rfl, ho, hb⟩ := hrel
      by_cases hlt : a < n
      · have hB1 := hb.out.size
        have hltI : (a : Int) < (n : Int) := by omega
        have hw1 : IntKind.i64.wrap (2 + (a : Int)) = 2 + (a : Int) := IntWalk.i64_in _ (by omega)
        have HO := Lib.hid ho.out
        obtain ⟨A7, c7, rfl⟩ := own_shape ho.out
        clear ho
        go_wp2_with (at_builtin; refine wpList_push rfl (.tmp 47) (.tmp 51) 22 rfl w.heap.size 28 i0 _ 4 32 Try.underlying22 hi0 hz0 hz1 hz2 rfl (by omega) _ a _ #[.int .i64 0, .int .i64 (2 + (a : Int)), .int .i64 1, .int .i64 0] rfl (by exact HO.out) rfl rfl (by simp [Value.oneCell']) ?c1 ?c2 ?c3 ?_)
        case c1 => omega
        case c2 => unfold maxLen; omega
        case c3 => exact hB1
        intro v8 w8 ho8 hu8 _
        have HO8 : Hid (w8.ownsRow w.heap.size 28 4 v8 (a + 1) (arv (biA (a + 1)))) := Lib.hid (by rw [biA_succ, arv_append, arv_one]; exact ho8)
        have HB8 := Lib.hid (below_row hb.out hb.out.size HO.out (Nat.le_refl _) hu8)
        clear ho8 hu8 HO hb
        go_wp2
        go_roundw
        case rel => exact ⟨a + 1, by omega, by go_num, HO8, HB8⟩
        case measure => simp [intOf]; omega
      · obtain rfl : a = n := by omega
        clear hlt
        go_wp2
        go_loopw [9, 7] (fun i tv wx => ∃ q : Nat, q ≤ m ∧ i = .int .i64 q ∧ Hid (wx.ownsRow w.heap.size 28 4 tv (a + q) (arv (biA a ++ biB a q))) ∧ Hid (Below w.heap.size w wx)) (fun i _ _ => m - (intOf i).toNat)
        case atStart => exact ⟨0, Nat.zero_le _, rfl, Lib.hid (by simpa [biB] using ho.out), hb⟩
        case round =>
          clear ho hb
          obtain ⟨q, hq, rfl, ho, hb⟩ := hrel
          by_cases hlt : q < m
          · have hB1 := hb.out.size
            have hltI : (q : Int) < (m : Int) := by omega
            have hw1 : IntKind.i64.wrap (2 + (a : Int)) = 2 + (a : Int) := IntWalk.i64_in _ (by omega)
            have hw2 : IntKind.i64.wrap (2 + (a : Int) + (q : Int)) = 2 + (a : Int) + (q : Int) := IntWalk.i64_in _ (by omega)
            have HO := Lib.hid ho.out
            obtain ⟨N1, hN1⟩ : ∃ N1, a + q = N1 := ⟨_, rfl⟩
            have hN2 : N1 ≤ 180 := by omega
            rw [hN1] at HO
            obtain ⟨A7, c7, rfl⟩ := own_shape HO.out
            have HN1 := Lib.hid hN1
            clear ho hN1
            go_wp2_with (at_builtin; refine wpList_push rfl (.tmp 58) (.tmp 64) 22 rfl w.heap.size 28 i0 _ 4 32 Try.underlying22 hi0 hz0 hz1 hz2 rfl (by omega) _ N1 _ #[.int .i64 (2 + (a : Int) + (q : Int)), .int .i64 1, .int .i64 1, .int .i64 0] rfl (by exact HO.out) rfl rfl (by simp [Value.oneCell']) ?d1 ?d2 ?d3 ?_)
            case d1 => omega
            case d2 => unfold maxLen; omega
            case d3 => exact hB1
            intro v8 w8 ho8 hu8 _
            have HO8 : Hid (w8.ownsRow w.heap.size 28 4 v8 (a + (q + 1)) (arv (biA a ++ biB a (q + 1)))) := Lib.hid (by rw [biB_succ, ← List.append_assoc, arv_append _ [_], arv_one, ← Nat.add_assoc, HN1.out]; exact ho8)
            have HB8 := Lib.hid (below_row hb.out hb.out.size HO.out (Nat.le_refl _) hu8)
            clear ho8 hu8 HO hb
            go_wp2
            go_roundw
            case rel => exact ⟨q + 1, by omega, by go_num, HO8, HB8⟩
            case measure => simp [intOf]; omega
          · obtain rfl : q = m := by omega
            clear hlt
            go_wp2
            go_loopw [68, 7] (fun i tv wx => ∃ j : Nat, j ≤ k ∧ i = .int .i64 j ∧ Hid (wx.ownsRow w.heap.size 28 4 tv (a + q + j) (arv (biA a ++ biB a q ++ biC a (l.take j)))) ∧ Hid (Below w.heap.size w wx)) (fun i _ _ => k - (intOf i).toNat)
            case atStart => exact ⟨0, Nat.zero_le _, rfl, Lib.hid (by simpa [biC] using ho.out), hb⟩
            case round =>
              clear ho hb
              obtain ⟨j, hj, rfl, ho, hb⟩ := hrel
              by_cases hlt : j < k
              · have hB1 := hb.out.size
                obtain ⟨b, off, rfl, hbB, hsl, e0, e1⟩ := ((HR.out.below hb.out)).edge hlt
                have htk : biC a (l.take (j + 1)) = biC a (l.take j) ++ [(2 + l[j].1, 2 + (a : Int) + l[j].2, 1, 0)] := by rw [List.take_succ_eq_append_getElem hsl, biC_snoc]
                obtain ⟨⟨ea, eb⟩, he⟩ : ∃ e, l[j] = e := ⟨_, rfl⟩
                have hin := HALL.out l[j] (List.getElem_mem hsl)
                rw [he] at e0 e1 htk hin
                simp only at e0 e1 htk hin
                have HTK := Lib.hid htk
                have HB1 := Lib.hid (hb.out.alloc hb.out.size (.cells #[.int .i64 ea, .int .i64 eb] 37))
                have HO1 := Lib.hid (ho.out.alloc (.cells #[.int .i64 ea, .int .i64 eb] 37))
                have hxr := heap_alloc_new wr (.cells #[.int .i64 ea, .int .i64 eb] 37)
                have hw1 : IntKind.i64.wrap (2 + (a : Int)) = 2 + (a : Int) := IntWalk.i64_in _ (by omega)
                have hw2 : IntKind.i64.wrap (2 + ea) = 2 + ea := IntWalk.i64_in _ (by omega)
                have hw3 : IntKind.i64.wrap (2 + (a : Int) + eb) = 2 + (a : Int) + eb := IntWalk.i64_in _ (by omega)
                obtain ⟨N1, hN1⟩ : ∃ N1, a + q + j = N1 := ⟨_, rfl⟩
                have hN2 : N1 ≤ 3180 := by omega
                rw [hN1] at HO1
                obtain ⟨A7, c7, rfl⟩ := own_shape ho.out
                rw [hN1] at HO1 ⊢
                have HN1 := Lib.hid hN1
                clear he htk ho hN1 hin
                go_upto_region 17 with (fail)
                generalize wr.alloc (.cells #[.int .i64 ea, .int .i64 eb] 37) = wA at HB1 HO1 hxr ⊢
                have hB2 := HB1.out.size
                have x0 : wA.cell? ⟨wr.heap.size, 0, none⟩ = some (.int .i64 ea) := by rw [cell_of_row _ _ 0 _ _ _ hxr]; rfl
                have x1 : wA.cell? ⟨wr.heap.size, 1, none⟩ = some (.int .i64 eb) := by rw [cell_of_row _ _ 1 _ _ _ hxr]; rfl
                clear hxr
                go_wp2_with (at_builtin; refine wpList_push rfl (.tmp 72) (.tmp 82) 22 rfl w.heap.size 28 i0 _ 4 32 Try.underlying22 hi0 hz0 hz1 hz2 rfl (by omega) _ N1 _ #[.int .i64 (2 + ea), .int .i64 (2 + (a : Int) + eb), .int .i64 1, .int .i64 0] rfl (by exact HO1.out) rfl rfl (by simp [Value.oneCell']) ?f1 ?f2 ?f3 ?_)
                case f1 => omega
                case f2 => unfold maxLen; omega
                case f3 => exact hB2
                intro v8 w8 ho8 hu8 _
                have HO8 : Hid (w8.ownsRow w.heap.size 28 4 v8 (a + q + (j + 1)) (arv (biA a ++ biB a q ++ biC a (l.take (j + 1))))) := Lib.hid (by rw [HTK.out, ← List.append_assoc, arv_append _ [_], arv_one, ← Nat.add_assoc, HN1.out, List.append_assoc (biA a)]; exact ho8)
                have HB8 := Lib.hid (below_row HB1.out HB1.out.size HO1.out (Nat.le_refl _) hu8)
                clear ho8 hu8 HO1 HB1 hb x0 x1 e0 e1
                go_wp2
                go_roundw
                case rel => exact ⟨j + 1, by omega, by go_num, HO8, HB8⟩
                case measure => simp [intOf]; omega
              · obtain rfl : j = k := by omega
                have ho2 := ho.out
                rw [List.take_of_length_le (by have := HKL.out; omega)] at ho2
                have ho3 : wr.ownsRow w.heap.size 28 4 u7 (a + q + j) (arv (biN a q l)) := ho2
                have hgd : GoodN (2 + (a : Int) + q) 0 1 (biN a q l) := bi_good hn hm (by have := HKL.out; omega) HALL.out
                have HGD := Lib.hid hgd
                obtain ⟨N1, hN1⟩ : ∃ N1, a + q + j = N1 := ⟨_, rfl⟩
                rw [hN1] at ho3
                obtain ⟨A7, c7, rfl⟩ := own_shape ho3
                have HRT := Lib.hid (Rd.own ho3)
                have hw1 : IntKind.i64.wrap (2 + (a : Int)) = 2 + (a : Int) := IntWalk.i64_in _ (by omega)
                have hw2 : IntKind.i64.wrap (2 + (a : Int) + (q : Int)) = 2 + (a : Int) + (q : Int) := IntWalk.i64_in _ (by omega)
                clear ho ho2 ho3 hgd hN1
                go_wp2_with fail
                refine (value_any wr (2 + (a : Int) + q) 0 1 A7 N1 c7 (biN a q l) HRT.out).mono ?_
                rintro e w5 ⟨v, er, rfl, hb5, (⟨_, rfl, hmv, hv0, hv1⟩ | ⟨h, _⟩)⟩
                rotate_left
                · exact absurd HGD.out h
                have HMV := Lib.hid hmv
                have HB5 := Lib.hid (hb.out.trans (hb5.mono hb.out.size))
                have HR5 := Lib.hid ((HR.out.below HB5.out).mono HB5.out.size)
                clear hmv hb5 HRT hb hw1 hw2
                go_wp2_with fail
                refine (rsize_any w5 a q A j c l HR5.out (by omega) (by omega) (by omega) (fun e he => by
                  have := HALL.out e he
                  exact ⟨this.1.1, this.1.2, this.2.1, this.2.2⟩)).mono ?_
                rintro e w6 ⟨⟨nu, hnu, hnl, rfl⟩, hb6⟩
                have hok := HGD.out.ok'
                have hNat : (2 + (a : Int) + (q : Int)).toNat = 2 + a + q := by omega
                have hmv := HMV.out
                rw [hNat] at hok hmv
                obtain rfl : v = (nu : Int) := bi_max HALL.out hok hmv hnu
                have HB6 := Lib.hid (HB5.out.trans (hb6.mono HB5.out.size))
                clear hmv hok hnu hb6 HMV HB5 hNat
                go_wp2
                all_goals go_ret
                all_goals exact ⟨rfl, HB6.out⟩
theorem fmatches_any (w : World) (n m : Int) (A : Option Addr) (k c : Nat) (l : List Eg) (hr : Rd w w.heap.size 2 A k (edgv l)) :
    Calls Try.prog 4 #[.int .i64 n, .int .i64 m, .slice A k c] w fun e w' => e = .returned (.bool true) ∧ Below w.heap.size w w' := by
  by_cases h : (0 ≤ n ∧ n ≤ 90) ∧ (0 ≤ m ∧ m ≤ 90) ∧ k ≤ 3000
  · obtain ⟨⟨h1, h2⟩, ⟨h3, h4⟩, h5⟩ := h
    obtain ⟨n, rfl⟩ : ∃ x : Nat, n = x := ⟨n.toNat, by omega⟩
    obtain ⟨m, rfl⟩ : ∃ x : Nat, m = x := ⟨m.toNat, by omega⟩
    exact fmatches_in w n m A k c l hr (by omega) (by omega) h5
  · exact fmatches_bad w n m A k c h
end Go.Proofs.Ytmekcpbcgelliaa
