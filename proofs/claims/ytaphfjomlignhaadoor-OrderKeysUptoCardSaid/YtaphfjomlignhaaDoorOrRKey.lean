/- Keys: the reference's Key, walked. -/
import Derived.Test.YtaphfjomlignhaaDoorOrRKeyP
namespace Go.Proofs.YtaphfjomlignhaaDoor
open Go.RowKit
set_option maxHeartbeats 8000000 in
set_option maxRecDepth 20000 in
theorem rkey_any (w : World) (A : Option Addr) (n c : Nat) (l : List Pt)
    (hr : Rd w w.heap.size 3 A n (ptv l)) (hn : n ≤ 1048576) (hok : ∀ x ∈ l, (-9223372036854775808 ≤ x.num ∧ x.num ≤ 9223372036854775807) ∧ x.text.size ≤ 1048576) (hl : (bytesK l).length ≤ 1099511627776) :
    Calls Tryd.prog 15 #[.slice A n c] w fun e w' => e = .returned (.tuple #[.string ⟨(keyR l).1.toArray⟩, .int .i64 ((keyR l).2 : Int)]) ∧ Below w.heap.size w w' := by
  obtain ⟨i0, hi0, hz0, hz1, hz2⟩ := info_parts u8_info
  have HNL := Lib.hid (rd_ptlen hr)
  have HR := Lib.hid hr
  have HOK := Lib.hid hok
  have HL := Lib.hid hl
  clear hr hok hl
  go_enter Tryd.func15, Tryd.ntmps15
  go_wp2
  go_loopw [4, 13] (fun v i wx => ∃ k : Nat, k ≤ n ∧ i = .int .i64 k ∧ Hid (allR (l.take k)) ∧ Hid (OwnB wx w.heap.size 5 v (bytesK (l.take k))) ∧ Hid (Below w.heap.size w wx)) (fun _ i _ => n - (intOf i).toNat)
  case atStart =>
    exact ⟨0, Nat.zero_le _, rfl, Lib.hid (by intro x hx; simp at hx), Lib.hid (OwnB.of_own (World.ownsRow_nil _ _ _ _)), Lib.hid (Below.refl _ _)⟩
  case round =>
    obtain ⟨k, hk, rfl, HA, hO, hW⟩ := hrel
    by_cases hlt : k < n
    · obtain ⟨b, off, rfl, hbB, hsl, e0, e1, e2⟩ := (HR.out.below hW.out).pt hlt
      have HT := Lib.hid (bytesK_take l k hsl)
      have hpre := bytesK_take_len l (k + 1)
      have hbl := HL.out
      have hmem := List.getElem_mem hsl
      have hokx := HOK.out l[k] hmem
      have HRt := Lib.hid (fun h : l[k].right => allR_take hsl HA.out h)
      have HNo := Lib.hid (fun h : ¬ l[k].right => keyR_no hmem h)
      obtain ⟨x, hx⟩ : ∃ x, l[k] = x := ⟨_, rfl⟩
      rw [bytesK_take l k hsl, List.length_append] at hpre
      rw [hx] at e0 e1 e2 hokx hpre
      simp only [hx] at HT HRt HNo
      clear hx hmem
      obtain ⟨K, N, T⟩ := x
      simp only at e0 e1 e2 hokx
      have hsz := hW.out.size
      have hbw : b < wr.heap.size := by omega
      obtain ⟨⟨hN0, hN1⟩, hTs⟩ := hokx
      obtain ⟨L, hL⟩ : ∃ L, bytesK (l.take k) = L := ⟨_, rfl⟩
      rw [hL] at hO hpre HT
      have HPL := Lib.hid hpre
      clear hL hpre hbl
      by_cases hrt : Pt.right ⟨K, N, T⟩
      · have hcall := fun W => right_any W K N T
        simp only [decide_eq_true hrt] at hcall
        have HC := Lib.hid hcall
        clear hcall
        go_wp2_with fail
        have hab : Below w.heap.size w (wr.alloc (.cells #[.int .i64 K, .int .i64 N, .string T] 31)) := hW.out.alloc hsz _
        have hrow := heap_alloc_new wr (.cells #[.int .i64 K, .int .i64 N, .string T] 31)
        have hO1 : OwnB (wr.alloc (.cells #[.int .i64 K, .int .i64 N, .string T] 31)) w.heap.size 5 u4 L := hO.out.below ((Below.refl _ _).alloc (Nat.le_refl _) _)
        have hs1 : (wr.alloc (.cells #[.int .i64 K, .int .i64 N, .string T] 31)).heap.size = wr.heap.size + 1 := by simp
        refine (HC.out _).mono ?_
        obtain ⟨X, hX⟩ : ∃ X, wr.alloc (.cells #[.int .i64 K, .int .i64 N, .string T] 31) = X := ⟨_, rfl⟩
        rw [hX] at hab hrow hO1 hs1
        rw [hX]
        rintro e w2 ⟨rfl, hb2⟩
        have hg0 : wr.heap.size < X.heap.size := by omega
        have hrow2 := (hb2.block wr.heap.size hg0).trans hrow
        have hO2 := Lib.hid (hO1.below hb2)
        have hng : u4.ownBlock ≠ some wr.heap.size := fun e => by have := (hO.out.lt _ e).2; omega
        have hW2 := Lib.hid (hab.trans (hb2.mono hab.size))
        have hs2 := hb2.size
        obtain ⟨G, hG⟩ : ∃ G, wr.heap.size = G := ⟨_, rfl⟩
        rw [hG] at hrow2 hg0 hng
        have HNG := Lib.hid hng
        rw [hG]
        have c0 : w2.cell? ⟨G, 0, none⟩ = some (.int .i64 K) := by rw [cell_of_row _ _ 0 _ _ _ hrow2]; rfl
        have c1 : w2.cell? ⟨G, 1, none⟩ = some (.int .i64 N) := by rw [cell_of_row _ _ 1 _ _ _ hrow2]; rfl
        have c2 : w2.cell? ⟨G, 2, none⟩ = some (.string T) := by rw [cell_of_row _ _ 2 _ _ _ hrow2]; rfl
        have hG2 : G < w2.heap.size := by omega
        have hws2 : w.heap.size ≤ w2.heap.size := hW2.out.size
        have HROW := Lib.hid hrow2
        clear hab hrow hO1 hs1 hX hb2 hrow2 hO hW hng hs2 hG hg0 e0 e1 e2 hsz hbw HC
        have HR2 := Lib.hid (HRt.out hrt)
        by_cases hK1 : K = 1
        · subst hK1
          have HPK : Hid (partK ⟨1, N, T⟩ = 1 :: be8 (upN N)) := Lib.hid rfl
          have hw8 := wrap_up N ⟨hN0, hN1⟩
          obtain ⟨v, hv⟩ : ∃ v, upN N = v := ⟨_, rfl⟩
          rw [hv] at hw8 HPK
          have hvl : v < 18446744073709551616 := by rw [← hv]; unfold upN; omega
          have HVL := Lib.hid hvl
          clear hv hvl
          go_wp2
          have hr8 : RowT (w2.alloc (.cells (List.replicate 8 (Value.int .u8 0)).toArray 55)) w2.heap.size 55 (eig v 0) := heap_alloc_new w2 _
          have hu8 : Upd (fun k => k = w2.heap.size) w2 (w2.alloc (.cells (List.replicate 8 (Value.int .u8 0)).toArray 55)) := (Upd.refl _ w2).alloc _
          have hb8 : Below w.heap.size w (w2.alloc (.cells (List.replicate 8 (Value.int .u8 0)).toArray 55)) := hW2.out.alloc hws2 _
          clear hw8
          go_loopw [7, 9] (fun nv iv wx => ∃ j : Nat, j ≤ 8 ∧ iv = .int .i64 (7 - (j : Int)) ∧ nv = .int .u64 ((v / 256 ^ j : Nat) : Int) ∧ RowT wx w2.heap.size 55 (eig v j) ∧ Upd (fun k => k = w2.heap.size) w2 wx ∧ Below w.heap.size w wx) (fun _ iv _ => (intOf iv + 1).toNat)
          case atStart => exact ⟨0, Nat.zero_le _, rfl, by rw [Nat.pow_zero, Nat.div_one], hr8, hu8, hb8⟩
          case round =>
            clear hr8 hu8 hb8
            obtain ⟨j, hj, rfl, rfl, hr8, hu8, hb8⟩ := hrel
            by_cases hlt8 : j < 8
            · obtain ⟨q, hq⟩ : ∃ q, q = v / 256 ^ j := ⟨_, rfl⟩
              have hq2 : v / 256 ^ (j + 1) = q / 256 := by rw [hq, Nat.pow_succ, Nat.div_div_eq_div_mul]
              have hc8 := hr8.cell (7 - j) (by rw [eig_length v j hj]; omega)
              have hf8 := hr8.free (7 - j)
              have n1 : (7 - (j : Int)).toNat = 7 - j := by omega
              have l1 : 0 ≤ 7 - (j : Int) := by omega
              have m1 : 7 - (j : Int) < 8 := by omega
              have o1 : IntKind.i64.wrap (7 - (j : Int) - 1) = 7 - ((j + 1 : Nat) : Int) := by rw [IntWalk.i64_in _ (by omega)]; omega
              have H8 := Lib.hid hr8
              have HQ := Lib.hid hq
              have HQ2 := Lib.hid hq2
              rw [← hq]
              clear hr8 hq hq2
              go_wp2
              have hql : q < 18446744073709551616 := by
                rw [HQ.out]
                exact Nat.lt_of_le_of_lt (Nat.div_le_self _ _) HVL.out
              have e1 : (q : Int) % 256 = (((UInt8.ofNat q).toNat : Nat) : Int) := by rw [UInt8.toNat_ofNat']; omega
              have e2 : IntKind.u64.wrap ((q : Int) / 256) = ((q / 256 : Nat) : Int) := by rw [IntKind.wrap_u64]; omega
              rw [e1, e2, ← HQ2.out]
              have hr9 : RowT (wr.setCell ⟨w2.heap.size, 7 - j, none⟩ (.int .u8 (((UInt8.ofNat q).toNat : Nat) : Int))) w2.heap.size 55 (eig v (j + 1)) := by
                have h1 := H8.out.set (7 - j) (UInt8.ofNat q)
                rw [HQ.out, eig_set v j hlt8, ← HQ.out] at h1
                exact h1
              refine ⟨⟨j + 1, by omega, by rw [show 7 - ((j : Int) + 1) = 7 - ((j + 1 : Nat) : Int) by omega], rfl, hr9, hu8.setCell ⟨w2.heap.size, 7 - j, none⟩ rfl _, hb8.setCell (p := ⟨w2.heap.size, 7 - j, none⟩) hws2 _⟩, ?_⟩
              simp [intOf]; omega
            · obtain rfl : j = 8 := by omega
              rw [eig_all] at hr8
              have hO8 : OwnB wr w.heap.size 5 u4 L := hO2.out.upd hu8 (fun k hk e => by have := (hO2.out.lt k hk).2; omega)
              have HO8 := Lib.hid hO8
              have HB8 := Lib.hid hb8
              have HR8 := Lib.hid hr8
              have hbs8 := hb8.size
              clear hO8 hb8 hr8 hu8
              go_wp2
              have HO9 : Hid (OwnB (wr.drew.alloc (.cells #[.int .u8 1] 5)) w.heap.size 5 u4 L) := Lib.hid (OwnB.below (w := wr) HO8.out (below_drew1 ((Below.refl wr.heap.size wr).alloc (Nat.le_refl _) _)))
              have HB9 : Hid (Below w.heap.size w (wr.drew.alloc (.cells #[.int .u8 1] 5))) := Lib.hid ((below_drew1 HB8.out).alloc hbs8 _)
              have HR9 : Hid (RowT (wr.drew.alloc (.cells #[.int .u8 1] 5)) w2.heap.size 55 (be8 v)) := Lib.hid ((heap_alloc_old _ _ HR8.out.lt).trans HR8.out)
              have HO1 : Hid (Rd (wr.drew.alloc (.cells #[.int .u8 1] 5)) (wr.heap.size + 1) 1 (some ⟨wr.heap.size, 0, none⟩) 1 (bytv [1])) := Lib.hid (one_rd2 wr.drew 1)
              have HLL : Hid (L.length + 9 ≤ 140737488355328) := Lib.hid (by
                have h1 := HPL.out
                have h2 := HL.out
                rw [HPK.out, List.length_cons, be8_len] at h1
                omega)
              have HN8 : Hid (u4.ownBlock ≠ some w2.heap.size) := Lib.hid (fun e => by have := (hO2.out.lt _ e).2; omega)
              go_region_held3 (fun _ => True) (trivial)
                (first
                  | (refine step_bapp (by rfl) (.tmp 38) (.tmp 39) 43 (by rfl) w.heap.size 5 i0 Tryd.underlying43 hi0 hz0 hz1 hz2 u4 L (some ⟨wr.heap.size, 0, none⟩) 1 1 _ [1] (by rfl) (by exact HO9.out) (by rfl) (by exact HO1.out) (by have := HLL.out; omega) (by exact HB9.out.size) ?_
                     intro v5 w5 ho5 hu5 hat5
                     have HO5 := Lib.hid ho5
                     have HB5 := Lib.hid (below_ownB HB9.out HB9.out.size HO9.out (Nat.le_refl _) hu5)
                     have HR5 : Hid (RowT w5 w2.heap.size 55 (be8 v)) := Lib.hid ((hu5.block _ HR9.out.lt (fun e => HN8.out e)).trans HR9.out)
                     clear ho5 hu5 hat5)
                  | (refine step_bapp (by rfl) (.tmp 40) (.tmp 41) 43 (by rfl) w.heap.size 5 i0 Tryd.underlying43 hi0 hz0 hz1 hz2 v5 (L ++ [1]) (some ⟨w2.heap.size, 0, none⟩) 8 8 w5.heap.size (be8 v) (by rfl) (by exact HO5.out) (by rfl) (by exact HR5.out.rd) (by have := HLL.out; simp; omega) (by exact HB5.out.size) ?_
                     intro v6 w6 ho6 hu6 hat6
                     have HO6 : Hid (OwnB w6 w.heap.size 5 v6 (bytesK (l.take (k + 1)))) := Lib.hid (by rw [HT.out, HPK.out]; simpa using ho6)
                     have HB6 := Lib.hid (below_ownB HB5.out HB5.out.size HO5.out (Nat.le_refl _) hu6)
                     clear ho6 hu6 hat6)
                  | fail)
              go_wp2
              go_roundw
              case rel => exact ⟨k + 1, by omega, by go_num, HR2, HO6, HB6⟩
              case measure => simp [intOf]; omega
        · have hK2 : K = 2 ∧ N = 0 := by
            rcases hrt with ⟨h, _⟩ | h
            · exact absurd h hK1
            · exact h
          obtain ⟨rfl, rfl⟩ := hK2
          have HPK : Hid (partK ⟨2, 0, T⟩ = 2 :: (esc T.data.toList ++ [0, 0])) := Lib.hid rfl
          have hpl : L.length + (partK ⟨2, 0, T⟩).length ≤ 1099511627776 := Nat.le_trans HPL.out HL.out
          rw [HPK.out] at hpl
          simp only [List.length_cons, List.length_append, List.length_nil] at hpl
          have HTL := Lib.hid (show T.data.toList.length = T.size by simp)
          go_wp2_with (at_builtin; refine wpList_bpush w2 rfl (.tmp 43) (.tmp 44) 43 rfl w.heap.size 5 i0 Tryd.underlying43 hi0 hz0 hz1 hz2 _ L [2] _ 1 1 rfl rfl rfl (by exact hO2.out) rfl ?x1 ?x2 ?_)
          case x1 => omega
          case x2 => exact hws2
          intro v3 w3 ho3 hu3 hat3
          have hb3 := below_ownB hW2.out hws2 hO2.out (Nat.le_refl _) hu3
          have hrow3 : w3.heap[G]? = some (.cells #[.int .i64 2, .int .i64 0, .string T] 31) := (hu3.block G hG2 (fun e => HNG.out e)).trans HROW.out
          have hng3 : v3.ownBlock ≠ some G := fun e => HNG.out (hat3.old hG2 e)
          have HO3 := Lib.hid ho3
          have HB3 := Lib.hid hb3
          have HROW3 := Lib.hid hrow3
          have HNG3 := Lib.hid hng3
          clear ho3 hb3 hu3 hat3 hrow3 hng3 c0 c1 c2 HROW HNG
          go_wp2
          go_loopw [4, 10] (fun v i wx => ∃ j : Nat, j ≤ T.size ∧ i = .int .i64 j ∧ Hid (OwnB wx w.heap.size 5 v (L ++ [2] ++ esc (T.data.toList.take j))) ∧ Hid (wx.heap[G]? = some (.cells #[.int .i64 2, .int .i64 0, .string T] 31)) ∧ Hid (v.ownBlock ≠ some G) ∧ Hid (Below w.heap.size w wx)) (fun _ i _ => T.size - (intOf i).toNat)
          case atStart => exact ⟨0, Nat.zero_le _, rfl, Lib.hid (by simpa [esc] using HO3.out), HROW3, HNG3, HB3⟩
          case round =>
            clear HO3 HROW3 HNG3 HB3
            obtain ⟨j, hj, rfl, HO, HROW, HNG, HB⟩ := hrel
            have c2 : wr.cell? ⟨G, 2, none⟩ = some (.string T) := by rw [cell_of_row _ _ 2 _ _ _ HROW.out]; rfl
            have hGr : G < wr.heap.size := (Array.getElem?_eq_some_iff.1 HROW.out).1
            have hbs := HB.out.size
            by_cases hlt2 : j < T.size
            · have hjl : j < T.data.toList.length := by rw [HTL.out]; exact hlt2
              have HE := Lib.hid (esc_take T.data.toList j hjl)
              have hgj : T.data.toList[j] = T[j] := rfl
              have hel : (esc (T.data.toList.take j)).length ≤ (esc T.data.toList).length := by
                have h1 : esc (T.data.toList.take j) ++ esc (T.data.toList.drop j) = esc T.data.toList := by rw [← esc_append, List.take_append_drop]
                rw [← h1, List.length_append]; omega
              obtain ⟨M, hM⟩ : ∃ M, L ++ [2] ++ esc (T.data.toList.take j) = M := ⟨_, rfl⟩
              have hml : M.length + 2 ≤ 140737488355328 := by rw [← hM]; simp only [List.length_append, List.length_cons, List.length_nil]; omega
              rw [hM] at HO
              have HM := Lib.hid hM
              clear hM hel
              go_wp2_with (at_builtin; refine wpList_bpush wr rfl (.tmp 53) (.tmp 58) 43 rfl w.heap.size 5 i0 Tryd.underlying43 hi0 hz0 hz1 hz2 _ M [T[j]] _ 1 1 rfl rfl rfl (by exact HO.out) rfl ?y1 ?y2 ?_)
              case y1 => omega
              case y2 => exact hbs
              intro v4 w4 ho4 hu4 hat4
              have hb4 := below_ownB HB.out hbs HO.out (Nat.le_refl _) hu4
              have hrow4 : w4.heap[G]? = some (.cells #[.int .i64 2, .int .i64 0, .string T] 31) := (hu4.block G hGr (fun e => HNG.out e)).trans HROW.out
              have hng4 : v4.ownBlock ≠ some G := fun e => HNG.out (hat4.old hGr e)
              have c2' : w4.cell? ⟨G, 2, none⟩ = some (.string T) := by rw [cell_of_row _ _ 2 _ _ _ hrow4]; rfl
              have hGr4 : G < w4.heap.size := (Array.getElem?_eq_some_iff.1 hrow4).1
              have hbs4 := hb4.size
              have HO4 := Lib.hid ho4
              have HB4 := Lib.hid hb4
              have HROW4 := Lib.hid hrow4
              have HNG4 := Lib.hid hng4
              clear ho4 hb4 hu4 hat4 hrow4 hng4 HO HB HROW HNG c2
              by_cases h0 : T[j] = 0
              · have hb0 : (((T[j]).toNat : Int) == 0) = true := by rw [h0]; rfl
                have HE2 : Hid (L ++ [2] ++ esc (T.data.toList.take (j + 1)) = (M ++ [T[j]]) ++ [255]) := Lib.hid (by rw [HE.out, if_pos (hgj.trans h0), ← HM.out, h0]; simp)
                clear h0 hgj
                go_wp2_with (at_builtin; refine wpList_bpush w4 rfl (.tmp 65) (.tmp 66) 43 rfl w.heap.size 5 i0 Tryd.underlying43 hi0 hz0 hz1 hz2 _ (M ++ [T[j]]) [255] _ 1 1 rfl rfl rfl (by exact HO4.out) rfl ?z1 ?z2 ?_)
                case z1 => simp; omega
                case z2 => exact hbs4
                intro v5 w5 ho5 hu5 hat5
                have hb5 := below_ownB HB4.out hbs4 HO4.out (Nat.le_refl _) hu5
                have hrow5 : w5.heap[G]? = some (.cells #[.int .i64 2, .int .i64 0, .string T] 31) := (hu5.block G hGr4 (fun e => HNG4.out e)).trans HROW4.out
                have hng5 : v5.ownBlock ≠ some G := fun e => HNG4.out (hat5.old hGr4 e)
                have HO5 : Hid (OwnB w5 w.heap.size 5 v5 (L ++ [2] ++ esc (T.data.toList.take (j + 1)))) := Lib.hid (by rw [HE2.out]; simpa using ho5)
                have HB5 := Lib.hid hb5
                have HROW5 := Lib.hid hrow5
                have HNG5 := Lib.hid hng5
                clear ho5 hb5 hu5 hat5 hrow5 hng5
                go_wp2
                go_roundw
                case rel => exact ⟨j + 1, by omega, by go_num, HO5, HROW5, HNG5, HB5⟩
                case measure => simp [intOf]; omega
              · have hb0 : (((T[j]).toNat : Int) == 0) = false := beq_eq_false_iff_ne.2 (fun h => h0 (UInt8.toNat_inj.1 (by show (T[j]).toNat = 0; omega)))
                have HO5 : Hid (OwnB w4 w.heap.size 5 v4 (L ++ [2] ++ esc (T.data.toList.take (j + 1)))) := Lib.hid (by rw [HE.out, if_neg (by rw [hgj]; exact h0), hgj, ← List.append_assoc, HM.out]; exact HO4.out)
                clear h0 hgj
                go_wp2
                go_roundw
                case rel => exact ⟨j + 1, by omega, by go_num, HO5, HROW4, HNG4, HB4⟩
                case measure => simp [intOf]; omega
            · obtain rfl : j = T.size := by omega
              have HO2 : Hid (OwnB wr w.heap.size 5 u4 (L ++ [2] ++ esc T.data.toList)) := Lib.hid (by have := HO.out; rwa [← HTL.out, List.take_length] at this)
              have HTT : Hid (bytesK (l.take (k + 1)) = (L ++ [2] ++ esc T.data.toList) ++ [0, 0]) := Lib.hid (by rw [HT.out, HPK.out]; simp)
              have hll : (L ++ [2] ++ esc T.data.toList).length + 2 ≤ 140737488355328 := by simp only [List.length_append, List.length_cons, List.length_nil]; omega
              clear HO
              go_wp2_with (at_builtin; refine wpList_bpush wr rfl (.tmp 68) (.tmp 69) 43 rfl w.heap.size 5 i0 Tryd.underlying43 hi0 hz0 hz1 hz2 _ (L ++ [2] ++ esc T.data.toList) [0, 0] _ 2 2 rfl rfl rfl (by exact HO2.out) rfl ?q1 ?q2 ?_)
              case q1 => exact hll
              case q2 => exact hbs
              intro v5 w5 ho5 hu5 _
              have HO5 : Hid (OwnB w5 w.heap.size 5 v5 (bytesK (l.take (k + 1)))) := Lib.hid (by rw [HTT.out]; simpa using ho5)
              have HB5 := Lib.hid (below_ownB HB.out hbs HO2.out (Nat.le_refl _) hu5)
              clear ho5 hu5
              go_wp2
              go_roundw
              case rel => exact ⟨k + 1, by omega, by go_num, HR2, HO5, HB5⟩
              case measure => simp [intOf]; omega
      · have hcall := fun W => right_any W K N T
        simp only [decide_eq_false hrt] at hcall
        have HC := Lib.hid hcall
        have HN := Lib.hid (HNo.out hrt)
        clear hcall
        go_wp2_with fail
        refine (HC.out _).mono ?_
        rintro e w2 ⟨rfl, hb2⟩
        have hab : Below w.heap.size w (wr.alloc (.cells #[.int .i64 K, .int .i64 N, .string T] 31)) := hW.out.alloc hsz _
        have HB2 := Lib.hid (hab.trans (hb2.mono hab.size))
        clear hab hb2 HC HNo HRt
        go_wp2
        go_ret2
        rw [HN.out]
        exact ⟨rfl, HB2.out⟩
    · obtain rfl : k = n := by omega
      have HKR := Lib.hid (keyR_ok (l := l) (by have := HA.out; rwa [List.take_of_length_le (by rw [← HNL.out]; exact Nat.le_refl _)] at this))
      have hO2 : OwnB wr w.heap.size 5 u4 (bytesK l) := by have := hO.out; rwa [List.take_of_length_le (by rw [← HNL.out]; exact Nat.le_refl _)] at this
      have hst := OwnB.str (P := Tryd.prog) (src := 43) (dst := 9) (e := 5) Tryd.underlying43 Tryd.underlying5 Tryd.underlying9 hO2
      clear hO hO2 HA
      go_wp2
      go_ret2
      rw [HKR.out]
      exact ⟨rfl, hW.out⟩
end Go.Proofs.YtaphfjomlignhaaDoor
