/- Pack: the law PackBack, walked. -/
import Derived.Test.YtmjkebokedaldaaPkItB
namespace Go.Proofs.Ytmjkebokedaldaa
open Go.RowKit

set_option maxHeartbeats 2000000 in
set_option maxRecDepth 20000 in
theorem back_any (w : World) (A : Option Addr) (n c : Nat) (l : List Item) (hr : Rd w w.heap.size 3 A n (itemv l)) (hl : ∀ i ∈ l, i.ok) (hn : n ≤ 5000000000000) (hB : (itemsB l).length ≤ 5242880) :
    Calls Try.prog 10 #[.slice A n c] w fun e w' => e = .returned (.bool true) ∧ Below w.heap.size w w' := by
  have hln : l.length = n := by have := hr.1; rw [itemv_length] at this; omega
  go_enter Try.func10, Try.ntmps10
  go_wp2_with fail
  refine (plives_any _).mono ?_
  rintro e w1 ⟨rfl, hb1⟩
  go_wp2_with fail
  refine (new_wr _ w.heap.size).mono ?_
  rintro e w3 ⟨rfl, hw3, hb3, hz3⟩
  have hb13 := bel hb1 hb3
  have g3 : w.heap.size ≤ w1.heap.size := hb1.size
  generalize w1.heap.size = G at *
  clear hb1 hb3
  go_wp2
  go_loopw [20] (fun i wx => ∃ k : Nat, k ≤ n ∧ i = .int .i64 k ∧ (∃ v : Value, Wr wx w.heap.size G v (itemsB (l.take k))) ∧ Below w.heap.size w wx) (fun i _ => n - (intOf i).toNat)
  case atStart => exact ⟨0, Nat.zero_le _, rfl, ⟨_, hw3⟩, hb13⟩
  case round =>
    obtain ⟨k, hk, rfl, ⟨v, hw2⟩, hbx⟩ := hrel
    by_cases hlt : k < n
    · obtain ⟨b, off, rfl, hab, hsk, hc0, hc1, hc2⟩ := hr.item hlt
      have hok := hl _ (List.getElem_mem hsk)
      obtain ⟨k0, k1, kn, ks⟩ := hok
      have hnext := itemsB_take l k hsk
      have hlen := itemsB_take_len l (k + 1)
      rw [hnext, List.length_append] at hlen
      obtain ⟨K, hK⟩ : ∃ K, l[k].k = K := ⟨_, rfl⟩
      obtain ⟨N, hN⟩ : ∃ N, l[k].n = N := ⟨_, rfl⟩
      obtain ⟨T, hT⟩ : ∃ T, l[k].s = T := ⟨_, rfl⟩
      have i0 := itemB_0 hN hK
      have i1 := itemB_1 hN hK
      have i2 := itemB_2 hT hK
      rw [hK] at hc0 k0 k1
      rw [hN] at hc1 kn
      rw [hT] at hc2 ks
      generalize itemB l[k] = IB at *
      clear hK hN hT
      have d0 : wr.cell? ⟨b, off + k * 3, none⟩ = some (.int .i64 K) := (hbx.cell (p := ⟨b, off + k * 3, none⟩) hab).trans hc0
      have d1 : wr.cell? ⟨b, off + k * 3 + 1, none⟩ = some (.int .u64 (N : Int)) := (hbx.cell (p := ⟨b, off + k * 3 + 1, none⟩) hab).trans hc1
      have d2 : wr.cell? ⟨b, off + k * 3 + 2, none⟩ = some (.string T) := (hbx.cell (p := ⟨b, off + k * 3 + 2, none⟩) hab).trans hc2
      obtain ⟨bs, hbs⟩ : ∃ bs, bs = itemsB (l.take k) := ⟨_, rfl⟩
      rw [← hbs] at hw2 hnext hlen
      have HN := Lib.hid hnext
      have H0 := Lib.hid i0
      have H1 := Lib.hid i1
      have H2 := Lib.hid i2
      have hbA : Below wr.heap.size wr (wr.alloc (.cells #[Value.int .i64 K, Value.int .u64 (N : Int), Value.string T] 50)) := (Below.refl _ _).alloc (Nat.le_refl _) _
      clear hc0 hc1 hc2 hbs hnext i0 i1 i2
      go_wp2_with fail
      refine (kind_any _ _ _ _ K rfl k0 k1).mono ?_
      rintro e w5 ⟨rfl, hb5⟩
      have hb5' : Below wr.heap.size wr w5 := bel hbA hb5
      have e0 : w5.heap[wr.heap.size]? = some (.cells #[Value.int .i64 K, Value.int .u64 (N : Int), Value.string T] 50 (0, 0)) := (hb5.block _ (by simp)).trans (heap_alloc_new wr _)
      have e1 : w5.cell? ⟨wr.heap.size, 1, none⟩ = some (.int .u64 (N : Int)) := by rw [cell_of_row w5 wr.heap.size 1 _ _ _ e0]; rfl
      have e2 : w5.cell? ⟨wr.heap.size, 2, none⟩ = some (.string T) := by rw [cell_of_row w5 wr.heap.size 2 _ _ _ e0]; rfl
      have hw2 := hw2.upd (Upd.of_below (S := fun _ => False) hb5') (fun _ _ h => h)
      have hb5w := bel hbx hb5'
      clear hbA hb5 hb5' hbx d0 d1 d2 e0
      have hkd : kd K = 0 ∨ kd K = 1 ∨ kd K = 2 := by unfold kd; omega
      generalize kd K = Q at *
      rcases hkd with rfl | rfl | rfl
      · have h := H0.out rfl
        subst h
        have hlb : bs.length + (numB N).length ≤ 140737488355328 := by omega
        go_wp2_with fail
        refine (num_one _ w.heap.size G v bs N _ rfl kn hw2 hb5w.size hlb).mono ?_
        rintro e w7 ⟨rfl, v7, hw7, hat7, hu7⟩
        have hb7 : Below w.heap.size w w7 := below_upd_wr' hb5w hw2 (Nat.le_refl _) g3 hu7
        clear hw2 hb5w hat7 hu7
        go_wp2
        go_roundw
        case rel => exact ⟨k + 1, by omega, by go_num, ⟨v7, by rw [HN.out]; exact hw7⟩, hb7⟩
        case measure => simp [intOf]; omega
      · have h := H1.out rfl
        subst h
        have hlb : bs.length + (intB (sg N)).length ≤ 140737488355328 := by omega
        go_wp2_with fail
        refine (int_one _ w.heap.size G v bs (sg N) (sg_lo _) (sg_hi _) hw2 hb5w.size hlb).mono ?_
        rintro e w7 ⟨rfl, v7, hw7, hat7, hu7⟩
        have hb7 : Below w.heap.size w w7 := below_upd_wr' hb5w hw2 (Nat.le_refl _) g3 hu7
        clear hw2 hb5w hat7 hu7
        go_wp2
        go_roundw
        case rel => exact ⟨k + 1, by omega, by go_num, ⟨v7, by rw [HN.out]; exact hw7⟩, hb7⟩
        case measure => simp [intOf]; omega
      · have h := H2.out rfl
        subst h
        have hlb : bs.length + (textB T.data.toList).length ≤ 140737488355328 := by omega
        go_wp2_with fail
        refine (text_one _ w.heap.size G v bs T hw2 hb5w.size hlb).mono ?_
        rintro e w7 ⟨rfl, v7, hw7, hat7, hu7⟩
        have hb7 : Below w.heap.size w w7 := below_upd_wr' hb5w hw2 (Nat.le_refl _) g3 hu7
        clear hw2 hb5w hat7 hu7
        go_wp2
        go_roundw
        case rel => exact ⟨k + 1, by omega, by go_num, ⟨v7, by rw [HN.out]; exact hw7⟩, hb7⟩
        case measure => simp [intOf]; omega
    · obtain rfl : k = n := by omega
      rw [List.take_of_length_le (by omega)] at hw2
      go_wp2_with fail
      refine (bytes_any _ _ _ _ _ hw2).mono ?_
      rintro e w4 ⟨rfl, rfl⟩
      go_wp2_with fail
      refine (read_new _ _).mono ?_
      rintro e w2 ⟨rfl, hr2, hb2, hz2⟩
      have hbr := bel hbx hb2
      have g2 : w.heap.size ≤ wr.heap.size := hbx.size
      generalize wr.heap.size = G2 at *
      clear hw2 hb2 hbx hw3 hb13
      obtain ⟨s, hs⟩ : ∃ s : ByteArray, s = ⟨(itemsB l).toArray⟩ := ⟨_, rfl⟩
      rw [← hs] at hr2
      have hsl : s.data.toList = itemsB (l.drop 0) := by rw [hs]; simp
      clear hs
      go_wp2
      go_loopw [52] (fun i wx => ∃ j : Nat, j ≤ k ∧ i = .int .i64 j ∧ (∃ s2 : ByteArray, Rdr wx 83 G2 s2 ∧ Hid (s2.data.toList = itemsB (l.drop j))) ∧ Below w.heap.size w wx) (fun i _ => k - (intOf i).toNat)
      case atStart => exact ⟨0, Nat.zero_le _, rfl, ⟨s, hr2, hsl⟩, hbr⟩
      case round =>
        clear hr2 hbr
        obtain ⟨j, hj, rfl, ⟨s2, hr2, HS⟩, hbx⟩ := hrel
        by_cases hlt : j < k
        · obtain ⟨b, off, rfl, hab, hsk, hc0, hc1, hc2⟩ := hr.item hlt
          have hok := hl _ (List.getElem_mem hsk)
          obtain ⟨k0, k1, kn, ks⟩ := hok
          have hnext := itemsB_drop l j hsk
          have hs2 : s2.size ≤ 140737488351232 := by
            have h1 := size_list HS.out
            have h2 := itemsB_drop_len l j
            omega
          obtain ⟨K, hK⟩ : ∃ K, l[j].k = K := ⟨_, rfl⟩
          obtain ⟨N, hN⟩ : ∃ N, l[j].n = N := ⟨_, rfl⟩
          obtain ⟨T, hT⟩ : ∃ T, l[j].s = T := ⟨_, rfl⟩
          have i0 := itemB_0 hN hK
          have i1 := itemB_1 hN hK
          have i2 := itemB_2 hT hK
          rw [hK] at hc0 k0 k1
          rw [hN] at hc1 kn
          rw [hT] at hc2 ks
          generalize itemB l[j] = IB at *
          clear hK hN hT
          have d0 : wr.cell? ⟨b, off + j * 3, none⟩ = some (.int .i64 K) := (hbx.cell (p := ⟨b, off + j * 3, none⟩) hab).trans hc0
          have d1 : wr.cell? ⟨b, off + j * 3 + 1, none⟩ = some (.int .u64 (N : Int)) := (hbx.cell (p := ⟨b, off + j * 3 + 1, none⟩) hab).trans hc1
          have d2 : wr.cell? ⟨b, off + j * 3 + 2, none⟩ = some (.string T) := (hbx.cell (p := ⟨b, off + j * 3 + 2, none⟩) hab).trans hc2
          have HD := Lib.hid hnext
          have H0 := Lib.hid i0
          have H1 := Lib.hid i1
          have H2 := Lib.hid i2
          have hbA : Below wr.heap.size wr (wr.alloc (.cells #[Value.int .i64 K, Value.int .u64 (N : Int), Value.string T] 50)) := (Below.refl _ _).alloc (Nat.le_refl _) _
          have hne : wr.heap.size ≠ G2 := by have := hr2.lt; omega
          clear hc0 hc1 hc2 hnext i0 i1 i2
          go_wp2_with fail
          refine (kind_any _ _ _ _ K rfl k0 k1).mono ?_
          rintro e w5 ⟨rfl, hb5⟩
          have hb5' : Below wr.heap.size wr w5 := bel hbA hb5
          have e0 : w5.heap[wr.heap.size]? = some (.cells #[Value.int .i64 K, Value.int .u64 (N : Int), Value.string T] 50 (0, 0)) := (hb5.block _ (by simp)).trans (heap_alloc_new wr _)
          have e1 : w5.cell? ⟨wr.heap.size, 1, none⟩ = some (.int .u64 (N : Int)) := by rw [cell_of_row w5 wr.heap.size 1 _ _ _ e0]; rfl
          have e2 : w5.cell? ⟨wr.heap.size, 2, none⟩ = some (.string T) := by rw [cell_of_row w5 wr.heap.size 2 _ _ _ e0]; rfl
          have hr2 := hr2.upd (Upd.of_below (S := fun _ => False) hb5') (fun h => h)
          have hb5w := bel hbx hb5'
          clear hbA hb5 hb5' hbx d0 d1 d2 e0
          have hkd : kd K = 0 ∨ kd K = 1 ∨ kd K = 2 := by unfold kd; omega
          generalize kd K = Q at *
          rcases hkd with rfl | rfl | rfl
          · have HRD : rdNum s2.data.toList = (N, 0, itemsB (l.drop (j + 1))) := by rw [HS.out, HD.out, H0.out rfl]; exact rdNum_numB N _ kn
            go_wp2_with fail
            refine (rdnum_f _ _ s2 N 0 (itemsB (l.drop (j + 1))) HRD hr2 hs2).mono ?_
            rintro e w6 ⟨rfl, ht6⟩
            have hb6 : Below w.heap.size w w6 := below_took hb5w hb5w.size g2 ht6
            have e1' := (took_cell ht6 hne e1)
            have e2' := (took_cell ht6 hne e2)
            obtain ⟨s6, hs6, hr6, hu6⟩ := ht6
            clear hr2 hu6 e1 e2
            go_wp2
            go_roundw
            case rel => exact ⟨j + 1, by omega, by go_num, ⟨s6, hr6, hs6⟩, hb6⟩
            case measure => simp [intOf]; omega
          · have HRD : rdInt s2.data.toList = (sg N, 0, itemsB (l.drop (j + 1))) := by rw [HS.out, HD.out, H1.out rfl]; exact rdInt_intB _ _ (sg_lo N) (sg_hi N)
            go_wp2_with fail
            refine (rdint_f _ _ s2 (sg N) 0 (itemsB (l.drop (j + 1))) HRD hr2 hs2).mono ?_
            rintro e w6 ⟨rfl, ht6⟩
            have hsg := sg_ne N
            have hb6 : Below w.heap.size w w6 := below_took hb5w hb5w.size g2 ht6
            have e1' := (took_cell ht6 hne e1)
            have e2' := (took_cell ht6 hne e2)
            obtain ⟨s6, hs6, hr6, hu6⟩ := ht6
            clear hr2 hu6 e1 e2
            go_wp2
            go_roundw
            case rel => exact ⟨j + 1, by omega, by go_num, ⟨s6, hr6, hs6⟩, hb6⟩
            case measure => simp [intOf]; omega
          · have HRD : rdText s2.data.toList = (T.data.toList, 0, itemsB (l.drop (j + 1))) := by rw [HS.out, HD.out, H2.out rfl]; exact rdText_textB _ _ (by have h1 : T.data.toList.length = T.size := (by simp); omega)
            go_wp2_with fail
            refine (rdtext_f _ _ s2 T.data.toList 0 (itemsB (l.drop (j + 1))) HRD hr2 hs2).mono ?_
            rintro e w6 ⟨⟨tt, htt, rfl⟩, ht6⟩
            obtain rfl : tt = T := ByteArray.ext (Array.toList_inj.1 htt)
            have hb6 : Below w.heap.size w w6 := below_took hb5w hb5w.size g2 ht6
            have e1' := (took_cell ht6 hne e1)
            have e2' := (took_cell ht6 hne e2)
            obtain ⟨s6, hs6, hr6, hu6⟩ := ht6
            clear hr2 hu6 e1 e2
            go_wp2
            go_roundw
            case rel => exact ⟨j + 1, by omega, by go_num, ⟨s6, hr6, hs6⟩, hb6⟩
            case measure => simp [intOf]; omega
        · obtain rfl : j = k := by omega
          have h0 : (s2.size : Int) = 0 := by
            have h1 := size_list HS.out
            rw [List.drop_of_length_le (by omega)] at h1
            have h2 : (itemsB ([] : List Item)).length = 0 := rfl
            omega
          go_wp2_with fail
          refine (done_i _ _ s2 hr2).mono ?_
          rintro e w' ⟨rfl, rfl⟩
          rw [h0]
          go_wp2_with fail
          refine (left_any _ _ s2 hr2).mono ?_
          rintro e w' ⟨rfl, rfl⟩
          rw [h0]
          go_wp2
          go_ret
          exact ⟨rfl, hbx⟩
end Go.Proofs.Ytmjkebokedaldaa
