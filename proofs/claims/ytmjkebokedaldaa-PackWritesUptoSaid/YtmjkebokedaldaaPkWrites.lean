/- Pack: the law PackWrites, walked. -/
import Derived.Test.YtmjkebokedaldaaPkItB
namespace Go.Proofs.Ytmjkebokedaldaa
open Go.RowKit

def Apart (v u : Value) : Prop := ∀ k, v.ownBlock = some k → u.ownBlock ≠ some k
theorem Apart.left {w : World} {v v' u : Value} (h : Apart v u) (hat : RowAt w v v') (hlt : ∀ k, u.ownBlock = some k → k < w.heap.size) : Apart v' u := by
  intro k hk hu
  exact h k (hat.old (hlt k hu) hk) hu
theorem Apart.right {w : World} {v u u' : Value} (h : Apart v u) (hat : RowAt w u u') (hlt : ∀ k, v.ownBlock = some k → k < w.heap.size) : Apart v u' := by
  intro k hk hu
  exact h k hk (hat.old (hlt k hk) hu)
theorem own_drewN {w : World} {base size n : Nat} {e : TypeId} {v : Value} {xs : List Value} (h : w.ownsRow base e size v n xs) (m : Nat) : (w.drewN m).ownsRow base e size v n xs := h
/-- A text's bytes behind a row. -/
theorem row_text {w : World} {base n : Nat} {v : Value} {e : TypeId} {bs b c : List UInt8} {y : ByteArray} (hc : c = bs ++ b) (hy : y.data.toList = b) (hn : n = bs.length)
    (h : w.ownsRow base e 1 v (n + y.size) (bytv (bs ++ y.data.toList))) : w.ownsRow base e 1 v c.length (bytv c) := by
  have h1 : y.size = b.length := by rw [← hy]; simp
  rw [hc, List.length_append, ← h1, ← hn, ← hy]
  exact h

set_option maxHeartbeats 2000000 in
set_option maxRecDepth 20000 in
theorem writes_any (w : World) (A : Option Addr) (n c : Nat) (l : List Item) (hr : Rd w w.heap.size 3 A n (itemv l)) (hl : ∀ i ∈ l, i.ok) (hn : n ≤ 5000000000000) (hB : (itemsB l).length ≤ 5242880) :
    Calls Try.prog 7 #[.slice A n c] w fun e w' => e = .returned (.bool true) ∧ Below w.heap.size w w' := by
  obtain ⟨i0, hi0, hz0, hz1, hz2⟩ := info_parts u8_info
  have hln : l.length = n := by have := hr.1; rw [itemv_length] at this; omega
  go_enter Try.func7, Try.ntmps7
  go_wp2_with fail
  refine (plives_any _).mono ?_
  rintro e w1 ⟨rfl, hb1⟩
  go_wp2_with fail
  refine (new_wr _ w.heap.size).mono ?_
  rintro e w2 ⟨rfl, hw2, hb2, hz2'⟩
  go_wp2_with fail
  refine (new_wr _ w.heap.size).mono ?_
  rintro e w3 ⟨rfl, ho3, hb3, hz3⟩
  have hw3 := hw2.upd (Upd.of_below (S := fun _ => False) hb3) (fun _ _ h => h)
  have hb13 := bel (bel hb1 hb2) hb3
  have g3 : w.heap.size ≤ w1.heap.size := hb1.size
  have hgg : w1.heap.size ≠ w2.heap.size := by omega
  generalize w1.heap.size = G at *
  generalize w2.heap.size = O at *
  clear hb1 hb2 hb3 hw2
  go_wp2
  go_loopw [5, 14] (fun u i wx => ∃ k : Nat, k ≤ n ∧ i = .int .i64 k ∧ (∃ v : Value, Wr wx w.heap.size G v (itemsB (l.take k)) ∧ Apart v u) ∧ wx.ownsRow w.heap.size 5 1 u (itemsB (l.take k)).length (bytv (itemsB (l.take k))) ∧ Wr wx w.heap.size O (.slice none 0 0) [] ∧ Below w.heap.size w wx) (fun _ i _ => n - (intOf i).toNat)
  case atStart => exact ⟨0, Nat.zero_le _, rfl, ⟨_, hw3, by intro k hk; simp [Value.ownBlock] at hk⟩, World.ownsRow_nil _ _ _ _, ho3, hb13⟩
  case round =>
    obtain ⟨k, hk, rfl, ⟨v, hw2, hap⟩, hown, ho, hbx⟩ := hrel
    clear hw3 ho3 hb13
    by_cases hlt : k < n
    · obtain ⟨b, off, rfl, hab, hsk, hc0, hc1, hc2⟩ := hr.item hlt
      have hok := hl _ (List.getElem_mem hsk)
      obtain ⟨k0, k1, kn, ks⟩ := hok
      have hnext := itemsB_take l k hsk
      have hlen := itemsB_take_len l (k + 1)
      rw [hnext, List.length_append] at hlen
      obtain ⟨K, hK⟩ : ∃ K, l[k].k = K := ⟨_, rfl⟩
      obtain ⟨N, hN⟩ : ∃ N, l[k].n = N := ⟨_, rfl⟩
      obtain ⟨T, hT⟩ : ∃ T, l[k].s = T := ⟨_, rfl⟩
      have i0' := itemB_0 hN hK
      have i1' := itemB_1 hN hK
      have i2' := itemB_2 hT hK
      rw [hK] at hc0 k0 k1
      rw [hN] at hc1 kn
      rw [hT] at hc2 ks
      generalize itemB l[k] = IB at *
      clear hK hN hT
      have d0 : wr.cell? ⟨b, off + k * 3, none⟩ = some (.int .i64 K) := (hbx.cell (p := ⟨b, off + k * 3, none⟩) hab).trans hc0
      have d1 : wr.cell? ⟨b, off + k * 3 + 1, none⟩ = some (.int .u64 (N : Int)) := (hbx.cell (p := ⟨b, off + k * 3 + 1, none⟩) hab).trans hc1
      have d2 : wr.cell? ⟨b, off + k * 3 + 2, none⟩ = some (.string T) := (hbx.cell (p := ⟨b, off + k * 3 + 2, none⟩) hab).trans hc2
      obtain ⟨bs, hbs⟩ : ∃ bs, bs = itemsB (l.take k) := ⟨_, rfl⟩
      rw [← hbs] at hw2 hnext hlen hown
      have HN := Lib.hid hnext
      have H0 := Lib.hid i0'
      have H1 := Lib.hid i1'
      have H2 := Lib.hid i2'
      have hbA : Below wr.heap.size wr (wr.alloc (.cells #[Value.int .i64 K, Value.int .u64 (N : Int), Value.string T] 50)) := (Below.refl _ _).alloc (Nat.le_refl _) _
      have hnw : ¬ WrS G v wr.heap.size := by
        rintro (e | e)
        · have := hw2.lt; omega
        · have := (hw2.own.lt _ e).2; omega
      clear hc0 hc1 hc2 hbs hnext i0' i1' i2'
      go_wp2_with fail
      refine (kind_any _ _ _ _ K rfl k0 k1).mono ?_
      rintro e w5 ⟨rfl, hb5⟩
      have hb5' : Below wr.heap.size wr w5 := bel hbA hb5
      have e0 : w5.heap[wr.heap.size]? = some (.cells #[Value.int .i64 K, Value.int .u64 (N : Int), Value.string T] 50 (0, 0)) := (hb5.block _ (by simp)).trans (heap_alloc_new wr _)
      have e1 : w5.cell? ⟨wr.heap.size, 1, none⟩ = some (.int .u64 (N : Int)) := by rw [cell_of_row w5 wr.heap.size 1 _ _ _ e0]; rfl
      have e2 : w5.cell? ⟨wr.heap.size, 2, none⟩ = some (.string T) := by rw [cell_of_row w5 wr.heap.size 2 _ _ _ e0]; rfl
      have hw2 := hw2.upd (Upd.of_below (S := fun _ => False) hb5') (fun _ _ h => h)
      have ho2 := ho.upd (Upd.of_below (S := fun _ => False) hb5') (fun _ _ h => h)
      have hown2 := own_below hown hb5'
      have hb5w := bel hbx hb5'
      have hgw := cell_lt e1
      generalize wr.heap.size = I at *
      clear hbA hb5 hb5' hbx d0 d1 d2 e0 hown ho
      have hkd : kd K = 0 ∨ kd K = 1 ∨ kd K = 2 := by unfold kd; omega
      generalize kd K = Q at *
      rcases hkd with rfl | rfl | rfl
      · have h := H0.out rfl
        subst h
        have hlb : bs.length + (numB N).length ≤ 140737488355328 := by omega
        go_wp2_with fail
        refine (num_one _ w.heap.size G v bs N _ rfl kn hw2 hb5w.size hlb).mono ?_
        rintro e w7 ⟨rfl, v7, hw7, hat7, hu7⟩
        have e1' := (hu7.cell (p := ⟨I, 1, none⟩) hgw hnw).trans e1
        have e2' := (hu7.cell (p := ⟨I, 2, none⟩) hgw hnw).trans e2
        have hb7 : Below w.heap.size w w7 := below_upd_wr' hb5w hw2 (Nat.le_refl _) g3 hu7
        have hown7 := own_upd hown2 hu7 (fun k hk hs => hs.elim (fun e => own_ne_cells hown2 hw2.blk (by decide) (e ▸ hk)) (fun e => hap k e hk))
        have ho7 := ho2.upd hu7 (fun k hk hs => hs.elim (fun e => hk.elim (fun e2 => hgg (e.symm.trans e2)) (fun e2 => by simp [Value.ownBlock] at e2)) (fun e => hk.elim (fun e2 => own_ne_cells hw2.own ho2.blk (by decide) (e2 ▸ e)) (fun e2 => by simp [Value.ownBlock] at e2)))
        have hap7 := hap.left hat7 (fun k hk => (hown2.lt k hk).2)
        clear hown2 hw2 ho2 hap hu7 hat7 hb5w e1 e2
        go_wp2_with fail
        refine (rnum_any _ N kn).mono ?_
        rintro e w8 ⟨rfl, hb8⟩
        have hw8 := hw7.upd (Upd.of_below (S := fun _ => False) hb8) (fun _ _ h => h)
        have ho8 := ho7.upd (Upd.of_below (S := fun _ => False) hb8) (fun _ _ h => h)
        have hown8 := own_below hown7 hb8
        have hb8w := bel hb7 hb8
        obtain ⟨y, hy⟩ : ∃ y : ByteArray, y = ⟨(numB N).toArray⟩ := ⟨_, rfl⟩
        rw [← hy]
        have hyl : y.data.toList = numB N := by rw [hy]
        have hys : y.size = (numB N).length := by rw [hy]; rfl
        rw [← hys] at hlb
        have HYL := Lib.hid hyl
        clear hy hyl hys hown7 hw7 ho7 hb7 hb8
        go_wp2_with (at_builtin; refine wpList_apps rfl (.tmp 37) (.tmp 40) 32 9 rfl w.heap.size 5 i0 Try.underlying32 Try.underlying9 hi0 hz0 hz1 hz2 _ _ bs y rfl (by exact hown8) rfl ?c1 ?c2 ?_)
        case c1 => exact hlb
        case c2 => exact hb8w.size
        intro v3 w3 hown3 hu3 hat3
        have hown3' := row_text HN.out HYL.out rfl hown3
        have hw9 := hw8.upd hu3 (fun k hk hs => hk.elim (fun e => own_ne_cells hown8 hw8.blk (by decide) (e ▸ hs)) (fun e => hap7 k e hs))
        have ho9 := ho8.upd hu3 (fun k hk hs => hk.elim (fun e => own_ne_cells hown8 ho8.blk (by decide) (e ▸ hs)) (fun e2 => by simp [Value.ownBlock] at e2))
        have hap9 := hap7.right hat3 (fun k hk => (hw8.own.lt k hk).2)
        have hb9 := below_row hb8w hb8w.size hown8 (Nat.le_refl _) hu3
        rw [← HN.out] at hw9
        obtain ⟨A3, c3, hv3⟩ := own_shape hown3'
        subst hv3
        clear hown3 hown8 hw8 ho8 hap7 hu3 hat3 hb8w
        go_wp2_with fail
        refine (len_any _ _ _ _ _ hw9).mono ?_
        rintro e w' ⟨rfl, rfl⟩
        go_wp2
        go_roundw
        case rel => exact ⟨k + 1, by omega, by go_num, ⟨v7, hw9, hap9⟩, hown3', ho9, hb9⟩
        case measure => simp [intOf]; omega
      · have h := H1.out rfl
        subst h
        have hlb : bs.length + (intB (sg N)).length ≤ 140737488355328 := by omega
        go_wp2_with fail
        refine (int_one _ w.heap.size G v bs (sg N) (sg_lo _) (sg_hi _) hw2 hb5w.size hlb).mono ?_
        rintro e w7 ⟨rfl, v7, hw7, hat7, hu7⟩
        have e1' := (hu7.cell (p := ⟨I, 1, none⟩) hgw hnw).trans e1
        have e2' := (hu7.cell (p := ⟨I, 2, none⟩) hgw hnw).trans e2
        have hb7 : Below w.heap.size w w7 := below_upd_wr' hb5w hw2 (Nat.le_refl _) g3 hu7
        have hown7 := own_upd hown2 hu7 (fun k hk hs => hs.elim (fun e => own_ne_cells hown2 hw2.blk (by decide) (e ▸ hk)) (fun e => hap k e hk))
        have ho7 := ho2.upd hu7 (fun k hk hs => hs.elim (fun e => hk.elim (fun e2 => hgg (e.symm.trans e2)) (fun e2 => by simp [Value.ownBlock] at e2)) (fun e => hk.elim (fun e2 => own_ne_cells hw2.own ho2.blk (by decide) (e2 ▸ e)) (fun e2 => by simp [Value.ownBlock] at e2)))
        have hap7 := hap.left hat7 (fun k hk => (hown2.lt k hk).2)
        clear hown2 hw2 ho2 hap hu7 hat7 hb5w e1 e2
        go_wp2_with fail
        refine (rint_any _ (sg N) (sg_lo _) (sg_hi _)).mono ?_
        rintro e w8 ⟨rfl, hb8⟩
        have hw8 := hw7.upd (Upd.of_below (S := fun _ => False) hb8) (fun _ _ h => h)
        have ho8 := ho7.upd (Upd.of_below (S := fun _ => False) hb8) (fun _ _ h => h)
        have hown8 := own_below hown7 hb8
        have hb8w := bel hb7 hb8
        obtain ⟨y, hy⟩ : ∃ y : ByteArray, y = ⟨(intB (sg N)).toArray⟩ := ⟨_, rfl⟩
        rw [← hy]
        have hyl : y.data.toList = intB (sg N) := by rw [hy]
        have hys : y.size = (intB (sg N)).length := by rw [hy]; rfl
        rw [← hys] at hlb
        have HYL := Lib.hid hyl
        clear hy hyl hys hown7 hw7 ho7 hb7 hb8
        go_wp2_with (at_builtin; refine wpList_apps rfl (.tmp 50) (.tmp 54) 32 9 rfl w.heap.size 5 i0 Try.underlying32 Try.underlying9 hi0 hz0 hz1 hz2 _ _ bs y rfl (by exact hown8) rfl ?c1 ?c2 ?_)
        case c1 => exact hlb
        case c2 => exact hb8w.size
        intro v3 w3 hown3 hu3 hat3
        have hown3' := row_text HN.out HYL.out rfl hown3
        have hw9 := hw8.upd hu3 (fun k hk hs => hk.elim (fun e => own_ne_cells hown8 hw8.blk (by decide) (e ▸ hs)) (fun e => hap7 k e hs))
        have ho9 := ho8.upd hu3 (fun k hk hs => hk.elim (fun e => own_ne_cells hown8 ho8.blk (by decide) (e ▸ hs)) (fun e2 => by simp [Value.ownBlock] at e2))
        have hap9 := hap7.right hat3 (fun k hk => (hw8.own.lt k hk).2)
        have hb9 := below_row hb8w hb8w.size hown8 (Nat.le_refl _) hu3
        rw [← HN.out] at hw9
        obtain ⟨A3, c3, hv3⟩ := own_shape hown3'
        subst hv3
        clear hown3 hown8 hw8 ho8 hap7 hu3 hat3 hb8w
        go_wp2_with fail
        refine (len_any _ _ _ _ _ hw9).mono ?_
        rintro e w' ⟨rfl, rfl⟩
        go_wp2
        go_roundw
        case rel => exact ⟨k + 1, by omega, by go_num, ⟨v7, hw9, hap9⟩, hown3', ho9, hb9⟩
        case measure => simp [intOf]; omega
      · have h := H2.out rfl
        subst h
        have hlb : bs.length + (textB T.data.toList).length ≤ 140737488355328 := by omega
        go_wp2_with fail
        refine (text_one _ w.heap.size G v bs T hw2 hb5w.size hlb).mono ?_
        rintro e w7 ⟨rfl, v7, hw7, hat7, hu7⟩
        have e1' := (hu7.cell (p := ⟨I, 1, none⟩) hgw hnw).trans e1
        have e2' := (hu7.cell (p := ⟨I, 2, none⟩) hgw hnw).trans e2
        have hb7 : Below w.heap.size w w7 := below_upd_wr' hb5w hw2 (Nat.le_refl _) g3 hu7
        have hown7 := own_upd hown2 hu7 (fun k hk hs => hs.elim (fun e => own_ne_cells hown2 hw2.blk (by decide) (e ▸ hk)) (fun e => hap k e hk))
        have ho7 := ho2.upd hu7 (fun k hk hs => hs.elim (fun e => hk.elim (fun e2 => hgg (e.symm.trans e2)) (fun e2 => by simp [Value.ownBlock] at e2)) (fun e => hk.elim (fun e2 => own_ne_cells hw2.own ho2.blk (by decide) (e2 ▸ e)) (fun e2 => by simp [Value.ownBlock] at e2)))
        have hap7 := hap.left hat7 (fun k hk => (hown2.lt k hk).2)
        clear hown2 hw2 ho2 hap hu7 hat7 hb5w e1 e2
        go_wp2_with fail
        refine (rtext_any _ T ks).mono ?_
        rintro e w8 ⟨rfl, hb8⟩
        have hw8 := hw7.upd (Upd.of_below (S := fun _ => False) hb8) (fun _ _ h => h)
        have ho8 := ho7.upd (Upd.of_below (S := fun _ => False) hb8) (fun _ _ h => h)
        have hown8 := own_below hown7 hb8
        have hb8w := bel hb7 hb8
        obtain ⟨y, hy⟩ : ∃ y : ByteArray, y = ⟨(textB T.data.toList).toArray⟩ := ⟨_, rfl⟩
        rw [← hy]
        have hyl : y.data.toList = textB T.data.toList := by rw [hy]
        have hys : y.size = (textB T.data.toList).length := by rw [hy]; rfl
        rw [← hys] at hlb
        have HYL := Lib.hid hyl
        clear hy hyl hys hown7 hw7 ho7 hb7 hb8
        go_wp2_with (at_builtin; refine wpList_apps rfl (.tmp 25) (.tmp 28) 32 9 rfl w.heap.size 5 i0 Try.underlying32 Try.underlying9 hi0 hz0 hz1 hz2 _ _ bs y rfl (by exact hown8) rfl ?c1 ?c2 ?_)
        case c1 => exact hlb
        case c2 => exact hb8w.size
        intro v3 w3 hown3 hu3 hat3
        have hown3' := row_text HN.out HYL.out rfl hown3
        have hw9 := hw8.upd hu3 (fun k hk hs => hk.elim (fun e => own_ne_cells hown8 hw8.blk (by decide) (e ▸ hs)) (fun e => hap7 k e hs))
        have ho9 := ho8.upd hu3 (fun k hk hs => hk.elim (fun e => own_ne_cells hown8 ho8.blk (by decide) (e ▸ hs)) (fun e2 => by simp [Value.ownBlock] at e2))
        have hap9 := hap7.right hat3 (fun k hk => (hw8.own.lt k hk).2)
        have hb9 := below_row hb8w hb8w.size hown8 (Nat.le_refl _) hu3
        rw [← HN.out] at hw9
        obtain ⟨A3, c3, hv3⟩ := own_shape hown3'
        subst hv3
        clear hown3 hown8 hw8 ho8 hap7 hu3 hat3 hb8w
        go_wp2_with fail
        refine (len_any _ _ _ _ _ hw9).mono ?_
        rintro e w' ⟨rfl, rfl⟩
        go_wp2
        go_roundw
        case rel => exact ⟨k + 1, by omega, by go_num, ⟨v7, hw9, hap9⟩, hown3', ho9, hb9⟩
        case measure => simp [intOf]; omega
    · obtain rfl : k = n := by omega
      rw [List.take_of_length_le (by omega)] at hw2 hown
      have hcv : ∀ m : Nat, _ := fun m : Nat => conv_own (P := Try.prog) (src := 32) (dst := 9) Try.underlying32 Try.underlying5 Try.underlying9 (own_drewN hown m)
      go_wp2
      go_quiet (first | (go_at_call 35; exact Calls.quiet_of_same ((len_any _ _ _ _ _ (wr_drew' ho _)).mono fun _ _ h => ⟨h.1, h.2.symm⟩)) | (go_at_call 31; exact Calls.quiet_of_same ((bytes_any _ _ _ _ _ (wr_drew' hw2 _)).mono fun _ _ h => ⟨h.1, h.2.symm⟩)) | (go_at_call 31; exact Calls.quiet_of_same ((bytes_any _ _ _ _ _ (wr_drew' ho _)).mono fun _ _ h => ⟨h.1, h.2.symm⟩)))
      go_wp2
      go_ret
      exact ⟨rfl, ⟨hbx.os, hbx.tape, hbx.output, hbx.size, hbx.block⟩⟩
end Go.Proofs.Ytmjkebokedaldaa
