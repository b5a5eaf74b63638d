/- Pack: the law PackReads, walked. -/
import Derived.Test.YtmjkebokedaldaaPkItems
namespace Go.Proofs.Ytmjkebokedaldaa
open Go.RowKit

theorem done_i (w : World) (g : Nat) (s : ByteArray) (h : Rdr w 83 g s) : Calls Try.prog 39 #[.pointer (some ⟨g, 0, none⟩)] w fun e w' => e = .returned (.bool ((s.size : Int) == 0)) ∧ w = w' :=
  (done_any w g s h).mono fun e w' ⟨he, hw⟩ => ⟨by
    rw [he]
    congr 2
    rw [Bool.eq_iff_iff, beq_iff_eq, beq_iff_eq]; omega, hw⟩
theorem rdint_f (w : World) (g : Nat) (s : ByteArray) (n : Int) (e : Nat) (r : List UInt8) (hrd : rdInt s.data.toList = (n, e, r)) (h : Rdr w 83 g s) (hs : s.size ≤ 140737488351232) :
    Calls Try.prog 41 #[.pointer (some ⟨g, 0, none⟩)] w fun e' w' => e' = .returned (.tuple #[.int .i64 n, .int .i64 (e : Int)]) ∧ Took w 83 g r w' := by
  have := rdint_any w g s h hs; rw [hrd] at this; exact this
theorem rrdint_f (w : World) (g : Nat) (s : ByteArray) (n : Int) (e : Nat) (r : List UInt8) (hrd : rdInt s.data.toList = (n, e, r)) (h : Rdr w 67 g s) (hs : s.size ≤ 140737488351232) :
    Calls Try.prog 42 #[.pointer (some ⟨g, 0, none⟩)] w fun e' w' => e' = .returned (.tuple #[.int .i64 n, .int .i64 (e : Int)]) ∧ Took w 67 g r w' := by
  have := rrdint_any w g s h hs; rw [hrd] at this; exact this
theorem rdtext_f (w : World) (g : Nat) (s : ByteArray) (n : List UInt8) (e : Nat) (r : List UInt8) (hrd : rdText s.data.toList = (n, e, r)) (h : Rdr w 83 g s) (hs : s.size ≤ 140737488351232) :
    Calls Try.prog 43 #[.pointer (some ⟨g, 0, none⟩)] w fun e' w' => (∃ t : ByteArray, t.data.toList = n ∧ e' = .returned (.tuple #[.string t, .int .i64 (e : Int)])) ∧ Took w 83 g r w' := by
  have := rdtext_any w g s h hs; rw [hrd] at this; exact this
theorem rrdtext_f (w : World) (g : Nat) (s : ByteArray) (n : List UInt8) (e : Nat) (r : List UInt8) (hrd : rdText s.data.toList = (n, e, r)) (h : Rdr w 67 g s) (hs : s.size ≤ 140737488351232) :
    Calls Try.prog 44 #[.pointer (some ⟨g, 0, none⟩)] w fun e' w' => (∃ t : ByteArray, t.data.toList = n ∧ e' = .returned (.tuple #[.string t, .int .i64 (e : Int)])) ∧ Took w 67 g r w' := by
  have := rrdtext_any w g s h hs; rw [hrd] at this; exact this
theorem rdInt_len (l : List UInt8) : (rdInt l).2.2.length ≤ l.length := rdNum_len l
theorem rdText_len (l : List UInt8) : (rdText l).2.2.length ≤ l.length := by
  have := rdNum_len l
  unfold rdText
  split
  · exact Nat.le_refl _
  · simp only [List.length_drop]; omega
theorem ba_ext {a b : ByteArray} (h : a.data.toList = b.data.toList) : a = b := by
  apply ByteArray.ext
  apply Array.ext'
  exact h
theorem rdr_drewN {w : World} {T : TypeId} {g : Nat} {s : ByteArray} (h : Rdr w T g s) (n : Nat) : Rdr (w.drewN n) T g s := h
set_option maxHeartbeats 1000000 in
set_option maxRecDepth 20000 in
theorem reads_any (w : World) (s : ByteArray) (A : Option Addr) (n c : Nat) (l : List Item) (hs : s.size ≤ 140737488351232) (hr : Rd w w.heap.size 3 A n (itemv l)) (hl : ∀ i ∈ l, i.ok) (hn : n ≤ 5000000000000) :
    Calls Try.prog 9 #[.string s, .slice A n c] w fun e w' => e = .returned (.bool true) ∧ Below w.heap.size w w' := by
  go_enter Try.func9, Try.ntmps9
  go_wp2_with fail
  refine (plives_any _).mono ?_
  rintro e w1 ⟨rfl, hb1⟩
  go_wp2_with fail
  refine (read_new _ s).mono ?_
  rintro e w2 ⟨rfl, hr2, hb2, hz2⟩
  go_wp2_with fail
  refine (read_new _ s).mono ?_
  rintro e w3 ⟨rfl, hr3, hb3, hz3⟩
  have hb13 := bel (bel hb1 hb2) hb3
  have g2 : w.heap.size ≤ w1.heap.size := hb1.size
  have g3 : w.heap.size ≤ w2.heap.size := Nat.le_trans hb1.size hb2.size
  have g4 : w.heap.size ≤ w3.heap.size := hb13.size
  have hr2' : Rdr (w3.alloc (.cells #[.string s] 67)) 83 w1.heap.size s := (hr2.upd (Upd.of_below (S := fun _ => False) hb3) (fun h => h)).upd ((Upd.refl (fun _ => False) w3).alloc _) (fun h => h)
  have hr3' : Rdr (w3.alloc (.cells #[.string s] 67)) 83 w2.heap.size s := hr3.upd ((Upd.refl (fun _ => False) w3).alloc _) (fun h => h)
  have hr4' : Rdr (w3.alloc (.cells #[.string s] 67)) 67 w3.heap.size s := Rdr.new w3 _ s
  have hb14 : Below w.heap.size w (w3.alloc (.cells #[.string s] 67)) := hb13.alloc hb13.size _
  have n23 : w1.heap.size ≠ w2.heap.size := by omega
  have n24 : w1.heap.size ≠ w3.heap.size := by have := hb3.size; omega
  have n34 : w2.heap.size ≠ w3.heap.size := by omega
  generalize w1.heap.size = G2 at *
  generalize w2.heap.size = G3 at *
  obtain ⟨G4, hG4⟩ : ∃ G4, w3.heap.size = G4 := ⟨_, rfl⟩
  rw [hG4] at hr4' n24 n34 g4
  clear hr2 hr3 hb1 hb2 hb3 hb13
  go_wp2
  go_loopw [33] (fun i wx => ∃ k : Nat, k ≤ n ∧ i = .int .i64 k ∧ (∃ s2 : ByteArray, Rdr wx 83 G2 s2 ∧ ∃ s4 : ByteArray, Rdr wx 67 G4 s4 ∧ Hid (s2.data.toList = s4.data.toList) ∧ s2.size ≤ 140737488351232) ∧ Rdr wx 83 G3 s ∧ Below w.heap.size w wx) (fun i _ => n - (intOf i).toNat)
  case atStart => exact ⟨0, Nat.zero_le _, rfl, ⟨s, hr2', s, hr4', rfl, hs⟩, hr3', hb14⟩
  case round =>
    obtain ⟨k, hk, rfl, ⟨s2, hr2, s4, hr4, heq, hs2⟩, hr3, hbx⟩ := hrel
    by_cases hlt : k < n
    · obtain ⟨b, off, rfl, hab, hsk, hc0, hc1, hc2⟩ := hr.item hlt
      have hok := hl _ (List.getElem_mem hsk)
      obtain ⟨k0, k1, kn, ks⟩ := hok
      generalize l[k].k = K at *
      generalize l[k].n = N at *
      generalize l[k].s = T at *
      have d0 : wr.cell? ⟨b, off + k * 3, none⟩ = some (.int .i64 K) := (hbx.cell (p := ⟨b, off + k * 3, none⟩) hab).trans hc0
      have d1 : wr.cell? ⟨b, off + k * 3 + 1, none⟩ = some (.int .u64 (N : Int)) := (hbx.cell (p := ⟨b, off + k * 3 + 1, none⟩) hab).trans hc1
      have d2 : wr.cell? ⟨b, off + k * 3 + 2, none⟩ = some (.string T) := (hbx.cell (p := ⟨b, off + k * 3 + 2, none⟩) hab).trans hc2
      clear hc0 hc1 hc2
      have hbA : Below wr.heap.size wr (wr.alloc (.cells #[Value.int .i64 K, Value.int .u64 (N : Int), Value.string T] 50)) := (Below.refl _ _).alloc (Nat.le_refl _) _
      go_wp2_with fail
      refine (kind_any _ _ _ _ K rfl k0 k1).mono ?_
      rintro e w5 ⟨rfl, hb5⟩
      have hb5' : Below wr.heap.size wr w5 := bel hbA hb5
      have hr2 := hr2.upd (Upd.of_below (S := fun _ => False) hb5') (fun h => h)
      have hr3 := hr3.upd (Upd.of_below (S := fun _ => False) hb5') (fun h => h)
      have hr4 := hr4.upd (Upd.of_below (S := fun _ => False) hb5') (fun h => h)
      have hb5w := bel hbx hb5'
      clear hbA hb5 hb5' hbx d0 d1 d2
      have hs4 : s4.size ≤ 140737488351232 := by
        have h1 : s4.size = s4.data.toList.length := by simp
        have h2 : s2.size = s2.data.toList.length := by simp
        rw [h1, ← heq.out, ← h2]; exact hs2
      have hkd : kd K = 0 ∨ kd K = 1 ∨ kd K = 2 := by unfold kd; omega
      generalize kd K = Q at *
      rcases hkd with rfl | rfl | rfl
      · obtain ⟨nn, ee, rr, hrd⟩ : ∃ n e r, rdNum s2.data.toList = (n, e, r) := ⟨_, _, _, rfl⟩
        have HRD := Lib.hid hrd
        have HRD4 := Lib.hid (show rdNum s4.data.toList = (nn, ee, rr) by rw [← heq.out]; exact hrd)
        have hrl : rr.length ≤ s2.size := by have := rdNum_len s2.data.toList; rw [hrd] at this; simpa using this
        clear hrd
        go_wp2_with fail
        refine (rdnum_f _ _ s2 nn ee rr HRD.out hr2 hs2).mono ?_
        rintro e w6 ⟨rfl, ht6⟩
        have hb6 : Below w.heap.size w w6 := below_took hb5w hb5w.size g2 ht6
        obtain ⟨s6, hs6, hr6, hu6⟩ := ht6
        have hr3 := hr3.upd hu6 (fun h => n23 h.symm)
        have hr4 := hr4.upd hu6 (fun h => n24 h.symm)
        go_wp2_with fail
        refine (rrdnum_f _ _ s4 nn ee rr HRD4.out hr4 hs4).mono ?_
        rintro e w7 ⟨rfl, ht7⟩
        have hb7 : Below w.heap.size w w7 := below_took hb6 hb6.size g4 ht7
        obtain ⟨s7, hs7, hr7, hu7⟩ := ht7
        have hs7e : s7.size = s6.size := by
          have h1 : s6.size = s6.data.toList.length := by simp
          have h2 : s7.size = s7.data.toList.length := by simp
          rw [h1, h2, hs6, hs7]
        have hs6l : s6.size ≤ 140737488351232 := by
          have h1 : s6.size = s6.data.toList.length := by simp
          rw [h1, hs6]; omega
        have H67 : Hid (s6.data.toList = s7.data.toList) := by rw [hs6, hs7]; rfl
        have hr6 := hr6.upd hu7 (fun h => n24 h)
        have hr3 := hr3.upd hu7 (fun h => n34 h)
        have c7 := hr7.cell
        clear hs6 hs7 hu6 hu7 hr2 hr4 hb5w hb6
        go_wp2
        go_quiet (first | (go_at_call 38; exact Calls.quiet_of_same ((left_any _ _ s6 (rdr_drewN hr6 _)).mono fun _ _ h => ⟨h.1, h.2.symm⟩)) | (go_at_call 39; exact Calls.quiet_of_same ((done_i _ _ s6 (rdr_drewN hr6 _)).mono fun _ _ h => ⟨h.1, h.2.symm⟩)))
        go_wp2
        go_roundw
        case rel => exact ⟨k + 1, by omega, by go_num, ⟨s6, hr6, s7, hr7, H67, hs6l⟩, hr3, ⟨hb7.os, hb7.tape, hb7.output, hb7.size, hb7.block⟩⟩
        case measure => simp [intOf]; omega
      · obtain ⟨nn, ee, rr, hrd⟩ : ∃ n e r, rdInt s2.data.toList = (n, e, r) := ⟨_, _, _, rfl⟩
        have HRD := Lib.hid hrd
        have HRD4 := Lib.hid (show rdInt s4.data.toList = (nn, ee, rr) by rw [← heq.out]; exact hrd)
        have hrl : rr.length ≤ s2.size := by have := rdInt_len s2.data.toList; rw [hrd] at this; simpa using this
        clear hrd
        go_wp2_with fail
        refine (rdint_f _ _ s2 nn ee rr HRD.out hr2 hs2).mono ?_
        rintro e w6 ⟨rfl, ht6⟩
        have hb6 : Below w.heap.size w w6 := below_took hb5w hb5w.size g2 ht6
        obtain ⟨s6, hs6, hr6, hu6⟩ := ht6
        have hr3 := hr3.upd hu6 (fun h => n23 h.symm)
        have hr4 := hr4.upd hu6 (fun h => n24 h.symm)
        go_wp2_with fail
        refine (rrdint_f _ _ s4 nn ee rr HRD4.out hr4 hs4).mono ?_
        rintro e w7 ⟨rfl, ht7⟩
        have hb7 : Below w.heap.size w w7 := below_took hb6 hb6.size g4 ht7
        obtain ⟨s7, hs7, hr7, hu7⟩ := ht7
        have hs7e : s7.size = s6.size := by
          have h1 : s6.size = s6.data.toList.length := by simp
          have h2 : s7.size = s7.data.toList.length := by simp
          rw [h1, h2, hs6, hs7]
        have hs6l : s6.size ≤ 140737488351232 := by
          have h1 : s6.size = s6.data.toList.length := by simp
          rw [h1, hs6]; omega
        have H67 : Hid (s6.data.toList = s7.data.toList) := by rw [hs6, hs7]; rfl
        have hr6 := hr6.upd hu7 (fun h => n24 h)
        have hr3 := hr3.upd hu7 (fun h => n34 h)
        have c7 := hr7.cell
        clear hs6 hs7 hu6 hu7 hr2 hr4 hb5w hb6
        go_wp2
        go_quiet (first | (go_at_call 38; exact Calls.quiet_of_same ((left_any _ _ s6 (rdr_drewN hr6 _)).mono fun _ _ h => ⟨h.1, h.2.symm⟩)) | (go_at_call 39; exact Calls.quiet_of_same ((done_i _ _ s6 (rdr_drewN hr6 _)).mono fun _ _ h => ⟨h.1, h.2.symm⟩)))
        go_wp2
        go_roundw
        case rel => exact ⟨k + 1, by omega, by go_num, ⟨s6, hr6, s7, hr7, H67, hs6l⟩, hr3, ⟨hb7.os, hb7.tape, hb7.output, hb7.size, hb7.block⟩⟩
        case measure => simp [intOf]; omega
      · obtain ⟨nn, ee, rr, hrd⟩ : ∃ n e r, rdText s2.data.toList = (n, e, r) := ⟨_, _, _, rfl⟩
        have HRD := Lib.hid hrd
        have HRD4 := Lib.hid (show rdText s4.data.toList = (nn, ee, rr) by rw [← heq.out]; exact hrd)
        have hrl : rr.length ≤ s2.size := by have := rdText_len s2.data.toList; rw [hrd] at this; simpa using this
        clear hrd
        go_wp2_with fail
        refine (rdtext_f _ _ s2 nn ee rr HRD.out hr2 hs2).mono ?_
        rintro e w6 ⟨⟨tt, htt, rfl⟩, ht6⟩
        have hb6 : Below w.heap.size w w6 := below_took hb5w hb5w.size g2 ht6
        obtain ⟨s6, hs6, hr6, hu6⟩ := ht6
        have hr3 := hr3.upd hu6 (fun h => n23 h.symm)
        have hr4 := hr4.upd hu6 (fun h => n24 h.symm)
        go_wp2_with fail
        refine (rrdtext_f _ _ s4 nn ee rr HRD4.out hr4 hs4).mono ?_
        rintro e w7 ⟨⟨tt', htt', rfl⟩, ht7⟩
        obtain rfl : tt' = tt := ba_ext (by rw [htt, htt'])
        have hb7 : Below w.heap.size w w7 := below_took hb6 hb6.size g4 ht7
        obtain ⟨s7, hs7, hr7, hu7⟩ := ht7
        have hs7e : s7.size = s6.size := by
          have h1 : s6.size = s6.data.toList.length := by simp
          have h2 : s7.size = s7.data.toList.length := by simp
          rw [h1, h2, hs6, hs7]
        have hs6l : s6.size ≤ 140737488351232 := by
          have h1 : s6.size = s6.data.toList.length := by simp
          rw [h1, hs6]; omega
        have H67 : Hid (s6.data.toList = s7.data.toList) := by rw [hs6, hs7]; rfl
        have hr6 := hr6.upd hu7 (fun h => n24 h)
        have hr3 := hr3.upd hu7 (fun h => n34 h)
        have c7 := hr7.cell
        clear htt htt' hs6 hs7 hu6 hu7 hr2 hr4 hb5w hb6
        go_wp2
        go_quiet (first | (go_at_call 38; exact Calls.quiet_of_same ((left_any _ _ s6 (rdr_drewN hr6 _)).mono fun _ _ h => ⟨h.1, h.2.symm⟩)) | (go_at_call 39; exact Calls.quiet_of_same ((done_i _ _ s6 (rdr_drewN hr6 _)).mono fun _ _ h => ⟨h.1, h.2.symm⟩)))
        go_wp2
        go_roundw
        case rel => exact ⟨k + 1, by omega, by go_num, ⟨s6, hr6, s7, hr7, H67, hs6l⟩, hr3, ⟨hb7.os, hb7.tape, hb7.output, hb7.size, hb7.block⟩⟩
        case measure => simp [intOf]; omega
    · obtain rfl : k = n := by omega
      clear hr2 hr4 heq hs2
      go_wp2_with fail
      refine (left_any _ _ s hr3).mono ?_
      rintro e w' ⟨rfl, rfl⟩
      go_wp2
      go_ret
      exact ⟨rfl, hbx⟩
end Go.Proofs.Ytmjkebokedaldaa
