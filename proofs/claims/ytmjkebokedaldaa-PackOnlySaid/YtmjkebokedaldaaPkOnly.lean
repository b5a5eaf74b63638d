/- Pack: the law PackOnly, walked. -/
import Derived.Test.YtmjkebokedaldaaPkOne
namespace Go.Proofs.Ytmjkebokedaldaa
open Go.RowKit

theorem wr_drewN {w : World} {base g : Nat} {v : Value} {bs : List UInt8} (h : Wr w base g v bs) (n : Nat) : Wr (w.drewN n) base g v bs := ⟨h.blk, h.own⟩
theorem cut_eq (s : ByteArray) (bs r : List UInt8) (h : s.data.toList = bs ++ r) : (bs == (s.extract 0 bs.length).toList) = true := by
  rw [beq_iff_eq, ByteArray.toList_eq]
  have : (s.extract 0 bs.length).data.toList = s.data.toList.take bs.length := by simp [ByteArray.data_extract]
  rw [this, h, List.take_left]
theorem below_upd_wr {w0 w w' : World} {g : Nat} {v : Value} {base : Nat} {bs : List UInt8} (hb : Below w0.heap.size w0 w) (h : Wr w base g v bs) (hbase : w0.heap.size ≤ base) (hg : w0.heap.size ≤ g) (hu : Upd (WrS g v) w w') : Below w0.heap.size w0 w' :=
  hb.trans (hu.below (fun k hk => by
    rintro (e | e)
    · omega
    · have := (h.own.lt _ e).1; omega) hb.size)

theorem rest_eq {s a : ByteArray} {n : Nat} (h : s.size ≤ 140737488351232) (h2 : n + a.size = s.size) : ((a.size : Int) != IntKind.i64.wrap ((s.size : Int) - (n : Int))) = false := by
  have h3 : (s.size : Int) - (n : Int) = (a.size : Int) := by omega
  rw [h3]
  have h4 : IntKind.i64.wrap (a.size : Int) = (a.size : Int) := by rw [IntKind.wrap_i64]; omega
  rw [h4]
  simp
set_option maxHeartbeats 2000000 in
set_option maxRecDepth 20000 in
theorem only_any (w : World) (s : ByteArray) (A : Option Addr) (n c : Nat) (l : List Item) (hs : s.size ≤ 140737488351232) (hr : Rd w w.heap.size 3 A n (itemv l)) (hl : ∀ i ∈ l, i.ok) (hn : n ≤ 5000000000000) :
    Calls Try.prog 11 #[.string s, .slice A n c] w fun e w' => e = .returned (.bool true) ∧ Below w.heap.size w w' := by
  go_enter Try.func11, Try.ntmps11
  go_wp2_with fail
  refine (plives_any _).mono ?_
  rintro e w1 ⟨rfl, hb1⟩
  go_wp2_with fail
  refine (read_new _ s).mono ?_
  rintro e w2 ⟨rfl, hr2, hb2, hz2⟩
  go_wp2_with fail
  refine (new_wr _ w.heap.size).mono ?_
  rintro e w3 ⟨rfl, hw3, hb3, hz3⟩
  have hb13 := bel (bel hb1 hb2) hb3
  have g2 : w.heap.size ≤ w1.heap.size := hb1.size
  have g3 : w.heap.size ≤ w2.heap.size := Nat.le_trans hb1.size hb2.size
  have hr2' : Rdr w3 83 w1.heap.size s := hr2.upd (Upd.of_below (S := fun _ => False) hb3) (fun h => h)
  have n23 : w1.heap.size ≠ w2.heap.size := by omega
  generalize w1.heap.size = G2 at *
  generalize w2.heap.size = G at *
  clear hr2 hb1 hb2 hb3
  go_wp2
  go_loopw [24] (fun i wx => ∃ k : Nat, k ≤ n ∧ i = .int .i64 k ∧ (∃ s2 : ByteArray, ∃ v : Value, ∃ bs : List UInt8, Rdr wx 83 G2 s2 ∧ Wr wx w.heap.size G v bs ∧ Hid (s.data.toList = bs ++ s2.data.toList)) ∧ Below w.heap.size w wx) (fun i _ => n - (intOf i).toNat)
  case atStart => exact ⟨0, Nat.zero_le _, rfl, ⟨s, _, [], hr2', hw3, rfl⟩, hb13⟩
  case round =>
    obtain ⟨k, hk, rfl, ⟨s2, v, bs, hr2, hw2, hsp⟩, hbx⟩ := hrel
    by_cases hlt : k < n
    · obtain ⟨b, off, rfl, hab, hsk, hc0, hc1, hc2⟩ := hr.item hlt
      have hok := hl _ (List.getElem_mem hsk)
      obtain ⟨k0, k1, kn, ks⟩ := hok
      generalize l[k].k = K at *
      generalize l[k].n = N at *
      generalize l[k].s = T at *
      have d0 : wr.cell? ⟨b, off + k * 3, none⟩ = some (.int .i64 K) := (hbx.cell (p := ⟨b, off + k * 3, none⟩) hab).trans hc0
      have d1 : wr.cell? ⟨b, off + k * 3 + 1, none⟩ = some (.int .u64 (N : Int)) := (hbx.cell (p := ⟨b, off + k * 3 + 1, none⟩) hab).trans hc1
      have d2 : wr.cell? ⟨b, off + k * 3 + 2, none⟩ = some (.string T) := (hbx.cell (p := ⟨b, off + k * 3 + 2, none⟩) hab).trans hc2
      have hsz : bs.length + s2.size = s.size := by
        have h1 : s.size = s.data.toList.length := by simp
        have h2 : s2.size = s2.data.toList.length := by simp
        rw [h1, h2, hsp.out, List.length_append]
      have hs2 : s2.size ≤ 140737488351232 := by omega
      have HSZ := Lib.hid hsz
      have hbA : Below wr.heap.size wr (wr.alloc (.cells #[Value.int .i64 K, Value.int .u64 (N : Int), Value.string T] 50)) := (Below.refl _ _).alloc (Nat.le_refl _) _
      have hr2A := hr2.upd (Upd.of_below (S := fun _ => False) hbA) (fun h => h)
      clear hc0 hc1 hc2 hsz
      go_wp2_with fail
      refine (left_any _ _ s2 hr2A).mono ?_
      rintro e w4 ⟨rfl, rfl⟩
      go_wp2_with fail
      refine (kind_any _ _ _ _ K rfl k0 k1).mono ?_
      rintro e w5 ⟨rfl, hb5⟩
      have hb5' : Below wr.heap.size wr w5 := bel hbA hb5
      have hr2 := hr2.upd (Upd.of_below (S := fun _ => False) hb5') (fun h => h)
      have hw2 := hw2.upd (Upd.of_below (S := fun _ => False) hb5') (fun _ _ h => h)
      have hb5w := bel hbx hb5'
      have hrw := rdr_wr hw2 hr2 (by decide) (by decide)
      clear hbA hb5 hb5' hbx d0 d1 d2 hr2A
      have hkd : kd K = 0 ∨ kd K = 1 ∨ kd K = 2 := by unfold kd; omega
      generalize kd K = Q at *
      rcases hkd with rfl | rfl | rfl
      · obtain ⟨nn, ee, rr, hrd⟩ : ∃ n e r, rdNum s2.data.toList = (n, e, r) := ⟨_, _, _, rfl⟩
        have HRD := Lib.hid hrd
        have hrl : rr.length ≤ s2.size := by have := rdNum_len s2.data.toList; rw [hrd] at this; simpa using this
        have herr := rdNum_err' hrd
        clear hrd
        rcases herr with rfl | ⟨rfl, rfl⟩
        · go_wp2_with fail
          refine (rdnum_f _ _ s2 nn 0 _ HRD.out hr2 hs2).mono ?_
          rintro e w6 ⟨rfl, ht6⟩
          have hb6 : Below w.heap.size w w6 := below_took hb5w hb5w.size g2 ht6
          obtain ⟨s6, hs6, hr6, hu6⟩ := ht6
          have hw6 := hw2.upd hu6 (fun k hk e => hrw (e ▸ hk))
          obtain ⟨hbk, hlt64⟩ := num_back HRD.out
          have hput : Hid (s.data.toList = (bs ++ numB nn) ++ rr) := by rw [hsp.out, hbk, List.append_assoc]; rfl
          have hlen : (bs ++ numB nn).length + rr.length = s.size := by
            have h1 : s.size = s.data.toList.length := by simp
            rw [h1, hput.out]; exact List.length_append.symm
          have hlb : bs.length + (numB nn).length ≤ 140737488355328 := by rw [List.length_append] at hlen; omega
          have HBK := Lib.hid hbk
          have HLEN := Lib.hid hlen
          clear hbk hlen
          go_wp2_with fail
          refine (num_one _ w.heap.size G v bs nn _ rfl hlt64 hw6 hb6.size hlb).mono ?_
          rintro e w7 ⟨rfl, v7, hw7, hat7, hu7⟩
          have hb7 : Below w.heap.size w w7 := below_upd_wr hb6 hw6 (Nat.le_refl _) g3 hu7
          have hr7 := hr6.upd hu7 (rdr_wr hw6 hr6 (by decide) (by decide))
          have hfin : Hid (s.data.toList = (bs ++ numB nn) ++ s6.data.toList) := by rw [hs6]; exact hput
          have hsz7 : s6.size = rr.length := by
            have h1 : s6.size = s6.data.toList.length := by simp
            rw [h1, hs6]
          have hsz8 : (bs ++ numB nn).length + s6.size = s.size := by rw [hsz7]; exact HLEN.out
          have hcut := cut_eq s _ _ hfin.out
          obtain ⟨B, hB⟩ : ∃ B, B = bs ++ numB nn := ⟨_, rfl⟩
          rw [← hB] at hw7 hfin hsz8 hcut
          clear hB hw6 hu6 hr6 hu7 hat7 hb6 hr2 hw2 hs6 hsz7 hb5w hrw
          have a1 : B.length ≤ s.size := by omega
          have a2 : (s6.size : Int) + (B.length : Int) ≤ (s.size : Int) := by omega
          have a3 : (s.size : Int) ≤ (s6.size : Int) + (B.length : Int) := by omega
          have a4 := rest_eq hs hsz8
          clear hsz8
          go_wp2
          go_quiet (first | (go_at_call 35; exact Calls.quiet_of_same ((len_any _ _ _ _ _ (wr_drewN hw7 _)).mono fun _ _ h => ⟨h.1, h.2.symm⟩)) | (go_at_call 31; exact Calls.quiet_of_same ((bytes_any _ _ _ _ _ (wr_drewN hw7 _)).mono fun _ _ h => ⟨h.1, h.2.symm⟩)) | (go_at_call 38; exact Calls.quiet_of_same ((left_any _ _ s6 (rdr_drewN hr7 _)).mono fun _ _ h => ⟨h.1, h.2.symm⟩)))
          go_wp2
          go_roundw
          case rel => exact ⟨k + 1, by omega, by go_num, ⟨s6, _, B, hr7, wr_drewN hw7 _, hfin⟩, ⟨hb7.os, hb7.tape, hb7.output, hb7.size, hb7.block⟩⟩
          case measure => simp [intOf]; omega
        · go_wp2_with fail
          refine (rdnum_f _ _ s2 nn 1 _ HRD.out hr2 hs2).mono ?_
          rintro e w6 ⟨rfl, ht6⟩
          have hb6 : Below w.heap.size w w6 := below_took hb5w hb5w.size g2 ht6
          obtain ⟨s6, hs6, hr6, hu6⟩ := ht6
          have hw6 := hw2.upd hu6 (fun k hk e => hrw (e ▸ hk))
          have hsz6 : s6.size = s2.size := by
            have h1 : s6.size = s6.data.toList.length := by simp
            have h2 : s2.size = s2.data.toList.length := by simp
            rw [h1, hs6, h2]
          have hfin : Hid (s.data.toList = bs ++ s6.data.toList) := by rw [hs6]; exact hsp
          have hcut := cut_eq s _ _ hfin.out
          have hsz8 : bs.length + s6.size = s.size := by rw [hsz6]; exact HSZ.out
          have hb7 := hb6
          have hw7 := hw6
          have hr7 := hr6
          obtain ⟨B, hB⟩ : ∃ B, B = bs := ⟨_, rfl⟩
          rw [← hB] at hw7 hfin hsz8 hcut
          have q1 : (s6.size : Int) ≤ (s2.size : Int) := by omega
          have q2 : (s2.size : Int) ≤ (s6.size : Int) := by omega
          clear hB hw6 hu6 hb6 hr2 hw2 hs6 hsz6 hb5w hrw
          go_wp2_with fail
          refine (left_any _ _ s6 hr6).mono ?_
          rintro e w7 ⟨rfl, rfl⟩
          clear hr6
          have a1 : B.length ≤ s.size := by omega
          have a2 : (s6.size : Int) + (B.length : Int) ≤ (s.size : Int) := by omega
          have a3 : (s.size : Int) ≤ (s6.size : Int) + (B.length : Int) := by omega
          have a4 := rest_eq hs hsz8
          clear hsz8
          go_wp2
          go_quiet (first | (go_at_call 35; exact Calls.quiet_of_same ((len_any _ _ _ _ _ (wr_drewN hw7 _)).mono fun _ _ h => ⟨h.1, h.2.symm⟩)) | (go_at_call 31; exact Calls.quiet_of_same ((bytes_any _ _ _ _ _ (wr_drewN hw7 _)).mono fun _ _ h => ⟨h.1, h.2.symm⟩)) | (go_at_call 38; exact Calls.quiet_of_same ((left_any _ _ s6 (rdr_drewN hr7 _)).mono fun _ _ h => ⟨h.1, h.2.symm⟩)))
          go_wp2
          go_roundw
          case rel => exact ⟨k + 1, by omega, by go_num, ⟨s6, _, B, hr7, wr_drewN hw7 _, hfin⟩, ⟨hb7.os, hb7.tape, hb7.output, hb7.size, hb7.block⟩⟩
          case measure => simp [intOf]; omega
      · obtain ⟨nn, ee, rr, hrd⟩ : ∃ n e r, rdInt s2.data.toList = (n, e, r) := ⟨_, _, _, rfl⟩
        have HRD := Lib.hid hrd
        have hrl : rr.length ≤ s2.size := by have := rdInt_len s2.data.toList; rw [hrd] at this; simpa using this
        have herr := rdInt_err hrd
        clear hrd
        rcases herr with rfl | ⟨rfl, rfl⟩
        · go_wp2_with fail
          refine (rdint_f _ _ s2 nn 0 _ HRD.out hr2 hs2).mono ?_
          rintro e w6 ⟨rfl, ht6⟩
          have hb6 : Below w.heap.size w w6 := below_took hb5w hb5w.size g2 ht6
          obtain ⟨s6, hs6, hr6, hu6⟩ := ht6
          have hw6 := hw2.upd hu6 (fun k hk e => hrw (e ▸ hk))
          obtain ⟨hbk, hx0, hx1⟩ := int_back HRD.out
          have hput : Hid (s.data.toList = (bs ++ intB nn) ++ rr) := by rw [hsp.out, hbk, List.append_assoc]; rfl
          have hlen : (bs ++ intB nn).length + rr.length = s.size := by
            have h1 : s.size = s.data.toList.length := by simp
            rw [h1, hput.out]; exact List.length_append.symm
          have hlb : bs.length + (intB nn).length ≤ 140737488355328 := by rw [List.length_append] at hlen; omega
          have HBK := Lib.hid hbk
          have HLEN := Lib.hid hlen
          clear hbk hlen
          go_wp2_with fail
          refine (int_one _ w.heap.size G v bs nn hx0 hx1 hw6 hb6.size hlb).mono ?_
          rintro e w7 ⟨rfl, v7, hw7, hat7, hu7⟩
          have hb7 : Below w.heap.size w w7 := below_upd_wr hb6 hw6 (Nat.le_refl _) g3 hu7
          have hr7 := hr6.upd hu7 (rdr_wr hw6 hr6 (by decide) (by decide))
          have hfin : Hid (s.data.toList = (bs ++ intB nn) ++ s6.data.toList) := by rw [hs6]; exact hput
          have hsz7 : s6.size = rr.length := by
            have h1 : s6.size = s6.data.toList.length := by simp
            rw [h1, hs6]
          have hsz8 : (bs ++ intB nn).length + s6.size = s.size := by rw [hsz7]; exact HLEN.out
          have hcut := cut_eq s _ _ hfin.out
          obtain ⟨B, hB⟩ : ∃ B, B = bs ++ intB nn := ⟨_, rfl⟩
          rw [← hB] at hw7 hfin hsz8 hcut
          clear hB hw6 hu6 hr6 hu7 hat7 hb6 hr2 hw2 hs6 hsz7 hb5w hrw
          have a1 : B.length ≤ s.size := by omega
          have a2 : (s6.size : Int) + (B.length : Int) ≤ (s.size : Int) := by omega
          have a3 : (s.size : Int) ≤ (s6.size : Int) + (B.length : Int) := by omega
          have a4 := rest_eq hs hsz8
          clear hsz8
          go_wp2
          go_quiet (first | (go_at_call 35; exact Calls.quiet_of_same ((len_any _ _ _ _ _ (wr_drewN hw7 _)).mono fun _ _ h => ⟨h.1, h.2.symm⟩)) | (go_at_call 31; exact Calls.quiet_of_same ((bytes_any _ _ _ _ _ (wr_drewN hw7 _)).mono fun _ _ h => ⟨h.1, h.2.symm⟩)) | (go_at_call 38; exact Calls.quiet_of_same ((left_any _ _ s6 (rdr_drewN hr7 _)).mono fun _ _ h => ⟨h.1, h.2.symm⟩)))
          go_wp2
          go_roundw
          case rel => exact ⟨k + 1, by omega, by go_num, ⟨s6, _, B, hr7, wr_drewN hw7 _, hfin⟩, ⟨hb7.os, hb7.tape, hb7.output, hb7.size, hb7.block⟩⟩
          case measure => simp [intOf]; omega
        · go_wp2_with fail
          refine (rdint_f _ _ s2 nn 1 _ HRD.out hr2 hs2).mono ?_
          rintro e w6 ⟨rfl, ht6⟩
          have hb6 : Below w.heap.size w w6 := below_took hb5w hb5w.size g2 ht6
          obtain ⟨s6, hs6, hr6, hu6⟩ := ht6
          have hw6 := hw2.upd hu6 (fun k hk e => hrw (e ▸ hk))
          have hsz6 : s6.size = s2.size := by
            have h1 : s6.size = s6.data.toList.length := by simp
            have h2 : s2.size = s2.data.toList.length := by simp
            rw [h1, hs6, h2]
          have hfin : Hid (s.data.toList = bs ++ s6.data.toList) := by rw [hs6]; exact hsp
          have hcut := cut_eq s _ _ hfin.out
          have hsz8 : bs.length + s6.size = s.size := by rw [hsz6]; exact HSZ.out
          have hb7 := hb6
          have hw7 := hw6
          have hr7 := hr6
          obtain ⟨B, hB⟩ : ∃ B, B = bs := ⟨_, rfl⟩
          rw [← hB] at hw7 hfin hsz8 hcut
          have q1 : (s6.size : Int) ≤ (s2.size : Int) := by omega
          have q2 : (s2.size : Int) ≤ (s6.size : Int) := by omega
          clear hB hw6 hu6 hb6 hr2 hw2 hs6 hsz6 hb5w hrw
          go_wp2_with fail
          refine (left_any _ _ s6 hr6).mono ?_
          rintro e w7 ⟨rfl, rfl⟩
          clear hr6
          have a1 : B.length ≤ s.size := by omega
          have a2 : (s6.size : Int) + (B.length : Int) ≤ (s.size : Int) := by omega
          have a3 : (s.size : Int) ≤ (s6.size : Int) + (B.length : Int) := by omega
          have a4 := rest_eq hs hsz8
          clear hsz8
          go_wp2
          go_quiet (first | (go_at_call 35; exact Calls.quiet_of_same ((len_any _ _ _ _ _ (wr_drewN hw7 _)).mono fun _ _ h => ⟨h.1, h.2.symm⟩)) | (go_at_call 31; exact Calls.quiet_of_same ((bytes_any _ _ _ _ _ (wr_drewN hw7 _)).mono fun _ _ h => ⟨h.1, h.2.symm⟩)) | (go_at_call 38; exact Calls.quiet_of_same ((left_any _ _ s6 (rdr_drewN hr7 _)).mono fun _ _ h => ⟨h.1, h.2.symm⟩)))
          go_wp2
          go_roundw
          case rel => exact ⟨k + 1, by omega, by go_num, ⟨s6, _, B, hr7, wr_drewN hw7 _, hfin⟩, ⟨hb7.os, hb7.tape, hb7.output, hb7.size, hb7.block⟩⟩
          case measure => simp [intOf]; omega
      · obtain ⟨nn, ee, rr, hrd⟩ : ∃ n e r, rdText s2.data.toList = (n, e, r) := ⟨_, _, _, rfl⟩
        have HRD := Lib.hid hrd
        have hrl : rr.length ≤ s2.size := by have := rdText_len s2.data.toList; rw [hrd] at this; simpa using this
        have herr := rdText_err hrd
        clear hrd
        rcases herr with rfl | ⟨rfl, rfl⟩
        · go_wp2_with fail
          refine (rdtext_f _ _ s2 nn 0 _ HRD.out hr2 hs2).mono ?_
          rintro e w6 ⟨⟨tt, htt, rfl⟩, ht6⟩
          have hb6 : Below w.heap.size w w6 := below_took hb5w hb5w.size g2 ht6
          obtain ⟨s6, hs6, hr6, hu6⟩ := ht6
          have hw6 := hw2.upd hu6 (fun k hk e => hrw (e ▸ hk))
          have hbk := text_back HRD.out
          rw [← htt] at hbk
          have hput : Hid (s.data.toList = (bs ++ textB tt.data.toList) ++ rr) := by rw [hsp.out, hbk, List.append_assoc]; rfl
          have hlen : (bs ++ textB tt.data.toList).length + rr.length = s.size := by
            have h1 : s.size = s.data.toList.length := by simp
            rw [h1, hput.out]; exact List.length_append.symm
          have hlb : bs.length + (textB tt.data.toList).length ≤ 140737488355328 := by rw [List.length_append] at hlen; omega
          have HBK := Lib.hid hbk
          have HLEN := Lib.hid hlen
          clear hbk hlen htt
          go_wp2_with fail
          refine (text_one _ w.heap.size G v bs tt hw6 hb6.size hlb).mono ?_
          rintro e w7 ⟨rfl, v7, hw7, hat7, hu7⟩
          have hb7 : Below w.heap.size w w7 := below_upd_wr hb6 hw6 (Nat.le_refl _) g3 hu7
          have hr7 := hr6.upd hu7 (rdr_wr hw6 hr6 (by decide) (by decide))
          have hfin : Hid (s.data.toList = (bs ++ textB tt.data.toList) ++ s6.data.toList) := by rw [hs6]; exact hput
          have hsz7 : s6.size = rr.length := by
            have h1 : s6.size = s6.data.toList.length := by simp
            rw [h1, hs6]
          have hsz8 : (bs ++ textB tt.data.toList).length + s6.size = s.size := by rw [hsz7]; exact HLEN.out
          have hcut := cut_eq s _ _ hfin.out
          obtain ⟨B, hB⟩ : ∃ B, B = bs ++ textB tt.data.toList := ⟨_, rfl⟩
          rw [← hB] at hw7 hfin hsz8 hcut
          clear hB hw6 hu6 hr6 hu7 hat7 hb6 hr2 hw2 hs6 hsz7 hb5w hrw
          have a1 : B.length ≤ s.size := by omega
          have a2 : (s6.size : Int) + (B.length : Int) ≤ (s.size : Int) := by omega
          have a3 : (s.size : Int) ≤ (s6.size : Int) + (B.length : Int) := by omega
          have a4 := rest_eq hs hsz8
          clear hsz8
          go_wp2
          go_quiet (first | (go_at_call 35; exact Calls.quiet_of_same ((len_any _ _ _ _ _ (wr_drewN hw7 _)).mono fun _ _ h => ⟨h.1, h.2.symm⟩)) | (go_at_call 31; exact Calls.quiet_of_same ((bytes_any _ _ _ _ _ (wr_drewN hw7 _)).mono fun _ _ h => ⟨h.1, h.2.symm⟩)) | (go_at_call 38; exact Calls.quiet_of_same ((left_any _ _ s6 (rdr_drewN hr7 _)).mono fun _ _ h => ⟨h.1, h.2.symm⟩)))
          go_wp2
          go_roundw
          case rel => exact ⟨k + 1, by omega, by go_num, ⟨s6, _, B, hr7, wr_drewN hw7 _, hfin⟩, ⟨hb7.os, hb7.tape, hb7.output, hb7.size, hb7.block⟩⟩
          case measure => simp [intOf]; omega
        · go_wp2_with fail
          refine (rdtext_f _ _ s2 nn 1 _ HRD.out hr2 hs2).mono ?_
          rintro e w6 ⟨⟨tt, htt, rfl⟩, ht6⟩
          have hb6 : Below w.heap.size w w6 := below_took hb5w hb5w.size g2 ht6
          obtain ⟨s6, hs6, hr6, hu6⟩ := ht6
          have hw6 := hw2.upd hu6 (fun k hk e => hrw (e ▸ hk))
          have hsz6 : s6.size = s2.size := by
            have h1 : s6.size = s6.data.toList.length := by simp
            have h2 : s2.size = s2.data.toList.length := by simp
            rw [h1, hs6, h2]
          have hfin : Hid (s.data.toList = bs ++ s6.data.toList) := by rw [hs6]; exact hsp
          have hcut := cut_eq s _ _ hfin.out
          have hsz8 : bs.length + s6.size = s.size := by rw [hsz6]; exact HSZ.out
          have hb7 := hb6
          have hw7 := hw6
          have hr7 := hr6
          obtain ⟨B, hB⟩ : ∃ B, B = bs := ⟨_, rfl⟩
          rw [← hB] at hw7 hfin hsz8 hcut
          have q1 : (s6.size : Int) ≤ (s2.size : Int) := by omega
          have q2 : (s2.size : Int) ≤ (s6.size : Int) := by omega
          clear hB hw6 hu6 hb6 hr2 hw2 hs6 hsz6 hb5w hrw htt
          go_wp2_with fail
          refine (left_any _ _ s6 hr6).mono ?_
          rintro e w7 ⟨rfl, rfl⟩
          clear hr6
          have a1 : B.length ≤ s.size := by omega
          have a2 : (s6.size : Int) + (B.length : Int) ≤ (s.size : Int) := by omega
          have a3 : (s.size : Int) ≤ (s6.size : Int) + (B.length : Int) := by omega
          have a4 := rest_eq hs hsz8
          clear hsz8
          go_wp2
          go_quiet (first | (go_at_call 35; exact Calls.quiet_of_same ((len_any _ _ _ _ _ (wr_drewN hw7 _)).mono fun _ _ h => ⟨h.1, h.2.symm⟩)) | (go_at_call 31; exact Calls.quiet_of_same ((bytes_any _ _ _ _ _ (wr_drewN hw7 _)).mono fun _ _ h => ⟨h.1, h.2.symm⟩)) | (go_at_call 38; exact Calls.quiet_of_same ((left_any _ _ s6 (rdr_drewN hr7 _)).mono fun _ _ h => ⟨h.1, h.2.symm⟩)))
          go_wp2
          go_roundw
          case rel => exact ⟨k + 1, by omega, by go_num, ⟨s6, _, B, hr7, wr_drewN hw7 _, hfin⟩, ⟨hb7.os, hb7.tape, hb7.output, hb7.size, hb7.block⟩⟩
          case measure => simp [intOf]; omega
    · obtain rfl : k = n := by omega
      go_wp2
      go_ret
      exact ⟨rfl, hbx⟩
end Go.Proofs.Ytmjkebokedaldaa
