/- Frames: a strings.Builder's methods, walked (String: off the shelf). -/
import Derived.Shelf.Strings.Builder1
import Derived.Test.YtanieolnaiihmaaJFrSeal
namespace Go.Proofs.Ytanieolnaiihmaa
open Go.RowKit Go.Shelf

def bRen : Go.Shelf.Ren := ⟨fun | 169 => 75 | n => n, fun | 70 => 118 | 9 => 9 | 0 => 0 | 72 => 120 | 37 => 38 | 127 => 152 | 3 => 3 | 5 => 5 | n => n, fun | n => n⟩
set_option maxRecDepth 20000 in
theorem bLays : Go.Proofs.Lays.n169 Try.prog bRen := {
  mixed := by kernel_rfl
  f169 := Try.func75.trans (congrArg some (by kernel_rfl))
  t0 := Try.underlying0
  a0 := Try.isAgg0
  z0 := Try.sizeOf0
  v0 := Try.zeroValue0
  t3 := Try.underlying3
  a3 := Try.isAgg3
  z3 := Try.sizeOf3
  v3 := Try.zeroValue3
  t9 := Try.underlying9
  a9 := Try.isAgg9
  z9 := Try.sizeOf9
  v9 := Try.zeroValue9
  t37 := Try.underlying38
  a37 := Try.isAgg38
  z37 := Try.sizeOf38
  v37 := Try.zeroValue38
  t70 := Try.underlying118
  a70 := Try.isAgg118
  z70 := Try.sizeOf118
  v70 := Try.zeroValue118
  t72 := Try.underlying120
  a72 := Try.isAgg120
  z72 := Try.sizeOf120
  v72 := Try.zeroValue120
  t127 := Try.underlying152
  a127 := Try.isAgg152
  z127 := Try.sizeOf152
  v127 := Try.zeroValue152 }
set_option maxRecDepth 20000 in
theorem bExtra : Builder.Extra Try.prog bRen := {
  sizeBuilder := by kernel_rfl
  liesBuilder := by kernel_rfl
  t5 := Try.underlying5
  a5 := Try.isAgg5
  z5 := Try.sizeOf5
  v5 := Try.zeroValue5
  infoByte := by kernel_rfl
  cellsByte := by kernel_rfl
  sizeByte := by kernel_rfl
  neB5 := by decide }
set_option maxRecDepth 20000 in
theorem bstring_any (B b : Nat) (l : List UInt8) (w : World) (h : Lib.IsBuilder 120 5 B b (bytv l) w) (hBw : B ≤ w.heap.size) :
    Calls Try.prog 75 #[.pointer (some ⟨b, 0, none⟩)] w fun e w' => e = .returned (.string ⟨l.toArray⟩) ∧ Below B w w' := Any.Builder_String_any bLays bExtra B b l w h hBw
set_option maxRecDepth 20000 in
theorem bsize : (Try.prog.info? 120).map (·.size) = some 2 := by kernel_rfl
set_option maxRecDepth 20000 in
theorem blies : liesAt Try.prog Try.prog.depth 120 (2 / Try.prog.cellsOf 120) 0 120 1 = true := by kernel_rfl
set_option maxRecDepth 20000 in
set_option maxHeartbeats 1000000 in
theorem check_used (b : Nat) (w : World) (h0 : w.cell? ⟨b, 0, none⟩ = some (.pointer (some ⟨b, 0, none⟩))) :
    Calls Try.prog 96 #[.pointer (some ⟨b, 0, none⟩)] w fun e w' => e = .returned (.tuple #[]) ∧ w' = w := by
  obtain ⟨j, hj, _⟩ := Option.map_eq_some_iff.1 bsize
  go_enter Try.func96, Try.ntmps96
  go_wp2
  rw [Lib.run_neq_ptr_same w _ Try.underlying118 hj]
  go_wp2
  go_end0
  exact ⟨rfl, rfl⟩
set_option maxRecDepth 20000 in
set_option maxHeartbeats 1000000 in
theorem check_fresh (b : Nat) (w : World) (h0 : w.cell? ⟨b, 0, none⟩ = some (.pointer none)) (hsh : w.shape? b = some (120, 2)) (hfz : w.frozen? ⟨b, 0, none⟩ = false) :
    Calls Try.prog 96 #[.pointer (some ⟨b, 0, none⟩)] w fun e w' => e = .returned (.tuple #[]) ∧ w' = w.setCell ⟨b, 0, none⟩ (.pointer (some ⟨b, 0, none⟩)) := by
  obtain ⟨j, hj, hjs⟩ := Option.map_eq_some_iff.1 bsize
  go_enter Try.func96, Try.ntmps96
  go_wp2
  rw [Lib.run_to_unsafe w ⟨b, 0, none⟩ Try.underlying118 Try.underlying158 hj (by rw [hjs]; decide) hsh (Nat.zero_lt_succ 1)]
  simp only [Result.andThen]
  rw [Oper.upon_value]
  go_wp2
  rw [run_callFunc_extern Try.func107 (by kernel_rfl) (by kernel_rfl) (by kernel_rfl) (e := Extern.AbiNoEscape.same) (by kernel_rfl)]
  rw [Lib.run_noEscape]
  simp only [Result.andThen]
  rw [Oper.upon_value]
  go_wp2
  rw [Lib.run_from_unsafe w ⟨b, 0, none⟩ Try.underlying158 Try.underlying118 hj hsh blies]
  simp only [Result.andThen]
  rw [Oper.upon_value]
  go_wp2
  go_end0
  exact ⟨rfl, rfl⟩
set_option maxRecDepth 20000 in
theorem check_any (B b : Nat) (bs : List Value) (w : World) (h : Lib.IsBuilder 120 5 B b bs w) :
    Calls Try.prog 96 #[.pointer (some ⟨b, 0, none⟩)] w fun e w' => e = .returned (.tuple #[]) ∧ (Lib.BuilderAt 120 5 B b (.pointer (some ⟨b, 0, none⟩)) bs w' ∧ Below B w w') := by
  rcases h with h | h
  · refine (check_fresh b w h.cell0 h.shape h.frozen0).mono ?_
    rintro e w' ⟨rfl, rfl⟩
    exact ⟨rfl, h.used _, (Below.refl B w).setCell (p := ⟨b, 0, none⟩) h.1 _⟩
  · refine (check_used b w h.cell0).mono ?_
    rintro e w' ⟨rfl, rfl⟩
    exact ⟨rfl, h, Below.refl B _⟩
set_option maxRecDepth 20000 in
set_option maxHeartbeats 1000000 in
theorem bwrite_any (B b : Nat) (l : List UInt8) (s : ByteArray) (w : World) (h : Lib.IsBuilder 120 5 B b (bytv l) w) (hlen : l.length + s.size ≤ 140737488355328) (hBw : B ≤ w.heap.size) :
    Calls Try.prog 73 #[.pointer (some ⟨b, 0, none⟩), .string s] w fun e w' => e = .returned (.tuple #[.int .i64 s.size, .nilIface]) ∧ (Lib.IsBuilder 120 5 B b (bytv (l ++ s.data.toList)) w' ∧ Below B w w') := by
  obtain ⟨i0, hi, hz0, hz1, hz2⟩ := info_parts u8_infoF
  have hbl := bytv_length l
  go_enter Try.func73, Try.ntmps73
  go_wp2_with fail
  refine (check_any B b (bytv l) _ h).mono ?_
  rintro e w1 ⟨rfl, h1, hb1⟩
  obtain ⟨hB, v, hbk, hown, hne⟩ := h1
  have c0 : w1.cell? ⟨b, 0, none⟩ = some (.pointer (some ⟨b, 0, none⟩)) := by rw [Lib.cell_of_heap hbk]; rfl
  have c1 : w1.cell? ⟨b, 1, none⟩ = some v := by rw [Lib.cell_of_heap hbk]; rfl
  go_wp2_with (at_builtin; refine Lib.wpList_append_own_string _ rfl _ _ 38 9 rfl B 5 i0 Try.underlying38 Try.underlying9 hi hz0 hz1 hz2 _ _ _ rfl hown s rfl ?c3 ?c4 ?c5 ?_)
  case c3 => unfold maxLen; omega
  case c4 => omega
  case c5 => have := hb1.size; omega
  intro v' w2 hown' hgrow _
  have hlt : b < w1.heap.size := by
    rcases Nat.lt_or_ge b w1.heap.size with h' | h'
    · exact h'
    · simp [Array.getElem?_eq_none h'] at hbk
  have hb2 : w2.heap[b]? = some (.cells #[.pointer (some ⟨b, 0, none⟩), v] 120 (0, 0)) := by
    rw [hgrow.block b hlt (fun e => hne e.symm)]
    exact hbk
  have d0 : w2.cell? ⟨b, 0, none⟩ = some (.pointer (some ⟨b, 0, none⟩)) := by rw [Lib.cell_of_heap hb2]; rfl
  have d1 : w2.cell? ⟨b, 1, none⟩ = some v := by rw [Lib.cell_of_heap hb2]; rfl
  have f1 : w2.frozen? ⟨b, 1, none⟩ = false := Lib.frozen_of_heap hb2 1
  obtain ⟨ao, n', cap, rfl⟩ : ∃ ao n' cap, v' = .slice ao n' cap := by
    rcases hown'.2 with ⟨hv, _⟩ | ⟨g, cap, cur, hv, _⟩
    · exact ⟨_, _, _, hv⟩
    · exact ⟨_, _, _, hv⟩
  go_wp2
  go_ret2
  refine ⟨rfl, .inr ?_, ?_⟩
  · rw [bytv_append]
    exact Lib.BuilderAt.put (T := 120) (e := 5) hB hb2 (bs' := bytv l ++ Lib.strCells s) (by simpa [Lib.strCells_length, bytv_length] using hown') (by decide)
  · exact (hb1.grown hgrow (by have := hb1.size; omega) (fun k hk => (hown.lt k hk).1)).setCell (p := ⟨b, 1, none⟩) hB _
theorem isB_below {T e : TypeId} {B b : Nat} {bs : List Value} {w w' : World} (h : Lib.IsBuilder T e B b bs w) (hb : Below w.heap.size w w') : Lib.IsBuilder T e B b bs w' := by
  have key : ∀ p, Lib.BuilderAt T e B b p bs w → Lib.BuilderAt T e B b p bs w' := by
    intro p h
    have hlt := h.lt
    obtain ⟨hB, v, hbk, hown, hne⟩ := h
    exact ⟨hB, v, (hb.block b hlt).trans hbk, own_below hown hb, hne⟩
  exact h.imp (key _) (key _)
end Go.Proofs.Ytanieolnaiihmaa
/- Frames: frame.Seal, walked. -/
namespace Go.Proofs.Ytanieolnaiihmaa
open Go.RowKit

set_option maxRecDepth 20000 in
theorem fsum_two (w : World) (a b : ByteArray) (ha : a.size ≤ 140737488351232) (hb : b.size ≤ 140737488351232) :
    Calls Try.prog 74 #[.slice (some ⟨w.heap.size, 0, none⟩) 2 2] (w.alloc (.cells #[.string a, .string b] 9)) fun e w' => e = .returned (.int .u32 (sumB (a.data.toList ++ b.data.toList) : Int)) ∧ w' = w.alloc (.cells #[.string a, .string b] 9) := by
  have h := fsum_any (w.alloc (.cells #[.string a, .string b] 9)) (some ⟨w.heap.size, 0, none⟩) 2 2 [a, b] (by simpa [strv] using Rd.new (w := w) (size := 1) (n := 2) #[.string a, .string b] 9 rfl) (by omega) (by simp; exact ⟨ha, hb⟩)
  simpa [catB] using h
set_option maxRecDepth 20000 in
theorem fsum_one (w : World) (a : ByteArray) (ha : a.size ≤ 140737488351232) :
    Calls Try.prog 74 #[.slice (some ⟨w.heap.size, 0, none⟩) 1 1] (w.alloc (.cells #[.string a] 9)) fun e w' => e = .returned (.int .u32 (sumB a.data.toList : Int)) ∧ w' = w.alloc (.cells #[.string a] 9) := by
  have h := fsum_any (w.alloc (.cells #[.string a] 9)) (some ⟨w.heap.size, 0, none⟩) 1 1 [a] (by simpa [strv] using Rd.new (w := w) (size := 1) (n := 1) #[.string a] 9 rfl) (by omega) (by simpa using ha)
  simpa [catB] using h
set_option maxHeartbeats 1000000 in
set_option maxRecDepth 20000 in
theorem fseal_any (w : World) (A : Option Addr) (n c : Nat) (l : List ByteArray) (hr : Rd w w.heap.size 1 A n (strv l)) (hl : (sealB l).length ≤ 140737488355328) (hn : n ≤ 17592186044416) (hls : ∀ s ∈ l, s.size ≤ 140737488351232) :
    Calls Try.prog 51 #[.slice A n c] w fun e w' => e = .returned (.tuple #[.string ⟨(sealR l).1.toArray⟩, .int .i64 ((sealR l).2 : Int)]) ∧ Below w.heap.size w w' := by
  have hlen := Lib.hid (show l.length = n by have := hr.len; rw [strv_length] at this; omega)
  go_enter Try.func51, Try.ntmps51
  go_wp2
  go_loopw [10] (fun i wx => ∃ k : Nat, k ≤ n ∧ i = .int .i64 k ∧ Lib.IsBuilder 120 5 w.heap.size w.heap.size (bytv (sealB (l.take k))) wx ∧ (∀ s ∈ l.take k, s.size ≤ 65536) ∧ Below w.heap.size w wx) (fun i _ => n - (intOf i).toNat)
  case atStart => exact ⟨0, Nat.zero_le _, rfl, Lib.fresh_isBuilder _ _ w, by simp, (Below.refl _ _).alloc (Nat.le_refl _) _⟩
  case round =>
    obtain ⟨k, hk, rfl, hib, hfit, hbx⟩ := hrel
    by_cases hlt : k < n
    · obtain ⟨ad, rfl, hab, hs, hc⟩ := hr.str hlt
      have HT := Lib.hid (sealB_take l k hs)
      have hmem := List.getElem_mem hs
      have hlsk := hls _ hmem
      have hsz := sealB_take_len l (k + 1)
      have hft : ∀ h : l[k].size ≤ 65536, ∀ s ∈ l.take (k + 1), s.size ≤ 65536 := fun h s hs' => by
        rw [List.take_succ_eq_append_getElem hs] at hs'
        rcases List.mem_append.1 hs' with h' | h'
        · exact hfit s h'
        · rw [List.mem_singleton.1 h']; exact h
      have hcr : wr.cell? (ad.add k) = some (.string l[k]) := by rw [hbx.cell (by rw [block_add]; exact hab)]; exact hc
      obtain ⟨x, hx⟩ : ∃ x, x = l[k] := ⟨_, rfl⟩
      rw [← hx] at HT hcr hlsk hft hmem
      clear hx hc hfit
      by_cases hxs : x.size ≤ 65536
      · have hft := hft hxs
        have hfl := frameB_len x.data.toList
        have hlx : (sealB (l.take k)).length + (frameB x.data.toList).length ≤ 140737488355328 := by
          rw [HT.out, List.length_append] at hsz; omega
        have hxl : x.data.toList.length = x.size := by simp
        obtain ⟨p, hp⟩ : ∃ p, p = sealB (l.take k) := ⟨_, rfl⟩
        rw [← hp] at hib hlx HT
        have l1 := fourB_len x.size
        have hF := Lib.hid (show frameB x.data.toList = fourB x.size ++ fourB (sumB (fourB x.size ++ x.data.toList)) ++ x.data.toList by unfold frameB; simp)
        have l2 := fourB_len (sumB (fourB x.size ++ x.data.toList))
        have h2 := append_lit (fourB x.size) (fourB (sumB (fourB x.size ++ x.data.toList)))
        have hbase := hbx.size
        rw [hfl, hxl] at hlx
        clear hp hsz hfl
        go_wp2_with fail
        refine (four_any _ x.size (by omega)).mono ?_
        rintro e w2 ⟨rfl, hb2⟩
        have hib2 := isB_below hib hb2
        have hbx2 := bel hbx hb2
        go_wp2_with fail
        refine (fsum_two _ _ x (by show (fourB x.size).toArray.size ≤ _; simp [fourB_len]) (by omega)).mono ?_
        rintro e w3 ⟨rfl, rfl⟩
        have hbA : Below w2.heap.size w2 (w2.alloc (.cells #[Value.string ⟨(fourB x.size).toArray⟩, Value.string x] 9)) := (Below.refl _ _).alloc (Nat.le_refl _) _
        have hib3 := isB_below hib2 hbA
        have hbx3 := bel hbx2 hbA
        clear hib hib2 hbx2 hb2
        go_wp2_with fail
        refine (four_any _ _ (sumB_lt _)).mono ?_
        rintro e w4 ⟨rfl, hb4⟩
        have hib4 := isB_below hib3 hb4
        have hbx4 := bel hbx3 hb4
        clear hib3 hbx3 hb4 hbA
        go_wp2_with fail
        refine (bwrite_any _ _ p _ _ hib4 (by show _ + (fourB x.size ++ fourB (sumB (fourB x.size ++ x.data.toList))).toArray.size ≤ _; rw [List.size_toArray, List.length_append, l1, l2]; omega) hbx4.size).mono ?_
        rintro e w5 ⟨rfl, hib5, hb5⟩
        have hbx5 := hbx4.trans hb5
        clear hib4 hb5 hbx4
        go_wp2_with fail
        refine (bwrite_any _ _ _ _ _ hib5 (by rw [List.length_append]; simp only [List.length_append, l1, l2]; omega) hbx5.size).mono ?_
        rintro e w6 ⟨rfl, hib6, hb6⟩
        have hbx6 := hbx5.trans hb6
        have hib7 : Lib.IsBuilder 120 5 w.heap.size w.heap.size (bytv (sealB (l.take (k + 1)))) w6 := by
          rw [HT.out, hF.out, ← List.append_assoc]
          exact hib6
        clear hib5 hib6 hb6 hbx5
        go_wp2
        go_roundw
        case rel => exact ⟨k + 1, by omega, by go_num, hib7, hft, hbx6⟩
        case measure => simp [intOf]; omega
      · have hno := sealR_no hmem hxs
        have hbad : decide ((65536 : Int) < (x.size : Int)) = true := decide_eq_true (by omega)
        go_wp2
        go_ret2
        exact ⟨by rw [hno]; rfl, hbx⟩
    · obtain rfl : k = n := by omega
      rw [← hlen.out, List.take_length] at hib hfit
      have hok := sealR_ok hfit
      go_wp2_with fail
      refine (bstring_any _ _ _ _ hib hbx.size).mono ?_
      rintro e w2 ⟨rfl, hb2⟩
      have hb := hbx.trans hb2
      go_wp2
      go_ret2
      exact ⟨by rw [hok]; rfl, hb⟩
end Go.Proofs.Ytanieolnaiihmaa
