/- Tables: TableWhole, walked. -/
import Derived.Test.YtanieolnaiihmaaJTbLives
import Derived.Test.YtanieolnaiihmaaJTbWhP
namespace Go.Proofs.Ytanieolnaiihmaa
open Go.RowKit
theorem conv_oneT {P : Program} {w : World} {src dst e : TypeId} (m : UInt8) (hs : P.underlying src = some (.slice e)) (he : P.underlying e = some (.int .u8)) (hd : P.underlying dst = some .string) :
    (convert src dst (.slice (some ⟨w.heap.size, 0, none⟩) 1 1)).run P (w.alloc (.cells #[.int .u8 (m.toNat : Int)] e)) = .ok (.string ⟨#[m]⟩) (w.alloc (.cells #[.int .u8 (m.toNat : Int)] e)) := by
  have := run_convert_bytes_back (P := P) (w.alloc (.cells #[.int .u8 (m.toNat : Int)] e)) src dst e ⟨w.heap.size, 0, none⟩ 1 [m] hs he hd (fun j hj => by
    have hj0 : j = 0 := by simpa using hj
    subst hj0
    rw [add_flat, cell_of_row _ _ _ _ _ _ (heap_alloc_new w _)]
    rfl)
  simpa using this
theorem openPost_no {w w' : World} {s : ByteArray} {e : Ending} (h : OpenPost w s e w') (hn : openT s.data.toList = none) : e = .returned (.tuple #[.pointer none, .int .i64 10]) ∧ Below w.heap.size w w' := by
  obtain ⟨h1, h2⟩ := h
  rw [hn] at h2
  exact ⟨h2, h1⟩
set_option maxHeartbeats 4000000 in
set_option maxRecDepth 20000 in
theorem twhole_any (w : World) (A : Option Addr) (n c : Nat) (l : List Ent) (m : UInt8) {S : Nat} (hS : S ≤ 1048576) (hok : okE S l) (hr : Rd w w.heap.size 4 A n (entv l)) (hnc : n ≤ c) (hsz : (bldT l).1.length ≤ 268435455) :
    Calls Try.prog 4 #[.slice A n c, .int .u8 (m.toNat : Int)] w fun e w' => e = .returned (.bool true) ∧ Below w.heap.size w w' := by
  have HB := Lib.hid (fun W (hW : Below w.heap.size w W) => tbuild_any W A n c l hS hok ((hr.below hW).mono hW.size) hnc)
  obtain ⟨T, hT⟩ : ∃ T : ByteArray, (⟨(bldT l).1.toArray⟩ : ByteArray) = T := ⟨_, rfl⟩
  have hTd : T.data.toList = (bldT l).1 := by rw [← hT]
  have hTs : T.size = (bldT l).1.length := by rw [← hTd]; rfl
  obtain ⟨q, hq⟩ : ∃ q, (bldT l).2 = q := ⟨_, rfl⟩
  rw [hT, hq] at HB
  have hcut : Hid (q = 0 → ∀ k, k < T.size → openT ((T.extract 0 k).data.toList) = none) := Lib.hid fun h0 k hk => by
    have e : (T.extract 0 k).data.toList = (bldT l).1.take k := by
      rw [← hTd]; simp [ByteArray.data_extract]
    rw [e]
    exact whole_cut hS hok (hq.trans h0) (by omega) (by omega)
  have hmo : Hid (q = 0 → openT ((T ++ ⟨#[m]⟩ : ByteArray).data.toList) = none) := Lib.hid fun h0 => by
    have e : (T ++ ⟨#[m]⟩ : ByteArray).data.toList = (bldT l).1 ++ [m] := by
      rw [← hTd]; simp [ByteArray.data_append]
    rw [e]
    exact whole_more (hq.trans h0) m
  have hT28 : T.size ≤ 268435455 := by omega
  clear hT hTd hTs hq hsz hok hr
  go_enter Try.func4, Try.ntmps4
  go_wp2_with fail
  refine (tlives_any _).mono ?_
  rintro e w1 ⟨rfl, hb1⟩
  go_wp2_with fail
  refine (HB.out _ hb1).mono ?_
  rintro e w2 ⟨rfl, hb2⟩
  have hb := bel hb1 hb2
  clear HB hb1 hb2
  by_cases hq0 : q = 0
  · have hcut2 := Lib.hid (hcut.out hq0)
    have hmo2 := Lib.hid (hmo.out hq0)
    clear hcut hmo
    subst hq0
    go_wp2
    go_loopw [7] (fun i wx => ∃ k : Nat, k ≤ T.size ∧ k ≤ 150 ∧ i = .int .i64 k ∧ Below w.heap.size w wx) (fun i _ => T.size - (intOf i).toNat)
    case atStart => exact ⟨0, Nat.zero_le _, by omega, rfl, hb⟩
    case round =>
      obtain ⟨k, hk, hk3, rfl, hbx⟩ := hrel
      clear hb
      by_cases hlt : k < T.size ∧ k < 150
      · obtain ⟨hlt, hl3⟩ := hlt
        have i1 : (k : Int) < 150 := by omega
        obtain ⟨k2, hk2⟩ : ∃ k2, k2 + k + 1 = T.size := ⟨T.size - k - 1, by omega⟩
        have hw1 : IntKind.i64.wrap ((T.size : Int) - 1) = (T.size : Int) - 1 := IntWalk.i64_in _ (by omega)
        have hw2 : IntKind.i64.wrap ((T.size : Int) - 1 - (k : Int)) = (k2 : Int) := by rw [IntWalk.i64_in _ (by omega)]; omega
        have hn1 := hcut2.out k hlt
        have hn2 := hcut2.out k2 (by omega)
        have HN := Lib.hid (And.intro hn1 hn2)
        have hle2 : k2 ≤ T.size := by omega
        have HK := Lib.hid hk2
        clear hn1 hn2 hk2
        go_wp2_with fail
        refine (open_any _ (T.extract 0 k) (by simp [ByteArray.size_extract]; omega)).mono ?_
        rintro e w3 hop
        obtain ⟨rfl, hb3⟩ := openPost_no hop HN.out.1
        have hb4 := hbx.trans (hb3.mono hbx.size)
        clear hop hb3
        go_wp2_with fail
        refine (open_any _ (T.extract 0 k2) (by simp [ByteArray.size_extract]; omega)).mono ?_
        rintro e w5 hop
        obtain ⟨rfl, hb5⟩ := openPost_no hop HN.out.2
        have hb6 := hb4.trans (hb5.mono hb4.size)
        clear hop hb5 hw1 hw2 hb4
        go_wp2
        go_roundw
        case rel => exact ⟨k + 1, by omega, by omega, by go_num, hb6⟩
        case measure => simp [intOf]; omega
      · have hend : (k < T.size ∧ k = 150) ∨ k = T.size := by omega
        have hmore := Lib.hid hmo2.out
        have hsz1 : (T ++ ⟨#[m]⟩ : ByteArray).size ≤ 268435456 := by
          rw [ByteArray.size_append]
          have : (⟨#[m]⟩ : ByteArray).size = 1 := rfl
          omega
        rcases hend with ⟨hlt, rfl⟩ | rfl
        all_goals
          have hcv := conv_oneT (P := Try.prog) (w := wr) (src := 38) (dst := 9) m Try.underlying38 Try.underlying5 Try.underlying9
          go_wp2_with fail
          refine (open_any _ _ ?_).mono ?_
          · exact hsz1
          rintro e w3 hop
          obtain ⟨rfl, hb3⟩ := openPost_no hop hmore.out
          have hb4 := (hbx.alloc hbx.size (.cells #[.int .u8 (m.toNat : Int)] 5)).trans (hb3.mono (Nat.le_trans hbx.size (by simp)))
          clear hop hcv
          go_wp2
          go_ret
          exact ⟨rfl, hb4⟩
  · have hqn : ¬ ((q : Int) = 0) := by omega
    go_wp2
    go_ret
    exact ⟨rfl, hb⟩
end Go.Proofs.Ytanieolnaiihmaa
