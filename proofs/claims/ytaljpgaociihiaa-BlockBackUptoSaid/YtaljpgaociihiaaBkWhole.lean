/- Blocks: BlockWhole, walked. -/
import Derived.Test.YtaljpgaociihiaaBkWholeP
import Derived.Test.YtaljpgaociihiaaBkLives
namespace Go.Proofs.Ytaljpgaociihiaa
open Go.RowKit
theorem conv_one {P : Program} {w : World} {src dst e : TypeId} (m : UInt8) (hs : P.underlying src = some (.slice e)) (he : P.underlying e = some (.int .u8)) (hd : P.underlying dst = some .string) :
    (convert src dst (.slice (some ⟨w.heap.size, 0, none⟩) 1 1)).run P (w.alloc (.cells #[.int .u8 (m.toNat : Int)] e)) = .ok (.string ⟨#[m]⟩) (w.alloc (.cells #[.int .u8 (m.toNat : Int)] e)) := by
  have := run_convert_bytes_back (P := P) (w.alloc (.cells #[.int .u8 (m.toNat : Int)] e)) src dst e ⟨w.heap.size, 0, none⟩ 1 [m] hs he hd (fun j hj => by
    have hj0 : j = 0 := by simpa using hj
    subst hj0
    rw [add_flat, cell_of_row _ _ _ _ _ _ (heap_alloc_new w _)]
    rfl)
  simpa using this
set_option maxHeartbeats 4000000 in
set_option maxRecDepth 20000 in
theorem whole_any (w : World) (A : Option Addr) (n c : Nat) (l : List Ent) (m : UInt8) (hr : Rd w w.heap.size 4 A n (entv l)) (hn : n ≤ 1048576) (hok : ∀ x ∈ l, (-9223372036854775808 ≤ x.seq ∧ x.seq ≤ 9223372036854775807) ∧ x.key.size ≤ 1048576 ∧ x.val.size ≤ 1048576)
    (hl : (blockB l).length ≤ 1099511627775) :
    Calls Try.prog 5 #[.slice A n c, .int .u8 (m.toNat : Int)] w fun e w' => e = .returned (.bool true) ∧ Below w.heap.size w w' := by
  go_enter Try.func5, Try.ntmps5
  go_wp2_with fail
  refine (blives_any _).mono ?_
  rintro e w1 ⟨rfl, hb1⟩
  go_wp2_with fail
  refine (enc_any _ A n c l ((hr.below hb1).mono hb1.size) (by omega) (fun x hx => ⟨(hok x hx).1, by have := (hok x hx).2; omega, by have := (hok x hx).2; omega⟩) (by omega)).mono ?_
  rintro e w2 ⟨he, hb2⟩
  have hb := bel hb1 hb2
  by_cases hR : rightE l
  · have HR := Lib.hid hR
    obtain ⟨S, hS⟩ : ∃ S : ByteArray, S = ⟨(blockB l).toArray⟩ := ⟨_, rfl⟩
    have HS : Hid (S.data.toList = blockB l) := Lib.hid (by rw [hS])
    have hsz : S.size = (blockB l).length := by rw [hS]; simp [ByteArray.size]
    have hcut : Hid (∀ k, k < S.size → decR ((S.extract 0 k).data.toList) = ([], 1)) := Lib.hid fun k hk => decR_no (by
      have e : (S.extract 0 k).data.toList = (blockB l).take k := by
        rw [← HS.out]
        simp [ByteArray.data_extract]
      rw [e]
      have hf := block_fine hR (fun x hx => (hok x hx).1) (by omega)
      exact block_cut hR hf.1 hf.2 (by omega) k (by omega))
    have hmo : Hid (decR ((S ++ ⟨#[m]⟩ : ByteArray).data.toList) = ([], 1)) := Lib.hid (decR_no (by
      have e : (S ++ ⟨#[m]⟩ : ByteArray).data.toList = blockB l ++ [m] := by
        rw [← HS.out]
        simp [ByteArray.data_append]
      rw [e]
      have hf := block_fine hR (fun x hx => (hok x hx).1) (by omega)
      exact block_more hR hf.1 hf.2 (by omega) m))
    have he' : e = .returned (.tuple #[.string S, .int .i64 0]) := by rw [he, encR_ok hR, hS]; rfl
    subst he'
    have hS40 : S.size ≤ 1099511627775 := by omega
    clear hS hR hsz hl hok hr hb1 hb2 he
    go_wp2
    go_loopw [7] (fun i wx => ∃ k : Nat, k ≤ S.size ∧ k ≤ 300 ∧ i = .int .i64 k ∧ Below w.heap.size w wx) (fun i _ => S.size - (intOf i).toNat)
    case atStart => exact ⟨0, Nat.zero_le _, by omega, rfl, hb⟩
    case round =>
      obtain ⟨k, hk, hk3, rfl, hbx⟩ := hrel
      clear hb
      by_cases hlt : k < S.size ∧ k < 300
      · obtain ⟨hlt, hl3⟩ := hlt
        have i1 : (k : Int) < 300 := by omega
        go_wp2_with fail
        refine (dec_any _ (S.extract 0 k) (by simp [ByteArray.size_extract]; omega)).mono ?_
        rintro e w3 ⟨v, he, _, hb3⟩
        have he' : e = .returned (.tuple #[v, .int .i64 1]) := by rw [he, hcut.out k hlt]; rfl
        subst he'
        clear he
        have hb4 := hbx.trans (hb3.mono hbx.size)
        go_wp2
        go_roundw
        case rel => exact ⟨k + 1, by omega, by omega, by go_num, hb4⟩
        case measure => simp [intOf]; omega
      · have hend : (k < S.size ∧ k = 300) ∨ k = S.size := by omega
        have hmore : Hid (decR ((S ++ ⟨#[m]⟩ : ByteArray).data.toList) = ([], 1)) := hmo
        have hsz1 : (S ++ ⟨#[m]⟩ : ByteArray).size ≤ 1099511627776 := by
          rw [ByteArray.size_append]
          have : (⟨#[m]⟩ : ByteArray).size = 1 := rfl
          omega
        rcases hend with ⟨hlt, rfl⟩ | rfl
        all_goals
          have hcv := conv_one (P := Try.prog) (w := wr) (src := 37) (dst := 9) m Try.underlying37 Try.underlying5 Try.underlying9
          go_wp2_with fail
          refine (dec_any _ _ ?_).mono ?_
          · exact hsz1
          rintro e w3 ⟨v, he, _, hb3⟩
          have he' : e = .returned (.tuple #[v, .int .i64 1]) := by rw [he, hmore.out]; rfl
          subst he'
          have hb4 := (hbx.alloc hbx.size (.cells #[.int .u8 (m.toNat : Int)] 5)).trans (hb3.mono (Nat.le_trans hbx.size (by simp)))
          clear he hcv
          go_wp2
          go_ret
          exact ⟨rfl, hb4⟩
  · have he' : e = .returned (.tuple #[.string ⟨#[]⟩, .int .i64 9]) := by rw [he, encR_no hR]; rfl
    subst he'
    clear hr hok hl he
    go_wp2
    go_ret
    exact ⟨rfl, hb⟩
end Go.Proofs.Ytaljpgaociihiaa
