/- Frames: the reference's Sum, and the two 'four's, walked. -/
import Derived.Test.YtanieolnaiihmaaJFrSum
namespace Go.Proofs.Ytanieolnaiihmaa
open Go.RowKit

theorem crc_take0 (x : ByteArray) (j : Nat) (h : j < x.size) : crc (x.data.toList.take (j + 1)) = citer 8 (crc (x.data.toList.take j) ^^^ (x[j]).toNat) := by
  have := crc_take [] x j h
  simpa using this
theorem cstep_odd (C : Nat) (h : C < 4294967296) (ho : C % 2 = 1) : bits BinOp.xor IntKind.u32 ((C / 2 : Nat) : Int) 3988292384 = (cstep C : Int) := by
  rw [show (3988292384 : Int) = ((poly : Nat) : Int) from rfl, bits_xor_u32_nat _ _ (by omega) (by unfold poly; omega)]
  unfold cstep
  rw [if_pos ho]
theorem cstep_even (C : Nat) (ho : C % 2 = 0) : C / 2 = cstep C := by
  unfold cstep
  rw [if_neg (by omega)]
set_option maxHeartbeats 1000000 in
set_option maxRecDepth 20000 in
theorem rsum_any (w : World) (x : ByteArray) (hs : x.size ≤ 140737488355328) :
    Calls Try.prog 103 #[.string x] w fun e w' => e = .returned (.int .u32 (sumB x.data.toList : Int)) ∧ w' = w := by
  go_enter Try.func103, Try.ntmps103
  go_wp2
  go_loop [3, 4] (fun r i => ∃ j : Nat, j ≤ x.size ∧ i = .int .i64 j ∧ r = .int .u32 (crc (x.data.toList.take j) : Int)) (fun _ i => x.size - (intOf i).toNat)
  case atStart => exact ⟨0, Nat.zero_le _, rfl, by simp; rfl⟩
  case round =>
    obtain ⟨j, hj, rfl, rfl⟩ := hrel
    by_cases hjlt : j < x.size
    · have hb := (x[j]).toNat_lt
      have hR := crc_lt (x.data.toList.take j)
      have hT2 := Lib.hid (crc_take0 x j hjlt)
      generalize crc (x.data.toList.take j) = R at *
      go_wp2
      go_loop [3, 5] (fun r i => ∃ m : Nat, m ≤ 8 ∧ i = .int .i64 m ∧ r = .int .u32 (citer m (R ^^^ (x[j]).toNat) : Int)) (fun _ i => 8 - (intOf i).toNat)
      case atStart => exact ⟨0, Nat.zero_le _, rfl, by rw [bits_xor_u32_nat R _ hR (by omega)]; rfl⟩
      case round =>
        obtain ⟨m, hm, rfl, rfl⟩ := hrel
        have hcl := citer_lt (xor_lt hR (by omega : (x[j]).toNat < 4294967296)) m
        by_cases hm8 : m < 8
        · obtain ⟨C, hC⟩ : ∃ C, C = citer m (R ^^^ (x[j]).toNat) := ⟨_, rfl⟩
          rw [← hC] at hcl ⊢
          have HC := Lib.hid hC
          clear hC
          rcases Nat.mod_two_eq_zero_or_one C with ho | ho
          · have he := cstep_even C ho
            go_wp2
            go_round
            case rel => exact ⟨m + 1, by omega, by go_num, congrArg (Value.int .u32) (by rw [citer, ← HC.out, ← he]; omega)⟩
            case measure => simp [intOf]; omega
          · have he := cstep_odd C hcl ho
            go_wp2
            go_round
            case rel => exact ⟨m + 1, by omega, by go_num, congrArg (Value.int .u32) (by rw [citer, ← HC.out, show ((C : Int) / 2) = ((C / 2 : Nat) : Int) by omega]; exact he)⟩
            case measure => simp [intOf]; omega
        · obtain rfl : m = 8 := by omega
          rw [← hT2.out]
          go_wp2
          go_round
          case rel => exact ⟨j + 1, by omega, by go_num, rfl⟩
          case measure => simp [intOf]; omega
    · obtain rfl : j = x.size := by omega
      rw [List.take_of_length_le (by simp)]
      have hx := crc_lt x.data.toList
      go_wp2
      go_ret
      exact ⟨congrArg (fun z => Ending.returned (Value.int .u32 z)) (show (4294967295 : Int) - _ = _ by unfold sumB; omega), rfl⟩

def fourB (n : Nat) : List UInt8 := [UInt8.ofNat (n / 16777216), UInt8.ofNat (n / 65536 % 256), UInt8.ofNat (n / 256 % 256), UInt8.ofNat (n % 256)]
theorem addr_add (b off j : Nat) : (⟨b, off, none⟩ : Addr).add j = ⟨b, off + j, none⟩ := by unfold Addr.add; split <;> simp_all
theorem conv_cells {P : Program} {w : World} {src dst e : TypeId} (l : List UInt8) (hs : P.underlying src = some (.slice e)) (he : P.underlying e = some (.int .u8)) (hd : P.underlying dst = some .string) (cs : Array Value) (n : Nat) (hcs : cs.toList = bytv l) (hn : n = l.length) :
    (convert src dst (.slice (some ⟨w.heap.size, 0, none⟩) n n)).run P (w.alloc (.cells cs e)) = .ok (.string ⟨l.toArray⟩) (w.alloc (.cells cs e)) := by
  subst hn
  have := run_convert_bytes_back (P := P) (w.alloc (.cells cs e)) src dst e ⟨w.heap.size, 0, none⟩ l.length l hs he hd (fun j hj => by
    rw [addr_add, cell_of_row _ _ _ _ _ _ (heap_alloc_new w _), ← Array.getElem?_toList, hcs]
    have := bytv_get l j hj
    simpa using this)
  simpa using this
theorem byte_lit (k : Nat) (z : Int) (h : z = ((k % 256 : Nat) : Int)) : Value.int .u8 z = .int .u8 ((UInt8.ofNat k).toNat : Int) := by
  rw [h, UInt8.toNat_ofNat']
theorem four_cells (n : Nat) (h : n < 4294967296) : (#[Value.int .u8 ((n : Int) / 16777216), Value.int .u8 ((n : Int) / 65536 % 256), Value.int .u8 ((n : Int) / 256 % 256), Value.int .u8 ((n : Int) % 256)] : Array Value).toList = bytv (fourB n) := by
  have h0 := byte_lit (n / 16777216) ((n : Int) / 16777216) (by omega)
  have h1 := byte_lit (n / 65536 % 256) ((n : Int) / 65536 % 256) (by omega)
  have h2 := byte_lit (n / 256 % 256) ((n : Int) / 256 % 256) (by omega)
  have h3 := byte_lit (n % 256) ((n : Int) % 256) (by omega)
  rw [h0, h1, h2, h3]
  rfl
set_option maxHeartbeats 400000 in
theorem four_any (w : World) (n : Nat) (h : n < 4294967296) :
    Calls Try.prog 72 #[.int .u32 (n : Int)] w fun e w' => e = .returned (.string ⟨(fourB n).toArray⟩) ∧ Below w.heap.size w w' := by
  have hcv := conv_cells (P := Try.prog) (w := w) (src := 38) (dst := 9) (e := 5) (fourB n) Try.underlying38 Try.underlying5 Try.underlying9 _ 4 (four_cells n h) rfl
  go_enter Try.func72, Try.ntmps72
  go_wp2
  go_ret
  exact ⟨rfl, (Below.refl _ _).alloc (Nat.le_refl _) _⟩
set_option maxHeartbeats 400000 in
theorem rfour_any (w : World) (n : Nat) (h : n < 4294967296) :
    Calls Try.prog 102 #[.int .u32 (n : Int)] w fun e w' => e = .returned (.string ⟨(fourB n).toArray⟩) ∧ Below w.heap.size w w' := by
  have hcv := conv_cells (P := Try.prog) (w := w) (src := 38) (dst := 9) (e := 5) (fourB n) Try.underlying38 Try.underlying5 Try.underlying9 _ 4 (four_cells n h) rfl
  go_enter Try.func102, Try.ntmps102
  go_wp2
  go_ret
  exact ⟨rfl, (Below.refl _ _).alloc (Nat.le_refl _) _⟩
end Go.Proofs.Ytanieolnaiihmaa
