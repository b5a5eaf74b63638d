/- Pack: the reference's reader, walked. -/
import Derived.Test.YtanieolnaiihmaaBkRd2
import Derived.Deep.RegionWith
import Derived.Deep.RegionHeld3
namespace Go.Proofs.Ytanieolnaiihmaa
open Go.RowKit

theorem pow128_succ (i : Nat) : ((128 ^ i : Nat) : Int) * 128 = ((128 ^ (i + 1) : Nat) : Int) := by rw [Nat.pow_succ, Int.natCast_mul]; rfl
theorem pow128_le (i : Nat) (h : i ≤ 9) : 128 ^ i ≤ 9223372036854775808 := Nat.le_trans (Nat.pow_le_pow_right (by omega) h) (by omega)
def p128 (i : Nat) : Nat := 128 ^ i
theorem p128_zero : p128 0 = 1 := rfl
theorem p128_succ (i : Nat) : (p128 i : Int) * 128 = (p128 (i + 1) : Int) := pow128_succ i
theorem p128_le (i : Nat) (h : i ≤ 9) : p128 i ≤ 9223372036854775808 := pow128_le i h
theorem add_step (n k c : Nat) (hn : n < 128 ^ k) (hk : k ≤ 9) (h9 : k = 9 → c ≤ 1) :
    IntKind.u64.wrap ((n : Int) + IntKind.u64.wrap ((c : Int) % 128 * (p128 k : Int))) = ((n + c % 128 * 128 ^ k : Nat) : Int) ∧ n + c % 128 * 128 ^ k < 18446744073709551616 := by
  have hb : c % 128 * 128 ^ k ≤ 9223372036854775808 := by
    by_cases h : k = 9
    · subst h
      have := h9 rfl
      have : c % 128 * 128 ^ 9 ≤ 1 * 128 ^ 9 := Nat.mul_le_mul_right _ (by omega)
      omega
    · have h1 : c % 128 * 128 ^ k ≤ 128 * 128 ^ k := Nat.mul_le_mul_right _ (by omega)
      have h2 : 128 * 128 ^ k = 128 ^ (k + 1) := by rw [Nat.pow_succ, Nat.mul_comm]
      have h3 := pow128_le (k + 1) (by omega)
      omega
  have hn9 : n < 9223372036854775808 := Nat.lt_of_lt_of_le hn (pow128_le k hk)
  have e1 : (c : Int) % 128 * (p128 k : Int) = ((c % 128 * 128 ^ k : Nat) : Int) := by rw [Int.natCast_mul, Int.natCast_emod]; rfl
  have e2 : IntKind.u64.wrap ((c % 128 * 128 ^ k : Nat) : Int) = ((c % 128 * 128 ^ k : Nat) : Int) := IntWalk.u64_in _ (by omega)
  rw [e1, e2, ← Int.natCast_add, IntWalk.u64_in _ (by omega)]
  exact ⟨rfl, by omega⟩
theorem take_ne (s : ByteArray) (k : Nat) (h0 : 0 < k) (hk : k ≤ s.size) (h : s.data.toList.take k = []) : False := by
  have h1 := congrArg List.length h
  rw [List.length_take] at h1
  have h2 : s.data.toList.length = s.size := by simp
  rw [h2, List.length_nil] at h1
  omega
theorem upd_drew {S : Nat → Prop} {w w2 : World} (hb : Below w.drew.heap.size w.drew w2) : Upd S w w2 := ⟨hb.os, hb.tape, hb.output, hb.size, fun k hk _ => hb.block k hk⟩
theorem took_same {w w2 : World} {T : TypeId} {g : Nat} {s : ByteArray} (h : Rdr w T g s) (hb : Below w.drew.heap.size w.drew w2) : Took w T g s.data.toList w2 :=
  ⟨s, rfl, h.upd (upd_drew (S := fun _ => False) hb) (fun h => h), upd_drew hb⟩
theorem took_set {w w2 : World} {T : TypeId} {g : Nat} {s : ByteArray} (h : Rdr w T g s) (hb : Below w.drew.heap.size w.drew w2) (k : Nat) : Took w T g (s.data.toList.drop k) (w2.setCell ⟨g, 0, none⟩ (.string (s.extract k s.size))) :=
  ⟨_, extract_end s k, (h.upd (upd_drew (S := fun _ => False) hb) (fun h => h)).set _, (upd_drew hb).trans (upd_set w2 g _) (fun _ _ h => h)⟩
theorem take_one (s : ByteArray) (k : Nat) (h : k < s.size) {c : UInt8} (hc : s[k] = c) : s.data.toList.take (k + 1) = s.data.toList.take k ++ [c] := by rw [take_snoc s k h, hc]

set_option maxHeartbeats 1000000 in
set_option maxRecDepth 20000 in
theorem rrdnum_any (w : World) (g : Nat) (s : ByteArray) (h : Rdr w 141 g s) (hs : s.size ≤ 140737488351232) :
    Calls Try.prog 85 #[.pointer (some ⟨g, 0, none⟩)] w fun e w' => e = .returned (.tuple #[.int .u64 ((rdNum s.data.toList).1 : Int), .int .i64 ((rdNum s.data.toList).2.1 : Int)]) ∧ Took w 141 g (rdNum s.data.toList).2.2 w' := by
  have c0 := h.cell
  have f0 := h.free
  go_enter Try.func85, Try.ntmps85
  go_wp2
  go_loop [4, 5] (fun q i => ∃ k n : Nat, k ≤ 10 ∧ k ≤ s.size ∧ i = .int .i64 k ∧ q = .int .u64 (n : Int) ∧ n < 128 ^ k ∧ Hid (numR 0 0 s.data.toList = numR k n (s.data.toList.drop k)) ∧ Hid (n = val (s.data.toList.take k) ∧ ∀ b ∈ s.data.toList.take k, 128 ≤ b.toNat)) (fun _ i => 10 - (intOf i).toNat)
  case atStart => exact ⟨0, 0, by omega, by omega, rfl, rfl, by simp, by simp [Hid], by simp [Hid, val]⟩
  case round =>
    obtain ⟨k, n, hk10, hks, rfl, rfl, hn, heq, hval⟩ := hrel
    by_cases hlt : k < 10 ∧ k < s.size
    · obtain ⟨hk10', hks'⟩ := hlt
      obtain ⟨c, hc⟩ : ∃ c : UInt8, s[k] = c := ⟨_, rfl⟩
      have hdr := drop_cons s k hks'
      rw [hc] at hdr
      rw [hdr] at heq
      have HD := Lib.hid hdr
      have HTK := Lib.hid (take_one s k hks' hc)
      clear hdr
      have hc256 := c.toNat_lt
      by_cases hb1 : k = 9 ∧ 1 < c.toNat
      · have hno := Lib.hid (rdNum_no (heq.out.trans (numR_bad (.inr (.inl hb1)))))
        have HW : Hid (Took w 141 g s.data.toList w) := ⟨s, rfl, h, Upd.refl _ _⟩
        clear heq
        obtain ⟨h9, h1⟩ := hb1
        subst h9
        have h1' : (1 : Int) < (c.toNat : Int) := by omega
        go_wp2
        go_ret2
        exact ⟨ret_two (by rw [hno.out]; rfl) (by rw [hno.out]; rfl), by rw [hno.out]; exact HW.out⟩
      · have b1 : ¬ (k = 9 ∧ (1 : Int) < (c.toNat : Int)) := fun h => hb1 ⟨h.1, by omega⟩
        have hn9 : n < 9223372036854775808 := Nat.lt_of_lt_of_le hn (p128_le k (by omega))
        have hadd := add_step n k c.toNat hn (by omega) (fun h => by
          rcases Nat.lt_or_ge 1 c.toNat with h1 | h1
          · exact absurd ⟨h, h1⟩ hb1
          · exact h1)
        have hstep := step_lt n k c.toNat hn
        obtain ⟨n', hn'⟩ : ∃ n', n' = n + c.toNat % 128 * 128 ^ k := ⟨_, rfl⟩
        rw [← hn'] at hadd hstep
        obtain ⟨hadd, hlt64⟩ := hadd
        have hval' : Hid (n' = val (s.data.toList.take (k + 1))) := by
          have hl : (s.data.toList.take k).length = k := by simp; omega
          rw [HTK.out, val_snoc, hl, ← hval.out.1]; exact hn'
        have h9c : ((k : Int) == 9) = false ∨ (9 = k ∧ ¬ (1 : Int) < (c.toNat : Int)) := by
          by_cases h9 : k = 9
          · right; exact ⟨h9.symm, fun h => b1 ⟨h9, h⟩⟩
          · left; rw [beq_eq_false_iff_ne]; omega
        have HN := Lib.hid hn'
        have hle10 : (numB n').length ≤ 10 := numB_len10 n' hlt64
        clear hn' b1
        rcases h9c with hk9 | ⟨rfl, hc1⟩
        · go_wp2
          go_loop [7, 8] (fun u i => ∃ j : Nat, j ≤ k ∧ i = .int .i64 j ∧ u = .int .u64 (p128 j : Int)) (fun _ i => k - (intOf i).toNat)
          case atStart => exact ⟨0, by omega, rfl, by rw [p128_zero]; rfl⟩
          case round =>
            obtain ⟨j, hj, rfl, rfl⟩ := hrel
            have hpl := p128_le j (by omega)
            by_cases hjk : j < k
            · have hps := Lib.hid (p128_succ j)
              have hpl2 := p128_le (j + 1) (by omega)
              have hpi : (p128 j : Int) * 128 ≤ 9223372036854775808 := by rw [hps.out]; omega
              go_wp2
              go_round
              case rel => exact ⟨j + 1, by omega, by go_num, by rw [hps.out]⟩
              case measure => simp [intOf]; omega
            · obtain rfl : j = k := by omega
              by_cases hcz : c.toNat < 128
              · have w1 : IntKind.i64.wrap ((j : Int) + 1) = (j : Int) + 1 := IntWalk.i64_in _ (by omega)
                have w2 : (0 : Int) ≤ (j : Int) + 1 := by omega
                have w3 : ((j : Int) + 1).toNat = j + 1 := by omega
                have w4 : (j : Int) + 1 ≤ (s.size : Int) := by omega
                have w5 : j + 1 ≤ s.size := by omega
                have hpre : numB n' = s.data.toList.take (j + 1) ↔ (s.data.toList.take j = [] ∨ c.toNat ≠ 0) := by
                  have h1 := numB_val (s.data.toList.take j) c hval.out.2 hcz
                  rw [← HTK.out, ← hval'.out] at h1
                  exact h1
                have hex : (s.extract 0 (j + 1)).toList = s.data.toList.take (j + 1) := by rw [ByteArray.toList_eq]; simp [ByteArray.data_extract]
                by_cases hz : 0 < j ∧ c.toNat = 0
                · have hcmp : (numB n' == (s.extract 0 (j + 1)).toList) = false := by
                    rw [beq_eq_false_iff_ne, hex]
                    intro h
                    rcases hpre.1 h with h | h
                    · exact take_ne s _ hz.1 (by omega) h
                    · exact h hz.2
                  have hno := Lib.hid (rdNum_no (heq.out.trans (numR_bad (.inr (.inr hz)))))
                  clear heq hval hpre hex hz
                  go_wp2
                  go_region_with (go_at_call 54; refine (rnum_any _ n' hlt64).mono ?_; rintro e w2 ⟨rfl, hb2⟩; have hc2 : w2.cell? ⟨g, 0, none⟩ = some (.string s) := (hb2.cell (p := ⟨g, 0, none⟩) h.lt).trans c0; have HW2 := Lib.hid (took_same h hb2))
                  all_goals go_wp2
                  all_goals go_ret2
                  all_goals exact ⟨ret_two (by rw [hno.out]; rfl) (by rw [hno.out]; rfl), by rw [hno.out]; exact Hid.out (by assumption)⟩
                · have hcmp : (numB n' == (s.extract 0 (j + 1)).toList) = true := by
                    rw [beq_iff_eq, hex]
                    refine hpre.2 ?_
                    by_cases h0 : 0 < j
                    · right; intro h; exact hz ⟨h0, h⟩
                    · left; rw [show j = 0 by omega]; rfl
                  have hyes := Lib.hid (rdNum_ok (heq.out.trans (numR_end (by omega) (by rintro (h | h); exact hb1 h; exact hz h) hcz)))
                  rw [← HN.out] at hyes
                  clear heq hval hpre hex hz
                  go_wp2
                  go_region_with (go_at_call 54; refine (rnum_any _ n' hlt64).mono ?_; rintro e w2 ⟨rfl, hb2⟩; have hc2 : w2.cell? ⟨g, 0, none⟩ = some (.string s) := (hb2.cell (p := ⟨g, 0, none⟩) h.lt).trans c0; have hf2 : w2.frozen? ⟨g, 0, none⟩ = false := (hb2.frozen (p := ⟨g, 0, none⟩) h.lt).trans f0; have HW2 := Lib.hid (took_set h hb2 (j + 1)))
                  all_goals go_wp2
                  all_goals go_ret2
                  all_goals exact ⟨ret_two (by rw [hyes.out]) (by rw [hyes.out]; rfl), by rw [hyes.out]; exact Hid.out (by assumption)⟩
              · have hgo := Lib.hid (heq.out.trans (numR_go hk10' (by rintro (h | ⟨_, h⟩); exact hb1 h; omega) hcz))
                have hcz' : (128 : Int) ≤ (c.toNat : Int) := by omega
                have hall : Hid (∀ b ∈ s.data.toList.take (j + 1), 128 ≤ b.toNat) := by
                  rw [HTK.out]
                  intro b hb
                  rcases List.mem_append.1 hb with hb | hb
                  · exact hval.out.2 b hb
                  · simp at hb; subst hb; omega
                rw [← HN.out] at hgo
                clear heq hval
                go_wp2
                go_round
                case rel => exact ⟨j + 1, n', by omega, by omega, by go_num, rfl, hstep, hgo.out, hval'.out, hall.out⟩
                case measure => simp [intOf]; omega
        · have hcz1 : c.toNat ≤ 1 := by omega
          go_wp2
          go_loop [7, 8] (fun u i => ∃ j : Nat, j ≤ 9 ∧ i = .int .i64 j ∧ u = .int .u64 (p128 j : Int)) (fun _ i => 9 - (intOf i).toNat)
          case atStart => exact ⟨0, by omega, rfl, by rw [p128_zero]; rfl⟩
          case round =>
            obtain ⟨j, hj, rfl, rfl⟩ := hrel
            have hpl := p128_le j (by omega)
            by_cases hjk : j < 9
            · have hps := Lib.hid (p128_succ j)
              have hpl2 := p128_le (j + 1) (by omega)
              have hpi : (p128 j : Int) * 128 ≤ 9223372036854775808 := by rw [hps.out]; omega
              go_wp2
              go_round
              case rel => exact ⟨j + 1, by omega, by go_num, by rw [hps.out]⟩
              case measure => simp [intOf]; omega
            · obtain rfl : j = 9 := by omega
              by_cases hcz : c.toNat < 128
              · have w1 : IntKind.i64.wrap ((10 : Int)) = (10 : Int) := IntWalk.i64_in _ (by omega)
                have w2 : (0 : Int) ≤ (10 : Int) := by omega
                have w3 : (10 : Int).toNat = 10 := by omega
                have w4 : (10 : Int) ≤ (s.size : Int) := by omega
                have w5 : 10 ≤ s.size := by omega
                have hpre : numB n' = s.data.toList.take 10 ↔ (s.data.toList.take 9 = [] ∨ c.toNat ≠ 0) := by
                  have h1 := numB_val (s.data.toList.take 9) c hval.out.2 hcz
                  rw [← HTK.out, ← hval'.out] at h1
                  exact h1
                have hex : (s.extract 0 10).toList = s.data.toList.take 10 := by rw [ByteArray.toList_eq]; simp [ByteArray.data_extract]
                by_cases hz : 0 < 9 ∧ c.toNat = 0
                · have hcmp : (numB n' == (s.extract 0 10).toList) = false := by
                    rw [beq_eq_false_iff_ne, hex]
                    intro h
                    rcases hpre.1 h with h | h
                    · exact take_ne s _ hz.1 (by omega) h
                    · exact h hz.2
                  have hno := Lib.hid (rdNum_no (heq.out.trans (numR_bad (.inr (.inr hz)))))
                  clear heq hval hpre hex hz
                  go_wp2
                  go_region_with (go_at_call 54; refine (rnum_any _ n' hlt64).mono ?_; rintro e w2 ⟨rfl, hb2⟩; have hc2 : w2.cell? ⟨g, 0, none⟩ = some (.string s) := (hb2.cell (p := ⟨g, 0, none⟩) h.lt).trans c0; have HW2 := Lib.hid (took_same h hb2))
                  all_goals go_wp2
                  all_goals go_ret2
                  all_goals exact ⟨ret_two (by rw [hno.out]; rfl) (by rw [hno.out]; rfl), by rw [hno.out]; exact Hid.out (by assumption)⟩
                · have hcmp : (numB n' == (s.extract 0 10).toList) = true := by
                    rw [beq_iff_eq, hex]
                    refine hpre.2 ?_
                    by_cases h0 : 0 < 9
                    · right; intro h; exact hz ⟨h0, h⟩
                    · left; rw [show 9 = 0 by omega]; rfl
                  have hyes := Lib.hid (rdNum_ok (heq.out.trans (numR_end (by omega) (by rintro (h | h); exact absurd h.2 (by omega); exact hz h) hcz)))
                  rw [← HN.out] at hyes
                  clear heq hval hpre hex hz
                  go_wp2
                  go_region_with (go_at_call 54; refine (rnum_any _ n' hlt64).mono ?_; rintro e w2 ⟨rfl, hb2⟩; have hc2 : w2.cell? ⟨g, 0, none⟩ = some (.string s) := (hb2.cell (p := ⟨g, 0, none⟩) h.lt).trans c0; have hf2 : w2.frozen? ⟨g, 0, none⟩ = false := (hb2.frozen (p := ⟨g, 0, none⟩) h.lt).trans f0; have HW2 := Lib.hid (took_set h hb2 10))
                  all_goals go_wp2
                  all_goals go_ret2
                  all_goals exact ⟨ret_two (by rw [hyes.out]) (by rw [hyes.out]; rfl), by rw [hyes.out]; exact Hid.out (by assumption)⟩
              · omega
    · have hno : Hid (rdNum s.data.toList = (0, 1, s.data.toList)) := by
        refine rdNum_no (heq.out.trans ?_)
        by_cases h10 : k = 10
        · subst h10; exact numR_ten _
        · rw [List.drop_eq_nil_of_le (by simp; omega)]; rfl
      have HW : Hid (Took w 141 g s.data.toList w) := ⟨s, rfl, h, Upd.refl _ _⟩
      clear heq hval
      by_cases h10 : k < 10
      · have hks' : ¬ k < s.size := fun h => hlt ⟨h10, h⟩
        clear hlt
        go_wp2
        go_ret2
        exact ⟨ret_two (by rw [hno.out]; rfl) (by rw [hno.out]; rfl), by rw [hno.out]; exact HW.out⟩
      · clear hlt
        go_wp2
        go_ret2
        exact ⟨ret_two (by rw [hno.out]; rfl) (by rw [hno.out]; rfl), by rw [hno.out]; exact HW.out⟩
end Go.Proofs.Ytanieolnaiihmaa
