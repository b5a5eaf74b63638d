/- Pack: the reader, walked. -/
import Derived.Test.YtanieolnaiihmaaBkRef
import Derived.Test.YtanieolnaiihmaaBkRead
namespace Go.Proofs.Ytanieolnaiihmaa
open Go.RowKit

/-- Block g holds a reader's text (T: the reader's type). -/
def Rdr (w : World) (T : TypeId) (g : Nat) (s : ByteArray) : Prop := w.heap[g]? = some (.cells #[.string s] T (0, 0))
section
variable {w w' : World} {T : TypeId} {g : Nat} {s s' : ByteArray}
theorem Rdr.lt (h : Rdr w T g s) : g < w.heap.size := (Array.getElem?_eq_some_iff.1 h).1
theorem Rdr.cell (h : Rdr w T g s) : w.cell? ⟨g, 0, none⟩ = some (.string s) := by rw [cell_of_row w g 0 _ _ _ h]; rfl
theorem Rdr.free (h : Rdr w T g s) : w.frozen? ⟨g, 0, none⟩ = false := frozen_of_row w g 0 _ _ h
theorem Rdr.new (w : World) (T : TypeId) (s : ByteArray) : Rdr (w.alloc (.cells #[.string s] T)) T w.heap.size s := heap_alloc_new w _
theorem Rdr.upd {S : Nat → Prop} (h : Rdr w T g s) (hu : Upd S w w') (hs : ¬ S g) : Rdr w' T g s := (hu.block g h.lt hs).trans h
theorem Rdr.set (h : Rdr w T g s) (s' : ByteArray) : Rdr (w.setCell ⟨g, 0, none⟩ (.string s')) T g s' := by
  have := heap_setCell_same w g 0 _ _ (.string s') h
  exact this
theorem upd_set (w : World) (g : Nat) (u : Value) : Upd (fun k => k = g) w (w.setCell ⟨g, 0, none⟩ u) := (Upd.refl (fun k => k = g) w).setCell ⟨g, 0, none⟩ rfl u
end
/-- What a reader's call leaves: the text behind it. -/
def Took (w : World) (T : TypeId) (g : Nat) (r : List UInt8) (w' : World) : Prop := ∃ s' : ByteArray, s'.data.toList = r ∧ Rdr w' T g s' ∧ Upd (fun k => k = g) w w'
theorem extract_end (s : ByteArray) (k : Nat) : (s.extract k s.size).data.toList = s.data.toList.drop k := by
  simp [ByteArray.data_extract]
  exact List.take_of_length_le (by simp)

set_option maxHeartbeats 1000000 in
set_option maxRecDepth 20000 in
theorem rdnum_any (w : World) (g : Nat) (s : ByteArray) (h : Rdr w 155 g s) (hs : s.size ≤ 140737488351232) :
    Calls Try.prog 98 #[.pointer (some ⟨g, 0, none⟩)] w fun e w' => e = .returned (.tuple #[.int .u64 ((rdNum s.data.toList).1 : Int), .int .i64 ((rdNum s.data.toList).2.1 : Int)]) ∧ Took w 155 g (rdNum s.data.toList).2.2 w' := by
  have c0 := h.cell
  have f0 := h.free
  go_enter Try.func98, Try.ntmps98
  go_wp2
  go_loop [4, 5] (fun q i => ∃ k n : Nat, k ≤ 10 ∧ k ≤ s.size ∧ i = .int .i64 k ∧ q = .int .u64 (n : Int) ∧ n < 128 ^ k ∧ Hid (numR 0 0 s.data.toList = numR k n (s.data.toList.drop k))) (fun _ i => 10 - (intOf i).toNat)
  case atStart => exact ⟨0, 0, by omega, by omega, rfl, rfl, by simp, by simp [Hid]⟩
  case round =>
    obtain ⟨k, n, hk10, hks, rfl, rfl, hn, heq⟩ := hrel
    have hm : (if (s.size : Int) < 10 then (s.size : Int) else 10) = ((min s.size 10 : Nat) : Int) := by split <;> omega
    generalize hM : min s.size 10 = M at hm
    have hM1 : M ≤ s.size := by omega
    have hM2 : M ≤ 10 := by omega
    have hM3 := Lib.hid hM
    clear hM
    by_cases hlt : k < M
    · have hks' : k < s.size := by omega
      obtain ⟨c, hc⟩ : ∃ c : UInt8, s[k] = c := ⟨_, rfl⟩
      have hdr := drop_cons s k hks'
      rw [hc] at hdr
      rw [hdr] at heq
      have HD := Lib.hid hdr
      clear hdr
      have hc256 := c.toNat_lt
      have hk10' : k < 10 := by omega
      by_cases hbad : (k = 9 ∧ 1 < c.toNat) ∨ (0 < k ∧ c.toNat = 0)
      · have hno := Lib.hid (rdNum_no (heq.out.trans (numR_bad (.inr hbad))))
        have hw0 : Took w 155 g s.data.toList w := ⟨s, rfl, h, Upd.refl _ _⟩
        have HW := Lib.hid hw0
        clear hw0 heq
        rcases hbad with ⟨h9, h1⟩ | ⟨hp, h0⟩
        · subst h9
          have h1' : (1 : Int) < (c.toNat : Int) := by omega
          go_wp2
          go_ret2
          exact ⟨ret_two (by rw [hno.out]; rfl) (by rw [hno.out]; rfl), by rw [hno.out]; exact HW.out⟩
        · have h0' : ((c.toNat : Int) == 0) = true := by rw [beq_iff_eq]; omega
          have h1' : ¬ (1 : Int) < (c.toNat : Int) := by omega
          have hp' : (0 : Int) < (k : Int) := by omega
          have hcz : (c.toNat : Int) < 128 := by omega
          by_cases h9 : k = 9
          · subst h9
            go_wp2
            go_ret2
            exact ⟨ret_two (by rw [hno.out]; rfl) (by rw [hno.out]; rfl), by rw [hno.out]; exact HW.out⟩
          · have hk9 : ((k : Int) == 9) = false := by rw [beq_eq_false_iff_ne]; omega
            go_wp2
            go_ret2
            exact ⟨ret_two (by rw [hno.out]; rfl) (by rw [hno.out]; rfl), by rw [hno.out]; exact HW.out⟩
      · obtain ⟨hor, hlt64⟩ := or_step n k c.toNat hn (by omega) (fun h => by
          rcases Nat.lt_or_ge 1 c.toNat with h1 | h1
          · exact absurd (.inl ⟨h, h1⟩) hbad
          · exact h1) c.toNat_lt
        have hstep := step_lt n k c.toNat hn
        obtain ⟨n', hn'⟩ : ∃ n', n' = n + c.toNat % 128 * 128 ^ k := ⟨_, rfl⟩
        rw [← hn'] at hor hlt64 hstep
        have HN := Lib.hid hn'
        have b1 : ¬ (k = 9 ∧ (1 : Int) < (c.toNat : Int)) := fun h => hbad (.inl ⟨h.1, by omega⟩)
        have b2 : 0 < k → ((c.toNat : Int) == 0) = false := fun h => by rw [beq_eq_false_iff_ne]; intro h0; exact hbad (.inr ⟨h, by omega⟩)
        by_cases hcz : c.toNat < 128
        · have hyes := Lib.hid (rdNum_ok (heq.out.trans (numR_end hk10' hbad hcz)))
          rw [← hn'] at hyes
          have HW : Hid (Took w 155 g (s.data.toList.drop (k + 1)) (w.setCell ⟨g, 0, none⟩ (.string (s.extract (k + 1) s.size)))) := ⟨_, extract_end s (k + 1), h.set _, upd_set w g _⟩
          clear hn' heq hbad
          by_cases h0 : k = 0
          · subst h0
            rw [show 7 * 0 = 0 from rfl, Int.pow_zero, Int.mul_one] at hor
            go_wp2
            go_ret2
            exact ⟨ret_two (by rw [hyes.out]) (by rw [hyes.out]; rfl), by rw [hyes.out]; exact HW.out⟩
          · have b3 := b2 (by omega)
            have hp' : (0 : Int) < (k : Int) := by omega
            clear b2
            by_cases h9 : k = 9
            · have b4 : ¬ (1 : Int) < (c.toNat : Int) := fun h => b1 ⟨h9, h⟩
              subst h9
              rw [show (2 : Int) ^ (7 * 9) = 9223372036854775808 from rfl] at hor
              clear b1
              go_wp2
              go_ret2
              exact ⟨ret_two (by rw [hyes.out]) (by rw [hyes.out]; rfl), by rw [hyes.out]; exact HW.out⟩
            · have hk9 : ((k : Int) == 9) = false := by rw [beq_eq_false_iff_ne]; omega
              clear b1
              go_wp2
              go_ret2
              exact ⟨ret_two (by rw [hyes.out]) (by rw [hyes.out]; rfl), by rw [hyes.out]; exact HW.out⟩
        · have hgo := Lib.hid (heq.out.trans (numR_go hk10' hbad hcz))
          rw [← hn'] at hgo
          have hcz' : (128 : Int) ≤ (c.toNat : Int) := by omega
          have h9 : k ≠ 9 := fun h => b1 ⟨h, by omega⟩
          have hk9 : ((k : Int) == 9) = false := by rw [beq_eq_false_iff_ne]; omega
          clear hn' heq hbad b1
          by_cases h0 : k = 0
          · subst h0
            rw [show 7 * 0 = 0 from rfl, Int.pow_zero, Int.mul_one] at hor
            go_wp2
            go_round
            case rel => exact ⟨1, n', by omega, by omega, by go_num, rfl, hstep, hgo.out⟩
            case measure => simp [intOf]
          · have b3 := b2 (by omega)
            have hp' : (0 : Int) < (k : Int) := by omega
            clear b2
            go_wp2
            go_round
            case rel => exact ⟨k + 1, n', by omega, by omega, by go_num, rfl, hstep, hgo.out⟩
            case measure => simp [intOf]; omega
    · have hno : Hid (rdNum s.data.toList = (0, 1, s.data.toList)) := by
        refine rdNum_no (heq.out.trans ?_)
        have := hM3.out
        by_cases h10 : k = 10
        · subst h10; exact numR_ten _
        · rw [List.drop_eq_nil_of_le (by simp; omega)]; rfl
      have HW : Hid (Took w 155 g s.data.toList w) := ⟨s, rfl, h, Upd.refl _ _⟩
      clear heq
      go_wp2
      go_ret2
      exact ⟨ret_two (by rw [hno.out]; rfl) (by rw [hno.out]; rfl), by rw [hno.out]; exact HW.out⟩
end Go.Proofs.Ytanieolnaiihmaa
