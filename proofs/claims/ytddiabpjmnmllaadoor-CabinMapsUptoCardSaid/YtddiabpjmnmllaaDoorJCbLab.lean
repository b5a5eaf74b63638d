/- Cabins: labels, walked. -/
import Derived.Test.YtddiabpjmnmllaaDoorCbShIt
import Derived.Test.YtddiabpjmnmllaaDoorJCbBl2
import Derived.Test.YtddiabpjmnmllaaDoorJCbFind
import Derived.Test.YtddiabpjmnmllaaDoorJFtSame
import Derived.BigQuiet
namespace Go.Proofs.YtddiabpjmnmllaaDoor
open Go.RowKit Go.Lib
/-- A seat's label. -/
def labB (s : MSeat) : List UInt8 := if 1 ≤ s.num ∧ s.num ≤ 99 ∧ 65 ≤ s.ltr.toNat ∧ s.ltr.toNat ≤ 90 then Lib.decDigits s.num.toNat ++ [s.ltr] else [45]
theorem enc_letter (c : UInt8) (h : 65 ≤ c.toNat ∧ c.toNat ≤ 90) : Utf8.encode (c.toNat : Int) = ⟨#[c]⟩ := by
  have key : ∀ i : Fin 128, Utf8.encode (((UInt8.ofNat i.val).toNat : Nat) : Int) = ⟨#[UInt8.ofNat i.val]⟩ := by decide +kernel
  have := key ⟨c.toNat, by omega⟩
  simpa using this
theorem ba_snoc (l : List UInt8) (c : UInt8) : (⟨l.toArray⟩ : ByteArray) ++ ⟨#[c]⟩ = ⟨(l ++ [c]).toArray⟩ := by
  apply ByteArray.ext
  simp
theorem dec_len : ∀ k, k < 100 → (Lib.decDigits k).length ≤ 2 := by
  have : ∀ i : Fin 100, (Lib.decDigits i.val).length ≤ 2 := by decide +kernel
  intro k hk
  exact this ⟨k, hk⟩
set_option maxHeartbeats 4000000 in
set_option maxRecDepth 20000 in
theorem label_any (w : World) (s : MSeat) : Calls Tryd.prog 35 #[.agg #[.int .i64 s.num, .int .u8 (s.ltr.toNat : Int)]] w fun e w' => e = .returned (.string ⟨(labB s).toArray⟩) ∧ Below w.heap.size w w' := by
  obtain ⟨sn, sl⟩ := s
  simp only
  obtain ⟨E, hE⟩ : ∃ E, labB ⟨sn, sl⟩ = E := ⟨_, rfl⟩
  rw [hE]
  have HE := Lib.hid hE
  clear hE
  obtain ⟨W, hW⟩ : ∃ W, W = w.alloc (.cells #[.int .i64 sn, .int .u8 (sl.toNat : Int)] 32) := ⟨_, rfl⟩
  have hbW : Below w.heap.size w W := by rw [hW]; exact (Below.refl _ w).alloc (Nat.le_refl _) _
  have bx : W.heap[w.heap.size]? = some (.cells #[.int .i64 sn, .int .u8 (sl.toNat : Int)] 32 (0, 0)) := by rw [hW]; exact heap_alloc_new w _
  have x0 : W.cell? ⟨w.heap.size, 0, none⟩ = some (.int .i64 sn) := by rw [cell_of_row _ _ 0 _ _ _ bx]; rfl
  have x1 : W.cell? ⟨w.heap.size, 1, none⟩ = some (.int .u8 (sl.toNat : Int)) := by rw [cell_of_row _ _ 1 _ _ _ bx]; rfl
  have HBW := Lib.hid hbW
  obtain ⟨r, hr⟩ : ∃ r, (decide (1 ≤ sn) && decide (sn ≤ 99)) = r := ⟨_, rfl⟩
  have HC := Lib.hid (btw_any W sn 1 99 r hr)
  clear bx hbW
  go_enter Tryd.func35, Tryd.ntmps35
  go_wp2_with fail
  rw [← hW]
  clear hW
  refine HC.out.mono ?_
  rintro e w2 ⟨rfl, hw2⟩
  subst hw2
  clear HC
  cases r with
  | false =>
    have HF : Hid (E = [45]) := Lib.hid (by
      rw [← HE.out]; unfold labB
      rw [if_neg (fun h => by simp only at h; rw [decide_eq_true h.1, decide_eq_true h.2.1] at hr; cases hr)])
    clear hr
    go_wp2
    go_ret
    exact ⟨ret_str (by rw [HF.out]), HBW.out⟩
  | true =>
    simp only [Bool.and_eq_true, decide_eq_true_eq] at hr
    by_cases hl : (sl.toNat : Int) < 65
    · have HF : Hid (E = [45]) := Lib.hid (by
        rw [← HE.out]; unfold labB
        rw [if_neg (fun h => by simp only at h; omega)])
      have hd : decide ((sl.toNat : Int) < 65) = true := decide_eq_true hl
      clear hr
      go_wp2
      go_ret
      exact ⟨ret_str (by rw [HF.out]), HBW.out⟩
    · have hd : decide ((sl.toNat : Int) < 65) = false := decide_eq_false hl
      by_cases hg : (90 : Int) < (sl.toNat : Int)
      · have HF : Hid (E = [45]) := Lib.hid (by
          rw [← HE.out]; unfold labB
          rw [if_neg (fun h => by simp only at h; omega)])
        have hd2 : decide ((90 : Int) < (sl.toNat : Int)) = true := decide_eq_true hg
        clear hr
        go_wp2
        go_ret
        exact ⟨ret_str (by rw [HF.out]), HBW.out⟩
      · have hd2 : decide ((90 : Int) < (sl.toNat : Int)) = false := decide_eq_false hg
        obtain ⟨k, rfl⟩ : ∃ k : Nat, sn = (k : Int) := ⟨sn.toNat, by omega⟩
        have hk : k < 100 := by omega
        have HF : Hid (E = Lib.decDigits k ++ [sl]) := Lib.hid (by
          rw [← HE.out]; unfold labB
          rw [if_pos (by simp only; omega)]
          simp)
        have henc := enc_letter sl (by omega)
        have hw32 : IntKind.i32.wrap (sl.toNat : Int) = (sl.toNat : Int) := by have := sl.toNat_lt; rw [IntKind.wrap_i32]; omega
        have hdl := dec_len k hk
        have HIT := Lib.hid (fun (V : World) => Tryd.strconv_Itoa_small k hk V)
        obtain ⟨D, hD⟩ : ∃ D, Lib.decDigits k = D := ⟨_, rfl⟩
        rw [hD] at HF hdl HIT
        have hadd : ¬ 9223372036854775807 < (⟨D.toArray⟩ : ByteArray).size + (⟨#[sl]⟩ : ByteArray).size := by
          show ¬ 9223372036854775807 < D.toArray.size + 1
          simp; omega
        clear hr hD
        go_wp2
        go_quiet (first | (go_at_call 52; exact Calls.quiet_of_same (HIT.out _)) | (go_at_call 52; exact Calls.quiet_of_same ((HIT.out _).mono fun _ _ h => ⟨h.1, h.2.symm⟩)))
        go_wp2
        go_ret
        exact ⟨ret_str (by rw [HF.out, ba_snoc]), bel_drewN HBW.out _⟩
set_option maxHeartbeats 4000000 in
set_option maxRecDepth 20000 in
theorem rlabel_any (w : World) (s : MSeat) : Calls Tryd.prog 36 #[.agg #[.int .i64 s.num, .int .u8 (s.ltr.toNat : Int)]] w fun e w' => e = .returned (.string ⟨(labB s).toArray⟩) ∧ Below w.heap.size w w' := by
  obtain ⟨sn, sl⟩ := s
  simp only
  obtain ⟨E, hE⟩ : ∃ E, labB ⟨sn, sl⟩ = E := ⟨_, rfl⟩
  rw [hE]
  have HE := Lib.hid hE
  clear hE
  obtain ⟨W, hW⟩ : ∃ W, W = w.alloc (.cells #[.int .i64 sn, .int .u8 (sl.toNat : Int)] 32) := ⟨_, rfl⟩
  have hbW : Below w.heap.size w W := by rw [hW]; exact (Below.refl _ w).alloc (Nat.le_refl _) _
  have bx : W.heap[w.heap.size]? = some (.cells #[.int .i64 sn, .int .u8 (sl.toNat : Int)] 32 (0, 0)) := by rw [hW]; exact heap_alloc_new w _
  have x0 : W.cell? ⟨w.heap.size, 0, none⟩ = some (.int .i64 sn) := by rw [cell_of_row _ _ 0 _ _ _ bx]; rfl
  have x1 : W.cell? ⟨w.heap.size, 1, none⟩ = some (.int .u8 (sl.toNat : Int)) := by rw [cell_of_row _ _ 1 _ _ _ bx]; rfl
  have HBW := Lib.hid hbW
  have hwl : w.heap.size < W.heap.size := (Array.getElem?_eq_some_iff.1 bx).1
  clear bx hbW
  go_enter Tryd.func36, Tryd.ntmps36
  have bad : ¬ (1 ≤ sn ∧ sn ≤ 99) → Hid (E = [45]) := fun h => Lib.hid (by
    rw [← HE.out]; unfold labB
    rw [if_neg (fun h' => h ⟨h'.1, h'.2.1⟩)])
  go_upto_region 1 with (fail)
  rw [← hW]
  clear hW
  by_cases h1 : sn < 1
  · have HF := bad (by omega)
    have hd : decide (sn < 1) = true := decide_eq_true h1
    clear bad
    go_wp2
    go_ret
    exact ⟨ret_str (by rw [HF.out]), HBW.out⟩
  · have hd1 : decide (sn < 1) = false := decide_eq_false h1
    by_cases h2 : 99 < sn
    · have HF := bad (by omega)
      have hd : decide (99 < sn) = true := decide_eq_true h2
      clear bad
      go_wp2
      go_ret
      exact ⟨ret_str (by rw [HF.out]), HBW.out⟩
    have hd3 : decide (99 < sn) = false := decide_eq_false h2
    have hr : 1 ≤ sn ∧ sn ≤ 99 := by omega
    clear bad h1 h2
    by_cases hl : (sl.toNat : Int) < 65
    · have HF : Hid (E = [45]) := Lib.hid (by
        rw [← HE.out]; unfold labB
        rw [if_neg (fun h => by simp only at h; omega)])
      have hd : decide ((sl.toNat : Int) < 65) = true := decide_eq_true hl
      clear hr
      go_wp2
      go_ret
      exact ⟨ret_str (by rw [HF.out]), HBW.out⟩
    · have hd : decide ((sl.toNat : Int) < 65) = false := decide_eq_false hl
      by_cases hg : (90 : Int) < (sl.toNat : Int)
      · have HF : Hid (E = [45]) := Lib.hid (by
          rw [← HE.out]; unfold labB
          rw [if_neg (fun h => by simp only at h; omega)])
        have hd2 : decide ((90 : Int) < (sl.toNat : Int)) = true := decide_eq_true hg
        clear hr
        go_wp2
        go_ret
        exact ⟨ret_str (by rw [HF.out]), HBW.out⟩
      · have hd2 : decide ((90 : Int) < (sl.toNat : Int)) = false := decide_eq_false hg
        obtain ⟨k, rfl⟩ : ∃ k : Nat, sn = (k : Int) := ⟨sn.toNat, by omega⟩
        have hk : k < 100 := by omega
        have HF : Hid (E = Lib.decDigits k ++ [sl]) := Lib.hid (by
          rw [← HE.out]; unfold labB
          rw [if_pos (by simp only; omega)]
          simp)
        have henc := enc_letter sl (by omega)
        have hw32 : IntKind.i32.wrap (sl.toNat : Int) = (sl.toNat : Int) := by have := sl.toNat_lt; rw [IntKind.wrap_i32]; omega
        have hdl := dec_len k hk
        have HIT := Lib.hid (fun (V : World) => Tryd.strconv_Itoa_small k hk V)
        obtain ⟨D, hD⟩ : ∃ D, Lib.decDigits k = D := ⟨_, rfl⟩
        rw [hD] at HF hdl HIT
        have hadd : ¬ 9223372036854775807 < (⟨D.toArray⟩ : ByteArray).size + (⟨#[sl]⟩ : ByteArray).size := by
          show ¬ 9223372036854775807 < D.toArray.size + 1
          simp; omega
        clear hr hD
        have hbd : Below W.heap.size W W.drew := (Below.refl _ _).drew
        have hba := hbd.alloc hbd.size (.cells #[.int .u8 (sl.toNat : Int)] 5)
        have hcv := run_convert_bytes_back (P := Tryd.prog) (W.drew.alloc (.cells #[.int .u8 (sl.toNat : Int)] 5)) 85 9 5 ⟨W.heap.size, 0, none⟩ 1 [sl] Tryd.underlying85 Tryd.underlying5 Tryd.underlying9 (fun j hj => by
          have hj0 : j = 0 := by simp at hj; omega
          subst hj0
          have := cell_of_row (W.drew.alloc (.cells #[.int .u8 (sl.toNat : Int)] 5)) W.heap.size 0 _ _ _ (heap_alloc_new W.drew _)
          rw [add_zero_off, this]; rfl)
        have hcv2 : (convert 85 9 (.slice (some ⟨W.heap.size, 0, none⟩) 1 1)).run Tryd.prog (W.drew.alloc (.cells #[.int .u8 (sl.toNat : Int)] 5)) = .ok (.string ⟨#[sl]⟩) (W.drew.alloc (.cells #[.int .u8 (sl.toNat : Int)] 5)) := hcv
        have hcv3 : (convert 85 9 (.slice (some ⟨W.heap.size, 0, none⟩) 1 1)).run Tryd.prog (W.alloc (.cells #[.int .u8 (sl.toNat : Int)] 5)).drew = .ok (.string ⟨#[sl]⟩) (W.alloc (.cells #[.int .u8 (sl.toNat : Int)] 5)).drew := hcv
        clear hcv henc hw32
        go_upto_region 3 with (fail)
        go_cut [2] (fun v wc => v = .string (⟨D.toArray⟩ ++ ⟨#[sl]⟩) ∧ Hid (Below W.heap.size W wc))
        case first =>
          go_region_with (first | (go_at_call 52; refine (HIT.out _).mono ?_; rintro e u ⟨rfl, rfl⟩) | fail)
          all_goals (go_wp2_with fail; go_meet; exact ⟨rfl, Lib.hid (by first | exact hba | exact hbd)⟩)
        case rest =>
          obtain ⟨rfl, hB⟩ := hcut
          go_wp2
          go_ret
          exact ⟨ret_str (by rw [HF.out, ba_snoc]), bel_on2 HBW.out hB.out⟩
end Go.Proofs.YtddiabpjmnmllaaDoor
