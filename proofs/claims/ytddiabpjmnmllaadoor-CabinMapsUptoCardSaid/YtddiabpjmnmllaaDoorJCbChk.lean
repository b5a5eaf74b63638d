/- Cabins: great, the reference's seats, and both Checks, walked. -/
import Derived.Test.YtddiabpjmnmllaaDoorJCbLet
import Derived.Test.YtddiabpjmnmllaaDoorJCells
namespace Go.Proofs.YtddiabpjmnmllaaDoor
open Go.RowKit Go.Lib
set_option maxHeartbeats 1000000 in
theorem great_any (w : World) (c : UInt8) :
    Calls Tryd.prog 47 #[.int .u8 (c.toNat : Int)] w fun e w' => e = .returned (.int .u8 ((greatB c).toNat : Int)) ∧ w' = w := by
  have hc := c.toNat_lt
  go_enter Tryd.func47, Tryd.ntmps47
  unfold greatB
  by_cases h1 : 97 ≤ c.toNat
  · have s1 : decide ((c.toNat : Int) ≥ 97) = true := decide_eq_true (by omega)
    by_cases h2 : c.toNat ≤ 122
    · have s2 : decide ((c.toNat : Int) ≤ 122) = true := decide_eq_true (by omega)
      have e : (c - 32).toNat = c.toNat - 32 := by
        rw [UInt8.toNat_sub_of_le]
        · rfl
        · rw [UInt8.le_iff_toNat_le]; show 32 ≤ c.toNat; omega
      have hw : IntKind.u8.wrap ((c.toNat : Int) - 32) = ((c - 32).toNat : Int) := by
        rw [e]; unfold IntKind.wrap; simp [IntKind.bits, IntKind.signed]; omega
      rw [if_pos ⟨h1, h2⟩]
      have HW := Lib.hid hw
      clear e
      go_wp2
      go_ret
      exact ⟨by rw [← HW.out]; first | rfl | (simp only [hw]), rfl⟩
    · have s2 : decide ((c.toNat : Int) ≤ 122) = false := decide_eq_false (by omega)
      have s3 : decide ((c.toNat : Int) ≥ 65) = true := decide_eq_true (by omega)
      have s4 : decide ((c.toNat : Int) ≤ 90) = false := decide_eq_false (by omega)
      rw [if_neg (by omega), if_neg (by omega)]
      go_wp2
      go_ret
      exact ⟨rfl, rfl⟩
  · have s1 : decide ((c.toNat : Int) ≥ 97) = false := decide_eq_false (by omega)
    rw [if_neg (by omega)]
    by_cases h3 : 65 ≤ c.toNat
    · have s3 : decide ((c.toNat : Int) ≥ 65) = true := decide_eq_true (by omega)
      by_cases h4 : c.toNat ≤ 90
      · have s4 : decide ((c.toNat : Int) ≤ 90) = true := decide_eq_true (by omega)
        rw [if_pos ⟨h3, h4⟩]
        go_wp2
        go_ret
        exact ⟨rfl, rfl⟩
      · have s4 : decide ((c.toNat : Int) ≤ 90) = false := decide_eq_false (by omega)
        rw [if_neg (by omega)]
        go_wp2
        go_ret
        exact ⟨rfl, rfl⟩
    · have s3 : decide ((c.toNat : Int) ≥ 65) = false := decide_eq_false (by omega)
      rw [if_neg (by omega)]
      go_wp2
      go_ret
      exact ⟨rfl, rfl⟩
/-- Did a block begin at place k? -/
def dotAt (l : List UInt8) (k : Nat) : Bool := if k = 0 then true else decide (l.getD (k - 1) 0 = 46)
theorem seats_long : ∀ (l : List UInt8) (dot : Bool) (n : Nat) (last : UInt8), seatsGo dot n last l = true → n ≤ 6 := by
  intro l
  induction l with
  | nil => intro dot n last h; simp only [seatsGo, Bool.and_eq_true, decide_eq_true_eq] at h; omega
  | cons c t ih =>
    intro dot n last h
    simp only [seatsGo] at h
    split at h
    · split at h
      · cases h
      · exact ih _ _ _ h
    · split at h
      · cases h
      · have := ih _ _ _ h; omega
theorem dotAt_succ {l : List UInt8} {k : Nat} (hk : k < l.length) : dotAt l (k + 1) = decide (l[k] = 46) := by
  unfold dotAt
  rw [if_neg (by omega), Nat.add_sub_cancel, List.getD_eq_getElem?_getD, List.getElem?_eq_getElem hk]
  rfl
theorem byte_at {s : ByteArray} {k : Nat} (h : k < s.size) (h2 : k < s.data.toList.length) : s[k] = s.data.toList[k] := rfl
set_option maxHeartbeats 4000000 in
set_option maxRecDepth 20000 in
theorem rseats_any (s : ByteArray) (w : World) (hs : s.size ≤ 1048576) :
    Calls Tryd.prog 43 #[.string s] w fun e w' => e = .returned (.bool (seatsOk s)) ∧ w' = w := by
  have hsl : s.data.toList.length = s.size := rfl
  obtain ⟨L, hL⟩ : ∃ L, s.data.toList = L := ⟨_, rfl⟩
  have hok : seatsOk s = seatsGo true 0 0 L := by rw [← hL]; rfl
  obtain ⟨R, hR⟩ : ∃ R, seatsOk s = R := ⟨_, rfl⟩
  rw [hR] at hok ⊢
  have hat : ∀ (k : Nat) (h : k < s.size) (h2 : k < L.length), s[k] = L[k] := fun k h h2 => by subst hL; exact byte_at h h2
  have HAT := Lib.hid hat
  have HOK := Lib.hid hok
  rw [hL] at hsl
  have HSL := Lib.hid hsl
  have HGR := Lib.hid (fun c => great_any w c)
  clear hL hok hR hat hsl
  go_enter Tryd.func43, Tryd.ntmps43
  go_wp2
  go_loop [3, 4, 5] (fun nv lv i => ∃ (k n : Nat) (last : UInt8), k ≤ s.size ∧ n ≤ k ∧ i = .int .i64 (k : Int) ∧ nv = .int .i64 (n : Int) ∧ lv = .int .u8 (last.toNat : Int) ∧ Hid (R = seatsGo (dotAt L k) n last (L.drop k)) ∧ Hid (dotAt L k = true → k = 0 ∨ k < s.size)) (fun _ _ i => s.size - (intOf i).toNat)
  case atStart => exact ⟨0, 0, 0, Nat.zero_le _, Nat.le_refl _, rfl, rfl, rfl, HOK, Lib.hid (fun _ => .inl rfl)⟩
  case round =>
    obtain ⟨k, n, last, hk, hnk, rfl, rfl, rfl, hG, hD⟩ := hrel
    by_cases hlt : k < s.size
    · have hkL : k < L.length := by rw [HSL.out]; exact hlt
      have hTk := HAT.out k hlt hkL
      have hG2 := hG.out
      rw [List.drop_eq_getElem_cons hkL] at hG2
      have hds := dotAt_succ hkL
      obtain ⟨c, hc⟩ : ∃ c, L[k] = c := ⟨_, rfl⟩
      rw [hc] at hTk hG2 hds
      have HG2 := Lib.hid hG2
      have HDS := Lib.hid hds
      have i1 : (0 : Int) ≤ (k : Int) := by omega
      have i2 : (k : Int) < (s.size : Int) := by omega
      clear hG2 hds hc hG hD
      by_cases h46 : c = 46
      · subst h46
        cases k with
        | zero =>
          have HF : Hid (R = false) := Lib.hid (by rw [HG2.out]; rfl)
          clear HG2 HDS HOK
          go_wp2
          go_ret
          exact ⟨ret_bool HF.out.symm, rfl⟩
        | succ k =>
          have hkL' : k < L.length := by omega
          have hTk2 := HAT.out k (by omega) hkL'
          have hdk := dotAt_succ hkL'
          obtain ⟨d, hd⟩ : ∃ d, L[k] = d := ⟨_, rfl⟩
          rw [hd] at hTk2 hdk
          rw [hdk] at HG2
          have hwk : IntKind.i64.wrap (k : Int) = (k : Int) := IntWalk.i64_in _ (by omega)
          have hws : IntKind.i64.wrap ((s.size : Int) - 1) = (s.size : Int) - 1 := IntWalk.i64_in _ (by omega)
          have i3 : (0 : Int) ≤ (k : Int) := by omega
          have i4 : (k : Int) < (s.size : Int) := by omega
          have z0 : (((k : Int) + 1) == 0) = false := beq_eq_false_iff_ne.2 (by omega)
          clear hd hdk
          by_cases hlast : k + 1 + 1 = s.size
          · have z1 : (((k : Int) + 1) == (s.size : Int) - 1) = true := beq_iff_eq.2 (by omega)
            have HF : Hid (R = false) := Lib.hid (by
              rw [HG2.out, List.drop_eq_nil_of_le (by rw [HSL.out]; omega)]
              simp [seatsGo])
            clear HG2 HDS HOK hlast
            go_wp2
            go_ret
            exact ⟨ret_bool HF.out.symm, rfl⟩
          · have z1 : (((k : Int) + 1) == (s.size : Int) - 1) = false := beq_eq_false_iff_ne.2 (by omega)
            by_cases hd46 : d = 46
            · subst hd46
              have HF : Hid (R = false) := Lib.hid (by
                rw [HG2.out]
                simp [seatsGo])
              clear HG2 HDS HOK
              go_wp2
              go_ret
              exact ⟨ret_bool HF.out.symm, rfl⟩
            · have z2 : ((d.toNat : Int) == 46) = false := beq_eq_false_iff_ne.2 fun h => hd46 (by
                have : d.toNat = 46 := by omega
                exact UInt8.toNat_inj.1 this)
              have z3 : (d.toNat == 46) = false := beq_eq_false_iff_ne.2 fun h => hd46 (UInt8.toNat_inj.1 h)
              have HG3 : Hid (R = seatsGo (dotAt L (k + 1 + 1)) n last (L.drop (k + 1 + 1))) := Lib.hid (by
                rw [HG2.out, HDS.out]
                simp [seatsGo, hd46])
              have HD3 : Hid (dotAt L (k + 1 + 1) = true → k + 1 + 1 = 0 ∨ k + 1 + 1 < s.size) := Lib.hid (fun _ => .inr (by omega))
              clear HG2 HDS hd46
              go_wp2
              go_round
              case rel => exact ⟨k + 1 + 1, n, last, by omega, by omega, by go_num, rfl, rfl, HG3, HD3⟩
              case measure => simp [intOf]; omega
      · have z2 : ((c.toNat : Int) == 46) = false := beq_eq_false_iff_ne.2 fun h => h46 (by
          have : c.toNat = 46 := by omega
          exact UInt8.toNat_inj.1 this)
        have z3 : (c.toNat == 46) = false := beq_eq_false_iff_ne.2 fun h => h46 (UInt8.toNat_inj.1 h)
        have hstep : R = if greatB c = 0 ∨ (greatB c).toNat ≤ last.toNat then false else seatsGo false (n + 1) (greatB c) (L.drop (k + 1)) := by
          rw [HG2.out]; simp only [seatsGo, if_neg h46]
        have hdk : dotAt L (k + 1) = false := by rw [HDS.out]; exact decide_eq_false h46
        have hgr := HGR.out c
        obtain ⟨g, hg⟩ : ∃ g, greatB c = g := ⟨_, rfl⟩
        rw [hg] at hstep hgr
        have HST := Lib.hid hstep
        have HDK := Lib.hid hdk
        clear hstep hdk hg HG2 HDS h46
        go_wp2_with fail
        refine hgr.mono ?_
        rintro e w2 ⟨rfl, rfl⟩
        by_cases h0 : g = 0
        · subst h0
          have HF : Hid (R = false) := Lib.hid (by rw [HST.out, if_pos (.inl rfl)])
          clear HST HOK hgr
          go_wp2
          go_ret
          exact ⟨ret_bool HF.out.symm, rfl⟩
        · have y1 : ((g.toNat : Int) == 0) = false := beq_eq_false_iff_ne.2 fun h => h0 (by
            have : g.toNat = 0 := by omega
            exact UInt8.toNat_inj.1 this)
          have y2 : (g.toNat == 0) = false := beq_eq_false_iff_ne.2 fun h => h0 (UInt8.toNat_inj.1 h)
          by_cases h1 : g.toNat ≤ last.toNat
          · have y3 : decide (g.toNat ≤ last.toNat) = true := decide_eq_true h1
            have y4 : decide ((g.toNat : Int) ≤ (last.toNat : Int)) = true := decide_eq_true (by omega)
            have HF : Hid (R = false) := Lib.hid (by rw [HST.out, if_pos (.inr h1)])
            clear HST HOK hgr
            go_wp2
            go_ret
            exact ⟨ret_bool HF.out.symm, rfl⟩
          · have y3 : decide (g.toNat ≤ last.toNat) = false := decide_eq_false h1
            have y4 : decide ((g.toNat : Int) ≤ (last.toNat : Int)) = false := decide_eq_false (by omega)
            have HG3 : Hid (R = seatsGo (dotAt L (k + 1)) (n + 1) g (L.drop (k + 1))) := Lib.hid (by
              rw [HST.out, HDK.out, if_neg (fun h => h.elim h0 h1)])
            have HD3 : Hid (dotAt L (k + 1) = true → k + 1 = 0 ∨ k + 1 < s.size) := Lib.hid (fun h => by rw [HDK.out] at h; cases h)
            clear HST HDK hgr
            go_wp2
            go_round
            case rel => exact ⟨k + 1, n + 1, g, by omega, by omega, by go_num, by go_num, rfl, HG3, HD3⟩
            case measure => simp [intOf]; omega
    · have hG2 := hG.out
      rw [List.drop_eq_nil_of_le (by rw [HSL.out]; omega)] at hG2
      have hR2 : R = (decide ((n : Int) ≥ 1) && decide ((n : Int) ≤ 6)) := by
        rw [hG2]
        simp only [seatsGo]
        cases hdd : dotAt L k with
        | true =>
          rcases hD.out hdd with h | h
          · have hn0 : n = 0 := by omega
            subst hn0; rfl
          · omega
        | false =>
          rw [Bool.not_false, Bool.true_and, Bool.eq_iff_iff, Bool.and_eq_true, decide_eq_true_eq, decide_eq_true_eq, decide_eq_true_eq]
          omega
      have hz : ¬ (k : Int) < (s.size : Int) := by omega
      have HR := Lib.hid hR2
      clear hG hG2 hR2 hD HOK
      by_cases h1 : 1 ≤ n
      · have y1 : decide ((n : Int) ≥ 1) = true := decide_eq_true (by omega)
        by_cases h2 : n ≤ 6
        · have y2 : decide ((n : Int) ≤ 6) = true := decide_eq_true (by omega)
          go_wp2
          go_ret
          exact ⟨ret_bool (by rw [HR.out, y1, y2]; rfl), rfl⟩
        · have y2 : decide ((n : Int) ≤ 6) = false := decide_eq_false (by omega)
          go_wp2
          go_ret
          exact ⟨ret_bool (by rw [HR.out, y1, y2]; rfl), rfl⟩
      · have y1 : decide ((n : Int) ≥ 1) = false := decide_eq_false (by omega)
        go_wp2
        go_ret
        exact ⟨ret_bool (by rw [HR.out, y1]; rfl), rfl⟩
end Go.Proofs.YtddiabpjmnmllaaDoor
