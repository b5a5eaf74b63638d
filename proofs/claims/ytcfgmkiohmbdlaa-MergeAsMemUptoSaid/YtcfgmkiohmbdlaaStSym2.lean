/- Stable sorting: slices.symMergeCmpFunc at one element behind a row, walked. -/
import Derived.Test.YtcfgmkiohmbdlaaStSym1
namespace Go.Proofs.Ytcfgmkiohmbdlaa
open Go.RowKit
theorem srt_take_ge {U : List Ent} {v : Ent} (hs : Srt ltE U) {k : Nat} (hk : k < U.length) (h : ltE v U[k] = false) : ∀ u ∈ U.take (k + 1), ltE v u = false := by
  intro u hu
  obtain ⟨i, hi, rfl⟩ := List.mem_iff_getElem.1 hu
  have hi' : i < k + 1 ∧ i < U.length := by rw [List.length_take] at hi; omega
  rw [List.getElem_take]
  by_cases he : i = k
  · subst he; exact h
  · exact swoE.ntrans _ U[k] v (List.pairwise_iff_getElem.1 hs i k hi'.2 hk (by omega)) h
theorem srt_drop_lt {U : List Ent} {v : Ent} (hs : Srt ltE U) {k : Nat} (hk : k < U.length) (h : ltE v U[k] = true) : ∀ u ∈ U.drop k, ltE v u = true := by
  intro u hu
  obtain ⟨i, hi, rfl⟩ := List.mem_iff_getElem.1 hu
  rw [List.length_drop] at hi
  rw [List.getElem_drop]
  by_cases he : i = 0
  · subst he; exact h
  · exact swoE.lt_le h (List.pairwise_iff_getElem.1 hs k (k + i) hk (by omega) (by omega))
section
variable {w0 W : World} {g : Nat}
/-- Two versions exchanged, the hindmost laid first. -/
theorem ERow.swap' {P M Q : List Ent} {x y : Ent} {i j : Nat} (h : ERow w0 W g (P ++ x :: (M ++ y :: Q))) (hi : i = P.length) (hj : j = P.length + 1 + M.length) :
    ERow w0 (put4 (put4 W g j x) g i y) g (P ++ y :: (M ++ x :: Q)) := by
  subst hi; subst hj
  have h2 := h.put (P.length + 1 + M.length) (by simp; omega) x
  rw [List.set_append_right _ _ (by omega), show P.length + 1 + M.length - P.length = M.length + 1 by omega, List.set_cons_succ, List.set_append_right _ _ (Nat.le_refl _), Nat.sub_self, List.set_cons_zero] at h2
  have h1 := h2.put P.length (by simp) y
  rw [List.set_append_right _ _ (Nat.le_refl _), Nat.sub_self, List.set_cons_zero] at h1
  exact h1
end
set_option maxHeartbeats 4000000 in
set_option maxRecDepth 20000 in
theorem sym2_any (w0 W : World) (g c N a m b : Nat) (A U C : List Ent) (v : Ent) (h : ERow w0 W g (A ++ U ++ [v] ++ C)) (hN : N = (A ++ U ++ [v] ++ C).length) (ha : a = A.length) (hm : m = a + U.length) (hb : b = m + 1) (hU : 1 < U.length)
    (hs : Srt ltE U) (hbig : N ≤ 1099511627776) :
    Calls Try.prog 116 #[.slice (some ⟨g, 0, none⟩) N c, .int .i64 a, .int .i64 m, .int .i64 b, .func (.func 48) #[] #[]] W (SymPost w0 g A U [v] C) := by
  have hl : b ≤ N ∧ N = a + U.length + 1 + C.length := by rw [hN]; simp only [List.length_append, List.length_cons, List.length_nil]; omega
  have hbN := hl.1
  have HA := Lib.hid ha
  have HM := Lib.hid hm
  have HB := Lib.hid hb
  have HN := Lib.hid hl.2
  have HS := Lib.hid hs
  have H0 := Lib.hid h
  have ham : a < m := by omega
  have hmb : m < b := by omega
  have q0 : (((m : Int) - (a : Int)) == 1) = false := beq_eq_false_iff_ne.2 (by omega)
  have q1 : (((b : Int) - (m : Int)) == 1) = true := by rw [beq_iff_eq]; omega
  clear hN ha hb h hs hl hm
  go_enter Try.func116, Try.ntmps116
  go_wp2
  clear q1 q0
  go_loopw [14, 15] (fun iv jv wx => ∃ i j : Nat, iv = .int .i64 i ∧ jv = .int .i64 j ∧ a ≤ i ∧ i ≤ j ∧ j ≤ m ∧ Hid (∀ u ∈ U.take (i - a), ltE v u = false) ∧ Hid (∀ u ∈ U.drop (j - a), ltE v u = true) ∧ Hid (ERow w0 wx g (A ++ U ++ [v] ++ C))) (fun iv jv _ => (intOf jv - intOf iv).toNat)
  case atStart =>
    refine ⟨a, m, rfl, rfl, Nat.le_refl _, by omega, Nat.le_refl _, Lib.hid (by simp), Lib.hid ?_, H0⟩
    have := HM.out
    rw [List.drop_of_length_le (by omega)]
    intro v hv; cases hv
  case round =>
    obtain ⟨i, j, rfl, rfl, h1, h2, h3, HP, HQ, HR⟩ := hrel
    by_cases hij : i < j
    · go_wp2
      obtain ⟨k, hk⟩ : ∃ k, (i + j) / 2 = k := ⟨_, rfl⟩
      have ek : ((i : Int) + (j : Int)) / 2 = (k : Int) := by omega
      have k1 : i ≤ k := by omega
      have k2 : k < j := by omega
      have k3 : k - a < U.length := by have := HM.out; omega
      rw [ek]
      have hua : (A ++ U ++ [v] ++ C)[k]? = some U[k - a] := by
        have := look_U (A := A) (U := U) (V := [v]) (C := C) (t := k) (by rw [← HA.out]; omega) (by rw [← HA.out]; exact k3)
        rw [this]; simp only [← HA.out]
      have hva : (A ++ U ++ [v] ++ C)[m]? = some v := by
        have e : A.length + U.length = m := by rw [HM.out, HA.out]
        have := look_V (A := A) (U := U) (V := [v]) (C := C) (t := m) (by rw [e]; exact Nat.le_refl _) (by rw [e]; simp)
        rw [this]; simp [e]
      have hci := HR.out.look hva
      have hcj := HR.out.look hua
      obtain ⟨t, ht⟩ : ∃ x, U[k - a] = x := ⟨_, rfl⟩
      have HT := Lib.hid (fun h : ltE v U[k - a] = true => srt_drop_lt HS.out k3 h)
      have HF := Lib.hid (fun h : ltE v U[k - a] = false => srt_take_ge HS.out k3 h)
      rw [ht] at hcj
      simp only [ht] at HT HF
      have kN : k < N := by omega
      have mN : m < N := by have := HB.out; omega
      clear hk ek hva hua ht
      obtain ⟨v1, v2, v3, v4⟩ := v
      obtain ⟨t1, t2, t3, t4⟩ := t
      obtain ⟨p1, p2, p3, p4⟩ := hci
      obtain ⟨r1, r2, r3, r4⟩ := hcj
      go_still_tail 9, (by kernel_rfl)
      repeat still_step
      try refine wpStill_nil ?_
      change wpList _ _ _ _ _ wr.drew
      have HD := Lib.hid HR.out.drew
      have HCmp := Lib.hid (mcmp_any wr.drew ⟨v1, v2, v3, v4⟩ ⟨t1, t2, t3, t4⟩)
      obtain ⟨z, hz⟩ : ∃ z, cmpE ⟨v1, v2, v3, v4⟩ ⟨t1, t2, t3, t4⟩ = z := ⟨_, rfl⟩
      rw [hz] at HCmp
      have HZ := Lib.hid hz
      clear p1 p2 p3 p4 r1 r2 r3 r4 hz
      go_wp2_with fail
      refine HCmp.out.mono ?_
      rintro e w2 ⟨rfl, hb2⟩
      have HR2 := Lib.hid (HD.out.below hb2)
      clear hb2 HCmp HD
      by_cases hz0 : z < 0
      · have HP2 := Lib.hid (HT.out (decide_eq_true (by rw [HZ.out]; exact hz0)))
        have hz1 : decide (z < 0) = true := decide_eq_true hz0
        clear HT HF HQ
        go_wp2
        go_roundw
        case rel => exact ⟨i, k, rfl, rfl, h1, k1, by omega, HP, HP2, HR2⟩
        case measure => simp [intOf]; omega
      · have HP2 := Lib.hid (HF.out (decide_eq_false (by rw [HZ.out]; exact hz0)))
        have HP3 : Hid (∀ u ∈ U.take (k + 1 - a), ltE ⟨v1, v2, v3, v4⟩ u = false) := Lib.hid (by rw [show k + 1 - a = k - a + 1 by omega]; exact HP2.out)
        have hz1 : decide (z < 0) = false := decide_eq_false hz0
        clear HP2 HT HF HP
        go_wp2
        go_roundw
        case rel => exact ⟨k + 1, j, by go_num, rfl, by omega, by omega, h3, HP3, HQ, HR2⟩
        case measure => simp [intOf]; omega
    · obtain rfl : i = j := by omega
      have hMG : Merged ltE U [v] (U.take (i - a) ++ v :: U.drop (i - a)) := by
        have := merged_last swoE (v := v) (U1 := U.take (i - a)) (U2 := U.drop (i - a)) (by rw [List.take_append_drop]; exact HS.out) HP.out HQ.out
        rwa [List.take_append_drop] at this
      have HMG := Lib.hid hMG
      clear hMG HP HQ
      go_wp2
      go_loopw [17] (fun kv wx => ∃ k : Nat, kv = .int .i64 k ∧ i ≤ k ∧ k ≤ m ∧ Hid (ERow w0 wx g (A ++ U.take (k - a) ++ v :: (U.drop (k - a) ++ C)))) (fun kv _ => (intOf kv).toNat)
      case atStart =>
        refine ⟨m, rfl, h3, Nat.le_refl _, Lib.hid ?_⟩
        have := HM.out
        rw [List.take_of_length_le (by omega), List.drop_of_length_le (by omega)]
        simpa using HR.out
      case round =>
        clear HR
        obtain ⟨k, rfl, k1, k2, HR⟩ := hrel
        by_cases hki : i < k
        · obtain ⟨p, rfl⟩ : ∃ p, k = p + 1 := ⟨k - 1, by omega⟩
          have hk3 : p - a < U.length := by have := HM.out; omega
          have hR2 := HR.out
          rw [show p + 1 - a = p - a + 1 by omega, List.take_succ_eq_append_getElem hk3] at hR2
          have HE : Hid (A ++ U.take (p - a) ++ v :: (U.drop (p - a) ++ C) = (A ++ U.take (p - a)) ++ v :: ([] ++ U[p - a] :: (U.drop (p - a + 1) ++ C))) := Lib.hid (by
            rw [List.drop_eq_getElem_cons hk3]
            simp only [List.append_assoc, List.cons_append, List.nil_append])
          obtain ⟨x, hx⟩ : ∃ x, U[p - a] = x := ⟨_, rfl⟩
          rw [hx] at hR2 HE
          have hi : p = (A ++ U.take (p - a)).length := by have := HA.out; rw [List.length_append, List.length_take]; omega
          have hR3 : ERow w0 wr g ((A ++ U.take (p - a)) ++ x :: ([] ++ v :: (U.drop (p - a + 1) ++ C))) := by simpa using hR2
          have hR4 : ERow w0 wr g ((A ++ U.take (p - a) ++ [x]) ++ v :: (U.drop (p - a + 1) ++ C)) := by simpa using hR2
          have hci := hR3.at_ hi
          have hcj := hR4.at_ (i := p + 1) (by rw [List.length_append, ← hi] <;> rfl)
          have hfr := hR3.free
          have HSW := Lib.hid (hR3.swap' (i := p) (j := p + 1) hi (by rw [← hi] <;> rfl)).drew
          have hwp : IntKind.i64.wrap (p : Int) = (p : Int) := by rw [IntKind.wrap_i64]; omega
          have o1 : ((p : Int) + 1).toNat = p + 1 := by omega
          have pN : p + 1 < N := by have := HB.out; omega
          have pz : (i : Int) < (p : Int) + 1 := by omega
          clear hR2 hR3 hR4 hx hi HR
          obtain ⟨x1, x2, x3, x4⟩ := x
          obtain ⟨v1, v2, v3, v4⟩ := v
          obtain ⟨p1, p2, p3, p4⟩ := hci
          obtain ⟨r1, r2, r3, r4⟩ := hcj
          have f1 := hfr (p * 4)
          have f2 := hfr (p * 4 + 1)
          have f3 := hfr (p * 4 + 2)
          have f4 := hfr (p * 4 + 3)
          have f5 := hfr ((p + 1) * 4)
          have f6 := hfr ((p + 1) * 4 + 1)
          have f7 := hfr ((p + 1) * 4 + 2)
          have f8 := hfr ((p + 1) * 4 + 3)
          clear hfr
          go_wp2
          go_region
          go_wp2
          go_roundw
          case rel => exact ⟨p, rfl, by omega, by omega, Lib.hid (by rw [HE.out]; exact HSW.out)⟩
          case measure => first | (simp [intOf]; done) | (simp [intOf]; omega)
        · obtain rfl : i = k := by omega
          have HE : Hid (ERow w0 wr g (A ++ (U.take (i - a) ++ v :: U.drop (i - a)) ++ C)) := Lib.hid (by
            have h1 := HR.out
            simpa only [List.append_assoc, List.cons_append] using h1)
          clear HR
          go_wp2
          refine bodyPost_ret (results_none rfl _ _ _) rfl ?_
          exact ⟨rfl, _, HMG.out, HE.out⟩
end Go.Proofs.Ytcfgmkiohmbdlaa
