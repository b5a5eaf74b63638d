/- Stable sorting: slices.symMergeCmpFunc, walked. -/
import Derived.Test.YtcfgmkiohmbdlaaStSymP
import Derived.Deep.CutBlock
import Derived.Deep.DeepCutAuto
namespace Go.Proofs.Ytcfgmkiohmbdlaa
open Go.RowKit
/-- The bounds between which the cut is sought. -/
def SideF (a m b d lo hi : Nat) : Prop := (d < m ∧ lo + b = d + m ∧ hi = d) ∨ (m ≤ d ∧ lo = a ∧ hi = m)
def Cut1 (l : List Ent) (P lo s : Nat) : Prop := s = lo ∨ ∀ x y, l[s - 1]? = some x → l[P - (s - 1)]? = some y → ltE y x = false
def Cut2 (l : List Ent) (P hi r : Nat) : Prop := r = hi ∨ ∀ x y, l[r]? = some x → l[P - r]? = some y → ltE y x = true
/-- A row merges in its place. -/
def SymAll (k : Nat) : Prop := ∀ (w0 W : World) (g c N a m b : Nat) (A U V C : List Ent), b - a ≤ k → ERow w0 W g (A ++ U ++ V ++ C) → N = (A ++ U ++ V ++ C).length → a = A.length → m = a + U.length → b = m + V.length → 0 < U.length → 0 < V.length →
    Srt ltE U → Srt ltE V → N ≤ 1099511627776 →
    Calls Try.prog 116 #[.slice (some ⟨g, 0, none⟩) N c, .int .i64 a, .int .i64 m, .int .i64 b, .func (.func 48) #[] #[]] W (SymPost w0 g A U V C)
set_option maxHeartbeats 8000000 in
set_option maxRecDepth 20000 in
theorem symG_any (kk : Nat) (IH : SymAll kk) (w0 W : World) (g c N a m b : Nat) (A U V C : List Ent) (hkk : b - a ≤ kk + 1) (h : ERow w0 W g (A ++ U ++ V ++ C)) (hN : N = (A ++ U ++ V ++ C).length) (ha : a = A.length) (hm : m = a + U.length) (hb : b = m + V.length)
    (hU : 1 < U.length) (hV : 1 < V.length) (hsU : Srt ltE U) (hsV : Srt ltE V) (hbig : N ≤ 1099511627776) :
    Calls Try.prog 116 #[.slice (some ⟨g, 0, none⟩) N c, .int .i64 a, .int .i64 m, .int .i64 b, .func (.func 48) #[] #[]] W (SymPost w0 g A U V C) := by
  have hl : b ≤ N ∧ N = a + U.length + V.length + C.length := by rw [hN]; simp only [List.length_append]; omega
  have hbN := hl.1
  have HNL := Lib.hid hN
  have HA := Lib.hid ha
  have HM := Lib.hid hm
  have HB := Lib.hid hb
  have HSU := Lib.hid hsU
  have HSV := Lib.hid hsV
  have HIH := Lib.hid IH
  have H0 := Lib.hid h
  have ham : a + 1 < m := by omega
  have hmb : m + 1 < b := by omega
  have q0 : (((m : Int) - (a : Int)) == 1) = false := beq_eq_false_iff_ne.2 (by omega)
  have q1 : (((b : Int) - (m : Int)) == 1) = false := beq_eq_false_iff_ne.2 (by omega)
  clear hN ha hb h hsU hsV hl hm IH
  obtain ⟨L, hL⟩ : ∃ L, A ++ U ++ V ++ C = L := ⟨_, rfl⟩
  have HL := Lib.hid hL
  rw [hL] at H0 HNL
  clear hL
  obtain ⟨d, hd⟩ : ∃ d, (a + b) / 2 = d := ⟨_, rfl⟩
  have ed : ((a : Int) + (b : Int)) / 2 = (d : Int) := by omega
  have hd1 : a < d := by omega
  have hd2 : d < b := by omega
  have HD := Lib.hid hd
  have hd3 : a + b ≤ 2 * d + 1 := by omega
  have hd4 : 2 * d ≤ a + b := by omega
  clear hd
  go_enter Try.func116, Try.ntmps116
  go_upto_if 140 with (fail)
  clear ed q0 q1
  go_cut [20, 21] (fun sv rv wc => ∃ lo hi : Nat, sv = .int .i64 lo ∧ rv = .int .i64 hi ∧ Hid (SideF a m b d lo hi) ∧ wc = W)
  case first =>
    by_cases hdm : d < m
    · have hdm' : (d : Int) < (m : Int) := by omega
      have e1 : (d : Int) + (m : Int) - (b : Int) = ((d + m - b : Nat) : Int) := by omega
      go_wp2
      go_meet
      case rel => exact ⟨d + m - b, d, rfl, rfl, Lib.hid (.inl ⟨hdm, by omega, rfl⟩), rfl⟩
    · have hdm' : ¬ (d : Int) < (m : Int) := by omega
      go_wp2
      go_meet
      case rel => exact ⟨a, m, rfl, rfl, Lib.hid (.inr ⟨by omega, rfl, rfl⟩), rfl⟩
  case rest =>
    obtain ⟨lo, hi, rfl, rfl, HSD, rfl⟩ := hcut
    have s1 : a ≤ lo ∧ lo ≤ hi ∧ hi ≤ m ∧ d + m ≤ lo + b ∧ hi ≤ d := by rcases HSD.out with ⟨x1, x2, x3⟩ | ⟨x1, x2, x3⟩ <;> omega
    obtain ⟨s1, s2, s3, s4, s5⟩ := s1
    go_wp2
    go_loopw [20, 21] (fun sv rv wx => ∃ s r : Nat, sv = .int .i64 s ∧ rv = .int .i64 r ∧ lo ≤ s ∧ s ≤ r ∧ r ≤ hi ∧ Hid (Cut1 L (d + m - 1) lo s) ∧ Hid (Cut2 L (d + m - 1) hi r) ∧ Hid (ERow w0 wx g L)) (fun sv rv _ => (intOf rv - intOf sv).toNat)
    case atStart => exact ⟨lo, hi, rfl, rfl, Nat.le_refl _, s2, Nat.le_refl _, Lib.hid (.inl rfl), Lib.hid (.inl rfl), H0⟩
    case round =>
      obtain ⟨s, r, rfl, rfl, h1, h2, h3, HC1, HC2, HR⟩ := hrel
      by_cases hsr : s < r
      · go_wp2
        obtain ⟨k, hk⟩ : ∃ k, (s + r) / 2 = k := ⟨_, rfl⟩
        have ek : ((s : Int) + (r : Int)) / 2 = (k : Int) := by omega
        have k1 : s ≤ k := by omega
        have k2 : k < r := by omega
        rw [ek]
        obtain ⟨q, hq⟩ : ∃ q, d + m - 1 - k = q := ⟨_, rfl⟩
        have eq1 : (d : Int) + (m : Int) - 1 - (k : Int) = (q : Int) := by omega
        have eq2 : IntKind.i64.wrap (q : Int) = (q : Int) := by rw [IntKind.wrap_i64]; omega
        have qN : q < N := by omega
        have kN : k < N := by omega
        have HQ := Lib.hid hq
        obtain ⟨x, hx⟩ : ∃ x, L[k]? = some x := ⟨_, List.getElem?_eq_getElem (by rw [← HNL.out]; exact kN)⟩
        obtain ⟨y, hy⟩ : ∃ y, L[q]? = some y := ⟨_, List.getElem?_eq_getElem (by rw [← HNL.out]; exact qN)⟩
        have hci := HR.out.look hy
        have hcj := HR.out.look hx
        have HT : Hid (ltE y x = true → Cut2 L (d + m - 1) hi k) := Lib.hid (fun h => .inr fun x' y' hx' hy' => by
          rw [hq] at hy'
          rw [hx] at hx'; rw [hy] at hy'
          cases hx'; cases hy'; exact h)
        have HF : Hid (ltE y x = false → Cut1 L (d + m - 1) lo (k + 1)) := Lib.hid (fun h => .inr fun x' y' hx' hy' => by
          rw [Nat.add_sub_cancel] at hx' hy'
          rw [hq] at hy'
          rw [hx] at hx'; rw [hy] at hy'
          cases hx'; cases hy'; exact h)
        clear hk ek hx hy hq
        obtain ⟨y1, y2, y3, y4⟩ := y
        obtain ⟨x1, x2, x3, x4⟩ := x
        obtain ⟨p1, p2, p3, p4⟩ := hci
        obtain ⟨r1, r2, r3, r4⟩ := hcj
        go_still_tail 11, (by kernel_rfl)
        repeat still_step
        try refine wpStill_nil ?_
        change wpList _ _ _ _ _ wr.drew
        have HD := Lib.hid HR.out.drew
        have HCmp := Lib.hid (mcmp_any wr.drew ⟨y1, y2, y3, y4⟩ ⟨x1, x2, x3, x4⟩)
        obtain ⟨z, hz⟩ : ∃ z, cmpE ⟨y1, y2, y3, y4⟩ ⟨x1, x2, x3, x4⟩ = z := ⟨_, rfl⟩
        rw [hz] at HCmp
        have HZ := Lib.hid hz
        clear p1 p2 p3 p4 r1 r2 r3 r4 hz eq1 eq2
        go_wp2_with fail
        refine HCmp.out.mono ?_
        rintro e w2 ⟨rfl, hb2⟩
        have HR2 := Lib.hid (HD.out.below hb2)
        clear hb2 HCmp HD
        by_cases hz0 : z < 0
        · have HP2 := Lib.hid (HT.out (decide_eq_true (by rw [HZ.out]; exact hz0)))
          have hz1 : decide (z < 0) = true := decide_eq_true hz0
          clear HT HF
          go_wp2
          go_roundw
          case rel => exact ⟨s, k, rfl, rfl, h1, k1, by omega, HC1, HP2, HR2⟩
          case measure => simp [intOf]; omega
        · have HP2 := Lib.hid (HF.out (decide_eq_false (by rw [HZ.out]; exact hz0)))
          have hz1 : decide (z < 0) = false := decide_eq_false hz0
          clear HT HF
          go_wp2
          go_roundw
          case rel => exact ⟨k + 1, r, by go_num, rfl, by omega, by omega, h3, HP2, HC2, HR2⟩
          case measure => simp [intOf]; omega
      · obtain rfl : s = r := by omega
        obtain ⟨e, he⟩ : ∃ e, d + m - s = e := ⟨_, rfl⟩
        have ee : (d : Int) + (m : Int) - (s : Int) = (e : Int) := by omega
        have e1 : m ≤ e := by omega
        have e2 : e ≤ b := by omega
        have e3 : a ≤ s := by omega
        have e4 : s ≤ m := by omega
        have e5 : e + s = d + m := by omega
        have hle : ∀ u ∈ U.take (s - a), ∀ v ∈ V.drop (e - m), ltE v u = false := by
          have h := cut_le (A := A) (U := U) (V := V) (C := C) (s := s) (e := e) (by rw [← HA.out]; exact e3) (by rw [← HA.out, ← HM.out]; exact e4) (by rw [← HA.out, ← HM.out]; exact e1) HSU.out HSV.out (by
            rw [← HA.out, ← HM.out, ← HB.out, HL.out]
            rcases HC1.out with h | h
            · rcases HSD.out with ⟨x1, x2, x3⟩ | ⟨x1, x2, x3⟩
              · exact .inr (.inl (by omega))
              · exact .inl (by omega)
            · by_cases hs0 : s = lo
              · rcases HSD.out with ⟨x1, x2, x3⟩ | ⟨x1, x2, x3⟩
                · exact .inr (.inl (by omega))
                · exact .inl (by omega)
              · refine .inr (.inr ?_)
                rwa [show d + m - 1 - (s - 1) = e by omega] at h)
          rwa [← HA.out, ← HM.out] at h
        have hlt : ∀ u ∈ U.drop (s - a), ∀ v ∈ V.take (e - m), ltE v u = true := by
          have h := cut_lt (A := A) (U := U) (V := V) (C := C) (s := s) (e := e) (by rw [← HA.out]; exact e3) (by rw [← HA.out, ← HM.out]; exact e1) (by rw [← HA.out, ← HM.out, ← HB.out]; exact e2) HSU.out HSV.out (by
            rw [← HA.out, ← HM.out, HL.out]
            rcases HC2.out with h | h
            · rcases HSD.out with ⟨x1, x2, x3⟩ | ⟨x1, x2, x3⟩
              · exact .inr (.inl (by omega))
              · exact .inl (by omega)
            · by_cases hs0 : e = m
              · exact .inr (.inl hs0)
              · refine .inr (.inr ?_)
                rwa [show d + m - 1 - s = e - 1 by omega] at h)
          rwa [← HA.out, ← HM.out] at h
        obtain ⟨U1, U2, hu, hu1⟩ : ∃ U1 U2, U = U1 ++ U2 ∧ U1 = U.take (s - a) ∧ U2 = U.drop (s - a) := ⟨_, _, (List.take_append_drop (s - a) U).symm, rfl, rfl⟩
        obtain ⟨V1, V2, hv, hv1⟩ : ∃ V1 V2, V = V1 ++ V2 ∧ V1 = V.take (e - m) ∧ V2 = V.drop (e - m) := ⟨_, _, (List.take_append_drop (e - m) V).symm, rfl, rfl⟩
        have hlen : U1.length = s - a ∧ U2.length = m - s ∧ V1.length = e - m ∧ V2.length = b - e := by
          have := HM.out
          have := HB.out
          rw [hu1.1, hu1.2, hv1.1, hv1.2]
          simp only [List.length_take, List.length_drop]
          omega
        rw [← hu1.1, ← hv1.2] at hle
        rw [← hu1.2, ← hv1.1] at hlt
        have hR0 : ERow w0 wr g (A ++ U1 ++ U2 ++ V1 ++ (V2 ++ C)) := by
          have h := HR.out
          rw [← HL.out, hu, hv] at h
          simpa only [List.append_assoc] using h
        have HLEN := Lib.hid hlen
        have hNN : N = (A ++ U1 ++ U2 ++ V1 ++ (V2 ++ C)).length := by
          rw [HNL.out, ← HL.out, hu, hv]; simp only [List.length_append]; omega
        have HNN := Lib.hid hNN
        have hsU1 : Srt ltE U1 := by have h := HSU.out; rw [hu] at h; exact h.left
        have hsU2 : Srt ltE U2 := by have h := HSU.out; rw [hu] at h; exact h.right
        have hsV1 : Srt ltE V1 := by have h := HSV.out; rw [hv] at h; exact h.left
        have hsV2 : Srt ltE V2 := by have h := HSV.out; rw [hv] at h; exact h.right
        have HFIN : Hid (∀ S1 S2, Merged ltE U1 V1 S1 → Merged ltE U2 V2 S2 → Merged ltE U V (S1 ++ S2)) := Lib.hid (fun S1 S2 m1 m2 => by
          rw [hu, hv]
          exact merged_cut swoE (by rw [← hu]; exact HSU.out) (by rw [← hv]; exact HSV.out) hle hlt m1 m2)
        have HS4 := Lib.hid (And.intro hsU1 (And.intro hsU2 (And.intro hsV1 hsV2)))
        have HR0 := Lib.hid hR0
        clear hle hlt hu1 hv1 hlen hR0 hNN hsU1 hsU2 hsV1 hsV2 hu hv he HR HC1 HC2 HSD h1 h2 h3 s1 s2 s3 s4 s5
        by_cases c1 : s = m
        · have hu2 : U2 = [] := List.eq_nil_of_length_eq_zero (by have h1 := HLEN.out; omega)
          have g0 : e = d := by omega
          have HR2 : Hid (ERow w0 wr g (A ++ U1 ++ V1 ++ (U2 ++ (V2 ++ C)))) := Lib.hid (by have h := HR0.out; rw [hu2] at h ⊢; simpa using h)
          by_cases c2 : m < d
          · have g1 : ¬ (s : Int) < (m : Int) := by omega
            have g2 : (a : Int) < (s : Int) := by omega
            have g3 : (s : Int) < (d : Int) := by omega
            have g4 : ¬ (d : Int) < (e : Int) := by omega
            have LB : Hid (d - a ≤ kk ∧ s = a + U1.length ∧ d = s + V1.length ∧ 0 < U1.length ∧ 0 < V1.length) := Lib.hid (by
              have h1 := HLEN.out
              omega)
            have HU2 := Lib.hid hu2
            have G := Lib.hid (And.intro c1 g0)
            clear hu2 c1 g0
            have HC := Lib.hid (HIH.out w0 wr g c N a s d A U1 V1 (U2 ++ (V2 ++ C)) LB.out.1 HR2.out (by rw [HNN.out]; simp only [List.length_append]; omega) HA.out LB.out.2.1 LB.out.2.2.1 LB.out.2.2.2.1 LB.out.2.2.2.2 HS4.out.1 HS4.out.2.2.1 hbig)
            go_wp2_with fail
            refine HC.out.mono ?_
            rintro e' w3 ⟨rfl, S1, hm1, hr3⟩
            have hl1 := hm1.2.length
            have HM1 := Lib.hid hm1
            have HR3 : Hid (ERow w0 w3 g ((A ++ S1) ++ U2 ++ V2 ++ C)) := Lib.hid (by simpa only [List.append_assoc] using hr3)
            have HL1 : Hid (S1.length = U1.length + V1.length) := Lib.hid (by rw [hl1, List.length_append])
            clear hr3 hm1 hl1 HC
            have HM2 := Lib.hid (merged_or HS4.out.2.1 HS4.out.2.2.2 (.inl HU2.out))
            go_wp2
            refine bodyPost_end (results_none rfl _ _ _) rfl ?_
            exact ⟨rfl, S1 ++ (U2 ++ V2), HFIN.out _ _ HM1.out HM2.out, by simpa only [List.append_assoc] using HR3.out⟩
          · have hv1 : V1 = [] := List.eq_nil_of_length_eq_zero (by have h1 := HLEN.out; omega)
            have g1 : ¬ (s : Int) < (m : Int) := by omega
            have g2 : (a : Int) < (s : Int) := by omega
            have g3 : ¬ (s : Int) < (d : Int) := by omega
            have g4 : ¬ (d : Int) < (e : Int) := by omega
            have HU2 := Lib.hid hu2
            have HV1 := Lib.hid hv1
            have G := Lib.hid (And.intro c1 g0)
            clear hu2 c1 g0 hv1
            obtain ⟨S1, hS1⟩ : ∃ S1, S1 = U1 ++ V1 := ⟨_, rfl⟩
            have HM1 : Hid (Merged ltE U1 V1 S1) := Lib.hid (by rw [hS1]; exact merged_or HS4.out.1 HS4.out.2.2.1 (.inr HV1.out))
            have HR3 : Hid (ERow w0 wr g ((A ++ S1) ++ U2 ++ V2 ++ C)) := Lib.hid (by rw [hS1]; simpa only [List.append_assoc] using HR2.out)
            have HL1 : Hid (S1.length = U1.length + V1.length) := Lib.hid (by rw [hS1, List.length_append])
            clear hS1
            have HM2 := Lib.hid (merged_or HS4.out.2.1 HS4.out.2.2.2 (.inl HU2.out))
            go_wp2
            refine bodyPost_end (results_none rfl _ _ _) rfl ?_
            exact ⟨rfl, S1 ++ (U2 ++ V2), HFIN.out _ _ HM1.out HM2.out, by simpa only [List.append_assoc] using HR3.out⟩
        · by_cases c3 : e = m
          · have hv1 : V1 = [] := List.eq_nil_of_length_eq_zero (by have h1 := HLEN.out; omega)
            have HR2 : Hid (ERow w0 wr g (A ++ U1 ++ V1 ++ (U2 ++ (V2 ++ C)))) := Lib.hid (by have h := HR0.out; rw [hv1] at h ⊢; simpa using h)
            have g0 : s = d := by omega
            have g1 : (s : Int) < (m : Int) := by omega
            have g2 : ¬ (m : Int) < (e : Int) := by omega
            have g3 : (a : Int) < (s : Int) := by omega
            have g4 : ¬ (s : Int) < (d : Int) := by omega
            have g5 : (d : Int) < (e : Int) := by omega
            have g6 : (e : Int) < (b : Int) := by omega
            have LC : Hid (b - d ≤ kk ∧ d = A.length + (U1.length + V1.length) ∧ e = d + U2.length ∧ b = e + V2.length ∧ 0 < U2.length ∧ 0 < V2.length) := Lib.hid (by
              have h1 := HLEN.out
              have h2 := HA.out
              omega)
            have HV1 := Lib.hid hv1
            have G := Lib.hid (And.intro c3 g0)
            clear hv1 c3 g0
            obtain ⟨S1, hS1⟩ : ∃ S1, S1 = U1 ++ V1 := ⟨_, rfl⟩
            have HM1 : Hid (Merged ltE U1 V1 S1) := Lib.hid (by rw [hS1]; exact merged_or HS4.out.1 HS4.out.2.2.1 (.inr HV1.out))
            have HR3 : Hid (ERow w0 wr g ((A ++ S1) ++ U2 ++ V2 ++ C)) := Lib.hid (by rw [hS1]; simpa only [List.append_assoc] using HR2.out)
            have HL1 : Hid (S1.length = U1.length + V1.length) := Lib.hid (by rw [hS1, List.length_append])
            clear hS1
            have HC := Lib.hid (HIH.out w0 wr g c N d e b (A ++ S1) U2 V2 C LC.out.1 HR3.out (by rw [HNN.out]; have := HL1.out; simp only [List.length_append]; omega) (by rw [List.length_append, HL1.out]; exact LC.out.2.1) LC.out.2.2.1 LC.out.2.2.2.1 LC.out.2.2.2.2.1 LC.out.2.2.2.2.2 HS4.out.2.1 HS4.out.2.2.2 hbig)
            go_wp2_with fail
            refine HC.out.mono ?_
            rintro e' w4 ⟨rfl, S2, hm2, hr4⟩
            have HM2 := Lib.hid hm2
            have HR4 := Lib.hid hr4
            clear hr4 hm2 HC
            go_wp2
            refine bodyPost_end (results_none rfl _ _ _) rfl ?_
            exact ⟨rfl, S1 ++ S2, HFIN.out _ _ HM1.out HM2.out, by simpa only [List.append_assoc] using HR4.out⟩
          · have g1 : (s : Int) < (m : Int) := by omega
            have g2 : (m : Int) < (e : Int) := by omega
            have g3 : (s : Int) < (d : Int) := by omega
            have g4 : (d : Int) < (e : Int) := by omega
            have LA1 : Hid (s = (A ++ U1).length ∧ m = (A ++ U1).length + U2.length ∧ e = (A ++ U1).length + U2.length + V1.length ∧ 0 < U2.length ∧ 0 < V1.length) := Lib.hid (by
              have h1 := HLEN.out
              have h2 := HA.out
              rw [List.length_append]
              clear HLEN HA HNN HFIN
              omega)
            clear c1 c3
            by_cases c4 : a < s
            · have g5 : (a : Int) < (s : Int) := by omega
              have LB : Hid (d - a ≤ kk ∧ s = a + U1.length ∧ d = s + V1.length ∧ 0 < U1.length ∧ 0 < V1.length) := Lib.hid (by
                have h1 := HLEN.out
                omega)
              by_cases c5 : e < b
              · have g6 : (e : Int) < (b : Int) := by omega
                have LC : Hid (b - d ≤ kk ∧ d = A.length + (U1.length + V1.length) ∧ e = d + U2.length ∧ b = e + V2.length ∧ 0 < U2.length ∧ 0 < V2.length) := Lib.hid (by
                  have h1 := HLEN.out
                  have h2 := HA.out
                  omega)
                have HC := Lib.hid (rotate_any w0 wr g c N s m e (.func (.func 48) #[] #[]) (A ++ U1) U2 V1 (V2 ++ C) (by simpa only [List.append_assoc] using HR0.out) (by rw [HNN.out]) LA1.out.1 LA1.out.2.1 LA1.out.2.2.1 LA1.out.2.2.2.1 LA1.out.2.2.2.2 hbig)
                go_wp2_with fail
                refine HC.out.mono ?_
                rintro e' w2 ⟨rfl, hr2⟩
                have HR2 : Hid (ERow w0 w2 g (A ++ U1 ++ V1 ++ (U2 ++ (V2 ++ C)))) := Lib.hid (by simpa only [List.append_assoc] using hr2)
                clear hr2 HC
                have HC := Lib.hid (HIH.out w0 w2 g c N a s d A U1 V1 (U2 ++ (V2 ++ C)) LB.out.1 HR2.out (by rw [HNN.out]; simp only [List.length_append]; omega) HA.out LB.out.2.1 LB.out.2.2.1 LB.out.2.2.2.1 LB.out.2.2.2.2 HS4.out.1 HS4.out.2.2.1 hbig)
                go_wp2_with fail
                refine HC.out.mono ?_
                rintro e' w3 ⟨rfl, S1, hm1, hr3⟩
                have hl1 := hm1.2.length
                have HM1 := Lib.hid hm1
                have HR3 : Hid (ERow w0 w3 g ((A ++ S1) ++ U2 ++ V2 ++ C)) := Lib.hid (by simpa only [List.append_assoc] using hr3)
                have HL1 : Hid (S1.length = U1.length + V1.length) := Lib.hid (by rw [hl1, List.length_append])
                clear hr3 hm1 hl1 HC
                have HC := Lib.hid (HIH.out w0 w3 g c N d e b (A ++ S1) U2 V2 C LC.out.1 HR3.out (by rw [HNN.out]; have := HL1.out; simp only [List.length_append]; omega) (by rw [List.length_append, HL1.out]; exact LC.out.2.1) LC.out.2.2.1 LC.out.2.2.2.1 LC.out.2.2.2.2.1 LC.out.2.2.2.2.2 HS4.out.2.1 HS4.out.2.2.2 hbig)
                go_wp2_with fail
                refine HC.out.mono ?_
                rintro e' w4 ⟨rfl, S2, hm2, hr4⟩
                have HM2 := Lib.hid hm2
                have HR4 := Lib.hid hr4
                clear hr4 hm2 HC
                go_wp2
                refine bodyPost_end (results_none rfl _ _ _) rfl ?_
                exact ⟨rfl, S1 ++ S2, HFIN.out _ _ HM1.out HM2.out, by simpa only [List.append_assoc] using HR4.out⟩
              · have g6 : ¬ (e : Int) < (b : Int) := by omega
                have HV2 : Hid (V2 = []) := Lib.hid (List.eq_nil_of_length_eq_zero (by have h1 := HLEN.out; omega))
                have HC := Lib.hid (rotate_any w0 wr g c N s m e (.func (.func 48) #[] #[]) (A ++ U1) U2 V1 (V2 ++ C) (by simpa only [List.append_assoc] using HR0.out) (by rw [HNN.out]) LA1.out.1 LA1.out.2.1 LA1.out.2.2.1 LA1.out.2.2.2.1 LA1.out.2.2.2.2 hbig)
                go_wp2_with fail
                refine HC.out.mono ?_
                rintro e' w2 ⟨rfl, hr2⟩
                have HR2 : Hid (ERow w0 w2 g (A ++ U1 ++ V1 ++ (U2 ++ (V2 ++ C)))) := Lib.hid (by simpa only [List.append_assoc] using hr2)
                clear hr2 HC
                have HC := Lib.hid (HIH.out w0 w2 g c N a s d A U1 V1 (U2 ++ (V2 ++ C)) LB.out.1 HR2.out (by rw [HNN.out]; simp only [List.length_append]; omega) HA.out LB.out.2.1 LB.out.2.2.1 LB.out.2.2.2.1 LB.out.2.2.2.2 HS4.out.1 HS4.out.2.2.1 hbig)
                go_wp2_with fail
                refine HC.out.mono ?_
                rintro e' w3 ⟨rfl, S1, hm1, hr3⟩
                have hl1 := hm1.2.length
                have HM1 := Lib.hid hm1
                have HR3 : Hid (ERow w0 w3 g ((A ++ S1) ++ U2 ++ V2 ++ C)) := Lib.hid (by simpa only [List.append_assoc] using hr3)
                have HL1 : Hid (S1.length = U1.length + V1.length) := Lib.hid (by rw [hl1, List.length_append])
                clear hr3 hm1 hl1 HC
                have HM2 := Lib.hid (merged_or HS4.out.2.1 HS4.out.2.2.2 (.inr HV2.out))
                go_wp2
                refine bodyPost_end (results_none rfl _ _ _) rfl ?_
                exact ⟨rfl, S1 ++ (U2 ++ V2), HFIN.out _ _ HM1.out HM2.out, by simpa only [List.append_assoc] using HR3.out⟩
            · have g5 : ¬ (a : Int) < (s : Int) := by omega
              have HU1 : Hid (U1 = []) := Lib.hid (List.eq_nil_of_length_eq_zero (by have h1 := HLEN.out; omega))
              by_cases c5 : e < b
              · have g6 : (e : Int) < (b : Int) := by omega
                have LC : Hid (b - d ≤ kk ∧ d = A.length + (U1.length + V1.length) ∧ e = d + U2.length ∧ b = e + V2.length ∧ 0 < U2.length ∧ 0 < V2.length) := Lib.hid (by
                  have h1 := HLEN.out
                  have h2 := HA.out
                  omega)
                have HC := Lib.hid (rotate_any w0 wr g c N s m e (.func (.func 48) #[] #[]) (A ++ U1) U2 V1 (V2 ++ C) (by simpa only [List.append_assoc] using HR0.out) (by rw [HNN.out]) LA1.out.1 LA1.out.2.1 LA1.out.2.2.1 LA1.out.2.2.2.1 LA1.out.2.2.2.2 hbig)
                go_wp2_with fail
                refine HC.out.mono ?_
                rintro e' w2 ⟨rfl, hr2⟩
                have HR2 : Hid (ERow w0 w2 g (A ++ U1 ++ V1 ++ (U2 ++ (V2 ++ C)))) := Lib.hid (by simpa only [List.append_assoc] using hr2)
                clear hr2 HC
                obtain ⟨S1, hS1⟩ : ∃ S1, S1 = U1 ++ V1 := ⟨_, rfl⟩
                have HM1 : Hid (Merged ltE U1 V1 S1) := Lib.hid (by rw [hS1]; exact merged_or HS4.out.1 HS4.out.2.2.1 (.inl HU1.out))
                have HR3 : Hid (ERow w0 w2 g ((A ++ S1) ++ U2 ++ V2 ++ C)) := Lib.hid (by rw [hS1]; simpa only [List.append_assoc] using HR2.out)
                have HL1 : Hid (S1.length = U1.length + V1.length) := Lib.hid (by rw [hS1, List.length_append])
                clear hS1
                have HC := Lib.hid (HIH.out w0 w2 g c N d e b (A ++ S1) U2 V2 C LC.out.1 HR3.out (by rw [HNN.out]; have := HL1.out; simp only [List.length_append]; omega) (by rw [List.length_append, HL1.out]; exact LC.out.2.1) LC.out.2.2.1 LC.out.2.2.2.1 LC.out.2.2.2.2.1 LC.out.2.2.2.2.2 HS4.out.2.1 HS4.out.2.2.2 hbig)
                go_wp2_with fail
                refine HC.out.mono ?_
                rintro e' w4 ⟨rfl, S2, hm2, hr4⟩
                have HM2 := Lib.hid hm2
                have HR4 := Lib.hid hr4
                clear hr4 hm2 HC
                go_wp2
                refine bodyPost_end (results_none rfl _ _ _) rfl ?_
                exact ⟨rfl, S1 ++ S2, HFIN.out _ _ HM1.out HM2.out, by simpa only [List.append_assoc] using HR4.out⟩
              · have g6 : ¬ (e : Int) < (b : Int) := by omega
                have HV2 : Hid (V2 = []) := Lib.hid (List.eq_nil_of_length_eq_zero (by have h1 := HLEN.out; omega))
                have HC := Lib.hid (rotate_any w0 wr g c N s m e (.func (.func 48) #[] #[]) (A ++ U1) U2 V1 (V2 ++ C) (by simpa only [List.append_assoc] using HR0.out) (by rw [HNN.out]) LA1.out.1 LA1.out.2.1 LA1.out.2.2.1 LA1.out.2.2.2.1 LA1.out.2.2.2.2 hbig)
                go_wp2_with fail
                refine HC.out.mono ?_
                rintro e' w2 ⟨rfl, hr2⟩
                have HR2 : Hid (ERow w0 w2 g (A ++ U1 ++ V1 ++ (U2 ++ (V2 ++ C)))) := Lib.hid (by simpa only [List.append_assoc] using hr2)
                clear hr2 HC
                obtain ⟨S1, hS1⟩ : ∃ S1, S1 = U1 ++ V1 := ⟨_, rfl⟩
                have HM1 : Hid (Merged ltE U1 V1 S1) := Lib.hid (by rw [hS1]; exact merged_or HS4.out.1 HS4.out.2.2.1 (.inl HU1.out))
                have HR3 : Hid (ERow w0 w2 g ((A ++ S1) ++ U2 ++ V2 ++ C)) := Lib.hid (by rw [hS1]; simpa only [List.append_assoc] using HR2.out)
                have HL1 : Hid (S1.length = U1.length + V1.length) := Lib.hid (by rw [hS1, List.length_append])
                clear hS1
                have HM2 := Lib.hid (merged_or HS4.out.2.1 HS4.out.2.2.2 (.inr HV2.out))
                go_wp2
                refine bodyPost_end (results_none rfl _ _ _) rfl ?_
                exact ⟨rfl, S1 ++ (U2 ++ V2), HFIN.out _ _ HM1.out HM2.out, by simpa only [List.append_assoc] using HR3.out⟩
theorem sym_all : ∀ k, SymAll k := by
  intro k
  induction k with
  | zero => intro w0 W g c N a m b A U V C hk h hN ha hm hb hU hV; omega
  | succ k ih =>
    intro w0 W g c N a m b A U V C hk h hN ha hm hb hU hV hsU hsV hbig
    by_cases h1 : U.length = 1
    · obtain ⟨u, rfl⟩ := List.length_eq_one_iff.1 h1
      exact sym1_any w0 W g c N a m b A V C u h hN ha (by simpa using hm) hb hsV hbig
    · by_cases h2 : V.length = 1
      · obtain ⟨v, rfl⟩ := List.length_eq_one_iff.1 h2
        exact sym2_any w0 W g c N a m b A U C v h hN ha hm (by simpa using hb) (by omega) hsU hbig
      · exact symG_any k ih w0 W g c N a m b A U V C hk h hN ha hm hb (by omega) (by omega) hsU hsV hbig
end Go.Proofs.Ytcfgmkiohmbdlaa
