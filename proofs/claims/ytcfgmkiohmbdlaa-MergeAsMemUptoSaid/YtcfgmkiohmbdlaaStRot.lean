/- Stable sorting: slices.rotateCmpFunc, walked. -/
import Derived.Test.YtcfgmkiohmbdlaaStSwap
namespace Go.Proofs.Ytcfgmkiohmbdlaa
open Go.RowKit
set_option maxHeartbeats 4000000 in
set_option maxRecDepth 20000 in
theorem rotate_any (w0 W : World) (g c N a m b : Nat) (F : Value) (A U V C : List Ent) (h : ERow w0 W g (A ++ U ++ V ++ C)) (hN : N = (A ++ U ++ V ++ C).length) (ha : a = A.length) (hm : m = A.length + U.length) (hb : b = A.length + U.length + V.length)
    (hU : 0 < U.length) (hV : 0 < V.length) (hbig : N ≤ 1099511627776) :
    Calls Try.prog 131 #[.slice (some ⟨g, 0, none⟩) N c, .int .i64 a, .int .i64 m, .int .i64 b, F] W fun e w' => e = .returned (.tuple #[]) ∧ ERow w0 w' g (A ++ V ++ U ++ C) := by
  have h1 : m ≤ N ∧ b ≤ N ∧ a ≤ m ∧ m ≤ b ∧ U.length = m - a ∧ V.length = b - m := by rw [hN]; simp only [List.length_append]; omega
  obtain ⟨h1, h2, h3, h4, h5, h6⟩ := h1
  have HM := Lib.hid hm
  have HA := Lib.hid ha
  have H0 := Lib.hid h
  have HNN := Lib.hid hN
  have HL := Lib.hid (And.intro h5 h6)
  have hlt1 : a < m := by omega
  have hlt2 : m < b := by omega
  clear hN ha hm hb h hU hV h5 h6
  go_enter Try.func131, Try.ntmps131
  go_wp2
  have e1 : (m : Int) - (a : Int) = ((m - a : Nat) : Int) := by omega
  have e2 : (b : Int) - (m : Int) = ((b - m : Nat) : Int) := by omega
  rw [e1, e2]
  clear e1 e2
  go_loopw [10, 11] (fun iv jv wx => ∃ (i j : Nat) (A' U' V' C' : List Ent), iv = .int .i64 i ∧ jv = .int .i64 j ∧ 0 < i ∧ 0 < j ∧ i ≤ m ∧ m + j ≤ N ∧ Hid (i = U'.length ∧ j = V'.length ∧ A'.length + i = m ∧ A ++ V ++ U ++ C = A' ++ V' ++ U' ++ C') ∧ Hid (ERow w0 wx g (A' ++ U' ++ V' ++ C'))) (fun iv jv _ => (intOf iv).toNat + (intOf jv).toNat)
  case atStart => exact ⟨m - a, b - m, A, U, V, C, rfl, rfl, by omega, by omega, by omega, by omega, Lib.hid ⟨HL.out.1.symm, HL.out.2.symm, by have := HA.out; omega, rfl⟩, H0⟩
  case round =>
    obtain ⟨i, j, A', U', V', C', rfl, rfl, hi0, hj0, him, hmj, HQ, HR⟩ := hrel
    have q1 := HQ.out.1
    have q2 := HQ.out.2.1
    have q3 := HQ.out.2.2.1
    have hNl : N = (A' ++ U' ++ V' ++ C').length := by
      have h := congrArg List.length HQ.out.2.2.2
      have h2 := HNN.out
      simp only [List.length_append] at h h2 ⊢
      omega
    have HNl := Lib.hid hNl
    rcases Nat.lt_trichotomy i j with hij | hij | hij
    · obtain ⟨V1, V2, hvv, hv2⟩ : ∃ V1 V2, V' = V1 ++ V2 ∧ V2.length = i := ⟨V'.take (j - i), V'.drop (j - i), (List.take_append_drop _ _).symm, by rw [List.length_drop]; omega⟩
      have hv1 : V1.length = j - i := by rw [q2, hvv, List.length_append]; omega
      have hrow : ERow w0 wr g (A' ++ U' ++ V1 ++ V2 ++ C') := by have h := HR.out; rw [hvv] at h; simpa only [List.append_assoc] using h
      have ht : A ++ V ++ U ++ C = A' ++ V1 ++ V2 ++ (U' ++ C') := by rw [HQ.out.2.2.2, hvv]; simp only [List.append_assoc]
      have hc := swapR_any w0 wr g c N (m - i) (m + j - i) i F A' U' V1 V2 C' hrow (by rw [hNl, hvv]; simp only [List.length_append]; omega) (by omega) (by omega) q1 hv2.symm hbig
      have HC := Lib.hid hc
      have HT := Lib.hid ht
      have HV := Lib.hid (And.intro hv1 hv2)
      have HQ3 := Lib.hid q3
      have hne : ((i : Int) == (j : Int)) = false := beq_eq_false_iff_ne.2 (by omega)
      have hne2 : ((i : Int) != (j : Int)) = true := by rw [bne_iff_ne]; omega
      have d1 : (m : Int) - (i : Int) = ((m - i : Nat) : Int) := by omega
      have d2 : (m : Int) + (j : Int) - (i : Int) = ((m + j - i : Nat) : Int) := by omega
      clear q1 q2 q3 hNl hvv hv1 hv2 hrow ht hc HQ
      go_wp2_with fail
      refine HC.out.mono ?_
      rintro e w2 ⟨rfl, hr2⟩
      have HR2 : Hid (ERow w0 w2 g (A' ++ V2 ++ V1 ++ (U' ++ C'))) := Lib.hid (by simpa only [List.append_assoc] using hr2)
      clear hr2 HC d1 d2
      go_wp2
      go_roundw
      case rel => exact ⟨i, j - i, A', V2, V1, U' ++ C', rfl, by rw [show (j : Int) - (i : Int) = ((j - i : Nat) : Int) by omega], hi0, by omega, him, by omega, Lib.hid ⟨HV.out.2.symm, HV.out.1.symm, HQ3.out, HT.out⟩, HR2⟩
      case measure => simp [intOf]; omega
    · subst hij
      have hrow : ERow w0 wr g (A' ++ U' ++ [] ++ V' ++ C') := by have h := HR.out; simpa only [List.append_nil] using h
      have hc := swapR_any w0 wr g c N (m - i) m i F A' U' [] V' C' hrow (by rw [hNl]; simp only [List.length_append, List.append_nil]) (by omega) (by simp only [List.length_nil]; omega) q1 q2 hbig
      have HC := Lib.hid hc
      have HT := Lib.hid HQ.out.2.2.2
      have d1 : (m : Int) - (i : Int) = ((m - i : Nat) : Int) := by omega
      clear q1 q2 q3 hNl hrow hc HQ
      go_wp2_with fail
      refine HC.out.mono ?_
      rintro e w2 ⟨rfl, hr2⟩
      have HR2 : Hid (ERow w0 w2 g (A ++ V ++ U ++ C)) := Lib.hid (by rw [HT.out]; simpa only [List.append_assoc, List.nil_append] using hr2)
      clear hr2 HC d1
      go_wp2
      refine bodyPost_end (results_none rfl _ _ _) rfl ?_
      exact ⟨rfl, HR2.out⟩
    · obtain ⟨U1, U2, huu, hu1⟩ : ∃ U1 U2, U' = U1 ++ U2 ∧ U1.length = j := ⟨U'.take j, U'.drop j, (List.take_append_drop _ _).symm, by rw [List.length_take]; omega⟩
      have hu2 : U2.length = i - j := by rw [q1, huu, List.length_append]; omega
      have hrow : ERow w0 wr g (A' ++ U1 ++ U2 ++ V' ++ C') := by have h := HR.out; rw [huu] at h; simpa only [List.append_assoc] using h
      have ht : A ++ V ++ U ++ C = (A' ++ V') ++ U1 ++ U2 ++ C' := by rw [HQ.out.2.2.2, huu]; simp only [List.append_assoc]
      have hc := swapR_any w0 wr g c N (m - i) m j F A' U1 U2 V' C' hrow (by rw [hNl, huu]; simp only [List.length_append]; omega) (by omega) (by omega) hu1.symm q2 hbig
      have HC := Lib.hid hc
      have HT := Lib.hid ht
      have HV := Lib.hid (And.intro hu1 hu2)
      have HQ3 := Lib.hid (show (A' ++ V').length + (i - j) = m by rw [List.length_append]; omega)
      have hne : ((i : Int) == (j : Int)) = false := beq_eq_false_iff_ne.2 (by omega)
      have hne2 : ((i : Int) != (j : Int)) = true := by rw [bne_iff_ne]; omega
      have d1 : (m : Int) - (i : Int) = ((m - i : Nat) : Int) := by omega
      clear q1 q2 q3 hNl huu hu1 hu2 hrow ht hc HQ
      go_wp2_with fail
      refine HC.out.mono ?_
      rintro e w2 ⟨rfl, hr2⟩
      have HR2 : Hid (ERow w0 w2 g ((A' ++ V') ++ U2 ++ U1 ++ C')) := Lib.hid (by simpa only [List.append_assoc] using hr2)
      clear hr2 HC d1
      go_wp2
      go_roundw
      case rel => exact ⟨i - j, j, A' ++ V', U2, U1, C', by rw [show (i : Int) - (j : Int) = ((i - j : Nat) : Int) by omega], rfl, by omega, hj0, by omega, hmj, Lib.hid ⟨HV.out.2.symm, HV.out.1.symm, HQ3.out, HT.out⟩, HR2⟩
      case measure => simp [intOf]; omega
end Go.Proofs.Ytcfgmkiohmbdlaa
