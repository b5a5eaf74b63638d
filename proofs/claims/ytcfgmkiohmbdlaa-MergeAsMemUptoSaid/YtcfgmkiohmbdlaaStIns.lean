/- Stable sorting: slices.insertionSortCmpFunc, walked. -/
import Derived.Test.YtcfgmkiohmbdlaaStSym2
import Derived.Deep.QuietTactic
namespace Go.Proofs.Ytcfgmkiohmbdlaa
open Go.RowKit
theorem last_ge {P : List Ent} {x : Ent} (hs : Srt ltE P) {k : Nat} (hk : k + 1 = P.length) (h : ltE x (P[k]'(by omega)) = false) : ∀ u ∈ P, ltE x u = false := by
  have := srt_take_ge hs (k := k) (by omega) h
  rwa [List.take_of_length_le (by omega)] at this
theorem ins_done {B X P Q : List Ent} {x : Ent} {t : Nat} (hT : B.take (t + 1) = B.take t ++ [x]) (hsx : Srt ltE X) (hst : Stab ltE (B.take t) X) (hpq : X = P ++ Q) (hq : ∀ q ∈ Q, ltE x q = true) (hp : ∀ u ∈ P, ltE x u = false) :
    Srt ltE (P ++ x :: Q) ∧ Stab ltE (B.take (t + 1)) (P ++ x :: Q) := by
  subst hpq
  have hm := merged_last swoE (v := x) hsx hp hq
  refine ⟨hm.1, ?_⟩
  rw [hT]
  exact (hst.append (Stab.refl [x])).trans hm.2
/-- What ordering in its place leaves. -/
def InsPost (w0 : World) (g : Nat) (A B C : List Ent) (e : Ending) (w' : World) : Prop := e = .returned (.tuple #[]) ∧ ∃ S, Srt ltE S ∧ Stab ltE B S ∧ ERow w0 w' g (A ++ S ++ C)
set_option maxHeartbeats 8000000 in
set_option maxRecDepth 20000 in
theorem ins_any (w0 W : World) (g c N a b : Nat) (A B C : List Ent) (h : ERow w0 W g (A ++ B ++ C)) (hN : N = (A ++ B ++ C).length) (ha : a = A.length) (hb : b = a + B.length) (hbig : N ≤ 1099511627776) :
    Calls Try.prog 115 #[.slice (some ⟨g, 0, none⟩) N c, .int .i64 a, .int .i64 b, .func (.func 48) #[] #[]] W (InsPost w0 g A B C) := by
  have hl : b ≤ N ∧ N = a + B.length + C.length := by rw [hN]; simp only [List.length_append]; omega
  have hbN := hl.1
  have hab : a ≤ b := by omega
  have HA := Lib.hid ha
  have HB := Lib.hid hb
  have HN := Lib.hid hl.2
  have H0 := Lib.hid h
  clear hN ha hb h hl
  go_enter Try.func115, Try.ntmps115
  go_wp2
  go_loopw [8] (fun iv wx => ∃ i : Nat, iv = .int .i64 i ∧ a < i ∧ i ≤ b + 1 ∧ Hid (∃ X, Srt ltE X ∧ Stab ltE (B.take (i - a)) X ∧ ERow w0 wx g (A ++ X ++ (B.drop (i - a) ++ C)))) (fun iv _ => b + 1 - (intOf iv).toNat)
  case atStart =>
    refine ⟨a + 1, by go_num, by omega, by omega, Lib.hid ⟨B.take 1, ?_, ?_, ?_⟩⟩
    · cases B with
      | nil => exact List.Pairwise.nil
      | cons x B => exact List.pairwise_singleton _ _
    · rw [show a + 1 - a = 1 by omega]; exact Stab.refl _
    · rw [show a + 1 - a = 1 by omega, show A ++ B.take 1 ++ (B.drop 1 ++ C) = A ++ B ++ C by rw [← List.append_assoc, List.append_assoc A, List.take_append_drop]]
      exact H0.out
  case round =>
    obtain ⟨i, rfl, h1, h2, HX⟩ := hrel
    by_cases hib : i < b
    · have hib' : (i : Int) < (b : Int) := by omega
      obtain ⟨X, hsx, hst, hrow⟩ := HX.out
      have hk : i - a < B.length := by have := HB.out; omega
      have hxl : X.length = i - a := by have := hst.length; rw [List.length_take] at this; omega
      rw [List.drop_eq_getElem_cons hk] at hrow
      have hT := List.take_succ_eq_append_getElem hk
      obtain ⟨x, hx⟩ : ∃ x, B[i - a] = x := ⟨_, rfl⟩
      obtain ⟨R, hR⟩ : ∃ R, B.drop (i - a + 1) = R := ⟨_, rfl⟩
      rw [hx] at hrow hT
      rw [hR] at hrow
      have HT := Lib.hid hT
      have HRR := Lib.hid hR
      have HSX := Lib.hid hsx
      have HST := Lib.hid hst
      have HXL := Lib.hid hxl
      have HR0 : Hid (ERow w0 wr g (A ++ X ++ x :: ([] ++ (R ++ C)))) := Lib.hid (by simpa using hrow)
      clear hsx hst hrow hk hxl hx hR HX hT
      go_wp2
      go_loopw [9] (fun jv wx => ∃ j : Nat, jv = .int .i64 j ∧ a ≤ j ∧ j ≤ i ∧ Hid (∃ P Q, X = P ++ Q ∧ P.length = j - a ∧ (∀ q ∈ Q, ltE x q = true) ∧ ERow w0 wx g (A ++ P ++ x :: (Q ++ (R ++ C))))) (fun jv _ => (intOf jv).toNat)
      case atStart => exact ⟨i, rfl, by omega, Nat.le_refl _, Lib.hid ⟨X, [], by simp, HXL.out, by simp, HR0.out⟩⟩
      case round =>
        clear HR0
        obtain ⟨j, rfl, j1, j2, HQ⟩ := hrel
        obtain ⟨P, Q, hpq, hpl, hq, hrow⟩ := HQ.out
        by_cases hja : a < j
        · obtain ⟨p, rfl⟩ : ∃ p, j = p + 1 := ⟨j - 1, by omega⟩
          obtain ⟨P', y, rfl⟩ : ∃ P' y, P = P' ++ [y] := by
            rcases List.eq_nil_or_concat P with h | ⟨P', y, h⟩
            · subst h; simp at hpl; omega
            · exact ⟨P', y, by rw [h]; simp⟩
          have hpl' : P'.length = p - a := by rw [List.length_append] at hpl; simp at hpl; omega
          have hsP : Srt ltE (P' ++ [y]) := by have h := HSX.out; rw [hpq] at h; exact h.left
          have hi : p = (A ++ P').length := by have := HA.out; rw [List.length_append]; omega
          have hR3 : ERow w0 wr g ((A ++ P') ++ y :: ([] ++ x :: (Q ++ (R ++ C)))) := by simpa using hrow
          have hR4 : ERow w0 wr g ((A ++ P' ++ [y]) ++ x :: (Q ++ (R ++ C))) := by simpa using hrow
          have hci := hR3.at_ hi
          have hcj := hR4.at_ (i := p + 1) (by rw [List.length_append, ← hi] <;> rfl)
          have hjz : (a : Int) < (p : Int) + 1 := by omega
          have hwp : IntKind.i64.wrap (p : Int) = (p : Int) := by rw [IntKind.wrap_i64]; omega
          have o1 : ((p : Int) + 1).toNat = p + 1 := by omega
          have pN : p + 1 < N := by omega
          have p0 : (0 : Int) ≤ (p : Int) + 1 := by omega
          have pz : (p : Int) + 1 < (N : Int) := by omega
          have pz1 : (p : Int) < (N : Int) := by omega
          have HR3 := Lib.hid hR3
          have HPQ := Lib.hid hpq
          have HPL := Lib.hid hpl'
          have HSP := Lib.hid hsP
          have HIP := Lib.hid hi
          have HQQ := Lib.hid hq
          clear hR3 hR4 hrow HQ hpq hpl hpl' hsP hi hq
          obtain ⟨x1, x2, x3, x4⟩ := x
          obtain ⟨y1, y2, y3, y4⟩ := y
          obtain ⟨p1, p2, p3, p4⟩ := hci
          obtain ⟨r1, r2, r3, r4⟩ := hcj
          go_wp2
          go_still_tail 14, (by kernel_rfl)
          repeat still_step
          try refine wpStill_nil ?_
          change wpList _ _ _ _ _ wr.drew
          have HD := Lib.hid HR3.out.drew
          have HCmp := Lib.hid (mcmp_any wr.drew ⟨x1, x2, x3, x4⟩ ⟨y1, y2, y3, y4⟩)
          obtain ⟨z, hz⟩ : ∃ z, cmpE ⟨x1, x2, x3, x4⟩ ⟨y1, y2, y3, y4⟩ = z := ⟨_, rfl⟩
          rw [hz] at HCmp
          have HZ := Lib.hid hz
          clear p1 p2 p3 p4 r1 r2 r3 r4 hz
          go_wp2_with fail
          refine HCmp.out.mono ?_
          rintro e w2 ⟨rfl, hb2⟩
          have HR2 := Lib.hid (HD.out.below hb2)
          clear hb2 HCmp HD HR3
          by_cases hz0 : z < 0
          · have hz1 : decide (z < 0) = true := decide_eq_true hz0
            have hQ2 : ∀ q ∈ (⟨y1, y2, y3, y4⟩ : Ent) :: Q, ltE ⟨x1, x2, x3, x4⟩ q = true := fun q hq => by
              rcases List.mem_cons.1 hq with rfl | hq
              · exact decide_eq_true (by rw [HZ.out]; exact hz0)
              · exact HQQ.out q hq
            have HQ2 := Lib.hid hQ2
            have hci := HR2.out.at_ HIP.out
            have hcj := (show ERow w0 w2 g ((A ++ P' ++ [(⟨y1, y2, y3, y4⟩ : Ent)]) ++ ⟨x1, x2, x3, x4⟩ :: (Q ++ (R ++ C))) by simpa using HR2.out).at_ (i := p + 1) (by rw [List.length_append, ← HIP.out] <;> rfl)
            obtain ⟨p1, p2, p3, p4⟩ := hci
            obtain ⟨r1, r2, r3, r4⟩ := hcj
            have hfr := HR2.out.free
            have f1 := hfr (p * 4)
            have f2 := hfr (p * 4 + 1)
            have f3 := hfr (p * 4 + 2)
            have f4 := hfr (p * 4 + 3)
            have f5 := hfr ((p + 1) * 4)
            have f6 := hfr ((p + 1) * 4 + 1)
            have f7 := hfr ((p + 1) * 4 + 2)
            have f8 := hfr ((p + 1) * 4 + 3)
            have HSW := Lib.hid (HR2.out.swap' (i := p) (j := p + 1) HIP.out (by rw [← HIP.out] <;> rfl)).drew
            clear hfr hQ2
            go_wp2
            go_region
            go_wp2
            go_roundw
            case rel => exact ⟨p, rfl, by omega, by omega, Lib.hid ⟨P', _ :: Q, by rw [HPQ.out]; simp, HPL.out, HQ2.out, by simpa using HSW.out⟩⟩
            case measure => first | (simp [intOf]; done) | (simp [intOf]; omega)
          · have hz1 : decide (z < 0) = false := decide_eq_false hz0
            have hp : ∀ u ∈ P' ++ [(⟨y1, y2, y3, y4⟩ : Ent)], ltE ⟨x1, x2, x3, x4⟩ u = false := last_ge HSP.out (k := P'.length) (by simp) (by simp; exact decide_eq_false (by rw [HZ.out]; exact hz0))
            obtain ⟨d1, d2⟩ := ins_done HT.out HSX.out HST.out HPQ.out HQQ.out hp
            have HDN : Hid (∃ X, Srt ltE X ∧ Stab ltE (B.take (i + 1 - a)) X ∧ ERow w0 w2 g (A ++ X ++ (B.drop (i + 1 - a) ++ C))) := Lib.hid ⟨_, d1, by rw [show i + 1 - a = i - a + 1 by omega]; exact d2, by
              rw [show i + 1 - a = i - a + 1 by omega, HRR.out]
              have h := HR2.out
              simpa using h⟩
            clear hp d1 d2
            go_wp2
            go_roundw
            case rel => exact ⟨i + 1, by go_num, by omega, by omega, HDN⟩
            case measure => simp [intOf]; omega
        · obtain rfl : j = a := by omega
          have hp0 : P = [] := List.eq_nil_of_length_eq_zero (by omega)
          subst hp0
          obtain ⟨d1, d2⟩ := ins_done HT.out HSX.out HST.out hpq hq (by simp)
          have HDN : Hid (∃ X, Srt ltE X ∧ Stab ltE (B.take (i + 1 - j)) X ∧ ERow w0 wr.drew g (A ++ X ++ (B.drop (i + 1 - j) ++ C))) := Lib.hid ⟨_, d1, by rw [show i + 1 - j = i - j + 1 by omega]; exact d2, by
            rw [show i + 1 - j = i - j + 1 by omega, HRR.out]
            have h := hrow.drew
            simpa using h⟩
          have HDR : Hid (∀ n, ∃ X, Srt ltE X ∧ Stab ltE (B.take (i + 1 - j)) X ∧ ERow w0 (wr.drewN n) g (A ++ X ++ (B.drop (i + 1 - j) ++ C))) := Lib.hid fun n => ⟨_, d1, by rw [show i + 1 - j = i - j + 1 by omega]; exact d2, by
            rw [show i + 1 - j = i - j + 1 by omega, HRR.out]
            have h := hrow.drewN n
            simpa using h⟩
          have hja' : decide ((j : Int) > (j : Int)) = false := decide_eq_false (by omega)
          clear hja d1 d2 hpq hpl hq hrow HQ
          go_wp2
          go_quiet (fail)
          go_wp2
          go_roundw
          case rel => exact ⟨i + 1, by go_num, by omega, by omega, Lib.hid (HDR.out _)⟩
          case measure => simp [intOf]; omega
    · have HF : Hid (∃ S, Srt ltE S ∧ Stab ltE B S ∧ ERow w0 wr g (A ++ S ++ C)) := Lib.hid (by
        obtain ⟨X, d1, d2, d3⟩ := HX.out
        have h := HB.out
        rw [List.take_of_length_le (by omega)] at d2
        rw [List.drop_of_length_le (by omega), List.nil_append] at d3
        exact ⟨X, d1, d2, d3⟩)
      have hib' : ¬ (i : Int) < (b : Int) := by omega
      clear HX
      go_wp2
      refine bodyPost_end (results_none rfl _ _ _) rfl ?_
      exact ⟨rfl, HF.out⟩
end Go.Proofs.Ytcfgmkiohmbdlaa
