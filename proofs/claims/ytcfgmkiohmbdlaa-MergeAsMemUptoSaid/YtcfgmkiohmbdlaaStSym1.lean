/- Stable sorting: slices.symMergeCmpFunc at one element ahead of a row, walked. -/
import Derived.Test.YtcfgmkiohmbdlaaStRot
import Derived.Test.YtcfgmkiohmbdlaaMgCmp
import Derived.Test.YtcfgmkiohmbdlaaMgP
import Derived.StillTailTactics
namespace Go.Proofs.Ytcfgmkiohmbdlaa
open Go.RowKit
theorem srt_take_lt {V : List Ent} {u : Ent} (hs : Srt ltE V) {k : Nat} (hk : k < V.length) (h : ltE V[k] u = true) : ∀ v ∈ V.take (k + 1), ltE v u = true := by
  intro v hv
  obtain ⟨i, hi, rfl⟩ := List.mem_iff_getElem.1 hv
  have hi' : i < k + 1 ∧ i < V.length := by rw [List.length_take] at hi; omega
  rw [List.getElem_take]
  by_cases he : i = k
  · subst he; exact h
  · exact swoE.le_lt (List.pairwise_iff_getElem.1 hs i k hi'.2 hk (by omega)) h
theorem srt_drop_ge {V : List Ent} {u : Ent} (hs : Srt ltE V) {k : Nat} (hk : k < V.length) (h : ltE V[k] u = false) : ∀ v ∈ V.drop k, ltE v u = false := by
  intro v hv
  obtain ⟨i, hi, rfl⟩ := List.mem_iff_getElem.1 hv
  rw [List.length_drop] at hi
  rw [List.getElem_drop]
  by_cases he : i = 0
  · subst he; exact h
  · exact swoE.ntrans u V[k] _ h (List.pairwise_iff_getElem.1 hs k (k + i) hk (by omega) (by omega))
/-- What merging in its place leaves. -/
def SymPost (w0 : World) (g : Nat) (A U V C : List Ent) (e : Ending) (w' : World) : Prop := e = .returned (.tuple #[]) ∧ ∃ S, Merged ltE U V S ∧ ERow w0 w' g (A ++ S ++ C)
set_option maxHeartbeats 4000000 in
set_option maxRecDepth 20000 in
theorem sym1_any (w0 W : World) (g c N a m b : Nat) (A V C : List Ent) (u : Ent) (h : ERow w0 W g (A ++ [u] ++ V ++ C)) (hN : N = (A ++ [u] ++ V ++ C).length) (ha : a = A.length) (hm : m = a + 1) (hb : b = m + V.length)
    (hs : Srt ltE V) (hbig : N ≤ 1099511627776) :
    Calls Try.prog 116 #[.slice (some ⟨g, 0, none⟩) N c, .int .i64 a, .int .i64 m, .int .i64 b, .func (.func 48) #[] #[]] W (SymPost w0 g A [u] V C) := by
  have hl : b ≤ N ∧ N = a + 1 + V.length + C.length := by rw [hN]; simp only [List.length_append, List.length_cons, List.length_nil]; omega
  have hbN := hl.1
  have HA := Lib.hid ha
  have HM := Lib.hid hm
  have HB := Lib.hid hb
  have HN := Lib.hid hl.2
  have HS := Lib.hid hs
  have H0 := Lib.hid h
  have hmb : m ≤ b := by omega
  have ham : a < m := by omega
  have q1 : (((m : Int) - (a : Int)) == 1) = true := by rw [beq_iff_eq]; omega
  clear hN ha hb h hs hl hm
  go_enter Try.func116, Try.ntmps116
  go_wp2
  clear q1
  go_loopw [10, 11] (fun iv jv wx => ∃ i j : Nat, iv = .int .i64 i ∧ jv = .int .i64 j ∧ m ≤ i ∧ i ≤ j ∧ j ≤ b ∧ Hid (∀ v ∈ V.take (i - m), ltE v u = true) ∧ Hid (∀ v ∈ V.drop (j - m), ltE v u = false) ∧ Hid (ERow w0 wx g (A ++ [u] ++ V ++ C))) (fun iv jv _ => (intOf jv - intOf iv).toNat)
  case atStart =>
    refine ⟨m, b, rfl, rfl, Nat.le_refl _, hmb, Nat.le_refl _, Lib.hid (by simp), Lib.hid ?_, H0⟩
    have := HB.out
    rw [List.drop_of_length_le (by omega)]
    intro v hv; cases hv
  case round =>
    obtain ⟨i, j, rfl, rfl, h1, h2, h3, HP, HQ, HR⟩ := hrel
    by_cases hij : i < j
    · go_wp2
      obtain ⟨k, hk⟩ : ∃ k, (i + j) / 2 = k := ⟨_, rfl⟩
      have ek : ((i : Int) + (j : Int)) / 2 = (k : Int) := by omega
      have k1 : i ≤ k := by omega
      have k2 : k < j := by omega
      have k3 : k - m < V.length := by have := HB.out; omega
      rw [ek]
      have hva : (A ++ [u] ++ V ++ C)[k]? = some V[k - m] := by
        have e : A.length + [u].length = m := by rw [HM.out, HA.out]; rfl
        have := look_V (A := A) (U := [u]) (V := V) (C := C) (t := k) (by rw [e]; omega) (by rw [e]; exact k3)
        rw [this]; simp only [e]
      have hua : (A ++ [u] ++ V ++ C)[a]? = some u := by
        have := look_U (A := A) (U := [u]) (V := V) (C := C) (t := a) (by rw [HA.out]; exact Nat.le_refl _) (by rw [HA.out]; simp)
        rw [this]; simp
      have hci := HR.out.look hva
      have hcj := HR.out.look hua
      obtain ⟨V', hV'⟩ : ∃ x, V[k - m] = x := ⟨_, rfl⟩
      have HT := Lib.hid (fun h : ltE V[k - m] u = true => srt_take_lt HS.out k3 h)
      have HF := Lib.hid (fun h : ltE V[k - m] u = false => srt_drop_ge HS.out k3 h)
      rw [hV'] at hci
      simp only [hV'] at HT HF
      have kN : k < N := by omega
      have aN : a < N := by omega
      clear hk ek hva hua hV'
      obtain ⟨V'1, V'2, V'3, V'4⟩ := V'
      obtain ⟨u1, u2, u3, u4⟩ := u
      obtain ⟨p1, p2, p3, p4⟩ := hci
      obtain ⟨r1, r2, r3, r4⟩ := hcj
      go_still_tail 9, (by kernel_rfl)
      repeat still_step
      try refine wpStill_nil ?_
      change wpList _ _ _ _ _ wr.drew
      have HD := Lib.hid HR.out.drew
      have HCmp := Lib.hid (mcmp_any wr.drew ⟨V'1, V'2, V'3, V'4⟩ ⟨u1, u2, u3, u4⟩)
      obtain ⟨z, hz⟩ : ∃ z, cmpE ⟨V'1, V'2, V'3, V'4⟩ ⟨u1, u2, u3, u4⟩ = z := ⟨_, rfl⟩
      rw [hz] at HCmp
      have HZ := Lib.hid hz
      clear p1 p2 p3 p4 r1 r2 r3 r4 hz
      go_wp2_with fail
      refine HCmp.out.mono ?_
      rintro e w2 ⟨rfl, hb2⟩
      have HR2 := Lib.hid (HD.out.below hb2)
      clear hb2 HCmp HD
      by_cases hz0 : z < 0
      · have HP2 := Lib.hid (HT.out (decide_eq_true (by rw [HZ.out]; exact hz0)))
        have HP3 : Hid (∀ v ∈ V.take (k + 1 - m), ltE v ⟨u1, u2, u3, u4⟩ = true) := Lib.hid (by rw [show k + 1 - m = k - m + 1 by omega]; exact HP2.out)
        clear HP2 HT HF HP
        go_wp2
        go_roundw
        case rel => exact ⟨k + 1, j, by go_num, rfl, by omega, by omega, h3, HP3, HQ, HR2⟩
        case measure => simp [intOf]; omega
      · have HP2 := Lib.hid (HF.out (decide_eq_false (by rw [HZ.out]; exact hz0)))
        clear HT HF HQ
        go_wp2
        go_roundw
        case rel => exact ⟨i, k, rfl, rfl, h1, k1, by omega, HP, HP2, HR2⟩
        case measure => simp [intOf]; omega
    · obtain rfl : i = j := by omega
      have hMG : Merged ltE [u] V (V.take (i - m) ++ u :: V.drop (i - m)) := by
        have := merged_one swoE (u := u) (V1 := V.take (i - m)) (V2 := V.drop (i - m)) (by rw [List.take_append_drop]; exact HS.out) HP.out HQ.out
        rwa [List.take_append_drop] at this
      have HMG := Lib.hid hMG
      clear hMG HP HQ
      go_wp2
      go_loopw [13] (fun kv wx => ∃ k : Nat, kv = .int .i64 k ∧ a ≤ k ∧ k + 1 ≤ i ∧ Hid (ERow w0 wx g (A ++ V.take (k - a) ++ u :: (V.drop (k - a) ++ C)))) (fun kv _ => i - (intOf kv).toNat)
      case atStart => exact ⟨a, rfl, Nat.le_refl _, by omega, Lib.hid (by simpa using HR.out)⟩
      case round =>
        clear HR
        obtain ⟨k, rfl, k1, k2, HR⟩ := hrel
        by_cases hki : k + 1 < i
        · have hk3 : k - a < V.length := by have := HB.out; have := HM.out; omega
          have hk4 : (k : Int) < (i : Int) - 1 := by omega
          have hR2 := HR.out
          rw [List.drop_eq_getElem_cons hk3] at hR2
          have HE : Hid (A ++ V.take (k + 1 - a) ++ u :: (V.drop (k + 1 - a) ++ C) = (A ++ V.take (k - a)) ++ V[k - a] :: ([] ++ u :: (V.drop (k - a + 1) ++ C))) := Lib.hid (by
            rw [show k + 1 - a = k - a + 1 by omega, List.take_succ_eq_append_getElem hk3]
            simp only [List.append_assoc, List.cons_append, List.nil_append])
          obtain ⟨y, hy⟩ : ∃ y, V[k - a] = y := ⟨_, rfl⟩
          rw [hy] at hR2 HE
          have hi : k = (A ++ V.take (k - a)).length := by have := HA.out; rw [List.length_append, List.length_take]; omega
          have hR3 : ERow w0 wr g ((A ++ V.take (k - a)) ++ u :: ([] ++ y :: (V.drop (k - a + 1) ++ C))) := by simpa using hR2
          have hR4 : ERow w0 wr g ((A ++ V.take (k - a) ++ [u]) ++ y :: (V.drop (k - a + 1) ++ C)) := by simpa using hR2
          have hci := hR3.at_ hi
          have hcj := hR4.at_ (i := k + 1) (by rw [List.length_append, ← hi]; rfl)
          have hfr := hR3.free
          have HSW := Lib.hid (hR3.swap (i := k) (j := k + 1) hi (by rw [← hi]; rfl)).drew
          have o1 : ((k : Int) + 1).toNat = k + 1 := by omega
          have kN : k + 1 < N := by omega
          clear hR2 hR3 hR4 hy hi HR
          obtain ⟨x1, x2, x3, x4⟩ := u
          obtain ⟨y1, y2, y3, y4⟩ := y
          obtain ⟨p1, p2, p3, p4⟩ := hci
          obtain ⟨r1, r2, r3, r4⟩ := hcj
          have f1 := hfr ((k) * 4)
          have f2 := hfr ((k) * 4 + 1)
          have f3 := hfr ((k) * 4 + 2)
          have f4 := hfr ((k) * 4 + 3)
          have f5 := hfr ((k + 1) * 4)
          have f6 := hfr ((k + 1) * 4 + 1)
          have f7 := hfr ((k + 1) * 4 + 2)
          have f8 := hfr ((k + 1) * 4 + 3)
          clear hfr
          go_wp2
          go_region
          go_wp2
          go_roundw
          case rel => exact ⟨k + 1, by go_num, by omega, by omega, Lib.hid (by rw [HE.out]; exact HSW.out)⟩
          case measure => simp [intOf]; omega
        · obtain rfl : i = k + 1 := by omega
          have HE : Hid (ERow w0 wr g (A ++ (V.take (k + 1 - m) ++ u :: V.drop (k + 1 - m)) ++ C)) := Lib.hid (by
            have h1 := HR.out
            have h2 := HM.out
            rw [show k + 1 - m = k - a by omega]
            simpa only [List.append_assoc, List.cons_append] using h1)
          have hk4 : ¬ (k : Int) < ((k + 1 : Nat) : Int) - 1 := by omega
          clear HR
          go_wp2
          refine bodyPost_ret (results_none rfl _ _ _) rfl ?_
          exact ⟨rfl, _, HMG.out, HE.out⟩
end Go.Proofs.Ytcfgmkiohmbdlaa
