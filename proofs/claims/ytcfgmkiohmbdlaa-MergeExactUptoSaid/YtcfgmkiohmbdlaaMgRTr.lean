/- Merging versions: the reference's needed and Trim, walked. -/
import Derived.Test.YtcfgmkiohmbdlaaMgRVw
namespace Go.Proofs.Ytcfgmkiohmbdlaa
open Go.RowKit
theorem i64v_at {w : World} {B n k : Nat} {A : Option Addr} {l : List Int} (h : Rd w B 1 A n (i64v l)) (hk : k < n) : ∃ ad, A = some ad ∧ ad.block < B ∧ ∃ hs : k < l.length, w.cell? (ad.add k) = some (.int .i64 l[k]) := by
  obtain ⟨ad, u, rfl, hb, hu, hc⟩ := h.get hk
  have hs : k < l.length := by have := h.len; rw [i64v_length] at this; omega
  rw [i64v_get _ _ hs] at hu
  injection hu with hu
  exact ⟨ad, rfl, hb, hs, by rw [hc, ← hu]⟩
set_option maxHeartbeats 4000000 in
set_option maxRecDepth 20000 in
theorem rneed_any (w : World) (A : Option Addr) (n c : Nat) (L : List Ent) (k : Nat) (x : Ent) (A2 : Option Addr) (m c2 : Nat) (seen : List Int) (hr : Rd w w.heap.size 4 A n (entv L)) (hs : Rd w w.heap.size 1 A2 m (i64v seen)) (hk : k < n) (hx : L[k]? = some x) (hri : RiseL L) (hmax : ∀ x ∈ L, x.seq ≤ 9223372036854775807) (hn : n ≤ 1073741824) (hm : m ≤ 1073741824) :
    Calls Try.prog 54 #[.slice A n c, .int .i64 k, .slice A2 m c2] w fun e w' => e = .returned (.bool (needP L seen x)) ∧ Below w.heap.size w w' := by
  have hkl : k < L.length := by rw [← rd_entlen hr]; exact hk
  rw [List.getElem?_eq_getElem hkl] at hx
  injection hx with hx
  have hnr := need_ref hri hmax seen hkl
  have HS := Lib.hid hs
  have HLS := Lib.hid (show m = seen.length by have := hs.len; rw [i64v_length] at this; omega)
  clear hs
  cases k with
  | zero =>
    rw [hx] at hnr
    have hres : needP L seen x = true := hnr.2 (.inl (.inl rfl))
    rw [hres]
    obtain ⟨b, off, rfl, hB, hs', c0, c1, c2, c3⟩ := hr.ent hk
    rw [hx] at c0 c1 c2 c3
    obtain ⟨x1, x2, x3, x4⟩ := x
    simp only [Nat.zero_mul, Nat.add_zero] at c0 c1 c2 c3
    have HB : Hid (Below w.heap.size w (w.alloc (.cells #[.string x1, .int .i64 x2, .bool x3, .string x4] 26))) := Lib.hid ((Below.refl _ _).alloc (Nat.le_refl _) _)
    clear hnr hres hr hx hri hmax
    go_enter Try.func54, Try.ntmps54
    go_upto_region 2 with (fail)
    obtain ⟨w2, hw2⟩ : ∃ w2, w2 = w.alloc (.cells #[.string x1, .int .i64 x2, .bool x3, .string x4] 26) := ⟨_, rfl⟩
    rw [← hw2] at HB ⊢
    clear hw2 c0 c1 c2 c3
    first
      | go_quiet (fail)
      | fail
    go_wp2
    go_ret
    exact ⟨rfl, below_drewG HB.out _⟩
  | succ p =>
    obtain ⟨b, off, rfl, hB, hs', c0, c1, c2, c3⟩ := hr.ent hk
    obtain ⟨b', off', hbo, hB', hs2, d0, d1, d2, d3⟩ := hr.ent (k := p) (by omega)
    injection hbo with hbo
    injection hbo with hbo1 hbo2
    subst hbo1 hbo2
    simp only [Nat.add_sub_cancel] at hnr
    rw [hx] at c0 c1 c2 c3 hnr
    obtain ⟨y, hy⟩ : ∃ y, L[p] = y := ⟨_, rfl⟩
    rw [hy] at d0 d1 d2 d3 hnr
    obtain ⟨x1, x2, x3, x4⟩ := x
    obtain ⟨y1, y2, y3, y4⟩ := y
    simp only at c0 c1 c2 c3 d0 d1 d2 d3 hnr
    obtain ⟨r, hrr⟩ : ∃ r, needP L seen ⟨x1, x2, x3, x4⟩ = r := ⟨_, rfl⟩
    rw [hrr] at hnr ⊢
    have HNR := Lib.hid hnr
    have hb1 : Below w.heap.size w (w.alloc (.cells #[.string x1, .int .i64 x2, .bool x3, .string x4] 26)) := (Below.refl _ _).alloc (Nat.le_refl _) _
    have HB := Lib.hid hb1
    have HX : Hid ((w.alloc (.cells #[.string x1, .int .i64 x2, .bool x3, .string x4] 26)).heap[w.heap.size]? = some (.cells (Ent.cells ⟨x1, x2, x3, x4⟩).toArray 26 (0, 0))) := Lib.hid (heap_alloc_new w _)
    have d0' := (hb1.cell (p := ⟨b, off + p * 4, none⟩) hB).trans d0
    have d1' := Lib.hid ((hb1.cell (p := ⟨b, off + p * 4 + 1, none⟩) hB).trans d1)
    clear hnr hrr hx hy hri hmax d0 d1 d2 d3 hb1 hr hs2
    go_enter Try.func54, Try.ntmps54
    go_upto_region 2 with (fail)
    obtain ⟨w2, hw2⟩ : ∃ w2, w2 = w.alloc (.cells #[.string x1, .int .i64 x2, .bool x3, .string x4] 26) := ⟨_, rfl⟩
    rw [← hw2] at HB HX d0' d1' ⊢
    have y0 : w2.cell? ⟨w.heap.size, 0, none⟩ = some (.string x1) := by rw [cell_of_row _ _ 0 _ _ _ HX.out]; rfl
    have hws : IntKind.i64.wrap (((p + 1 : Nat) : Int) - 1) = (p : Int) := by rw [IntWalk.i64_in _ (by omega)]; omega
    have i4 : IntKind.i64.wrap (p : Int) = (p : Int) := IntWalk.i64_in _ (by omega)
    have i1 : (0 : Int) ≤ (p : Int) := by omega
    have i2 : (p : Int) < (n : Int) := by omega
    have hne : (((p + 1 : Nat) : Int) == 0) = false := beq_eq_false_iff_ne.2 (by omega)
    clear hw2 c0 c1 c2 c3
    by_cases e1 : y1 = x1
    · subst e1
      have hne2 : ∀ j, Below w.heap.size w (w2.drewN j) := fun j => below_drewG HB.out j
      have HNE := Lib.hid hne2
      clear hne2
      go_upto_region 2 with (fail)
      go_cut [26] (fun rv wc => rv = .bool false ∧ ∃ j, wc = w2.drewN j)
      case first =>
        first
          | go_quiet (fail)
          | fail
        go_wp2
        go_meet
        case rel => exact ⟨rfl, _, rfl⟩
      case rest =>
        obtain ⟨rfl, j, rfl⟩ := hcut
        have HX2 : Hid ((w2.drewN j).heap[w.heap.size]? = some (.cells (Ent.cells ⟨y1, x2, x3, x4⟩).toArray 26 (0, 0))) := Lib.hid HX.out
        have HB2 := Lib.hid (HNE.out j)
        have D1 : Hid ((w2.drewN j).cell? ⟨b, off + p * 4 + 1, none⟩ = some (.int .i64 y2)) := Lib.hid d1'.out
        have HS2 := Lib.hid (HS.out.below HB2.out)
        obtain ⟨w3, hw3⟩ : ∃ w3, w3 = w2.drewN j := ⟨_, rfl⟩
        rw [← hw3] at HX2 HB2 D1 HS2 ⊢
        clear hw3 y0 d0' d1' HX HB HNE
        go_wp2
        go_loopw [29] (fun iv wx => ∃ q : Nat, q ≤ m ∧ iv = .int .i64 q ∧ Hid (wx = w3) ∧ Hid (∀ n ∈ seen.take q, ¬ (x2 ≤ n ∧ n < y2))) (fun iv _ => m - (intOf iv).toNat)
        case atStart => exact ⟨0, Nat.zero_le _, rfl, Lib.hid rfl, Lib.hid (by simp)⟩
        case round =>
          obtain ⟨q, hq, rfl, hw, hno⟩ := hrel
          obtain rfl := hw.out
          clear hw
          have y1' : wr.cell? ⟨w.heap.size, 1, none⟩ = some (.int .i64 x2) := by rw [cell_of_row _ _ 1 _ _ _ HX2.out]; rfl
          have d1 := D1.out
          by_cases hlt : q < m
          · obtain ⟨ad, rfl, hbb, hsq, hcl⟩ := i64v_at HS2.out hlt
            have htk := List.take_succ_eq_append_getElem hsq
            obtain ⟨a, ha⟩ : ∃ a, seen[q] = a := ⟨_, rfl⟩
            have hain : a ∈ seen := by rw [← ha]; exact List.getElem_mem hsq
            rw [ha] at hcl htk
            by_cases hyes : x2 ≤ a ∧ a < y2
            · have hrt : r = true := HNR.out.2 (.inr ⟨a, hain, hyes⟩)
              have s1 : decide (x2 ≤ a) = true := decide_eq_true hyes.1
              have s2 : decide (y2 > a) = true := decide_eq_true hyes.2
              have HRT := Lib.hid hrt
              clear hain htk ha hyes hno hrt
              go_wp2
              go_ret
              exact ⟨ret_bool HRT.out.symm, HB2.out⟩
            · have hno2 : Hid (∀ n ∈ seen.take (q + 1), ¬ (x2 ≤ n ∧ n < y2)) := Lib.hid (by
                intro n hn
                rw [htk] at hn
                rcases List.mem_append.1 hn with hn | hn
                · exact hno.out n hn
                · rw [List.mem_singleton.1 hn]; exact hyes)
              have key : ∀ P : Prop, (decide (x2 ≤ a) = false → P) → (decide (x2 ≤ a) = true → decide (y2 > a) = false → P) → P := fun P g1 g2 => by
                by_cases hh : x2 ≤ a
                · exact g2 (decide_eq_true hh) (decide_eq_false fun g => hyes ⟨hh, g⟩)
                · exact g1 (decide_eq_false hh)
              clear hain htk ha hyes hno
              refine key _ (fun s1 => ?_) (fun s1 s2 => ?_)
              all_goals
                clear key
                go_wp2
                go_roundw
                case rel => exact ⟨q + 1, by omega, by go_num, (by first | exact Lib.hid rfl | exact Lib.hid trivial), hno2⟩
                case measure => simp [intOf]; omega
          · have hrf : r = false := by
              rw [Bool.eq_false_iff]
              intro h
              rcases HNR.out.1 h with (h | h) | ⟨n, hn, h1⟩
              · omega
              · exact h rfl
              · have h9 := hno.out n
                rw [List.take_of_length_le (by rw [← HLS.out]; omega)] at h9
                exact h9 hn h1
            have HRF := Lib.hid hrf
            have hz : ¬ (q : Int) < (m : Int) := by omega
            clear hrf hno
            go_wp2
            go_ret
            exact ⟨ret_bool HRF.out.symm, HB2.out⟩
    · have e2 := mg_ne e1
      have hrt : r = true := HNR.out.2 (.inl (.inr e1))
      have HRT := Lib.hid hrt
      clear e1 hrt d1'
      first
        | go_quiet (fail)
        | fail
      go_wp2
      go_ret
      exact ⟨ret_bool HRT.out.symm, below_drewG HB.out _⟩
end Go.Proofs.Ytcfgmkiohmbdlaa
