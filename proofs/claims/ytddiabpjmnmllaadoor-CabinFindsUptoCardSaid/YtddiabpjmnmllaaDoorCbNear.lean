/- Cabins: Near, walked. -/
import Derived.Test.YtddiabpjmnmllaaDoorCbLives
namespace Go.Proofs.YtddiabpjmnmllaaDoor
open Go.RowKit Go.Lib
/-- Side by side, told by places. -/
def nearI (L : List MSpot) (i k : Int) : Bool := decide (0 ≤ i ∧ 0 ≤ k ∧ (i - k = 1 ∨ k - i = 1) ∧ (L.getD i.toNat spotZ).blk = (L.getD k.toNat spotZ).blk)
theorem nearI_no {L : List MSpot} {i k : Int} (h : ¬ (0 ≤ i ∧ 0 ≤ k ∧ (i - k = 1 ∨ k - i = 1))) : nearI L i k = false := by
  unfold nearI
  exact decide_eq_false fun h' => h ⟨h'.1, h'.2.1, h'.2.2.1⟩
set_option maxHeartbeats 8000000 in
set_option maxRecDepth 20000 in
theorem near_any (w : World) (m : Int) (A : Option Addr) (n c : Nat) (l : List MRow) (a b : MSeat) (hr : Rd w w.heap.size 5 A n (catv rowC l)) (hf : ∀ r ∈ l, r.fits) (hLib : LibAt w m) :
    Calls Tryd.prog 33 #[.agg #[.int .i64 a.num, .int .u8 (a.ltr.toNat : Int)], .agg #[.int .i64 b.num, .int .u8 (b.ltr.toNat : Int)], .slice A n c] w fun e w' => e = .returned (.bool (nearI (spotsL l) (idxS (spotsL l) a) (idxS (spotsL l) b))) ∧ Below w.heap.size w w' := by
  obtain ⟨an, al⟩ := a
  obtain ⟨bn, bl⟩ := b
  obtain ⟨W, hW⟩ : ∃ W, W = (w.alloc (.cells #[.int .i64 an, .int .u8 (al.toNat : Int)] 32)).alloc (.cells #[.int .i64 bn, .int .u8 (bl.toNat : Int)] 32) := ⟨_, rfl⟩
  have hbW : Below w.heap.size w W := by rw [hW]; exact ((Below.refl _ w).alloc (Nat.le_refl _) _).alloc (by simp) _
  have b1 : W.heap[w.heap.size]? = some (.cells #[.int .i64 an, .int .u8 (al.toNat : Int)] 32 (0, 0)) := by
    rw [hW]; exact (Below.heap_alloc _ _ _ (by simp)).trans (heap_alloc_new w _)
  have b2 : W.heap[w.heap.size + 1]? = some (.cells #[.int .i64 bn, .int .u8 (bl.toNat : Int)] 32 (0, 0)) := by
    have := heap_alloc_new (w.alloc (.cells #[.int .i64 an, .int .u8 (al.toNat : Int)] 32)) (.cells #[.int .i64 bn, .int .u8 (bl.toNat : Int)] 32)
    rw [show (w.alloc (.cells #[.int .i64 an, .int .u8 (al.toNat : Int)] 32)).heap.size = w.heap.size + 1 by simp] at this
    rw [hW]; exact this
  have hl66 := spots_len l
  obtain ⟨L, hL⟩ : ∃ L, spotsL l = L := ⟨_, rfl⟩
  have hSp := spots_any W m A n c l ((hr.below hbW).mono hbW.size) hf (hLib.below hbW)
  rw [hL] at hSp hl66 ⊢
  have HSP := Lib.hid hSp
  have HBW := Lib.hid hbW
  have H1 := Lib.hid b1
  have H2 := Lib.hid b2
  obtain ⟨I, hI⟩ : ∃ I, idxS L ⟨an, al⟩ = I := ⟨_, rfl⟩
  obtain ⟨K, hK⟩ : ∃ K, idxS L ⟨bn, bl⟩ = K := ⟨_, rfl⟩
  obtain ⟨R, hR⟩ : ∃ R, nearI L I K = R := ⟨_, rfl⟩
  rw [hI, hK, hR]
  have HI := Lib.hid hI
  have HK := Lib.hid hK
  have HR := Lib.hid hR
  clear hSp hbW b1 b2 hL hr hf hLib hI hK hR
  go_enter Tryd.func33, Tryd.ntmps33
  go_wp2_with fail
  rw [← hW]
  clear hW
  refine HSP.out.mono ?_
  rintro e w2 ⟨v, rfl, ho, hb2⟩
  obtain ⟨A2, c2, rfl, hrd⟩ := own_rd ho
  have x1 := box_keep H1.out (Upd.of_below (S := fun _ => False) hb2) id
  have x2 := box_keep H2.out (Upd.of_below (S := fun _ => False) hb2) id
  have hC1 := index2 w2 A2 L.length c2 L ⟨an, al⟩ w.heap.size hrd (Array.getElem?_eq_some_iff.1 x1).1 (by rw [cell_of_row _ _ 0 _ _ _ x1]; rfl) (by rw [cell_of_row _ _ 1 _ _ _ x1]; rfl) (by omega)
  rw [HI.out] at hC1
  have HC1 := Lib.hid hC1
  have HC2 : Hid (∀ V : World, Below w2.heap.size w2 V → Calls Tryd.prog 48 #[.slice A2 L.length c2, .func (.func 51) #[] #[.pointer (some ⟨w.heap.size + 1, 0, none⟩)]] V fun e w' => e = .returned (.int .i64 K) ∧ Below V.heap.size V w') := Lib.hid (fun V hV => by
    have x3 := box_keep x2 (Upd.of_below (S := fun _ => False) hV) id
    have := index3 V A2 L.length c2 L ⟨bn, bl⟩ (w.heap.size + 1) ((hrd.below hV).mono hV.size) (Array.getElem?_eq_some_iff.1 x3).1 (by rw [cell_of_row _ _ 0 _ _ _ x3]; rfl) (by rw [cell_of_row _ _ 1 _ _ _ x3]; rfl) (by omega)
    rwa [HK.out] at this)
  have HA := Lib.hid hrd
  have HB2 := Lib.hid (bel_on2 HBW.out hb2)
  clear ho hrd hb2 H1 H2 HBW HSP x1 x2 hC1
  go_wp2_with fail
  refine HC1.out.mono ?_
  rintro e w3 ⟨rfl, hb3⟩
  have HB3 := Lib.hid hb3
  have h4 := Lib.hid (HC2.out w3 hb3)
  clear hb3 HC1 HC2
  go_wp2_with fail
  refine h4.out.mono ?_
  rintro e w4 ⟨rfl, hb4⟩
  have HRD := Lib.hid (HA.out.below (bel_on HB3.out hb4))
  have HBR := Lib.hid (bel_on2 HB2.out (bel_on HB3.out hb4))
  clear hb4 h4 HA HB3
  go_upto_region 4 with (fail)
  have hcI := idxS_cases L ⟨an, al⟩
  have hcK := idxS_cases L ⟨bn, bl⟩
  rw [HI.out] at hcI
  rw [HK.out] at hcK
  rcases hcI with ⟨rfl, -⟩ | ⟨i, rfl, hi, -, -⟩
  · have HF : Hid (R = false) := Lib.hid (by rw [← HR.out]; exact nearI_no (by omega))
    clear HI HK hcK
    go_quiet (fail)
    go_wp2
    go_ret
    exact ⟨ret_bool HF.out.symm, bel_drewN HBR.out _⟩
  · have hdi : decide ((i : Int) < 0) = false := decide_eq_false (by omega)
    have hdi2 : decide ((0 : Int) ≤ (i : Int)) = true := decide_eq_true (by omega)
    rcases hcK with ⟨rfl, -⟩ | ⟨k, rfl, hk, -, -⟩
    · have HF : Hid (R = false) := Lib.hid (by rw [← HR.out]; exact nearI_no (by omega))
      clear HI HK
      go_quiet (fail)
      go_wp2
      go_ret
      exact ⟨ret_bool HF.out.symm, bel_drewN HBR.out _⟩
    · have hdk2 : decide ((0 : Int) ≤ (k : Int)) = true := decide_eq_true (by omega)
      obtain ⟨gb, off, rfl, hgb, _, hc1⟩ := HRD.out.elem spotC_len (by decide) hi
      obtain ⟨_, _, he, _, _, hc2⟩ := HRD.out.elem spotC_len (by decide) hk
      simp only [Option.some.injEq, Addr.mk.injEq, and_true] at he
      obtain ⟨rfl, rfl⟩ := he
      have e1 : L.getD i spotZ = L[i] := by rw [List.getD_eq_getElem?_getD, List.getElem?_eq_getElem hi]; rfl
      have e2 : L.getD k spotZ = L[k] := by rw [List.getD_eq_getElem?_getD, List.getElem?_eq_getElem hk]; rfl
      have hRR : R = decide (((i : Int) - k = 1 ∨ (k : Int) - i = 1) ∧ (L[i]).blk = (L[k]).blk) := by
        rw [← HR.out]; unfold nearI
        simp only [Int.toNat_natCast, e1, e2]
        exact decide_eq_decide.2 ⟨fun h => h.2.2, fun h => ⟨by omega, by omega, h⟩⟩
      obtain ⟨s, hs⟩ : ∃ s, L[i] = s := ⟨_, rfl⟩
      obtain ⟨t, ht⟩ : ∃ t, L[k] = t := ⟨_, rfl⟩
      rw [hs] at hc1 hRR
      rw [ht] at hc2 hRR
      have d1 := hc1 4 _ rfl
      have d2 := hc2 4 _ rfl
      have hw1 : IntKind.i64.wrap ((i : Int) - (k : Int)) = (i : Int) - k := IntWalk.i64_in _ (by omega)
      have hw2 : IntKind.i64.wrap ((k : Int) - (i : Int)) = (k : Int) - i := IntWalk.i64_in _ (by omega)
      have hi0 : (0 : Int) ≤ (i : Int) := by omega
      have hk0 : (0 : Int) ≤ (k : Int) := by omega
      have hiz : (i : Int) < (L.length : Int) := by omega
      have hkz : (k : Int) < (L.length : Int) := by omega
      obtain ⟨x, hx⟩ : ∃ x, ((i : Int) - k == 1) = x := ⟨_, rfl⟩
      obtain ⟨y, hy⟩ : ∃ y, ((k : Int) - i == 1) = y := ⟨_, rfl⟩
      obtain ⟨z, hz⟩ : ∃ z, (s.blk == t.blk) = z := ⟨_, rfl⟩
      have HRR : Hid (R = ((x || y) && z)) := Lib.hid (by
        rw [hRR, ← hx, ← hy, ← hz]
        by_cases p1 : (i : Int) - k = 1 <;> by_cases p2 : (k : Int) - i = 1 <;> by_cases p3 : s.blk = t.blk <;> simp [p1, p2, p3] <;> omega)
      clear HI HK hc1 hc2 hs ht hRR e1 e2
      cases x <;> cases y <;> cases z <;> (
        go_quiet (fail)
        go_wp2
        go_ret
        exact ⟨ret_bool HRR.out.symm, bel_drewN HBR.out _⟩)
end Go.Proofs.YtddiabpjmnmllaaDoor
