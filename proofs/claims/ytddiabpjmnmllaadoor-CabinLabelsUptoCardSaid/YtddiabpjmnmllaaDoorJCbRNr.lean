/- Cabins: Near, walked. -/
import Derived.Test.YtddiabpjmnmllaaDoorJCbLives
namespace Go.Proofs.YtddiabpjmnmllaaDoor
open Go.RowKit Go.Lib
/-- Side by side, told by places. -/
def nearI (L : List MSpot) (i k : Int) : Bool := decide (0 ≤ i ∧ 0 ≤ k ∧ (i - k = 1 ∨ k - i = 1) ∧ (L.getD i.toNat spotZ).blk = (L.getD k.toNat spotZ).blk)
theorem nearI_no {L : List MSpot} {i k : Int} (h : ¬ (0 ≤ i ∧ 0 ≤ k ∧ (i - k = 1 ∨ k - i = 1))) : nearI L i k = false := by
  unfold nearI
  exact decide_eq_false fun h' => h ⟨h'.1, h'.2.1, h'.2.2.1⟩
set_option maxHeartbeats 8000000 in
set_option maxRecDepth 20000 in
theorem near_any (w : World) (m : Int) (A : Option Addr) (n c : Nat) (l : List MRow) (a b : MSeat) (hr : Rd w w.heap.size 5 A n (catv rowC l)) (hf : ∀ r ∈ l, r.fits) (hLib : LibAt w m) :
    Calls Tryd.prog 33 #[.agg #[.int .i64 a.num, .int .u8 (a.ltr.toNat : Int)], .agg #[.int .i64 b.num, .int .u8 (b.ltr.toNat : Int)], .slice A n c] w fun e w' => e = .returned (.bool (nearI (spotsL l) (idxS (spotsL l) a) (idxS (spotsL l) b))) ∧ Below w.heap.size w w' := by
  obtain ⟨an, al⟩ := a
  obtain ⟨bn, bl⟩ := b
  obtain ⟨W, hW⟩ : ∃ W, W = (w.alloc (.cells #[.int .i64 an, .int .u8 (al.toNat : Int)] 32)).alloc (.cells #[.int .i64 bn, .int .u8 (bl.toNat : Int)] 32) := ⟨_, rfl⟩
  have hbW : Below w.heap.size w W := by rw [hW]; exact ((Below.refl _ w).alloc (Nat.le_refl _) _).alloc (by simp) _
  have b1 : W.heap[w.heap.size]? = some (.cells #[.int .i64 an, .int .u8 (al.toNat : Int)] 32 (0, 0)) := by
    rw [hW]; exact (Below.heap_alloc _ _ _ (by simp)).trans (heap_alloc_new w _)
  have b2 : W.heap[w.heap.size + 1]? = some (.cells #[.int .i64 bn, .int .u8 (bl.toNat : Int)] 32 (0, 0)) := by
    have := heap_alloc_new (w.alloc (.cells #[.int .i64 an, .int .u8 (al.toNat : Int)] 32)) (.cells #[.int .i64 bn, .int .u8 (bl.toNat : Int)] 32)
    rw [show (w.alloc (.cells #[.int .i64 an, .int .u8 (al.toNat : Int)] 32)).heap.size = w.heap.size + 1 by simp] at this
    rw [hW]; exact this
  have hl66 := spots_len l
  obtain ⟨L, hL⟩ : ∃ L, spotsL l = L := ⟨_, rfl⟩
  have hSp := spots_any W m A n c l ((hr.below hbW).mono hbW.size) hf (hLib.below hbW)
  rw [hL] at hSp hl66 ⊢
  have HSP := Lib.hid hSp
  have HBW := Lib.hid hbW
  have H1 := Lib.hid b1
  have H2 := Lib.hid b2
  obtain ⟨I, hI⟩ : ∃ I, idxS L ⟨an, al⟩ = I := ⟨_, rfl⟩
  obtain ⟨K, hK⟩ : ∃ K, idxS L ⟨bn, bl⟩ = K := ⟨_, rfl⟩
  obtain ⟨R, hR⟩ : ∃ R, nearI L I K = R := ⟨_, rfl⟩
  rw [hI, hK, hR]
  have HI := Lib.hid hI
  have HK := Lib.hid hK
  have HR := Lib.hid hR
  clear hSp hbW b1 b2 hL hr hf hLib hI hK hR
  go_enter Tryd.func33, Tryd.ntmps33
  go_wp2_with fail
  rw [← hW]
  clear hW
  refine HSP.out.mono ?_
  rintro e w2 ⟨v, rfl, ho, hb2⟩
  obtain ⟨A2, c2, rfl, hrd⟩ := own_rd ho
  have x1 := box_keep H1.out (Upd.of_below (S := fun _ => False) hb2) id
  have x2 := box_keep H2.out (Upd.of_below (S := fun _ => False) hb2) id
  have hC1 := index2 w2 A2 L.length c2 L ⟨an, al⟩ w.heap.size hrd (Array.getElem?_eq_some_iff.1 x1).1 (by rw [cell_of_row _ _ 0 _ _ _ x1]; rfl) (by rw [cell_of_row _ _ 1 _ _ _ x1]; rfl) (by omega)
  rw [HI.out] at hC1
  have HC1 := Lib.hid hC1
  have HC2 : Hid (∀ V : World, Below w2.heap.size w2 V → Calls Tryd.prog 48 #[.slice A2 L.length c2, .func (.func 51) #[] #[.pointer (some ⟨w.heap.size + 1, 0, none⟩)]] V fun e w' => e = .returned (.int .i64 K) ∧ Below V.heap.size V w') := Lib.hid (fun V hV => by
    have x3 := box_keep x2 (Upd.of_below (S := fun _ => False) hV) id
    have := index3 V A2 L.length c2 L ⟨bn, bl⟩ (w.heap.size + 1) ((hrd.below hV).mono hV.size) (Array.getElem?_eq_some_iff.1 x3).1 (by rw [cell_of_row _ _ 0 _ _ _ x3]; rfl) (by rw [cell_of_row _ _ 1 _ _ _ x3]; rfl) (by omega)
    rwa [HK.out] at this)
  have HA := Lib.hid hrd
  have HB2 := Lib.hid (bel_on2 HBW.out hb2)
  clear ho hrd hb2 H1 H2 HBW HSP x1 x2 hC1
  go_wp2_with fail
  refine HC1.out.mono ?_
  rintro e w3 ⟨rfl, hb3⟩
  have HB3 := Lib.hid hb3
  have h4 := Lib.hid (HC2.out w3 hb3)
  clear hb3 HC1 HC2
  go_wp2_with fail
  refine h4.out.mono ?_
  rintro e w4 ⟨rfl, hb4⟩
  have HRD := Lib.hid (HA.out.below (bel_on HB3.out hb4))
  have HBR := Lib.hid (bel_on2 HB2.out (bel_on HB3.out hb4))
  clear hb4 h4 HA HB3
  go_upto_region 4 with (fail)
  have hcI := idxS_cases L ⟨an, al⟩
  have hcK := idxS_cases L ⟨bn, bl⟩
  rw [HI.out] at hcI
  rw [HK.out] at hcK
  rcases hcI with ⟨rfl, -⟩ | ⟨i, rfl, hi, -, -⟩
  · have HF : Hid (R = false) := Lib.hid (by rw [← HR.out]; exact nearI_no (by omega))
    clear HI HK hcK
    go_quiet (fail)
    go_wp2
    go_ret
    exact ⟨ret_bool HF.out.symm, bel_drewN HBR.out _⟩
  · have hdi : decide ((i : Int) < 0) = false := decide_eq_false (by omega)
    have hdi2 : decide ((0 : Int) ≤ (i : Int)) = true := decide_eq_true (by omega)
    rcases hcK with ⟨rfl, -⟩ | ⟨k, rfl, hk, -, -⟩
    · have HF : Hid (R = false) := Lib.hid (by rw [← HR.out]; exact nearI_no (by omega))
      clear HI HK
      go_quiet (fail)
      go_wp2
      go_ret
      exact ⟨ret_bool HF.out.symm, bel_drewN HBR.out _⟩
    · have hdk2 : decide ((0 : Int) ≤ (k : Int)) = true := decide_eq_true (by omega)
      obtain ⟨gb, off, rfl, hgb, _, hc1⟩ := HRD.out.elem spotC_len (by decide) hi
      obtain ⟨_, _, he, _, _, hc2⟩ := HRD.out.elem spotC_len (by decide) hk
      simp only [Option.some.injEq, Addr.mk.injEq, and_true] at he
      obtain ⟨rfl, rfl⟩ := he
      have e1 : L.getD i spotZ = L[i] := by rw [List.getD_eq_getElem?_getD, List.getElem?_eq_getElem hi]; rfl
      have e2 : L.getD k spotZ = L[k] := by rw [List.getD_eq_getElem?_getD, List.getElem?_eq_getElem hk]; rfl
      have hRR : R = decide (((i : Int) - k = 1 ∨ (k : Int) - i = 1) ∧ (L[i]).blk = (L[k]).blk) := by
        rw [← HR.out]; unfold nearI
        simp only [Int.toNat_natCast, e1, e2]
        exact decide_eq_decide.2 ⟨fun h => h.2.2, fun h => ⟨by omega, by omega, h⟩⟩
      obtain ⟨s, hs⟩ : ∃ s, L[i] = s := ⟨_, rfl⟩
      obtain ⟨t, ht⟩ : ∃ t, L[k] = t := ⟨_, rfl⟩
      rw [hs] at hc1 hRR
      rw [ht] at hc2 hRR
      have d1 := hc1 4 _ rfl
      have d2 := hc2 4 _ rfl
      have hw1 : IntKind.i64.wrap ((i : Int) - (k : Int)) = (i : Int) - k := IntWalk.i64_in _ (by omega)
      have hw2 : IntKind.i64.wrap ((k : Int) - (i : Int)) = (k : Int) - i := IntWalk.i64_in _ (by omega)
      have hi0 : (0 : Int) ≤ (i : Int) := by omega
      have hk0 : (0 : Int) ≤ (k : Int) := by omega
      have hiz : (i : Int) < (L.length : Int) := by omega
      have hkz : (k : Int) < (L.length : Int) := by omega
      obtain ⟨x, hx⟩ : ∃ x, ((i : Int) - k == 1) = x := ⟨_, rfl⟩
      obtain ⟨y, hy⟩ : ∃ y, ((k : Int) - i == 1) = y := ⟨_, rfl⟩
      obtain ⟨z, hz⟩ : ∃ z, (s.blk == t.blk) = z := ⟨_, rfl⟩
      have HRR : Hid (R = ((x || y) && z)) := Lib.hid (by
        rw [hRR, ← hx, ← hy, ← hz]
        by_cases p1 : (i : Int) - k = 1 <;> by_cases p2 : (k : Int) - i = 1 <;> by_cases p3 : s.blk = t.blk <;> simp [p1, p2, p3] <;> omega)
      clear HI HK hc1 hc2 hs ht hRR e1 e2
      cases x <;> cases y <;> cases z <;> (
        go_quiet (fail)
        go_wp2
        go_ret
        exact ⟨ret_bool HRR.out.symm, bel_drewN HBR.out _⟩)
end Go.Proofs.YtddiabpjmnmllaaDoor
/- Cabins: the reference's Near, walked. -/
namespace Go.Proofs.YtddiabpjmnmllaaDoor
open Go.RowKit Go.Lib
def nextTo (a b : MSeat) (x y : MSpot) : Bool := decide (x.blk = y.blk) && ((decide (x.seat = a) && decide (y.seat = b)) || (decide (x.seat = b) && decide (y.seat = a)))
def nearGo (a b : MSeat) : List MSpot → Bool
  | x :: y :: t => nextTo a b x y || nearGo a b (y :: t)
  | _ => false
theorem nearGo_iff (a b : MSeat) : ∀ L : List MSpot, nearGo a b L = true ↔ ∃ i, ∃ h : i + 1 < L.length, nextTo a b (L[i]'(by omega)) L[i + 1] = true := by
  intro L
  induction L with
  | nil => simp [nearGo]
  | cons x t ih =>
    cases t with
    | nil => simp [nearGo]
    | cons y t =>
      simp only [nearGo, Bool.or_eq_true]
      rw [ih]
      constructor
      · rintro (h | ⟨i, h, e⟩)
        · exact ⟨0, by simp, h⟩
        · exact ⟨i + 1, by simpa using h, e⟩
      · rintro ⟨i, h, e⟩
        cases i with
        | zero => exact .inl e
        | succ i => exact .inr ⟨i, by simpa using h, e⟩
theorem idx_at {L : List MSpot} (hd : L.Pairwise (fun x y => x.seat ≠ y.seat)) {i : Nat} (hi : i < L.length) {q : MSeat} (e : L[i].seat = q) : idxS L q = (i : Int) := by
  rcases idxS_cases L q with ⟨_, h⟩ | ⟨j, h1, hj, h2, _⟩
  · unfold findS at h
    rw [List.find?_eq_none] at h
    have := h L[i] (List.getElem_mem hi)
    simp [e] at this
  · have : i = j := by
      rcases Nat.lt_trichotomy i j with h | h | h
      · exact absurd (e.trans h2.symm) (List.pairwise_iff_getElem.1 hd i j hi hj h)
      · exact h
      · exact absurd (h2.trans e.symm) (List.pairwise_iff_getElem.1 hd j i hj hi h)
    rw [h1, this]
theorem near_eq {L : List MSpot} (hd : L.Pairwise (fun x y => x.seat ≠ y.seat)) (a b : MSeat) : nearI L (idxS L a) (idxS L b) = nearGo a b L := by
  have hg : ∀ i, (h : i < L.length) → L.getD i spotZ = L[i] := fun i h => by rw [List.getD_eq_getElem?_getD, List.getElem?_eq_getElem h]; rfl
  have key : nearI L (idxS L a) (idxS L b) = true ↔ nearGo a b L = true := by
    rw [nearGo_iff]
    unfold nearI
    rw [decide_eq_true_iff]
    constructor
    · rintro ⟨h1, h2, h3, h4⟩
      rcases idxS_cases L a with ⟨e, _⟩ | ⟨i, ei, hi, si, _⟩
      · omega
      · rcases idxS_cases L b with ⟨e, _⟩ | ⟨k, ek, hk, sk, _⟩
        · omega
        · rw [ei, ek] at h3 h4
          simp only [Int.toNat_natCast, hg i hi, hg k hk] at h4
          rcases h3 with h3 | h3
          · obtain rfl : i = k + 1 := by omega
            exact ⟨k, hi, by simp [nextTo, h4, si, sk]⟩
          · obtain rfl : k = i + 1 := by omega
            exact ⟨i, hk, by simp [nextTo, h4, si, sk]⟩
    · rintro ⟨i, h, e⟩
      unfold nextTo at e
      simp only [Bool.and_eq_true, Bool.or_eq_true, decide_eq_true_eq] at e
      obtain ⟨e0, e | e⟩ := e
      · rw [idx_at hd (by omega : i < L.length) e.1, idx_at hd h e.2]
        refine ⟨by omega, by omega, by omega, ?_⟩
        simp only [Int.toNat_natCast, hg i (by omega), hg (i + 1) h]
        exact e0
      · rw [idx_at hd (by omega : i < L.length) e.1, idx_at hd h e.2]
        refine ⟨by omega, by omega, by omega, ?_⟩
        simp only [Int.toNat_natCast, hg i (by omega), hg (i + 1) h]
        exact e0.symm
  cases h1 : nearI L (idxS L a) (idxS L b) with
  | true => exact (key.1 h1).symm
  | false =>
    cases h2 : nearGo a b L with
    | false => rfl
    | true => rw [key.2 h2] at h1; cases h1
theorem nearGo_drop {a b : MSeat} {L : List MSpot} {j : Nat} (h : j + 1 < L.length) : nearGo a b (L.drop j) = (nextTo a b (L[j]'(by omega)) L[j + 1] || nearGo a b (L.drop (j + 1))) := by
  rw [List.drop_eq_getElem_cons (by omega : j < L.length), List.drop_eq_getElem_cons h]
  rfl
theorem nearGo_end {a b : MSeat} {L : List MSpot} {j : Nat} (h : L.length ≤ j + 1) : nearGo a b (L.drop j) = false := by
  by_cases e : L.length ≤ j
  · rw [List.drop_eq_nil_of_le e]; rfl
  · rw [List.drop_eq_getElem_cons (by omega : j < L.length), List.drop_eq_nil_of_le (by omega)]; rfl
theorem belA {w V : World} (h : Below w.heap.size w V) (o : Obj) : Below w.heap.size w (V.alloc o) := h.alloc h.size o
theorem belD {w V : World} (h : Below w.heap.size w V) : Below w.heap.size w V.drew := h.drew
theorem belS {w V : World} {a : Addr} (h : Below w.heap.size w V) (hs : a.spot = none) (ha : w.heap.size ≤ a.block) (v : Value) : Below w.heap.size w (V.setCell a v) :=
  h.trans (((Upd.refl (fun k => k = a.block) V).setCell a rfl v).below (fun k hk e => by omega) h.size)
set_option maxHeartbeats 16000000 in
set_option maxRecDepth 20000 in
theorem rnear_any (w : World) (A : Option Addr) (n c : Nat) (l : List MRow) (a b : MSeat) (hr : Rd w w.heap.size 5 A n (catv rowC l)) (hf : ∀ r ∈ l, r.fits) :
    Calls Tryd.prog 34 #[.agg #[.int .i64 a.num, .int .u8 (a.ltr.toNat : Int)], .agg #[.int .i64 b.num, .int .u8 (b.ltr.toNat : Int)], .slice A n c] w fun e w' => e = .returned (.bool (nearGo a b (spotsL l))) ∧ Below w.heap.size w w' := by
  obtain ⟨an, al⟩ := a
  obtain ⟨bn, bl⟩ := b
  obtain ⟨W, hW⟩ : ∃ W, W = (w.alloc (.cells #[.int .i64 an, .int .u8 (al.toNat : Int)] 32)).alloc (.cells #[.int .i64 bn, .int .u8 (bl.toNat : Int)] 32) := ⟨_, rfl⟩
  have hbW : Below w.heap.size w W := by rw [hW]; exact ((Below.refl _ w).alloc (Nat.le_refl _) _).alloc (by simp) _
  have b1 : W.heap[w.heap.size]? = some (.cells #[.int .i64 an, .int .u8 (al.toNat : Int)] 32 (0, 0)) := by
    rw [hW]; exact (Below.heap_alloc _ _ _ (by simp)).trans (heap_alloc_new w _)
  have b2 : W.heap[w.heap.size + 1]? = some (.cells #[.int .i64 bn, .int .u8 (bl.toNat : Int)] 32 (0, 0)) := by
    have := heap_alloc_new (w.alloc (.cells #[.int .i64 an, .int .u8 (al.toNat : Int)] 32)) (.cells #[.int .i64 bn, .int .u8 (bl.toNat : Int)] 32)
    rw [show (w.alloc (.cells #[.int .i64 an, .int .u8 (al.toNat : Int)] 32)).heap.size = w.heap.size + 1 by simp] at this
    rw [hW]; exact this
  have hl66 := spots_len l
  obtain ⟨L, hL⟩ : ∃ L, spotsL l = L := ⟨_, rfl⟩
  have hSp := rspots_any W A n c l ((hr.below hbW).mono hbW.size) hf
  rw [hL] at hSp hl66 ⊢
  have HSP := Lib.hid hSp
  have HBW := Lib.hid hbW
  obtain ⟨R, hR⟩ : ∃ R, nearGo ⟨an, al⟩ ⟨bn, bl⟩ L = R := ⟨_, rfl⟩
  rw [hR]
  have HR : Hid (R = nearGo ⟨an, al⟩ ⟨bn, bl⟩ (L.drop 0)) := Lib.hid hR.symm
  have HX : Hid (∀ V : World, Below W.heap.size W V → V.cell? ⟨w.heap.size, 0, none⟩ = some (.int .i64 an) ∧ V.cell? ⟨w.heap.size, 1, none⟩ = some (.int .u8 (al.toNat : Int)) ∧ V.cell? ⟨w.heap.size + 1, 0, none⟩ = some (.int .i64 bn) ∧ V.cell? ⟨w.heap.size + 1, 1, none⟩ = some (.int .u8 (bl.toNat : Int))) := Lib.hid (fun V hV => by
    have x1 := box_keep b1 (Upd.of_below (S := fun _ => False) hV) id
    have x2 := box_keep b2 (Upd.of_below (S := fun _ => False) hV) id
    refine ⟨?_, ?_, ?_, ?_⟩
    · rw [cell_of_row _ _ 0 _ _ _ x1]; rfl
    · rw [cell_of_row _ _ 1 _ _ _ x1]; rfl
    · rw [cell_of_row _ _ 0 _ _ _ x2]; rfl
    · rw [cell_of_row _ _ 1 _ _ _ x2]; rfl)
  clear hSp hbW b1 b2 hL hr hf hR
  go_enter Tryd.func34, Tryd.ntmps34
  go_wp2_with fail
  rw [← hW]
  clear hW
  refine HSP.out.mono ?_
  rintro e w2 ⟨v, rfl, ho, hb2⟩
  obtain ⟨A2, c2, rfl, hrd⟩ := own_rd ho
  have HA := Lib.hid hrd
  have HB2 := Lib.hid hb2
  clear ho hrd hb2 HSP
  go_wp2
  go_loopw [8] (fun iv wx => ∃ j : Nat, j ≤ 66 ∧ iv = .int .i64 ((j : Int) + 1) ∧ Hid (R = nearGo ⟨an, al⟩ ⟨bn, bl⟩ (L.drop j)) ∧ Hid (Below w2.heap.size w2 wx)) (fun iv _ => 100 - (intOf iv).toNat)
  case atStart => exact ⟨0, Nat.zero_le _, rfl, HR, Lib.hid (Below.refl _ _)⟩
  case round =>
    obtain ⟨j, hj66, rfl, hG, hB⟩ := hrel
    obtain ⟨J, hJ⟩ : ∃ J : Nat, J = j + 1 := ⟨_, rfl⟩
    have hJz : (j : Int) + 1 = (J : Int) := by omega
    rw [hJz]
    by_cases hlt : J < L.length
    · have hj0 : j < L.length := by omega
      obtain ⟨gb, off, rfl, hgb, hs1, hc1⟩ := (HA.out.below hB.out).elem spotC_len (by decide) hj0
      obtain ⟨_, _, he, _, hs2, hc2⟩ := (HA.out.below hB.out).elem spotC_len (by decide) hlt
      simp only [Option.some.injEq, Addr.mk.injEq, and_true] at he
      obtain ⟨rfl, rfl⟩ := he
      have hG2 := hG.out
      rw [nearGo_drop (by omega : j + 1 < L.length)] at hG2
      subst hJ
      obtain ⟨x, hx⟩ : ∃ x, L[j] = x := ⟨_, rfl⟩
      obtain ⟨y, hy⟩ : ∃ y, L[j + 1] = y := ⟨_, rfl⟩
      rw [hx] at hc1 hG2
      rw [hy] at hc2 hG2
      obtain ⟨J, hJ⟩ : ∃ J : Nat, j + 1 = J := ⟨_, rfl⟩
      rw [hJ] at hc2 hlt hJz ⊢
      obtain ⟨⟨xn, xl⟩, xc, xz, xb, xe, xk⟩ := x
      obtain ⟨⟨yn, yl⟩, yc, yz, yb, ye, yk⟩ := y
      have p0 := hc1 0 _ rfl
      have p1 := hc1 1 _ rfl
      have p2 := hc1 2 _ rfl
      have p3 := hc1 3 _ rfl
      have p4 := hc1 4 _ rfl
      have p5 := hc1 5 _ rfl
      have p6 := hc1 6 _ rfl
      have q0 := hc2 0 _ rfl
      have q1 := hc2 1 _ rfl
      have q2 := hc2 2 _ rfl
      have q3 := hc2 3 _ rfl
      have q4 := hc2 4 _ rfl
      have q5 := hc2 5 _ rfl
      have q6 := hc2 6 _ rfl
      rw [Nat.add_zero] at p0 q0
      have hJ1 : IntKind.i64.wrap ((J : Int) - 1) = (j : Int) := by rw [IntWalk.i64_in _ (by omega)]; omega
      have hjz0 : (0 : Int) ≤ (j : Int) := by omega
      have hjz1 : (j : Int) < (L.length : Int) := by omega
      have hJz0 : (0 : Int) ≤ (J : Int) := by omega
      have hJz1 : (J : Int) < (L.length : Int) := by omega
      have HGG := Lib.hid hG2
      have HJ := Lib.hid hJ
      obtain ⟨Y, hY⟩ : ∃ Y, wr.heap.size = Y := ⟨_, rfl⟩
      have hbd : Below w2.heap.size w2 wr.drew := hB.out.drew
      have G1 : ∀ (c1 : Array Value) (t1 : TypeId) (c2 : Array Value) (t2 : TypeId), ((wr.alloc (.cells c1 t1)).alloc (.cells c2 t2)).drew.heap[Y]? = some (.cells c1 t1 (0, 0)) := fun c1 t1 c2 t2 => (Below.heap_alloc (wr.alloc (.cells c1 t1)) (.cells c2 t2) Y (by simp; omega)).trans (by rw [← hY]; exact heap_alloc_new wr _)
      have G2 : ∀ (c1 : Array Value) (t1 : TypeId) (c2 : Array Value) (t2 : TypeId), ((wr.alloc (.cells c1 t1)).alloc (.cells c2 t2)).drew.heap[Y + 1]? = some (.cells c2 t2 (0, 0)) := fun c1 t1 c2 t2 => by
        have := heap_alloc_new (wr.alloc (.cells c1 t1)) (.cells c2 t2)
        rw [show (wr.alloc (.cells c1 t1)).heap.size = Y + 1 by simp; omega] at this
        exact this
      have G3 : ∀ (o1 o2 : Obj), Below w2.heap.size w2 ((wr.alloc o1).alloc o2).drew := fun o1 o2 => belD (belA (belA hB.out _) _)
      clear hc1 hc2 hx hy hG hG2 hs1 hs2 hJ hJz
      go_upto_region 5 with (fail)
      go_cut [9, 10] (fun u v wc => ∃ b1 b2 : Nat, u = .pointer (some ⟨b1, 0, none⟩) ∧ v = .pointer (some ⟨b2, 0, none⟩) ∧ Hid (wc.heap[b1]? = some (.cells #[.int .i64 xn, .int .u8 (xl.toNat : Int), .int .i64 xc, .int .i64 xz, .int .i64 xb, .bool xe, .bool xk] 35 (0, 0))) ∧ Hid (wc.heap[b2]? = some (.cells #[.int .i64 yn, .int .u8 (yl.toNat : Int), .int .i64 yc, .int .i64 yz, .int .i64 yb, .bool ye, .bool yk] 35 (0, 0))) ∧ Hid (Below w2.heap.size w2 wc))
      case first =>
        have hgbw : gb < w2.heap.size := hgb
        have hsz2 : w2.heap.size ≤ wr.heap.size := hB.out.size
        have MK : Hid (∀ V : World, Below w2.heap.size w2 V → Below w2.heap.size w2 V ∧ V.cell? ⟨gb, off + j * 7, none⟩ = some (.int .i64 xn) ∧ V.cell? ⟨gb, off + j * 7 + 1, none⟩ = some (.int .u8 (xl.toNat : Int)) ∧ V.cell? ⟨gb, off + j * 7 + 2, none⟩ = some (.int .i64 xc) ∧ V.cell? ⟨gb, off + j * 7 + 3, none⟩ = some (.int .i64 xz) ∧ V.cell? ⟨gb, off + j * 7 + 4, none⟩ = some (.int .i64 xb) ∧ V.cell? ⟨gb, off + j * 7 + 5, none⟩ = some (.bool xe) ∧ V.cell? ⟨gb, off + j * 7 + 6, none⟩ = some (.bool xk) ∧ V.cell? ⟨gb, off + J * 7, none⟩ = some (.int .i64 yn) ∧ V.cell? ⟨gb, off + J * 7 + 1, none⟩ = some (.int .u8 (yl.toNat : Int)) ∧ V.cell? ⟨gb, off + J * 7 + 2, none⟩ = some (.int .i64 yc) ∧ V.cell? ⟨gb, off + J * 7 + 3, none⟩ = some (.int .i64 yz) ∧ V.cell? ⟨gb, off + J * 7 + 4, none⟩ = some (.int .i64 yb) ∧ V.cell? ⟨gb, off + J * 7 + 5, none⟩ = some (.bool ye) ∧ V.cell? ⟨gb, off + J * 7 + 6, none⟩ = some (.bool yk)) := Lib.hid (fun V hV => by
          have e : ∀ q : Addr, q.block < w2.heap.size → V.cell? q = wr.cell? q := fun q hq => (hV.cell hq).trans (hB.out.cell hq).symm
          exact ⟨hV, (e ⟨gb, off + j * 7, none⟩ hgbw).trans p0, (e ⟨gb, off + j * 7 + 1, none⟩ hgbw).trans p1, (e ⟨gb, off + j * 7 + 2, none⟩ hgbw).trans p2, (e ⟨gb, off + j * 7 + 3, none⟩ hgbw).trans p3, (e ⟨gb, off + j * 7 + 4, none⟩ hgbw).trans p4, (e ⟨gb, off + j * 7 + 5, none⟩ hgbw).trans p5, (e ⟨gb, off + j * 7 + 6, none⟩ hgbw).trans p6, (e ⟨gb, off + J * 7, none⟩ hgbw).trans q0, (e ⟨gb, off + J * 7 + 1, none⟩ hgbw).trans q1, (e ⟨gb, off + J * 7 + 2, none⟩ hgbw).trans q2, (e ⟨gb, off + J * 7 + 3, none⟩ hgbw).trans q3, (e ⟨gb, off + J * 7 + 4, none⟩ hgbw).trans q4, (e ⟨gb, off + J * 7 + 5, none⟩ hgbw).trans q5, (e ⟨gb, off + J * 7 + 6, none⟩ hgbw).trans q6⟩)
        go_region_held3 (fun V => Below w2.heap.size w2 V ∧ V.cell? ⟨gb, off + j * 7, none⟩ = some (.int .i64 xn) ∧ V.cell? ⟨gb, off + j * 7 + 1, none⟩ = some (.int .u8 (xl.toNat : Int)) ∧ V.cell? ⟨gb, off + j * 7 + 2, none⟩ = some (.int .i64 xc) ∧ V.cell? ⟨gb, off + j * 7 + 3, none⟩ = some (.int .i64 xz) ∧ V.cell? ⟨gb, off + j * 7 + 4, none⟩ = some (.int .i64 xb) ∧ V.cell? ⟨gb, off + j * 7 + 5, none⟩ = some (.bool xe) ∧ V.cell? ⟨gb, off + j * 7 + 6, none⟩ = some (.bool xk) ∧ V.cell? ⟨gb, off + J * 7, none⟩ = some (.int .i64 yn) ∧ V.cell? ⟨gb, off + J * 7 + 1, none⟩ = some (.int .u8 (yl.toNat : Int)) ∧ V.cell? ⟨gb, off + J * 7 + 2, none⟩ = some (.int .i64 yc) ∧ V.cell? ⟨gb, off + J * 7 + 3, none⟩ = some (.int .i64 yz) ∧ V.cell? ⟨gb, off + J * 7 + 4, none⟩ = some (.int .i64 yb) ∧ V.cell? ⟨gb, off + J * 7 + 5, none⟩ = some (.bool ye) ∧ V.cell? ⟨gb, off + J * 7 + 6, none⟩ = some (.bool yk))
          (exact MK.out _ (by repeat (first | exact hbd | exact hB.out | assumption | refine belA ?_ _ | refine belD ?_ | refine belS ?_ rfl (by simp <;> omega) _)))
          (fail)
        all_goals (go_wp2_with fail; go_meet; first | exact ⟨Y, Y + 1, rfl, rfl, Lib.hid (G1 _ _ _ _), Lib.hid (G2 _ _ _ _), Lib.hid (G3 _ _)⟩ | exact ⟨Y + 1, Y, rfl, rfl, Lib.hid (G2 _ _ _ _), Lib.hid (G1 _ _ _ _), Lib.hid (G3 _ _)⟩)
      case rest =>
        obtain ⟨b1, b2, rfl, rfl, h1, h2, hBc⟩ := hcut
        clear p0 p1 p2 p3 p4 p5 p6 q0 q1 q2 q3 q4 q5 q6 hbd hB G1 G2 G3
        obtain ⟨s0, s1, t0, t1⟩ := HX.out wc (bel_on HB2.out hBc.out)
        have x0 : wc.cell? ⟨b1, 0, none⟩ = some (.int .i64 xn) := by rw [cell_of_row _ _ 0 _ _ _ h1.out]; rfl
        have x1 : wc.cell? ⟨b1, 1, none⟩ = some (.int .u8 (xl.toNat : Int)) := by rw [cell_of_row _ _ 1 _ _ _ h1.out]; rfl
        have x4 : wc.cell? ⟨b1, 4, none⟩ = some (.int .i64 xb) := by rw [cell_of_row _ _ 4 _ _ _ h1.out]; rfl
        have y0 : wc.cell? ⟨b2, 0, none⟩ = some (.int .i64 yn) := by rw [cell_of_row _ _ 0 _ _ _ h2.out]; rfl
        have y1 : wc.cell? ⟨b2, 1, none⟩ = some (.int .u8 (yl.toNat : Int)) := by rw [cell_of_row _ _ 1 _ _ _ h2.out]; rfl
        have y4 : wc.cell? ⟨b2, 4, none⟩ = some (.int .i64 yb) := by rw [cell_of_row _ _ 4 _ _ _ h2.out]; rfl
        obtain ⟨bq, hbq⟩ : ∃ bq, (xb == yb) = bq := ⟨_, rfl⟩
        obtain ⟨e1, he1⟩ : ∃ p, decide ((⟨xn, xl⟩ : MSeat) = ⟨an, al⟩) = p := ⟨_, rfl⟩
        obtain ⟨e2, he2⟩ : ∃ p, decide ((⟨yn, yl⟩ : MSeat) = ⟨bn, bl⟩) = p := ⟨_, rfl⟩
        obtain ⟨e3, he3⟩ : ∃ p, decide ((⟨xn, xl⟩ : MSeat) = ⟨bn, bl⟩) = p := ⟨_, rfl⟩
        obtain ⟨e4, he4⟩ : ∃ p, decide ((⟨yn, yl⟩ : MSeat) = ⟨an, al⟩) = p := ⟨_, rfl⟩
        have hz1 : ∀ V : World, (Op.equalIn 10000 32 (.agg #[.int .i64 xn, .int .u8 (xl.toNat : Int)]) (.agg #[.int .i64 an, .int .u8 (al.toNat : Int)])).run Tryd.prog V = .ok e1 V := fun V => by rw [← he1]; exact seat_eqIn V ⟨xn, xl⟩ ⟨an, al⟩
        have hz2 : ∀ V : World, (Op.equalIn 10000 32 (.agg #[.int .i64 yn, .int .u8 (yl.toNat : Int)]) (.agg #[.int .i64 bn, .int .u8 (bl.toNat : Int)])).run Tryd.prog V = .ok e2 V := fun V => by rw [← he2]; exact seat_eqIn V ⟨yn, yl⟩ ⟨bn, bl⟩
        have hz3 : ∀ V : World, (Op.equalIn 10000 32 (.agg #[.int .i64 xn, .int .u8 (xl.toNat : Int)]) (.agg #[.int .i64 bn, .int .u8 (bl.toNat : Int)])).run Tryd.prog V = .ok e3 V := fun V => by rw [← he3]; exact seat_eqIn V ⟨xn, xl⟩ ⟨bn, bl⟩
        have hz4 : ∀ V : World, (Op.equalIn 10000 32 (.agg #[.int .i64 yn, .int .u8 (yl.toNat : Int)]) (.agg #[.int .i64 an, .int .u8 (al.toNat : Int)])).run Tryd.prog V = .ok e4 V := fun V => by rw [← he4]; exact seat_eqIn V ⟨yn, yl⟩ ⟨an, al⟩
        have HN : Hid (R = ((bq && ((e1 && e2) || (e3 && e4))) || nearGo ⟨an, al⟩ ⟨bn, bl⟩ (L.drop (j + 1)))) := Lib.hid (by
          rw [HGG.out]
          unfold nextTo
          simp only [he1, he2, he3, he4]
          rw [show decide (xb = yb) = bq by rw [← hbq]; by_cases h : xb = yb <;> simp [h]])
        have HJJ : Hid ((J : Int) = (j : Int) + 1 ∧ J ≤ 66) := Lib.hid ⟨by have := HJ.out; omega, by omega⟩
        clear HGG he1 he2 he3 he4 h1 h2
        obtain ⟨rr, hrr⟩ : ∃ rr, (bq && ((e1 && e2) || (e3 && e4))) = rr := ⟨_, rfl⟩
        rw [hrr] at HN
        go_upto_region 6 with (fail)
        go_cut [56] (fun v wd => v = .bool rr ∧ Hid (Below w2.heap.size w2 wd))
        case first =>
          cases bq <;> cases e1 <;> cases e2 <;> cases e3 <;> cases e4 <;> (
            simp only [Bool.and_true, Bool.true_and, Bool.and_false, Bool.false_and, Bool.or_true, Bool.true_or, Bool.or_false, Bool.false_or] at hrr
            subst hrr
            go_wp2_with fail
            go_meet
            exact ⟨rfl, hBc⟩)
        case rest =>
          obtain ⟨rfl, hBd⟩ := hcut
          clear x0 x1 x4 y0 y1 y4 s0 s1 t0 t1 hz1 hz2 hz3 hz4 hbq hrr
          cases rr with
          | true =>
            have HF : Hid (R = true) := Lib.hid (by rw [HN.out]; simp)
            have HBE := Lib.hid (bel_on2 HBW.out (bel_on HB2.out hBd.out))
            go_wp2
            go_ret
            exact ⟨ret_bool HF.out.symm, HBE.out⟩
          | false =>
            have HF : Hid (R = nearGo ⟨an, al⟩ ⟨bn, bl⟩ (L.drop (j + 1))) := Lib.hid (by rw [HN.out]; simp)
            have hwJ : IntKind.i64.wrap ((J : Int) + 1) = (J : Int) + 1 := IntWalk.i64_in _ (by omega)
            have hJ66 : J ≤ 66 := by omega
            have HJ2 : Hid (R = nearGo ⟨an, al⟩ ⟨bn, bl⟩ (L.drop J)) := Lib.hid (by rw [← HJ.out]; exact HF.out)
            clear HF HN
            go_wp2
            go_roundw
            case rel => exact ⟨J, hJ66, by simp [hwJ], HJ2, hBd⟩
            case measure => first | (simp [intOf]; done) | (simp [intOf]; omega)
    · have HF : Hid (R = false) := Lib.hid (by rw [hG.out]; exact nearGo_end (by omega))
      have hlz : ¬ (J : Int) < (L.length : Int) := by omega
      have HBE := Lib.hid (bel_on2 HBW.out (bel_on HB2.out hB.out))
      clear hG hB hJ hJz
      go_wp2
      go_ret
      exact ⟨ret_bool HF.out.symm, HBE.out⟩
end Go.Proofs.YtddiabpjmnmllaaDoor
