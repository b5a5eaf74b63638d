/- The law CabinParts, walked. -/
import Derived.Test.YtddiabpjmnmllaaDoorJCbPtP
import Derived.Test.YtddiabpjmnmllaaDoorJCbLawFd
namespace Go.Proofs.YtddiabpjmnmllaaDoor
open Go.RowKit Go.Lib
theorem spot_box {w V : World} {g : Nat} {xn : Int} {xl : UInt8} {xc xz xb : Int} {xe xk : Bool} (hb : w.heap[g]? = some (.cells #[.int .i64 xn, .int .u8 (xl.toNat : Int), .int .i64 xc, .int .i64 xz, .int .i64 xb, .bool xe, .bool xk] 35 (0, 0))) (hV : Below w.heap.size w V) :
    V.cell? ⟨g, 0, none⟩ = some (.int .i64 xn) ∧ V.cell? ⟨g, 1, none⟩ = some (.int .u8 (xl.toNat : Int)) ∧ V.cell? ⟨g, 2, none⟩ = some (.int .i64 xc) ∧ V.cell? ⟨g, 3, none⟩ = some (.int .i64 xz) ∧ V.cell? ⟨g, 4, none⟩ = some (.int .i64 xb) ∧ V.cell? ⟨g, 5, none⟩ = some (.bool xe) ∧ V.cell? ⟨g, 6, none⟩ = some (.bool xk) := by
  have h2 := box_keep hb (Upd.of_below (S := fun _ => False) hV) id
  refine ⟨?_, ?_, ?_, ?_, ?_, ?_, ?_⟩
  · rw [cell_of_row _ _ 0 _ _ _ h2]; rfl
  · rw [cell_of_row _ _ 1 _ _ _ h2]; rfl
  · rw [cell_of_row _ _ 2 _ _ _ h2]; rfl
  · rw [cell_of_row _ _ 3 _ _ _ h2]; rfl
  · rw [cell_of_row _ _ 4 _ _ _ h2]; rfl
  · rw [cell_of_row _ _ 5 _ _ _ h2]; rfl
  · rw [cell_of_row _ _ 6 _ _ _ h2]; rfl
theorem blkC_all {out : List MBlk} {vs : List Value} (h : vs.length = out.length) {b : Nat} {B : MBlk} (hB : out[b]? = some B) : ∃ u, vs[b]? = some u ∧ (out.zip vs)[b]? = some (B, u) := by
  obtain ⟨hb, rfl⟩ := List.getElem?_eq_some_iff.1 hB
  have hv : b < vs.length := by omega
  exact ⟨vs[b], List.getElem?_eq_getElem hv, by rw [List.getElem?_eq_getElem (by simp; omega), List.getElem_zip]⟩
theorem mem_take_succ {S : List MSeat} {j : Nat} (hj : j < S.length) (q : MSeat) : decide (q ∈ S.take (j + 1)) = (decide (q ∈ S.take j) || decide (S[j] = q)) := by
  have h : q ∈ S.take (j + 1) ↔ q ∈ S.take j ∨ S[j] = q := by rw [List.take_succ_eq_append_getElem hj, List.mem_append, List.mem_singleton, eq_comm (a := q)]
  rw [← Bool.decide_or]
  exact decide_eq_decide.2 h
theorem zip_len {out : List MBlk} {vs : List Value} (h : vs.length = out.length) : (out.zip vs).length = out.length := by simp; omega
set_option maxHeartbeats 32000000 in
set_option maxRecDepth 20000 in
theorem cabParts_any (w : World) (m : Int) (A : Option Addr) (n c : Nat) (l : List MRow) (hr : Rd w w.heap.size 5 A n (catv rowC l)) (hf : ∀ r ∈ l, r.fits) (hLib : LibAt w m) :
    Calls Tryd.prog 10 #[.slice A n c] w fun e w' => e = .returned (.bool true) ∧ Below w.heap.size w w' := by
  have hl66 := spots_len l
  have hbl66 := blocksOf_len (spotsL l)
  obtain ⟨L, hL⟩ : ∃ L, spotsL l = L := ⟨_, rfl⟩
  obtain ⟨Bs, hBs⟩ : ∃ Bs, blocksOf L = Bs := ⟨_, rfl⟩
  have HPT : Hid (∀ (k : Nat) (x : MSpot), L[k]? = some x → ∃ b B, PartAt L Bs k x b B) := Lib.hid (fun k x hx => by
    subst hBs; subst hL
    obtain ⟨hk, rfl⟩ := List.getElem?_eq_some_iff.1 hx
    exact part_at l hk)
  have HSUM : Hid (seatsN Bs = freeN L) := Lib.hid (by subst hBs; subst hL; exact seatsN_all l)
  have HE : Hid (checkL l = false → L = []) := Lib.hid (fun h => by rw [← hL]; unfold spotsL; rw [h]; rfl)
  have HSP : Hid (∀ V : World, Below w.heap.size w V → Calls Tryd.prog 26 #[.slice A n c] V fun e w' => ∃ v, e = .returned v ∧ w'.ownsRow V.heap.size 35 7 v L.length (catv spotC L) ∧ Below V.heap.size V w') := Lib.hid (fun V hV => by
    have := spots_any V m A n c l ((hr.below hV).mono hV.size) hf (hLib.below hV)
    rw [hL] at this
    exact this)
  have HBK : Hid (∀ V : World, Below w.heap.size w V → Calls Tryd.prog 28 #[.slice A n c] V fun e w' => ∃ v vs, e = .returned v ∧ BlkRow w' V.heap.size v Bs vs ∧ Below V.heap.size V w') := Lib.hid (fun V hV => by
    have := blocks_any V m A n c l ((hr.below hV).mono hV.size) hf (hLib.below hV)
    rw [hL] at this
    unfold BlkAns at this
    rw [hBs] at this
    exact this)
  have HCK : Hid (∀ V : World, Below w.heap.size w V → Calls Tryd.prog 22 #[.slice A n c] V fun e w' => e = .returned (.int .i64 (errC l)) ∧ Below V.heap.size V w') := Lib.hid (fun V hV => rcheck_any V A n c l ((hr.below hV).mono hV.size) hf)
  have HFD : Hid (∀ (V : World) (q : MSeat), Below w.heap.size w V → Calls Tryd.prog 32 #[.agg #[.int .i64 q.num, .int .u8 (q.ltr.toNat : Int)], .slice A n c] V fun e w' => e = .returned (.tuple #[spotV (spotAt L q), .bool (findS L q).isSome]) ∧ Below V.heap.size V w') := Lib.hid (fun V q hV => by
    have := find_any V m A n c l q ((hr.below hV).mono hV.size) hf (hLib.below hV)
    rw [hL] at this
    exact this)
  have HNR : Hid (∀ (V : World) (p q : MSeat), Below w.heap.size w V → Calls Tryd.prog 33 #[.agg #[.int .i64 p.num, .int .u8 (p.ltr.toNat : Int)], .agg #[.int .i64 q.num, .int .u8 (q.ltr.toNat : Int)], .slice A n c] V fun e w' => e = .returned (.bool (nearI L (idxS L p) (idxS L q))) ∧ Below V.heap.size V w') := Lib.hid (fun V p q hV => by
    have := near_any V m A n c l p q ((hr.below hV).mono hV.size) hf (hLib.below hV)
    rw [hL] at this
    exact this)
  have HLV := Lib.hid (clives_any w m hLib)
  rw [hL] at hl66 hbl66
  rw [hBs] at hbl66
  obtain ⟨ck, hck⟩ : ∃ ck, checkL l = ck := ⟨_, rfl⟩
  have HCK2 : Hid (errC l = if ck = true then 0 else 13) := Lib.hid (by unfold errC; rw [hck])
  rw [hck] at HE
  clear hr hf hLib hL hBs hck
  go_enter Tryd.func10, Tryd.ntmps10
  go_wp2_with fail
  refine HLV.out.mono ?_
  rintro e w1 ⟨rfl, hb1⟩
  have HB1 := Lib.hid hb1
  have h2 := Lib.hid (HSP.out w1 hb1)
  clear hb1 HLV HSP
  go_wp2_with fail
  refine h2.out.mono ?_
  rintro e w2 ⟨v2, rfl, ho2, hb2⟩
  obtain ⟨A2, c2, rfl, hrd2⟩ := own_rd ho2
  have HB2 := Lib.hid (bel_on2 HB1.out hb2)
  have HR2 := Lib.hid hrd2
  have h3 := Lib.hid (HBK.out w2 HB2.out)
  clear ho2 hb2 hrd2 h2 HBK
  go_wp2_with fail
  refine h3.out.mono ?_
  rintro e w3 ⟨v3, vs, rfl, hbr, hb3⟩
  obtain ⟨A3, c3, rfl, hrd3⟩ := own_rd hbr.row
  have HB3 := Lib.hid (bel_on2 HB2.out hb3)
  have HR23 := Lib.hid ((HR2.out.below hb3).mono hb3.size)
  have HR3 := Lib.hid hrd3
  have HBR := Lib.hid hbr
  have h4 := Lib.hid (HCK.out w3 HB3.out)
  clear hb3 hrd3 hbr h3 HCK HR2 HB2
  go_wp2_with fail
  refine h4.out.mono ?_
  rintro e w4 ⟨rfl, hb4⟩
  have HB4 := Lib.hid (bel_on2 HB3.out hb4)
  have HRL := Lib.hid ((HR23.out.below hb4).mono hb4.size)
  have HRB := Lib.hid ((HR3.out.below hb4).mono hb4.size)
  have HBW := Lib.hid (HBR.out.below hb4)
  rw [HCK2.out]
  have HVL := Lib.hid HBR.out.len
  clear hb4 h4 HB3 HR23 HR3 HBR HCK2
  cases ck with
  | false =>
    have hl0 : L = [] := HE.out rfl
    subst hl0
    have hb0 : Bs.length = 0 := by simp at hbl66; exact hbl66 ▸ rfl
    rw [hb0]
    simp only [Bool.false_eq_true, if_false]
    go_wp2
    go_ret
    exact ⟨rfl, HB4.out⟩
  | true =>
    simp only [if_true]
    clear HE
    have hfz : freeN L ≤ 66 := by unfold freeN; have := List.countP_le_length (p := fun x : MSpot => !x.blocked) (l := L); omega
    go_wp2
    go_loopw [5, 37] (fun nv iv wx => ∃ k : Nat, k ≤ L.length ∧ iv = .int .i64 (k : Int) ∧ nv = .int .i64 (freeN (L.take k) : Int) ∧ Hid (Below w4.heap.size w4 wx)) (fun _ iv _ => L.length - (intOf iv).toNat)
    case atStart => exact ⟨0, Nat.zero_le _, rfl, rfl, Lib.hid (Below.refl _ _)⟩
    case round =>
      obtain ⟨k, hk, rfl, rfl, hB⟩ := hrel
      by_cases hlt : k < L.length
      · obtain ⟨gl, ol, rfl, hgl, hs, hcc⟩ := (HRL.out.below hB.out).elem spotC_len (by decide) hlt
        obtain ⟨x, hx⟩ : ∃ x, L[k] = x := ⟨_, rfl⟩
        have hxk : L[k]? = some x := by rw [List.getElem?_eq_getElem hlt, hx]
        obtain ⟨b, B, hP⟩ := HPT.out k x hxk
        rw [hx] at hcc
        have hF1 : freeN (L.take (k + 1)) = freeN (L.take k) + if x.blocked = true then 0 else 1 := by rw [freeN_take hlt, hx]
        have hFle : freeN (L.take (k + 1)) ≤ 66 := by unfold freeN; have := List.countP_le_length (p := fun x : MSpot => !x.blocked) (l := L.take (k + 1)); rw [List.length_take] at this; omega
        obtain ⟨fk, hfk⟩ : ∃ fk, freeN (L.take k) = fk := ⟨_, rfl⟩
        rw [hfk] at hF1
        rw [hfk]
        obtain ⟨pb, hpb⟩ : ∃ pb, 0 < k → ∃ y : MSpot, L[k - 1]? = some y ∧ y.blk = pb ∧ wr.cell? ⟨gl, ol + (k - 1) * 7 + 4, none⟩ = some (.int .i64 pb) := by
          by_cases h0 : 0 < k
          · obtain ⟨_, _, he, _, hs2, hc2⟩ := (HRL.out.below hB.out).elem spotC_len (by decide) (show k - 1 < L.length by omega)
            simp only [Option.some.injEq, Addr.mk.injEq, and_true] at he
            obtain ⟨rfl, rfl⟩ := he
            exact ⟨_, fun _ => ⟨_, List.getElem?_eq_getElem hs2, rfl, hc2 4 _ rfl⟩⟩
          · exact ⟨0, fun h => absurd h h0⟩
        obtain ⟨u, hu, hzu⟩ := blkC_all HVL.out hP.is
        obtain ⟨gb, ob, rfl, hgb, hbz, hcb⟩ := HRB.out.elem blkC_len (by decide) hP.hb
        have hze : (Bs.zip vs)[b] = (B, u) := by rw [List.getElem?_eq_getElem hbz] at hzu; exact Option.some.inj hzu
        rw [hze] at hcb
        have hos := HBW.out.own b hP.hb u hu
        have hBe : Bs[b]'hP.hb = B := by have := hP.is; rw [List.getElem?_eq_getElem hP.hb] at this; exact Option.some.inj this
        rw [hBe] at hos
        obtain ⟨A5, c5, rfl, hrd5⟩ := own_rd hos
        have hSl : B.seats.length ≤ 66 := by
          have h1 : seatsN Bs ≤ 66 := by rw [HSUM.out]; exact hfz
          have h2 := seatsN_cut hP.hb
          have h3 := seatsN_le (Bs := Bs) (k := b + 1)
          rw [hBe] at h2
          omega
        have hfd := HFD.out
        have HPP := Lib.hid hP
        obtain ⟨hp1, hp2⟩ := hP.find
        have hb66 := hP.hb
        have hblk := hP.blk
        obtain ⟨⟨xn, xl⟩, xc, xz, xb, xe, xk⟩ := x
        obtain ⟨Bc, Br, Be, Bss⟩ := B
        have he1 := hP.cab.symm
        have he2 := hP.exit.symm
        have he3 := hP.row.symm
        simp only at hp1 hp2 hblk hF1 hSl hrd5 hcb he1 he2 he3
        subst hblk he1 he2 he3
        have b0 := hcb 0 _ rfl
        have b1 := hcb 1 _ rfl
        have b2 := hcb 2 _ rfl
        have b3 := hcb 3 _ rfl
        have q0 := hcc 0 _ rfl
        have q1 := hcc 1 _ rfl
        have q2 := hcc 2 _ rfl
        have q3 := hcc 3 _ rfl
        have q4 := hcc 4 _ rfl
        have q5 := hcc 5 _ rfl
        have q6 := hcc 6 _ rfl
        rw [Nat.add_zero] at b0 q0
        obtain ⟨V1, hV1⟩ : ∃ V, V = wr.alloc (.cells #[.int .i64 xn, .int .u8 (xl.toNat : Int), .int .i64 xc, .int .i64 xz, .int .i64 (b : Int), .bool xe, .bool xk] 35) := ⟨_, rfl⟩
        obtain ⟨X, hX⟩ : ∃ X, wr.heap.size = X := ⟨_, rfl⟩
        have hv1 : Below wr.heap.size wr V1 := by rw [hV1]; exact (Below.refl _ _).alloc (Nat.le_refl _) _
        have bx : V1.heap[X]? = some (.cells #[.int .i64 xn, .int .u8 (xl.toNat : Int), .int .i64 xc, .int .i64 xz, .int .i64 (b : Int), .bool xe, .bool xk] 35 (0, 0)) := by rw [hV1, ← hX]; exact heap_alloc_new wr _
        have hVB := bel_on hB.out hv1
        have h5 := hfd V1 ⟨xn, xl⟩ (bel_on2 HB4.out hVB)
        rw [hp1, hp2] at h5
        simp only [spotV] at h5
        have H5 := Lib.hid h5
        have HX1 := Lib.hid bx
        have HVB := Lib.hid hVB
        have HQ : Hid (∀ V : World, Below w4.heap.size w4 V → (0 < k → ∃ y : MSpot, L[k - 1]? = some y ∧ y.blk = pb ∧ V.cell? ⟨gl, ol + (k - 1) * 7 + 4, none⟩ = some (.int .i64 pb)) ∧ V.cell? ⟨gb, ob + b * 4, none⟩ = some (.int .i64 xc) ∧ V.cell? ⟨gb, ob + b * 4 + 1, none⟩ = some (.int .i64 xn) ∧ V.cell? ⟨gb, ob + b * 4 + 2, none⟩ = some (.bool xe) ∧ V.cell? ⟨gb, ob + b * 4 + 3, none⟩ = some (.slice A5 Bss.length c5)) := Lib.hid (fun V hV => by
          have e : ∀ q : Addr, q.block < w4.heap.size → V.cell? q = w4.cell? q := fun q hq => hV.cell hq
          refine ⟨fun h0 => ?_, (e ⟨gb, ob + b * 4, none⟩ hgb).trans b0, (e ⟨gb, ob + b * 4 + 1, none⟩ hgb).trans b1, (e ⟨gb, ob + b * 4 + 2, none⟩ hgb).trans b2, (e ⟨gb, ob + b * 4 + 3, none⟩ hgb).trans b3⟩
          obtain ⟨y, h1, h2, h3⟩ := hpb h0
          exact ⟨y, h1, h2, (e ⟨gl, ol + (k - 1) * 7 + 4, none⟩ hgl).trans ((hB.out.cell (p := ⟨gl, ol + (k - 1) * 7 + 4, none⟩) hgl).symm.trans h3)⟩)
        have HS5 := Lib.hid hrd5
        have HF1 := Lib.hid hF1
        have hkz0 : (0 : Int) ≤ (k : Int) := by omega
        have hkz : (k : Int) < (L.length : Int) := by omega
        have hXw : w4.heap.size ≤ X := by rw [← hX]; exact hB.out.size
        clear hcb hcc hos hrd5 hfd hzu hze hu hBe hpb b0 b1 b2 b3 hv1 bx hVB h5 hF1 hp1 hp2 hP hs hbz hxk hx
        go_wp2_with fail
        rw [← hV1]
        clear hV1 q0 q1 q2 q3 q4 q5 q6
        refine H5.out.mono ?_
        rintro e w5 ⟨rfl, hb5⟩
        obtain ⟨V2, hV2⟩ : ∃ V, V = w5.alloc (.cells #[.int .i64 xn, .int .u8 (xl.toNat : Int), .int .i64 xc, .int .i64 xz, .int .i64 (b : Int), .bool xe, .bool xk] 35) := ⟨_, rfl⟩
        obtain ⟨Y, hY⟩ : ∃ Y, w5.heap.size = Y := ⟨_, rfl⟩
        have hv2 : Below w5.heap.size w5 V2 := by rw [hV2]; exact (Below.refl _ _).alloc (Nat.le_refl _) _
        have by2 : V2.heap[Y]? = some (.cells #[.int .i64 xn, .int .u8 (xl.toNat : Int), .int .i64 xc, .int .i64 xz, .int .i64 (b : Int), .bool xe, .bool xk] 35 (0, 0)) := by rw [hV2, ← hY]; exact heap_alloc_new w5 _
        have hb2 := bel_on hb5 hv2
        have bx2 := box_keep HX1.out (Upd.of_below (S := fun _ => False) hb2) id
        have HB2 := Lib.hid (bel_on HVB.out hb2)
        have HX2 := Lib.hid bx2
        have HY2 := Lib.hid by2
        clear hb5 hv2 hb2 by2 bx2 H5 HX1 HVB
        go_upto_region 11 with (fail)
        rw [← hV2]
        clear hV2
        go_cut [82] (fun v wc => v = .bool false ∧ Hid (Below w4.heap.size w4 wc) ∧ Hid (wc.heap[X]? = some (.cells #[.int .i64 xn, .int .u8 (xl.toNat : Int), .int .i64 xc, .int .i64 xz, .int .i64 (b : Int), .bool xe, .bool xk] 35 (0, 0))))
        case first =>
          obtain ⟨x0, x1, x2, x3, x4, x5, x6⟩ := spot_box HX2.out (Below.refl _ _)
          obtain ⟨y0, y1, y2, y3, y4, y5, y6⟩ := spot_box HY2.out (Below.refl _ _)
          obtain ⟨hq, -, -, -, -⟩ := HQ.out V2 HB2.out
          have hse : ∀ V : World, (Op.equalIn 10000 35 (.agg #[.int .i64 xn, .int .u8 (xl.toNat : Int), .int .i64 xc, .int .i64 xz, .int .i64 (b : Int), .bool xe, .bool xk]) (.agg #[.int .i64 xn, .int .u8 (xl.toNat : Int), .int .i64 xc, .int .i64 xz, .int .i64 (b : Int), .bool xe, .bool xk])).run Tryd.prog V = .ok true V := fun V => spot_eqRefl V xn xl xc xz (b : Int) xe xk
          have hd1 : decide ((b : Int) < 0) = false := decide_eq_false (by omega)
          have hd2 : decide ((Bs.length : Int) ≤ (b : Int)) = false := decide_eq_false (by omega)
          have hd2n : decide (Bs.length ≤ b) = false := decide_eq_false (by omega)
          by_cases h0 : 0 < k
          · obtain ⟨y, hy1, rfl, hy3⟩ := hq h0
            have hm := HPP.out.mono y h0 hy1
            simp only at hm
            obtain ⟨k', hk'⟩ : ∃ k', k - 1 = k' := ⟨_, rfl⟩
            rw [hk'] at hy3
            obtain ⟨yb, hyb⟩ : ∃ yb, y.blk = yb := ⟨_, rfl⟩
            rw [hyb] at hm hy3
            have hk1 : IntKind.i64.wrap ((k : Int) - 1) = (k' : Int) := by rw [IntWalk.i64_in _ (by omega)]; omega
            have hd3 : decide ((0 : Int) < (k : Int)) = true := decide_eq_true (by omega)
            have hd3n : decide (0 < k) = true := decide_eq_true h0
            have hd4 : decide ((b : Int) < yb) = false := decide_eq_false (by omega)
            have hk2 : (0 : Int) ≤ (k' : Int) := by omega
            have hk3 : (k' : Int) < (L.length : Int) := by omega
            clear hk' hyb hm hy1
            go_big_quiet (fail)
            go_wp2
            go_meet
            exact ⟨rfl, Lib.hid (bel_drewN HB2.out _), HX2⟩
          · have hd3 : decide ((0 : Int) < (k : Int)) = false := decide_eq_false (by omega)
            have hd3n : decide (0 < k) = false := decide_eq_false h0
            clear hq
            go_big_quiet (fail)
            go_wp2
            go_meet
            exact ⟨rfl, Lib.hid (bel_drewN HB2.out _), HX2⟩
        case rest =>
          obtain ⟨rfl, hB6, hX6⟩ := hcut
          obtain ⟨x0, x1, x2, x3, x4, x5, x6⟩ := spot_box hX6.out (Below.refl _ _)
          obtain ⟨-, p0, p1, p2, p3⟩ := HQ.out wc hB6.out
          have hbz0 : (0 : Int) ≤ (b : Int) := by omega
          have hbz1 : (b : Int) < (Bs.length : Int) := by omega
          clear HB2 HX2 HY2
          go_wp2
          go_loopw [10, 90] (fun tv iv wx => ∃ j : Nat, j ≤ Bss.length ∧ iv = .int .i64 (j : Int) ∧ tv = .bool (decide ((⟨xn, xl⟩ : MSeat) ∈ Bss.take j)) ∧ Hid (Below w4.heap.size w4 wx) ∧ Hid (wx.heap[X]? = some (.cells #[.int .i64 xn, .int .u8 (xl.toNat : Int), .int .i64 xc, .int .i64 xz, .int .i64 (b : Int), .bool xe, .bool xk] 35 (0, 0)))) (fun _ iv _ => Bss.length - (intOf iv).toNat)
          case atStart => exact ⟨0, Nat.zero_le _, rfl, by simp, hB6, hX6⟩
          case round =>
            obtain ⟨j, hj, rfl, rfl, hB7, hX7⟩ := hrel
            by_cases hjl : j < Bss.length
            · obtain ⟨gs, os, rfl, hgs, hsj, hcs⟩ := (HS5.out.below hB7.out).elem seatC_len (by decide) hjl
              obtain ⟨tb, htb⟩ : ∃ tb, decide ((⟨xn, xl⟩ : MSeat) ∈ Bss.take j) = tb := ⟨_, rfl⟩
              obtain ⟨eqb, heqb⟩ : ∃ eqb, decide (Bss[j] = (⟨xn, xl⟩ : MSeat)) = eqb := ⟨_, rfl⟩
              have HT : Hid (decide ((⟨xn, xl⟩ : MSeat) ∈ Bss.take (j + 1)) = (tb || eqb)) := Lib.hid (by
                rw [← htb, ← heqb]; exact mem_take_succ hjl _)
              obtain ⟨⟨sn, sl⟩, hsq⟩ : ∃ s, Bss[j] = s := ⟨_, rfl⟩
              rw [hsq] at hcs heqb
              have hse : ∀ V : World, (Op.equalIn 10000 32 (.agg #[.int .i64 sn, .int .u8 (sl.toNat : Int)]) (.agg #[.int .i64 xn, .int .u8 (xl.toNat : Int)])).run Tryd.prog V = .ok eqb V := fun V => by rw [← heqb]; exact seat_eqIn V ⟨sn, sl⟩ ⟨xn, xl⟩
              rw [htb]
              have s0 := hcs 0 _ rfl
              have s1 := hcs 1 _ rfl
              rw [Nat.add_zero] at s0
              obtain ⟨V3, hV3⟩ : ∃ V, V = wr.alloc (.cells #[.int .i64 sn, .int .u8 (sl.toNat : Int)] 32) := ⟨_, rfl⟩
              obtain ⟨Y3, hY3⟩ : ∃ Y, wr.heap.size = Y := ⟨_, rfl⟩
              have hv3 : Below wr.heap.size wr V3 := by rw [hV3]; exact (Below.refl _ _).alloc (Nat.le_refl _) _
              have hs3 : V3.heap[Y3]? = some (.cells #[.int .i64 sn, .int .u8 (sl.toNat : Int)] 32 (0, 0)) := by rw [hV3, ← hY3]; exact heap_alloc_new wr _
              obtain ⟨x0, x1, -, -, -, -, -⟩ := spot_box hX7.out hv3
              have y0 : V3.cell? ⟨Y3, 0, none⟩ = some (.int .i64 sn) := by rw [cell_of_row _ _ 0 _ _ _ hs3]; rfl
              have y1 : V3.cell? ⟨Y3, 1, none⟩ = some (.int .u8 (sl.toNat : Int)) := by rw [cell_of_row _ _ 1 _ _ _ hs3]; rfl
              have HB8 := Lib.hid (bel_on hB7.out hv3)
              have HX8 := Lib.hid (box_keep hX7.out (Upd.of_below (S := fun _ => False) hv3) id)
              have hjz0 : (0 : Int) ≤ (j : Int) := by omega
              have hjz : (j : Int) < (Bss.length : Int) := by omega
              have hwj : IntKind.i64.wrap ((j : Int) + 1) = ((j + 1 : Nat) : Int) := by rw [IntWalk.i64_in _ (by omega)]; omega
              clear hcs htb heqb hsq hv3 hs3 hsj
              go_upto_region 17 with (fail)
              rw [← hV3]
              clear hV3 s0 s1
              cases tb <;> (
                go_wp2_with fail
                go_roundw
                case rel => exact ⟨j + 1, by omega, by simp [hwj], by rw [HT.out]; simp, HB8, HX8⟩
                case measure => simp [intOf]; omega)
            · obtain rfl : j = Bss.length := by omega
              have hthere := HPP.out.there
              simp only at hthere
              have htb : decide ((⟨xn, xl⟩ : MSeat) ∈ Bss.take Bss.length) = !xk := by
                rw [List.take_length]
                cases xk
                · exact decide_eq_true (hthere.2 rfl)
                · exact decide_eq_false (fun h => by have := hthere.1 h; cases this)
              rw [htb]
              clear htb hthere hB6 hX6
              go_wp2
              go_loopw [11, 104] (fun nv iv wx => ∃ j : Nat, j ≤ L.length ∧ iv = .int .i64 (j : Int) ∧ nv = .int .i64 (nearN L k j : Int) ∧ Hid (Below w4.heap.size w4 wx) ∧ Hid (wx.heap[X]? = some (.cells #[.int .i64 xn, .int .u8 (xl.toNat : Int), .int .i64 xc, .int .i64 xz, .int .i64 (b : Int), .bool xe, .bool xk] 35 (0, 0)))) (fun _ iv _ => L.length - (intOf iv).toNat)
              case atStart => exact ⟨0, Nat.zero_le _, rfl, rfl, hB7, hX7⟩
              case round =>
                obtain ⟨j, hj, rfl, rfl, hB9, hX9⟩ := hrel
                by_cases hjl : j < L.length
                · obtain ⟨_, _, he, _, hsz, hcz⟩ := (HRL.out.below hB9.out).elem spotC_len (by decide) hjl
                  simp only [Option.some.injEq, Addr.mk.injEq, and_true] at he
                  obtain ⟨rfl, rfl⟩ := he
                  obtain ⟨z, hz⟩ : ∃ z, L[j] = z := ⟨_, rfl⟩
                  have hnr := HPP.out.near j z (by rw [List.getElem?_eq_getElem hjl, hz])
                  rw [hz] at hcz
                  obtain ⟨nn, hnn⟩ : ∃ nn, nearN L k j = nn := ⟨_, rfl⟩
                  obtain ⟨r, hrr⟩ : ∃ r, nextI L k j = r := ⟨_, rfl⟩
                  have HN1 : Hid (nearN L k (j + 1) = nn + if r = true then 1 else 0) := Lib.hid (by rw [← hnn, ← hrr]; rfl)
                  have hn2 : nn ≤ 2 := by rw [← hnn]; exact nearN_two L k j
                  rw [hnn]
                  obtain ⟨⟨zn, zl⟩, zc, zz, zb, ze, zk⟩ := z
                  simp only at hnr
                  obtain ⟨hn3, hn4, hn5⟩ := hnr
                  rw [hrr] at hn3 hn4 hn5
                  have z0 := hcz 0 _ rfl
                  have z1 := hcz 1 _ rfl
                  have z2 := hcz 2 _ rfl
                  have z3 := hcz 3 _ rfl
                  have z4 := hcz 4 _ rfl
                  have z5 := hcz 5 _ rfl
                  have z6 := hcz 6 _ rfl
                  rw [Nat.add_zero] at z0
                  obtain ⟨V5, hV5⟩ : ∃ V, V = wr.alloc (.cells #[.int .i64 zn, .int .u8 (zl.toNat : Int), .int .i64 zc, .int .i64 zz, .int .i64 zb, .bool ze, .bool zk] 35) := ⟨_, rfl⟩
                  obtain ⟨Z, hZ⟩ : ∃ Z, wr.heap.size = Z := ⟨_, rfl⟩
                  have hv5 : Below wr.heap.size wr V5 := by rw [hV5]; exact (Below.refl _ _).alloc (Nat.le_refl _) _
                  have hs5 : V5.heap[Z]? = some (.cells #[.int .i64 zn, .int .u8 (zl.toNat : Int), .int .i64 zc, .int .i64 zz, .int .i64 zb, .bool ze, .bool zk] 35 (0, 0)) := by rw [hV5, ← hZ]; exact heap_alloc_new wr _
                  obtain ⟨x0, x1, x2, x3, x4, x5, x6⟩ := spot_box hX9.out hv5
                  obtain ⟨y0, y1, y2, y3, y4, y5, y6⟩ := spot_box hs5 (Below.refl _ _)
                  have HB10 := Lib.hid (bel_on hB9.out hv5)
                  have HX10 := Lib.hid (box_keep hX9.out (Upd.of_below (S := fun _ => False) hv5) id)
                  have HZ10 := Lib.hid hs5
                  have h7 := HNR.out V5 ⟨xn, xl⟩ ⟨zn, zl⟩ (bel_on2 HB4.out HB10.out)
                  rw [hn3] at h7
                  have h8 := fun (V : World) (hV : Below V5.heap.size V5 V) => HNR.out V ⟨zn, zl⟩ ⟨xn, xl⟩ (bel_on2 HB4.out (bel_on HB10.out hV))
                  rw [hn4] at h8
                  simp only at h7 h8
                  have H7 := Lib.hid h7
                  have H8 := Lib.hid h8
                  have HN5 := Lib.hid hn5
                  have hjz0 : (0 : Int) ≤ (j : Int) := by omega
                  have hjz : (j : Int) < (L.length : Int) := by omega
                  have hwj : IntKind.i64.wrap ((j : Int) + 1) = ((j + 1 : Nat) : Int) := by rw [IntWalk.i64_in _ (by omega)]; omega
                  have hwn : IntKind.i64.wrap ((nn : Int) + 1) = ((nn + 1 : Nat) : Int) := by rw [IntWalk.i64_in _ (by omega)]; omega
                  clear hcz hnn hrr hz hv5 hs5 hn3 hn4 hn5 h7 h8 hsz
                  go_upto_region 22 with (fail)
                  rw [← hV5]
                  clear hV5 z0 z1 z2 z3 z4 z5 z6
                  go_wp2_with fail
                  refine H7.out.mono ?_
                  rintro e w7 ⟨rfl, hb7⟩
                  clear x0 x1 x2 x3 x4 x5 x6 y0 y1 y2 y3 y4 y5 y6
                  cases r with
                  | false =>
                    have HB11 := Lib.hid (bel_on HB10.out hb7)
                    have HX11 := Lib.hid (box_keep HX10.out (Upd.of_below (S := fun _ => False) hb7) id)
                    clear hb7
                    go_wp2_with fail
                    go_roundw
                    case rel => exact ⟨j + 1, by omega, by simp [hwj], by rw [HN1.out]; simp, HB11, HX11⟩
                    case measure => simp [intOf]; omega
                  | true =>
                    obtain ⟨hnz, hzb⟩ := HN5.out rfl
                    obtain rfl : zb = (b : Int) := hzb
                    obtain ⟨x0, x1, x2, x3, x4, x5, x6⟩ := spot_box HX10.out hb7
                    obtain ⟨y0, y1, y2, y3, y4, y5, y6⟩ := spot_box HZ10.out hb7
                    have h9 := Lib.hid (H8.out w7 hb7)
                    have hse2 : ∀ V : World, (Op.equalIn 10000 32 (.agg #[.int .i64 zn, .int .u8 (zl.toNat : Int)]) (.agg #[.int .i64 xn, .int .u8 (xl.toNat : Int)])).run Tryd.prog V = .ok false V := fun V => by
                      have := seat_eqIn V ⟨zn, zl⟩ ⟨xn, xl⟩
                      rwa [decide_eq_false hnz] at this
                    have HB7' := Lib.hid hb7
                    clear hb7 hnz
                    go_wp2_with fail
                    refine h9.out.mono ?_
                    rintro e w8 ⟨rfl, hb8⟩
                    have hb9 := bel_on HB7'.out hb8
                    have HB11 := Lib.hid (bel_on HB10.out hb9)
                    have HX11 := Lib.hid (box_keep HX10.out (Upd.of_below (S := fun _ => False) hb9) id)
                    obtain ⟨x0, x1, x2, x3, x4, x5, x6⟩ := spot_box HX10.out hb9
                    obtain ⟨y0, y1, y2, y3, y4, y5, y6⟩ := spot_box HZ10.out hb9
                    clear hb8 hb9 h9
                    go_wp2_with fail
                    go_roundw
                    case rel => exact ⟨j + 1, by omega, by simp [hwj], by rw [HN1.out]; simp [hwn], HB11, HX11⟩
                    case measure => simp [intOf]; omega
                · obtain rfl : j = L.length := by omega
                  obtain ⟨nn, hnn⟩ : ∃ nn, nearN L k L.length = nn := ⟨_, rfl⟩
                  have hn2 : nn ≤ 2 := by rw [← hnn]; exact nearN_two L k _
                  rw [hnn]
                  obtain ⟨x0, x1, x2, x3, x4, x5, x6⟩ := spot_box hX9.out (Below.refl _ _)
                  obtain ⟨-, p0, p1, p2, p3⟩ := HQ.out wr hB9.out
                  have hd5 : decide ((2 : Int) < (nn : Int)) = false := decide_eq_false (by omega)
                  have hd5n : decide (2 < nn) = false := decide_eq_false (by omega)
                  have hwf : IntKind.i64.wrap ((fk : Int) + 1) = ((fk + 1 : Nat) : Int) := by
                    have : fk ≤ 66 := by have := HF1.out; split at this <;> omega
                    rw [IntWalk.i64_in _ (by omega)]; omega
                  have hwk : IntKind.i64.wrap ((k : Int) + 1) = ((k + 1 : Nat) : Int) := by rw [IntWalk.i64_in _ (by omega)]; omega
                  clear hnn hB7 hX7
                  go_upto_region 27 with (fail)
                  cases xk with
                  | false =>
                    go_big_quiet (fail)
                    go_wp2_with fail
                    go_roundw
                    case rel => exact ⟨k + 1, by omega, by simp [hwk], by rw [HF1.out]; simp [hwf], Lib.hid (bel_drewN hB9.out _)⟩
                    case measure => simp [intOf]; omega
                  | true =>
                    go_big_quiet (fail)
                    go_wp2_with fail
                    go_roundw
                    case rel => exact ⟨k + 1, by omega, by simp [hwk], by rw [HF1.out]; simp, Lib.hid (bel_drewN hB9.out _)⟩
                    case measure => simp [intOf]; omega
      · obtain rfl : k = L.length := by omega
        rw [List.take_length]
        have hsN := HSUM.out
        obtain ⟨ff, hff⟩ : ∃ ff, freeN L = ff := ⟨_, rfl⟩
        rw [hff] at hsN hfz
        rw [hff]
        have HSN := Lib.hid hsN
        clear hff hsN
        go_wp2
        go_loopw [5, 188] (fun nv iv wx => ∃ j : Nat, j ≤ Bs.length ∧ iv = .int .i64 (j : Int) ∧ nv = .int .i64 ((ff : Int) - (seatsN (Bs.take j) : Int)) ∧ Hid (Below w4.heap.size w4 wx)) (fun _ iv _ => Bs.length - (intOf iv).toNat)
        case atStart => exact ⟨0, Nat.zero_le _, rfl, by simp [seatsN], hB⟩
        case round =>
          obtain ⟨j, hj, rfl, rfl, hB7⟩ := hrel
          by_cases hjl : j < Bs.length
          · obtain ⟨u, hu, hzu⟩ := blkC_all HVL.out (List.getElem?_eq_getElem hjl)
            obtain ⟨gb, ob, rfl, hgb, hbz, hcb⟩ := (HRB.out.below hB7.out).elem blkC_len (by decide) hjl
            have hze : (Bs.zip vs)[j] = (Bs[j], u) := by rw [List.getElem?_eq_getElem hbz] at hzu; exact Option.some.inj hzu
            rw [hze] at hcb
            have hos := HBW.out.own j hjl u hu
            obtain ⟨A5, c5, rfl, hrd5⟩ := own_rd hos
            have hcut := seatsN_cut hjl
            have hle := seatsN_le (Bs := Bs) (k := j + 1)
            have hsn := HSN.out
            obtain ⟨⟨Bc, Br, Be, Bss⟩, hBB⟩ : ∃ B, Bs[j] = B := ⟨_, rfl⟩
            rw [hBB] at hcb hcut
            simp only at hcb hcut
            have b0 := hcb 0 _ rfl
            have b1 := hcb 1 _ rfl
            have b2 := hcb 2 _ rfl
            have b3 := hcb 3 _ rfl
            simp only [hBB] at b3
            rw [Nat.add_zero] at b0
            obtain ⟨sj, hsj⟩ : ∃ sj, seatsN (Bs.take j) = sj := ⟨_, rfl⟩
            rw [hsj] at hcut
            rw [hsj]
            have hwj : IntKind.i64.wrap ((j : Int) + 1) = ((j + 1 : Nat) : Int) := by rw [IntWalk.i64_in _ (by omega)]; omega
            have hws : IntKind.i64.wrap ((ff : Int) - (sj : Int) - (Bss.length : Int)) = (ff : Int) - (sj : Int) - (Bss.length : Int) := IntWalk.i64_in _ (by omega)
            have HCUT := Lib.hid hcut
            have hjz0 : (0 : Int) ≤ (j : Int) := by omega
            have hjz : (j : Int) < (Bs.length : Int) := by omega
            have hal : ∀ o : Obj, Below w4.heap.size w4 (wr.alloc o) := fun o => belA hB7.out o
            have HAL := Lib.hid hal
            clear hcb hcut hle hsn hBB hrd5 hos hu hzu hze hsj hal hbz
            go_wp2_with fail
            go_roundw
            case rel => exact ⟨j + 1, by omega, by simp [hwj], by rw [HCUT.out]; simp [hws]; omega, Lib.hid (HAL.out _)⟩
            case measure => simp [intOf]; omega
          · obtain rfl : j = Bs.length := by omega
            rw [List.take_length, HSN.out]
            have HBE := Lib.hid (bel_on2 HB4.out hB7.out)
            go_wp2
            go_ret
            exact ⟨ret_bool (by simp), HBE.out⟩
end Go.Proofs.YtddiabpjmnmllaaDoor
