/- Seekers: the network, walked. -/
import Derived.Test.YtppjpledjhinbaaDoorJRsArc
import Derived.BigQuiet
namespace Go.Proofs.YtppjpledjhinbaaDoor
open Go.RowKit Go.Lib
/-- A plane in memory: its blocks, its seekers. -/
structure PlaneAt (W : World) (base P : Nat) (v u : Value) (vs : List Value) (B : List MBlk) (ks : List MSkr) : Prop where
  box : W.heap[P]? = some (.cells #[v, u] 88 (0, 0))
  lo : base ≤ P
  blk : BlkRow W base v B vs
  skr : W.ownsRow base 92 9 u ks.length (catv skrC ks)
section
variable {W W' : World} {base P : Nat} {v u : Value} {vs : List Value} {B : List MBlk} {ks : List MSkr}
theorem PlaneAt.below (h : PlaneAt W base P v u vs B ks) (hb : Below W.heap.size W W') : PlaneAt W' base P v u vs B ks :=
  ⟨box_keep h.box (Upd.of_below (S := fun _ => False) hb) id, h.lo, h.blk.below hb, own_below h.skr hb⟩
theorem PlaneAt.cells (h : PlaneAt W base P v u vs B ks) : W.cell? ⟨P, 0, none⟩ = some v ∧ W.cell? ⟨P, 1, none⟩ = some u := by
  constructor <;> rw [cell_of_row _ _ _ _ _ _ h.box] <;> rfl
theorem PlaneAt.plt (h : PlaneAt W base P v u vs B ks) : P < W.heap.size := (Array.getElem?_eq_some_iff.1 h.box).1
/-- Seeker i. -/
theorem PlaneAt.seeker (h : PlaneAt W base P v u vs B ks) {i : Nat} (hi : i < ks.length) : ∃ g c, u = .slice (some ⟨g, 0, none⟩) ks.length c ∧ g < W.heap.size ∧ SkrAt W g (i * 9) (ks[i]'hi) := by
  obtain ⟨g, c, rfl, _, hg, _⟩ := own_form h.skr (by omega)
  obtain ⟨b, off, e, hb, hs, hc⟩ := (Rd.own h.skr).elem skrC_len (by decide) hi
  simp only [Option.some.injEq, Addr.mk.injEq, and_true] at e
  obtain ⟨rfl, rfl⟩ := e
  refine ⟨g, c, rfl, hg, fun j u hu => ?_⟩
  have := hc j u hu
  rwa [Nat.zero_add] at this
/-- Block b. -/
theorem PlaneAt.block (h : PlaneAt W base P v u vs B ks) {b : Nat} (hb : b < B.length) : ∃ g c A d, v = .slice (some ⟨g, 0, none⟩) B.length c ∧ W.cell? ⟨g, b * 4, none⟩ = some (.int .i64 (B[b]'hb).cab) ∧ W.cell? ⟨g, b * 4 + 1, none⟩ = some (.int .i64 (B[b]'hb).row) ∧ W.cell? ⟨g, b * 4 + 2, none⟩ = some (.bool (B[b]'hb).exit) ∧ W.cell? ⟨g, b * 4 + 3, none⟩ = some (.slice A (B[b]'hb).seats.length d) ∧ Rd W W.heap.size 2 A (B[b]'hb).seats.length (catv seatC (B[b]'hb).seats) := by
  obtain ⟨g, c, rfl, _, hg, _⟩ := own_form h.blk.row (by omega)
  obtain ⟨x, hx⟩ := h.blk.at_ hb
  have ho := h.blk.own b hb x hx
  obtain ⟨A, d, rfl⟩ := own_shape ho
  have hl : (B.zip vs).length = B.length := by rw [List.length_zip, h.blk.len, Nat.min_self]
  have hz : b < (B.zip vs).length := by rw [hl]; exact hb
  have hbv : b < vs.length := by rw [h.blk.len]; exact hb
  have he : (B.zip vs)[b]'hz = (B[b]'hb, .slice A (B[b]'hb).seats.length d) := by
    rw [List.getElem_zip]
    rw [List.getElem?_eq_getElem hbv] at hx
    injection hx with hx
    rw [hx]
  have hrow := h.blk.row
  rw [← hl] at hrow
  obtain ⟨b2, off, e, _, hs, hc⟩ := (Rd.own hrow).elem blkC_len (by decide) hz
  simp only [Option.some.injEq, Addr.mk.injEq, and_true] at e
  obtain ⟨rfl, rfl⟩ := e
  rw [he] at hc
  simp only [Nat.zero_add] at hc
  exact ⟨g, c, A, d, rfl, hc 0 _ rfl, hc 1 _ rfl, hc 2 _ rfl, hc 3 _ rfl, Rd.own ho⟩
end
theorem kN_at {B : List MBlk} {ks : List MSkr} {i : Nat} (hi : i < ks.length) : kN B ks i = kOf B ks[i] := by
  unfold kN
  rw [List.getElem?_eq_getElem hi]; rfl
theorem flat_len {α : Type} (g : Nat → List α) (c : Nat) (n : Nat) (h : ∀ i, i < n → (g i).length ≤ c) : ((List.range n).flatMap g).length ≤ n * c := by
  induction n with
  | zero => simp
  | succ n ih =>
    rw [flat_succ, List.length_append, Nat.add_mul]
    have := ih fun i hi => h i (by omega)
    have := h n (by omega)
    omega
theorem mid_len (k : Skr) (n m i j : Nat) : (midA k n m i j).length ≤ j := by
  have := flat_len (fun b => if k.may b = true then [arc3 k n m i b] else []) 1 j (fun b _ => by
    show (if k.may b = true then [arc3 k n m i b] else []).length ≤ 1
    split
    · exact Nat.le_refl _
    · exact Nat.zero_le _)
  unfold midA
  omega
theorem kA_len (k : Skr) (n m i : Nat) : (kA k n m i).length ≤ 2 + m := by
  unfold kA
  have := mid_len k n m i m
  rw [List.length_append]
  simp only [List.length_cons, List.length_nil]
  omega
theorem seek_len (K : Nat → Skr) (n m j : Nat) : (seekA K n m j).length ≤ j * (2 + m) := flat_len _ _ _ fun i _ => kA_len _ _ _ _
theorem blkA_len (caps : Nat → Nat) (n m j : Nat) : (blkA caps n m j).length ≤ j * 2 := flat_len _ _ _ fun i _ => by simp [bA]
theorem mid_succ (k : Skr) (n m i j : Nat) : midA k n m i (j + 1) = midA k n m i j ++ (if k.may j = true then [arc3 k n m i j] else []) := flat_succ _ _
theorem seek_succ (K : Nat → Skr) (n m j : Nat) : seekA K n m (j + 1) = seekA K n m j ++ kA (K j) n m j := flat_succ _ _
theorem blkA_succ (caps : Nat → Nat) (n m j : Nat) : blkA caps n m (j + 1) = blkA caps n m j ++ bA caps n m j := flat_succ _ _
set_option maxHeartbeats 8000000 in
set_option maxRecDepth 20000 in
theorem arcs_any (w : World) (base P : Nat) (v u : Value) (vs : List Value) (B : List MBlk) (ks : List MSkr) (h : PlaneAt w base P v u vs B ks) (hn : ks.length ≤ 20) (hm : B.length ≤ 66) :
    Calls Tryd.prog 54 #[.pointer (some ⟨P, 0, none⟩)] w fun e w' => ∃ v', e = .returned v' ∧ w'.ownsRow w.heap.size 132 4 v' (arcsA (kN B ks) (capsOf B) ks.length B.length).length (arv (arcsA (kN B ks) (capsOf B) ks.length B.length)) ∧ Below w.heap.size w w' := by
  have HP := Lib.hid h
  obtain ⟨p0, p1⟩ := h.cells
  obtain ⟨A, c, rfl⟩ := own_shape h.blk.row
  obtain ⟨A', c', rfl⟩ := own_shape h.skr
  have hplt := h.plt
  obtain ⟨n, hn'⟩ : ∃ n, ks.length = n := ⟨_, rfl⟩
  obtain ⟨m, hm'⟩ : ∃ m, B.length = m := ⟨_, rfl⟩
  have HNM := Lib.hid (And.intro hn' hm')
  rw [hn', hm']
  rw [hn'] at hn p1 HP
  rw [hm'] at hm p0 HP
  obtain ⟨K, hK⟩ : ∃ K, kN B ks = K := ⟨_, rfl⟩
  obtain ⟨C, hC⟩ : ∃ C, capsOf B = C := ⟨_, rfl⟩
  rw [hK, hC]
  have HKC := Lib.hid (And.intro hK hC)
  obtain ⟨LL, hLL⟩ : ∃ LL, arcsA K C n m = LL := ⟨_, rfl⟩
  rw [hLL]
  have HLA := Lib.hid hLL
  clear h hn' hm' hK hC hLL
  go_enter Tryd.func54, Tryd.ntmps54
  go_wp2
  go_quiet (fail)
  have hbd : Below w.heap.size w (w.drewN nq) := ⟨rfl, rfl, rfl, Nat.le_refl _, fun _ _ => rfl⟩
  have hA0 : ASt w ((w.drewN nq).alloc (.cells #[.slice none 0 0] 127)) w.heap.size (.slice none 0 0) (seekA K n m 0) := ⟨heap_alloc_new (w.drewN nq) _, World.ownsRow_nil _ _ _ _, hbd.alloc (Nat.le_refl _) _, Nat.le_refl _⟩
  have HA0 := Lib.hid hA0
  have hbA := hA0.bel
  obtain ⟨W1, hW1⟩ : ∃ W, (w.drewN nq).alloc (.cells #[.slice none 0 0] 127) = W := ⟨_, rfl⟩
  have e1 : ((w.drewN nq).alloc (.cells #[.slice none 0 0] 127)).cell? ⟨P, 1, none⟩ = some (.slice A' n c') := (hbA.cell (p := ⟨P, 1, none⟩) hplt).trans p1
  obtain ⟨LB, hLB⟩ : ∃ LB, w.heap.size = LB := ⟨_, rfl⟩
  have HLB := Lib.hid hLB
  rw [hW1] at e1 HA0
  rw [hLB] at HA0
  clear hbd hA0 hbA
  go_wp2
  clear hW1 e1 hLB
  go_loopw [31] (fun iv wx => ∃ (i : Nat) (lv : Value), iv = .int .i64 (i : Int) ∧ i ≤ n ∧ Hid (ASt w wx LB lv (seekA K n m i))) (fun iv _ => n - (intOf iv).toNat)
  case atStart => exact ⟨0, _, rfl, Nat.zero_le _, HA0⟩
  case round =>
    obtain ⟨i, lv, rfl, hi, hst⟩ := hrel
    by_cases hlt : i < n
    · have hpw := HP.out.below hst.out.bel
      obtain ⟨q0, q1⟩ := hpw.cells
      have hki : i < ks.length := by rw [HNM.out.1]; exact hlt
      obtain ⟨g, cs, e, hg, hsk⟩ := hpw.seeker hki
      simp only [Value.slice.injEq] at e
      obtain ⟨rfl, -, rfl⟩ := e
      obtain ⟨x, hx⟩ : ∃ x, ks[i]'hki = x := ⟨_, rfl⟩
      rw [hx] at hsk
      have hKi : K i = kOf B x := by rw [← HKC.out.1, kN_at hki, hx]
      have hii : (i : Int) < (n : Int) := by omega
      have hi0 : (0 : Int) ≤ (i : Int) := by omega
      have hsl := seek_len K n m i
      have hsl2 : (seekA K n m i).length ≤ 2000 := Nat.le_trans hsl (Nat.le_trans (Nat.mul_le_mul (Nat.le_of_lt (Nat.lt_of_lt_of_le hlt hn)) (show 2 + m ≤ 68 by omega)) (by decide))
      have HSKW : Hid (∀ W, Below w.heap.size w W → SkrAt W g (i * 9) x) := Lib.hid (fun W hW => by
        obtain ⟨g2, c2, e, _, h2⟩ := (HP.out.below hW).seeker hki
        simp only [Value.slice.injEq, Option.some.injEq, Addr.mk.injEq, and_true] at e
        obtain ⟨rfl, -⟩ := e
        rw [hx] at h2
        exact h2)
      have hgw : g < w.heap.size := by
        obtain ⟨g2, c2, e, h2, _⟩ := HP.out.seeker hki
        simp only [Value.slice.injEq, Option.some.injEq, Addr.mk.injEq, and_true] at e
        obtain ⟨rfl, -⟩ := e
        exact h2
      have HKI := Lib.hid hKi
      have HAD := Lib.hid (add_any w wr LB lv (seekA K n m i) 0 (2 + (i : Int)) 1 0 hst.out (by omega))
      have HSL := Lib.hid hsl2
      clear hpw hsk hx hKi hst hsl hsl2
      go_wp2_with fail
      refine HAD.out.mono ?_
      rintro e w1 ⟨rfl, v1, hs1⟩
      have HS1 := Lib.hid hs1
      have hpc := sprice_any w1 g (i * 9) x (HSKW.out _ HS1.out.bel)
      obtain ⟨pr, hpr⟩ : ∃ pr : Int, (if x.must = true then 900 else 100) = pr := ⟨_, rfl⟩
      rw [hpr] at hpc
      have HPC := Lib.hid hpc
      have HPR := Lib.hid hpr
      clear HAD hs1 q0 q1 hpc hpr
      go_wp2_with fail
      refine HPC.out.mono ?_
      rintro e w2 ⟨rfl, hw2'⟩
      subst hw2'
      have HAD := Lib.hid (add_any w w2 LB v1 (seekA K n m i ++ [(0, 2 + (i : Int), 1, 0)]) (2 + (i : Int)) 1 1 pr HS1.out (by rw [List.length_append]; simp only [List.length_cons, List.length_nil]; have := HSL.out; omega))
      go_wp2_with fail
      refine HAD.out.mono ?_
      rintro e w3 ⟨rfl, v3, hs3⟩
      have HS3 : Hid (ASt w w3 LB v3 (seekA K n m i ++ ([arc1 i, arc2 (K i) i] ++ midA (K i) n m i 0))) := Lib.hid (by
        have e1 : [arc1 i, arc2 (K i) i] ++ midA (K i) n m i 0 = [(0, 2 + (i : Int), 1, 0)] ++ [(2 + (i : Int), 1, 1, pr)] := by
          rw [HKI.out, ← HPR.out]; rfl
        rw [e1, ← List.append_assoc]
        exact hs3)
      have z0 := (HP.out.below hs3.bel).cells.1
      clear HAD hs3 HS1
      go_wp2
      clear z0
      go_loopw [55] (fun bv wy => ∃ (b : Nat) (lw : Value), bv = .int .i64 (b : Int) ∧ b ≤ m ∧ Hid (ASt w wy LB lw (seekA K n m i ++ ([arc1 i, arc2 (K i) i] ++ midA (K i) n m i b)))) (fun bv _ => m - (intOf bv).toNat)
      case atStart => exact ⟨0, _, rfl, Nat.zero_le _, HS3⟩
      case round =>
        obtain ⟨b, lw, rfl, hb, hst⟩ := hrel
        clear HS3
        have hmid := mid_len (K i) n m i b
        have hll : (seekA K n m i ++ ([arc1 i, arc2 (K i) i] ++ midA (K i) n m i b)).length ≤ 100000 := by
          rw [List.length_append, List.length_append]
          simp only [List.length_cons, List.length_nil]
          have := HSL.out
          omega
        by_cases hlb : b < m
        · have hbl : b < B.length := by rw [HNM.out.2]; exact hlb
          obtain ⟨g2, c2, A2, d2, e2, d0, d1, d2', d3, -⟩ := (HP.out.below hst.out.bel).block hbl
          simp only [Value.slice.injEq] at e2
          obtain ⟨rfl, -, rfl⟩ := e2
          obtain ⟨y, hy⟩ : ∃ y, B[b]'hbl = y := ⟨_, rfl⟩
          rw [hy] at d0 d1 d2' d3
          have hyb : B[b]? = some y := by rw [List.getElem?_eq_getElem hbl, hy]
          have hmay := kOf_may (x := x) hyb
          rw [← HKI.out] at hmay
          have hbi : (b : Int) < (m : Int) := by omega
          have hb0 : (0 : Int) ≤ (b : Int) := by omega
          have hbA := (Below.refl wr.heap.size wr).alloc (Nat.le_refl _) (.cells #[.int .i64 y.cab, .int .i64 y.row, .bool y.exit, .slice A2 y.seats.length d2] 94)
          have HSA := Lib.hid (hst.out.below hbA)
          have hgA : g < (wr.alloc (.cells #[.int .i64 y.cab, .int .i64 y.row, .bool y.exit, .slice A2 y.seats.length d2] 94)).heap.size := Nat.lt_of_lt_of_le hgw HSA.out.bel.size
          have HMY := Lib.hid (smay_any _ g (i * 9) x b y (.slice A2 y.seats.length d2) (HSKW.out _ HSA.out.bel) hgA)
          obtain ⟨r, hr⟩ : ∃ r, (!x.no && (decide (x.blk < 0) || decide (x.blk = (b : Int))) && fitB x.r.who y) = r := ⟨_, rfl⟩
          rw [hr] at HMY hmay
          have HMA := Lib.hid hmay
          have HLL := Lib.hid hll
          clear hst hy hyb hmay hbA hr hgA hmid hll
          go_wp2_with fail
          refine HMY.out.mono ?_
          rintro e w5 ⟨rfl, hb5⟩
          have HS5 := Lib.hid (HSA.out.below hb5)
          clear hb5 HSA HMY d0 d1 d2' d3
          cases r with
          | false =>
            have HS6 : Hid (ASt w w5 LB lw (seekA K n m i ++ ([arc1 i, arc2 (K i) i] ++ midA (K i) n m i (b + 1)))) := Lib.hid (by
              rw [mid_succ, HMA.out]
              simpa using HS5.out)
            clear HS5
            go_wp2
            go_roundw
            case rel => exact ⟨b + 1, lw, by go_num, hlb, HS6⟩
            case measure => simp [intOf]; omega
          | true =>
            have hsk5 := HSKW.out _ HS5.out.bel
            obtain ⟨⟨⟨cab, fit, inf⟩, old⟩, must, no, blk, own⟩ := x
            have k2 := hsk5 2 (.bool inf) rfl
            have k8 := hsk5 8 (.int .i64 own) rfl
            have ht : Hid (∀ tt : Int, tt = 2 + (n : Int) + b + (if inf = true then (m : Int) else 0) → ∀ c : Int, c = (if (b : Int) = own then 0 else 1) → ∀ W v', ASt w W LB v' (seekA K n m i ++ ([arc1 i, arc2 (K i) i] ++ midA (K i) n m i b) ++ [(2 + (i : Int), tt, 1, c)]) → ASt w W LB v' (seekA K n m i ++ ([arc1 i, arc2 (K i) i] ++ midA (K i) n m i (b + 1)))) := Lib.hid (fun tt hto c hc W v' h => by
              rw [mid_succ, HMA.out, if_pos rfl]
              have e3 : arc3 (K i) n m i b = (2 + (i : Int), tt, 1, c) := by
                rw [hto, hc, HKI.out]; rfl
              rw [e3]
              simpa only [List.append_assoc] using h)
            have HAD := Lib.hid (fun tt c => add_any w w5 LB lw _ (2 + (i : Int)) tt 1 c HS5.out HLL.out)
            clear hsk5 HS5 HMA HLL
            by_cases hob : (b : Int) = own
            · subst hob
              cases inf with
              | true =>
                go_wp2_with fail
                refine (HAD.out _ _).mono ?_
                rintro e w6 ⟨rfl, v6, hs6⟩
                have HS6 := Lib.hid (ht.out _ (by simp) _ (by first | rfl | simp | (rw [if_neg hob.out])) _ _ hs6)
                clear hs6 HAD ht k2 k8
                go_wp2
                go_roundw
                case rel => exact ⟨b + 1, v6, by go_num, hlb, HS6⟩
                case measure => simp [intOf]; omega
              | false =>
                go_wp2_with fail
                refine (HAD.out _ _).mono ?_
                rintro e w6 ⟨rfl, v6, hs6⟩
                have HS6 := Lib.hid (ht.out _ (by simp) _ (by first | rfl | simp | (rw [if_neg hob.out])) _ _ hs6)
                clear hs6 HAD ht k2 k8
                go_wp2
                go_roundw
                case rel => exact ⟨b + 1, v6, by go_num, hlb, HS6⟩
                case measure => simp [intOf]; omega
            · have hne : ((b : Int) == own) = false := by simpa using hob
              have hob := Lib.hid hob
              cases inf with
              | true =>
                go_wp2_with fail
                refine (HAD.out _ _).mono ?_
                rintro e w6 ⟨rfl, v6, hs6⟩
                have HS6 := Lib.hid (ht.out _ (by simp) _ (by rw [if_neg hob.out]) _ _ hs6)
                clear hs6 HAD ht k2 k8
                go_wp2
                go_roundw
                case rel => exact ⟨b + 1, v6, by go_num, hlb, HS6⟩
                case measure => simp [intOf]; omega
              | false =>
                go_wp2_with fail
                refine (HAD.out _ _).mono ?_
                rintro e w6 ⟨rfl, v6, hs6⟩
                have HS6 := Lib.hid (ht.out _ (by simp) _ (by rw [if_neg hob.out]) _ _ hs6)
                clear hs6 HAD ht k2 k8
                go_wp2
                go_roundw
                case rel => exact ⟨b + 1, v6, by go_num, hlb, HS6⟩
                case measure => simp [intOf]; omega
        · obtain rfl : b = m := by omega
          have hbi : ¬ (b : Int) < (b : Int) := by omega
          have HS7 : Hid (ASt w wr LB lw (seekA K n b (i + 1))) := Lib.hid (by
            rw [seek_succ]
            unfold kA
            exact hst.out)
          clear hst
          go_wp2
          go_roundw
          case rel => exact ⟨i + 1, lw, by go_num, hlt, HS7⟩
          case measure => simp [intOf]; omega
    · obtain rfl : i = n := by omega
      have hii : ¬ (i : Int) < (i : Int) := by omega
      have z0 := (HP.out.below hst.out.bel).cells.1
      have HS8 : Hid (ASt w wr LB lv (seekA K i m i ++ blkA C i m 0)) := Lib.hid (by
        have : blkA C i m 0 = [] := rfl
        rw [this, List.append_nil]
        exact hst.out)
      have hsl := seek_len K i m i
      have hsl2 : (seekA K i m i).length ≤ 2000 := Nat.le_trans hsl (Nat.le_trans (Nat.mul_le_mul hn (show 2 + m ≤ 68 by omega)) (by decide))
      have HSL := Lib.hid hsl2
      clear hst hsl hsl2
      go_wp2
      clear z0
      go_loopw [97] (fun bv wy => ∃ (b : Nat) (lw : Value), bv = .int .i64 (b : Int) ∧ b ≤ m ∧ Hid (ASt w wy LB lw (seekA K i m i ++ blkA C i m b))) (fun bv _ => m - (intOf bv).toNat)
      case atStart => exact ⟨0, _, rfl, Nat.zero_le _, HS8⟩
      case round =>
        obtain ⟨b, lw, rfl, hb, hst⟩ := hrel
        clear HS8
        have hbl2 := blkA_len C i m b
        have hll : (seekA K i m i ++ blkA C i m b).length ≤ 50000 := by
          rw [List.length_append]
          have := HSL.out
          omega
        have HLL := Lib.hid hll
        clear hbl2 hll
        by_cases hlb : b < m
        · have hbl : b < B.length := by rw [HNM.out.2]; exact hlb
          obtain ⟨g2, c2, A2, d2, e2, d0, d1, d2', d3, -⟩ := (HP.out.below hst.out.bel).block hbl
          simp only [Value.slice.injEq] at e2
          obtain ⟨rfl, -, rfl⟩ := e2
          obtain ⟨y, hy⟩ : ∃ y, B[b]'hbl = y := ⟨_, rfl⟩
          rw [hy] at d0 d1 d2' d3
          have hCb : C b = y.seats.length := by
            rw [← HKC.out.2]
            unfold capsOf
            rw [List.getElem?_eq_getElem hbl, hy]; rfl
          have HCB := Lib.hid hCb
          have hbi : (b : Int) < (m : Int) := by omega
          have hb0 : (0 : Int) ≤ (b : Int) := by omega
          have hbA := (Below.refl wr.heap.size wr).alloc (Nat.le_refl _) (.cells #[.int .i64 y.cab, .int .i64 y.row, .bool y.exit, .slice A2 y.seats.length d2] 94)
          have HSA := Lib.hid (hst.out.below hbA)
          have HAD := Lib.hid (add_any w _ LB lw _ (2 + (i : Int) + (b : Int)) 1 (y.seats.length : Int) 0 HSA.out (by have := HLL.out; omega))
          clear hst hy hCb hbA
          go_wp2_with fail
          refine HAD.out.mono ?_
          rintro e w5 ⟨rfl, v5, hs5⟩
          have HS5 := Lib.hid hs5
          have HAD := Lib.hid (add_any w _ LB v5 _ (2 + (i : Int) + (m : Int) + (b : Int)) (2 + (i : Int) + (b : Int)) 1 0 HS5.out (by rw [List.length_append]; simp only [List.length_cons, List.length_nil]; have := HLL.out; omega))
          clear hs5 HSA d0 d1 d2' d3
          go_wp2_with fail
          refine HAD.out.mono ?_
          rintro e w6 ⟨rfl, v6, hs6⟩
          have HS6 : Hid (ASt w w6 LB v6 (seekA K i m i ++ blkA C i m (b + 1))) := Lib.hid (by
            have e1 : bA C i m b = [(2 + (i : Int) + (b : Int), 1, (y.seats.length : Int), 0)] ++ [(2 + (i : Int) + (m : Int) + (b : Int), 2 + (i : Int) + (b : Int), 1, 0)] := by
              unfold bA arc4 arc5
              rw [HCB.out]; rfl
            rw [blkA_succ, e1, ← List.append_assoc, ← List.append_assoc]
            exact hs6)
          clear hs6 HAD HS5
          go_wp2
          go_roundw
          case rel => exact ⟨b + 1, v6, by go_num, hlb, HS6⟩
          case measure => simp [intOf]; omega
        · obtain rfl : b = m := by omega
          have hbi : ¬ (b : Int) < (b : Int) := by omega
          have hLL2 : seekA K i b i ++ blkA C i b b = LL := HLA.out
          rw [hLL2] at hst
          have y0 : wr.cell? ⟨LB, 0, none⟩ = some lw := by rw [cell_of_row _ _ 0 _ _ _ hst.out.box]; rfl
          obtain ⟨Aw, cw, rfl⟩ := own_shape hst.out.own
          clear hLL2
          go_wp2
          go_ret
          exact ⟨_, rfl, hst.out.own, hst.out.bel⟩
end Go.Proofs.YtppjpledjhinbaaDoor
