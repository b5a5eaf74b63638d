/- ReseatTiny's walk (printed by pre.py). -/
import Derived.Test.YtppjpledjhinbaaDoorJRsTnyQ
import Derived.Test.YtppjpledjhinbaaDoorJRsOlds
import Derived.Test.YtppjpledjhinbaaDoorJFtRFr
import Derived.Test.YtppjpledjhinbaaDoorJCbRSp
import Derived.Deep.RegionHeld3
import Derived.Deep.CutBlock
import Derived.Deep.DeepCutAuto
namespace Go.Proofs.YtppjpledjhinbaaDoor
open Go.RowKit Go.Lib
theorem sit_infoT : (Tryd.prog.info? 51).map (fun i => (i.zero, i.size, i.bytes)) = some (some (.agg #[.int .i64 0, .bool false, .bool false, .int .i64 0, .int .u8 0]), 5, 32) := by kernel_rfl
theorem best_bound (rows : List MRow) : ∀ (rem : List (MWho × MSeat)) (sat : List MSit), (0 ≤ (bestG rows rem sat).1 ∧ (bestG rows rem sat).1 ≤ rem.length) ∧ 0 ≤ (bestG rows rem sat).2 ∧ (bestG rows rem sat).2 ≤ rem.length := by
  intro rem
  induction rem with
  | nil => intro sat; simp [bestG]
  | cons p t ih =>
    obtain ⟨x, o⟩ := p
    intro sat
    rw [bestG_cons]
    have h0 := ih sat
    rcases fold_is (trySeat rows x o t sat) (freeL rows x sat) (bestG rows t sat) with e | ⟨s, _, e⟩
    · rw [e, List.length_cons]; omega
    · rw [e, List.length_cons]
      have h1 := ih (sat ++ [⟨x, s⟩])
      unfold trySeat oneUp
      simp only
      split <;> omega
theorem remR_drop (rs : List MSit) {i : Nat} (hi : i < rs.length) : (remR rs).drop i = (rs[i].who, (oldsL rs)[i]'(by rw [oldsL_len]; exact hi)) :: (remR rs).drop (i + 1) := by
  rw [List.drop_eq_getElem_cons (by rw [remR_len]; exact hi)]
  unfold remR
  rw [List.getElem_map, List.getElem_zip]
/-- Of the first q free seats. -/
def accQ (rows : List MRow) (x : MWho) (o : MSeat) (t : List (MWho × MSeat)) (sat : List MSit) (F : List MSeat) (q : Nat) : Int × Int := (F.take q).foldl (fun acc s => lexMax acc (trySeat rows x o t sat s)) (bestG rows t sat)
theorem accQ_next (rows : List MRow) (x : MWho) (o : MSeat) (t : List (MWho × MSeat)) (sat : List MSit) (F : List MSeat) {q : Nat} (hq : q < F.length) : accQ rows x o t sat F (q + 1) = lexMax (accQ rows x o t sat F q) (trySeat rows x o t sat F[q]) := by
  unfold accQ
  rw [List.take_succ_eq_append_getElem hq, List.foldl_append]
  rfl
theorem accQ_bound (rows : List MRow) (x : MWho) (o : MSeat) (t : List (MWho × MSeat)) (sat : List MSit) (F : List MSeat) (q : Nat) : (0 ≤ (accQ rows x o t sat F q).1 ∧ (accQ rows x o t sat F q).1 ≤ t.length + 1) ∧ 0 ≤ (accQ rows x o t sat F q).2 ∧ (accQ rows x o t sat F q).2 ≤ t.length + 1 := by
  unfold accQ
  rcases fold_is (trySeat rows x o t sat) (F.take q) (bestG rows t sat) with e | ⟨s, _, e⟩
  · rw [e]; have := best_bound rows t sat; omega
  · rw [e]
    have h1 := best_bound rows t (sat ++ [⟨x, s⟩])
    unfold trySeat oneUp
    simp only
    split <;> omega
set_option maxHeartbeats 8000000 in
set_option maxRecDepth 20000 in
theorem best_any (l : List MRow) (rs : List MSit) (hf : ∀ r ∈ l, r.fits) (hf1 : ∀ x ∈ rs, x.seat.fits) (h4 : rs.length ≤ 4) : ∀ (d : Nat) (i : Nat), i + d = rs.length → ∀ (w : World) (A : Option Addr) (n c : Nat) (A1 : Option Addr) (n1 c1 : Nat) (Sa : Option Addr) (ns cs : Nat) (sat : List MSit), Rd w w.heap.size 5 A n (catv rowC l) → Rd w w.heap.size 5 A1 n1 (catv sitC rs) → Rd w w.heap.size 5 Sa ns (catv sitC sat) → sat.length ≤ i →
    Calls Tryd.prog 22 #[.slice A n c, .slice A1 n1 c1, .int .i64 (i : Int), .slice Sa ns cs] w fun e w' => e = .returned (.tuple #[.int .i64 (bestG l ((remR rs).drop i) sat).1, .int .i64 (bestG l ((remR rs).drop i) sat).2]) ∧ Below w.heap.size w w' := by
  intro d
  induction d with
  | zero =>
    intro i hid w A n c A1 n1 c1 Sa ns cs sat hr hr1 hs hsl
    have HL1 := Lib.hid (rd_catlen sitC_len (by decide) hr1).symm
    have hin : n1 = i := by rw [← HL1.out]; omega
    subst hin
    have HOL := Lib.hid (rolds_any w A1 n1 c1 rs hr1 hf1 (by rw [← HL1.out]; omega))
    have HZ : Hid (bestG l ((remR rs).drop n1) sat = (0, 0)) := Lib.hid (by rw [List.drop_eq_nil_of_le (by rw [remR_len, HL1.out]; exact Nat.le_refl _)]; rfl)
    clear hr hr1 hs hsl hid
    go_enter Tryd.func22, Tryd.ntmps22
    go_wp2_with fail
    refine HOL.out.mono ?_
    rintro e w2 ⟨v2, rfl, ho2, hb2⟩
    obtain ⟨A2, c2, rfl⟩ := own_shape ho2
    have HB2 := Lib.hid hb2
    clear ho2 hb2
    go_wp2
    go_ret2
    exact ⟨by rw [HZ.out]; rfl, HB2.out⟩
  | succ d ih =>
    intro i hid w A n c A1 n1 c1 Sa ns cs sat hr hr1 hs hsl
    obtain ⟨i1, hi1, hy0, hy1, hy2⟩ := info_parts sit_infoT
    have hir : i < rs.length := by omega
    have HL1 := Lib.hid (rd_catlen sitC_len (by decide) hr1).symm
    have hls := rd_catlen sitC_len (by decide) hs
    have hns4 : ns ≤ 4 := by omega
    have hn14 : n1 ≤ 4 := by rw [← HL1.out]; exact h4
    have hin : i < n1 := by rw [← HL1.out]; exact hir
    have HSL := Lib.hid (And.intro hls hsl)
    have hio : i < (oldsL rs).length := by rw [oldsL_len]; exact hir
    have HOL := Lib.hid (rolds_any w A1 n1 c1 rs hr1 hf1 (by omega))
    have HIH := Lib.hid (fun (W : World) (hW : Below w.heap.size w W) (Sb : Option Addr) (nb cb : Nat) (q : List MSit) (hq : Rd W W.heap.size 5 Sb nb (catv sitC q)) (hql : q.length ≤ i + 1) => ih (i + 1) (by omega) W A n c A1 n1 c1 Sb nb cb q ((hr.below hW).mono hW.size) ((hr1.below hW).mono hW.size) hq hql)
    have hdrop := remR_drop rs hir
    obtain ⟨x, hx⟩ : ∃ x, rs[i].who = x := ⟨_, rfl⟩
    obtain ⟨o, ho⟩ : ∃ o, (oldsL rs)[i]'hio = o := ⟨_, rfl⟩
    obtain ⟨t, ht⟩ : ∃ t, (remR rs).drop (i + 1) = t := ⟨_, rfl⟩
    rw [hx, ho, ht] at hdrop
    rw [ht] at HIH
    have htl : t.length ≤ 4 := by rw [← ht, List.length_drop, remR_len]; omega
    have HDR := Lib.hid hdrop
    have HFR := Lib.hid (fun (W : World) (hW : Below w.heap.size w W) => rfree_any W A n c l x Sa ns cs sat ((hr.below hW).mono hW.size) hf ((hs.below hW).mono hW.size) (by omega))
    have HS := Lib.hid hs
    obtain ⟨gb, off, hgb, hA1, hcx⟩ : ∃ gb off, gb < w.heap.size ∧ A1 = some ⟨gb, off, none⟩ ∧ ∀ U : World, Below w.heap.size w U → U.cell? ⟨gb, off + i * 5, none⟩ = some (.int .i64 x.cab) ∧ U.cell? ⟨gb, off + i * 5 + 1, none⟩ = some (.bool x.fit) ∧ U.cell? ⟨gb, off + i * 5 + 2, none⟩ = some (.bool x.inf) := by
      obtain ⟨g, o, e, hg, _, _⟩ := hr1.elem sitC_len (by decide) hin
      refine ⟨g, o, hg, e, fun U hU => ?_⟩
      obtain ⟨g2, o2, e2, _, _, hcc⟩ := (hr1.below hU).elem sitC_len (by decide) hin
      rw [e] at e2
      simp only [Option.some.injEq, Addr.mk.injEq, and_true] at e2
      obtain ⟨rfl, rfl⟩ := e2
      rw [← hx]
      exact ⟨hcc 0 _ rfl, hcc 1 _ rfl, hcc 2 _ rfl⟩
    subst hA1
    have HCX := Lib.hid hcx
    obtain ⟨xc, xf, xi⟩ := x
    obtain ⟨on, ol⟩ := o
    have HOI := Lib.hid ho
    have hii : (i : Int) < (n1 : Int) := by omega
    have hi0 : (0 : Int) ≤ (i : Int) := by omega
    have hie : ((i : Int) == (n1 : Int)) = false := beq_false_of_ne (by omega)
    have hwi : IntKind.i64.wrap ((i : Int) + 1) = ((i + 1 : Nat) : Int) := by rw [IntWalk.i64_in _ (by omega)]; omega
    obtain ⟨b1, b2, hB12⟩ : ∃ b1 b2, bestG l t sat = (b1, b2) := ⟨_, _, rfl⟩
    have HB12 := Lib.hid hB12
    have HMAIN : Hid (bestG l ((remR rs).drop i) sat = accQ l ⟨xc, xf, xi⟩ ⟨on, ol⟩ t sat (freeL l ⟨xc, xf, xi⟩ sat) (freeL l ⟨xc, xf, xi⟩ sat).length) := Lib.hid (by
      rw [hdrop, bestG_cons]
      unfold accQ
      rw [List.take_length])
    obtain ⟨F, hF⟩ : ∃ F, freeL l ⟨xc, xf, xi⟩ sat = F := ⟨_, rfl⟩
    have hF66 : F.length ≤ 66 := by rw [← hF]; exact freeL_len l _ sat
    rw [hF] at HMAIN HFR
    clear hr hr1 hs hsl hid hdrop hx ho ht hcx hB12 hF hls
    go_enter Tryd.func22, Tryd.ntmps22
    go_wp2_with fail
    refine HOL.out.mono ?_
    rintro e w2 ⟨v2, rfl, ho2, hb2⟩
    obtain ⟨A2, c2, rfl⟩ := own_shape ho2
    have HB2 := Lib.hid hb2
    obtain ⟨go', offo, hgo, hA2, hco⟩ : ∃ go' offo, go' < w2.heap.size ∧ A2 = some ⟨go', offo, none⟩ ∧ ∀ U : World, Below w2.heap.size w2 U → U.cell? ⟨go', offo + i * 2, none⟩ = some (.int .i64 on) ∧ U.cell? ⟨go', offo + i * 2 + 1, none⟩ = some (.int .u8 (ol.toNat : Int)) := by
      obtain ⟨g, o, e, hg, _, _⟩ := (Rd.own ho2).elem seatC_len (by decide) hin
      refine ⟨g, o, hg, e, fun U hU => ?_⟩
      obtain ⟨g2, o2, e2, _, _, hcc⟩ := ((Rd.own ho2).below hU).elem seatC_len (by decide) hin
      rw [e] at e2
      simp only [Option.some.injEq, Addr.mk.injEq, and_true] at e2
      obtain ⟨rfl, rfl⟩ := e2
      rw [HOI.out] at hcc
      exact ⟨hcc 0 _ rfl, hcc 1 _ rfl⟩
    subst hA2
    have HCO := Lib.hid hco
    have hq3 := HIH.out w2 hb2 Sa ns cs sat ((HS.out.below hb2).mono hb2.size) (by have := HSL.out; omega)
    rw [HB12.out] at hq3
    have HQ3 := Lib.hid hq3
    clear ho2 hb2 HOL hco hq3 hie
    go_wp2_with fail
    refine HQ3.out.mono ?_
    rintro e w3 ⟨rfl, hb3⟩
    have HB23 := Lib.hid hb3
    have HB3 := Lib.hid (HB2.out.trans (hb3.mono HB2.out.size))
    obtain ⟨c0, c1', c2'⟩ := HCX.out w3 HB3.out
    clear hb3 HQ3
    simp only
    go_wp2_with fail
    refine (HFR.out w3 HB3.out).mono ?_
    rintro e w4 ⟨v4, rfl, ho4, hb4⟩
    obtain ⟨A4, c4, rfl⟩ := own_shape ho4
    have HO4 := Lib.hid ho4
    have HB24 := Lib.hid (HB23.out.trans (hb4.mono HB23.out.size))
    have HB4 := Lib.hid (HB3.out.trans (hb4.mono HB3.out.size))
    clear ho4 hb4 c0 c1' c2'
    go_wp2
    go_loopw [41, 11, 12] (fun qv av bv wx => ∃ (q : Nat) (a b : Int), qv = .int .i64 (q : Int) ∧ av = .int .i64 a ∧ bv = .int .i64 b ∧ q ≤ F.length ∧ Hid (accQ l ⟨xc, xf, xi⟩ ⟨on, ol⟩ t sat F q = (a, b)) ∧ Hid (Below w4.heap.size w4 wx)) (fun qv _ _ _ => F.length - (intOf qv).toNat)
    case atStart => exact ⟨0, b1, b2, rfl, rfl, rfl, Nat.zero_le _, Lib.hid (by unfold accQ; rw [List.take_zero]; exact HB12.out), Lib.hid (Below.refl _ _)⟩
    case round =>
      obtain ⟨q, a, b, rfl, rfl, rfl, hq, hacc, hB⟩ := hrel
      by_cases hql : q < F.length
      · obtain ⟨gs, offs, e, hgs, _, hcs⟩ := (Rd.own (own_below HO4.out hB.out)).elem seatC_len (by decide) hql
        subst e
        have hnext := accQ_next l ⟨xc, xf, xi⟩ ⟨on, ol⟩ t sat F hql
        have hab := accQ_bound l ⟨xc, xf, xi⟩ ⟨on, ol⟩ t sat F q
        rw [hacc.out] at hnext hab
        obtain ⟨s, hs⟩ : ∃ s, F[q] = s := ⟨_, rfl⟩
        rw [hs] at hcs hnext
        obtain ⟨sn, sl⟩ := s
        have d0 := hcs 0 (.int .i64 sn) rfl
        have d1 := hcs 1 (.int .u8 (sl.toNat : Int)) rfl
        rw [Nat.add_zero] at d0
        obtain ⟨r1, r2, hr12⟩ : ∃ r1 r2, bestG l t (sat ++ [⟨⟨xc, xf, xi⟩, ⟨sn, sl⟩⟩]) = (r1, r2) := ⟨_, _, rfl⟩
        have hrb := best_bound l t (sat ++ [⟨⟨xc, xf, xi⟩, ⟨sn, sl⟩⟩])
        rw [hr12] at hrb
        have hbd : (0 ≤ r1 ∧ r1 ≤ 4) ∧ 0 ≤ r2 ∧ r2 ≤ 4 := by simp only at hrb; omega
        obtain ⟨eqc, heqc⟩ : ∃ eqc, decide ((⟨sn, sl⟩ : MSeat) = ⟨on, ol⟩) = eqc := ⟨_, rfl⟩
        have hso : ∀ U : World, (Op.equalIn 10000 26 (.agg #[.int .i64 sn, .int .u8 (sl.toNat : Int)]) (.agg #[.int .i64 on, .int .u8 (ol.toNat : Int)])).run Tryd.prog U = .ok eqc U := fun U => by rw [← heqc]; exact seat_eqIn U ⟨sn, sl⟩ ⟨on, ol⟩
        have HNX : Hid (accQ l ⟨xc, xf, xi⟩ ⟨on, ol⟩ t sat F (q + 1) = lexMax (a, b) (r1 + 1, r2 + if eqc = true then 1 else 0)) := Lib.hid (by
          rw [hnext]
          unfold trySeat oneUp
          rw [hr12, heqc])
        obtain ⟨X, hX⟩ : ∃ X, wr.heap.size = X := ⟨_, rfl⟩
        obtain ⟨V, hV⟩ : ∃ V, wr.alloc (.cells #[.int .i64 sn, .int .u8 (sl.toNat : Int)] 26) = V := ⟨_, rfl⟩
        have hbV : Below wr.heap.size wr V := by rw [← hV]; exact (Below.refl _ _).alloc (Nat.le_refl _) _
        have xV : V.heap[X]? = some (.cells #[.int .i64 sn, .int .u8 (sl.toNat : Int)] 26 (0, 0)) := by rw [← hV, ← hX]; exact heap_alloc_new wr _
        have hb4V := hB.out.trans (hbV.mono hB.out.size)
        have HB4V := Lib.hid hb4V
        have HB2V := Lib.hid (HB24.out.trans (hb4V.mono HB24.out.size))
        have hb0V := HB4.out.trans (hb4V.mono HB4.out.size)
        have HB0V := Lib.hid hb0V
        have HXV := Lib.hid xV
        have HSV : Hid (∀ U : World, Below V.heap.size V U → Rd U w.heap.size 5 Sa ns (catv sitC sat)) := Lib.hid (fun U hU => HS.out.below (hb0V.trans (hU.mono hb0V.size)))
        have HMX : Hid (∀ (U : World) (g cap : Nat), Below V.heap.size V U → Rd U U.heap.size 5 (some ⟨g, 0, none⟩) (ns + 1) (catv sitC (sat ++ [⟨⟨xc, xf, xi⟩, ⟨sn, sl⟩⟩])) → Calls Tryd.prog 22 #[.slice A n c, .slice (some ⟨gb, off, none⟩) n1 c1, .int .i64 ((i + 1 : Nat) : Int), .slice (some ⟨g, 0, none⟩) (ns + 1) cap] U fun e w' => e = .returned (.tuple #[.int .i64 r1, .int .i64 r2]) ∧ Below U.heap.size U w') := Lib.hid (fun U g cap hU hRu => by
          have := HIH.out U (hb0V.trans (hU.mono hb0V.size)) (some ⟨g, 0, none⟩) (ns + 1) cap (sat ++ [⟨⟨xc, xf, xi⟩, ⟨sn, sl⟩⟩]) hRu (by rw [List.length_append, List.length_singleton]; have := HSL.out; omega)
          rw [hr12] at this
          exact this)
        have HEC2 := Lib.hid (catv_cell sitC_cell sat)
        have HC : Hid (∀ U : World, Below V.heap.size V U → Below V.heap.size V U ∧ (U.cell? ⟨gb, off + i * 5, none⟩ = some (.int .i64 xc) ∧ U.cell? ⟨gb, off + i * 5 + 1, none⟩ = some (.bool xf) ∧ U.cell? ⟨gb, off + i * 5 + 2, none⟩ = some (.bool xi)) ∧ U.cell? ⟨X, 0, none⟩ = some (.int .i64 sn) ∧ U.cell? ⟨X, 1, none⟩ = some (.int .u8 (sl.toNat : Int))) := Lib.hid (fun U hU => by
          have xU := box_keep HXV.out (Upd.of_below (S := fun _ => False) hU) id
          refine ⟨hU, HCX.out U (HB0V.out.trans (hU.mono HB0V.out.size)), ?_, ?_⟩ <;> rw [cell_of_row _ _ _ _ _ _ xU] <;> rfl)
        have hqi : (q : Int) < (F.length : Int) := by omega
        have hq0 : (0 : Int) ≤ (q : Int) := by omega
        have hab4 : (0 ≤ a ∧ a ≤ 5) ∧ 0 ≤ b ∧ b ≤ 5 := by simp only at hab; omega
        clear hcs hs hnext hab hr12 hrb hbV xV hb4V hb0V hacc hB
        go_upto_region 8 with (fail)
        clear hV d0 d1
        go_cut [15, 16] (fun u v wc => u = .int .i64 r1 ∧ v = .int .i64 r2 ∧ Hid (Below V.heap.size V wc))
        case first =>
          have hbd : Below V.heap.size V V.drew := ⟨rfl, rfl, rfl, Nat.le_refl _, fun _ _ => rfl⟩
          have hb1e := hbd.alloc hbd.size (.cells #[] 51)
          have hb1x := hbd.alloc hbd.size (.cells #[.int .i64 xc, .bool xf, .bool xi, .int .i64 sn, .int .u8 (sl.toNat : Int)] 51)
          have hb2ex := hb1e.alloc hb1e.size (.cells #[.int .i64 xc, .bool xf, .bool xi, .int .i64 sn, .int .u8 (sl.toNat : Int)] 51)
          have hb2xe := hb1x.alloc hb1x.size (.cells #[] 51)
          have o1 := own_empty V.drew 51 5 V.heap.size (Nat.le_refl _)
          have o2 := o1.alloc (.cells #[.int .i64 xc, .bool xf, .bool xi, .int .i64 sn, .int .u8 (sl.toNat : Int)] 51)
          have o3 := own_empty (V.drew.alloc (.cells #[.int .i64 xc, .bool xf, .bool xi, .int .i64 sn, .int .u8 (sl.toNat : Int)] 51)) 51 5 V.heap.size hb1x.size
          have zx : (V.drew.alloc (.cells #[.int .i64 xc, .bool xf, .bool xi, .int .i64 sn, .int .u8 (sl.toNat : Int)] 51)).heap.size = V.heap.size + 1 := by simp
          rw [zx] at o3
          have y2 := heap_alloc_new (V.drew.alloc (.cells #[] 51)) (.cells #[.int .i64 xc, .bool xf, .bool xi, .int .i64 sn, .int .u8 (sl.toNat : Int)] 51)
          have ze : (V.drew.alloc (.cells #[] 51)).heap.size = V.heap.size + 1 := by simp
          rw [ze] at y2
          have y3 := (Below.heap_alloc (V.drew.alloc (.cells #[.int .i64 xc, .bool xf, .bool xi, .int .i64 sn, .int .u8 (sl.toNat : Int)] 51)) (.cells #[] 51) V.heap.size (by simp)).trans (heap_alloc_new V.drew (.cells #[.int .i64 xc, .bool xf, .bool xi, .int .i64 sn, .int .u8 (sl.toNat : Int)] 51))
          have Y2 := Lib.hid y2
          have Y3 := Lib.hid y3
          have hone : ∀ u ∈ ([.int .i64 xc, .bool xf, .bool xi, .int .i64 sn, .int .u8 (sl.toNat : Int)] : List Value), u.oneCell' = true := by simp [Value.oneCell']
          have HONE := Lib.hid hone
          have O1 := Lib.hid o1
          have O2 := Lib.hid o2
          have O3 := Lib.hid o3
          clear y2 y3 ze hone o1 o2 o3 zx
          have HEC := HEC2
          go_region_held3 (fun U => Below V.heap.size V U ∧ (U.cell? ⟨gb, off + i * 5, none⟩ = some (.int .i64 xc) ∧ U.cell? ⟨gb, off + i * 5 + 1, none⟩ = some (.bool xf) ∧ U.cell? ⟨gb, off + i * 5 + 2, none⟩ = some (.bool xi)) ∧ U.cell? ⟨X, 0, none⟩ = some (.int .i64 sn) ∧ U.cell? ⟨X, 1, none⟩ = some (.int .u8 (sl.toNat : Int)))
            (exact HC.out _ (by first | assumption | exact hbd | exact hb1e | exact hb1x | exact hb2ex | exact hb2xe | exact Below.alloc hb3 hb3.size _))
            (first
              | (refine step_app (by rfl) (.tmp 50) (.tmp 51) 48 (by rfl) V.heap.size 51 i1 _ 5 32 Tryd.underlying48 hi1 hy0 hy1 hy2 rfl (by omega) (.slice (some ⟨V.heap.size, 0, none⟩) 0 0) 0 [] w.heap.size Sa ns cs (catv sitC sat) (by rfl) (by first | exact O1.out | exact O2.out) (by rfl) (HSV.out _ (by first | exact hb1e | exact hb2ex)) HEC.out (by omega) (by unfold maxLen; omega) (by first | exact hb1e.size | exact hb2ex.size) ?_
                 intro v3 w3 ho3 hu3 _
                 have hb3 : Below V.heap.size V w3 := Below.trans (by first | exact hb1e | exact hb2ex) (hu3.below (fun i hi e => by simp [Value.ownBlock] at e; omega) (by first | exact hb1e.size | exact hb2ex.size)))
              | (refine step_app (by rfl) (.tmp 50) (.tmp 51) 48 (by rfl) V.heap.size 51 i1 _ 5 32 Tryd.underlying48 hi1 hy0 hy1 hy2 rfl (by omega) (.slice (some ⟨V.heap.size + 1, 0, none⟩) 0 0) 0 [] w.heap.size Sa ns cs (catv sitC sat) (by rfl) (by exact O3.out) (by rfl) (HSV.out _ (by exact hb2xe)) HEC.out (by omega) (by unfold maxLen; omega) (by exact hb2xe.size) ?_
                 intro v3 w3 ho3 hu3 _
                 have hb3 : Below V.heap.size V w3 := Below.trans hb2xe (hu3.below (fun i hi e => by simp [Value.ownBlock] at e; omega) hb2xe.size))
              | (refine step_app (by rfl) (.tmp 52) (.tmp 60) 48 (by rfl) V.heap.size 51 i1 _ 5 32 Tryd.underlying48 hi1 hy0 hy1 hy2 rfl (by omega) v3 (0 + ns) ([] ++ catv sitC sat) _ (some ⟨w3.heap.size, 0, none⟩) 1 1 ([.int .i64 xc, .bool xf, .bool xi, .int .i64 sn, .int .u8 (sl.toNat : Int)] : List Value) (by rfl) (by exact ho3.alloc _) (by rfl) (rd_block (heap_alloc_new w3 (.cells #[.int .i64 xc, .bool xf, .bool xi, .int .i64 sn, .int .u8 (sl.toNat : Int)] 51)) rfl) HONE.out (by omega) (by unfold maxLen; omega) (by simp; have := hb3.size; omega) ?_
                 intro v4 w4 ho4 hu4 _
                 have hb4 : Below V.heap.size V w4 := (hb3.alloc hb3.size (.cells #[.int .i64 xc, .bool xf, .bool xi, .int .i64 sn, .int .u8 (sl.toNat : Int)] 51)).trans (hu4.below (fun i hi e => by have := (ho3.lt i e).1; omega) (by simp; have := hb3.size; omega)))
              | (refine step_app (by rfl) (.tmp 52) (.tmp 60) 48 (by rfl) V.heap.size 51 i1 _ 5 32 Tryd.underlying48 hi1 hy0 hy1 hy2 rfl (by omega) v3 (0 + ns) ([] ++ catv sitC sat) _ (some ⟨V.heap.size + 1, 0, none⟩) 1 1 ([.int .i64 xc, .bool xf, .bool xi, .int .i64 sn, .int .u8 (sl.toNat : Int)] : List Value) (by rfl) (by exact ho3) (by rfl) (rd_block ((hu3.block (V.heap.size + 1) (by simp) (by simp [Value.ownBlock])).trans Y2.out) rfl) HONE.out (by omega) (by unfold maxLen; omega) (by exact hb3.size) ?_
                 intro v4 w4 ho4 hu4 _
                 have hb4 : Below V.heap.size V w4 := hb3.trans (hu4.below (fun i hi e => by have := (ho3.lt i e).1; omega) hb3.size))
              | (refine step_app (by rfl) (.tmp 52) (.tmp 60) 48 (by rfl) V.heap.size 51 i1 _ 5 32 Tryd.underlying48 hi1 hy0 hy1 hy2 rfl (by omega) v3 (0 + ns) ([] ++ catv sitC sat) _ (some ⟨V.heap.size, 0, none⟩) 1 1 ([.int .i64 xc, .bool xf, .bool xi, .int .i64 sn, .int .u8 (sl.toNat : Int)] : List Value) (by rfl) (by exact ho3) (by rfl) (rd_block ((hu3.block V.heap.size (by simp; omega) (by simp [Value.ownBlock])).trans Y3.out) rfl) HONE.out (by omega) (by unfold maxLen; omega) (by exact hb3.size) ?_
                 intro v4 w4 ho4 hu4 _
                 have hb4 : Below V.heap.size V w4 := hb3.trans (hu4.below (fun i hi e => by have := (ho3.lt i e).1; omega) hb3.size))
              | (go_at_call 22
                 rw [List.nil_append, Nat.zero_add] at ho4
                 obtain ⟨g4, cap4, rfl, -, -, -, -⟩ := own_form ho4 (by omega)
                 have hr4 : Rd w4 w4.heap.size 5 (some ⟨g4, 0, none⟩) (ns + 1) (catv sitC (sat ++ [⟨⟨xc, xf, xi⟩, ⟨sn, sl⟩⟩])) := by
                   rw [catv_append, catv_one]
                   exact Rd.own ho4
                 refine (HMX.out _ g4 cap4 hb4 hr4).mono ?_
                 rintro e w11 ⟨rfl, hb11⟩
                 have hb12 : Below V.heap.size V w11 := hb4.trans (hb11.mono hb4.size))
              | fail)
          all_goals go_wp2_with fail
          all_goals go_meet
          all_goals exact ⟨rfl, rfl, Lib.hid hb12⟩
        case rest =>
          obtain ⟨rfl, rfl, hbc⟩ := hcut
          obtain ⟨o0, o1⟩ := HCO.out wc (HB2V.out.trans (hbc.out.mono HB2V.out.size))
          have HB4C := Lib.hid (HB4V.out.trans (hbc.out.mono HB4V.out.size))
          obtain ⟨y0, y1⟩ := (HC.out wc hbc.out).2.2
          have hw1 : IntKind.i64.wrap (r1 + 1) = r1 + 1 := IntWalk.i64_in _ (by omega)
          clear hbc
          go_upto_region 10 with (fail)
          go_quiet (fail)
          have HBD : Hid (Below w4.heap.size w4 (wc.drewN nq)) := Lib.hid ⟨HB4C.out.os, HB4C.out.tape, HB4C.out.output, HB4C.out.size, HB4C.out.block⟩
          clear o0 o1 y0 y1 hw1 hso
          cases eqc with
          | true =>
            have hw2 : IntKind.i64.wrap (r2 + 1) = r2 + 1 := IntWalk.i64_in _ (by omega)
            have HNX2 : Hid (accQ l ⟨xc, xf, xi⟩ ⟨on, ol⟩ t sat F (q + 1) = lexMax (a, b) (r1 + 1, r2 + 1)) := Lib.hid (by have h1 := HNX.out; simpa using h1)
            have fin : ∀ a' b' : Int, lexMax (a, b) ((r1 + 1), (r2 + 1)) = (a', b') → Hid (accQ l ⟨xc, xf, xi⟩ ⟨on, ol⟩ t sat F (q + 1) = (a', b')) := fun a' b' h => Lib.hid (by rw [HNX2.out]; exact h)
            have FIN := Lib.hid fin
            clear fin
            by_cases g1 : a < (r1 + 1)
            · have e1 : decide (a < (r1 + 1)) = true := decide_eq_true g1
              have HF := FIN.out (r1 + 1) (r2 + 1) (by unfold lexMax; rw [if_pos (.inl g1)])
              go_wp2
              go_roundw
              case rel => exact ⟨q + 1, (r1 + 1), (r2 + 1), by go_num, rfl, rfl, hql, HF, HBD⟩
              case measure => (simp [intOf]; try omega)
            · have e1 : decide (a < (r1 + 1)) = false := decide_eq_false g1
              by_cases g2 : (r1 + 1) = a
              · have e2 : ((r1 + 1) == a) = true := by simpa using g2
                by_cases g3 : b < (r2 + 1)
                · have e3 : decide (b < (r2 + 1)) = true := decide_eq_true g3
                  have HF := FIN.out (r1 + 1) (r2 + 1) (by unfold lexMax; rw [if_pos (.inr ⟨g2, g3⟩)])
                  go_wp2
                  go_roundw
                  case rel => exact ⟨q + 1, (r1 + 1), (r2 + 1), by go_num, rfl, rfl, hql, HF, HBD⟩
                  case measure => (simp [intOf]; try omega)
                · have e3 : decide (b < (r2 + 1)) = false := decide_eq_false g3
                  have HF := FIN.out a b (by unfold lexMax; rw [if_neg (fun h => h.elim g1 (fun h => g3 h.2))])
                  go_wp2
                  go_roundw
                  case rel => exact ⟨q + 1, a, b, by go_num, rfl, rfl, hql, HF, HBD⟩
                  case measure => (simp [intOf]; try omega)
              · have e2 : ((r1 + 1) == a) = false := beq_false_of_ne g2
                have HF := FIN.out a b (by unfold lexMax; rw [if_neg (fun h => h.elim g1 (fun h => g2 h.1))])
                go_wp2
                go_roundw
                case rel => exact ⟨q + 1, a, b, by go_num, rfl, rfl, hql, HF, HBD⟩
                case measure => (simp [intOf]; try omega)
          | false =>
            have HNX2 : Hid (accQ l ⟨xc, xf, xi⟩ ⟨on, ol⟩ t sat F (q + 1) = lexMax (a, b) (r1 + 1, r2)) := Lib.hid (by have h1 := HNX.out; simpa using h1)
            have fin : ∀ a' b' : Int, lexMax (a, b) ((r1 + 1), r2) = (a', b') → Hid (accQ l ⟨xc, xf, xi⟩ ⟨on, ol⟩ t sat F (q + 1) = (a', b')) := fun a' b' h => Lib.hid (by rw [HNX2.out]; exact h)
            have FIN := Lib.hid fin
            clear fin
            by_cases g1 : a < (r1 + 1)
            · have e1 : decide (a < (r1 + 1)) = true := decide_eq_true g1
              have HF := FIN.out (r1 + 1) r2 (by unfold lexMax; rw [if_pos (.inl g1)])
              go_wp2
              go_roundw
              case rel => exact ⟨q + 1, (r1 + 1), r2, by go_num, rfl, rfl, hql, HF, HBD⟩
              case measure => (simp [intOf]; try omega)
            · have e1 : decide (a < (r1 + 1)) = false := decide_eq_false g1
              by_cases g2 : (r1 + 1) = a
              · have e2 : ((r1 + 1) == a) = true := by simpa using g2
                by_cases g3 : b < r2
                · have e3 : decide (b < r2) = true := decide_eq_true g3
                  have HF := FIN.out (r1 + 1) r2 (by unfold lexMax; rw [if_pos (.inr ⟨g2, g3⟩)])
                  go_wp2
                  go_roundw
                  case rel => exact ⟨q + 1, (r1 + 1), r2, by go_num, rfl, rfl, hql, HF, HBD⟩
                  case measure => (simp [intOf]; try omega)
                · have e3 : decide (b < r2) = false := decide_eq_false g3
                  have HF := FIN.out a b (by unfold lexMax; rw [if_neg (fun h => h.elim g1 (fun h => g3 h.2))])
                  go_wp2
                  go_roundw
                  case rel => exact ⟨q + 1, a, b, by go_num, rfl, rfl, hql, HF, HBD⟩
                  case measure => (simp [intOf]; try omega)
              · have e2 : ((r1 + 1) == a) = false := beq_false_of_ne g2
                have HF := FIN.out a b (by unfold lexMax; rw [if_neg (fun h => h.elim g1 (fun h => g2 h.1))])
                go_wp2
                go_roundw
                case rel => exact ⟨q + 1, a, b, by go_num, rfl, rfl, hql, HF, HBD⟩
                case measure => (simp [intOf]; try omega)
      · obtain rfl : q = F.length := by omega
        have hqi : ¬ (F.length : Int) < (F.length : Int) := by omega
        have HBF := Lib.hid (HB4.out.trans (hB.out.mono HB4.out.size))
        have HAC := Lib.hid hacc.out
        clear hacc hB
        go_wp2
        go_ret2
        exact ⟨by rw [HMAIN.out, HAC.out]; rfl, HBF.out⟩
end Go.Proofs.YtppjpledjhinbaaDoor
