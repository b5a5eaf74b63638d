/- ReseatOrder's walk. -/
import Derived.Test.YtppjpledjhinbaaDoorJRsOlds
import Derived.Test.YtppjpledjhinbaaDoorJRsMore
import Derived.Test.YtppjpledjhinbaaDoorJCbRSp
import Derived.Deep.RegionHeld3
import Derived.Deep.CutBlock
import Derived.Deep.DeepCutAuto
namespace Go.Proofs.YtppjpledjhinbaaDoor
open Go.RowKit Go.Lib
theorem rem_natR (a : Int) (m : Nat) (h : 0 < m) (hm : m ≤ 1048576) : ∃ k : Nat, k < m ∧ wrap64 ((IntKind.u64.wrap a).tmod (m : Int)) = (k : Int) := by
  have h0 : 0 ≤ IntKind.u64.wrap a := by rw [IntKind.wrap_u64]; exact Int.emod_nonneg _ (by decide)
  have h1 := Int.emod_lt_of_pos (IntKind.u64.wrap a) (show (0 : Int) < (m : Int) by omega)
  have h2 := Int.emod_nonneg (IntKind.u64.wrap a) (show (m : Int) ≠ 0 by omega)
  rw [Int.tmod_eq_emod_of_nonneg h0]
  refine ⟨(IntKind.u64.wrap a % (m : Int)).toNat, by omega, ?_⟩
  rw [Int.toNat_of_nonneg h2]
  generalize IntKind.u64.wrap a % (m : Int) = z at h1 h2
  unfold wrap64
  omega
theorem catv_dropR {α : Type} {f : α → List Value} {m : Nat} (hf : ∀ x, (f x).length = m) (l : List α) (k : Nat) : (catv f l).drop (k * m) = catv f (l.drop k) := by
  have h1 := catv_take hf l k
  have h2 : catv f l = catv f (l.take k) ++ catv f (l.drop k) := by rw [← catv_append, List.take_append_drop]
  have h3 : (catv f l).take (k * m) ++ (catv f l).drop (k * m) = catv f (l.take k) ++ catv f (l.drop k) := by rw [List.take_append_drop, ← h2]
  rw [h1] at h3
  exact List.append_cancel_left h3
theorem rd_dropR {w : World} {B size n gb off : Nat} {xs : List Value} (h : Rd w B size (some ⟨gb, off, none⟩) n xs) (k : Nat) : Rd w B size (some ⟨gb, off + k * size, none⟩) (n - k) (xs.drop (k * size)) :=
  ⟨by rw [List.length_drop, h.len, Nat.sub_mul], fun h0 => by
    obtain ⟨ad', e, hb, hc⟩ := h.at_ (by omega)
    injection e with e
    subst e
    refine ⟨_, rfl, hb, fun j u hu => ?_⟩
    rw [addr_flat, Nat.add_assoc, ← addr_flat]
    exact hc _ u (by rw [List.getElem?_drop] at hu; exact hu)⟩
theorem rdr_infoO : (Tryd.prog.info? 30).map (fun i => (i.zero, i.size, i.bytes)) = some (some (.agg #[.int .i64 0, .bool false, .bool false, .int .i64 0, .int .u8 0]), 5, 32) := by kernel_rfl
set_option maxHeartbeats 8000000 in
set_option maxRecDepth 20000 in
theorem rorder_any (w : World) (mm : Int) (A : Option Addr) (n c : Nat) (l : List MRow) (hr : Rd w w.heap.size 5 A n (catv rowC l)) (hf : ∀ r ∈ l, r.fits) (hLib : LibAt w mm) (A1 : Option Addr) (n1 c1 : Nat) (rs : List MSit) (hr1 : Rd w w.heap.size 5 A1 n1 (catv sitC rs)) (hf1 : ∀ x ∈ rs, x.seat.fits) (hn1 : n1 ≤ 1048576) (hc1 : n1 ≤ c1) (turn : Int) :
    Calls Tryd.prog 9 #[.slice A n c, .slice A1 n1 c1, .int .i64 turn] w fun e w' => e = .returned (.bool true) ∧ Below w.heap.size w w' := by
  obtain ⟨i1, hi1, hy0, hy1, hy2⟩ := info_parts rdr_infoO
  have HL1 := Lib.hid (rd_catlen sitC_len (by decide) hr1).symm
  have HLV := Lib.hid (fun (W : World) (hW : Below w.heap.size w W) => rlives_any W mm (hLib.below hW))
  have HCK := Lib.hid (fun (W : World) (hW : Below w.heap.size w W) => rcheck_any W A n c l ((hr.below hW).mono hW.size) hf)
  have HOL := Lib.hid (fun (W : World) (hW : Below w.heap.size w W) => rolds_any W A1 n1 c1 rs ((hr1.below hW).mono hW.size) hf1 hn1)
  have HMO := Lib.hid (fun (W : World) (hW : Below w.heap.size w W) (A2 : Option Addr) (n2 c2 : Nat) (us : List MSit) (hr2 : Rd W W.heap.size 5 A2 n2 (catv sitC us)) (hu : ∀ x ∈ us, x.seat.fits) (hE : errC l = 0) (h20 : us.length ≤ 20) => most_ok W mm A n c l ((hr.below hW).mono hW.size) hf (hLib.below hW) A2 n2 c2 us hr2 hu hE h20)
  have HR1 := Lib.hid hr1
  have HF1 := Lib.hid hf1
  clear hr hf hLib hr1 hf1
  go_enter Tryd.func9, Tryd.ntmps9
  go_wp2_with fail
  refine (HLV.out _ (Below.refl _ _)).mono ?_
  rintro e w1 ⟨rfl, hb1⟩
  have HB1 := Lib.hid hb1
  clear hb1
  go_wp2_with fail
  refine (HCK.out _ HB1.out).mono ?_
  rintro e w2 ⟨rfl, hb2⟩
  have HB2 := Lib.hid (HB1.out.trans (hb2.mono HB1.out.size))
  clear hb2
  obtain ⟨E, hE⟩ : ∃ E, errC l = E := ⟨_, rfl⟩
  rw [hE]
  have HE := Lib.hid hE
  clear hE
  by_cases hE0 : E = 0
  · subst hE0
    by_cases hlt : 20 < n1 ∨ n1 = 0
    · have HL := Lib.hid hlt
      by_cases h20 : 20 < n1
      · have hli : (20 : Int) < (n1 : Int) := by omega
        clear hlt h20
        go_wp2_with fail
        refine (HLV.out _ HB2.out).mono ?_
        rintro e w3 ⟨rfl, hb3⟩
        have HB3 := Lib.hid (HB2.out.trans (hb3.mono HB2.out.size))
        clear hb3
        go_wp2
        go_ret
        exact ⟨rfl, HB3.out⟩
      · obtain rfl : n1 = 0 := by omega
        clear hlt h20
        go_wp2_with fail
        refine (HLV.out _ HB2.out).mono ?_
        rintro e w3 ⟨rfl, hb3⟩
        have HB3 := Lib.hid (HB2.out.trans (hb3.mono HB2.out.size))
        clear hb3
        go_wp2
        go_ret
        exact ⟨rfl, HB3.out⟩
    · have hli : ¬ (20 : Int) < (n1 : Int) := by omega
      have h20 : n1 ≤ 20 := by omega
      have hn0 : 0 < n1 := by omega
      have hne : ((n1 : Int) == 0) = false := beq_false_of_ne (by omega)
      clear hlt
      go_wp2_with fail
      refine (HOL.out _ HB2.out).mono ?_
      rintro e w3 ⟨v3, rfl, ho3, hb3⟩
      obtain ⟨Ao, co, rfl⟩ := own_shape ho3
      have HB3 := Lib.hid (HB2.out.trans (hb3.mono HB2.out.size))
      have HO3 := Lib.hid ho3
      obtain ⟨gb, off, hA1, _, _, _⟩ := HR1.out.elem sitC_len (by decide) hn0
      subst hA1
      clear hb3 ho3 hne
      go_wp2
      go_loopw [38] (fun iv wx => ∃ i : Nat, iv = .int .i64 (i : Int) ∧ i ≤ n1 ∧ Hid (∀ j (hj : j < rs.length) (hj2 : j < (oldsL rs).length), j < i → (oldsL rs)[j] = rs[j].seat) ∧ Hid (Below w3.heap.size w3 wx)) (fun iv _ => n1 - (intOf iv).toNat)
      case atStart => exact ⟨0, rfl, Nat.zero_le _, Lib.hid (fun j _ _ h => by omega), Lib.hid (Below.refl _ _)⟩
      case round =>
        obtain ⟨i, rfl, hi, hAll, hB⟩ := hrel
        by_cases hlt : i < n1
        · have hir : i < rs.length := by rw [HL1.out]; exact hlt
          have hio : i < (oldsL rs).length := by rw [oldsL_len]; exact hir
          have hbx := HB3.out.trans (hB.out.mono HB3.out.size)
          obtain ⟨go', offo, e, hgo, _, hco⟩ := (Rd.own (own_below HO3.out hB.out)).elem seatC_len (by decide) hlt
          subst e
          obtain ⟨gb2, off2, e2, hgb, _, hcc⟩ := (HR1.out.below hbx).elem sitC_len (by decide) hlt
          simp only [Option.some.injEq, Addr.mk.injEq, and_true] at e2
          obtain ⟨rfl, rfl⟩ := e2
          obtain ⟨o, ho⟩ : ∃ o, (oldsL rs)[i] = o := ⟨_, rfl⟩
          obtain ⟨x, hx⟩ : ∃ x, rs[i].seat = x := ⟨_, rfl⟩
          have c3 := hcc 3 (.int .i64 rs[i].seat.num) rfl
          have c4 := hcc 4 (.int .u8 (rs[i].seat.ltr.toNat : Int)) rfl
          rw [hx] at c3 c4
          rw [ho] at hco
          obtain ⟨on, ol⟩ := o
          obtain ⟨xn, xl⟩ := x
          have d0 := hco 0 (.int .i64 on) rfl
          have d1 := hco 1 (.int .u8 (ol.toNat : Int)) rfl
          rw [Nat.add_zero] at d0
          have HOX := Lib.hid (And.intro ho hx)
          obtain ⟨X, hX⟩ : ∃ X, wr.heap.size = X := ⟨_, rfl⟩
          obtain ⟨V, hV⟩ : ∃ V, wr.alloc (.cells #[.int .i64 on, .int .u8 (ol.toNat : Int)] 26) = V := ⟨_, rfl⟩
          have hbV : Below wr.heap.size wr V := by rw [← hV]; exact (Below.refl _ _).alloc (Nat.le_refl _) _
          have xV : V.heap[X]? = some (.cells #[.int .i64 on, .int .u8 (ol.toNat : Int)] 26 (0, 0)) := by rw [← hV, ← hX]; exact heap_alloc_new wr _
          have hgw : gb < wr.heap.size := Nat.lt_of_lt_of_le hgb hbx.size
          have c3b : V.cell? ⟨gb, off + i * 5 + 3, none⟩ = some (.int .i64 xn) := (hbV.cell (p := ⟨gb, off + i * 5 + 3, none⟩) hgw).trans c3
          have c4b : V.cell? ⟨gb, off + i * 5 + 4, none⟩ = some (.int .u8 (xl.toNat : Int)) := (hbV.cell (p := ⟨gb, off + i * 5 + 4, none⟩) hgw).trans c4
          have f0 : V.cell? ⟨X, 0, none⟩ = some (.int .i64 on) := by rw [cell_of_row _ _ 0 _ _ _ xV]; rfl
          have f1 : V.cell? ⟨X, 1, none⟩ = some (.int .u8 (ol.toNat : Int)) := by rw [cell_of_row _ _ 1 _ _ _ xV]; rfl
          have HBV := Lib.hid (hB.out.trans (hbV.mono hB.out.size))
          obtain ⟨eqb, heqb⟩ : ∃ eqb, decide ((⟨on, ol⟩ : MSeat) = ⟨xn, xl⟩) = eqb := ⟨_, rfl⟩
          have hse : ∀ U : World, (Op.equalIn 10000 26 (.agg #[.int .i64 on, .int .u8 (ol.toNat : Int)]) (.agg #[.int .i64 xn, .int .u8 (xl.toNat : Int)])).run Tryd.prog U = .ok eqb U := fun U => by rw [← heqb]; exact seat_eqIn U ⟨on, ol⟩ ⟨xn, xl⟩
          have HQ := Lib.hid heqb
          have hii : (i : Int) < (n1 : Int) := by omega
          have hi0' : (0 : Int) ≤ (i : Int) := by omega
          clear hcc hco ho hx xV hbV hbx hB heqb c3 c4
          go_upto_region 6 with (fail)
          clear hV d0 d1
          go_quiet (fail)
          have HBQ : Hid (Below w3.heap.size w3 (V.drewN nq)) := Lib.hid ⟨HBV.out.os, HBV.out.tape, HBV.out.output, HBV.out.size, HBV.out.block⟩
          clear f0 f1 c3b c4b HBV
          cases eqb with
          | true =>
            have HA2 : Hid (∀ j (hj : j < rs.length) (hj2 : j < (oldsL rs).length), j < i + 1 → (oldsL rs)[j] = rs[j].seat) := Lib.hid (fun j hj hj2 h => by
              by_cases e : j = i
              · subst e
                rw [HOX.out.1, HOX.out.2]
                exact of_decide_eq_true HQ.out
              · exact hAll.out j hj hj2 (by omega))
            clear hAll
            go_wp2
            go_roundw
            case rel => exact ⟨i + 1, by go_num, hlt, HA2, HBQ⟩
            case measure => (simp [intOf]; try omega)
          | false =>
            have HBF := Lib.hid (HB3.out.trans (HBQ.out.mono HB3.out.size))
            go_wp2
            go_ret
            exact ⟨rfl, HBF.out⟩
        · obtain rfl : i = n1 := by omega
          have hii : ¬ (i : Int) < (i : Int) := by omega
          have HAL : Hid (Alone rs) := Lib.hid (olds_alone fun j hj => hAll.out j hj (by rw [oldsL_len]; exact hj) (by rw [← HL1.out]; exact hj))
          have hbx := HB3.out.trans (hB.out.mono HB3.out.size)
          obtain ⟨k, hk, hkw⟩ := rem_natR turn i hn0 (by omega)
          have hwk : IntKind.u64.wrap (i : Int) = (i : Int) := by rw [IntKind.wrap_u64]; omega
          have HBX := Lib.hid hbx
          clear hAll hB hbx
          go_upto_region 10 with (fail)
          try simp only [hkw]
          clear hkw hwk
          obtain ⟨wz, hwz⟩ : ∃ W, wr = W := ⟨_, rfl⟩
          rw [hwz] at HBX ⊢
          clear hwz
          obtain ⟨D2, hD2⟩ : ∃ D2, c1 - k = D2 := ⟨_, rfl⟩
          have hki : (k : Int) < (i : Int) := by omega
          have hkl : (k : Int) ≤ (i : Int) := by omega
          have hk0 : (0 : Int) ≤ (k : Int) := by omega
          have hkc : (k : Int) ≤ (c1 : Int) := by omega
          have hic : (i : Int) ≤ (c1 : Int) := by omega
          have hck : ¬ c1 = k := by omega
          have hDD : ((c1 : Int) - (k : Int)).toNat = D2 := by omega
          have HR0 : Hid (∀ V : World, Below wz.heap.size wz V → Rd V w.heap.size 5 (some ⟨gb, off, none⟩) i (catv sitC rs)) := Lib.hid (fun V hV => HR1.out.below (HBX.out.trans (hV.mono HBX.out.size)))
          have HRA : Hid (∀ V : World, Below wz.heap.size wz V → Rd V w.heap.size 5 (some ⟨gb, off, none⟩) k (catv sitC (rs.take k))) := Lib.hid (fun V hV => by
            have := (HR0.out V hV).take k (by omega)
            rwa [catv_take sitC_len] at this)
          have HRB : Hid (∀ V : World, Below wz.heap.size wz V → Rd V w.heap.size 5 (some ⟨gb, off + k * 5, none⟩) (i - k) (catv sitC (rs.drop k))) := Lib.hid (fun V hV => by
            have := rd_dropR (HR0.out V hV) k
            rw [catv_dropR sitC_len] at this
            exact this)
          have HC1 := Lib.hid (catv_cell sitC_cell (rs.take k))
          have HC2 := Lib.hid (catv_cell sitC_cell (rs.drop k))
          clear hD2
          go_cut [10] (fun v wd => ∃ A2 c2, v = .slice A2 ((i - k) + k) c2 ∧ Hid (Rd wd wd.heap.size 5 A2 ((i - k) + k) (catv sitC (turnR rs k))) ∧ Hid (Below wz.heap.size wz wd))
          case first =>
            have hbd : Below wz.heap.size wz wz.drew := (Below.refl _ _).drew
            have hb1 := hbd.alloc hbd.size (.cells #[] 30)
            have O1 := Lib.hid (own_empty wz.drew 30 5 wz.heap.size (Nat.le_refl _))
            go_region_held3 (fun V => Below wz.heap.size wz V)
              (first | assumption | exact hbd | exact hb1 | exact hb3 | exact hb4)
              (first
                | (refine step_app (by rfl) (.tmp 58) (.tmp 61) 23 (by rfl) wz.heap.size 30 i1 _ 5 32 Tryd.underlying23 hi1 hy0 hy1 hy2 rfl (by omega) (.slice (some ⟨wz.heap.size, 0, none⟩) 0 0) 0 [] w.heap.size _ (i - k) _ (catv sitC (rs.drop k)) (by rfl) (by exact O1.out) (by rfl) (HRB.out _ (by exact hb1)) HC2.out (by omega) (by unfold maxLen; omega) (by exact hb1.size) ?_
                   intro v3 w5 ho3 hu3 _
                   have hb3 : Below wz.heap.size wz w5 := hb1.trans (hu3.below (fun i hi e => by simp [Value.ownBlock] at e; omega) hb1.size))
                | (refine step_app (by rfl) (.tmp 62) (.tmp 65) 23 (by rfl) wz.heap.size 30 i1 _ 5 32 Tryd.underlying23 hi1 hy0 hy1 hy2 rfl (by omega) v3 (0 + (i - k)) ([] ++ catv sitC (rs.drop k)) w.heap.size _ k _ (catv sitC (rs.take k)) (by rfl) (by exact ho3) (by rfl) (HRA.out _ (by exact hb3)) HC1.out (by omega) (by unfold maxLen; omega) (by exact hb3.size) ?_
                   intro v4 w6 ho4 hu4 _
                   have hb4 : Below wz.heap.size wz w6 := hb3.trans (hu4.below (fun i hi e => by have := (ho3.lt i e).1; omega) hb3.size))
                | fail)
            all_goals go_wp2_with fail
            all_goals go_meet
            all_goals (
              rw [List.nil_append, Nat.zero_add, ← catv_append] at ho4
              obtain ⟨A2, c2, rfl, hr4⟩ := own_rd ho4
              exact ⟨A2, c2, rfl, Lib.hid hr4, Lib.hid hb4⟩)
          case rest =>
            obtain ⟨A2, c2, rfl, hRl, hBl⟩ := hcut
            have HBc := Lib.hid (HBX.out.trans (hBl.out.mono HBX.out.size))
            have hlen : rs.length ≤ 20 := by rw [HL1.out]; exact h20
            have HM1 := Lib.hid (HMO.out wc HBc.out (some ⟨gb, off, none⟩) i c1 rs ((HR1.out.below HBc.out).mono HBc.out.size) HF1.out HE.out hlen)
            have hmost := turn_most l rs HAL.out (k := k) (by rw [HL1.out]; omega)
            have hlt2 : (turnR rs k).length ≤ 20 := by rw [turnR_len rs k (by rw [HL1.out]; omega)]; exact hlen
            have HFT : Hid (∀ x ∈ turnR rs k, x.seat.fits) := Lib.hid (fun x hx => by
              unfold turnR at hx
              rcases List.mem_append.1 hx with hx | hx
              · exact HF1.out x (List.mem_of_mem_drop hx)
              · exact HF1.out x (List.mem_of_mem_take hx))
            have HLT2 := Lib.hid hlt2
            obtain ⟨M, hM⟩ : ∃ M, seatedM l rs = M := ⟨_, rfl⟩
            obtain ⟨K, hK⟩ : ∃ K, keptM l rs = K := ⟨_, rfl⟩
            rw [hM, hK] at hmost HM1
            have HMS := Lib.hid hmost
            have HRL := Lib.hid hRl.out
            clear hRl hBl hlen hmost hlt2 hM hK HR0 HRA HRB HC1 HC2 hDD hck
            go_wp2_with fail
            refine HM1.out.mono ?_
            rintro e w5 ⟨rfl, hb5⟩
            have hb05 := HBc.out.trans (hb5.mono HBc.out.size)
            have HM2 := Lib.hid (HMO.out w5 hb05 A2 ((i - k) + k) c2 (turnR rs k) ((HRL.out.below hb5).mono hb5.size) HFT.out HE.out HLT2.out)
            rw [HMS.out.1, HMS.out.2] at HM2
            have HB5 := Lib.hid hb05
            clear hb5 hb05 HM1
            go_wp2_with fail
            refine HM2.out.mono ?_
            rintro e w6 ⟨rfl, hb6⟩
            have HB6 := Lib.hid (HB5.out.trans (hb6.mono HB5.out.size))
            clear hb6 HM2
            go_wp2
            go_ret
            exact ⟨by first | rfl | simp, HB6.out⟩
  · have hne : ¬ E = 0 := hE0
    go_wp2_with fail
    refine (HLV.out _ HB2.out).mono ?_
    rintro e w3 ⟨rfl, hb3⟩
    have HB3 := Lib.hid (HB2.out.trans (hb3.mono HB2.out.size))
    clear hb3
    go_wp2
    go_ret
    exact ⟨rfl, HB3.out⟩
end Go.Proofs.YtppjpledjhinbaaDoor
