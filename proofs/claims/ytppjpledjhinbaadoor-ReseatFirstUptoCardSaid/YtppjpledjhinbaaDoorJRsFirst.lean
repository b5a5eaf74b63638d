/- ReseatFirst's walk (printed by pre.py). -/
import Derived.Test.YtppjpledjhinbaaDoorJRsFirP
import Derived.Test.YtppjpledjhinbaaDoorJCbRSp
import Derived.Deep.RegionHeld3
import Derived.Deep.CutBlock
import Derived.Deep.DeepCutAuto
namespace Go.Proofs.YtppjpledjhinbaaDoor
open Go.RowKit Go.Lib
theorem rdr_infoF : (Tryd.prog.info? 30).map (fun i => (i.zero, i.size, i.bytes)) = some (some (.agg #[.int .i64 0, .bool false, .bool false, .int .i64 0, .int .u8 0]), 5, 32) := by kernel_rfl
/-- Is there a seat? -/
theorem seat_there {l : List MRow} {rs : List MSit} {i : Nat} (h : i < (seatPl l rs).length) : (seatPl l rs)[i] ≠ seatZ ↔ tkT l rs i = true := by
  obtain ⟨σ, hσ⟩ := sits_as l rs
  exact sit_nz (seats_ok l rs hσ) h
theorem seatPl_len (l : List MRow) (rs : List MSit) : (seatPl l rs).length = rs.length := by
  obtain ⟨σ, hσ⟩ := sits_as l rs
  exact (seats_ok l rs hσ).len
set_option maxHeartbeats 8000000 in
set_option maxRecDepth 20000 in
theorem rfirst_any (w : World) (mm : Int) (A : Option Addr) (n c : Nat) (l : List MRow) (hr : Rd w w.heap.size 5 A n (catv rowC l)) (hf : ∀ r ∈ l, r.fits) (hLib : LibAt w mm) (A1 : Option Addr) (n1 c1 : Nat) (rs : List MSit) (hr1 : Rd w w.heap.size 5 A1 n1 (catv sitC rs)) (hf1 : ∀ x ∈ rs, x.seat.fits) (hn1 : n1 ≤ 1048576) :
    Calls Tryd.prog 7 #[.slice A n c, .slice A1 n1 c1] w fun e w' => e = .returned (.bool true) ∧ Below w.heap.size w w' := by
  obtain ⟨i1, hi1, hy0, hy1, hy2⟩ := info_parts rdr_infoF
  have hl1 := rd_catlen sitC_len (by decide) hr1
  have HL1 := Lib.hid hl1.symm
  have HLV := Lib.hid (rlives_any w mm hLib)
  have HSE := Lib.hid (fun (W : World) (hW : Below w.heap.size w W) => seat_any W mm A n c l ((hr.below hW).mono hW.size) hf (hLib.below hW) A1 n1 c1 rs ((hr1.below hW).mono hW.size) hf1 (by omega))
  have HMO := Lib.hid (fun (W : World) (hW : Below w.heap.size w W) (A2 : Option Addr) (n2 c2 : Nat) (us : List MSit) (hr2 : Rd W W.heap.size 5 A2 n2 (catv sitC us)) (hu : ∀ x ∈ us, x.seat.fits) (hE : errC l = 0) (h20 : us.length ≤ 20) => most_ok W mm A n c l ((hr.below hW).mono hW.size) hf (hLib.below hW) A2 n2 c2 us hr2 hu hE h20)
  have HR1 := Lib.hid hr1
  have HF1 := Lib.hid hf1
  clear hr hf hLib hr1 hf1 hl1
  go_enter Tryd.func7, Tryd.ntmps7
  go_wp2_with fail
  refine HLV.out.mono ?_
  rintro e w1 ⟨rfl, hb1⟩
  have HB1 := Lib.hid hb1
  clear hb1
  go_wp2_with fail
  refine (HSE.out _ HB1.out).mono ?_
  rintro e w2 ⟨hb2, hcase⟩
  have hb02 := HB1.out.trans (hb2.mono HB1.out.size)
  by_cases hE : errC l ≠ 0
  · rw [if_pos hE] at hcase
    subst hcase
    obtain ⟨E, hE1⟩ : ∃ E, errC l = E := ⟨_, rfl⟩
    rw [hE1] at hE ⊢
    have hne : ¬ E = 0 := hE
    have HB2 := Lib.hid hb02
    clear hb2 hb02 hE1
    go_wp2
    go_ret
    exact ⟨rfl, HB2.out⟩
  · rw [if_neg hE] at hcase
    by_cases hlt : 20 < rs.length
    · rw [if_pos hlt] at hcase
      subst hcase
      have HB2 := Lib.hid hb02
      clear hb2 hb02 hlt hE
      go_wp2
      go_ret
      exact ⟨rfl, HB2.out⟩
    · rw [if_neg hlt] at hcase
      obtain ⟨v2, rfl, ho2⟩ := hcase
      obtain ⟨As, cs, rfl⟩ := own_shape ho2
      have HEC : Hid (errC l = 0) := Lib.hid (Classical.byContradiction hE)
      have H20 : Hid (rs.length ≤ 20) := Lib.hid (by omega)
      have HO2 := Lib.hid ho2
      have HB2 := Lib.hid hb02
      obtain ⟨N, hN⟩ : ∃ N, rs.length = N := ⟨_, rfl⟩
      have HN := Lib.hid hN
      have HNn : Hid (N = n1) := Lib.hid (hN.symm.trans HL1.out)
      rw [hN] at HO2 ⊢
      clear hb2 hb02 hlt hE ho2 hN
      go_wp2
      go_loopw [28, 7] (fun iv ou wx => ∃ (i : Nat) (av : Value), iv = .int .i64 (i : Int) ∧ av = ou ∧ i ≤ N ∧ Hid (wx.ownsRow w2.heap.size 30 5 av (aheadR l rs i).length (catv sitC (aheadR l rs i))) ∧ Hid (Below w2.heap.size w2 wx)) (fun iv _ _ => N - (intOf iv).toNat)
      case atStart => exact ⟨0, _, rfl, rfl, Nat.zero_le _, Lib.hid (World.ownsRow_nil _ _ _ _), Lib.hid (Below.refl _ _)⟩
      case round =>
        obtain ⟨i, av, rfl, rfl, hi, hO, hB⟩ := hrel
        by_cases hlt : i < N
        · have hir : i < rs.length := by rw [HN.out]; exact hlt
          have hbx := HB2.out.trans (hB.out.mono HB2.out.size)
          have his : i < (seatPl l rs).length := by rw [seatPl_len]; exact hir
          obtain ⟨gs, offs, e, hgs, hsl, hcs⟩ := (Rd.own (own_below HO2.out hB.out)).elem seatC_len (by decide) hlt
          subst e
          have hthere := seat_there his
          obtain ⟨s, hs⟩ : ∃ s, (seatPl l rs)[i] = s := ⟨_, rfl⟩
          rw [hs] at hcs hthere
          obtain ⟨sn, sl⟩ := s
          have d0 := hcs 0 (.int .i64 sn) rfl
          have d1 := hcs 1 (.int .u8 (sl.toNat : Int)) rfl
          rw [Nat.add_zero] at d0
          obtain ⟨us, hus⟩ : ∃ us, aheadR l rs i = us := ⟨_, rfl⟩
          have hnext := aheadR_next l rs hir
          have hone := ahead_one l rs (i := i) (by have := H20.out; omega) hir
          have huf : ∀ x ∈ us, x.seat.fits := fun x hx => HF1.out x (aheadR_mem (Nat.le_of_lt hir) (by rw [hus]; exact hx))
          have hul : us.length ≤ i := by rw [← hus]; exact aheadR_len l rs i
          have hxf := HF1.out rs[i] (List.getElem_mem hir)
          obtain ⟨x, hx⟩ : ∃ x, rs[i] = x := ⟨_, rfl⟩
          rw [hus, hx] at hnext hone
          rw [hus] at hO
          rw [hx] at hxf
          obtain ⟨tb, htb⟩ : ∃ tb, tkT l rs i = tb := ⟨_, rfl⟩
          rw [htb] at hnext hone hthere
          obtain ⟨na, hna⟩ : ∃ na, us.length = na := ⟨_, rfl⟩
          rw [hna] at hone hO hul
          obtain ⟨Aa, ca, rfl⟩ := own_shape hO.out
          obtain ⟨⟨xc, xf, xi⟩, ⟨xn, xl⟩⟩ := x
          obtain ⟨X, hX⟩ : ∃ X, wr.heap.size = X := ⟨_, rfl⟩
          obtain ⟨V, hV⟩ : ∃ V, wr.alloc (.cells #[.int .i64 sn, .int .u8 (sl.toNat : Int)] 26) = V := ⟨_, rfl⟩
          have hbV : Below wr.heap.size wr V := by rw [← hV]; exact (Below.refl _ _).alloc (Nat.le_refl _) _
          have xV : V.heap[X]? = some (.cells #[.int .i64 sn, .int .u8 (sl.toNat : Int)] 26 (0, 0)) := by rw [← hV, ← hX]; exact heap_alloc_new wr _
          have hoV := own_below hO.out hbV
          have hbV2 := hB.out.trans (hbV.mono hB.out.size)
          have hb0V := HB2.out.trans (hbV2.mono HB2.out.size)
          have hXlt : X < V.heap.size := (Array.getElem?_eq_some_iff.1 xV).1
          have hX2 : w2.heap.size ≤ X := by rw [← hX]; exact hB.out.size
          obtain ⟨M1, hM1⟩ : ∃ M1, seatedM l (us ++ [⟨⟨xc, xf, xi⟩, ⟨xn, xl⟩⟩]) = M1 := ⟨_, rfl⟩
          obtain ⟨K1, hK1⟩ : ∃ K1, keptM l (us ++ [⟨⟨xc, xf, xi⟩, ⟨xn, xl⟩⟩]) = K1 := ⟨_, rfl⟩
          have HMX : Hid (∀ (U : World) (g cap : Nat), Below V.heap.size V U → Rd U U.heap.size 5 (some ⟨g, 0, none⟩) (na + 1) (catv sitC (us ++ [⟨⟨xc, xf, xi⟩, ⟨xn, xl⟩⟩])) → Calls Tryd.prog 14 #[.slice A n c, .slice (some ⟨g, 0, none⟩) (na + 1) cap] U fun e w' => e = .returned (.tuple #[.int .i64 M1, .int .i64 K1, .int .i64 0]) ∧ Below U.heap.size U w') := Lib.hid (fun U g cap hU hRu => by
            have := HMO.out U (hb0V.trans (hU.mono hb0V.size)) (some ⟨g, 0, none⟩) (na + 1) cap (us ++ [⟨⟨xc, xf, xi⟩, ⟨xn, xl⟩⟩]) hRu (fun y hy => by
              rcases List.mem_append.1 hy with hy | hy
              · exact huf y hy
              · rw [List.mem_singleton] at hy; rw [hy]; exact hxf) HEC.out (by rw [List.length_append, List.length_singleton, hna]; have := H20.out; omega)
            rw [hM1, hK1] at this
            exact this)
          have HM1 : Hid (tb = true → M1 = (na : Int) + 1) := Lib.hid (fun h => by rw [← hM1]; exact hone h)
          have HNX := Lib.hid hnext
          have HTH := Lib.hid hthere
          have HOV := Lib.hid hoV
          have HBV := Lib.hid hbV2
          have HB0V := Lib.hid hb0V
          have HXV := Lib.hid xV
          have HSV : Hid (∀ U : World, Below V.heap.size V U → Rd U V.heap.size 5 Aa na (catv sitC us)) := Lib.hid (fun U hU => (Rd.own hoV).below hU)
          have HEC2 := Lib.hid (catv_cell sitC_cell us)
          obtain ⟨gb, off, hgb, hA1, hcx⟩ : ∃ gb off, gb < w.heap.size ∧ A1 = some ⟨gb, off, none⟩ ∧ ∀ U : World, Below w.heap.size w U → U.cell? ⟨gb, off + i * 5, none⟩ = some (.int .i64 xc) ∧ U.cell? ⟨gb, off + i * 5 + 1, none⟩ = some (.bool xf) ∧ U.cell? ⟨gb, off + i * 5 + 2, none⟩ = some (.bool xi) ∧ U.cell? ⟨gb, off + i * 5 + 3, none⟩ = some (.int .i64 xn) ∧ U.cell? ⟨gb, off + i * 5 + 4, none⟩ = some (.int .u8 (xl.toNat : Int)) := by
            obtain ⟨gb, off, e, hgb, _, _⟩ := HR1.out.elem sitC_len (by decide) (show i < n1 by rw [← HNn.out]; exact hlt)
            refine ⟨gb, off, hgb, e, fun U hU => ?_⟩
            obtain ⟨gb2, off2, e2, _, _, hcc⟩ := (HR1.out.below hU).elem sitC_len (by decide) (show i < n1 by rw [← HNn.out]; exact hlt)
            rw [e] at e2
            simp only [Option.some.injEq, Addr.mk.injEq, and_true] at e2
            obtain ⟨rfl, rfl⟩ := e2
            rw [hx] at hcc
            exact ⟨hcc 0 _ rfl, hcc 1 _ rfl, hcc 2 _ rfl, hcc 3 _ rfl, hcc 4 _ rfl⟩
          subst hA1
          have HCX := Lib.hid hcx
          have HC : Hid (∀ U : World, Below V.heap.size V U → Below V.heap.size V U ∧ U.cell? ⟨gb, off + i * 5, none⟩ = some (.int .i64 xc) ∧ U.cell? ⟨gb, off + i * 5 + 1, none⟩ = some (.bool xf) ∧ U.cell? ⟨gb, off + i * 5 + 2, none⟩ = some (.bool xi) ∧ U.cell? ⟨gb, off + i * 5 + 3, none⟩ = some (.int .i64 xn) ∧ U.cell? ⟨gb, off + i * 5 + 4, none⟩ = some (.int .u8 (xl.toNat : Int))) := Lib.hid (fun U hU => ⟨hU, HCX.out U (HB0V.out.trans (hU.mono HB0V.out.size))⟩)
          have hii : (i : Int) < (N : Int) := by omega
          have hi0' : (0 : Int) ≤ (i : Int) := by omega
          have hin : (i : Int) < (n1 : Int) := by have := HNn.out; omega
          have hna20 : na ≤ 20 := by have := H20.out; omega
          clear hcs hs hthere hus hnext hone huf hul hxf hx htb hbV xV hoV hbV2 hb0V hM1 hK1 hcx hO hB hbx hsl hna his
          go_upto_region 10 with (fail)
          clear hV d0 d1
          go_cut [10, 11, 12] (fun a b d wc => a = .int .i64 M1 ∧ b = .int .i64 K1 ∧ d = .int .i64 0 ∧ Hid (Below V.heap.size V wc))
          case first =>
            have hbd : Below V.heap.size V V.drew := ⟨rfl, rfl, rfl, Nat.le_refl _, fun _ _ => rfl⟩
            have hb1e := hbd.alloc hbd.size (.cells #[] 30)
            have hb1x := hbd.alloc hbd.size (.cells #[.int .i64 xc, .bool xf, .bool xi, .int .i64 xn, .int .u8 (xl.toNat : Int)] 30)
            have hb2ex := hb1e.alloc hb1e.size (.cells #[.int .i64 xc, .bool xf, .bool xi, .int .i64 xn, .int .u8 (xl.toNat : Int)] 30)
            have hb2xe := hb1x.alloc hb1x.size (.cells #[] 30)
            have o1 := own_empty V.drew 30 5 V.heap.size (Nat.le_refl _)
            have o2 := o1.alloc (.cells #[.int .i64 xc, .bool xf, .bool xi, .int .i64 xn, .int .u8 (xl.toNat : Int)] 30)
            have o3 := own_empty (V.drew.alloc (.cells #[.int .i64 xc, .bool xf, .bool xi, .int .i64 xn, .int .u8 (xl.toNat : Int)] 30)) 30 5 V.heap.size hb1x.size
            have zx : (V.drew.alloc (.cells #[.int .i64 xc, .bool xf, .bool xi, .int .i64 xn, .int .u8 (xl.toNat : Int)] 30)).heap.size = V.heap.size + 1 := by simp
            rw [zx] at o3
            have y2 := heap_alloc_new (V.drew.alloc (.cells #[] 30)) (.cells #[.int .i64 xc, .bool xf, .bool xi, .int .i64 xn, .int .u8 (xl.toNat : Int)] 30)
            have ze : (V.drew.alloc (.cells #[] 30)).heap.size = V.heap.size + 1 := by simp
            rw [ze] at y2
            have y3 := (Below.heap_alloc (V.drew.alloc (.cells #[.int .i64 xc, .bool xf, .bool xi, .int .i64 xn, .int .u8 (xl.toNat : Int)] 30)) (.cells #[] 30) V.heap.size (by simp)).trans (heap_alloc_new V.drew (.cells #[.int .i64 xc, .bool xf, .bool xi, .int .i64 xn, .int .u8 (xl.toNat : Int)] 30))
            have Y2 := Lib.hid y2
            have Y3 := Lib.hid y3
            have hone : ∀ u ∈ ([.int .i64 xc, .bool xf, .bool xi, .int .i64 xn, .int .u8 (xl.toNat : Int)] : List Value), u.oneCell' = true := by simp [Value.oneCell']
            have HONE := Lib.hid hone
            have O1 := Lib.hid o1
            have O2 := Lib.hid o2
            have O3 := Lib.hid o3
            clear y2 y3 ze hone o1 o2 o3 zx
            have HEC := HEC2
            go_region_held3 (fun U => Below V.heap.size V U ∧ U.cell? ⟨gb, off + i * 5, none⟩ = some (.int .i64 xc) ∧ U.cell? ⟨gb, off + i * 5 + 1, none⟩ = some (.bool xf) ∧ U.cell? ⟨gb, off + i * 5 + 2, none⟩ = some (.bool xi) ∧ U.cell? ⟨gb, off + i * 5 + 3, none⟩ = some (.int .i64 xn) ∧ U.cell? ⟨gb, off + i * 5 + 4, none⟩ = some (.int .u8 (xl.toNat : Int)))
              (exact HC.out _ (by first | assumption | exact hbd | exact hb1e | exact hb1x | exact hb2ex | exact hb2xe | exact Below.alloc hb3 hb3.size _))
              (first
                | (refine step_app (by rfl) (.tmp 35) (.tmp 36) 23 (by rfl) V.heap.size 30 i1 _ 5 32 Tryd.underlying23 hi1 hy0 hy1 hy2 rfl (by omega) (.slice (some ⟨V.heap.size, 0, none⟩) 0 0) 0 [] V.heap.size Aa na ca (catv sitC us) (by rfl) (by first | exact O1.out | exact O2.out) (by rfl) (HSV.out _ (by first | exact hb1e | exact hb2ex)) HEC.out (by omega) (by unfold maxLen; omega) (by first | exact hb1e.size | exact hb2ex.size) ?_
                   intro v3 w3 ho3 hu3 _
                   have hb3 : Below V.heap.size V w3 := Below.trans (by first | exact hb1e | exact hb2ex) (hu3.below (fun i hi e => by simp [Value.ownBlock] at e; omega) (by first | exact hb1e.size | exact hb2ex.size)))
                | (refine step_app (by rfl) (.tmp 35) (.tmp 36) 23 (by rfl) V.heap.size 30 i1 _ 5 32 Tryd.underlying23 hi1 hy0 hy1 hy2 rfl (by omega) (.slice (some ⟨V.heap.size + 1, 0, none⟩) 0 0) 0 [] V.heap.size Aa na ca (catv sitC us) (by rfl) (by exact O3.out) (by rfl) (HSV.out _ (by exact hb2xe)) HEC.out (by omega) (by unfold maxLen; omega) (by exact hb2xe.size) ?_
                   intro v3 w3 ho3 hu3 _
                   have hb3 : Below V.heap.size V w3 := Below.trans hb2xe (hu3.below (fun i hi e => by simp [Value.ownBlock] at e; omega) hb2xe.size))
                | (refine step_app (by rfl) (.tmp 37) (.tmp 42) 23 (by rfl) V.heap.size 30 i1 _ 5 32 Tryd.underlying23 hi1 hy0 hy1 hy2 rfl (by omega) v3 (0 + na) ([] ++ catv sitC us) _ (some ⟨w3.heap.size, 0, none⟩) 1 1 ([.int .i64 xc, .bool xf, .bool xi, .int .i64 xn, .int .u8 (xl.toNat : Int)] : List Value) (by rfl) (by exact ho3.alloc _) (by rfl) (rd_block (heap_alloc_new w3 (.cells #[.int .i64 xc, .bool xf, .bool xi, .int .i64 xn, .int .u8 (xl.toNat : Int)] 30)) rfl) HONE.out (by omega) (by unfold maxLen; omega) (by simp; have := hb3.size; omega) ?_
                   intro v4 w4 ho4 hu4 _
                   have hb4 : Below V.heap.size V w4 := (hb3.alloc hb3.size (.cells #[.int .i64 xc, .bool xf, .bool xi, .int .i64 xn, .int .u8 (xl.toNat : Int)] 30)).trans (hu4.below (fun i hi e => by have := (ho3.lt i e).1; omega) (by simp; have := hb3.size; omega)))
                | (refine step_app (by rfl) (.tmp 37) (.tmp 42) 23 (by rfl) V.heap.size 30 i1 _ 5 32 Tryd.underlying23 hi1 hy0 hy1 hy2 rfl (by omega) v3 (0 + na) ([] ++ catv sitC us) _ (some ⟨V.heap.size + 1, 0, none⟩) 1 1 ([.int .i64 xc, .bool xf, .bool xi, .int .i64 xn, .int .u8 (xl.toNat : Int)] : List Value) (by rfl) (by exact ho3) (by rfl) (rd_block ((hu3.block (V.heap.size + 1) (by simp) (by simp [Value.ownBlock])).trans Y2.out) rfl) HONE.out (by omega) (by unfold maxLen; omega) (by exact hb3.size) ?_
                   intro v4 w4 ho4 hu4 _
                   have hb4 : Below V.heap.size V w4 := hb3.trans (hu4.below (fun i hi e => by have := (ho3.lt i e).1; omega) hb3.size))
                | (refine step_app (by rfl) (.tmp 37) (.tmp 42) 23 (by rfl) V.heap.size 30 i1 _ 5 32 Tryd.underlying23 hi1 hy0 hy1 hy2 rfl (by omega) v3 (0 + na) ([] ++ catv sitC us) _ (some ⟨V.heap.size, 0, none⟩) 1 1 ([.int .i64 xc, .bool xf, .bool xi, .int .i64 xn, .int .u8 (xl.toNat : Int)] : List Value) (by rfl) (by exact ho3) (by rfl) (rd_block ((hu3.block V.heap.size (by simp; omega) (by simp [Value.ownBlock])).trans Y3.out) rfl) HONE.out (by omega) (by unfold maxLen; omega) (by exact hb3.size) ?_
                   intro v4 w4 ho4 hu4 _
                   have hb4 : Below V.heap.size V w4 := hb3.trans (hu4.below (fun i hi e => by have := (ho3.lt i e).1; omega) hb3.size))
                | (go_at_call 14
                   rw [List.nil_append, Nat.zero_add] at ho4
                   obtain ⟨g4, cap4, rfl, -, -, -, -⟩ := own_form ho4 (by omega)
                   have hr4 : Rd w4 w4.heap.size 5 (some ⟨g4, 0, none⟩) (na + 1) (catv sitC (us ++ [⟨⟨xc, xf, xi⟩, ⟨xn, xl⟩⟩])) := by
                     rw [catv_append, catv_one]
                     exact Rd.own ho4
                   refine (HMX.out _ g4 cap4 hb4 hr4).mono ?_
                   rintro e w11 ⟨rfl, hb11⟩
                   have hb12 : Below V.heap.size V w11 := hb4.trans (hb11.mono hb4.size))
                | fail)
            all_goals go_wp2_with fail
            all_goals go_meet
            all_goals exact ⟨rfl, rfl, rfl, Lib.hid hb12⟩
          case rest =>
            obtain ⟨rfl, rfl, rfl, hbc⟩ := hcut
            have HBC := Lib.hid (HBV.out.trans (hbc.out.mono HBV.out.size))
            have HOC := Lib.hid (own_below HOV.out hbc.out)
            obtain ⟨e0, e1, e2, e3, e4⟩ := (HC.out _ hbc.out).2
            have xC := box_keep HXV.out (Upd.of_below (S := fun _ => False) hbc.out) id
            have y0 : wc.cell? ⟨X, 0, none⟩ = some (.int .i64 sn) := by rw [cell_of_row _ _ 0 _ _ _ xC]; rfl
            have y1 : wc.cell? ⟨X, 1, none⟩ = some (.int .u8 (sl.toNat : Int)) := by rw [cell_of_row _ _ 1 _ _ _ xC]; rfl
            obtain ⟨eqb, heqb⟩ : ∃ eqb, decide ((⟨sn, sl⟩ : MSeat) = seatZ) = eqb := ⟨_, rfl⟩
            have hse : ∀ U : World, (Op.equalIn 10000 26 (.agg #[.int .i64 sn, .int .u8 (sl.toNat : Int)]) (.agg #[.int .i64 0, .int .u8 0])).run Tryd.prog U = .ok eqb U := fun U => by rw [← heqb]; exact seat_eqIn U ⟨sn, sl⟩ seatZ
            have HQ := Lib.hid heqb
            clear hbc xC heqb
            cases tb with
            | true =>
              have hM := HM1.out rfl
              subst hM
              have hq : eqb = false := by rw [← HQ.out]; exact decide_eq_false (HTH.out.2 rfl)
              subst hq
              go_wp2_with (at_builtin; refine wpList_push rfl (.tmp 53) (.tmp 58) 23 rfl w2.heap.size 30 i1 _ 5 32 Tryd.underlying23 hi1 hy0 hy1 hy2 rfl (by omega) _ na (catv sitC us) #[.int .i64 xc, .bool xf, .bool xi, .int .i64 xn, .int .u8 (xl.toNat : Int)] rfl (by exact HOC.out) (by simp [Act.eval]) rfl (by simp [Value.oneCell']) ?k1 ?k2 ?k3 ?_)
              case k1 => omega
              case k2 => unfold maxLen; omega
              case k3 => exact HBC.out.size
              intro v6 w6 ho6 hu6 _
              have HB6 := Lib.hid (HBC.out.trans (hu6.below (fun b hb e => by have := (HOC.out.lt b e).1; omega) HBC.out.size))
              have HO6 : Hid (w6.ownsRow w2.heap.size 30 5 v6 (aheadR l rs (i + 1)).length (catv sitC (aheadR l rs (i + 1)))) := Lib.hid (by
                have h1 := HNX.out
                first | rw [if_pos rfl] at h1 | rw [if_pos trivial] at h1 | skip
                rw [h1, List.length_append, List.length_singleton, catv_append, catv_one]
                have h2 := HOC.out.1
                rw [catv_length sitC_len] at h2
                rw [show us.length = na by omega]
                exact ho6)
              obtain ⟨A6, c6, rfl⟩ := own_shape ho6
              clear ho6 hu6 HOC HBC e0 e1 e2 e3 e4 y0 y1
              go_wp2
              go_roundw
              case rel => exact ⟨i + 1, _, by go_num, rfl, hlt, HO6, HB6⟩
              case measure => (simp [intOf]; try omega)
            | false =>
              have hq : eqb = true := by
                rw [← HQ.out]
                refine decide_eq_true (Classical.byContradiction fun h => ?_)
                have := HTH.out.1 h
                cases this
              subst hq
              have HO6 : Hid (wc.ownsRow w2.heap.size 30 5 (.slice Aa na ca) (aheadR l rs (i + 1)).length (catv sitC (aheadR l rs (i + 1)))) := Lib.hid (by
                have h1 := HNX.out
                first | rw [if_neg (by decide)] at h1 | rw [if_neg id] at h1 | skip
                rw [h1]
                have h2 := HOC.out.1
                rw [catv_length sitC_len] at h2
                rw [show us.length = na by omega]
                exact HOC.out)
              clear e0 e1 e2 e3 e4
              go_wp2
              go_roundw
              case rel => exact ⟨i + 1, _, by go_num, rfl, hlt, HO6, HBC⟩
              case measure => (simp [intOf]; try omega)
        · obtain rfl : i = N := by omega
          have hii : ¬ (i : Int) < (i : Int) := by omega
          have hbx := HB2.out.trans (hB.out.mono HB2.out.size)
          have hO := hO.out
          obtain ⟨us, hus⟩ : ∃ us, aheadR l rs i = us := ⟨_, rfl⟩
          have hm := ahead_most l rs (by have := H20.out; omega) (i := i) (by rw [HN.out]; exact Nat.le_refl _)
          have hul := aheadR_len l rs i
          have huf : ∀ x ∈ us, x.seat.fits := fun x hx => HF1.out x (aheadR_mem (by rw [HN.out]; exact Nat.le_refl _) (by rw [hus]; exact hx))
          rw [hus] at hO hm hul
          obtain ⟨na, hna⟩ : ∃ na, us.length = na := ⟨_, rfl⟩
          rw [hna] at hO hm hul
          obtain ⟨Aa, ca, rfl⟩ := own_shape hO
          have HM := Lib.hid (HMO.out wr hbx Aa na ca us (Rd.own hO) huf HEC.out (by rw [hna]; have := H20.out; have := HN.out; omega))
          rw [hm] at HM
          have HBX := Lib.hid hbx
          clear hB hO hus hm hul huf hna hbx
          go_wp2_with fail
          refine HM.out.mono ?_
          rintro e w4 ⟨rfl, hb4⟩
          have HB4 := Lib.hid (HBX.out.trans (hb4.mono HBX.out.size))
          clear hb4 HM
          go_wp2
          go_ret
          exact ⟨rfl, HB4.out⟩
end Go.Proofs.YtppjpledjhinbaaDoor
