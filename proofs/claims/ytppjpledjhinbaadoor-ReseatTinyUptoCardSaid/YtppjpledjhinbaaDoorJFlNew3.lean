/- Flows: newNet, walked. -/
import Derived.Test.YtppjpledjhinbaaDoorJFlNew2
import Derived.Deep.RegionWith
import Derived.StillTailTactics
import Derived.BigRegion
namespace Go.Proofs.YtppjpledjhinbaaDoor
open Go.RowKit
/-- The arcs up to this one are right. -/
def okTo (nodes : Int) (l : List Ar) (j : Nat) : Prop := ∀ i (h : i < l.length), i < j → okA nodes l[i]
/-- What newNet answers. -/
def NewnAns (w : World) (nodes s t : Nat) (l : List Ar) (e : Ending) (w' : World) : Prop :=
  (GoodN nodes s t l ∧ (∃ vs av, NetB w w' nodes s t (nwOf l) (rowsO nodes l l.length) (2 * l.length) vs av) ∧ e = .returned (.tuple #[.pointer (some ⟨w.heap.size + 1, 0, none⟩), .int .i64 0])) ∨
    (¬ GoodN nodes s t l ∧ e = .returned (.tuple #[.pointer none, .int .i64 19]) ∧ Below w.heap.size w w')
theorem outTo_succ (l : List Ar) (s k : Nat) : outTo l s (k + 1) = outTo l s k + (if (nwOf l).fr k = s then (nwOf l).cap k else 0) := rfl
theorem room0_even (N : Nw) (k : Nat) : room0 N (2 * k) = N.cap k := by unfold room0; rw [if_pos (by omega), show 2 * k / 2 = k by omega]
theorem room0_odd (N : Nw) (k : Nat) : room0 N (2 * k + 1) = 0 := by unfold room0; rw [if_neg (by omega)]
theorem rto_even (N : Nw) (k : Nat) : rto N (2 * k) = N.to k := by unfold rto; rw [if_pos (by omega), show 2 * k / 2 = k by omega]
theorem rto_odd (N : Nw) (k : Nat) : rto N (2 * k + 1) = N.fr k := by unfold rto; rw [if_neg (by omega), show (2 * k + 1) / 2 = k by omega]
theorem rc_even (N : Nw) (k : Nat) : rc N (2 * k) = N.cost k := by unfold rc; rw [if_pos (by omega), show 2 * k / 2 = k by omega]
theorem rc_odd (N : Nw) (k : Nat) : rc N (2 * k + 1) = - N.cost k := by unfold rc; rw [if_neg (by omega), show (2 * k + 1) / 2 = k by omega]
theorem arcv_cells (N : Nw) (room : Nat → Int) (n : Nat) : ∀ u ∈ arcv N room n, u.oneCell' = true := by
  intro u hu
  simp only [arcv, List.mem_flatMap] at hu
  obtain ⟨x, _, hx⟩ := hu
  simp only [List.mem_cons, List.not_mem_nil, or_false] at hx
  rcases hx with rfl | rfl | rfl <;> rfl
theorem rd_blockN {w : World} {h : Nat} (n size : Nat) {cs : Array Value} {t : TypeId} (hb : w.heap[h]? = some (.cells cs t (0, 0))) (hs : cs.size = n * size) : Rd w w.heap.size size (some ⟨h, 0, none⟩) n cs.toList :=
  ⟨by simpa using hs, fun _ => ⟨_, rfl, (Array.getElem?_eq_some_iff.1 hb).1, fun j u hu => by
    rw [add_zero_off, cell_of_row w h j _ _ _ hb]
    simpa using hu⟩⟩
theorem nearOf_pushR_le (r : List (List Nat)) (x j v : Nat) : (nearOf (pushR r x j) v).length ≤ (nearOf r v).length + 1 := by
  by_cases hx : x < r.length
  · rw [near_pushR hx]
    split <;> simp
  · unfold pushR
    rw [List.set_eq_of_length_le (by omega)]
    omega
set_option maxHeartbeats 16000000 in
set_option maxRecDepth 20000 in
theorem newn_any (w : World) (nodes s t : Nat) (A : Option Addr) (k c : Nat) (l : List Ar) (hr : Rd w w.heap.size 4 A k (arv l)) (hn : 2 ≤ nodes ∧ nodes ≤ 200) (hs : s < nodes) (ht : t < nodes) (hst : s ≠ t) (hk : k ≤ 4000) :
    Calls Tryd.prog 80 #[.int .i64 nodes, .int .i64 s, .int .i64 t, .slice A k c] w (NewnAns w nodes s t l) := by
  obtain ⟨i0, hi0, hz0, hz1, hz2⟩ := info_parts net_info
  obtain ⟨i1, hi1, hy0, hy1, hy2⟩ := info_parts int_info
  have HKL := Lib.hid (rd_arlen hr)
  have HR := Lib.hid hr
  have hmk := fun w => mkrows w nodes (by omega)
  have x1 : IntKind.i64.wrap ((nodes : Int) - 1) = (nodes : Int) - 1 := IntWalk.i64_in _ (by omega)
  have C1 := Lib.hid (btw w nodes 2 200 true (bis_t (by omega)))
  have C2 := Lib.hid (btw w s 0 (nodes - 1) true (bis_t (by omega)))
  have C3 := Lib.hid (btw w t 0 (nodes - 1) true (bis_t (by omega)))
  have hN0 := nears_made w nodes
  have hB0 := (Below.refl w.heap.size w).alloc (Nat.le_refl _) (.cells (Array.replicate nodes (Value.slice none 0 0)) 61)
  have z0 : (w.alloc (.cells (Array.replicate nodes (Value.slice none 0 0)) 61)).heap.size = w.heap.size + 1 := by simp
  have hbs : ((s : Int) == (t : Int)) = false := beq_eq_false_iff_ne.2 (by omega)
  clear hr
  go_enter Tryd.func80, Tryd.ntmps80
  go_wp2_with fail
  refine C1.out.mono ?_
  rintro e w1 ⟨rfl, rfl⟩
  go_wp2_with fail
  refine C2.out.mono ?_
  rintro e w2 ⟨rfl, rfl⟩
  go_wp2_with fail
  refine C3.out.mono ?_
  rintro e w3 ⟨rfl, rfl⟩
  clear C1 C2 C3
  have hB1 := hB0.alloc hB0.size (.cells #[.slice none 0 0, .slice (some ⟨w.heap.size, 0, none⟩) nodes nodes, .int .i64 s, .int .i64 t, .int .i64 0, .int .i64 0] 152)
  have hN1 := hN0.updB ((Upd.refl (fun _ => False) _).alloc (.cells #[.slice none 0 0, .slice (some ⟨w.heap.size, 0, none⟩) nodes nodes, .int .i64 s, .int .i64 t, .int .i64 0, .int .i64 0] 152)) (fun _ _ h => h)
  have hP1 := heap_alloc_new (w.alloc (.cells (Array.replicate nodes (Value.slice none 0 0)) 61)) (.cells #[.slice none 0 0, .slice (some ⟨w.heap.size, 0, none⟩) nodes nodes, .int .i64 s, .int .i64 t, .int .i64 0, .int .i64 0] 152)
  rw [z0] at hP1
  have HN : Hid (NetB w ((w.alloc (.cells (Array.replicate nodes (Value.slice none 0 0)) 61)).alloc (.cells #[.slice none 0 0, .slice (some ⟨w.heap.size, 0, none⟩) nodes nodes, .int .i64 s, .int .i64 t, .int .i64 0, .int .i64 0] 152)) nodes s t (nwOf l) (rowsO nodes l 0) (2 * 0) (List.replicate nodes (Value.slice none 0 0)) (.slice none 0 0)) :=
    Lib.hid ⟨hP1, hN1, rowsO_len nodes l 0, World.ownsRow_nil _ _ _ _, hB1⟩
  clear hN0 hB0 hB1 hN1 hP1
  go_wp2
  go_loopw [49, 11] (fun i sv wx => ∃ (j : Nat) (vs : List Value) (av : Value), j ≤ k ∧ i = .int .i64 j ∧ sv = .int .i64 (outTo l s j) ∧ Hid (okTo nodes l j) ∧ (0 ≤ outTo l s j ∧ outTo l s j ≤ 200 * j) ∧ Hid (NetB w wx nodes s t (nwOf l) (rowsO nodes l j) (2 * j) vs av)) (fun i _ _ => k - (intOf i).toNat)
  case atStart => exact ⟨0, _, _, Nat.zero_le _, rfl, rfl, Lib.hid (fun _ _ h => by omega), ⟨Int.le_refl _, by simp [outTo, sm]⟩, HN⟩
  case round =>
    clear HN
    obtain ⟨j, vs, av, hj, rfl, rfl, hok, hsum, hN⟩ := hrel
    by_cases hlt : j < k
    · obtain ⟨b, off, rfl, hbB, hsl, d0, d1, d2, d3⟩ := (HR.out.below hN.out.bel).arc hlt
      obtain ⟨⟨ea, eb, ec, ed⟩, he⟩ : ∃ e, l[j] = e := ⟨_, rfl⟩
      have hnw := nw_at hsl
      rw [he] at d0 d1 d2 d3 hnw
      simp only at d0 d1 d2 d3 hnw
      obtain ⟨bad, hbad⟩ : ∃ bad, BIs bad (¬ okA nodes (ea, eb, ec, ed)) := by
        by_cases h : okA nodes (ea, eb, ec, ed)
        · exact ⟨false, bis_f fun h' => h' h⟩
        · exact ⟨true, bis_t h⟩
      have HBAD := Lib.hid hbad
      have HNW := Lib.hid hnw
      have HE := Lib.hid he
      have HN2 := Lib.hid (hN.out.upd ((Upd.refl (fun _ => False) wr).alloc (.cells #[.int .i64 ea, .int .i64 eb, .int .i64 ec, .int .i64 ed] 132)))
      have hE := heap_alloc_new wr (.cells #[.int .i64 ea, .int .i64 eb, .int .i64 ec, .int .i64 ed] 132)
      have hzE : wr.heap.size < (wr.alloc (.cells #[.int .i64 ea, .int .i64 eb, .int .i64 ec, .int .i64 ed] 132)).heap.size := by simp
      clear hbad hnw he hN
      go_upto_region 8 with (fail)
      generalize wr.alloc (.cells #[.int .i64 ea, .int .i64 eb, .int .i64 ec, .int .i64 ed] 132) = wE at HN2 hE hzE ⊢
      have q0 : wE.cell? ⟨wr.heap.size, 0, none⟩ = some (.int .i64 ea) := by rw [cell_of_row _ _ 0 _ _ _ hE]; rfl
      have q1 : wE.cell? ⟨wr.heap.size, 1, none⟩ = some (.int .i64 eb) := by rw [cell_of_row _ _ 1 _ _ _ hE]; rfl
      have q2 : wE.cell? ⟨wr.heap.size, 2, none⟩ = some (.int .i64 ec) := by rw [cell_of_row _ _ 2 _ _ _ hE]; rfl
      have q3 : wE.cell? ⟨wr.heap.size, 3, none⟩ = some (.int .i64 ed) := by rw [cell_of_row _ _ 3 _ _ _ hE]; rfl
      have HEB := Lib.hid hE
      clear hE d0 d1 d2 d3
      go_cut [85] (fun v wc => v = .bool bad ∧ Hid (wE = wc))
      case first =>
        by_cases f1 : 0 ≤ ea ∧ ea ≤ (nodes : Int) - 1
        · by_cases f2 : 0 ≤ eb ∧ eb ≤ (nodes : Int) - 1
          · by_cases f3 : ea = eb
            · obtain rfl : bad = true := HBAD.out.2 (fun h => h.2.2.1 f3)
              subst f3
              have B1 := Lib.hid (btw wE ea 0 (nodes - 1) true (bis_t f1))
              go_wp2_with fail
              refine B1.out.mono ?_
              rintro e w5 ⟨rfl, rfl⟩
              go_wp2_with fail
              refine B1.out.mono ?_
              rintro e w5 ⟨rfl, rfl⟩
              go_wp2
              go_meet
              case rel => exact ⟨rfl, Lib.hid rfl⟩
            · have b3 : (ea == eb) = false := beq_eq_false_iff_ne.2 f3
              by_cases f4 : 0 ≤ ec ∧ ec ≤ 200
              · obtain ⟨r5, hr5⟩ : ∃ r5, BIs r5 (0 ≤ ed ∧ ed ≤ 1000) := ⟨decide (0 ≤ ed ∧ ed ≤ 1000), decide_eq_true_iff⟩
                obtain rfl : bad = !r5 := by
                  have h1 : (!r5) = true ↔ ¬ okA nodes (ea, eb, ec, ed) := by
                    rw [Bool.not_eq_true', ← Bool.not_eq_true, not_congr hr5]
                    exact ⟨fun h h' => h h'.2.2.2.2, fun h h' => h ⟨⟨f1.1, by show ea < nodes; omega⟩, ⟨f2.1, by show eb < nodes; omega⟩, f3, f4, h'⟩⟩
                  rw [Bool.eq_iff_iff]
                  exact HBAD.out.trans h1.symm
                have B1 := Lib.hid (btw wE ea 0 (nodes - 1) true (bis_t f1))
                have B2 := Lib.hid (btw wE eb 0 (nodes - 1) true (bis_t f2))
                have B4 := Lib.hid (btw wE ec 0 200 true (bis_t f4))
                have B5 := Lib.hid (btw wE ed 0 1000 r5 hr5)
                clear hr5 f1 f2 f4
                go_wp2_with fail
                refine B1.out.mono ?_
                rintro e w5 ⟨rfl, rfl⟩
                go_wp2_with fail
                refine B2.out.mono ?_
                rintro e w5 ⟨rfl, rfl⟩
                go_wp2_with fail
                refine B4.out.mono ?_
                rintro e w5 ⟨rfl, rfl⟩
                go_wp2_with fail
                refine B5.out.mono ?_
                rintro e w5 ⟨rfl, rfl⟩
                go_wp2
                go_meet
                case rel => exact ⟨rfl, Lib.hid rfl⟩
              · obtain rfl : bad = true := HBAD.out.2 (fun h => f4 h.2.2.2.1)
                have B1 := Lib.hid (btw wE ea 0 (nodes - 1) true (bis_t f1))
                have B2 := Lib.hid (btw wE eb 0 (nodes - 1) true (bis_t f2))
                have B4 := Lib.hid (btw wE ec 0 200 false (bis_f f4))
                clear f1 f2 f4
                go_wp2_with fail
                refine B1.out.mono ?_
                rintro e w5 ⟨rfl, rfl⟩
                go_wp2_with fail
                refine B2.out.mono ?_
                rintro e w5 ⟨rfl, rfl⟩
                go_wp2_with fail
                refine B4.out.mono ?_
                rintro e w5 ⟨rfl, rfl⟩
                go_wp2
                go_meet
                case rel => exact ⟨rfl, Lib.hid rfl⟩
          · obtain rfl : bad = true := HBAD.out.2 (fun h => f2 ⟨h.2.1.1, by have h' : eb < nodes := h.2.1.2; omega⟩)
            have B1 := Lib.hid (btw wE ea 0 (nodes - 1) true (bis_t f1))
            have B2 := Lib.hid (btw wE eb 0 (nodes - 1) false (bis_f f2))
            clear f1 f2
            go_wp2_with fail
            refine B1.out.mono ?_
            rintro e w5 ⟨rfl, rfl⟩
            go_wp2_with fail
            refine B2.out.mono ?_
            rintro e w5 ⟨rfl, rfl⟩
            go_wp2
            go_meet
            case rel => exact ⟨rfl, Lib.hid rfl⟩
        · obtain rfl : bad = true := HBAD.out.2 (fun h => f1 ⟨h.1.1, by have h' : ea < nodes := h.1.2; omega⟩)
          have B1 := Lib.hid (btw wE ea 0 (nodes - 1) false (bis_f f1))
          clear f1
          go_wp2_with fail
          refine B1.out.mono ?_
          rintro e w5 ⟨rfl, rfl⟩
          go_wp2
          go_meet
          case rel => exact ⟨rfl, Lib.hid rfl⟩
      case rest =>
        obtain ⟨rfl, hwc⟩ := hcut
        have hwc2 := hwc.out
        subst hwc2
        clear hwc
        cases bad with
        | true =>
          have hno : ¬ GoodN nodes s t l := fun h => HBAD.out.1 rfl (by have := h.2.2.2.2.2.1 l[j] (List.getElem_mem hsl); rwa [HE.out] at this)
          have HBL := Lib.hid HN2.out.bel
          clear HN2
          go_wp2
          go_ret2
          exact .inr ⟨hno, rfl, HBL.out⟩
        | false =>
          have hoka : okA nodes (ea, eb, ec, ed) := by
            by_cases e : okA nodes (ea, eb, ec, ed)
            · exact e
            · have := HBAD.out.2 e; cases this
          have HOK := Lib.hid hoka
          obtain ⟨⟨a1, a2⟩, ⟨b1, b2⟩, ab, ⟨g1, g2⟩, ⟨h1, h2⟩⟩ := hoka
          simp only at a1 a2 b1 b2 ab g1 g2 h1 h2
          obtain ⟨v1, rfl⟩ : ∃ v1 : Nat, ea = v1 := ⟨ea.toNat, by omega⟩
          obtain ⟨v2, rfl⟩ : ∃ v2 : Nat, eb = v2 := ⟨eb.toNat, by omega⟩
          obtain ⟨n1, n2, n3, n4⟩ := HNW.out
          rw [Int.toNat_natCast] at n1 n2
          have hsu := outTo_succ l s j
          rw [n1, n3] at hsu
          have HSU := Lib.hid hsu
          have hsb : 0 ≤ outTo l s (j + 1) ∧ outTo l s (j + 1) ≤ 200 * ((j + 1 : Nat) : Int) := by rw [hsu]; split <;> omega
          have N1 := Lib.hid n1
          have N2 := Lib.hid n2
          have N3 := Lib.hid n3
          have N4 := Lib.hid n4
          clear n1 n2 n3 n4 hsu
          obtain ⟨sv, hsv⟩ : ∃ sv, outTo l s j = sv := ⟨_, rfl⟩
          rw [hsv] at hsum ⊢
          have HSV := Lib.hid hsv
          have X3 : ∃ sx, Hid (outTo l s (j + 1) = sx) ∧ Hid (sx = if v1 = s then sv + ec else sv) := ⟨_, Lib.hid rfl, Lib.hid (by rw [HSU.out, HSV.out]; split <;> omega)⟩
          obtain ⟨sx, X3, X4⟩ := X3
          obtain ⟨bq, hbq⟩ : ∃ bq, ((v1 : Int) == (s : Int)) = bq := ⟨_, rfl⟩
          have HBQ := Lib.hid hbq
          clear hsv
          go_upto_region 10 with (fail)
          go_cut [89] (fun v wc => v = .bool bq ∧ Hid (wE = wc))
          case first =>
            go_wp2
            go_meet
            case rel => exact ⟨rfl, Lib.hid rfl⟩
          case rest =>
            obtain ⟨rfl, hwc⟩ := hcut
            have hwc2 := hwc.out
            subst hwc2
            clear hwc hbq
            go_step
            go_cut [11] (fun v wc => v = .int .i64 sx ∧ Hid (wE = wc))
            case first =>
              cases bq with
              | true =>
                have e : v1 = s := by have := beq_iff_eq.1 HBQ.out; omega
                have x2 : IntKind.i64.wrap (sv + ec) = sx := by rw [IntWalk.i64_in _ (by omega), X4.out, if_pos e]
                clear e
                go_wp2
                go_meet
                case rel => exact ⟨rfl, Lib.hid rfl⟩
              | false =>
                have e : ¬ v1 = s := fun h => by have := HBQ.out; rw [h] at this; simp at this
                have x4 := X4.out
                rw [if_neg e] at x4
                subst x4
                clear e
                go_wp2
                go_meet
                case rel => exact ⟨rfl, Lib.hid rfl⟩
            case rest =>
              obtain ⟨rfl, hwc⟩ := hcut
              have hwc2 := hwc.out
              subst hwc2
              clear hwc
              obtain ⟨Au, cu, hvu, hru, cN, fN, hou⟩ := HN2.out.row (v := v1) (by omega)
              have hplt := HN2.out.plt
              have hln := rowsO_len_le nodes l j v1
              obtain ⟨Aa, ca, rfl⟩ := own_shape HN2.out.own
              have cP0 := HN2.out.c0
              have cP1 := HN2.out.c1
              have HOU := Lib.hid hou
              have HVU := Lib.hid hvu
              have HRU := Lib.hid hru
              obtain ⟨L1, hL1⟩ : ∃ L1, (nearOf (rowsO nodes l j) v1).length = L1 := ⟨_, rfl⟩
              rw [hL1] at hln HOU HVU cN
              have HL1 := Lib.hid hL1
              clear hvu hru hou hL1
              have MK : Hid (∀ V, Upd (fun k => (Value.slice Au L1 cu).ownBlock = some k ∨ k = w.heap.size) wE V → V.cell? ⟨w.heap.size + 1, 1, none⟩ = some (.slice (some ⟨w.heap.size, 0, none⟩) nodes nodes) ∧ V.cell? ⟨w.heap.size + 1, 0, none⟩ = some (.slice Aa (2 * j) ca) ∧ V.cell? ⟨wr.heap.size, 0, none⟩ = some (.int .i64 (v1 : Int))) := Lib.hid fun V hV => by
                have hrb : ∀ k, (Value.slice Au L1 cu).ownBlock = some k ∨ k = w.heap.size → RowB w.heap.size vs k := fun k hk => hk.elim (fun hk => .inr ⟨v1, _, HVU.out, hk⟩) .inl
                exact ⟨(hV.cell (p := ⟨w.heap.size + 1, 1, none⟩) hplt (fun h => HN2.out.noP (hrb _ h))).trans cP1, (hV.cell (p := ⟨w.heap.size + 1, 0, none⟩) hplt (fun h => HN2.out.noP (hrb _ h))).trans cP0,
                  (hV.cell (p := ⟨wr.heap.size, 0, none⟩) hzE (fun h => HN2.out.nrs.other HEB.out (by decide) (by decide) (hrb _ h))).trans q0⟩
              have MN : Hid (∀ V, Upd (fun k => (Value.slice Au L1 cu).ownBlock = some k) wE V → V.cell? ⟨w.heap.size, v1, none⟩ = some (.slice Au L1 cu) ∧ V.frozen? ⟨w.heap.size, v1, none⟩ = false) := Lib.hid fun V hV => by
                have hNn : ¬ (Value.slice Au L1 cu).ownBlock = some w.heap.size := fun h => by have := (HOU.out.lt _ h).1; omega
                exact ⟨(hV.cell (p := ⟨w.heap.size, v1, none⟩) HN2.out.nrs.lt hNn).trans cN, (hV.frozen (p := ⟨w.heap.size, v1, none⟩) HN2.out.nrs.lt hNn).trans fN⟩
              have cNa : (wE.alloc (.cells #[.int .i64 (2 * (j : Int))] 3)).drew.cell? ⟨w.heap.size, v1, none⟩ = some (.slice Au L1 cu) := (MN.out _ (((Upd.refl _ _).alloc _).drewN 1)).1
              have cNb : (wE.alloc (.cells #[.int .i64 (2 * (j : Int))] 3)).cell? ⟨w.heap.size, v1, none⟩ = some (.slice Au L1 cu) := (MN.out _ ((Upd.refl _ _).alloc _)).1
              have ud : Upd (fun k => (Value.slice Au L1 cu).ownBlock = some k ∨ k = w.heap.size) wE wE.drew := (Upd.refl _ _).drewN 1
              have ua := ud.alloc (.cells #[.int .i64 ((2 * j : Nat) : Int)] 3)
              have oa : (wE.drew.alloc (.cells #[.int .i64 ((2 * j : Nat) : Int)] 3)).ownsRow (w.heap.size + 1) 3 1 (.slice Au L1 cu) L1 (natv (nearOf (rowsO nodes l j) v1)) := World.ownsRow.alloc (w := wE.drew) HOU.out _
              have ba : w.heap.size + 1 ≤ (wE.drew.alloc (.cells #[.int .i64 ((2 * j : Nat) : Int)] 3)).heap.size := by have := ua.size; omega
              have OA := Lib.hid oa
              clear oa
              go_upto_region 12 with (fail)
              go_cut [11] (fun v wc => v = .int .i64 sx ∧ Hid (∃ vs', NetB w wc nodes s t (nwOf l) (pushR (rowsO nodes l j) v1 (2 * j)) (2 * j) vs' (.slice Aa (2 * j) ca) ∧ wc.heap[wr.heap.size]? = some (.cells #[.int .i64 (v1 : Int), .int .i64 (v2 : Int), .int .i64 ec, .int .i64 ed] 132 (0, 0))))
              case first =>
                refine wp_region_held_drew (S := (fun V => V.cell? ⟨w.heap.size + 1, 1, none⟩ = some (.slice (some ⟨w.heap.size, 0, none⟩) nodes nodes) ∧ V.cell? ⟨w.heap.size + 1, 0, none⟩ = some (.slice Aa (2 * j) ca) ∧ V.cell? ⟨wr.heap.size, 0, none⟩ = some (.int .i64 (v1 : Int)))) (by kernel_rfl) (by exact MK.out _ (by first | exact ud | exact ua | exact ua3 | exact ua3.setCell _ (.inr rfl) _)) (fun hHeld => ?_)
                refine wpAnyH_take (i := 0) (v := ?_) rfl (by kernel_rfl) (by kernel_rfl) (by kernel_rfl) (fun _ _ _ h => h) (Or.inl ⟨by rfl, ?_⟩) (by assumption) ?_
                rotate_left
                · (intro w hSw; (try dsimp only at hSw); go_simp; try with_reducible rfl)
                try simp only [Act.put, List.setIfInBounds_toArray]
                refine wpAnyH_take (i := 1) (v := ?_) rfl (by kernel_rfl) (by kernel_rfl) (by kernel_rfl) (fun _ _ _ h => h) (Or.inl ⟨by rfl, ?_⟩) (by assumption) ?_
                rotate_left
                · (intro w hSw; (try dsimp only at hSw); go_simp; try with_reducible rfl)
                try simp only [Act.put]
                refine wpAnyH_take (i := 2) (v := ?_) rfl (by kernel_rfl) (by kernel_rfl) (by kernel_rfl) (fun _ _ _ h => h) (Or.inl ⟨by rfl, ?_⟩) (by assumption) ?_
                rotate_left
                · (intro w hSw; (try dsimp only at hSw); go_simp; try with_reducible rfl)
                try simp only [Act.put]
                refine wpAnyH_take (i := 3) (v := ?_) rfl (by kernel_rfl) (by kernel_rfl) (by kernel_rfl) (fun _ _ _ h => h) (Or.inl ⟨by rfl, ?_⟩) (by assumption) ?_
                rotate_left
                · (intro w hSw; (try dsimp only at hSw); go_simp; try with_reducible rfl)
                try simp only [Act.put]
                refine wpAnyH_take (i := 4) (v := ?_) rfl (by kernel_rfl) (by kernel_rfl) (by kernel_rfl) (fun _ _ _ h => h) (Or.inl ⟨by rfl, ?_⟩) (by assumption) ?_
                rotate_left
                · (intro w hSw; (try dsimp only at hSw); go_simp; try with_reducible rfl)
                try simp only [Act.put]
                refine wpAnyH_take (i := 5) (v := ?_) rfl (by kernel_rfl) (by kernel_rfl) (by kernel_rfl) (fun _ _ _ h => h) (Or.inl ⟨by rfl, ?_⟩) (by assumption) ?_
                rotate_left
                · (intro w hSw; (try dsimp only at hSw); go_simp; try with_reducible rfl)
                try simp only [Act.put]
                refine wpAnyH_take (i := 6) (v := ?_) rfl (by kernel_rfl) (by kernel_rfl) (by kernel_rfl) (fun _ _ _ h => h) (Or.inl ⟨by rfl, ?_⟩) (by assumption) ?_
                rotate_left
                · (intro w hSw; (try dsimp only at hSw); go_simp; try with_reducible rfl)
                try simp only [Act.put]
                refine wpAnyH_take (i := 7) (v := ?_) rfl (by kernel_rfl) (by kernel_rfl) (by kernel_rfl) (fun _ _ _ h => h) (Or.inl ⟨by rfl, ?_⟩) (by assumption) ?_
                rotate_left
                · (intro w hSw; (try dsimp only at hSw); go_simp; try with_reducible rfl)
                try simp only [Act.put]
                refine wpAnyH_take (i := 8) (v := ?_) rfl (by kernel_rfl) (by kernel_rfl) (by kernel_rfl) (fun _ _ _ h => h) (Or.inl ⟨by rfl, ?_⟩) (by assumption) ?_
                rotate_left
                · (intro w hSw; (try dsimp only at hSw); go_simp; try with_reducible rfl)
                try simp only [Act.put]
                refine wpAnyH_take (i := 9) (v := ?_) rfl (by kernel_rfl) (by kernel_rfl) (by kernel_rfl) (fun _ _ _ h => h) (Or.inl ⟨by rfl, ?_⟩) (by assumption) ?_
                rotate_left
                · (intro w hSw; (try dsimp only at hSw); go_simp; try with_reducible rfl)
                try simp only [Act.put]
                refine wpAnyH_take (i := 10) (v := ?_) rfl (by kernel_rfl) (by kernel_rfl) (by kernel_rfl) (fun _ _ _ h => h) (Or.inl ⟨by rfl, ?_⟩) (by assumption) ?_
                rotate_left
                · (intro w hSw; (try dsimp only at hSw); go_simp; try with_reducible rfl)
                try simp only [Act.put]
                refine wpAnyH_take (i := 11) (v := ?_) rfl (by kernel_rfl) (by kernel_rfl) (by kernel_rfl) (fun _ _ _ h => h) (Or.inl ⟨by rfl, ?_⟩) (by assumption) ?_
                rotate_left
                · (intro w hSw; (try dsimp only at hSw); go_simp; try with_reducible rfl)
                try simp only [Act.put]
                refine wpAnyH_take (i := 12) (v := ?_) rfl (by kernel_rfl) (by kernel_rfl) (by kernel_rfl) (fun _ _ _ h => h) (Or.inl ⟨by rfl, ?_⟩) (by assumption) ?_
                rotate_left
                · (intro w hSw; (try dsimp only at hSw); go_simp; try with_reducible rfl)
                try simp only [Act.put]
                refine wpAnyH_take (i := 14) (v := ?_) rfl (by kernel_rfl) (by kernel_rfl) (by kernel_rfl) (fun _ _ _ h => h) (Or.inl ⟨by rfl, ?_⟩) (by assumption) ?_
                rotate_left
                · (intro w hSw; (try dsimp only at hSw); go_simp; try with_reducible rfl)
                try simp only [Act.put]
                refine wpAnyH_take (i := 15) (v := ?_) rfl (by kernel_rfl) (by kernel_rfl) (by kernel_rfl) (fun _ _ _ h => h) (Or.inl ⟨by rfl, ?_⟩) (by assumption) ?_
                rotate_left
                · (intro w hSw; (try dsimp only at hSw); go_simp; try with_reducible rfl)
                try simp only [Act.put]
                refine wpAnyH_take (i := 16) (v := ?_) rfl (by kernel_rfl) (by kernel_rfl) (by kernel_rfl) (fun _ _ _ h => h) (Or.inl ⟨by rfl, ?_⟩) (by assumption) ?_
                rotate_left
                · (intro w hSw; (try dsimp only at hSw); go_simp; try with_reducible rfl)
                try simp only [Act.put]
                refine wpAnyH_take (i := 17) (v := ?_) rfl (by kernel_rfl) (by kernel_rfl) (by kernel_rfl) (fun _ _ _ h => h) (Or.inl ⟨by rfl, ?_⟩) (by assumption) ?_
                rotate_left
                · (intro w hSw; (try dsimp only at hSw); go_simp; try with_reducible rfl)
                try simp only [Act.put]
                refine wpAnyH_take (i := 18) (v := ?_) rfl (by kernel_rfl) (by kernel_rfl) (by kernel_rfl) (fun _ _ _ h => h) (Or.inl ⟨by rfl, ?_⟩) (by assumption) ?_
                rotate_left
                · (intro w hSw; (try dsimp only at hSw); go_simp; try with_reducible rfl)
                try simp only [Act.put]
                refine wpAnyH_ready (rs := [13, 19]) (by kernel_rfl) (by simp) ?_
                refine AllReadyH.cons rfl (fun K hK => ?_) (AllReadyH.cons rfl (fun K hK => ?_) AllReadyH.nil)
                · go_simp
                  refine hK.out _ _ (by exact MK.out _ (by first | exact ud | exact ua | exact ua3 | exact ua3.setCell _ (.inr rfl) _)) (fun hHeld => ?_)
                  clear hK K
                  try simp only [Act.put, List.setIfInBounds_toArray, List.set_cons_zero, List.set_cons_succ]
                  refine wpAnyH_ready (rs := [19]) (by kernel_rfl) (by simp) ?_
                  refine AllReadyH.cons rfl (fun K hK => ?_) AllReadyH.nil
                  go_simp
                  refine hK.out _ _ (by exact MK.out _ (by first | exact ud | exact ua | exact ua3 | exact ua3.setCell _ (.inr rfl) _)) (fun hHeld => ?_)
                  clear hK K
                  try simp only [Act.put, List.setIfInBounds_toArray, List.set_cons_zero, List.set_cons_succ]
                  refine wpAnyH_ready (rs := [20]) (by kernel_rfl) (by simp) ?_
                  refine AllReadyH.cons rfl (fun K hK => ?_) AllReadyH.nil
                  refine step_app (by rfl) (.tmp 107) (.tmp 113) 61 (by rfl) (w.heap.size + 1) 3 i1 _ 1 8 Tryd.underlying61 hi1 hy0 hy1 hy2 rfl (by omega) (.slice Au L1 cu) L1 (natv (nearOf (rowsO nodes l j) v1)) _ (some ⟨wE.heap.size, 0, none⟩) 1 1 [.int .i64 ((2 * j : Nat) : Int)] (by rfl) (by exact OA.out) (by rfl) (rd_block (heap_alloc_new wE.drew (.cells #[.int .i64 ((2 * j : Nat) : Int)] 3)) rfl) (by simp [Value.oneCell']) (by omega) (by unfold maxLen; omega) (by exact ba) ?_
                  intro u3 w3 ho3 hu3 hat3
                  obtain ⟨A3, c3, rfl⟩ := own_shape ho3
                  have ua3 : Upd (fun k => (Value.slice Au L1 cu).ownBlock = some k ∨ k = w.heap.size) wE w3 := ua.trans hu3 (fun _ _ h => .inl h)
                  obtain ⟨m3, f3⟩ := MN.out w3 (((Upd.refl _ _).drewN 1).alloc _ |>.trans hu3 (fun _ _ h => h))
                  refine hK.out _ _ (by exact MK.out _ (by first | exact ud | exact ua | exact ua3 | exact ua3.setCell _ (.inr rfl) _)) (fun hHeld => ?_)
                  clear hK K
                  try simp only [Act.put, List.setIfInBounds_toArray]
                  refine wpAnyH_ready (rs := [21]) (by kernel_rfl) (by simp) ?_
                  refine AllReadyH.cons rfl (fun K hK => ?_) AllReadyH.nil
                  go_simp
                  refine hK.out _ _ (by exact MK.out _ (by first | exact ud | exact ua | exact ua3 | exact ua3.setCell _ (.inr rfl) _)) (fun hHeld => ?_)
                  clear hK K
                  try simp only [Act.put, List.setIfInBounds_toArray, List.set_cons_zero, List.set_cons_succ]
                  refine wpAnyH_ready (rs := [22]) (by kernel_rfl) (by simp) ?_
                  refine AllReadyH.cons rfl (fun K hK => ?_) AllReadyH.nil
                  go_simp
                  refine hK.out _ _ (by exact MK.out _ (by first | exact ud | exact ua | exact ua3 | exact ua3.setCell _ (.inr rfl) _)) (fun hHeld => ?_)
                  clear hK K
                  try simp only [Act.put, List.setIfInBounds_toArray, List.set_cons_zero, List.set_cons_succ]
                  refine wpAnyH_done (by kernel_rfl) ?_ _
                  go_wp2
                  go_meet
                  case rel =>
                    have hpush := (HN2.out.upd (((Upd.refl (fun _ => False) wE).drewN 1).alloc (.cells #[.int .i64 ((2 * j : Nat) : Int)] 3))).pushRow (j := 2 * j) HVU.out HRU.out (by rw [HL1.out]; exact ho3) hu3 hat3
                    refine ⟨rfl, Lib.hid ⟨_, hpush, ?_⟩⟩
                    exact ((ua3.setCell ⟨w.heap.size, v1, none⟩ (.inr rfl) _).block wr.heap.size hzE (fun h => HN2.out.nrs.other HEB.out (by decide) (by decide) (h.elim (fun hk => .inr ⟨v1, _, HVU.out, hk⟩) .inl))).trans HEB.out
                · go_simp
                  refine hK.out _ _ (by exact MK.out _ (by first | exact ud | exact ua | exact ua3 | exact ua3.setCell _ (.inr rfl) _)) (fun hHeld => ?_)
                  clear hK K
                  try simp only [Act.put, List.setIfInBounds_toArray, List.set_cons_zero, List.set_cons_succ]
                  refine wpAnyH_ready (rs := [13]) (by kernel_rfl) (by simp) ?_
                  refine AllReadyH.cons rfl (fun K hK => ?_) AllReadyH.nil
                  go_simp
                  refine hK.out _ _ (by exact MK.out _ (by first | exact ud | exact ua | exact ua3 | exact ua3.setCell _ (.inr rfl) _)) (fun hHeld => ?_)
                  clear hK K
                  try simp only [Act.put, List.setIfInBounds_toArray, List.set_cons_zero, List.set_cons_succ]
                  refine wpAnyH_ready (rs := [20]) (by kernel_rfl) (by simp) ?_
                  refine AllReadyH.cons rfl (fun K hK => ?_) AllReadyH.nil
                  refine step_app (by rfl) (.tmp 107) (.tmp 113) 61 (by rfl) (w.heap.size + 1) 3 i1 _ 1 8 Tryd.underlying61 hi1 hy0 hy1 hy2 rfl (by omega) (.slice Au L1 cu) L1 (natv (nearOf (rowsO nodes l j) v1)) _ (some ⟨wE.heap.size, 0, none⟩) 1 1 [.int .i64 ((2 * j : Nat) : Int)] (by rfl) (by exact OA.out) (by rfl) (rd_block (heap_alloc_new wE.drew (.cells #[.int .i64 ((2 * j : Nat) : Int)] 3)) rfl) (by simp [Value.oneCell']) (by omega) (by unfold maxLen; omega) (by exact ba) ?_
                  intro u3 w3 ho3 hu3 hat3
                  obtain ⟨A3, c3, rfl⟩ := own_shape ho3
                  have ua3 : Upd (fun k => (Value.slice Au L1 cu).ownBlock = some k ∨ k = w.heap.size) wE w3 := ua.trans hu3 (fun _ _ h => .inl h)
                  obtain ⟨m3, f3⟩ := MN.out w3 (((Upd.refl _ _).drewN 1).alloc _ |>.trans hu3 (fun _ _ h => h))
                  refine hK.out _ _ (by exact MK.out _ (by first | exact ud | exact ua | exact ua3 | exact ua3.setCell _ (.inr rfl) _)) (fun hHeld => ?_)
                  clear hK K
                  try simp only [Act.put, List.setIfInBounds_toArray]
                  refine wpAnyH_ready (rs := [21]) (by kernel_rfl) (by simp) ?_
                  refine AllReadyH.cons rfl (fun K hK => ?_) AllReadyH.nil
                  go_simp
                  refine hK.out _ _ (by exact MK.out _ (by first | exact ud | exact ua | exact ua3 | exact ua3.setCell _ (.inr rfl) _)) (fun hHeld => ?_)
                  clear hK K
                  try simp only [Act.put, List.setIfInBounds_toArray, List.set_cons_zero, List.set_cons_succ]
                  refine wpAnyH_ready (rs := [22]) (by kernel_rfl) (by simp) ?_
                  refine AllReadyH.cons rfl (fun K hK => ?_) AllReadyH.nil
                  go_simp
                  refine hK.out _ _ (by exact MK.out _ (by first | exact ud | exact ua | exact ua3 | exact ua3.setCell _ (.inr rfl) _)) (fun hHeld => ?_)
                  clear hK K
                  try simp only [Act.put, List.setIfInBounds_toArray, List.set_cons_zero, List.set_cons_succ]
                  refine wpAnyH_done (by kernel_rfl) ?_ _
                  go_wp2
                  go_meet
                  case rel =>
                    have hpush := (HN2.out.upd (((Upd.refl (fun _ => False) wE).drewN 1).alloc (.cells #[.int .i64 ((2 * j : Nat) : Int)] 3))).pushRow (j := 2 * j) HVU.out HRU.out (by rw [HL1.out]; exact ho3) hu3 hat3
                    refine ⟨rfl, Lib.hid ⟨_, hpush, ?_⟩⟩
                    exact ((ua3.setCell ⟨w.heap.size, v1, none⟩ (.inr rfl) _).block wr.heap.size hzE (fun h => HN2.out.nrs.other HEB.out (by decide) (by decide) (h.elim (fun hk => .inr ⟨v1, _, HVU.out, hk⟩) .inl))).trans HEB.out
              case rest =>
                obtain ⟨rfl, hwc⟩ := hcut
                obtain ⟨vsx, hN3, hE3⟩ := hwc.out
                have hzE3 := (Array.getElem?_eq_some_iff.1 hE3).1
                have HEB3 := Lib.hid hE3
                have q1x : wc.cell? ⟨wr.heap.size, 1, none⟩ = some (.int .i64 (v2 : Int)) := by rw [cell_of_row _ _ 1 _ _ _ hE3]; rfl
                have x7 : IntKind.i64.wrap (2 * (j : Int) + 1) = 2 * (j : Int) + 1 := IntWalk.i64_in _ (by omega)
                have HLX : Hid (∀ v, (nearOf (pushR (rowsO nodes l j) v1 (2 * j)) v).length ≤ 2 * j + 1) := Lib.hid fun v => by have := nearOf_pushR_le (rowsO nodes l j) v1 (2 * j) v; have := rowsO_len_le nodes l j v; omega
                obtain ⟨rowsX, hrowsX⟩ : ∃ r, r = pushR (rowsO nodes l j) v1 (2 * j) := ⟨_, rfl⟩
                rw [← hrowsX] at hN3 HLX
                have HN3 := Lib.hid hN3
                have HRX := Lib.hid hrowsX
                clear hwc hN3 hE3 MK MN cNa cNb ud ua ba OA HVU HRU HOU HL1 hplt cP0 cP1 cN fN hln hrowsX q0 q1 q2 q3 HN2 hzE HEB
                clear Au cu L1
                generalize wc = wF at q1x hzE3 HEB3 HN3 ⊢
                obtain ⟨Au, cu, hvu, hru, cN, fN, hou⟩ := HN3.out.row (v := v2) (by omega)
                have hplt := HN3.out.plt
                have hln := HLX.out v2
                have cP0 := HN3.out.c0
                have cP1 := HN3.out.c1
                have HOU := Lib.hid hou
                have HVU := Lib.hid hvu
                have HRU := Lib.hid hru
                obtain ⟨L1, hL1⟩ : ∃ L1, (nearOf rowsX v2).length = L1 := ⟨_, rfl⟩
                rw [hL1] at hln HOU HVU cN
                have HL1 := Lib.hid hL1
                clear hvu hru hou hL1
                have MK : Hid (∀ V, Upd (fun k => (Value.slice Au L1 cu).ownBlock = some k ∨ k = w.heap.size) wF V → V.cell? ⟨w.heap.size + 1, 1, none⟩ = some (.slice (some ⟨w.heap.size, 0, none⟩) nodes nodes) ∧ V.cell? ⟨w.heap.size + 1, 0, none⟩ = some (.slice Aa (2 * j) ca) ∧ V.cell? ⟨wr.heap.size, 1, none⟩ = some (.int .i64 (v2 : Int))) := Lib.hid fun V hV => by
                  have hrb : ∀ k, (Value.slice Au L1 cu).ownBlock = some k ∨ k = w.heap.size → RowB w.heap.size vsx k := fun k hk => hk.elim (fun hk => .inr ⟨v2, _, HVU.out, hk⟩) .inl
                  exact ⟨(hV.cell (p := ⟨w.heap.size + 1, 1, none⟩) hplt (fun h => HN3.out.noP (hrb _ h))).trans cP1, (hV.cell (p := ⟨w.heap.size + 1, 0, none⟩) hplt (fun h => HN3.out.noP (hrb _ h))).trans cP0,
                    (hV.cell (p := ⟨wr.heap.size, 1, none⟩) hzE3 (fun h => HN3.out.nrs.other HEB3.out (by decide) (by decide) (hrb _ h))).trans q1x⟩
                have MN : Hid (∀ V, Upd (fun k => (Value.slice Au L1 cu).ownBlock = some k) wF V → V.cell? ⟨w.heap.size, v2, none⟩ = some (.slice Au L1 cu) ∧ V.frozen? ⟨w.heap.size, v2, none⟩ = false) := Lib.hid fun V hV => by
                  have hNn : ¬ (Value.slice Au L1 cu).ownBlock = some w.heap.size := fun h => by have := (HOU.out.lt _ h).1; omega
                  exact ⟨(hV.cell (p := ⟨w.heap.size, v2, none⟩) HN3.out.nrs.lt hNn).trans cN, (hV.frozen (p := ⟨w.heap.size, v2, none⟩) HN3.out.nrs.lt hNn).trans fN⟩
                have cNa : (wF.alloc (.cells #[.int .i64 (2 * (j : Int) + 1)] 3)).drew.cell? ⟨w.heap.size, v2, none⟩ = some (.slice Au L1 cu) := (MN.out _ (((Upd.refl _ _).alloc _).drewN 1)).1
                have cNb : (wF.alloc (.cells #[.int .i64 (2 * (j : Int) + 1)] 3)).cell? ⟨w.heap.size, v2, none⟩ = some (.slice Au L1 cu) := (MN.out _ ((Upd.refl _ _).alloc _)).1
                have ud : Upd (fun k => (Value.slice Au L1 cu).ownBlock = some k ∨ k = w.heap.size) wF wF.drew := (Upd.refl _ _).drewN 1
                have ua := ud.alloc (.cells #[.int .i64 ((2 * j + 1 : Nat) : Int)] 3)
                have oa : (wF.drew.alloc (.cells #[.int .i64 ((2 * j + 1 : Nat) : Int)] 3)).ownsRow (w.heap.size + 1) 3 1 (.slice Au L1 cu) L1 (natv (nearOf rowsX v2)) := World.ownsRow.alloc (w := wF.drew) HOU.out _
                have ba : w.heap.size + 1 ≤ (wF.drew.alloc (.cells #[.int .i64 ((2 * j + 1 : Nat) : Int)] 3)).heap.size := by have := ua.size; omega
                have OA := Lib.hid oa
                clear oa
                go_upto_region 13 with (fail)
                go_cut [11] (fun v wc => v = .int .i64 sx ∧ Hid (∃ vs', NetB w wc nodes s t (nwOf l) (pushR rowsX v2 (2 * j + 1)) (2 * j) vs' (.slice Aa (2 * j) ca) ∧ wc.heap[wr.heap.size]? = some (.cells #[.int .i64 (v1 : Int), .int .i64 (v2 : Int), .int .i64 ec, .int .i64 ed] 132 (0, 0))))
                case first =>
                  refine wp_region_held_drew (S := (fun V => V.cell? ⟨w.heap.size + 1, 1, none⟩ = some (.slice (some ⟨w.heap.size, 0, none⟩) nodes nodes) ∧ V.cell? ⟨w.heap.size + 1, 0, none⟩ = some (.slice Aa (2 * j) ca) ∧ V.cell? ⟨wr.heap.size, 1, none⟩ = some (.int .i64 (v2 : Int)))) (by kernel_rfl) (by exact MK.out _ (by first | exact ud | exact ua | exact ua3 | exact ua3.setCell _ (.inr rfl) _)) (fun hHeld => ?_)
                  refine wpAnyH_take (i := 0) (v := ?_) rfl (by kernel_rfl) (by kernel_rfl) (by kernel_rfl) (fun _ _ _ h => h) (Or.inl ⟨by rfl, ?_⟩) (by assumption) ?_
                  rotate_left
                  · (intro w hSw; (try dsimp only at hSw); go_simp; try with_reducible rfl)
                  try simp only [Act.put, List.setIfInBounds_toArray]
                  refine wpAnyH_take (i := 1) (v := ?_) rfl (by kernel_rfl) (by kernel_rfl) (by kernel_rfl) (fun _ _ _ h => h) (Or.inl ⟨by rfl, ?_⟩) (by assumption) ?_
                  rotate_left
                  · (intro w hSw; (try dsimp only at hSw); go_simp; try with_reducible rfl)
                  try simp only [Act.put]
                  refine wpAnyH_take (i := 2) (v := ?_) rfl (by kernel_rfl) (by kernel_rfl) (by kernel_rfl) (fun _ _ _ h => h) (Or.inl ⟨by rfl, ?_⟩) (by assumption) ?_
                  rotate_left
                  · (intro w hSw; (try dsimp only at hSw); go_simp; try with_reducible rfl)
                  try simp only [Act.put]
                  refine wpAnyH_take (i := 3) (v := ?_) rfl (by kernel_rfl) (by kernel_rfl) (by kernel_rfl) (fun _ _ _ h => h) (Or.inl ⟨by rfl, ?_⟩) (by assumption) ?_
                  rotate_left
                  · (intro w hSw; (try dsimp only at hSw); go_simp; try with_reducible rfl)
                  try simp only [Act.put]
                  refine wpAnyH_take (i := 4) (v := ?_) rfl (by kernel_rfl) (by kernel_rfl) (by kernel_rfl) (fun _ _ _ h => h) (Or.inl ⟨by rfl, ?_⟩) (by assumption) ?_
                  rotate_left
                  · (intro w hSw; (try dsimp only at hSw); go_simp; try with_reducible rfl)
                  try simp only [Act.put]
                  refine wpAnyH_take (i := 5) (v := ?_) rfl (by kernel_rfl) (by kernel_rfl) (by kernel_rfl) (fun _ _ _ h => h) (Or.inl ⟨by rfl, ?_⟩) (by assumption) ?_
                  rotate_left
                  · (intro w hSw; (try dsimp only at hSw); go_simp; try with_reducible rfl)
                  try simp only [Act.put]
                  refine wpAnyH_take (i := 6) (v := ?_) rfl (by kernel_rfl) (by kernel_rfl) (by kernel_rfl) (fun _ _ _ h => h) (Or.inl ⟨by rfl, ?_⟩) (by assumption) ?_
                  rotate_left
                  · (intro w hSw; (try dsimp only at hSw); go_simp; try with_reducible rfl)
                  try simp only [Act.put]
                  refine wpAnyH_take (i := 7) (v := ?_) rfl (by kernel_rfl) (by kernel_rfl) (by kernel_rfl) (fun _ _ _ h => h) (Or.inl ⟨by rfl, ?_⟩) (by assumption) ?_
                  rotate_left
                  · (intro w hSw; (try dsimp only at hSw); go_simp; try with_reducible rfl)
                  try simp only [Act.put]
                  refine wpAnyH_take (i := 8) (v := ?_) rfl (by kernel_rfl) (by kernel_rfl) (by kernel_rfl) (fun _ _ _ h => h) (Or.inl ⟨by rfl, ?_⟩) (by assumption) ?_
                  rotate_left
                  · (intro w hSw; (try dsimp only at hSw); go_simp; try with_reducible rfl)
                  try simp only [Act.put]
                  refine wpAnyH_take (i := 9) (v := ?_) rfl (by kernel_rfl) (by kernel_rfl) (by kernel_rfl) (fun _ _ _ h => h) (Or.inl ⟨by rfl, ?_⟩) (by assumption) ?_
                  rotate_left
                  · (intro w hSw; (try dsimp only at hSw); go_simp; try with_reducible rfl)
                  try simp only [Act.put]
                  refine wpAnyH_take (i := 10) (v := ?_) rfl (by kernel_rfl) (by kernel_rfl) (by kernel_rfl) (fun _ _ _ h => h) (Or.inl ⟨by rfl, ?_⟩) (by assumption) ?_
                  rotate_left
                  · (intro w hSw; (try dsimp only at hSw); go_simp; try with_reducible rfl)
                  try simp only [Act.put]
                  refine wpAnyH_take (i := 11) (v := ?_) rfl (by kernel_rfl) (by kernel_rfl) (by kernel_rfl) (fun _ _ _ h => h) (Or.inl ⟨by rfl, ?_⟩) (by assumption) ?_
                  rotate_left
                  · (intro w hSw; (try dsimp only at hSw); go_simp; try with_reducible rfl)
                  try simp only [Act.put]
                  refine wpAnyH_take (i := 12) (v := ?_) rfl (by kernel_rfl) (by kernel_rfl) (by kernel_rfl) (fun _ _ _ h => h) (Or.inl ⟨by rfl, ?_⟩) (by assumption) ?_
                  rotate_left
                  · (intro w hSw; (try dsimp only at hSw); go_simp; try with_reducible rfl)
                  try simp only [Act.put]
                  refine wpAnyH_take (i := 14) (v := ?_) rfl (by kernel_rfl) (by kernel_rfl) (by kernel_rfl) (fun _ _ _ h => h) (Or.inl ⟨by rfl, ?_⟩) (by assumption) ?_
                  rotate_left
                  · (intro w hSw; (try dsimp only at hSw); go_simp; try with_reducible rfl)
                  try simp only [Act.put]
                  refine wpAnyH_take (i := 15) (v := ?_) rfl (by kernel_rfl) (by kernel_rfl) (by kernel_rfl) (fun _ _ _ h => h) (Or.inl ⟨by rfl, ?_⟩) (by assumption) ?_
                  rotate_left
                  · (intro w hSw; (try dsimp only at hSw); go_simp; try with_reducible rfl)
                  try simp only [Act.put]
                  refine wpAnyH_take (i := 16) (v := ?_) rfl (by kernel_rfl) (by kernel_rfl) (by kernel_rfl) (fun _ _ _ h => h) (Or.inl ⟨by rfl, ?_⟩) (by assumption) ?_
                  rotate_left
                  · (intro w hSw; (try dsimp only at hSw); go_simp; try with_reducible rfl)
                  try simp only [Act.put]
                  refine wpAnyH_take (i := 17) (v := ?_) rfl (by kernel_rfl) (by kernel_rfl) (by kernel_rfl) (fun _ _ _ h => h) (Or.inl ⟨by rfl, ?_⟩) (by assumption) ?_
                  rotate_left
                  · (intro w hSw; (try dsimp only at hSw); go_simp; try with_reducible rfl)
                  try simp only [Act.put]
                  refine wpAnyH_take (i := 18) (v := ?_) rfl (by kernel_rfl) (by kernel_rfl) (by kernel_rfl) (fun _ _ _ h => h) (Or.inl ⟨by rfl, ?_⟩) (by assumption) ?_
                  rotate_left
                  · (intro w hSw; (try dsimp only at hSw); go_simp; try with_reducible rfl)
                  try simp only [Act.put]
                  refine wpAnyH_take (i := 19) (v := ?_) rfl (by kernel_rfl) (by kernel_rfl) (by kernel_rfl) (fun _ _ _ h => h) (Or.inl ⟨by rfl, ?_⟩) (by assumption) ?_
                  rotate_left
                  · (intro w hSw; (try dsimp only at hSw); go_simp; try with_reducible rfl)
                  try simp only [Act.put]
                  refine wpAnyH_ready (rs := [13, 20]) (by kernel_rfl) (by simp) ?_
                  refine AllReadyH.cons rfl (fun K hK => ?_) (AllReadyH.cons rfl (fun K hK => ?_) AllReadyH.nil)
                  · go_simp
                    refine hK.out _ _ (by exact MK.out _ (by first | exact ud | exact ua | exact ua3 | exact ua3.setCell _ (.inr rfl) _)) (fun hHeld => ?_)
                    clear hK K
                    try simp only [Act.put, List.setIfInBounds_toArray, List.set_cons_zero, List.set_cons_succ]
                    refine wpAnyH_ready (rs := [20]) (by kernel_rfl) (by simp) ?_
                    refine AllReadyH.cons rfl (fun K hK => ?_) AllReadyH.nil
                    go_simp
                    refine hK.out _ _ (by exact MK.out _ (by first | exact ud | exact ua | exact ua3 | exact ua3.setCell _ (.inr rfl) _)) (fun hHeld => ?_)
                    clear hK K
                    try simp only [Act.put, List.setIfInBounds_toArray, List.set_cons_zero, List.set_cons_succ]
                    refine wpAnyH_ready (rs := [21]) (by kernel_rfl) (by simp) ?_
                    refine AllReadyH.cons rfl (fun K hK => ?_) AllReadyH.nil
                    refine step_app (by rfl) (.tmp 129) (.tmp 136) 61 (by rfl) (w.heap.size + 1) 3 i1 _ 1 8 Tryd.underlying61 hi1 hy0 hy1 hy2 rfl (by omega) (.slice Au L1 cu) L1 (natv (nearOf rowsX v2)) _ (some ⟨wF.heap.size, 0, none⟩) 1 1 [.int .i64 ((2 * j + 1 : Nat) : Int)] (by rfl) (by exact OA.out) (by rfl) (rd_block (heap_alloc_new wF.drew (.cells #[.int .i64 ((2 * j + 1 : Nat) : Int)] 3)) rfl) (by simp [Value.oneCell']) (by omega) (by unfold maxLen; omega) (by exact ba) ?_
                    intro u3 w3 ho3 hu3 hat3
                    obtain ⟨A3, c3, rfl⟩ := own_shape ho3
                    have ua3 : Upd (fun k => (Value.slice Au L1 cu).ownBlock = some k ∨ k = w.heap.size) wF w3 := ua.trans hu3 (fun _ _ h => .inl h)
                    obtain ⟨m3, f3⟩ := MN.out w3 (((Upd.refl _ _).drewN 1).alloc _ |>.trans hu3 (fun _ _ h => h))
                    refine hK.out _ _ (by exact MK.out _ (by first | exact ud | exact ua | exact ua3 | exact ua3.setCell _ (.inr rfl) _)) (fun hHeld => ?_)
                    clear hK K
                    try simp only [Act.put, List.setIfInBounds_toArray]
                    refine wpAnyH_ready (rs := [22]) (by kernel_rfl) (by simp) ?_
                    refine AllReadyH.cons rfl (fun K hK => ?_) AllReadyH.nil
                    go_simp
                    refine hK.out _ _ (by exact MK.out _ (by first | exact ud | exact ua | exact ua3 | exact ua3.setCell _ (.inr rfl) _)) (fun hHeld => ?_)
                    clear hK K
                    try simp only [Act.put, List.setIfInBounds_toArray, List.set_cons_zero, List.set_cons_succ]
                    refine wpAnyH_ready (rs := [23]) (by kernel_rfl) (by simp) ?_
                    refine AllReadyH.cons rfl (fun K hK => ?_) AllReadyH.nil
                    go_simp
                    refine hK.out _ _ (by exact MK.out _ (by first | exact ud | exact ua | exact ua3 | exact ua3.setCell _ (.inr rfl) _)) (fun hHeld => ?_)
                    clear hK K
                    try simp only [Act.put, List.setIfInBounds_toArray, List.set_cons_zero, List.set_cons_succ]
                    refine wpAnyH_done (by kernel_rfl) ?_ _
                    go_wp2
                    go_meet
                    case rel =>
                      have hpush := (HN3.out.upd (((Upd.refl (fun _ => False) wF).drewN 1).alloc (.cells #[.int .i64 ((2 * j + 1 : Nat) : Int)] 3))).pushRow (j := 2 * j + 1) HVU.out HRU.out (by rw [HL1.out]; exact ho3) hu3 hat3
                      refine ⟨rfl, Lib.hid ⟨_, hpush, ?_⟩⟩
                      exact ((ua3.setCell ⟨w.heap.size, v2, none⟩ (.inr rfl) _).block wr.heap.size hzE3 (fun h => HN3.out.nrs.other HEB3.out (by decide) (by decide) (h.elim (fun hk => .inr ⟨v2, _, HVU.out, hk⟩) .inl))).trans HEB3.out
                  · go_simp
                    refine hK.out _ _ (by exact MK.out _ (by first | exact ud | exact ua | exact ua3 | exact ua3.setCell _ (.inr rfl) _)) (fun hHeld => ?_)
                    clear hK K
                    try simp only [Act.put, List.setIfInBounds_toArray, List.set_cons_zero, List.set_cons_succ]
                    refine wpAnyH_ready (rs := [13]) (by kernel_rfl) (by simp) ?_
                    refine AllReadyH.cons rfl (fun K hK => ?_) AllReadyH.nil
                    go_simp
                    refine hK.out _ _ (by exact MK.out _ (by first | exact ud | exact ua | exact ua3 | exact ua3.setCell _ (.inr rfl) _)) (fun hHeld => ?_)
                    clear hK K
                    try simp only [Act.put, List.setIfInBounds_toArray, List.set_cons_zero, List.set_cons_succ]
                    refine wpAnyH_ready (rs := [21]) (by kernel_rfl) (by simp) ?_
                    refine AllReadyH.cons rfl (fun K hK => ?_) AllReadyH.nil
                    refine step_app (by rfl) (.tmp 129) (.tmp 136) 61 (by rfl) (w.heap.size + 1) 3 i1 _ 1 8 Tryd.underlying61 hi1 hy0 hy1 hy2 rfl (by omega) (.slice Au L1 cu) L1 (natv (nearOf rowsX v2)) _ (some ⟨wF.heap.size, 0, none⟩) 1 1 [.int .i64 ((2 * j + 1 : Nat) : Int)] (by rfl) (by exact OA.out) (by rfl) (rd_block (heap_alloc_new wF.drew (.cells #[.int .i64 ((2 * j + 1 : Nat) : Int)] 3)) rfl) (by simp [Value.oneCell']) (by omega) (by unfold maxLen; omega) (by exact ba) ?_
                    intro u3 w3 ho3 hu3 hat3
                    obtain ⟨A3, c3, rfl⟩ := own_shape ho3
                    have ua3 : Upd (fun k => (Value.slice Au L1 cu).ownBlock = some k ∨ k = w.heap.size) wF w3 := ua.trans hu3 (fun _ _ h => .inl h)
                    obtain ⟨m3, f3⟩ := MN.out w3 (((Upd.refl _ _).drewN 1).alloc _ |>.trans hu3 (fun _ _ h => h))
                    refine hK.out _ _ (by exact MK.out _ (by first | exact ud | exact ua | exact ua3 | exact ua3.setCell _ (.inr rfl) _)) (fun hHeld => ?_)
                    clear hK K
                    try simp only [Act.put, List.setIfInBounds_toArray]
                    refine wpAnyH_ready (rs := [22]) (by kernel_rfl) (by simp) ?_
                    refine AllReadyH.cons rfl (fun K hK => ?_) AllReadyH.nil
                    go_simp
                    refine hK.out _ _ (by exact MK.out _ (by first | exact ud | exact ua | exact ua3 | exact ua3.setCell _ (.inr rfl) _)) (fun hHeld => ?_)
                    clear hK K
                    try simp only [Act.put, List.setIfInBounds_toArray, List.set_cons_zero, List.set_cons_succ]
                    refine wpAnyH_ready (rs := [23]) (by kernel_rfl) (by simp) ?_
                    refine AllReadyH.cons rfl (fun K hK => ?_) AllReadyH.nil
                    go_simp
                    refine hK.out _ _ (by exact MK.out _ (by first | exact ud | exact ua | exact ua3 | exact ua3.setCell _ (.inr rfl) _)) (fun hHeld => ?_)
                    clear hK K
                    try simp only [Act.put, List.setIfInBounds_toArray, List.set_cons_zero, List.set_cons_succ]
                    refine wpAnyH_done (by kernel_rfl) ?_ _
                    go_wp2
                    go_meet
                    case rel =>
                      have hpush := (HN3.out.upd (((Upd.refl (fun _ => False) wF).drewN 1).alloc (.cells #[.int .i64 ((2 * j + 1 : Nat) : Int)] 3))).pushRow (j := 2 * j + 1) HVU.out HRU.out (by rw [HL1.out]; exact ho3) hu3 hat3
                      refine ⟨rfl, Lib.hid ⟨_, hpush, ?_⟩⟩
                      exact ((ua3.setCell ⟨w.heap.size, v2, none⟩ (.inr rfl) _).block wr.heap.size hzE3 (fun h => HN3.out.nrs.other HEB3.out (by decide) (by decide) (h.elim (fun hk => .inr ⟨v2, _, HVU.out, hk⟩) .inl))).trans HEB3.out
                case rest =>
                  obtain ⟨rfl, hwc⟩ := hcut
                  obtain ⟨vsy, hN4, hE4⟩ := hwc.out
                  have hzE4 := (Array.getElem?_eq_some_iff.1 hE4).1
                  have p0 : wc.cell? ⟨wr.heap.size, 0, none⟩ = some (.int .i64 (v1 : Int)) := by rw [cell_of_row _ _ 0 _ _ _ hE4]; rfl
                  have p1 : wc.cell? ⟨wr.heap.size, 1, none⟩ = some (.int .i64 (v2 : Int)) := by rw [cell_of_row _ _ 1 _ _ _ hE4]; rfl
                  have p2 : wc.cell? ⟨wr.heap.size, 2, none⟩ = some (.int .i64 ec) := by rw [cell_of_row _ _ 2 _ _ _ hE4]; rfl
                  have p3 : wc.cell? ⟨wr.heap.size, 3, none⟩ = some (.int .i64 ed) := by rw [cell_of_row _ _ 3 _ _ _ hE4]; rfl
                  have x8 : IntKind.i64.wrap (-ed) = -ed := IntWalk.i64_in _ (by omega)
                  have HN4 := Lib.hid hN4
                  have HEB4 := Lib.hid hE4
                  have hplt := hN4.plt
                  have cP0 := hN4.c0
                  have fP0 : wc.frozen? ⟨w.heap.size + 1, 0, none⟩ = false := frozen_of_row _ _ 0 _ _ hN4.blk
                  have HOA := Lib.hid hN4.own
                  clear hwc hN4 hE4 MK MN cNa cNb ud ua ba OA HVU HRU HOU HL1 cP1 cN fN hln q1x HN3 hzE3 HEB3 x7 HLX
                  clear Au cu L1
                  generalize wc = wG at p0 p1 p2 p3 hzE4 HEB4 HN4 hplt cP0 fP0 HOA ⊢
                  have MK : Hid (∀ V, Upd (fun k => (Value.slice Aa (2 * j) ca).ownBlock = some k ∨ k = w.heap.size + 1) wG V → V.cell? ⟨wr.heap.size, 0, none⟩ = some (.int .i64 (v1 : Int)) ∧ V.cell? ⟨wr.heap.size, 1, none⟩ = some (.int .i64 (v2 : Int)) ∧ V.cell? ⟨wr.heap.size, 2, none⟩ = some (.int .i64 ec) ∧ V.cell? ⟨wr.heap.size, 3, none⟩ = some (.int .i64 ed)) := Lib.hid fun V hV => by
                    have hno : ¬ ((Value.slice Aa (2 * j) ca).ownBlock = some wr.heap.size ∨ wr.heap.size = w.heap.size + 1) := by
                      rintro (h | h)
                      · obtain ⟨cur, hc⟩ := own_elem HN4.out.own h
                        have h2 := HEB4.out
                        rw [hc] at h2
                        injection h2 with h2
                        injection h2 with _ h2
                        exact absurd h2 (by decide)
                      · have h2 := HEB4.out
                        rw [h, HN4.out.blk] at h2
                        injection h2 with h2
                        injection h2 with _ h2
                        exact absurd h2 (by decide)
                    exact ⟨(hV.cell (p := ⟨wr.heap.size, 0, none⟩) hzE4 hno).trans p0, (hV.cell (p := ⟨wr.heap.size, 1, none⟩) hzE4 hno).trans p1, (hV.cell (p := ⟨wr.heap.size, 2, none⟩) hzE4 hno).trans p2, (hV.cell (p := ⟨wr.heap.size, 3, none⟩) hzE4 hno).trans p3⟩
                  have MN : Hid (∀ V, Upd (fun k => (Value.slice Aa (2 * j) ca).ownBlock = some k) wG V → V.cell? ⟨w.heap.size + 1, 0, none⟩ = some (.slice Aa (2 * j) ca) ∧ V.frozen? ⟨w.heap.size + 1, 0, none⟩ = false) := Lib.hid fun V hV => by
                    have hNn : ¬ (Value.slice Aa (2 * j) ca).ownBlock = some (w.heap.size + 1) := fun h => by have := (HN4.out.noA h).2.1; omega
                    exact ⟨(hV.cell (p := ⟨w.heap.size + 1, 0, none⟩) hplt hNn).trans cP0, (hV.frozen (p := ⟨w.heap.size + 1, 0, none⟩) hplt hNn).trans fP0⟩
                  have cNa : (wG.alloc (.cells #[.int .i64 (v2 : Int), .int .i64 ec, .int .i64 ed, .int .i64 (v1 : Int), .int .i64 0, .int .i64 (-ed)] 171)).drew.cell? ⟨w.heap.size + 1, 0, none⟩ = some (.slice Aa (2 * j) ca) := (MN.out _ (((Upd.refl _ _).alloc _).drewN 1)).1
                  have cNb : (wG.alloc (.cells #[.int .i64 (v2 : Int), .int .i64 ec, .int .i64 ed, .int .i64 (v1 : Int), .int .i64 0, .int .i64 (-ed)] 171)).cell? ⟨w.heap.size + 1, 0, none⟩ = some (.slice Aa (2 * j) ca) := (MN.out _ ((Upd.refl _ _).alloc _)).1
                  have ud : Upd (fun k => (Value.slice Aa (2 * j) ca).ownBlock = some k ∨ k = w.heap.size + 1) wG wG.drew := (Upd.refl _ _).drewN 1
                  have ua := ud.alloc (.cells #[.int .i64 (v2 : Int), .int .i64 ec, .int .i64 ed, .int .i64 (v1 : Int), .int .i64 0, .int .i64 (-ed)] 171)
                  have oa : (wG.drew.alloc (.cells #[.int .i64 (v2 : Int), .int .i64 ec, .int .i64 ed, .int .i64 (v1 : Int), .int .i64 0, .int .i64 (-ed)] 171)).ownsRow (w.heap.size + 2) 171 3 (.slice Aa (2 * j) ca) (2 * j) (arcv (nwOf l) (room0 (nwOf l)) (2 * j)) := World.ownsRow.alloc (w := wG.drew) HOA.out _
                  have ba : w.heap.size + 2 ≤ (wG.drew.alloc (.cells #[.int .i64 (v2 : Int), .int .i64 ec, .int .i64 ed, .int .i64 (v1 : Int), .int .i64 0, .int .i64 (-ed)] 171)).heap.size := by have := ua.size; omega
                  have h6 : ∀ u ∈ [Value.int .i64 (v2 : Int), .int .i64 ec, .int .i64 ed, .int .i64 (v1 : Int), .int .i64 0, .int .i64 (-ed)], u.oneCell' = true := by simp [Value.oneCell']
                  have H6 := Lib.hid h6
                  have OA := Lib.hid oa
                  clear oa h6
                  go_upto_region 14 with (fail)
                  refine wp_region_held_drew (S := (fun V => V.cell? ⟨wr.heap.size, 0, none⟩ = some (.int .i64 (v1 : Int)) ∧ V.cell? ⟨wr.heap.size, 1, none⟩ = some (.int .i64 (v2 : Int)) ∧ V.cell? ⟨wr.heap.size, 2, none⟩ = some (.int .i64 ec) ∧ V.cell? ⟨wr.heap.size, 3, none⟩ = some (.int .i64 ed))) (by kernel_rfl) (by exact MK.out _ (by first | exact ud | exact ua | exact ua3 | exact ua3.setCell _ (.inr rfl) _)) (fun hHeld => ?_)
                  refine wpAnyH_take (i := 0) (v := ?_) rfl (by kernel_rfl) (by kernel_rfl) (by kernel_rfl) (fun _ _ _ h => h) (Or.inl ⟨by rfl, ?_⟩) (by assumption) ?_
                  rotate_left
                  · (intro w hSw; (try dsimp only at hSw); go_simp; try with_reducible rfl)
                  try simp only [Act.put, List.setIfInBounds_toArray]
                  refine wpAnyH_take (i := 1) (v := ?_) rfl (by kernel_rfl) (by kernel_rfl) (by kernel_rfl) (fun _ _ _ h => h) (Or.inl ⟨by rfl, ?_⟩) (by assumption) ?_
                  rotate_left
                  · (intro w hSw; (try dsimp only at hSw); go_simp; try with_reducible rfl)
                  try simp only [Act.put]
                  refine wpAnyH_take (i := 2) (v := ?_) rfl (by kernel_rfl) (by kernel_rfl) (by kernel_rfl) (fun _ _ _ h => h) (Or.inl ⟨by rfl, ?_⟩) (by assumption) ?_
                  rotate_left
                  · (intro w hSw; (try dsimp only at hSw); go_simp; try with_reducible rfl)
                  try simp only [Act.put]
                  refine wpAnyH_take (i := 3) (v := ?_) rfl (by kernel_rfl) (by kernel_rfl) (by kernel_rfl) (fun _ _ _ h => h) (Or.inl ⟨by rfl, ?_⟩) (by assumption) ?_
                  rotate_left
                  · (intro w hSw; (try dsimp only at hSw); go_simp; try with_reducible rfl)
                  try simp only [Act.put]
                  refine wpAnyH_take (i := 5) (v := ?_) rfl (by kernel_rfl) (by kernel_rfl) (by kernel_rfl) (fun _ _ _ h => h) (Or.inl ⟨by rfl, ?_⟩) (by assumption) ?_
                  rotate_left
                  · (intro w hSw; (try dsimp only at hSw); go_simp; try with_reducible rfl)
                  try simp only [Act.put]
                  refine wpAnyH_take (i := 6) (v := ?_) rfl (by kernel_rfl) (by kernel_rfl) (by kernel_rfl) (fun _ _ _ h => h) (Or.inl ⟨by rfl, ?_⟩) (by assumption) ?_
                  rotate_left
                  · (intro w hSw; (try dsimp only at hSw); go_simp; try with_reducible rfl)
                  try simp only [Act.put]
                  refine wpAnyH_take (i := 7) (v := ?_) rfl (by kernel_rfl) (by kernel_rfl) (by kernel_rfl) (fun _ _ _ h => h) (Or.inl ⟨by rfl, ?_⟩) (by assumption) ?_
                  rotate_left
                  · (intro w hSw; (try dsimp only at hSw); go_simp; try with_reducible rfl)
                  try simp only [Act.put]
                  refine wpAnyH_take (i := 8) (v := ?_) rfl (by kernel_rfl) (by kernel_rfl) (by kernel_rfl) (fun _ _ _ h => h) (Or.inl ⟨by rfl, ?_⟩) (by assumption) ?_
                  rotate_left
                  · (intro w hSw; (try dsimp only at hSw); go_simp; try with_reducible rfl)
                  try simp only [Act.put]
                  refine wpAnyH_take (i := 9) (v := ?_) rfl (by kernel_rfl) (by kernel_rfl) (by kernel_rfl) (fun _ _ _ h => h) (Or.inl ⟨by rfl, ?_⟩) (by assumption) ?_
                  rotate_left
                  · (intro w hSw; (try dsimp only at hSw); go_simp; try with_reducible rfl)
                  try simp only [Act.put]
                  refine wpAnyH_take (i := 10) (v := ?_) rfl (by kernel_rfl) (by kernel_rfl) (by kernel_rfl) (fun _ _ _ h => h) (Or.inl ⟨by rfl, ?_⟩) (by assumption) ?_
                  rotate_left
                  · (intro w hSw; (try dsimp only at hSw); go_simp; try with_reducible rfl)
                  try simp only [Act.put]
                  refine wpAnyH_take (i := 11) (v := ?_) rfl (by kernel_rfl) (by kernel_rfl) (by kernel_rfl) (fun _ _ _ h => h) (Or.inl ⟨by rfl, ?_⟩) (by assumption) ?_
                  rotate_left
                  · (intro w hSw; (try dsimp only at hSw); go_simp; try with_reducible rfl)
                  try simp only [Act.put]
                  refine wpAnyH_take (i := 12) (v := ?_) rfl (by kernel_rfl) (by kernel_rfl) (by kernel_rfl) (fun _ _ _ h => h) (Or.inl ⟨by rfl, ?_⟩) (by assumption) ?_
                  rotate_left
                  · (intro w hSw; (try dsimp only at hSw); go_simp; try with_reducible rfl)
                  try simp only [Act.put]
                  refine wpAnyH_take (i := 13) (v := ?_) rfl (by kernel_rfl) (by kernel_rfl) (by kernel_rfl) (fun _ _ _ h => h) (Or.inl ⟨by rfl, ?_⟩) (by assumption) ?_
                  rotate_left
                  · (intro w hSw; (try dsimp only at hSw); go_simp; try with_reducible rfl)
                  try simp only [Act.put]
                  refine wpAnyH_take (i := 14) (v := ?_) rfl (by kernel_rfl) (by kernel_rfl) (by kernel_rfl) (fun _ _ _ h => h) (Or.inl ⟨by rfl, ?_⟩) (by assumption) ?_
                  rotate_left
                  · (intro w hSw; (try dsimp only at hSw); go_simp; try with_reducible rfl)
                  try simp only [Act.put]
                  refine wpAnyH_take (i := 15) (v := ?_) rfl (by kernel_rfl) (by kernel_rfl) (by kernel_rfl) (fun _ _ _ h => h) (Or.inl ⟨by rfl, ?_⟩) (by assumption) ?_
                  rotate_left
                  · (intro w hSw; (try dsimp only at hSw); go_simp; try with_reducible rfl)
                  try simp only [Act.put]
                  refine wpAnyH_take (i := 16) (v := ?_) rfl (by kernel_rfl) (by kernel_rfl) (by kernel_rfl) (fun _ _ _ h => h) (Or.inl ⟨by rfl, ?_⟩) (by assumption) ?_
                  rotate_left
                  · (intro w hSw; (try dsimp only at hSw); go_simp; try with_reducible rfl)
                  try simp only [Act.put]
                  refine wpAnyH_take (i := 17) (v := ?_) rfl (by kernel_rfl) (by kernel_rfl) (by kernel_rfl) (fun _ _ _ h => h) (Or.inl ⟨by rfl, ?_⟩) (by assumption) ?_
                  rotate_left
                  · (intro w hSw; (try dsimp only at hSw); go_simp; try with_reducible rfl)
                  try simp only [Act.put]
                  refine wpAnyH_ready (rs := [4, 18]) (by kernel_rfl) (by simp) ?_
                  refine AllReadyH.cons rfl (fun K hK => ?_) (AllReadyH.cons rfl (fun K hK => ?_) AllReadyH.nil)
                  · go_simp
                    refine hK.out _ _ (by exact MK.out _ (by first | exact ud | exact ua | exact ua3 | exact ua3.setCell _ (.inr rfl) _)) (fun hHeld => ?_)
                    clear hK K
                    try simp only [Act.put, List.setIfInBounds_toArray, List.set_cons_zero, List.set_cons_succ]
                    refine wpAnyH_ready (rs := [18]) (by kernel_rfl) (by simp) ?_
                    refine AllReadyH.cons rfl (fun K hK => ?_) AllReadyH.nil
                    go_simp
                    refine hK.out _ _ (by exact MK.out _ (by first | exact ud | exact ua | exact ua3 | exact ua3.setCell _ (.inr rfl) _)) (fun hHeld => ?_)
                    clear hK K
                    try simp only [Act.put, List.setIfInBounds_toArray, List.set_cons_zero, List.set_cons_succ]
                    refine wpAnyH_ready (rs := [19]) (by kernel_rfl) (by simp) ?_
                    refine AllReadyH.cons rfl (fun K hK => ?_) AllReadyH.nil
                    refine step_app (by rfl) (.tmp 143) (.tmp 157) 149 (by rfl) (w.heap.size + 2) 171 i0 _ 3 24 Tryd.underlying149 hi0 hz0 hz1 hz2 rfl (by omega) (.slice Aa (2 * j) ca) (2 * j) (arcv (nwOf l) (room0 (nwOf l)) (2 * j)) _ (some ⟨wG.heap.size, 0, none⟩) 2 2 [.int .i64 (v2 : Int), .int .i64 ec, .int .i64 ed, .int .i64 (v1 : Int), .int .i64 0, .int .i64 (-ed)] (by rfl) (by exact OA.out) (by rfl) (rd_blockN 2 3 (heap_alloc_new wG.drew (.cells #[.int .i64 (v2 : Int), .int .i64 ec, .int .i64 ed, .int .i64 (v1 : Int), .int .i64 0, .int .i64 (-ed)] 171)) rfl) H6.out (by omega) (by unfold maxLen; omega) (by exact ba) ?_
                    intro u3 w3 ho3 hu3 hat3
                    obtain ⟨A3, c3, rfl⟩ := own_shape ho3
                    have ua3 : Upd (fun k => (Value.slice Aa (2 * j) ca).ownBlock = some k ∨ k = w.heap.size + 1) wG w3 := ua.trans hu3 (fun _ _ h => .inl h)
                    obtain ⟨m3, f3⟩ := MN.out w3 (((Upd.refl _ _).drewN 1).alloc _ |>.trans hu3 (fun _ _ h => h))
                    refine hK.out _ _ (by exact MK.out _ (by first | exact ud | exact ua | exact ua3 | exact ua3.setCell _ (.inr rfl) _)) (fun hHeld => ?_)
                    clear hK K
                    try simp only [Act.put, List.setIfInBounds_toArray]
                    refine wpAnyH_ready (rs := [20]) (by kernel_rfl) (by simp) ?_
                    refine AllReadyH.cons rfl (fun K hK => ?_) AllReadyH.nil
                    go_simp
                    refine hK.out _ _ (by exact MK.out _ (by first | exact ud | exact ua | exact ua3 | exact ua3.setCell _ (.inr rfl) _)) (fun hHeld => ?_)
                    clear hK K
                    try simp only [Act.put, List.setIfInBounds_toArray, List.set_cons_zero, List.set_cons_succ]
                    refine wpAnyH_ready (rs := [21]) (by kernel_rfl) (by simp) ?_
                    refine AllReadyH.cons rfl (fun K hK => ?_) AllReadyH.nil
                    go_simp
                    refine hK.out _ _ (by exact MK.out _ (by first | exact ud | exact ua | exact ua3 | exact ua3.setCell _ (.inr rfl) _)) (fun hHeld => ?_)
                    clear hK K
                    try simp only [Act.put, List.setIfInBounds_toArray, List.set_cons_zero, List.set_cons_succ]
                    refine wpAnyH_ready (rs := [22]) (by kernel_rfl) (by simp) ?_
                    refine AllReadyH.cons rfl (fun K hK => ?_) AllReadyH.nil
                    go_simp
                    refine hK.out _ _ (by exact MK.out _ (by first | exact ud | exact ua | exact ua3 | exact ua3.setCell _ (.inr rfl) _)) (fun hHeld => ?_)
                    clear hK K
                    try simp only [Act.put, List.setIfInBounds_toArray, List.set_cons_zero, List.set_cons_succ]
                    refine wpAnyH_done (by kernel_rfl) ?_ _
                    have hav : arcv (nwOf l) (room0 (nwOf l)) (2 * j + 2) = arcv (nwOf l) (room0 (nwOf l)) (2 * j) ++ [.int .i64 (v2 : Int), .int .i64 ec, .int .i64 ed, .int .i64 (v1 : Int), .int .i64 0, .int .i64 (-ed)] := by
                      rw [show 2 * j + 2 = (2 * j + 1) + 1 by omega, arcv_succ, arcv_succ, rto_even, rto_odd, room0_even, room0_odd, rc_even, rc_odd, N1.out, N2.out, N3.out, N4.out]
                      simp
                    have hpush := (HN4.out.upd (((Upd.refl (fun _ => False) wG).drewN 1).alloc (.cells #[.int .i64 (v2 : Int), .int .i64 ec, .int .i64 ed, .int .i64 (v1 : Int), .int .i64 0, .int .i64 (-ed)] 171))).pushArcs (by rw [hav]; exact ho3) hu3
                    have HN5 : Hid (NetB w (w3.setCell ⟨w.heap.size + 1, 0, none⟩ (.slice A3 (2 * j + 2) c3)) nodes s t (nwOf l) (rowsO nodes l (j + 1)) (2 * (j + 1)) vsy (.slice A3 (2 * j + 2) c3)) := Lib.hid (by rw [rowsO_succ, N1.out, N2.out, ← HRX.out]; exact hpush)
                    have HOKT : Hid (okTo nodes l (j + 1)) := Lib.hid fun i hi hij => by
                      by_cases e : i = j
                      · subst e; rw [HE.out]; exact HOK.out
                      · exact hok.out i hi (by omega)
                    clear hav hpush MK MN cNa cNb ud ua ba OA H6 HN4 HEB4 hplt cP0 fP0 HOA p0 p1 p2 p3 hzE4 ua3 ho3 hu3 hat3 m3 f3
                    go_wp2
                    go_roundw
                    case rel => exact ⟨j + 1, vsy, _, by omega, by go_num, by rw [X3.out], HOKT, hsb, HN5⟩
                    case measure => simp [intOf]; omega
                  · go_simp
                    refine hK.out _ _ (by exact MK.out _ (by first | exact ud | exact ua | exact ua3 | exact ua3.setCell _ (.inr rfl) _)) (fun hHeld => ?_)
                    clear hK K
                    try simp only [Act.put, List.setIfInBounds_toArray, List.set_cons_zero, List.set_cons_succ]
                    refine wpAnyH_ready (rs := [4]) (by kernel_rfl) (by simp) ?_
                    refine AllReadyH.cons rfl (fun K hK => ?_) AllReadyH.nil
                    go_simp
                    refine hK.out _ _ (by exact MK.out _ (by first | exact ud | exact ua | exact ua3 | exact ua3.setCell _ (.inr rfl) _)) (fun hHeld => ?_)
                    clear hK K
                    try simp only [Act.put, List.setIfInBounds_toArray, List.set_cons_zero, List.set_cons_succ]
                    refine wpAnyH_ready (rs := [19]) (by kernel_rfl) (by simp) ?_
                    refine AllReadyH.cons rfl (fun K hK => ?_) AllReadyH.nil
                    refine step_app (by rfl) (.tmp 143) (.tmp 157) 149 (by rfl) (w.heap.size + 2) 171 i0 _ 3 24 Tryd.underlying149 hi0 hz0 hz1 hz2 rfl (by omega) (.slice Aa (2 * j) ca) (2 * j) (arcv (nwOf l) (room0 (nwOf l)) (2 * j)) _ (some ⟨wG.heap.size, 0, none⟩) 2 2 [.int .i64 (v2 : Int), .int .i64 ec, .int .i64 ed, .int .i64 (v1 : Int), .int .i64 0, .int .i64 (-ed)] (by rfl) (by exact OA.out) (by rfl) (rd_blockN 2 3 (heap_alloc_new wG.drew (.cells #[.int .i64 (v2 : Int), .int .i64 ec, .int .i64 ed, .int .i64 (v1 : Int), .int .i64 0, .int .i64 (-ed)] 171)) rfl) H6.out (by omega) (by unfold maxLen; omega) (by exact ba) ?_
                    intro u3 w3 ho3 hu3 hat3
                    obtain ⟨A3, c3, rfl⟩ := own_shape ho3
                    have ua3 : Upd (fun k => (Value.slice Aa (2 * j) ca).ownBlock = some k ∨ k = w.heap.size + 1) wG w3 := ua.trans hu3 (fun _ _ h => .inl h)
                    obtain ⟨m3, f3⟩ := MN.out w3 (((Upd.refl _ _).drewN 1).alloc _ |>.trans hu3 (fun _ _ h => h))
                    refine hK.out _ _ (by exact MK.out _ (by first | exact ud | exact ua | exact ua3 | exact ua3.setCell _ (.inr rfl) _)) (fun hHeld => ?_)
                    clear hK K
                    try simp only [Act.put, List.setIfInBounds_toArray]
                    refine wpAnyH_ready (rs := [20]) (by kernel_rfl) (by simp) ?_
                    refine AllReadyH.cons rfl (fun K hK => ?_) AllReadyH.nil
                    go_simp
                    refine hK.out _ _ (by exact MK.out _ (by first | exact ud | exact ua | exact ua3 | exact ua3.setCell _ (.inr rfl) _)) (fun hHeld => ?_)
                    clear hK K
                    try simp only [Act.put, List.setIfInBounds_toArray, List.set_cons_zero, List.set_cons_succ]
                    refine wpAnyH_ready (rs := [21]) (by kernel_rfl) (by simp) ?_
                    refine AllReadyH.cons rfl (fun K hK => ?_) AllReadyH.nil
                    go_simp
                    refine hK.out _ _ (by exact MK.out _ (by first | exact ud | exact ua | exact ua3 | exact ua3.setCell _ (.inr rfl) _)) (fun hHeld => ?_)
                    clear hK K
                    try simp only [Act.put, List.setIfInBounds_toArray, List.set_cons_zero, List.set_cons_succ]
                    refine wpAnyH_ready (rs := [22]) (by kernel_rfl) (by simp) ?_
                    refine AllReadyH.cons rfl (fun K hK => ?_) AllReadyH.nil
                    go_simp
                    refine hK.out _ _ (by exact MK.out _ (by first | exact ud | exact ua | exact ua3 | exact ua3.setCell _ (.inr rfl) _)) (fun hHeld => ?_)
                    clear hK K
                    try simp only [Act.put, List.setIfInBounds_toArray, List.set_cons_zero, List.set_cons_succ]
                    refine wpAnyH_done (by kernel_rfl) ?_ _
                    have hav : arcv (nwOf l) (room0 (nwOf l)) (2 * j + 2) = arcv (nwOf l) (room0 (nwOf l)) (2 * j) ++ [.int .i64 (v2 : Int), .int .i64 ec, .int .i64 ed, .int .i64 (v1 : Int), .int .i64 0, .int .i64 (-ed)] := by
                      rw [show 2 * j + 2 = (2 * j + 1) + 1 by omega, arcv_succ, arcv_succ, rto_even, rto_odd, room0_even, room0_odd, rc_even, rc_odd, N1.out, N2.out, N3.out, N4.out]
                      simp
                    have hpush := (HN4.out.upd (((Upd.refl (fun _ => False) wG).drewN 1).alloc (.cells #[.int .i64 (v2 : Int), .int .i64 ec, .int .i64 ed, .int .i64 (v1 : Int), .int .i64 0, .int .i64 (-ed)] 171))).pushArcs (by rw [hav]; exact ho3) hu3
                    have HN5 : Hid (NetB w (w3.setCell ⟨w.heap.size + 1, 0, none⟩ (.slice A3 (2 * j + 2) c3)) nodes s t (nwOf l) (rowsO nodes l (j + 1)) (2 * (j + 1)) vsy (.slice A3 (2 * j + 2) c3)) := Lib.hid (by rw [rowsO_succ, N1.out, N2.out, ← HRX.out]; exact hpush)
                    have HOKT : Hid (okTo nodes l (j + 1)) := Lib.hid fun i hi hij => by
                      by_cases e : i = j
                      · subst e; rw [HE.out]; exact HOK.out
                      · exact hok.out i hi (by omega)
                    clear hav hpush MK MN cNa cNb ud ua ba OA H6 HN4 HEB4 hplt cP0 fP0 HOA p0 p1 p2 p3 hzE4 ua3 ho3 hu3 hat3 m3 f3
                    go_wp2
                    go_roundw
                    case rel => exact ⟨j + 1, vsy, _, by omega, by go_num, by rw [X3.out], HOKT, hsb, HN5⟩
                    case measure => simp [intOf]; omega
    · obtain rfl : j = k := by omega
      have hall : ∀ a ∈ l, okA nodes a := fun a ha => by
        obtain ⟨i, hi, rfl⟩ := List.getElem_of_mem ha
        exact hok.out i hi (by have := HKL.out; omega)
      have HALL := Lib.hid hall
      have hj2 : j = l.length := HKL.out
      clear hall hok
      obtain ⟨sv, hsv⟩ : ∃ sv, outTo l s j = sv := ⟨_, rfl⟩
      rw [hsv]
      have HSV := Lib.hid hsv
      have HJ2 := Lib.hid hj2
      have HN := hN
      clear hsv hj2 hN
      by_cases hbig : sv > 200
      · have hno : ¬ GoodN nodes s t l := fun h => by
          have h7 := h.2.2.2.2.2.2
          rw [Int.toNat_natCast, ← HJ2.out, HSV.out] at h7
          omega
        have HBL := Lib.hid HN.out.bel
        clear HN
        go_wp2
        go_ret2
        exact .inr ⟨hno, rfl, HBL.out⟩
      · have hyes : GoodN nodes s t l := ⟨by omega, by omega, by omega, by omega, by have := HJ2.out; omega, HALL.out, by rw [Int.toNat_natCast, ← HJ2.out, HSV.out]; omega⟩
        go_wp2
        go_ret2
        refine .inl ⟨hyes, ⟨vs, av, ?_⟩, rfl⟩
        rw [← HJ2.out]
        exact HN.out
end Go.Proofs.YtppjpledjhinbaaDoor
