/- Merging versions: the reference's Trim, walked. -/
import Derived.Test.YtcfgmkiohmbdlaaMgRTr
namespace Go.Proofs.Ytcfgmkiohmbdlaa
open Go.RowKit
theorem own_oneEnt (w : World) (base : Nat) (hb : base ≤ w.heap.size) (x1 : ByteArray) (x2 : Int) (x3 : Bool) (x4 : ByteArray) : (w.alloc (.cells #[.string x1, .int .i64 x2, .bool x3, .string x4] 26)).ownsRow base 26 4 (.slice (some ⟨w.heap.size, 0, none⟩) 1 1) 1 (entv [⟨x1, x2, x3, x4⟩]) :=
  ⟨by simp [entv, Ent.cells], .inr ⟨_, 1, _, rfl, hb, heap_alloc_new w _, Nat.le_refl _, by unfold maxLen; omega, by simp, by simp [entv, Ent.cells]⟩⟩
set_option maxHeartbeats 8000000 in
set_option maxRecDepth 20000 in
theorem rtrim_any (w : World) (A : Option Addr) (n c : Nat) (l : List Ent) (bot : Bool) (A2 : Option Addr) (m c2 : Nat) (seen : List Int) (hr : Rd w w.heap.size 4 A n (entv l)) (hs : Rd w w.heap.size 1 A2 m (i64v seen)) (hmax : ∀ x ∈ l, x.seq ≤ 9223372036854775807) (hn : n ≤ 1048576) (hm : m ≤ 1073741824) :
    Calls Try.prog 16 #[.slice A n c, .bool bot, .slice A2 m c2] w (RInsPost w (trimL (mergeL l) bot seen)) := by
  obtain ⟨i0, hi0, hz0, hz1, hz2⟩ := info_parts ent_info2
  have hln := rd_entlen hr
  have hb0 : Below w.heap.size w (w.alloc (.cells #[.slice A n c] 22)) := (Below.refl _ _).alloc (Nat.le_refl _) _
  have hc := rmerge_any _ _ 1 1 _ _ (ls_one (c := c) hr) (by decide) (by simp; omega)
  rw [show [l].flatten = l by simp] at hc
  have hml := mergeL_len l
  have hri := rise_merge l
  have hmm : ∀ x ∈ mergeL l, x.seq ≤ 9223372036854775807 := fun x hx => hmax x (mergeL_sub hx)
  obtain ⟨M, hM⟩ : ∃ M, mergeL l = M := ⟨_, rfl⟩
  rw [hM] at hc hml hri hmm ⊢
  have HRI := Lib.hid hri
  have HMX := Lib.hid hmm
  have HMN := Lib.hid (show M.length ≤ 1048576 by omega)
  have HB0 := Lib.hid hb0
  have HC := Lib.hid hc
  have HS := Lib.hid hs
  clear hr hc hb0 hM hri hln hml hmm hmax hs
  go_enter Try.func16, Try.ntmps16
  go_wp2_with fail
  refine HC.out.mono ?_
  rintro e w1 ⟨A1, n1, c1, rfl, hmc, hr1, hb1, -⟩
  have hml := rd_entlen hr1
  have hm1 : n1 ≤ 1048576 := by rw [hml]; exact HMN.out
  have HML := Lib.hid hml
  have HR1 := Lib.hid hr1
  have HB1 := Lib.hid (bel_go HB0.out hb1)
  have HS1 := Lib.hid (HS.out.go HB1.out)
  clear hml hr1 hb1 HC HB0 HS
  go_wp2
  go_loopw [8, 20] (fun ov iv wx => ∃ k : Nat, k ≤ n1 ∧ iv = .int .i64 k ∧ Hid (((M.take k).filter (needP M seen)).length ≤ k ∧ wx.ownsRow w1.heap.size 26 4 ov ((M.take k).filter (needP M seen)).length (entv ((M.take k).filter (needP M seen)))) ∧ Hid (Below w1.heap.size w1 wx)) (fun _ iv _ => n1 - (intOf iv).toNat)
  case atStart => exact ⟨0, Nat.zero_le _, rfl, Lib.hid ⟨by simp, World.ownsRow_nil _ _ _ _⟩, Lib.hid (Below.refl _ _)⟩
  case round =>
    obtain ⟨k, hk, rfl, HO, HW⟩ := hrel
    by_cases hlt : k < n1
    · obtain ⟨b, off, rfl, hbb, hs, e0, e1, e2, e3⟩ := (HR1.out.below HW.out).ent hlt
      have hfs := filter_step (p := needP M seen) hs
      have hx0 : M[k]? = some M[k] := List.getElem?_eq_getElem hs
      obtain ⟨x, hx⟩ : ∃ x, M[k] = x := ⟨_, rfl⟩
      rw [hx] at e0 e1 e2 e3 hfs hx0
      obtain ⟨x1, x2, x3, x4⟩ := x
      simp only at e0 e1 e2 e3
      obtain ⟨O, hO⟩ : ∃ O, (M.take k).filter (needP M seen) = O := ⟨_, rfl⟩
      rw [hO] at HO hfs
      obtain ⟨nb, hnb⟩ : ∃ nb, needP M seen ⟨x1, x2, x3, x4⟩ = nb := ⟨_, rfl⟩
      rw [hnb] at hfs
      have hws := HW.out.size
      obtain ⟨w2, hw2⟩ : ∃ w2, w2 = wr.alloc (.cells #[.string x1, .int .i64 x2, .bool x3, .string x4] 26) := ⟨_, rfl⟩
      have hb2 : Below wr.heap.size wr w2 := by rw [hw2]; exact (Below.refl _ _).alloc (Nat.le_refl _) _
      have HO2 := Lib.hid (own_below HO.out.2 hb2)
      have hbw2 := bel_go HW.out hb2
      have HW2 := Lib.hid hbw2
      have HOL := Lib.hid HO.out.1
      have HFS := Lib.hid hfs
      have HND := Lib.hid (rneed_any w2 (some ⟨b, off, none⟩) n1 c1 M k ⟨x1, x2, x3, x4⟩ A2 m c2 seen (HR1.out.go hbw2) (HS1.out.go hbw2) hlt hx0 HRI.out HMX.out (by omega) hm)
      rw [hnb] at HND
      have hy : w2.heap[wr.heap.size]? = some (.cells (Ent.cells ⟨x1, x2, x3, x4⟩).toArray 26 (0, 0)) := by rw [hw2]; exact heap_alloc_new wr _
      have HY := Lib.hid hy
      have hyl := (Array.getElem?_eq_some_iff.1 hy).1
      clear hx hO hfs hx0 hnb hb2 HO HW hbw2 hy
      go_upto_region 6 with (fail)
      rw [← hw2]
      clear hw2 e0 e1 e2 e3
      go_wp2_with fail
      refine HND.out.mono ?_
      rintro e w3 ⟨rfl, hb3⟩
      have HO3 := Lib.hid (own_below HO2.out hb3)
      have HW3 := Lib.hid (bel_go HW2.out hb3)
      have hY3 := (hb3.block _ hyl).trans HY.out
      have HOL2 := HOL.out
      have hbs3 := HW3.out.size
      cases nb with
      | false =>
        have HO4 : Hid (((M.take (k + 1)).filter (needP M seen)).length ≤ k + 1 ∧ w3.ownsRow w1.heap.size 26 4 u8 ((M.take (k + 1)).filter (needP M seen)).length (entv ((M.take (k + 1)).filter (needP M seen)))) := Lib.hid (by
          rw [HFS.out]
          simp only [Bool.false_eq_true, if_false, List.append_nil]
          exact ⟨by omega, HO3.out⟩)
        clear hb3 hY3 HND HFS HO2 HW2
        go_wp2
        go_roundw
        case rel => exact ⟨k + 1, by omega, by go_num, HO4, HW3⟩
        case measure => simp [intOf]; omega
      | true =>
        have y0 : w3.cell? ⟨wr.heap.size, 0, none⟩ = some (.string x1) := by rw [cell_of_row _ _ 0 _ _ _ hY3]; rfl
        have y1 : w3.cell? ⟨wr.heap.size, 1, none⟩ = some (.int .i64 x2) := by rw [cell_of_row _ _ 1 _ _ _ hY3]; rfl
        have y2 : w3.cell? ⟨wr.heap.size, 2, none⟩ = some (.bool x3) := by rw [cell_of_row _ _ 2 _ _ _ hY3]; rfl
        have y3 : w3.cell? ⟨wr.heap.size, 3, none⟩ = some (.string x4) := by rw [cell_of_row _ _ 3 _ _ _ hY3]; rfl
        clear hb3 hY3 HND HO2 HW2
        go_wp2_with (at_builtin; refine wpList_push (w := w3) rfl (.tmp 29) (.tmp 31) 22 rfl w1.heap.size 26 i0 _ 4 48 Try.underlying22 hi0 hz0 hz1 hz2 rfl (by decide) _ O.length (entv O) #[.string x1, .int .i64 x2, .bool x3, .string x4] rfl (by exact HO3.out) rfl rfl (by simp [Value.oneCell']) ?a2 ?a3 ?a4 ?_)
        case a2 => omega
        case a3 => unfold maxLen; omega
        case a4 => exact hbs3
        intro v4 w4 hown4 hu4 _
        have HO4 : Hid (((M.take (k + 1)).filter (needP M seen)).length ≤ k + 1 ∧ w4.ownsRow w1.heap.size 26 4 v4 ((M.take (k + 1)).filter (needP M seen)).length (entv ((M.take (k + 1)).filter (needP M seen)))) := Lib.hid (by
          rw [HFS.out]
          simp only [if_true]
          rw [List.length_append, entv_append, entv_one]
          exact ⟨by simp; omega, hown4⟩)
        have HW4 := Lib.hid (below_row HW3.out hbs3 HO3.out (Nat.le_refl _) hu4)
        clear hown4 hu4 HO3 HW3 HFS
        go_wp2
        go_roundw
        case rel => exact ⟨k + 1, by omega, by go_num, HO4, HW4⟩
        case measure => simp [intOf]; omega
    · have hO := HO.out.2
      rw [List.take_of_length_le (by rw [← HML.out]; omega)] at hO
      have hKl : (M.filter (needP M seen)).length ≤ M.length := List.length_filter_le _ _
      have hKr : RiseL (M.filter (needP M seen)) := HRI.out.sublist List.filter_sublist
      obtain ⟨A5, c5, h5⟩ := own_shape hO
      subst h5
      have hcap := own_cap hO
      have hKR := Rd.own hO
      have hz : ¬ (k : Int) < (n1 : Int) := by omega
      have HBF := Lib.hid (bel_go HB1.out HW.out)
      have hT : trimL M bot seen = if bot = true then (M.filter (needP M seen)).filter (liveP (M.filter (needP M seen))) else M.filter (needP M seen) := rfl
      obtain ⟨K, hK⟩ : ∃ K, M.filter (needP M seen) = K := ⟨_, rfl⟩
      rw [hK] at hKl hKr hKR hT hcap ⊢
      have hKn : K.length ≤ 1048576 := by have := HMN.out; omega
      obtain ⟨q, hq⟩ : ∃ q, K.length = q := ⟨_, rfl⟩
      rw [hq] at hKl hKR hcap hKn ⊢
      have HKR := Lib.hid hKR
      have HKL := Lib.hid hq
      have HKI := Lib.hid hKr
      have HTT := Lib.hid hT
      clear hO hKl hKr hKR hK hT hq HO HW HS1 HR1 HB1 HML HMX HRI HMN
      cases bot with
      | false =>
        have HF : Hid (RInsPost w (trimL M false seen) (.returned (.slice A5 q c5)) wr) := Lib.hid ⟨A5, q, c5, rfl, hcap, by rw [HTT.out, if_neg (by decide)]; exact HKR.out, HBF.out⟩
        clear HKR HKI HTT
        go_wp2
        go_ret
        exact HF.out
      | true =>
        obtain ⟨w5, rfl⟩ : ∃ w5, w5 = wr := ⟨_, rfl⟩
        go_wp2
        go_loopw [11, 12, 13, 14] (fun rv lv bv iv wx => ∃ p : Nat, p ≤ q ∧ iv = .int .i64 ((p : Int) - 1) ∧ ∃ last live, lv = .string last ∧ bv = .bool live ∧ Hid (∀ h : p < K.length, last = K[p].key ∧ live = liveP K K[p]) ∧ Hid (((K.drop p).filter (liveP K)).length + p ≤ q ∧ wx.ownsRow w5.heap.size 26 4 rv ((K.drop p).filter (liveP K)).length (entv ((K.drop p).filter (liveP K)))) ∧ Hid (Below w5.heap.size w5 wx)) (fun _ _ _ iv _ => (intOf iv + 1).toNat)
        case atStart => exact ⟨q, Nat.le_refl _, by go_num, _, _, rfl, rfl, Lib.hid (fun h => by have := HKL.out; omega), Lib.hid (by rw [List.drop_eq_nil_of_le (by rw [HKL.out]; exact Nat.le_refl _)]; exact ⟨by simp, World.ownsRow_nil _ _ _ _⟩), Lib.hid (Below.refl _ _)⟩
        case round =>
          obtain ⟨p, hp, rfl, last, live, rfl, rfl, HL, HO, HW⟩ := hrel
          cases p with
          | zero =>
            have HF : Hid (RInsPost w (trimL M true seen) (.returned u11) wr) := Lib.hid (by
              have h := HO.out.2
              rw [List.drop_zero] at h
              obtain ⟨A9, c9, h9⟩ := own_shape h
              subst h9
              exact ⟨A9, _, c9, rfl, own_cap h, by rw [HTT.out]; simp only [if_true]; exact Rd.own h, bel_go HBF.out HW.out⟩)
            clear HO HL
            go_wp2
            go_ret
            exact HF.out
          | succ i =>
            rw [show (((i + 1 : Nat) : Int) - 1) = (i : Int) by omega]
            obtain ⟨b, off, rfl, hbb, hs, e0, e1, e2, e3⟩ := (HKR.out.below HW.out).ent (k := i) (by omega)
            have hdf := drop_filter (p := liveP K) hs
            have hle : (∀ h1 : i + 1 < K.length, K[i + 1].key ≠ K[i].key) → liveP K K[i] = !K[i].dead := fun h => live_end HKI.out hs h
            have hls : ∀ h1 : i + 1 < K.length, K[i + 1].key = K[i].key → liveP K K[i] = (liveP K K[i + 1] || !K[i].dead) := fun h1 h2 => live_step HKI.out h1 h2
            obtain ⟨x, hx⟩ : ∃ x, K[i] = x := ⟨_, rfl⟩
            rw [hx] at e0 e1 e2 e3 hdf hle hls
            obtain ⟨x1, x2, x3, x4⟩ := x
            simp only at e0 e1 e2 e3 hle hls
            obtain ⟨O, hO⟩ : ∃ O, (K.drop (i + 1)).filter (liveP K) = O := ⟨_, rfl⟩
            rw [hO] at HO hdf
            obtain ⟨lv, hlv⟩ : ∃ lv, liveP K ⟨x1, x2, x3, x4⟩ = lv := ⟨_, rfl⟩
            rw [hlv] at hdf hle hls
            have HLN : Hid (∀ h : i < K.length, x1 = K[i].key ∧ lv = liveP K K[i]) := Lib.hid fun h => by rw [hx]; exact ⟨rfl, hlv.symm⟩
            have HDF := Lib.hid hdf
            have HLE := Lib.hid hle
            have HLS := Lib.hid hls
            have i1 : (0 : Int) ≤ (i : Int) := by omega
            have i2 : (i : Int) < (q : Int) := by omega
            have i4 : IntKind.i64.wrap ((q : Int) - 1) = (q : Int) - 1 := IntWalk.i64_in _ (by omega)
            have i5 : IntKind.i64.wrap ((i : Int) - 1) = (i : Int) - 1 := IntWalk.i64_in _ (by omega)
            have i6 : decide ((i : Int) ≥ 0) = true := decide_eq_true (by omega)
            clear hx hO hdf hle hls hlv
            go_upto_region 16 with (fail)
            obtain ⟨w6, hw6⟩ : ∃ w6, w6 = wr := ⟨_, rfl⟩
            rw [← hw6] at HO HW e0 e1 e2 e3 ⊢
            clear hw6
            go_cut [57] (fun rv wc => ∃ bb : Bool, rv = .bool bb ∧ Hid (bb = true → lv = !x3) ∧ Hid (bb = false → last = x1 ∧ lv = (live || !x3)) ∧ Hid (wc = w6))
            case first =>
              by_cases h1 : i + 1 = q
              · have s1 : ((i : Int) == (q : Int) - 1) = true := beq_iff_eq.2 (by omega)
                have g1 : Hid (lv = !x3) := Lib.hid (HLE.out (fun h => by have := HKL.out; omega))
                clear HLE HLS HL HDF
                go_wp2
                go_meet
                case rel => exact ⟨true, rfl, Lib.hid (fun _ => g1.out), Lib.hid (fun h => by cases h), by first | exact Lib.hid rfl | exact Lib.hid trivial⟩
              · have s1 : ((i : Int) == (q : Int) - 1) = false := beq_eq_false_iff_ne.2 (by omega)
                have hil : i + 1 < K.length := by have := HKL.out; omega
                obtain ⟨l1, l2⟩ := HL.out hil
                by_cases h2 : x1 = last
                · subst h2
                  have g1 : Hid (lv = (live || !x3)) := Lib.hid (by rw [l2]; exact HLS.out hil l1.symm)
                  clear HLE HLS HL HDF l1 l2 h1
                  go_wp2
                  go_meet
                  case rel => exact ⟨false, rfl, Lib.hid (fun h => by cases h), Lib.hid (fun _ => ⟨(by first | exact rfl | trivial), g1.out⟩), by first | exact Lib.hid rfl | exact Lib.hid trivial⟩
                · have s2 := mg_ne h2
                  have g1 : Hid (lv = !x3) := Lib.hid (HLE.out (fun h g => h2 (by rw [l1]; exact g.symm)))
                  clear HLE HLS HL HDF l1 l2 h1 h2
                  go_wp2
                  go_meet
                  case rel => exact ⟨true, rfl, Lib.hid (fun _ => g1.out), Lib.hid (fun h => by cases h), by first | exact Lib.hid rfl | exact Lib.hid trivial⟩
            case rest =>
              obtain ⟨bb, rfl, g1, g2, gw⟩ := hcut
              obtain rfl := gw.out
              clear gw HLE HLS HL
              obtain ⟨w7, hw7⟩ : ∃ w7, w7 = wc := ⟨_, rfl⟩
              rw [← hw7] at HO HW e0 e1 e2 e3 ⊢
              clear hw7
              go_step
              go_cut [12, 13] (fun l2 b2 wd => ∃ live0 : Bool, l2 = .string x1 ∧ b2 = .bool live0 ∧ Hid (lv = (live0 || !x3)) ∧ Hid (wd = w7))
              case first =>
                cases bb with
                | true =>
                  have G : Hid (lv = (false || !x3)) := Lib.hid (by rw [g1.out rfl]; rfl)
                  clear g1 g2 HDF
                  go_wp2
                  go_meet
                  case rel => exact ⟨false, rfl, rfl, G, by first | exact Lib.hid rfl | exact Lib.hid trivial⟩
                | false =>
                  obtain ⟨rfl, h2⟩ := g2.out rfl
                  have G : Hid (lv = (live || !x3)) := Lib.hid h2
                  clear g1 g2 HDF h2
                  go_wp2
                  go_meet
                  case rel => exact ⟨live, rfl, rfl, G, by first | exact Lib.hid rfl | exact Lib.hid trivial⟩
              case rest =>
                obtain ⟨live0, rfl, rfl, G, gw⟩ := hcut
                obtain rfl := gw.out
                clear gw g1 g2
                obtain ⟨w8, hw8⟩ : ∃ w8, w8 = wc := ⟨_, rfl⟩
                rw [← hw8] at HO HW e0 e1 e2 e3 ⊢
                clear hw8
                go_upto_region 18 with (fail)
                go_cut [13] (fun b2 wd => b2 = .bool lv ∧ Hid (wd = w8))
                case first =>
                  cases live0 with
                  | true =>
                    have G2 : lv = true := G.out
                    subst G2
                    clear G HDF
                    go_wp2
                    go_meet
                    case rel => exact ⟨rfl, by first | exact Lib.hid rfl | exact Lib.hid trivial⟩
                  | false =>
                    have G2 : lv = !x3 := by rw [G.out]; rfl
                    subst G2
                    clear G HDF
                    go_wp2
                    go_meet
                    case rel => exact ⟨rfl, by first | exact Lib.hid rfl | exact Lib.hid trivial⟩
                case rest =>
                  obtain ⟨rfl, gw⟩ := hcut
                  obtain rfl := gw.out
                  clear gw G
                  obtain ⟨w9, hw9⟩ : ∃ w9, w9 = wc := ⟨_, rfl⟩
                  rw [← hw9] at HO HW e0 e1 e2 e3 ⊢
                  clear hw9
                  have hol := HO.out.1
                  cases lv with
                  | false =>
                    have HO4 : Hid (((K.drop i).filter (liveP K)).length + i ≤ q ∧ w9.ownsRow w5.heap.size 26 4 u11 ((K.drop i).filter (liveP K)).length (entv ((K.drop i).filter (liveP K)))) := Lib.hid (by
                      rw [HDF.out]
                      simp only [Bool.false_eq_true, if_false, List.nil_append]
                      exact ⟨by omega, HO.out.2⟩)
                    clear HDF HO
                    go_wp2
                    go_roundw
                    case rel => exact ⟨i, by omega, by go_num, x1, false, rfl, rfl, HLN, HO4, HW⟩
                    case measure => simp [intOf]
                  | true =>
                    have hws := HW.out.size
                    have o1 := own_oneEnt w9 w5.heap.size hws x1 x2 x3 x4
                    have hbe : Below w9.heap.size w9 (w9.alloc (.cells #[.string x1, .int .i64 x2, .bool x3, .string x4] 26)) := (Below.refl _ _).alloc (Nat.le_refl _) _
                    obtain ⟨AR, cR, hR⟩ := own_shape HO.out.2
                    subst hR
                    have t1 := (Rd.own HO.out.2).below hbe
                    have t2 := entv_cell O
                    have HBE := Lib.hid hbe
                    clear hbe
                    go_wp2_with (at_builtin; refine wpList_app rfl (.tmp 77) (.tmp 78) 22 rfl w5.heap.size 26 i0 _ 4 48 Try.underlying22 hi0 hz0 hz1 hz2 rfl (by omega) _ 1 (entv [⟨x1, x2, x3, x4⟩]) _ AR O.length cR (entv O) rfl (by exact o1) rfl (by exact t1) t2 ?e1 ?e2 ?e3 ?_)
                    case e1 => omega
                    case e2 => unfold maxLen; omega
                    case e3 => exact Nat.le_succ_of_le hws
                    intro v10 w10 ho10 hu10 _
                    have hb10 : Below w9.heap.size w9 w10 := HBE.out.trans (hu10.below (fun i hi e => by simp [Value.ownBlock] at e; omega) (by simp))
                    have HW10 := Lib.hid (bel_go HW.out hb10)
                    have HO4 : Hid (((K.drop i).filter (liveP K)).length + i ≤ q ∧ w10.ownsRow w5.heap.size 26 4 v10 ((K.drop i).filter (liveP K)).length (entv ((K.drop i).filter (liveP K)))) := Lib.hid (by
                      rw [HDF.out]
                      simp only [if_true]
                      rw [List.length_append, entv_append]
                      exact ⟨by simp; omega, ho10⟩)
                    clear HDF HO ho10 hu10 hb10 o1 t1 t2 HW HBE
                    go_wp2
                    go_roundw
                    case rel => exact ⟨i, by omega, by go_num, x1, true, rfl, rfl, HLN, HO4, HW10⟩
                    case measure => simp [intOf]
end Go.Proofs.Ytcfgmkiohmbdlaa
