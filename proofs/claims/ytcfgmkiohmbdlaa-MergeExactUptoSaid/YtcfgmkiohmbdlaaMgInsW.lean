/- Merging versions: the reference's insert, walked (2). -/
import Derived.Test.YtcfgmkiohmbdlaaMgIns
import Derived.Deep.RegionWith
import Derived.OwnWalk
import Derived.Deep.Slices
namespace Go.Proofs.Ytcfgmkiohmbdlaa
open Go.RowKit
set_option maxHeartbeats 8000000 in
set_option maxRecDepth 20000 in
theorem rins_any (w : World) (A : Option Addr) (n c : Nat) (L S : List Ent) (x1 : ByteArray) (x2 : Int) (x3 : Bool) (x4 : ByteArray) (hr : Rd w w.heap.size 4 A n (entv L)) (hM : MergeOf S L) (hn : n ≤ 1073741824) (hnc : n ≤ c) (B : Nat) (hB0 : B ≤ w.heap.size) (hA : 0 < n → ∃ ad, A = some ad ∧ B ≤ ad.block) :
    Calls Try.prog 51 #[.slice A n c, .agg #[.string x1, .int .i64 x2, .bool x3, .string x4]] w (RNewPost B w (mergeL (S ++ [⟨x1, x2, x3, x4⟩]))) := by
  obtain ⟨i0, hi0, hz0, hz1, hz2⟩ := info_parts ent_info2
  have HR := Lib.hid hr
  have HA := Lib.hid hA
  have HML := Lib.hid (rd_entlen hr)
  have HMO := Lib.hid hM
  have HX : Hid ((w.alloc (.cells #[.string x1, .int .i64 x2, .bool x3, .string x4] 26)).heap[w.heap.size]? = some (.cells (Ent.cells ⟨x1, x2, x3, x4⟩).toArray 26 (0, 0))) := Lib.hid (heap_alloc_new w _)
  have HB : Hid (Below w.heap.size w (w.alloc (.cells #[.string x1, .int .i64 x2, .bool x3, .string x4] 26))) := Lib.hid ((Below.refl _ _).alloc (Nat.le_refl _) _)
  clear hr hM hA
  go_enter Try.func51, Try.ntmps51
  go_wp2
  go_loopw [5] (fun i wx => ∃ p : Nat, p ≤ n ∧ i = .int .i64 p ∧ Hid (wx.heap[w.heap.size]? = some (.cells (Ent.cells ⟨x1, x2, x3, x4⟩).toArray 26 (0, 0))) ∧ Hid (Below w.heap.size w wx) ∧ Hid (∀ y ∈ L.drop p, cmpE ⟨x1, x2, x3, x4⟩ y < 0)) (fun i _ => (intOf i).toNat)
  case atStart => exact ⟨n, Nat.le_refl _, rfl, HX, HB, Lib.hid (by rw [List.drop_eq_nil_of_le (by rw [← HML.out]; exact Nat.le_refl _)]; simp)⟩
  case round =>
    clear HX HB
    obtain ⟨p, hp, rfl, hx, hb, hge⟩ := hrel
    have hxl := (Array.getElem?_eq_some_iff.1 hx.out).1
    have y0 : wr.cell? ⟨w.heap.size, 0, none⟩ = some (.string x1) := by rw [cell_of_row _ _ 0 _ _ _ hx.out]; rfl
    have y1 : wr.cell? ⟨w.heap.size, 1, none⟩ = some (.int .i64 x2) := by rw [cell_of_row _ _ 1 _ _ _ hx.out]; rfl
    have y2 : wr.cell? ⟨w.heap.size, 2, none⟩ = some (.bool x3) := by rw [cell_of_row _ _ 2 _ _ _ hx.out]; rfl
    have y3 : wr.cell? ⟨w.heap.size, 3, none⟩ = some (.string x4) := by rw [cell_of_row _ _ 3 _ _ _ hx.out]; rfl
    go_upto_region 2 with (fail)
    go_cut [19] (fun rv wc => ∃ bb : Bool, rv = .bool bb ∧ Hid (bb = true ↔ ∃ (_ : 0 < p) (h2 : p - 1 < L.length), cmpE ⟨x1, x2, x3, x4⟩ L[p - 1] < 0) ∧ Hid (Below wr.heap.size wr wc))
    case first =>
      cases p with
      | zero =>
        have hno : Hid (false = true ↔ ∃ (_ : 0 < 0) (h2 : 0 - 1 < L.length), cmpE ⟨x1, x2, x3, x4⟩ L[0 - 1] < 0) := Lib.hid ⟨(fun h => by cases h), fun ⟨h, _⟩ => absurd h (by decide)⟩
        clear hge
        first
          | go_quiet (fail)
          | fail
        go_wp2
        go_meet
        case rel => exact ⟨false, rfl, hno, Lib.hid (below_drewG (Below.refl _ _) _)⟩
      | succ p =>
        obtain ⟨b, off, rfl, hB, hs, c0, c1, c2, c3⟩ := (HR.out.below hb.out).ent (k := p) (by omega)
        obtain ⟨q, hq⟩ : ∃ q, L[p] = q := ⟨_, rfl⟩
        have HQ := Lib.hid hq
        rw [hq] at c0 c1 c2 c3
        have i1 : (0 : Int) ≤ (p : Int) := by omega
        have i2 : (p : Int) < (n : Int) := by omega
        have hws : IntKind.i64.wrap (((p + 1 : Nat) : Int) - 1) = (p : Int) := by rw [IntWalk.i64_in _ (by omega)]; omega
        have hgt : decide (((p + 1 : Nat) : Int) > 0) = true := decide_eq_true (by omega)
        have i3 : (0 : Int) < (p : Int) + 1 := by omega
        have i4 : IntKind.i64.wrap (p : Int) = (p : Int) := IntWalk.i64_in _ (by omega)
        have i6 : p < n := by omega
        clear hq hge
        obtain ⟨r, hls⟩ : ∃ r, lessK x1 x2 q.key q.seq = r := ⟨_, rfl⟩
        have hiff : Hid (r = true ↔ ∃ (_ : 0 < p + 1) (h2 : p + 1 - 1 < L.length), cmpE ⟨x1, x2, x3, x4⟩ L[p + 1 - 1] < 0) := Lib.hid (by
          have e : lessE ⟨x1, x2, x3, x4⟩ q = r := hls
          rw [less_cmp] at e
          simp only [Nat.add_sub_cancel]
          rw [← e, decide_eq_true_eq]
          exact ⟨fun h => ⟨by omega, hs, by rw [HQ.out]; exact h⟩, fun ⟨_, _, h⟩ => by rw [HQ.out] at h; exact h⟩)
        have HLS := Lib.hid hls
        clear hls
        go_wp2_with fail
        go_region_with (first
            | (go_at_call 56; refine (less_is _ _ _ _ _ _ _ _ _ r HLS.out).mono ?_; rintro e w5 ⟨rfl, hb5⟩; have hb6 : Hid (Below wr.heap.size wr w5) := Lib.hid (bel_drewG hb5)))
        all_goals go_wp2
        all_goals go_meet
        all_goals exact ⟨r, rfl, hiff, hb6⟩
    case rest =>
      obtain ⟨bb, rfl, hbb, hb6⟩ := hcut
      have hbz := hb.out.size
      have hx2 : Hid (wc.heap[w.heap.size]? = some (.cells (Ent.cells ⟨x1, x2, x3, x4⟩).toArray 26 (0, 0))) := Lib.hid ((hb6.out.block _ hxl).trans hx.out)
      have hb2 := hb.out.trans (hb6.out.mono hbz)
      cases bb with
      | true =>
        obtain ⟨h0, h2, hlt⟩ := hbb.out.1 rfl
        obtain ⟨p, rfl⟩ : ∃ p', p = p' + 1 := ⟨p - 1, by omega⟩
        have hws : IntKind.i64.wrap (((p + 1 : Nat) : Int) - 1) = (p : Int) := by rw [IntWalk.i64_in _ (by omega)]; omega
        have hge2 : Hid (∀ y ∈ L.drop p, cmpE ⟨x1, x2, x3, x4⟩ y < 0) := Lib.hid (by
          intro y hy
          rw [List.drop_eq_getElem_cons (by simpa using h2)] at hy
          rcases List.mem_cons.1 hy with rfl | hy
          · simpa using hlt
          · exact hge.out y hy)
        have HB2 := Lib.hid hb2
        clear hlt hge hbb hb2 y0 y1 y2 y3
        go_wp2
        go_roundw
        case rel => exact ⟨p, by omega, by go_num, hx2, HB2, hge2⟩
        case measure => simp [intOf]
      | false =>
        have hle : Hid (∀ (_ : 0 < p) (h2 : p - 1 < L.length), ¬ cmpE ⟨x1, x2, x3, x4⟩ L[p - 1] < 0) := Lib.hid fun h h2 h3 => absurd (hbb.out.2 ⟨h, h2, h3⟩) (by decide)
        clear hbb hx hb hb6 y0 y1 y2 y3
        obtain ⟨w2, rfl⟩ : ∃ w2, w2 = wc := ⟨_, rfl⟩
        have hxl2 := (Array.getElem?_eq_some_iff.1 hx2.out).1
        have y0 : w2.cell? ⟨w.heap.size, 0, none⟩ = some (.string x1) := by rw [cell_of_row _ _ 0 _ _ _ hx2.out]; rfl
        have y1 : w2.cell? ⟨w.heap.size, 1, none⟩ = some (.int .i64 x2) := by rw [cell_of_row _ _ 1 _ _ _ hx2.out]; rfl
        go_upto_region 4 with (fail)
        go_cut [45] (fun rv wc => ∃ bb : Bool, rv = .bool bb ∧ Hid (bb = true ↔ ∃ (_ : 0 < p) (h2 : p - 1 < L.length), cmpE L[p - 1] ⟨x1, x2, x3, x4⟩ = 0) ∧ Hid (Below w2.heap.size w2 wc))
        case first =>
          clear hle hge
          cases p with
          | zero =>
            have hno : Hid (false = true ↔ ∃ (_ : 0 < 0) (h2 : 0 - 1 < L.length), cmpE L[0 - 1] ⟨x1, x2, x3, x4⟩ = 0) := Lib.hid ⟨(fun h => by cases h), fun ⟨h, _⟩ => absurd h (by decide)⟩
            first
              | go_quiet (fail)
              | fail
            go_wp2
            go_meet
            case rel => exact ⟨false, rfl, hno, Lib.hid (below_drewG (Below.refl _ _) _)⟩
          | succ p =>
            obtain ⟨b, off, rfl, hB, hs, c0, c1, c2, c3⟩ := (HR.out.below hb2).ent (k := p) (by omega)
            obtain ⟨q, hq⟩ : ∃ q, L[p] = q := ⟨_, rfl⟩
            have HQ : Hid (L[p + 1 - 1]'(by simpa using hs) = q) := Lib.hid (by simpa using hq)
            rw [hq] at c0 c1 c2 c3
            obtain ⟨qk, qs, qd, qv⟩ := q
            simp only at c0 c1 c2 c3
            have i1 : (0 : Int) ≤ (p : Int) := by omega
            have i2 : (p : Int) < (n : Int) := by omega
            have hws : IntKind.i64.wrap (((p + 1 : Nat) : Int) - 1) = (p : Int) := by rw [IntWalk.i64_in _ (by omega)]; omega
            have hgt : decide (((p + 1 : Nat) : Int) > 0) = true := decide_eq_true (by omega)
            have hs1 : p + 1 - 1 < L.length := by simpa using hs
            clear hq c2 c3
            by_cases e1 : qk = x1
            · subst e1
              by_cases e2 : qs = x2
              · subst e2
                have hiff : Hid (true = true ↔ ∃ (_ : 0 < p + 1) (h2 : p + 1 - 1 < L.length), cmpE L[p + 1 - 1] ⟨qk, qs, x3, x4⟩ = 0) := Lib.hid ⟨fun _ => ⟨by omega, hs1, by rw [HQ.out]; exact cmpE_same rfl rfl⟩, fun _ => rfl⟩
                first
                  | go_quiet (fail)
                  | fail
                go_wp2
                go_meet
                case rel => exact ⟨true, rfl, Lib.hid (by simpa using hiff.out), Lib.hid (below_drewG (Below.refl _ _) _)⟩
              · have e3 : (qs == x2) = false := beq_eq_false_iff_ne.2 e2
                have hiff : Hid (false = true ↔ ∃ (_ : 0 < p + 1) (h2 : p + 1 - 1 < L.length), cmpE L[p + 1 - 1] ⟨qk, x2, x3, x4⟩ = 0) := Lib.hid ⟨(fun h => by cases h), fun ⟨_, _, h⟩ => by rw [HQ.out] at h; exact absurd (cmpE_zero h).2 e2⟩
                clear e2
                first
                  | go_quiet (fail)
                  | fail
                go_wp2
                go_meet
                case rel => exact ⟨false, rfl, hiff, Lib.hid (below_drewG (Below.refl _ _) _)⟩
            · have e3 := mg_ne e1
              have hiff : Hid (false = true ↔ ∃ (_ : 0 < p + 1) (h2 : p + 1 - 1 < L.length), cmpE L[p + 1 - 1] ⟨x1, x2, x3, x4⟩ = 0) := Lib.hid ⟨(fun h => by cases h), fun ⟨_, _, h⟩ => by rw [HQ.out] at h; exact absurd (cmpE_zero h).1 e1⟩
              clear e1
              first
                | go_quiet (fail)
                | fail
              go_wp2
              go_meet
              case rel => exact ⟨false, rfl, hiff, Lib.hid (below_drewG (Below.refl _ _) _)⟩
        case rest =>
          obtain ⟨bb, rfl, hbb, hb6⟩ := hcut
          clear y0 y1
          have hbz2 := hb2.size
          have hb3 : Below w.heap.size w wc := hb2.trans (hb6.out.mono hbz2)
          have hx3 : Hid (wc.heap[w.heap.size]? = some (.cells (Ent.cells ⟨x1, x2, x3, x4⟩).toArray 26 (0, 0))) := Lib.hid ((hb6.out.block _ hxl2).trans hx2.out)
          have hbz3 := hb3.size
          cases bb with
          | true =>
            obtain ⟨h0, h2, he⟩ := hbb.out.1 rfl
            have HRES : Hid (RNewPost B w (mergeL (S ++ [⟨x1, x2, x3, x4⟩])) (.returned (.slice A n c)) wc) := Lib.hid ⟨A, n, c, rfl, hnc, by rw [ins_at_same HMO.out h2 he]; exact (HR.out.below hb3).mono hbz3, hb3, HA.out⟩
            clear hge hle hbb he
            go_wp2
            go_ret
            exact HRES.out
          | false =>
            have HRES : Hid (mergeL (S ++ [⟨x1, x2, x3, x4⟩]) = L.take p ++ ⟨x1, x2, x3, x4⟩ :: L.drop p) := Lib.hid (ins_at_new HMO.out (by rw [← HML.out]; exact hp) hge.out (fun hq => by
              have h2 : p - 1 < L.length := by have := HML.out; omega
              have h3 := hle.out hq h2
              have h4 : ¬ cmpE L[p - 1] ⟨x1, x2, x3, x4⟩ = 0 := fun h => absurd (hbb.out.2 ⟨hq, h2, h⟩) (by decide)
              rw [cmpE_swap L[p - 1] ⟨x1, x2, x3, x4⟩] at h3
              omega))
            clear hge hle hbb hx2 hb2 hb6
            have hrt : Hid (Rd wc w.heap.size 4 A p (entv (L.take p))) := Lib.hid (by rw [← mg_take]; exact (HR.out.below hb3).take p hp)
            have hkc : p ≤ c := by omega
            have hxl3 := (Array.getElem?_eq_some_iff.1 hx3.out).1
            go_wp2_with (at_builtin; refine wpList_app rfl (.tmp 47) (.tmp 50) 22 rfl wc.heap.size 26 i0 _ 4 48 Try.underlying22 hi0 hz0 hz1 hz2 rfl (by omega) _ 0 [] w.heap.size A p c (entv (L.take p)) rfl (World.ownsRow_nil _ _ _ _) rfl (by exact hrt.out) (entv_cell _) ?c1 ?c2 ?c3 ?_)
            case c1 => omega
            case c2 => unfold maxLen; omega
            all_goals try (exact Nat.le_refl _)
            intro v4 w4 ho4 hu4 _
            have hb4 := hb3.trans (hu4.below (fun k hk e => by simp [Value.ownBlock] at e) hbz3)
            have hx4 : Hid (w4.heap[w.heap.size]? = some (.cells (Ent.cells ⟨x1, x2, x3, x4⟩).toArray 26 (0, 0))) := Lib.hid ((hu4.block _ hxl3 (by simp [Value.ownBlock])).trans hx3.out)
            have ho4' := own_mono ho4 hbz3
            have HO4 := Lib.hid ho4'
            have hbz4 := hb4.size
            clear ho4 hu4 hb3 hx3 ho4' hrt
            have y0 : w4.cell? ⟨w.heap.size, 0, none⟩ = some (.string x1) := by rw [cell_of_row _ _ 0 _ _ _ hx4.out]; rfl
            have y1 : w4.cell? ⟨w.heap.size, 1, none⟩ = some (.int .i64 x2) := by rw [cell_of_row _ _ 1 _ _ _ hx4.out]; rfl
            have y2 : w4.cell? ⟨w.heap.size, 2, none⟩ = some (.bool x3) := by rw [cell_of_row _ _ 2 _ _ _ hx4.out]; rfl
            have y3 : w4.cell? ⟨w.heap.size, 3, none⟩ = some (.string x4) := by rw [cell_of_row _ _ 3 _ _ _ hx4.out]; rfl
            go_wp2_with (at_builtin; refine wpList_push rfl (.tmp 52) (.tmp 54) 22 rfl w.heap.size 26 i0 _ 4 48 Try.underlying22 hi0 hz0 hz1 hz2 rfl (by omega) _ p (entv (L.take p)) #[.string x1, .int .i64 x2, .bool x3, .string x4] rfl (by exact HO4.out) rfl rfl (by simp [Value.oneCell']) ?d1 ?d2 ?d3 ?_)
            case d1 => omega
            case d2 => unfold maxLen; omega
            all_goals try (exact hbz4)
            intro v5 w5 ho5 hu5 _
            have hb5 := below_row hb4 hbz4 HO4.out (Nat.le_refl _) hu5
            have HO5 : Hid (w5.ownsRow w.heap.size 26 4 v5 (p + 1) (entv (L.take p ++ [⟨x1, x2, x3, x4⟩]))) := Lib.hid (by rw [entv_append, entv_one]; exact ho5)
            have hbz5 := hb5.size
            have hrw := HR.out.below hb5
            have HFIN : Hid (∀ v' (W : World), W.ownsRow w.heap.size 26 4 v' (p + 1 + (n - p)) (entv (L.take p ++ [⟨x1, x2, x3, x4⟩]) ++ entv (L.drop p)) → Below w.heap.size w W → RNewPost B w (mergeL (S ++ [⟨x1, x2, x3, x4⟩])) (.returned v') W) := Lib.hid (fun v' W h hb => by
              obtain ⟨A6, c6, rfl⟩ := own_shape h
              rw [← entv_append, List.append_assoc] at h
              refine ⟨A6, _, c6, rfl, own_cap h, ?_, hb, own_from (own_mono h hB0)⟩
              rw [HRES.out]
              exact Rd.own h)
            clear ho5 hu5 hb4 hx4 HO4 y0 y1 y2 y3 HRES
            by_cases hpc : p = c
            · subst hpc
              obtain rfl : n = p := by omega
              have HRD : Hid (∀ A', Rd w5 w.heap.size 4 A' 0 (entv (L.drop n))) := Lib.hid (fun A' => by
                rw [List.drop_eq_nil_of_le (by have := HML.out; omega)]
                exact Rd.nil)
              rw [Nat.sub_self] at HFIN
              clear hrw
              go_wp2_with (at_builtin; refine wpList_app rfl (.tmp 56) (.tmp 59) 22 rfl w.heap.size 26 i0 _ 4 48 Try.underlying22 hi0 hz0 hz1 hz2 rfl (by omega) _ (n + 1) (entv (L.take n ++ [⟨x1, x2, x3, x4⟩])) w.heap.size _ 0 _ (entv (L.drop n)) rfl (by exact HO5.out) rfl (by exact HRD.out _) (entv_cell _) ?e1 ?e2 ?e3 ?_)
              case e1 => omega
              case e2 => unfold maxLen; omega
              all_goals try (exact hbz5)
              intro v6 w6 ho6 hu6 _
              have hb6 := below_row hb5 hbz5 HO5.out (Nat.le_refl _) hu6
              have hfin := HFIN.out _ _ ho6 hb6
              clear ho6 hu6
              go_wp2
              go_ret
              exact hfin
            · cases A with
              | none =>
                have hn0 : n = 0 := by
                  rcases Nat.eq_zero_or_pos n with h | h
                  · exact h
                  · obtain ⟨_, h1, _⟩ := hrw.at_ h
                    cases h1
                have hp0 : n - p = 0 := by omega
                have HRD : Hid (∀ A', Rd w5 w.heap.size 4 A' (n - p) (entv (L.drop p))) := Lib.hid (fun A' => by
                  rw [List.drop_eq_nil_of_le (by have := HML.out; omega), hp0]
                  exact Rd.nil)
                clear hrw hn0 hp0
                go_wp2_with (at_builtin; refine wpList_app rfl (.tmp 56) (.tmp 59) 22 rfl w.heap.size 26 i0 _ 4 48 Try.underlying22 hi0 hz0 hz1 hz2 rfl (by omega) _ (p + 1) (entv (L.take p ++ [⟨x1, x2, x3, x4⟩])) w.heap.size _ (n - p) _ (entv (L.drop p)) rfl (by exact HO5.out) rfl (by exact HRD.out _) (entv_cell _) ?g1 ?g2 ?g3 ?_)
                case g1 => omega
                case g2 => unfold maxLen; omega
                all_goals try (exact hbz5)
                intro v6 w6 ho6 hu6 _
                have hb6 := below_row hb5 hbz5 HO5.out (Nat.le_refl _) hu6
                have hfin := HFIN.out _ _ ho6 hb6
                clear ho6 hu6
                go_wp2
                go_ret
                exact hfin
              | some ad =>
                have hrd := hrw.dropG p hp
                rw [mg_drop] at hrd
                have HRD := Lib.hid hrd
                clear hrd hrw
                go_wp2_with (at_builtin; refine wpList_app rfl (.tmp 56) (.tmp 59) 22 rfl w.heap.size 26 i0 _ 4 48 Try.underlying22 hi0 hz0 hz1 hz2 rfl (by omega) _ (p + 1) (entv (L.take p ++ [⟨x1, x2, x3, x4⟩])) w.heap.size _ (n - p) _ (entv (L.drop p)) rfl (by exact HO5.out) rfl (by exact HRD.out) (entv_cell _) ?h1 ?h2 ?h3 ?_)
                case h1 => omega
                case h2 => unfold maxLen; omega
                all_goals try (exact hbz5)
                intro v6 w6 ho6 hu6 _
                have hb6 := below_row hb5 hbz5 HO5.out (Nat.le_refl _) hu6
                have hfin := HFIN.out _ _ ho6 hb6
                clear ho6 hu6
                go_wp2
                go_ret
                exact hfin
end Go.Proofs.Ytcfgmkiohmbdlaa
