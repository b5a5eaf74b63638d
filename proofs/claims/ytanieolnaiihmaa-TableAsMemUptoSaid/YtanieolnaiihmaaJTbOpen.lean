/- Tables: table.Open, walked. -/
import Derived.Test.YtanieolnaiihmaaJTbOpP
import Derived.Test.YtanieolnaiihmaaJTbBld
import Derived.Test.YtanieolnaiihmaaBkDec
namespace Go.Proofs.Ytanieolnaiihmaa
open Go.RowKit
/-- A table lies in memory. -/
def TabAt (base : Nat) (W : World) (TB : Nat) (l : List Ent) : Prop :=
  base ≤ TB ∧ ∃ v, W.heap[TB]? = some (.cells #[.int .i64 (l.length : Int), .int .i64 (partN l : Int), v, .string (toB (bld (namesE l)))] 53 (0, 0)) ∧ W.ownsRow base 41 4 v l.length (entv l)
def OpenPost (w : World) (s : ByteArray) (e : Ending) (w' : World) : Prop :=
  Below w.heap.size w w' ∧ match openT s.data.toList with
    | none => e = .returned (.tuple #[.pointer none, .int .i64 10])
    | some l => ∃ TB, e = .returned (.tuple #[.pointer (some ⟨TB, 0, none⟩), .int .i64 0]) ∧ TabAt w.heap.size w' TB l
theorem OpenPost.no {w w' : World} {s : ByteArray} (hb : Below w.heap.size w w') (h : openT s.data.toList = none) : OpenPost w s (.returned (.tuple #[.pointer none, .int .i64 10])) w' := by
  refine ⟨hb, ?_⟩
  rw [h]
theorem own_capT {w : World} {base size n c : Nat} {e : TypeId} {A : Option Addr} {xs : List Value} (h : w.ownsRow base e size (.slice A n c) n xs) : n ≤ c := by
  rcases h.2 with ⟨h1, h2⟩ | ⟨g, cap, cur, h1, _, _, h2, _⟩
  · omega
  · injection h1 with _ _ h1
    omega
/-- What Open has so far. -/
structure OSt (w0 W : World) (g N c TB : Nat) (F : List ByteArray) (a b : Int) (v : Value) (es : List Ent) (fl : ByteArray) : Prop where
  row : W.heap[TB]? = some (.cells #[.int .i64 a, .int .i64 b, v, .string fl] 53 (0, 0))
  ent : W.ownsRow w0.heap.size 41 4 v es.length (entv es)
  pay : W.ownsRow w0.heap.size 9 1 (.slice (some ⟨g, 0, none⟩) N c) N (strv F)
  bel : Below w0.heap.size w0 W
  lo : w0.heap.size ≤ TB
section
variable {w0 W W' : World} {g N c TB : Nat} {F : List ByteArray} {a b : Int} {v : Value} {es : List Ent} {fl : ByteArray}
theorem OSt.below (h : OSt w0 W g N c TB F a b v es fl) (hb : Below W.heap.size W W') : OSt w0 W' g N c TB F a b v es fl :=
  ⟨box_at h.row (Upd.of_below (S := fun _ => False) hb) id, own_below h.ent hb, own_below h.pay hb, h.bel.trans (hb.mono h.bel.size), h.lo⟩
/-- More versions: the row, then its cell. -/
theorem OSt.more {v' : Value} {es' : List Ent} (h : OSt w0 W g N c TB F a b v es fl) (ho : W'.ownsRow w0.heap.size 41 4 v' es'.length (entv es')) (hu : Upd (fun k => v.ownBlock = some k) W W') :
    OSt w0 (W'.setCell ⟨TB, 2, none⟩ v') g N c TB F a b v' es' fl ∧ (W'.cell? ⟨TB, 2, none⟩ = some v ∧ W'.frozen? ⟨TB, 2, none⟩ = false) := by
  have key : ∀ (k : Nat) (cs : Array Value) (t : TypeId) (f : Nat × Nat), W.heap[k]? = some (.cells cs t f) → t ≠ 41 → v.ownBlock ≠ some k := fun k cs t f hb ht e => by
    obtain ⟨cs', h2⟩ := own_cells h.ent e
    exact cells_ne hb h2 ht rfl
  have pT := key _ _ _ _ h.row (by decide)
  have xr := box_at h.row hu pT
  have hs1 : Upd (fun k => k = TB) W' (W'.setCell ⟨TB, 2, none⟩ v') := (Upd.refl (fun k => k = TB) W').setCell ⟨TB, 2, none⟩ rfl v'
  have hp := own_upd h.pay hu (fun k e1 e2 => by
    obtain ⟨cs, h2⟩ := own_cells h.pay e1
    exact key _ _ _ _ h2 (by decide) e2)
  have hb : Below w0.heap.size w0 W' := h.bel.trans (hu.below (fun k hk e => by have := (h.ent.lt k e).1; omega) h.bel.size)
  refine ⟨⟨?_, own_upd ho hs1 (fun k e1 e2 => ?_), own_upd hp hs1 (fun k e1 e2 => ?_), hb.trans (hs1.below (fun k hk e => by have := h.lo; omega) hb.size), h.lo⟩, by rw [cell_of_row _ _ 2 _ _ _ xr]; rfl, frozen_of_row _ _ _ _ _ xr⟩
  · rw [heap_setCell_same W' TB 2 _ _ v' xr]; rfl
  · subst e2
    obtain ⟨cs, h2⟩ := own_cells ho e1
    exact cells_ne xr h2 (by decide) rfl
  · subst e2
    obtain ⟨cs, h2⟩ := own_cells hp e1
    exact cells_ne xr h2 (by decide) rfl
/-- The number of versions. -/
theorem OSt.count {a' : Int} (h : OSt w0 W g N c TB F a b v es fl) : OSt w0 (W.setCell ⟨TB, 0, none⟩ (.int .i64 a')) g N c TB F a' b v es fl := by
  have hs1 : Upd (fun k => k = TB) W (W.setCell ⟨TB, 0, none⟩ (.int .i64 a')) := (Upd.refl (fun k => k = TB) W).setCell ⟨TB, 0, none⟩ rfl _
  refine ⟨?_, own_upd h.ent hs1 (fun k e1 e2 => ?_), own_upd h.pay hs1 (fun k e1 e2 => ?_), h.bel.trans (hs1.below (fun k hk e => by have := h.lo; omega) h.bel.size), h.lo⟩
  · rw [heap_setCell_same W TB 0 _ _ _ h.row]; rfl
  · subst e2
    obtain ⟨cs, h2⟩ := own_cells h.ent e1
    exact cells_ne h.row h2 (by decide) rfl
  · subst e2
    obtain ⟨cs, h2⟩ := own_cells h.pay e1
    exact cells_ne h.row h2 (by decide) rfl
end
theorem openT_end {s : List UInt8} (h : (scanR s).2 ≠ s.length ∨ (framesT s).length < 3) : openT s = none := if_pos h
theorem openT_go {s : List UInt8} {n : Nat} (h : (scanR s).2 = s.length) (hn : (framesT s).length = n + 3) : openT s = (decAll ((framesT s).take n)).bind fun l => if (bldT l).2 = 0 ∧ (bldT l).1 = s then some l else none := by
  unfold openT
  rw [if_neg (by omega), show (framesT s).length - 3 = n by omega]
set_option maxHeartbeats 8000000 in
set_option maxRecDepth 20000 in
theorem open_any (w : World) (s : ByteArray) (hs : s.size ≤ 268435456) : Calls Try.prog 18 #[.string s] w (OpenPost w s) := by
  obtain ⟨i0, hi0, hz0, hz1, hz2⟩ := info_parts ent_info
  have hsl : s.data.toList.length = s.size := by simp
  obtain ⟨f1, f2⟩ := frames_sz s.data.toList
  have HF1 := Lib.hid f1
  have HSL := Lib.hid hsl
  obtain ⟨F, hF⟩ : ∃ F, framesT s.data.toList = F := ⟨_, rfl⟩
  obtain ⟨N, hN⟩ : ∃ N, F.length = N := ⟨_, rfl⟩
  obtain ⟨E, hE⟩ : ∃ E, (scanR s.data.toList).2 = E := ⟨_, rfl⟩
  have hN8 : 8 * N ≤ s.size := by rw [hF, hN] at f2; omega
  have hE2 : E ≤ s.size := by
    obtain ⟨_, h2, h3⟩ := scan_sz s.data.toList (s.data.toList.length + 1) 0 (Nat.zero_le _)
    unfold scanR at hE
    omega
  have HSC := Lib.hid (scan_any w s (by omega))
  have HFN : Hid (framesT s.data.toList = F ∧ F.length = N ∧ (scanR s.data.toList).2 = E ∧ (scanR s.data.toList).1.length = N) := Lib.hid ⟨hF, hN, hE, by rw [← hN, ← hF]; unfold framesT strsOf; rw [List.length_map]⟩
  clear f1 f2 hF hN hE
  go_enter Try.func18, Try.ntmps18
  go_wp2_with fail
  refine HSC.out.mono ?_
  rintro e w1 ⟨v1, rfl, ho1, hb1⟩
  rw [HFN.out.2.2.1]
  rw [HFN.out.2.2.2, show strsOf (scanR s.data.toList).1 = F from HFN.out.1] at ho1
  have hw3 : IntKind.i64.wrap ((N : Int) - 3) = (N : Int) - 3 := IntWalk.i64_in _ (by omega)
  obtain ⟨A1, c1, rfl⟩ := own_shape ho1
  have HO1 := Lib.hid ho1
  have HB1 := Lib.hid hb1
  clear ho1 hb1 HSC
  by_cases hend : E = s.size
  · subst hend
    by_cases hn3 : N < 3
    · have HNO : Hid (openT s.data.toList = none) := Lib.hid (openT_end (.inr (by rw [HFN.out.1, HFN.out.2.1]; exact hn3)))
      have hlt : (N : Int) - 3 < 0 := by omega
      clear HO1 HF1 HFN hE2 hsl
      go_wp2
      go_ret2
      exact OpenPost.no HB1.out HNO.out
    · obtain ⟨n, rfl⟩ : ∃ n, N = n + 3 := ⟨N - 3, by omega⟩
      obtain ⟨N, hN⟩ : ∃ N, n + 3 = N := ⟨_, rfl⟩
      rw [hN] at HFN HO1 hN8 hn3 hw3
      have HGO : Hid (openT s.data.toList = (decAll (F.take n)).bind fun l => if (bldT l).2 = 0 ∧ (bldT l).1 = s.data.toList then some l else none) := Lib.hid (by
        have := openT_go (s := s.data.toList) (n := n) (by rw [HFN.out.2.2.1, hsl]) (by rw [HFN.out.1, HFN.out.2.1, hN])
        rw [HFN.out.1] at this
        exact this)
      obtain ⟨g, c1, e, -, -, -, -⟩ := own_form HO1.out (by omega)
      injection e with e1 _ e3
      subst e1
      have hc1 := own_capT HO1.out
      obtain ⟨fl, hfl⟩ : ∃ fl, F[n + 1]? = some fl := by
        have := HFN.out.2.1
        exact ⟨F[n + 1]'(by omega), List.getElem?_eq_getElem _⟩
      have hn1 : n + 1 < N := by omega
      have yf : w1.cell? ⟨g, n + 1, none⟩ = some (.string fl) := by
        obtain ⟨ad, e, _, hc⟩ := (Rd.own HO1.out).at_ (by omega)
        injection e with e
        subst e
        have := hc (n + 1) (.string fl) (by simp [strv, hfl])
        rwa [add_zero_off] at this
      have hnz : ((N : Int) - 3) = (n : Int) := by omega
      have hw4 : IntKind.i64.wrap ((n : Int) + 1) = ((n + 1 : Nat) : Int) := by rw [IntWalk.i64_in _ (by omega)]; omega
      have hw3' : IntKind.i64.wrap ((N : Int) - 3) = (n : Int) := by rw [hw3, hnz]
      clear hw3
      have hge : ¬ ((n : Int) < 0) := by omega
      have hi1 : (0 : Int) ≤ ((n + 1 : Nat) : Int) := by omega
      have hi2 : ((n + 1 : Nat) : Int) < (N : Int) := by omega
      have hcap : (n : Int) ≤ (c1 : Int) := by omega
      have HFL := Lib.hid hfl
      subst e3
      clear hnz hfl hn3 hE2
      have h0 : Hid (OSt w (w1.alloc (.cells #[.int .i64 0, .int .i64 (n : Int), .slice none 0 0, .string fl] 53)) g N c1 w1.heap.size F 0 n (.slice none 0 0) [] fl) := Lib.hid (by
        have hx := heap_alloc_new w1 (.cells #[.int .i64 0, .int .i64 (n : Int), .slice none 0 0, .string fl] 53)
        have hu : Upd (fun _ => False) w1 (w1.alloc (.cells #[.int .i64 0, .int .i64 (n : Int), .slice none 0 0, .string fl] 53)) := (Upd.refl _ w1).alloc _
        exact ⟨hx, World.ownsRow_nil _ _ _ _, own_upd HO1.out hu (fun k e1 e2 => e2), HB1.out.trans (hu.below (fun k hk e => e) HB1.out.size), HB1.out.size⟩)
      obtain ⟨TB, hTB⟩ : ∃ x, w1.heap.size = x := ⟨_, rfl⟩
      rw [hTB] at h0
      go_wp2
      clear HO1 yf hi1 hi2 hw3' hw4 hsl
      go_loopw [46] (fun i wx => ∃ (k : Nat) (es : List Ent) (v : Value), i = .int .i64 (k : Int) ∧ k ≤ n ∧ Hid (decAll (F.take k) = some es) ∧ Hid (OSt w wx g N c1 TB F 0 n v es fl)) (fun i _ => n - (intOf i).toNat)
      case atStart => exact ⟨0, [], _, rfl, Nat.zero_le _, Lib.hid (by simp [decAll]), h0⟩
      case round =>
        obtain ⟨k, es, v, rfl, hk, hdec, hst⟩ := hrel
        by_cases hlt : k < n
        · obtain ⟨p, hp⟩ : ∃ p, F[k]? = some p := by
            have := HFN.out.2.1
            exact ⟨F[k]'(by omega), List.getElem?_eq_getElem _⟩
          have yp : wr.cell? ⟨g, k, none⟩ = some (.string p) := by
            obtain ⟨ad, e, _, hc⟩ := (Rd.own hst.out.pay).at_ (by omega)
            injection e with e
            subst e
            have := hc k (.string p) (by simp [strv, hp])
            rwa [add_zero_off] at this
          have hps : p.size ≤ 65536 := HF1.out p (by rw [HFN.out.1]; exact List.mem_of_getElem? hp)
          have HDE := Lib.hid (dec_any wr p (by omega))
          have hk0 : (0 : Int) ≤ (k : Int) := by omega
          have hkn : (k : Int) < (n : Int) := by omega
          have hkN : (k : Int) < (N : Int) := by omega
          have htk : F.take (k + 1) = F.take k ++ [p] := by
            rw [List.take_add_one, hp]; rfl
          cases hbk : rdBlock p.data.toList with
          | none =>
            have HNO : Hid (openT s.data.toList = none) := Lib.hid (by
              have h1 : decAll (F.take (k + 1)) = none := by rw [htk, decAll_snoc, hdec.out, hbk]; rfl
              have h2 : F.take n = F.take (k + 1) ++ (F.drop (k + 1)).take (n - (k + 1)) := by
                rw [← List.take_add]; congr 1; omega
              rw [HGO.out, h2, decAll_none h1]; rfl)
            rw [decR_no hbk] at HDE
            clear hbk htk hp hps HGO
            go_wp2_with fail
            refine HDE.out.mono ?_
            rintro e w2 ⟨v2, rfl, ho2, hb2⟩
            go_wp2
            go_ret2
            exact OpenPost.no (hst.out.below hb2).bel HNO.out
          | some pe =>
            have hdec2 : Hid (decAll (F.take (k + 1)) = some (es ++ pe)) := Lib.hid (by rw [htk, decAll_snoc, hdec.out, hbk]; rfl)
            have hroom := (open_okE (s := s.data.toList) (k := k + 1) (l := es ++ pe) (by rw [HSL.out]; exact hs) (by rw [HFN.out.1]; exact hdec2.out)).2
            rw [HSL.out, List.length_append] at hroom
            rw [decR_ok hbk] at HDE
            clear hbk htk hp hps
            go_wp2_with fail
            refine HDE.out.mono ?_
            rintro e w2 ⟨v2, rfl, ho2, hb2⟩
            have HST2 := Lib.hid (hst.out.below hb2)
            obtain ⟨A2, c2, rfl⟩ := own_shape ho2
            have hr2 := Rd.own ho2
            have y2 : w2.cell? ⟨TB, 2, none⟩ = some v := by rw [cell_of_row _ _ 2 _ _ _ HST2.out.row]; rfl
            clear ho2 hb2 HDE hst yp
            go_wp2_with (at_builtin; refine wpList_app rfl (.tmp 61) (.tmp 62) 31 rfl w.heap.size 41 i0 _ 4 48 Try.underlying31 hi0 hz0 hz1 hz2 rfl (by omega) v es.length (entv es) w2.heap.size A2 pe.length c2 (entv pe) rfl (by exact HST2.out.ent) rfl (by exact hr2) (entv_cell pe) ?c1 ?c2 ?c3 ?_)
            case c1 => omega
            case c2 => unfold maxLen; omega
            case c3 => exact HST2.out.bel.size
            intro v3 w3 ho3 hu3 hat3
            rw [← entv_append, ← List.length_append] at ho3
            obtain ⟨A3, c3, rfl⟩ := own_shape ho3
            obtain ⟨hs3, hc3, hf3⟩ := HST2.out.more ho3 hu3
            rw [List.length_append] at hs3
            have HS3 := Lib.hid hs3
            clear ho3 hu3 hat3 hs3 hr2 y2 HST2
            go_wp2
            go_roundw
            case rel => exact ⟨k + 1, es ++ pe, _, by simp, by omega, hdec2, HS3⟩
            case measure => simp [intOf]; omega
        · obtain rfl : k = n := by omega
          have hz : ¬ (k : Int) < (k : Int) := by omega
          obtain ⟨hokE, hel⟩ := open_okE (s := s.data.toList) (k := k) (l := es) (by rw [HSL.out]; exact hs) (by rw [HFN.out.1]; exact hdec.out)
          rw [HSL.out] at hel
          have HOE := Lib.hid hokE
          obtain ⟨A3, c3, rfl⟩ := own_shape hst.out.ent
          have y2 : wr.cell? ⟨TB, 2, none⟩ = some (.slice A3 es.length c3) := by rw [cell_of_row _ _ 2 _ _ _ hst.out.row]; rfl
          have y0 : wr.cell? ⟨TB, 0, none⟩ = some (.int .i64 0) := by rw [cell_of_row _ _ 0 _ _ _ hst.out.row]; rfl
          have f0 : wr.frozen? ⟨TB, 0, none⟩ = false := frozen_of_row _ _ _ _ _ hst.out.row
          obtain ⟨W4, hW4⟩ : ∃ W, wr.setCell ⟨TB, 0, none⟩ (.int .i64 (es.length : Int)) = W := ⟨_, rfl⟩
          have hs4 := hst.out.count (a' := (es.length : Int))
          rw [hW4] at hs4
          have y4 : W4.cell? ⟨TB, 2, none⟩ = some (.slice A3 es.length c3) := by rw [cell_of_row _ _ 2 _ _ _ hs4.row]; rfl
          have HTB := Lib.hid (tbuild_any W4 A3 es.length c3 es (S := 65536) (by omega) HOE.out (Rd.own hs4.ent) (own_capT hs4.ent))
          have HS4 := Lib.hid hs4
          clear hs4 hokE hst hlt
          have hg2 : Hid (openT s.data.toList = if (bldT es).2 = 0 ∧ (bldT es).1 = s.data.toList then some es else none) := Lib.hid (by rw [HGO.out, hdec.out]; rfl)
          obtain ⟨T, hT⟩ : ∃ T : ByteArray, (⟨(bldT es).1.toArray⟩ : ByteArray) = T := ⟨_, rfl⟩
          obtain ⟨q, hq⟩ : ∃ q, (bldT es).2 = q := ⟨_, rfl⟩
          rw [hT, hq] at HTB
          have HTQ : Hid ((bldT es).1 = T.data.toList ∧ (bldT es).2 = q) := Lib.hid ⟨by rw [← hT], hq⟩
          clear hT hq
          by_cases hq0 : q = 0
          · subst hq0
            by_cases hts : T = s
            · subst hts
              have hyes : openT T.data.toList = some es := by rw [hg2.out, if_pos ⟨HTQ.out.2, HTQ.out.1⟩]
              obtain ⟨_, _, hfr, _⟩ := open_some hyes
              rw [HFN.out.1] at hfr
              have hkp : k = partN es := by
                have h1 := allP_len es
                rw [← hfr, HFN.out.2.1] at h1
                omega
              have hflt : fl = toB (bld (namesE es)) := by
                have h1 := HFL.out
                rw [hfr] at h1
                unfold allP at h1
                rw [List.getElem?_append_right (by rw [paysE_len]; omega), paysE_len, show k + 1 - partN es = 1 by omega] at h1
                simpa using h1.symm
              have HYES := Lib.hid hyes
              have HKP := Lib.hid (And.intro hkp hflt)
              have hbe : (T.toList == T.toList) = true := by simp
              clear hyes hfr hkp hflt hg2 HGO HFN HFL
              go_wp2_with fail
              refine HTB.out.mono ?_
              rintro e w5 ⟨rfl, hb5⟩
              have HEN := Lib.hid (HS4.out.below hb5)
              go_wp2
              go_ret2
              refine ⟨HEN.out.bel, ?_⟩
              rw [HYES.out]
              refine ⟨TB, rfl, HEN.out.lo, .slice A3 es.length c3, ?_, HEN.out.ent⟩
              rw [HEN.out.row, HKP.out.2, ← HKP.out.1]
            · have HNO : Hid (openT s.data.toList = none) := Lib.hid (by
                rw [hg2.out, if_neg]
                rintro ⟨_, h⟩
                rw [HTQ.out.1] at h
                exact hts (ByteArray.ext (Array.toList_inj.1 h)))
              have hbe : (T.toList == s.toList) = false := by rw [str_beq, decide_eq_false hts]
              clear hg2 HGO HFN HFL hts
              go_wp2_with fail
              refine HTB.out.mono ?_
              rintro e w5 ⟨rfl, hb5⟩
              have HEN := Lib.hid (HS4.out.below hb5)
              go_wp2
              go_ret2
              exact OpenPost.no HEN.out.bel HNO.out
          · have HNO : Hid (openT s.data.toList = none) := Lib.hid (by
              rw [hg2.out, if_neg]
              rintro ⟨h, _⟩
              exact hq0 (HTQ.out.2.symm.trans h))
            have hqn : ¬ ((q : Int) = 0) := by omega
            clear hg2 HGO HFN HFL hq0
            go_wp2_with fail
            refine HTB.out.mono ?_
            rintro e w5 ⟨rfl, hb5⟩
            have HEN := Lib.hid (HS4.out.below hb5)
            go_wp2
            go_ret2
            exact OpenPost.no HEN.out.bel HNO.out
  · have HNO : Hid (openT s.data.toList = none) := Lib.hid (openT_end (.inl (by rw [HFN.out.2.2.1, hsl]; exact hend)))
    have hne : ¬ ((E : Int) = (s.size : Int)) := by omega
    clear HO1 HF1 HFN hE2 hsl hend
    go_wp2
    go_ret2
    exact OpenPost.no HB1.out HNO.out
end Go.Proofs.Ytanieolnaiihmaa
