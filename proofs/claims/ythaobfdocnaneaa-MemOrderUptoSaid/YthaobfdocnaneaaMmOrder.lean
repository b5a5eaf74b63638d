/- Tables in memory: MemOrder, walked. -/
import Derived.Test.YthaobfdocnaneaaMmOrderP
import Derived.Test.YthaobfdocnaneaaMmApart
import Derived.Maps.OwnOps
import Derived.Maps.OwnSet
import Derived.Maps.Views
import Derived.DeepKeys4
import Derived.MapViews
import Derived.Lib.SmallJoins
import Derived.Deep.RegionWith
import Derived.Deep.RegionHeld3
namespace Go.Proofs.Ythaobfdocnaneaa
open Go.RowKit
open Go.Maps (Keyed)
theorem entKeyed : Keyed Try.prog 27 :=
  Keyed.of_law (deep_law_laid (by kernel_rfl) (m := 2) (by omega) (of_decide_eq_true (by kernel_rfl)) (by kernel_rfl) (by rw [Try.underlying27]))
def keyV (x : Ent) : Value := .agg #[.string x.key, .int .i64 x.seq, .bool false, .string ⟨#[]⟩]
theorem keyV_key (w : World) (x : Ent) (h1 : x.key.size ≤ maxLen) (h2 : -9223372036854775808 ≤ x.seq ∧ x.seq ≤ 9223372036854775807) : ∃ kl, keyOf Try.prog 27 (keyV x) = some kl := by
  have hc : Try.prog.cellsOf 27 = 4 := by kernel_rfl
  have k0 : Try.prog.cellsOf 9 = 1 := by kernel_rfl
  have k1 : Try.prog.cellsOf 3 = 1 := by kernel_rfl
  have k2 : Try.prog.cellsOf 4 = 1 := by kernel_rfl
  have hw : (Lit.int .i64 x.seq).wf = true := by simp [Lit.wf]; exact h2
  have ht := Go.Joins.trod_struct4_mk (H := Unit) (enc := fun _ => ()) (w := w) (base := 0) (spare := fun _ => true) (held := true) (n := 1) (cs := [.string x.key, .int .i64 x.seq, .bool false, .string ⟨#[]⟩])
    (y0 := (.lit (.string x.key.data.toList), [])) (y1 := (.lit (.int .i64 x.seq), [])) (y2 := (.lit (.bool false), [])) (y3 := (.lit (.string []), [])) Try.underlying27 (by rw [hc]; rfl)
    (by simp [k0, DataW.trod, Try.underlying9, h1]) (by simp [k1, DataW.trod, Try.underlying3, hw]) (by simp [k2, DataW.trod, Try.underlying4]) (by simp [k0, DataW.trod, Try.underlying9]; exact Nat.zero_le _)
  exact ⟨_, (keyOf_asKey (by kernel_rfl) (by rw [Try.underlying27]) (v := keyV x) (by simp [keyV, Value.formed, Try.underlying27, hc]) ⟨2, ht⟩).1⟩
theorem zeroInt (w : World) : (zeroValue 3).run Try.prog w = .ok (.int .i64 0) w := by kernel_rfl
theorem ownsMap_upd {S : Nat → Prop} {w w' : World} {b n : Nat} {D : DataW Unit} {R : Value → Option (DataW Unit × List MemPlace)} {K : TypeId} (h : w.ownsMap Try.prog K R b n D) (hu : Upd S w w') (hs : ¬ S b) : w'.ownsMap Try.prog K R b n D := by
  have hlt := h.lt
  obtain ⟨es, clock, hb, F, hs', hD⟩ := h
  exact ⟨es, clock, (hu.block b hlt hs).trans hb, F, hs', hD⟩
/-- What the map of those that were seen says. -/
def SeenE (D : DataW Unit) (M : List Ent) : Prop := ∀ (x : Ent) kl, keyOf Try.prog 27 (keyV x) = some kl → D.atKey kl (.lit (.int .i64 0)) = .lit (.int .i64 (if hasE M x = true then 1 else 0))
theorem seen_none : SeenE (.map []) [] := fun _ _ _ => rfl
theorem seen_put {D : DataW Unit} {M : List Ent} {q : Ent} {kq : Lit} (h : SeenE D M) (hD : Maps.IsMap D) (hq : keyOf Try.prog 27 (keyV q) = some kq) : SeenE (D.put kq (.lit (.int .i64 1))) (M ++ [q]) := by
  intro x kl hx
  by_cases e : kl = kq
  · subst e
    have h1 := entKeyed.inj hx hq
    unfold keyV at h1
    have h2 : x.key = q.key ∧ x.seq = q.seq := by
      injection h1 with h1
      have a0 := congrArg (fun a => a[0]?) h1
      have a1 := congrArg (fun a => a[1]?) h1
      simp at a0 a1
      exact ⟨a0, a1⟩
    rw [Maps.atKey_put_same hD (entKeyed.key hq), hasE_snoc, h2.1, h2.2]
    simp
  · rw [Maps.atKey_put_other e, h x kl hx, hasE_snoc]
    have h2 : (decide (q.key = x.key) && decide (q.seq = x.seq)) = false := by
      rw [Bool.and_eq_false_iff, decide_eq_false_iff_not, decide_eq_false_iff_not]
      by_cases h3 : q.key = x.key
      · refine .inr fun h4 => e ?_
        have : keyV q = keyV x := by unfold keyV; rw [h3, h4]
        rw [this, hx] at hq
        injection hq
      · exact .inl h3
    rw [h2, Bool.or_false]
theorem rises_of {L : List Ent} (h : L.Pairwise fun a b => cmpE a b < 0) : risesTo L L.length := fun j hj _ => by
  have := List.pairwise_iff_getElem.1 h j (j + 1) (by omega) hj (by omega)
  rw [less_cmp]
  exact decide_eq_true this
theorem rising_yes (w : World) (A : Option Addr) (n c : Nat) (L : List Ent) (hr : Rd w w.heap.size 4 A n (entv L)) (hn : n ≤ 1099511627776) (h : L.Pairwise fun a b => cmpE a b < 0) :
    Calls Try.prog 12 #[.slice A n c] w fun e w' => e = .returned (.bool true) ∧ Below w.heap.size w w' :=
  (rising_any w A n c L hr hn).mono fun e w' ⟨r, he, hri, hb⟩ => ⟨by rw [he, hri.2 (rises_of h)], hb⟩
theorem sizE_rev (l : List Ent) : sizE l.reverse = sizE l := by
  induction l with
  | nil => rfl
  | cons x l ih =>
    rw [List.reverse_cons, sizE_append, ih]
    have : sizE (x :: l) = sizE [x] + sizE l := sizE_append [x] l
    omega
theorem sizE_drop (l : List Ent) (k : Nat) : sizE (l.drop k) ≤ sizE l := by
  have : sizE l = sizE (l.take k) + sizE (l.drop k) := by rw [← sizE_append, List.take_append_drop]
  omega
set_option maxHeartbeats 8000000 in
set_option maxRecDepth 20000 in
theorem order_any (w : World) (A0 : Option Addr) (n0 c0 : Nat) (a : List Int) (hr0 : Rd w w.heap.size 1 A0 n0 (a.map (Value.int .i64))) (hn0 : n0 ≤ 1048576) (A1 : Option Addr) (n1 c1 : Nat) (b : List Int) (hr1 : Rd w w.heap.size 1 A1 n1 (b.map (Value.int .i64))) (hn1 : n1 ≤ 1048576)
    (A : Option Addr) (n c : Nat) (l : List Ent) (hr : Rd w w.heap.size 4 A n (entv l)) (hn : n ≤ 1048576)
    (hok : ∀ x ∈ l, (-9223372036854775808 ≤ x.seq ∧ x.seq ≤ 9223372036854775807) ∧ x.key.size ≤ 1048576) (hz : sizE l ≤ 2097152) :
    Calls Try.prog 3 #[.slice A0 n0 c0, .slice A1 n1 c1, .slice A n c] w fun e w' => e = .returned (.bool true) ∧ Below w.heap.size w w' := by
  obtain ⟨i0, hi0, hz0, hz1, hz2⟩ := info_parts ent_info
  have hmm := @run_makeMap Try.prog
  have HR0 := Lib.hid hr0
  have HR1 := Lib.hid hr1
  have HR := Lib.hid hr
  have HML := Lib.hid (rd_entlen hr)
  have HNA : Hid (a.length = n0) := Lib.hid (by have := hr0.len; simpa using this)
  have HNB : Hid (b.length = n1) := Lib.hid (by have := hr1.len; simpa using this)
  have HZ := Lib.hid hz
  have HOK := Lib.hid hok
  clear hr0 hr1 hr hz hok
  go_enter Try.func3, Try.ntmps3
  go_wp2_with fail
  refine (mlives_any _).mono ?_
  rintro e w1 ⟨rfl, hb1⟩
  have HB1 := Lib.hid hb1
  have hB1 := hb1.size
  have hmade := World.ownsMap_made (H := Unit) w1 Try.prog 27 (plainElem Try.prog 3)
  have HMADE := Lib.hid hmade
  clear hb1 hmade
  go_wp2
  go_loopw [7, 20] (fun ov i wx => ∃ (k : Nat) (M : List Ent) (D : DataW Unit), k ≤ n ∧ i = .int .i64 (k : Int) ∧ Hid (M = onceE (l.take k)) ∧ Hid (wx.ownsRow (w1.heap.size + 1) 27 4 ov M.length (entv M)) ∧ M.length ≤ k ∧ Hid (wx.ownsMap Try.prog 27 (plainElem Try.prog 3) w1.heap.size k D) ∧ Hid (SeenE D M) ∧ Hid (Below w1.heap.size w1 wx)) (fun _ i _ => n - (intOf i).toNat)
  case atStart => exact ⟨0, [], .map [], Nat.zero_le _, rfl, Lib.hid rfl, Lib.hid (World.ownsRow_nil _ _ _ _), Nat.le_refl _, HMADE, Lib.hid seen_none, Lib.hid ((Below.refl _ _).alloc (Nat.le_refl _) _)⟩
  case round =>
    clear HMADE
    obtain ⟨k, M, D, hkn, rfl, hM, hmv, hlen, hmap, hseen, hb⟩ := hrel
    have hbz := hb.out.size
    have hbl := hmap.out.lt
    by_cases hlt : k < n
    · have hbw := HB1.out.trans (hb.out.mono hB1)
      have hrx := HR.out.below hbw
      obtain ⟨bb, off, rfl, hB, hs, d0, d1, d2, d3⟩ := hrx.ent hlt
      obtain ⟨q, hq⟩ : ∃ q, l[k] = q := ⟨_, rfl⟩
      have hqo := HOK.out _ (List.getElem_mem hs)
      have hst : onceE (l.take (k + 1)) = putO M q := by rw [List.take_succ_eq_append_getElem hs, hq, onceE_snoc, hM.out]
      have HST := Lib.hid hst
      rw [hq] at d0 d1 d2 d3 hqo
      obtain ⟨kl, hkl⟩ := keyV_key w q (Nat.le_trans hqo.2 (by unfold maxLen; omega)) hqo.1
      have hat := hseen.out q kl hkl
      have HAT := Lib.hid hat
      obtain ⟨qk, qs, qd, qv⟩ := q
      change wr.cell? ⟨bb, off + k * 4, none⟩ = some (.string qk) at d0
      change wr.cell? ⟨bb, off + k * 4 + 1, none⟩ = some (.int .i64 qs) at d1
      change wr.cell? ⟨bb, off + k * 4 + 2, none⟩ = some (.bool qd) at d2
      change wr.cell? ⟨bb, off + k * 4 + 3, none⟩ = some (.string qv) at d3
      have HKL : Hid (keyOf Try.prog 27 (.agg #[.string qk, .int .i64 qs, .bool false, .string ⟨#[]⟩]) = some kl) := Lib.hid hkl
      have j1 : (0 : Int) ≤ (k : Int) := by omega
      have j2 : (k : Int) < (n : Int) := by omega
      have hml := (hmap.out.alloc (.cells #[.string qk, .int .i64 qs, .bool qd, .string qv] 27)).alloc (.cells #[.string qk, .int .i64 qs, .bool false, .string ⟨#[]⟩] 27)
      have HML2 := Lib.hid hml
      have hba : Below w1.heap.size w1 ((wr.alloc (.cells #[.string qk, .int .i64 qs, .bool qd, .string qv] 27)).alloc (.cells #[.string qk, .int .i64 qs, .bool false, .string ⟨#[]⟩] 27)) := (hb.out.alloc hbz _).alloc (by simp; omega) _
      have HBA := Lib.hid hba
      have hml3 := HML2.out
      clear hq hrx hbw hst hat hkl hml hqo hba
      go_wp2_with (at_lookup; refine wpList_lookup_own_int _ rfl _ _ 25 rfl 27 3 .i64 entKeyed Try.underlying25 Try.underlying3 (zeroInt _) w1.heap.size k D rfl hml3 _ kl rfl HKL.out ?_)
      intro cc hcc _
      have hout := HAT.out.symm.trans hcc
      clear hcc hml3
      have hba1 := below_alloc wr (.cells #[.string qk, .int .i64 qs, .bool qd, .string qv] 27)
      have hba2 : Below wr.heap.size wr ((wr.alloc (.cells #[.string qk, .int .i64 qs, .bool qd, .string qv] 27)).alloc (.cells #[.string qk, .int .i64 qs, .bool false, .string ⟨#[]⟩] 27)) := hba1.alloc hba1.size _
      have HOA := Lib.hid (own_below hmv.out hba2)
      have hvl : Hid (∀ x, u7.ownBlock = some x → w1.heap.size + 1 ≤ x ∧ x < wr.heap.size) := Lib.hid fun x e => hmv.out.lt x e
      cases hh : hasE M ⟨qk, qs, qd, qv⟩ with
      | true =>
        rw [hh, if_pos rfl] at hout
        obtain rfl : cc = 1 := by injection hout with h; injection h with h1 h; exact h.symm
        have HM2 : Hid (M = onceE (l.take (k + 1))) := Lib.hid (by rw [HST.out, putO, if_pos hh])
        have HMP := Lib.hid (HML2.out.mono (Nat.le_succ k))
        clear hh hout hba1 hba2 HST HAT
        go_wp2
        go_roundw
        case rel => exact ⟨k + 1, M, D, hlt, by go_num, HM2, HOA, by omega, HMP, hseen, HBA⟩
        case measure => simp [intOf]; omega
      | false =>
        rw [hh, if_neg (by decide)] at hout
        obtain rfl : cc = 0 := by injection hout with h; injection h with h1 h; exact h.symm
        have HM2 : Hid (M ++ [⟨qk, qs, qd, qv⟩] = onceE (l.take (k + 1))) := Lib.hid (by rw [HST.out, putO, if_neg (by rw [hh]; decide)])
        obtain ⟨A7, c7, rfl⟩ := own_shape hmv.out
        clear hh hout hba1 hba2 HST HAT hmv
        have hxr : ((wr.alloc (.cells #[.string qk, .int .i64 qs, .bool qd, .string qv] 27)).alloc (.cells #[.string qk, .int .i64 qs, .bool false, .string ⟨#[]⟩] 27)).heap[wr.heap.size]? = some (.cells #[.string qk, .int .i64 qs, .bool qd, .string qv] 27 (0, 0)) := by
          rw [heap_alloc_old _ _ (by simp)]
          exact heap_alloc_new _ _
        have hkr0 : ((wr.alloc (.cells #[.string qk, .int .i64 qs, .bool qd, .string qv] 27)).alloc (.cells #[.string qk, .int .i64 qs, .bool false, .string ⟨#[]⟩] 27)).heap[wr.heap.size + 1]? = some (.cells #[.string qk, .int .i64 qs, .bool false, .string ⟨#[]⟩] 27 (0, 0)) := by
          have := heap_alloc_new (wr.alloc (.cells #[.string qk, .int .i64 qs, .bool qd, .string qv] 27)) (.cells #[.string qk, .int .i64 qs, .bool false, .string ⟨#[]⟩] 27)
          simpa using this
        generalize (wr.alloc (.cells #[.string qk, .int .i64 qs, .bool qd, .string qv] 27)).alloc (.cells #[.string qk, .int .i64 qs, .bool false, .string ⟨#[]⟩] 27) = wA at hxr hkr0 HML2 HBA HOA ⊢
        have x0 : wA.cell? ⟨wr.heap.size, 0, none⟩ = some (.string qk) := by rw [cell_of_row _ _ 0 _ _ _ hxr]; rfl
        have x1 : wA.cell? ⟨wr.heap.size, 1, none⟩ = some (.int .i64 qs) := by rw [cell_of_row _ _ 1 _ _ _ hxr]; rfl
        have x2 : wA.cell? ⟨wr.heap.size, 2, none⟩ = some (.bool qd) := by rw [cell_of_row _ _ 2 _ _ _ hxr]; rfl
        have x3 : wA.cell? ⟨wr.heap.size, 3, none⟩ = some (.string qv) := by rw [cell_of_row _ _ 3 _ _ _ hxr]; rfl
        have hkl1 := (Array.getElem?_eq_some_iff.1 hkr0).1
        have hbz2 : w1.heap.size + 1 ≤ wA.heap.size := by omega
        clear hxr
        go_wp2_with (at_builtin; refine wpList_push rfl (.tmp 33) (.tmp 35) 23 rfl (w1.heap.size + 1) 27 i0 _ 4 48 Try.underlying23 hi0 hz0 hz1 hz2 rfl (by omega) _ M.length (entv M) #[.string qk, .int .i64 qs, .bool qd, .string qv] rfl (by exact HOA.out) rfl rfl (by simp [Value.oneCell']) ?c1 ?c2 ?c3 ?_)
        case c1 => omega
        case c2 => unfold maxLen; omega
        all_goals try (exact hbz2)
        intro v2 w2 ho2 hu2 _
        have hmap2 := ownsMap_upd HML2.out hu2 (fun e => by have := (hvl.out _ e).1; omega)
        have hkr : w2.heap[wr.heap.size + 1]? = some (.cells #[.string qk, .int .i64 qs, .bool false, .string ⟨#[]⟩] 27 (0, 0)) := by
          rw [hu2.block _ hkl1 (fun e => by have := (hvl.out _ e).2; omega)]
          exact hkr0
        have k0 : w2.cell? ⟨wr.heap.size + 1, 0, none⟩ = some (.string qk) := by rw [cell_of_row _ _ 0 _ _ _ hkr]; rfl
        have k1 : w2.cell? ⟨wr.heap.size + 1, 1, none⟩ = some (.int .i64 qs) := by rw [cell_of_row _ _ 1 _ _ _ hkr]; rfl
        have k2 : w2.cell? ⟨wr.heap.size + 1, 2, none⟩ = some (.bool false) := by rw [cell_of_row _ _ 2 _ _ _ hkr]; rfl
        have k3 : w2.cell? ⟨wr.heap.size + 1, 3, none⟩ = some (.string ⟨#[]⟩) := by rw [cell_of_row _ _ 3 _ _ _ hkr]; rfl
        have HO2 : Hid (w2.ownsRow (w1.heap.size + 1) 27 4 v2 (M ++ [(⟨qk, qs, qd, qv⟩ : Ent)]).length (entv (M ++ [(⟨qk, qs, qd, qv⟩ : Ent)]))) := Lib.hid (by rw [entv_append, entv_one, List.length_append]; exact ho2)
        have HB2 := Lib.hid (HBA.out.trans (hu2.below (fun x h1 e => by have := (hvl.out _ e).1; omega) (by omega)))
        have hz2' : w1.heap.size ≤ w2.heap.size := HB2.out.size
        have HSP := Lib.hid (seen_put (q := ⟨qk, qs, qd, qv⟩) hseen.out hmap2.isMap HKL.out)
        clear hkr hkr0 ho2 hu2 HOA x0 x1 x2 x3
        go_wp2_with (at_mapUpdate; refine wpList_mapUpdate_own _ rfl _ _ _ 25 rfl 27 3 entKeyed Try.underlying25 _ w1.heap.size k D rfl hmap2 (by unfold maxLen; omega) _ _ kl rfl rfl HKL.out _ [] (plainElem_int Try.underlying3 (by decide)) ?_)
        intro w3 hmap3 hg3
        have hu3 := Upd.of_grown hg3
        have HO3 := Lib.hid (own_upd HO2.out hu3 (fun x e h => by injection h with h; have := (HO2.out.lt x e).1; omega))
        have HB3 := Lib.hid (HB2.out.trans (hu3.below (fun x h1 e => by injection e with e; omega) hz2'))
        have HMP3 := Lib.hid hmap3
        clear hmap2 hmap3 hg3 hu3 HO2 HB2 k0 k1 k2 k3
        go_wp2
        go_roundw
        case rel => exact ⟨k + 1, _, _, hlt, by go_num, HM2, HO3, by simp; omega, HMP3, HSP, HB3⟩
        case measure => simp [intOf]; omega
    · obtain rfl : k = n := by omega
      have htk : l.take k = l := List.take_of_length_le (by have := HML.out; omega)
      rw [htk] at hM
      obtain ⟨A7, c7, rfl, hnc7, hr7⟩ := own_full hmv.out
      have hML7 : Hid (∀ x, A7.map (·.block) = some x → x < wr.heap.size) := Lib.hid fun x e => by
        cases A7 with
        | none => cases e
        | some ad => injection e with e; exact (hmv.out.lt x (by rw [← e]; rfl)).2
      have HU : Hid (Unlike M) := Lib.hid (by rw [hM.out]; exact foldO_unlike _ _ List.Pairwise.nil)
      have HZM : Hid (sizE M ≤ 2097152) := Lib.hid (by have h1 := (foldO_len l []).2; have h2 : sizE ([] : List Ent) = 0 := rfl; have h3 := HZ.out; rw [hM.out]; unfold onceE; omega)
      have HRM := Lib.hid hr7
      have HBo := Lib.hid (HB1.out.trans (hb.out.mono hB1))
      clear htk hmap hseen hM hmv hr7 hb
      rename World => wo
      have hzo := HBo.out.size
      go_wp2_with fail
      refine (new_any _ A0 n0 c0 a ((HR0.out.below HBo.out).mono hzo) (by omega)).mono ?_
      rintro e w2 ⟨s, hvs, rfl, hsk, hb2⟩
      have HSK := Lib.hid hsk
      have HB2 := Lib.hid hb2
      have hz2 : wo.heap.size ≤ w2.heap.size := hb2.size
      clear hsk hb2
      go_wp2_with fail
      refine (new_any _ A1 n1 c1 b ((HR1.out.below (HBo.out.trans (HB2.out.mono hzo))).mono (Nat.le_trans hzo hz2)) (by omega)).mono ?_
      rintro e w3 ⟨t, hvt, rfl, htk, hb3⟩
      have HTK := Lib.hid htk
      have hsl := HSK.out.tlt
      have hhvt : Hid (∀ x, hvs.ownBlock = some x → x < w2.heap.size) := Lib.hid fun x e => (HSK.out.hown.lt x e).2
      have HSK3 := Lib.hid (HSK.out.below hb3)
      have HB3 := Lib.hid (HB2.out.trans (hb3.mono hz2))
      have hz3 : w2.heap.size ≤ w3.heap.size := hb3.size
      clear htk hb3 HB2 HSK
      have hhs : (highs a).length ≤ 17592186044416 := by rw [highs_len, HNA.out]; omega
      have hht : (highs b).length ≤ 17592186044416 := by rw [highs_len, HNB.out]; omega
      have HRM3 := Lib.hid ((HRM.out.below HB3.out).mono HB3.out.size)
      go_wp2_with fail
      refine (add_any _ HSK3.out A7 M.length c7 M HRM3.out (fun h0 ad e => foot_old HSK3.out (hML7.out _ (by rw [e]; rfl))) (by omega) (by omega) hhs (by simp; omega) (by have h1 := HZM.out; have h2 : sizE (ents ([] : List Nd)) = 0 := rfl; omega)).mono ?_
      rintro e w4 ⟨ns, ts, rfl, had⟩
      have HSE : Hid (ents ns = M.foldl insE []) := Lib.hid had.list
      have HSD := Lib.hid had.skip
      have HSF : Hid (∀ x, foot s ns x → x = s ∨ w3.heap.size ≤ x) := Lib.hid fun x hf => by
        rcases hf with h | ⟨d, hd, rfl⟩
        · exact .inl h
        · rcases had.new d hd with ⟨d0, h0, _⟩ | h
          · cases h0
          · exact .inr h
      have HTK4 := Lib.hid (HTK.out.upd had.upd (fun x h1 h2 hf => by
        rcases hf with rfl | ⟨d, hd, _⟩
        · omega
        · cases hd))
      have HRM4 := Lib.hid ((HRM3.out.upd had.upd (Nat.le_refl _) (fun h0 ad e => foot_old HSK3.out (hML7.out _ (by rw [e]; rfl)))).mono had.upd.size)
      have HB4 := Lib.hid (HBo.out.trans ((HB3.out.trans (had.below HSK3.out (Nat.le_refl _) (by omega))).mono hzo))
      have hz4 : w3.heap.size ≤ w4.heap.size := had.upd.size
      have htl := HTK.out.tlt
      clear had HB3 HTK HRM3 HBo HRM
      have hn1 : M.drop M.length = [] := List.drop_length
      have HN1 := Lib.hid hn1
      clear hn1
      go_wp2
      go_loopw [14] (fun i wx => ∃ (j : Nat) (nk : List Nd) (tk : Int), j ≤ M.length ∧ i = .int .i64 ((j : Int) - 1) ∧ Hid (Added w4 wx w2.heap.size t [] nk hvt (highs b) 0 tk (M.drop j).reverse)) (fun i _ => (intOf i + 1).toNat)
      case atStart => exact ⟨M.length, [], 0, Nat.le_refl _, rfl, Lib.hid (by rw [HN1.out]; exact Added.refl HTK4.out)⟩
      case round =>
        obtain ⟨j, nk, tk, hj, rfl, had⟩ := hrel
        have hzw : w4.heap.size ≤ wr.heap.size := had.out.upd.size
        by_cases hj0 : 0 < j
        · obtain ⟨i, rfl⟩ : ∃ i, j = i + 1 := ⟨j - 1, by omega⟩
          rw [show ((i + 1 : Nat) : Int) - 1 = (i : Int) by omega]
          have hrx := HRM4.out.upd had.out.upd (Nat.le_refl _) (fun h0 ad e => foot_old HTK4.out (by have := hML7.out ad.block (by rw [e]; rfl); omega))
          obtain ⟨bb, off, rfl, hB, hs, d0, d1, d2, d3⟩ := hrx.ent (k := i) (by omega)
          obtain ⟨q, hq⟩ : ∃ q, M[i] = q := ⟨_, rfl⟩
          have hst : (M.drop i).reverse = (M.drop (i + 1)).reverse ++ [q] := by rw [List.drop_eq_getElem_cons hs, List.reverse_cons, hq]
          have hzq : sizE (M.drop (i + 1)).reverse + sizE [q] ≤ 2097152 := by
            rw [← sizE_append, ← hst, sizE_rev]
            exact Nat.le_trans (sizE_drop M i) HZM.out
          have HZQ := Lib.hid hzq
          have HST := Lib.hid hst
          rw [hq] at d0 d1 d2 d3
          obtain ⟨qk, qs, qd, qv⟩ := q
          change wr.cell? ⟨bb, off + i * 4, none⟩ = some (.string qk) at d0
          change wr.cell? ⟨bb, off + i * 4 + 1, none⟩ = some (.int .i64 qs) at d1
          change wr.cell? ⟨bb, off + i * 4 + 2, none⟩ = some (.bool qd) at d2
          change wr.cell? ⟨bb, off + i * 4 + 3, none⟩ = some (.string qv) at d3
          have i1 : (0 : Int) ≤ (i : Int) := by omega
          have i2 : (i : Int) < (M.length : Int) := by omega
          have hba := below_alloc wr (.cells #[.string qk, .int .i64 qs, .bool qd, .string qv] 27)
          have HBA := Lib.hid hba
          have hlk := had.out.len
          have ht0 := had.out.turn0
          have ht1 := had.out.turn1
          rw [List.length_reverse, List.length_drop] at hlk ht1
          have hadd := add_any _ (had.out.skip.below hba) (some ⟨wr.heap.size, 0, none⟩) 1 1 [⟨qk, qs, qd, qv⟩] (rd_new wr 4 1 #[.string qk, .int .i64 qs, .bool qd, .string qv] 27 (entv [⟨qk, qs, qd, qv⟩]) rfl rfl) (fun _ ad e => by injection e with e; subst e; exact foot_new had.out.skip (Nat.le_refl _)) ht0 (by omega) hht (by simp at hlk; omega) (by
            have := had.out.size
            have h2 := HZQ.out
            have h3 : sizE (ents ([] : List Nd)) = 0 := rfl
            omega)
          have HADD := Lib.hid hadd
          clear hq hrx hst hzq hba hadd ht0 ht1 hlk
          go_wp2_with fail
          refine HADD.out.mono ?_
          rintro e w5 ⟨nk2, tk2, rfl, had2⟩
          have hsn := had.out.snoc (had2.before HBA.out)
          rw [← HST.out] at hsn
          have HSN := Lib.hid hsn
          clear had2 hsn had HADD HST
          go_wp2
          go_roundw
          case rel => exact ⟨i, nk2, tk2, by omega, by go_num, HSN⟩
          case measure => simp [intOf]
        · obtain rfl : j = 0 := by omega
          rw [show ((0 : Nat) : Int) - 1 = -1 by omega]
          rw [List.drop_zero] at had
          obtain ⟨heq, hln⟩ := order_eq HU.out HSD.out.rise had.out.skip.rise HSE.out had.out.list
          have hsk5 := HSD.out.updF had.out.upd (fun x h1 h2 => by
            have h3 := HSF.out x h1
            rcases h2 with rfl | ⟨d, hd, _⟩
            · have := HTK4.out.tbase
              omega
            · cases hd) (fun x h1 h2 => by
            have h3 := hhvt.out x h1
            rcases h2 with rfl | ⟨d, hd, _⟩
            · have := HTK4.out.tbase
              omega
            · cases hd)
          have hlk : nk.length = M.length := by
            have := congrArg List.length heq
            simp [ents] at this
            omega
          have htk5 := had.out.skip
          have hBx := HB4.out.trans (had.out.below HTK4.out (by have := HB4.out.size; omega) HB4.out.size)
          have HBX := Lib.hid hBx
          obtain ⟨L, hL⟩ : ∃ L, L = ents ns := ⟨_, rfl⟩
          have hLr : L.Pairwise fun a b => cmpE a b < 0 := by rw [hL]; exact ents_rise HSD.out.rise
          have HLR := Lib.hid hLr
          have hLl : L.length = M.length := by rw [hL]; simp [ents]; exact hln
          have HLL := Lib.hid hLl
          rw [← heq, ← hL, hlk] at htk5
          rw [← hL, hln] at hsk5
          rename World => wx
          have HAs := Lib.hid (fun W (hW : Below wx.heap.size wx W) => all_any W (hsk5.below hW) (by omega))
          rw [hln, show ns.map (·.x) = L from hL.symm] at HAs
          have HAt := Lib.hid (fun W (hW : Below wx.heap.size wx W) => all_any W (htk5.below hW) (by omega))
          rw [hlk, show nk.map (·.x) = L from by rw [hL, heq]; rfl] at HAt
          have HLs := Lib.hid (fun W (hW : Below wx.heap.size wx W) => len_any W (hsk5.below hW))
          have HYs := Lib.hid (fun W (hW : Below wx.heap.size wx W) => bytes_any W (hsk5.below hW))
          have HYt := Lib.hid (fun W (hW : Below wx.heap.size wx W) => bytes_any W (htk5.below hW))
          clear hL hLr hLl heq hln hlk hBx hsk5 htk5 had HN1 HZ HR HML HOK HR0 HR1 HSE HSD HSF HTK4 HRM4 hML7 HU HB4
          clear HZM
          have hM64 : M.length ≤ maxLen := by unfold maxLen; omega
          go_wp2_with fail
          go_region_held3 (fun W => Below wx.heap.size wx W) (first | exact hB2 | exact below_drewNs (Below.refl _ _) 1 | fail)
            (first
              | (go_at_call 11; refine (HAs.out _ (by assumption)).mono ?_; rintro e wa ⟨va, rfl, hoa, hba⟩; obtain ⟨Aa, ca, rfl, _, hra⟩ := own_full hoa; have hB2 : Below wx.heap.size wx wa := (by first | exact hB2.trans (hba.mono hB2.size) | exact bel_drew' hba); clear hoa)
              | (go_at_call 11; refine (HAt.out _ (by assumption)).mono ?_; rintro e wb ⟨vb, rfl, hob, hbb⟩; obtain ⟨Ab, cb, rfl, _, hrb⟩ := own_full hob; have hra2 := (hra.below hbb).mono hbb.size; have hB2 : Below wx.heap.size wx wb := hB2.trans (hbb.mono hB2.size); clear hob)
              | (go_at_call 10; refine (same6_yes Aa Ab M.length ca cb _ L _ hM64 hra2 hrb).mono ?_; rintro e wc ⟨rfl, m, hwc⟩; have hB2 : Below wx.heap.size wx wc := (by rw [hwc]; exact below_drewNs hB2 m); clear hwc)
              | (go_at_call 12; refine (rising_yes _ Aa M.length ca L hra (by omega) HLR.out).mono ?_; rintro e wd ⟨rfl, hbd⟩; have hB2 : Below wx.heap.size wx wd := hB2.trans (hbd.mono hB2.size); clear hbd)
              | (go_at_call 13; refine (HLs.out _ hB2).mono ?_; rintro e we ⟨rfl, hwe⟩; have hB2 : Below wx.heap.size wx we := (by rw [hwe]; exact hB2); clear hwe)
              | (go_at_call 14; refine (HYt.out _ hB2).mono ?_; rintro e wf ⟨rfl, hwf⟩; have hB2 : Below wx.heap.size wx wf := (by rw [hwf]; exact hB2); clear hwf)
              | (go_at_call 14; refine (HYs.out _ hB2).mono ?_; rintro e wg ⟨rfl, hwg⟩; have hB2 : Below wx.heap.size wx wg := (by rw [hwg]; exact hB2); clear hwg)
              | fail)
          all_goals go_wp2
          all_goals go_ret
          all_goals exact ⟨rfl, HBX.out.trans (hB2.mono HBX.out.size)⟩
end Go.Proofs.Ythaobfdocnaneaa
