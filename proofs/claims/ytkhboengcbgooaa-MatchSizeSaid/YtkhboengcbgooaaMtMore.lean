/- Matchings: MatchMore, walked. -/
import Derived.Test.YtkhboengcbgooaaMtSides
import Derived.Deep.RegionHeld3
namespace Go.Proofs.Ytkhboengcbgooaa
open Go.RowKit
section
variable {P : Program}
/-- 'append(s, xs...)' runs. -/
theorem app_run (w : World) (t ty : TypeId) (base : Nat) (e : TypeId) (i : TypeInfo) (z : Value) (size bytes : Nat) (ht : P.underlying t = some (.slice e)) (hi : P.info? e = some i) (hz : i.zero = some z)
    (hsize : i.size = size) (hby : i.bytes = bytes) (hzs : z.cells.size = size) (hsz : 0 < size)
    (v : Value) (n : Nat) (xs : List Value) (B : Nat) (A : Option Addr) (m c : Nat) (news : List Value) (hown : w.ownsRow base e size v n xs) (hr : Rd w B size A m news) (h1 : ∀ u ∈ news, u.oneCell' = true)
    (hbytes : (n + m) * bytes ≤ 140737488355328) (h63 : n + m ≤ maxLen) (hbase : base ≤ w.heap.size) :
    ∃ v' w', (Builtin.append_ #[t, t] ty #[v, .slice A m c]).run P w = .ok v' w' ∧ w'.ownsRow base e size v' (n + m) (xs ++ news) ∧ Upd (fun k => v.ownBlock = some k) w w' ∧ RowAt w v v' := by
  have some_case : ∀ ad, A = some ad → (∀ j u, news[j]? = some u → w.cell? (ad.add j) = some u) → ∃ v' w', (Builtin.append_ #[t, t] ty #[v, .slice A m c]).run P w = .ok v' w' ∧ w'.ownsRow base e size v' (n + m) (xs ++ news) ∧ Upd (fun k => v.ownBlock = some k) w w' ∧ RowAt w v v' := by
    rintro ad rfl hc
    obtain ⟨v', w', hrun, h2, h3, _, h5⟩ := run_append_own_at (P := P) w base t ty e i z size bytes ht hi hz hsize hby hzs hsz v n xs hown ad m c news hr.len hc h1 h63 hbytes hbase
    exact ⟨v', w', hrun, h2, Upd.of_grown h3, h5.imp id fun h => ⟨_, Nat.le_refl _, h⟩⟩
  by_cases hm : m = 0
  · subst hm
    have hn : news = [] := List.eq_nil_of_length_eq_zero (by simpa using hr.len)
    subst hn
    cases A with
    | none => exact ⟨v, w, run_append_empty (P := P) w base t ty e i size c ht hi v n xs hown, by simpa using hown, Upd.refl _ _, RowAt.refl _ _⟩
    | some ad => exact some_case ad rfl (by simp)
  · obtain ⟨ad, hA, _, hc⟩ := hr.at_ (by omega)
    exact some_case ad hA hc
/-- .. at a step of a region that draws. -/
theorem step_app {ops : Array Oper} {o : Oper} {a : Act} {w : World} {K : Act → World → Prop} {Q : Exit → Act → World → Prop} {E : Prop} (hgd : o.guard = none) (s x : Operand) (t : TypeId)
    (ho : o.op = .call { callee := .builtin .append, args := #[s, x], argTypes := #[t, t] })
    (base : Nat) (e : TypeId) (i : TypeInfo) (z : Value) (size bytes : Nat) (ht : P.underlying t = some (.slice e)) (hi : P.info? e = some i) (hz : i.zero = some z)
    (hsize : i.size = size) (hby : i.bytes = bytes) (hzs : z.cells.size = size) (hsz : 0 < size)
    (v : Value) (n : Nat) (xs : List Value) (B : Nat) (A : Option Addr) (m c : Nat) (news : List Value) (hs : a.eval s = v) (hown : w.ownsRow base e size v n xs) (hx : a.eval x = .slice A m c) (hr : Rd w B size A m news) (h1 : ∀ u ∈ news, u.oneCell' = true)
    (hbytes : (n + m) * bytes ≤ 140737488355328) (h63 : n + m ≤ maxLen) (hbase : base ≤ w.heap.size)
    (h : ∀ v' w', w'.ownsRow base e size v' (n + m) (xs ++ news) → Upd (fun k => v.ownBlock = some k) w w' → RowAt w v v' → K (a.put o.dst v') w') :
    if Region.wanted o (yielded ops a.tmps) = true then Oper.wp P o a w K Q else E := by
  have hw : Region.wanted o (yielded ops a.tmps) = true := by simp [Region.wanted, hgd]
  rw [if_pos hw]
  obtain ⟨v', w', hrun, h2, h3, h5⟩ := app_run (P := P) w t o.type base e i z size bytes ht hi hz hsize hby hzs hsz v n xs B A m c news hown hr h1 hbytes h63 hbase
  unfold Oper.wp execOp
  simp only [ho, resolve, invoke, builtin, Sem.run_bind, Sem.run_pure, Result.andThen_ok, List.map_toArray, List.map_cons, List.map_nil, hs, hx, hrun]
  exact h v' w' h2 h3 h5
end
theorem own_empty (w : World) (e : TypeId) (size base : Nat) (hb : base ≤ w.heap.size) : (w.alloc (.cells #[] e)).ownsRow base e size (.slice (some ⟨w.heap.size, 0, none⟩) 0 0) 0 [] :=
  ⟨by simp, .inr ⟨_, 0, #[], rfl, hb, heap_alloc_new w _, Nat.le_refl _, Nat.zero_le _, by simp, by simp⟩⟩
theorem rd_block {w : World} {h size : Nat} {cs : Array Value} {t : TypeId} (hb : w.heap[h]? = some (.cells cs t (0, 0))) (hs : cs.size = size) : Rd w w.heap.size size (some ⟨h, 0, none⟩) 1 cs.toList :=
  ⟨by simpa using hs, fun _ => ⟨_, rfl, (Array.getElem?_eq_some_iff.1 hb).1, fun j u hu => by
    rw [add_zero_off, cell_of_row w h j _ _ _ hb]
    simpa using hu⟩⟩
/-- What stands behind the two appends. -/
def MoreCut (w wX wc : World) (v : Value) (k : Nat) (l : List Eg) (x : Eg) : Prop :=
  wc.ownsRow wX.heap.size 26 2 v (k + 1) (edgv (l ++ [x])) ∧ Below wX.heap.size wX wc
set_option maxHeartbeats 8000000 in
set_option maxRecDepth 20000 in
theorem mmore_any (w : World) (N M : Int) (A : Option Addr) (k c : Nat) (l : List Eg) (x : Eg) (hr : Rd w w.heap.size 2 A k (edgv l)) (hk16 : k * 16 ≤ 140737488351232) :
    Calls Try.prog 3 #[.agg #[.int .i64 N, .int .i64 M, .slice A k c], .agg #[.int .i64 x.1, .int .i64 x.2]] w fun e w' => e = .returned (.bool true) ∧ Below w.heap.size w w' := by
  obtain ⟨i0, hi0, hz0, hz1, hz2⟩ := info_parts edge_info
  obtain ⟨xa, xb⟩ := x
  simp only
  have HKL := Lib.hid (rd_edglen hr)
  have HR := Lib.hid hr
  clear hr
  have hG := (GBox.made w N M A k c).alloc (.cells #[.int .i64 xa, .int .i64 xb] 26)
  have hX := heap_alloc_new (w.alloc (.cells #[.int .i64 N, .int .i64 M, .slice A k c] 24)) (.cells #[.int .i64 xa, .int .i64 xb] 26)
  have z0 : (w.alloc (.cells #[.int .i64 N, .int .i64 M, .slice A k c] 24)).heap.size = w.heap.size + 1 := by simp
  rw [z0] at hX
  have HX := Lib.hid hX
  have HG := Lib.hid hG
  clear hG hX z0
  go_enter Try.func3, Try.ntmps3
  go_wp2_with fail
  refine (mlives_any _).mono ?_
  rintro e w2 ⟨rfl, hb2⟩
  have hX2 := (hb2.block _ (Array.getElem?_eq_some_iff.1 HX.out).1).trans HX.out
  have HG2 := Lib.hid (HG.out.below hb2)
  have HX2 := Lib.hid hX2
  have hxl := (Array.getElem?_eq_some_iff.1 hX2).1
  clear hb2 hX2 HG HX
  go_upto_region 3 with (fail)
  go_cut [5] (fun v wc => Hid (MoreCut w w2 wc v k l (xa, xb)))
  case first =>
    have MK : Hid (∀ V, Below w2.heap.size w2 V → Below w2.heap.size w2 V ∧ V.cell? ⟨w.heap.size, 2, none⟩ = some (.slice A k c) ∧ V.cell? ⟨w.heap.size + 1, 0, none⟩ = some (.int .i64 xa) ∧ V.cell? ⟨w.heap.size + 1, 1, none⟩ = some (.int .i64 xb)) := Lib.hid fun V hV => by
      refine ⟨hV, (HG2.out.below hV).c2, ?_, ?_⟩
      · rw [cell_of_row V _ 0 _ _ _ ((hV.block _ hxl).trans HX2.out)]; rfl
      · rw [cell_of_row V _ 1 _ _ _ ((hV.block _ hxl).trans HX2.out)]; rfl
    have hbd : Below w2.heap.size w2 w2.drew := ⟨rfl, rfl, rfl, Nat.le_refl _, fun _ _ => rfl⟩
    have hb1e := hbd.alloc hbd.size (.cells #[] 26)
    have hb1x := hbd.alloc hbd.size (.cells #[.int .i64 xa, .int .i64 xb] 26)
    have hb2ex := hb1e.alloc hb1e.size (.cells #[.int .i64 xa, .int .i64 xb] 26)
    have hb2xe := hb1x.alloc hb1x.size (.cells #[] 26)
    have HRD : Hid (∀ V, Below w2.heap.size w2 V → Rd V w.heap.size 2 A k (edgv l)) := Lib.hid fun V hV => HR.out.below (HG2.out.below hV).bel
    have HEC := Lib.hid (edgv_cell l)
    have o1 := own_empty w2.drew 26 2 w2.heap.size (Nat.le_refl _)
    have o2 := o1.alloc (.cells #[.int .i64 xa, .int .i64 xb] 26)
    have o3 := own_empty (w2.drew.alloc (.cells #[.int .i64 xa, .int .i64 xb] 26)) 26 2 w2.heap.size hb1x.size
    have zx : (w2.drew.alloc (.cells #[.int .i64 xa, .int .i64 xb] 26)).heap.size = w2.heap.size + 1 := by simp
    rw [zx] at o3
    have y2 := heap_alloc_new (w2.drew.alloc (.cells #[] 26)) (.cells #[.int .i64 xa, .int .i64 xb] 26)
    have ze : (w2.drew.alloc (.cells #[] 26)).heap.size = w2.heap.size + 1 := by simp
    rw [ze] at y2
    have y3 := (Below.heap_alloc (w2.drew.alloc (.cells #[.int .i64 xa, .int .i64 xb] 26)) (.cells #[] 26) w2.heap.size (by simp)).trans (heap_alloc_new w2.drew (.cells #[.int .i64 xa, .int .i64 xb] 26))
    have Y2 := Lib.hid y2
    have Y3 := Lib.hid y3
    have hone : ∀ u ∈ [Value.int .i64 xa, Value.int .i64 xb], u.oneCell' = true := by simp [Value.oneCell']
    have HONE := Lib.hid hone
    clear y2 y3 ze hone
    have O1 := Lib.hid o1
    have O2 := Lib.hid o2
    have O3 := Lib.hid o3
    clear o1 o2 o3 zx
    go_region_held3 (fun V => Below w2.heap.size w2 V ∧ V.cell? ⟨w.heap.size, 2, none⟩ = some (.slice A k c) ∧ V.cell? ⟨w.heap.size + 1, 0, none⟩ = some (.int .i64 xa) ∧ V.cell? ⟨w.heap.size + 1, 1, none⟩ = some (.int .i64 xb))
      (exact MK.out _ (by first | assumption | exact hbd | exact hb1e | exact hb1x | exact hb2ex | exact hb2xe | exact Below.alloc hb3 hb3.size _))
      (first
        | (refine step_app (by rfl) (.tmp 12) (.tmp 14) 22 (by rfl) w2.heap.size 26 i0 _ 2 16 Try.underlying22 hi0 hz0 hz1 hz2 rfl (by omega) (.slice (some ⟨w2.heap.size, 0, none⟩) 0 0) 0 [] w.heap.size A k c (edgv l) (by rfl) (by first | exact O1.out | exact O2.out) (by rfl) (HRD.out _ (by first | exact hb1e | exact hb2ex)) HEC.out (by omega) (by unfold maxLen; omega) (by first | exact hb1e.size | exact hb2ex.size) ?_
           intro v3 w3 ho3 hu3 _
           have hb3 : Below w2.heap.size w2 w3 := Below.trans (by first | exact hb1e | exact hb2ex) (hu3.below (fun i hi e => by simp [Value.ownBlock] at e; omega) (by first | exact hb1e.size | exact hb2ex.size)))
        | (refine step_app (by rfl) (.tmp 12) (.tmp 14) 22 (by rfl) w2.heap.size 26 i0 _ 2 16 Try.underlying22 hi0 hz0 hz1 hz2 rfl (by omega) (.slice (some ⟨w2.heap.size + 1, 0, none⟩) 0 0) 0 [] w.heap.size A k c (edgv l) (by rfl) (by exact O3.out) (by rfl) (HRD.out _ (by exact hb2xe)) HEC.out (by omega) (by unfold maxLen; omega) (by exact hb2xe.size) ?_
           intro v3 w3 ho3 hu3 _
           have hb3 : Below w2.heap.size w2 w3 := Below.trans hb2xe (hu3.below (fun i hi e => by simp [Value.ownBlock] at e; omega) hb2xe.size))
        | (refine step_app (by rfl) (.tmp 15) (.tmp 17) 22 (by rfl) w2.heap.size 26 i0 _ 2 16 Try.underlying22 hi0 hz0 hz1 hz2 rfl (by omega) v3 (0 + k) ([] ++ edgv l) _ (some ⟨w3.heap.size, 0, none⟩) 1 1 [.int .i64 xa, .int .i64 xb] (by rfl) (by exact ho3.alloc _) (by rfl) (rd_block (heap_alloc_new w3 (.cells #[.int .i64 xa, .int .i64 xb] 26)) rfl) HONE.out (by omega) (by unfold maxLen; omega) (by simp; have := hb3.size; omega) ?_
           intro v4 w4 ho4 hu4 _
           have hb4 : Below w2.heap.size w2 w4 := (hb3.alloc hb3.size (.cells #[.int .i64 xa, .int .i64 xb] 26)).trans (hu4.below (fun i hi e => by have := (ho3.lt i e).1; omega) (by simp; have := hb3.size; omega)))
        | (refine step_app (by rfl) (.tmp 15) (.tmp 17) 22 (by rfl) w2.heap.size 26 i0 _ 2 16 Try.underlying22 hi0 hz0 hz1 hz2 rfl (by omega) v3 (0 + k) ([] ++ edgv l) _ (some ⟨w2.heap.size + 1, 0, none⟩) 1 1 [.int .i64 xa, .int .i64 xb] (by rfl) (by exact ho3) (by rfl) (rd_block ((hu3.block (w2.heap.size + 1) (by simp) (by simp [Value.ownBlock])).trans Y2.out) rfl) HONE.out (by omega) (by unfold maxLen; omega) (by exact hb3.size) ?_
           intro v4 w4 ho4 hu4 _
           have hb4 : Below w2.heap.size w2 w4 := hb3.trans (hu4.below (fun i hi e => by have := (ho3.lt i e).1; omega) hb3.size))
        | (refine step_app (by rfl) (.tmp 15) (.tmp 17) 22 (by rfl) w2.heap.size 26 i0 _ 2 16 Try.underlying22 hi0 hz0 hz1 hz2 rfl (by omega) v3 (0 + k) ([] ++ edgv l) _ (some ⟨w2.heap.size, 0, none⟩) 1 1 [.int .i64 xa, .int .i64 xb] (by rfl) (by exact ho3) (by rfl) (rd_block ((hu3.block w2.heap.size (by simp; omega) (by simp [Value.ownBlock])).trans Y3.out) rfl) HONE.out (by omega) (by unfold maxLen; omega) (by exact hb3.size) ?_
           intro v4 w4 ho4 hu4 _
           have hb4 : Below w2.heap.size w2 w4 := hb3.trans (hu4.below (fun i hi e => by have := (ho3.lt i e).1; omega) hb3.size))
        | fail)
    all_goals go_wp2
    all_goals go_meet
    all_goals (case rel =>
      refine Lib.hid ⟨?_, hb4⟩
      rw [List.nil_append, Nat.zero_add] at ho4
      rw [edgv_append, edgv_one]
      exact ho4)
  case rest =>
    obtain ⟨ho, hbc⟩ := hcut.out
    obtain ⟨A7, c7, rfl⟩ := own_shape ho
    have HRM := Lib.hid (Rd.own ho)
    have HGC := Lib.hid (HG2.out.below hbc)
    have c0 := HGC.out.c0
    have c1 := HGC.out.c1
    clear hcut ho hbc HG2 HX2 hxl
    go_wp2_with fail
    refine (rright_any wc N M A7 (k + 1) c7 (l ++ [(xa, xb)]) HRM.out).mono ?_
    rintro e w3 ⟨r, rfl, hri, hb3⟩
    have HG3 := Lib.hid (HGC.out.below hb3)
    have HRM3 := Lib.hid ((HRM.out.below hb3).mono hb3.size)
    clear hb3 HGC HRM c0 c1
    cases r with
    | false =>
      clear hri
      go_wp2
      go_ret
      exact ⟨rfl, HG3.out.bel⟩
    | true =>
      have hgood := hri.1 rfl
      have HGD := Lib.hid hgood
      have HGL : Hid (GoodG N M l) := Lib.hid ⟨hgood.1, hgood.2.1, by have := hgood.2.2.1; simp at this; omega, fun e he => hgood.2.2.2 e (by simp [he])⟩
      obtain ⟨n0, rfl⟩ : ∃ n0 : Nat, N = n0 := ⟨N.toNat, by have := hgood.1; omega⟩
      obtain ⟨m0, rfl⟩ : ∃ m0 : Nat, M = m0 := ⟨M.toNat, by have := hgood.2.1; omega⟩
      have hn : n0 ≤ 200 := by have := hgood.1; omega
      have hm : m0 ≤ 200 := by have := hgood.2.1; omega
      have HALL : Hid (∀ e ∈ l ++ [(xa, xb)], inE n0 m0 e) := Lib.hid ((good_iff hn hm hgood.2.2.1).1 hgood)
      have c0 := HG3.out.c0
      have c1 := HG3.out.c1
      have c2 := HG3.out.c2
      clear hri hgood
      go_wp2_with fail
      refine (size_any _ n0 m0 A k c l (HG3.out.rd HR.out)).mono ?_
      rintro e w5 ⟨(⟨_, nu, hnu, hnl, rfl⟩ | ⟨h, _⟩), hb5⟩
      rotate_left
      · exact absurd HGL.out h
      have HG5 := Lib.hid (HG3.out.below hb5)
      have HRM5 := Lib.hid ((HRM3.out.below hb5).mono hb5.size)
      have HNU := Lib.hid hnu
      have c0 := HG5.out.c0
      have c1 := HG5.out.c1
      clear hnu hb5 HG3 HRM3
      go_wp2_with fail
      refine (size_any _ n0 m0 A7 (k + 1) c7 (l ++ [(xa, xb)]) HRM5.out).mono ?_
      rintro e w6 ⟨(⟨_, mu, hmu, hml, rfl⟩ | ⟨h, _⟩), hb6⟩
      rotate_left
      · exact absurd HGD.out h
      have hmo := nu_more HNU.out (x := (xa.toNat, xb.toNat)) (by simpa [natE] using hmu)
      have hl1 := nu_le_left (fun p hp => (natE_ok HALL.out p hp).1) hmu
      have hl2 := nu_le_right (fun p hp => (natE_ok HALL.out p hp).2) hmu
      have HG6 := Lib.hid (HG5.out.below hb6)
      have c0 := HG6.out.c0
      have c1 := HG6.out.c1
      have x1 : IntKind.i64.wrap ((nu : Int) + 1) = (nu : Int) + 1 := IntWalk.i64_in _ (by omega)
      have x2 : decide ((nu : Int) ≤ (mu : Int)) = true := decide_eq_true (by omega)
      have x3 : decide ((mu : Int) ≤ (nu : Int) + 1) = true := decide_eq_true (by omega)
      have x4 : decide ((mu : Int) ≤ min (n0 : Int) (m0 : Int)) = true := decide_eq_true (by omega)
      obtain ⟨m1, m2⟩ := hmo
      clear hmu hb6 HG5
      go_wp2
      all_goals go_ret
      all_goals exact ⟨rfl, HG6.out.bel⟩
end Go.Proofs.Ytkhboengcbgooaa
