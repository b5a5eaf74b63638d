/- Matchings: the laws' 'matching', walked. -/
import Derived.Test.YtkhboengcbgooaaMtLaws0
namespace Go.Proofs.Ytkhboengcbgooaa
open Go.RowKit
open Go.Maps (Keyed)
theorem edgeKeyed : Keyed Try.prog 26 :=
  Keyed.of_law (deep_law_laid (by kernel_rfl) (m := 2) (by omega) (of_decide_eq_true (by kernel_rfl)) (by kernel_rfl) (by rw [Try.underlying26]))
def edgeV (x : Eg) : Value := .agg #[.int .i64 x.1, .int .i64 x.2]
def EgOk (x : Eg) : Prop := (-9223372036854775808 ≤ x.1 ∧ x.1 ≤ 9223372036854775807) ∧ (-9223372036854775808 ≤ x.2 ∧ x.2 ≤ 9223372036854775807)
theorem edgeKey (x : Eg) (h : EgOk x) : ∃ kl, keyOf Try.prog 26 (edgeV x) = some kl := by
  have hc : Try.prog.cellsOf 26 = 2 := by kernel_rfl
  have k1 : Try.prog.cellsOf 3 = 1 := by kernel_rfl
  have h1 : (Lit.int .i64 x.1).wf = true := by simp [Lit.wf]; exact h.1
  have h2 : (Lit.int .i64 x.2).wf = true := by simp [Lit.wf]; exact h.2
  have ht := ChangeShapes.trod_struct2_mk (H := Unit) (enc := fun _ => ()) (P := Try.prog) (w := default) (base := 0) (spare := fun _ => true) (held := true) (n := 1) (cs := [.int .i64 x.1, .int .i64 x.2])
    (y0 := (.lit (.int .i64 x.1), [])) (y1 := (.lit (.int .i64 x.2), [])) Try.underlying26 (by rw [hc]; rfl)
    (by simp [k1, DataW.trod, Try.underlying3, h1]) (by simp [k1, DataW.trod, Try.underlying3, h2])
  exact ⟨_, (keyOf_asKey (by kernel_rfl) (by rw [Try.underlying26]) (v := edgeV x) (by simp [edgeV, Value.formed, Try.underlying26, hc]) ⟨2, ht⟩).1⟩
theorem edgeInj : ∀ x y : Eg, edgeV x = edgeV y → x = y := by
  rintro ⟨a, b⟩ ⟨c, d⟩ h
  unfold edgeV at h
  injection h with h
  have a0 := congrArg (fun a => a[0]?) h
  have a1 := congrArg (fun a => a[1]?) h
  simp at a0 a1
  rw [a0, a1]
def EMap (w : World) (b n : Nat) (f : Eg → Int) (Ks : List Eg) : Prop := ∃ D, w.ownsMap Try.prog 26 (plainElem Try.prog 3) b n D ∧ MapF Try.prog 26 edgeV D f Ks
section
variable {w w' : World} {b n : Nat} {f : Eg → Int} {Ks : List Eg}
theorem EMap.made (w : World) : EMap (w.alloc (.map #[] 0)) w.heap.size 0 (fun _ => 0) [] := ⟨_, World.ownsMap_made w Try.prog 26 _, .nil⟩
theorem EMap.lt (h : EMap w b n f Ks) : b < w.heap.size := by obtain ⟨D, h, _⟩ := h; exact h.lt
theorem EMap.upd {S : Nat → Prop} (h : EMap w b n f Ks) (hu : Upd S w w') (hs : ¬ S b) : EMap w' b n f Ks := by
  obtain ⟨D, h, h2⟩ := h
  exact ⟨D, ownsMap_updU h hu hs, h2⟩
theorem EMap.look (h : EMap w b n f Ks) {q : Eg} (hq : EgOk q) : (Instr.lookup 60 (.map (some b)) (.agg #[.int .i64 q.1, .int .i64 q.2]) false).run Try.prog w = .ok (.int .i64 (f q)) w := by
  obtain ⟨D, h, h2⟩ := h
  obtain ⟨kl, hk⟩ := edgeKey q hq
  exact h2.look h edgeKeyed Try.underlying60 Try.underlying3 (zeroI w) hk
theorem EMap.put (h : EMap w b n f Ks) (hn : n < maxLen) {q : Eg} {v : Int} (hq : EgOk q) (hv : -9223372036854775808 ≤ v ∧ v ≤ 9223372036854775807) :
    ∃ w', (Instr.mapUpdate 60 (.map (some b)) (.agg #[.int .i64 q.1, .int .i64 q.2]) (.int .i64 v)).run Try.prog w = .ok () w' ∧ EMap w' b (n + 1) (fun x => if x = q then v else f x) (addK Ks q) ∧ Upd (fun k => k = b) w w' := by
  obtain ⟨D, h, h2⟩ := h
  obtain ⟨kl, hk⟩ := edgeKey q hq
  obtain ⟨w', hrun, h3, h4⟩ := h.update edgeKeyed Try.underlying60 hn hk (plainInt v hv)
  exact ⟨w', hrun, ⟨_, h3, h2.put edgeKeyed edgeInj hk v⟩, (Upd.of_grown h4).mono fun _ _ e => by injection e with e; exact e.symm⟩
theorem wpList_putE {ops : Array Oper} {rest : List Oper} {o : Oper} {a : Act} {Q : Exit → Act → World → Prop} (hg : o.guard = none) (m x v : Operand) (hop : o.op = Op.mapUpdate 60 m x v)
    (hm : a.eval m = .map (some b)) (h : EMap w b n f Ks) (hn : n < maxLen) {q : Eg} {u : Int} (hx : a.eval x = .agg #[.int .i64 q.1, .int .i64 q.2]) (hv : a.eval v = .int .i64 u) (hq : EgOk q) (hu : -9223372036854775808 ≤ u ∧ u ≤ 9223372036854775807)
    (hK : ∀ w', EMap w' b (n + 1) (fun x => if x = q then u else f x) (addK Ks q) → Upd (fun k => k = b) w w' → wpList Try.prog ops Q rest (a.put o.dst undef) w') : wpList Try.prog ops Q (o :: rest) a w := by
  refine wpList_plain hg fun K' hK' => ?_
  obtain ⟨w', hrun, r1, r2⟩ := h.put hn hq hu
  unfold Oper.wp
  simp [execOp, hop, hm, hx, hv, hrun, Result.andThen]
  exact hK' _ _ (hK w' r1 r2)
end
/-- Edges that were seen. -/
def SeenG (f : Eg → Int) (l : List Eg) : Prop := ∀ x, x ∈ l → f x = 1
theorem SeenG.put {f : Eg → Int} {l : List Eg} (h : SeenG f l) (q : Eg) : SeenG (fun x => if x = q then 1 else f x) (l ++ [q]) := by
  intro x hx
  show (if x = q then (1 : Int) else f x) = 1
  rcases List.mem_append.1 hx with hx | hx
  · rw [h x hx]; split <;> rfl
  · rw [if_pos (by simpa using hx)]
/-- The B's that were met, up to A number a. -/
def UsedTo (f : Int → Int) (of : List Int) (a : Nat) : Prop := ∀ x, f x = 0 ∨ ∃ c, c < a ∧ gi of c = x ∧ 0 ≤ x
def matchedTo (of : List Int) (a : Nat) : Nat := matched a (gi of)
theorem matchedTo_succ (of : List Int) (a : Nat) : matchedTo of (a + 1) = matchedTo of a + (if 0 ≤ gi of a then 1 else 0) := by
  unfold matchedTo matched
  rw [List.range_succ, List.filter_append, List.length_append]
  congr 1
  by_cases h : 0 ≤ gi of a <;> simp [h]
set_option maxHeartbeats 8000000 in
set_option maxRecDepth 20000 in
theorem matching_any (w : World) (n m : Nat) (A : Option Addr) (k c O : Nat) (l : List Eg) (s : PSt) (hr : Rd w w.heap.size 2 A k (edgv l)) (hg : GoodG n m l) (hS : SolveOut (natE l) n m s) (hI : Ints w O s.of) :
    Calls Try.prog 16 #[.agg #[.int .i64 n, .int .i64 m, .slice A k c], .slice (some ⟨O, 0, none⟩) n n] w fun e w' => e = .returned (.tuple #[.int .i64 (matched n (gi s.of) : Nat), .bool true]) ∧ Below w.heap.size w w' := by
  have hmm := @run_makeMap Try.prog
  have HKL := Lib.hid (rd_edglen hr)
  have HR := Lib.hid hr
  have HG := Lib.hid hg
  have HS := Lib.hid hS
  have HI := Lib.hid hI
  have hOl := hI.lt
  have hn : n ≤ 200 := by have := hg.1; omega
  have hm : m ≤ 200 := by have := hg.2.1; omega
  have hk : k ≤ 4000 := by have := hg.2.2.1; have := HKL.out; omega
  clear hr hg hS hI
  go_enter Try.func16, Try.ntmps16
  have b0 := (Below.refl w.heap.size w).alloc (Nat.le_refl _) (.cells #[.int .i64 n, .int .i64 m, .slice A k c] 24)
  have z0 : (w.alloc (.cells #[.int .i64 n, .int .i64 m, .slice A k c] 24)).heap.size = w.heap.size + 1 := by simp
  have b1 := b0.alloc b0.size (.map #[] 0)
  have e1 := EMap.made (w.alloc (.cells #[.int .i64 n, .int .i64 m, .slice A k c] 24))
  rw [z0] at e1
  have B1 := Lib.hid b1
  have E1 := Lib.hid e1
  clear b0 z0 b1 e1
  go_wp2
  go_loopw [22] (fun i wx => ∃ (j : Nat) (f : Eg → Int) (Ks : List Eg), j ≤ k ∧ i = .int .i64 j ∧ Hid (EMap wx (w.heap.size + 1) j f Ks) ∧ Hid (SeenG f (l.take j)) ∧ Hid (Below w.heap.size w wx)) (fun i _ => k - (intOf i).toNat)
  case atStart => exact ⟨0, _, _, Nat.zero_le _, rfl, E1, Lib.hid (fun x hx => by rw [List.take_zero] at hx; cases hx), B1⟩
  case round =>
    clear E1 B1
    obtain ⟨j, f, Ks, hj, rfl, hE, hs, hb⟩ := hrel
    have hel := hE.out.lt
    by_cases hlt : j < k
    · obtain ⟨b, off, rfl, hbB, hsl, c0, c1⟩ := HR.out.edge hlt
      have d0 := (hb.out.cell (p := ⟨b, off + j * 2, none⟩) hbB).trans c0
      have d1 := (hb.out.cell (p := ⟨b, off + j * 2 + 1, none⟩) hbB).trans c1
      have hin := HG.out.2.2.2 l[j] (List.getElem_mem hsl)
      have htk : l.take (j + 1) = l.take j ++ [l[j]] := List.take_succ_eq_append_getElem hsl
      obtain ⟨⟨ea, eb⟩, he⟩ : ∃ e, l[j] = e := ⟨_, rfl⟩
      rw [he] at d0 d1 hin htk
      have HTK := Lib.hid htk
      have HOK : Hid (EgOk (ea, eb)) := Lib.hid (by unfold EgOk; simp only at hin ⊢; omega)
      simp only at d0 d1
      have ux : Upd (fun _ => False) wr (wr.alloc (.cells #[.int .i64 ea, .int .i64 eb] 26)) := (Upd.refl _ _).alloc _
      have HE2 := Lib.hid (hE.out.upd ux (fun h => h))
      have HB2 := Lib.hid (hb.out.alloc hb.out.size (.cells #[.int .i64 ea, .int .i64 eb] 26))
      have hmap := HE2.out
      clear he hin htk c0 c1 ux hE
      go_wp2_with (at_mapUpdate; refine wpList_putE rfl _ _ _ rfl rfl hmap (by unfold maxLen; omega) (q := (ea, eb)) rfl rfl HOK.out (by omega) ?_)
      intro w4 hm4 hu4
      have hb4 : Below w.heap.size w w4 := HB2.out.trans (hu4.below (fun k hk e => by omega) HB2.out.size)
      have HM4 := Lib.hid hm4
      clear hm4 hu4 hmap d0 d1 HE2 HB2
      go_wp2
      go_roundw
      case rel => exact ⟨j + 1, _, _, by omega, by go_num, HM4, Lib.hid (by rw [HTK.out]; exact hs.out.put _), Lib.hid hb4⟩
      case measure => simp [intOf]; omega
    · obtain rfl : j = k := by omega
      have HSN : Hid (SeenG f l) := Lib.hid (by have := hs.out; rw [List.take_of_length_le (by have := HKL.out; omega)] at this; exact this)
      have hi1 := IMap.made wr
      have ux : Upd (fun _ => False) wr (wr.alloc (.map #[] 0)) := (Upd.refl _ _).alloc _
      have HE2 := Lib.hid (hE.out.upd ux (fun h => h))
      have HB2 := Lib.hid (hb.out.alloc hb.out.size (.map #[] 0))
      have HI1 := Lib.hid hi1
      have hwz := hb.out.size
      clear hi1 ux hE hs hb
      go_wp2
      clear hwz
      generalize wr.alloc (.map #[] 0) = wr2 at HE2 HB2 HI1 ⊢
      generalize wr.heap.size = U at hel HI1 ⊢
      have hOn : s.of.length = n := HS.out.lof
      have hlow := HS.out.lowo
      have HLOW := Lib.hid hlow
      have HON := Lib.hid hOn
      clear hlow hOn
      go_loopw [10, 32] (fun nv iv wx => ∃ (a q : Nat) (g : Int → Int) (Gs : List Int), a ≤ n ∧ iv = .int .i64 a ∧ nv = .int .i64 (matchedTo s.of a : Nat) ∧ q ≤ a ∧ Hid (IMap wx U q g Gs) ∧ Hid (UsedTo g s.of a) ∧ Hid (EMap wx (w.heap.size + 1) j f Ks) ∧ Hid (Below w.heap.size w wx)) (fun _ iv _ => n - (intOf iv).toNat)
      case atStart => exact ⟨0, 0, _, _, Nat.zero_le _, rfl, rfl, Nat.le_refl _, HI1, Lib.hid (fun x => .inl rfl), HE2, HB2⟩
      case round =>
        clear HI1 HE2 HB2
        obtain ⟨a, q, g, Gs, ha, rfl, rfl, hq, hI, hU, hE, hb⟩ := hrel
        have hul := hI.out.lt
        have hel2 := hE.out.lt
        by_cases hlt : a < n
        · have c0 := (HI.out.below hb.out hOl).cell (k := a) (by rw [HON.out]; exact hlt)
          have hms := matchedTo_succ s.of a
          have hlo := HLOW.out a
          obtain ⟨x, hx⟩ : ∃ x, gi s.of a = x := ⟨_, rfl⟩
          rw [hx] at c0 hms hlo
          have HMS := Lib.hid hms
          by_cases hx1 : x = -1
          · subst hx1
            have HUN : Hid (UsedTo g s.of (a + 1)) := Lib.hid fun y => (hU.out y).imp id fun ⟨c, h1, h2⟩ => ⟨c, by omega, h2⟩
            clear hms hlo hx
            go_wp2
            go_roundw
            case rel => exact ⟨a + 1, q, g, Gs, by omega, by go_num, by rw [HMS.out]; rfl, by omega, hI, HUN, hE, hb⟩
            case measure => simp [intOf]; omega
          · have hx0 : 0 ≤ x := by omega
            have hfw := HS.out.pairs.fwd a hlt (by omega)
            rw [hx] at hfw
            have hgx : g x = 0 := by
              rcases hU.out x with h | ⟨c, h1, h2, h3⟩
              · exact h
              · have := (HS.out.pairs.fwd c (by omega) (by omega)).2
                rw [h2, hfw.2] at this
                omega
            obtain ⟨y, rfl⟩ : ∃ y : Nat, x = (y : Int) := ⟨x.toNat, by omega⟩
            rw [Int.toNat_natCast] at hfw
            obtain ⟨⟨e1, e2⟩, hel3, hee⟩ := List.mem_map.1 hfw.1
            have hin := HG.out.2.2.2 _ hel3
            simp only [Prod.mk.injEq] at hee
            simp only at hin
            obtain rfl : e1 = (a : Int) := by omega
            obtain rfl : e2 = (y : Int) := by omega
            have hf1 := HSN.out _ hel3
            have HUN : Hid (UsedTo (fun z => if z = (y : Int) then 1 else g z) s.of (a + 1)) := Lib.hid fun z => by
              by_cases e : z = (y : Int)
              · exact .inr ⟨a, by omega, by rw [e]; exact hx, by omega⟩
              · show (if z = (y : Int) then (1 : Int) else g z) = 0 ∨ _
                rw [if_neg e]
                exact (hU.out z).imp id fun ⟨c, h1, h2⟩ => ⟨c, by omega, h2⟩
            have hlk := hI.out.look (q := (y : Int)) (by omega)
            rw [hgx] at hlk
            have HPUT := Lib.hid (hI.out.put (n := q) (by unfold maxLen; omega) (q := (y : Int)) (v := 1) (by omega) (by omega))
            have hmi := hI.out
            have hmt : matchedTo s.of a ≤ 200 := by
              have := List.length_filter_le (fun c => decide (0 ≤ gi s.of c)) (List.range a)
              rw [List.length_range] at this
              unfold matchedTo matched
              omega
            have hym : y < m := by omega
            have hel4 := HSN.out _ hel3
            clear hlo hms hx hx1 hx0 hfw hgx hel3 hin hee hf1 HPUT hI hU
            go_wp2_with (at_mapUpdate; refine wpList_putI rfl _ _ _ rfl rfl hmi (by unfold maxLen; omega) (q := (y : Int)) (u := 1) rfl rfl (by omega) (by omega) ?_)
            intro w4 hm4 hu4
            have hE4 := hE.out.upd hu4 (fun e => by omega)
            have hb4 : Below w.heap.size w w4 := hb.out.trans (hu4.below (fun k hk e => by omega) hb.out.size)
            have lk1 := hm4.look (q := (y : Int)) (by omega)
            rw [if_pos rfl] at lk1
            have lk2 := hE4.look (q := ((a : Int), (y : Int))) (by unfold EgOk; simp only; omega)
            rw [hel4] at lk2
            have HM4 := Lib.hid hm4
            have HE4 := Lib.hid hE4
            clear hm4 hE4 hu4 hmi hE hb hel4 hlk c0
            go_wp2
            go_roundw
            case rel => exact ⟨a + 1, q + 1, _, _, by omega, by go_num, by rw [HMS.out, if_pos (by omega)]; go_num, by omega, HM4, HUN, HE4, Lib.hid hb4⟩
            case measure => simp [intOf]; omega
        · obtain rfl : a = n := by omega
          have HBB := hb
          clear hI hU hE hb
          go_wp2
          go_ret2
          exact ⟨rfl, HBB.out⟩
end Go.Proofs.Ytkhboengcbgooaa
