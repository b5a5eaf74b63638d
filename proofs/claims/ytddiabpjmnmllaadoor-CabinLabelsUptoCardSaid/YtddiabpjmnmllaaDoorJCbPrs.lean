/- Cabins: labels read back, in plain words. -/
import Derived.Test.YtddiabpjmnmllaaDoorCbShAt
import Derived.Test.YtddiabpjmnmllaaDoorJCbLab
import Derived.Test.YtddiabpjmnmllaaDoorJCbRNr
import Derived.Lib.AtoiErrMem
namespace Go.Proofs.YtddiabpjmnmllaaDoor
open Go.RowKit Go.Lib
theorem atoi_dec (k : Nat) (h : k < 100) : Lib.atoiAll (Lib.decDigits k) = .ok (k : Int) := by
  have : ∀ i : Fin 100, Lib.atoiAll (Lib.decDigits i.val) = .ok (i.val : Int) := by decide +kernel
  exact this ⟨k, h⟩
/-- A label's seat. -/
noncomputable def prsB (t : List UInt8) : Option MSeat := match Lib.atoiAll t.dropLast with
  | .ok v => if t ≠ [] ∧ labB ⟨v, t.getLastD 0⟩ = t then some ⟨v, t.getLastD 0⟩ else none
  | _ => none
/-- A seat's label is read back. -/
theorem prs_lab (s : MSeat) (h : 1 ≤ s.num ∧ s.num ≤ 99 ∧ 65 ≤ s.ltr.toNat ∧ s.ltr.toNat ≤ 90) : prsB (labB s) = some s := by
  obtain ⟨n, c⟩ := s
  obtain ⟨k, rfl⟩ : ∃ k : Nat, n = (k : Int) := ⟨n.toNat, by simp only at h; omega⟩
  have hl : labB ⟨(k : Int), c⟩ = Lib.decDigits k ++ [c] := by
    unfold labB
    rw [if_pos h]
    simp
  have hk : k < 100 := by simp only at h; omega
  unfold prsB
  rw [hl, List.dropLast_concat, atoi_dec k hk]
  simp [hl]
end Go.Proofs.YtddiabpjmnmllaaDoor
/- Cabins: Parse of both, walked. -/
namespace Go.Proofs.YtddiabpjmnmllaaDoor
open Go.RowKit Go.Lib
theorem var_keep {P : Program} {w w' : World} {n : String} {cs : Array Value} (h : w.var? P n = some cs) (hb : Below w.heap.size w w') : w'.var? P n = some cs := by
  unfold World.var? at h ⊢
  cases hg : P.globalNamed n with
  | none => simp [hg] at h
  | some g =>
    simp only [hg, Option.bind_some] at h ⊢
    have hlt : g < w.heap.size := by
      rcases Nat.lt_or_ge g w.heap.size with h' | h'
      · exact h'
      · rw [Array.getElem?_eq_none h'] at h; cases h
    rw [hb.block g hlt]
    exact h
/-- The two errors of numerals hold values. -/
def ErrAt (w : World) : Prop := (∃ tp p, w.var? Tryd.prog "strconv.ErrSyntax" = some #[.iface tp p]) ∧ ∃ tp p, w.var? Tryd.prog "strconv.ErrRange" = some #[.iface tp p]
theorem ErrAt.below {w w' : World} (h : ErrAt w) (hb : Below w.heap.size w w') : ErrAt w' := by
  obtain ⟨⟨t1, p1, h1⟩, t2, p2, h2⟩ := h
  exact ⟨⟨t1, p1, var_keep h1 hb⟩, t2, p2, var_keep h2 hb⟩
/-- How a numeral is read. -/
def AtoiAns (l : List UInt8) (v : Int) (x : Value) : Prop := (Lib.atoiAll l = .ok v ∧ x = .nilIface) ∨ ((∀ u, Lib.atoiAll l ≠ .ok u) ∧ ¬ (1 ≤ v ∧ v ≤ 99) ∧ ∃ t p, x = .iface t p)
theorem atoi_any (w : World) (hE : ErrAt w) (s : ByteArray) (hs : s.size ≤ 281474976710656) :
    Calls Tryd.prog 53 #[.string s] w fun e w' => ∃ v x, e = .returned (.tuple #[.int .i64 v, x]) ∧ AtoiAns s.data.toList v x ∧ Below w.heap.size w w' := by
  obtain ⟨⟨t1, p1, h1⟩, t2, p2, h2⟩ := hE
  cases h : Lib.atoiAll s.data.toList with
  | ok v =>
    refine (Tryd.strconv_Atoi_ok s (by omega) v h w).mono ?_
    rintro e w' ⟨rfl, hw⟩
    refine ⟨v, .nilIface, rfl, .inl ⟨h, rfl⟩, ?_⟩
    rcases hw with rfl | ⟨t, rfl⟩
    · exact Below.refl _ _
    · exact Lib.bytesWorld_below _ _ _
  | «syntax» =>
    refine (Tryd.strconv_Atoi_syntax_var s hs h t1 p1 w h1).mono ?_
    rintro e w' ⟨N, rfl, _, _, hb⟩
    exact ⟨0, _, rfl, .inr ⟨fun u hu => (by rw [h] at hu; cases hu), by omega, _, _, rfl⟩, hb⟩
  | range =>
    refine (Tryd.strconv_Atoi_range_var s hs h t2 p2 w h2).mono ?_
    rintro e w' ⟨N, rfl, _, _, hb⟩
    refine ⟨_, _, rfl, .inr ⟨fun u hu => (by rw [h] at hu; cases hu), ?_, _, _, rfl⟩, hb⟩
    unfold Lib.atoiSat
    split <;> omega
theorem prs_nil : prsB [] = none := by unfold prsB; simp [Lib.atoiAll]
theorem prs_ok {D : List UInt8} {c : UInt8} {v : Int} (h : Lib.atoiAll D = .ok v) : prsB (D ++ [c]) = if labB ⟨v, c⟩ = D ++ [c] then some ⟨v, c⟩ else none := by
  unfold prsB
  rw [List.dropLast_concat, h]
  simp
theorem prs_no {D : List UInt8} {c : UInt8} (h : ∀ u, Lib.atoiAll D ≠ .ok u) : prsB (D ++ [c]) = none := by
  unfold prsB
  rw [List.dropLast_concat]
  cases h' : Lib.atoiAll D with
  | ok v => exact absurd h' (h v)
  | _ => rfl
theorem lab_no {v : Int} {c : UInt8} (h : ¬ (1 ≤ v ∧ v ≤ 99)) : labB ⟨v, c⟩ = [45] := by
  unfold labB
  rw [if_neg (fun h' => h ⟨h'.1, h'.2.1⟩)]
theorem snoc_of {s : ByteArray} (h : s.data.toList ≠ []) : ∃ (D : List UInt8) (c : UInt8) (k : Nat), s.data.toList = D ++ [c] ∧ s.size = k + 1 ∧ D.length = k := by
  refine ⟨s.data.toList.dropLast, s.data.toList.getLast h, s.size - 1, (List.dropLast_concat_getLast h).symm, ?_, ?_⟩
  · have : 0 < s.data.toList.length := List.length_pos_iff.2 h
    have h2 : s.data.toList.length = s.size := rfl
    omega
  · rw [List.length_dropLast]; rfl
theorem beq_no {a b : ByteArray} (h : a ≠ b) : (a.toList == b.toList) = false := by
  rw [ByteArray.toList_eq, ByteArray.toList_eq, beq_eq_false_iff_ne]
  intro e
  exact h (ByteArray.ext (Array.toList_inj.1 e))
theorem beq_yes {a b : ByteArray} (h : a = b) : (a.toList == b.toList) = true := by subst h; exact beq_self_eq_true _
set_option maxHeartbeats 8000000 in
set_option maxRecDepth 20000 in
theorem parse_any (w : World) (hE : ErrAt w) (s : ByteArray) (hs : s.size ≤ 281474976710656) :
    Calls Tryd.prog 37 #[.string s] w fun e w' => e = .returned (.tuple #[seatV ((prsB s.data.toList).getD ⟨0, 0⟩), .bool (prsB s.data.toList).isSome]) ∧ Below w.heap.size w w' := by
  obtain ⟨R, hR⟩ : ∃ R, prsB s.data.toList = R := ⟨_, rfl⟩
  rw [hR]
  have HR := Lib.hid hR
  clear hR
  obtain ⟨W, hW⟩ : ∃ W, W = w.alloc (.cells #[.int .i64 0, .int .u8 0] 32) := ⟨_, rfl⟩
  have hbW : Below w.heap.size w W := by rw [hW]; exact (Below.refl _ w).alloc (Nat.le_refl _) _
  have b1 : W.heap[w.heap.size]? = some (.cells #[.int .i64 0, .int .u8 0] 32 (0, 0)) := by rw [hW]; exact heap_alloc_new w _
  have hEW := hE.below hbW
  have HBW := Lib.hid hbW
  have H1 := Lib.hid b1
  have kinfo : (Tryd.prog.info? 32).map (·.size) = some 2 := by kernel_rfl
  have hsn : s.size = s.data.toList.length := rfl
  by_cases h0 : s.data.toList = []
  · obtain rfl : s = ⟨#[]⟩ := by
      apply ByteArray.ext
      exact Array.toList_eq_nil_iff.1 h0
    have HN : Hid (R = none) := Lib.hid (by rw [← HR.out]; exact prs_nil)
    clear hbW b1 HR h0 hsn
    go_enter Tryd.func37, Tryd.ntmps37
    go_upto_region 1 with (fail)
    rw [← hW]
    clear hW
    have r0 : W.cell? ⟨w.heap.size, 0, none⟩ = some (.int .i64 0) := by rw [cell_of_row _ _ 0 _ _ _ H1.out]; rfl
    have f0 : W.frozen? ⟨w.heap.size, 0, none⟩ = false := frozen_of_row _ _ _ _ _ H1.out
    have r1 : W.cell? ⟨w.heap.size, 1, none⟩ = some (.int .u8 0) := by rw [cell_of_row _ _ 1 _ _ _ H1.out]; rfl
    have f1 : W.frozen? ⟨w.heap.size, 1, none⟩ = false := frozen_of_row _ _ _ _ _ H1.out
    have RR : Hid (((W.setCell ⟨w.heap.size, 0, none⟩ (.int .i64 0)).setCell ⟨w.heap.size, 1, none⟩ (.int .u8 0)).heap[w.heap.size]? = some (.cells #[.int .i64 0, .int .u8 0] 32 (0, 0))) := Lib.hid (heap_setCell_same _ _ 1 _ _ _ (heap_setCell_same _ _ 0 _ _ _ H1.out))
    go_wp2_with fail
    refine bodyPost_ret (results_cell_tmp_row rfl _ _ w.heap.size 32 #[.int .i64 0, .int .u8 0] (0, 0) _ rfl RR.out Tryd.underlying32 rfl kinfo) rfl ?_
    refine ⟨by rw [HN.out]; rfl, HBW.out.trans ((((Upd.refl (fun k => k = w.heap.size) W).setCell ⟨w.heap.size, 0, none⟩ rfl _).setCell ⟨w.heap.size, 1, none⟩ rfl _).below (fun k hk e => by omega) HBW.out.size)⟩
  · obtain ⟨D, c, k, hD, hk, hDl⟩ := snoc_of h0
    have hq : s.toList.isEmpty = false := by rw [ByteArray.toList_eq, List.isEmpty_eq_false_iff]; exact h0
    have hw1 : IntKind.i64.wrap ((s.size : Int) - 1) = (k : Int) := by rw [IntKind.wrap_i64]; omega
    have hk0 : (0 : Int) ≤ (k : Int) := by omega
    have hks : (k : Int) ≤ (s.size : Int) := by omega
    have hks2 : (k : Int) < (s.size : Int) := by omega
    have hks3 : k < s.size := by omega
    have hb1 : s[k] = c := by
      rw [byte_at hks3 (by rw [hD]; simp; omega)]
      simp [hD, ← hDl]
    obtain ⟨r, hr⟩ : ∃ r, s.extract 0 k = r := ⟨_, rfl⟩
    have hrd : r.data.toList = D := by
      rw [← hr, ByteArray.data_extract, Array.toList_extract, List.extract_eq_take_drop, List.drop_zero, Nat.sub_zero, hD, ← hDl, List.take_left]
    have hrs : r.size ≤ 281474976710656 := by
      have : r.size = D.length := by rw [← hrd]; rfl
      omega
    have hat := atoi_any W hEW r hrs
    rw [hrd] at hat
    have HAT := Lib.hid hat
    have HDD := Lib.hid hD
    clear hat hrd h0 hD hDl hbW hEW hsn hk
    go_enter Tryd.func37, Tryd.ntmps37
    go_upto_region 1 with (fail)
    rw [← hW]
    clear hW
    go_wp2_with fail
    refine HAT.out.mono ?_
    rintro e w1 ⟨v, x, rfl, hans, hb⟩
    obtain ⟨V1, hV1⟩ : ∃ V, V = w1.alloc (.cells #[.int .i64 v, .int .u8 (c.toNat : Int)] 32) := ⟨_, rfl⟩
    obtain ⟨X, hX⟩ : ∃ X, w1.heap.size = X := ⟨_, rfl⟩
    have hv1 : Below w1.heap.size w1 V1 := by rw [hV1]; exact (Below.refl _ _).alloc (Nat.le_refl _) _
    have bx : V1.heap[X]? = some (.cells #[.int .i64 v, .int .u8 (c.toNat : Int)] 32 (0, 0)) := by rw [hV1, ← hX]; exact heap_alloc_new w1 _
    have hb2 := bel_on hb hv1
    have HBV := Lib.hid (bel_on2 HBW.out hb2)
    have HX := Lib.hid (box_keep H1.out (Upd.of_below (S := fun _ => False) hb2) id)
    obtain ⟨x0, x1⟩ : V1.cell? ⟨X, 0, none⟩ = some (.int .i64 v) ∧ V1.cell? ⟨X, 1, none⟩ = some (.int .u8 (c.toNat : Int)) := ⟨by rw [cell_of_row _ _ 0 _ _ _ bx]; rfl, by rw [cell_of_row _ _ 1 _ _ _ bx]; rfl⟩
    have hwX : w.heap.size ≠ X := by have := HBW.out.size; have := hb.size; have := (Array.getElem?_eq_some_iff.1 H1.out).1; omega
    obtain ⟨E, hEE⟩ : ∃ E, labB ⟨v, c⟩ = E := ⟨_, rfl⟩
    obtain ⟨Z, hZ⟩ : ∃ Z, (⟨E.toArray⟩ : ByteArray) = Z := ⟨_, rfl⟩
    have HZ : Hid (Z.data.toList = E) := Lib.hid (by rw [← hZ])
    have HLB : Hid (Calls Tryd.prog 35 #[.agg #[.int .i64 v, .int .u8 (c.toNat : Int)]] V1 fun e V' => e = .returned (.string Z) ∧ Below V1.heap.size V1 V') := Lib.hid (by rw [← hZ, ← hEE]; exact label_any V1 ⟨v, c⟩)
    have HEE := Lib.hid hEE
    clear hb hv1 hb2 hZ hEE
    have HXB := Lib.hid bx
    clear bx
    rcases hans with ⟨hok, rfl⟩ | ⟨hno, hv, t, p, rfl⟩
    · have HRV : Hid (R = if E = D ++ [c] then some ⟨v, c⟩ else none) := Lib.hid (by rw [← HR.out, HDD.out, prs_ok hok, HEE.out])
      clear hok
      go_wp2_with fail
      rw [← hV1]
      clear hV1 x0 x1
      refine HLB.out.mono ?_
      rintro e w2 ⟨rfl, hb3⟩
      have HX2 := Lib.hid (box_keep HX.out (Upd.of_below (S := fun _ => False) hb3) id)
      have HB2 := Lib.hid (bel_on2 HBV.out hb3)
      have y0 : w2.cell? ⟨X, 0, none⟩ = some (.int .i64 v) := by rw [cell_of_row _ _ 0 _ _ _ (box_keep HXB.out (Upd.of_below (S := fun _ => False) hb3) id)]; rfl
      have y1 : w2.cell? ⟨X, 1, none⟩ = some (.int .u8 (c.toNat : Int)) := by rw [cell_of_row _ _ 1 _ _ _ (box_keep HXB.out (Upd.of_below (S := fun _ => False) hb3) id)]; rfl
      clear hb3 HX HBV HLB
      by_cases hz : E = D ++ [c]
      · have HS : Hid (R = some ⟨v, c⟩) := Lib.hid (by rw [HRV.out, if_pos hz])
        have hzz : (Z.toList == s.toList) = true := beq_yes (by apply ByteArray.ext; apply Array.toList_inj.1; rw [HZ.out, hz, HDD.out])
        clear HRV hz
        have r0 : w2.cell? ⟨w.heap.size, 0, none⟩ = some (.int .i64 0) := by rw [cell_of_row _ _ 0 _ _ _ HX2.out]; rfl
        have f0 : w2.frozen? ⟨w.heap.size, 0, none⟩ = false := frozen_of_row _ _ _ _ _ HX2.out
        have r1 : w2.cell? ⟨w.heap.size, 1, none⟩ = some (.int .u8 0) := by rw [cell_of_row _ _ 1 _ _ _ HX2.out]; rfl
        have f1 : w2.frozen? ⟨w.heap.size, 1, none⟩ = false := frozen_of_row _ _ _ _ _ HX2.out
        have RR : Hid (((w2.setCell ⟨w.heap.size, 0, none⟩ (.int .i64 v)).setCell ⟨w.heap.size, 1, none⟩ (.int .u8 (c.toNat : Int))).heap[w.heap.size]? = some (.cells #[.int .i64 v, .int .u8 (c.toNat : Int)] 32 (0, 0))) := Lib.hid (heap_setCell_same _ _ 1 _ _ _ (heap_setCell_same _ _ 0 _ _ _ HX2.out))
        go_wp2_with fail
        refine bodyPost_ret (results_cell_tmp_row rfl _ _ w.heap.size 32 #[.int .i64 v, .int .u8 (c.toNat : Int)] (0, 0) _ rfl RR.out Tryd.underlying32 rfl kinfo) rfl ?_
        refine ⟨by rw [HS.out]; rfl, HB2.out.trans ((((Upd.refl (fun k => k = w.heap.size) w2).setCell ⟨w.heap.size, 0, none⟩ rfl _).setCell ⟨w.heap.size, 1, none⟩ rfl _).below (fun k hk e => by omega) HB2.out.size)⟩
      · have HS : Hid (R = none) := Lib.hid (by rw [HRV.out, if_neg hz])
        have hzz : (Z.toList == s.toList) = false := beq_no (fun e => hz (by rw [← HZ.out, e, HDD.out]))
        clear HRV hz
        have r0 : w2.cell? ⟨w.heap.size, 0, none⟩ = some (.int .i64 0) := by rw [cell_of_row _ _ 0 _ _ _ HX2.out]; rfl
        have f0 : w2.frozen? ⟨w.heap.size, 0, none⟩ = false := frozen_of_row _ _ _ _ _ HX2.out
        have r1 : w2.cell? ⟨w.heap.size, 1, none⟩ = some (.int .u8 0) := by rw [cell_of_row _ _ 1 _ _ _ HX2.out]; rfl
        have f1 : w2.frozen? ⟨w.heap.size, 1, none⟩ = false := frozen_of_row _ _ _ _ _ HX2.out
        have RR : Hid (((w2.setCell ⟨w.heap.size, 0, none⟩ (.int .i64 0)).setCell ⟨w.heap.size, 1, none⟩ (.int .u8 0)).heap[w.heap.size]? = some (.cells #[.int .i64 0, .int .u8 0] 32 (0, 0))) := Lib.hid (heap_setCell_same _ _ 1 _ _ _ (heap_setCell_same _ _ 0 _ _ _ HX2.out))
        go_wp2_with fail
        refine bodyPost_ret (results_cell_tmp_row rfl _ _ w.heap.size 32 #[.int .i64 0, .int .u8 0] (0, 0) _ rfl RR.out Tryd.underlying32 rfl kinfo) rfl ?_
        refine ⟨by rw [HS.out]; rfl, HB2.out.trans ((((Upd.refl (fun k => k = w.heap.size) w2).setCell ⟨w.heap.size, 0, none⟩ rfl _).setCell ⟨w.heap.size, 1, none⟩ rfl _).below (fun k hk e => by omega) HB2.out.size)⟩
    · have HS : Hid (R = none) := Lib.hid (by rw [← HR.out, HDD.out]; exact prs_no hno)
      clear hno hv
      go_upto_region 5 with (fail)
      rw [← hV1]
      clear hV1
      have r0 : V1.cell? ⟨w.heap.size, 0, none⟩ = some (.int .i64 0) := by rw [cell_of_row _ _ 0 _ _ _ HX.out]; rfl
      have f0 : V1.frozen? ⟨w.heap.size, 0, none⟩ = false := frozen_of_row _ _ _ _ _ HX.out
      have r1 : V1.cell? ⟨w.heap.size, 1, none⟩ = some (.int .u8 0) := by rw [cell_of_row _ _ 1 _ _ _ HX.out]; rfl
      have f1 : V1.frozen? ⟨w.heap.size, 1, none⟩ = false := frozen_of_row _ _ _ _ _ HX.out
      have RR : Hid (((V1.setCell ⟨w.heap.size, 0, none⟩ (.int .i64 0)).setCell ⟨w.heap.size, 1, none⟩ (.int .u8 0)).heap[w.heap.size]? = some (.cells #[.int .i64 0, .int .u8 0] 32 (0, 0))) := Lib.hid (heap_setCell_same _ _ 1 _ _ _ (heap_setCell_same _ _ 0 _ _ _ HX.out))
      go_wp2_with fail
      refine bodyPost_ret (results_cell_tmp_row rfl _ _ w.heap.size 32 #[.int .i64 0, .int .u8 0] (0, 0) _ rfl RR.out Tryd.underlying32 rfl kinfo) rfl ?_
      refine ⟨by rw [HS.out]; rfl, HBV.out.trans ((((Upd.refl (fun k => k = w.heap.size) V1).setCell ⟨w.heap.size, 0, none⟩ rfl _).setCell ⟨w.heap.size, 1, none⟩ rfl _).below (fun k hk e => by omega) HBV.out.size)⟩
set_option maxHeartbeats 8000000 in
set_option maxRecDepth 20000 in
theorem rparse_any (w : World) (hE : ErrAt w) (s : ByteArray) (hs : s.size ≤ 281474976710656) :
    Calls Tryd.prog 38 #[.string s] w fun e w' => e = .returned (.tuple #[seatV ((prsB s.data.toList).getD ⟨0, 0⟩), .bool (prsB s.data.toList).isSome]) ∧ Below w.heap.size w w' := by
  obtain ⟨R, hR⟩ : ∃ R, prsB s.data.toList = R := ⟨_, rfl⟩
  rw [hR]
  have HR := Lib.hid hR
  clear hR
  obtain ⟨W, hW⟩ : ∃ W, W = w.alloc (.cells #[.int .i64 0, .int .u8 0] 32) := ⟨_, rfl⟩
  have hbW : Below w.heap.size w W := by rw [hW]; exact (Below.refl _ w).alloc (Nat.le_refl _) _
  have b1 : W.heap[w.heap.size]? = some (.cells #[.int .i64 0, .int .u8 0] 32 (0, 0)) := by rw [hW]; exact heap_alloc_new w _
  have hEW := hE.below hbW
  have HBW := Lib.hid hbW
  have H1 := Lib.hid b1
  have kinfo : (Tryd.prog.info? 32).map (·.size) = some 2 := by kernel_rfl
  have hsn : s.size = s.data.toList.length := rfl
  by_cases h0 : s.data.toList.length < 2
  · have HN : Hid (R = none) := Lib.hid (by
      rw [← HR.out]
      rcases hl : s.data.toList with _ | ⟨c, t⟩
      · exact prs_nil
      · rw [hl] at h0
        obtain rfl : t = [] := List.eq_nil_of_length_eq_zero (by simp at h0; omega)
        exact prs_no (D := []) (fun u hu => by simp [Lib.atoiAll] at hu))
    have hq : decide ((s.size : Int) < 2) = true := decide_eq_true (by omega)
    clear hbW b1 HR h0 hsn
    go_enter Tryd.func38, Tryd.ntmps38
    go_upto_region 1 with (fail)
    rw [← hW]
    clear hW
    have r0 : W.cell? ⟨w.heap.size, 0, none⟩ = some (.int .i64 0) := by rw [cell_of_row _ _ 0 _ _ _ H1.out]; rfl
    have f0 : W.frozen? ⟨w.heap.size, 0, none⟩ = false := frozen_of_row _ _ _ _ _ H1.out
    have r1 : W.cell? ⟨w.heap.size, 1, none⟩ = some (.int .u8 0) := by rw [cell_of_row _ _ 1 _ _ _ H1.out]; rfl
    have f1 : W.frozen? ⟨w.heap.size, 1, none⟩ = false := frozen_of_row _ _ _ _ _ H1.out
    have RR : Hid (((W.setCell ⟨w.heap.size, 0, none⟩ (.int .i64 0)).setCell ⟨w.heap.size, 1, none⟩ (.int .u8 0)).heap[w.heap.size]? = some (.cells #[.int .i64 0, .int .u8 0] 32 (0, 0))) := Lib.hid (heap_setCell_same _ _ 1 _ _ _ (heap_setCell_same _ _ 0 _ _ _ H1.out))
    go_wp2_with fail
    refine bodyPost_ret (results_cell_tmp_row rfl _ _ w.heap.size 32 #[.int .i64 0, .int .u8 0] (0, 0) _ rfl RR.out Tryd.underlying32 rfl kinfo) rfl ?_
    refine ⟨by rw [HN.out]; rfl, HBW.out.trans ((((Upd.refl (fun k => k = w.heap.size) W).setCell ⟨w.heap.size, 0, none⟩ rfl _).setCell ⟨w.heap.size, 1, none⟩ rfl _).below (fun k hk e => by omega) HBW.out.size)⟩
  · have hne : s.data.toList ≠ [] := fun e => h0 (by rw [e]; decide)
    have hq : decide ((s.size : Int) < 2) = false := decide_eq_false (by omega)
    have HNE : Hid (s.data.toList ≠ [45]) := Lib.hid (fun e => h0 (by rw [e]; decide))
    obtain ⟨D, c, k, hD, hk, hDl⟩ := snoc_of hne
    have hw1 : IntKind.i64.wrap ((s.size : Int) - 1) = (k : Int) := by rw [IntKind.wrap_i64]; omega
    have hk0 : (0 : Int) ≤ (k : Int) := by omega
    have hks : (k : Int) ≤ (s.size : Int) := by omega
    have hks2 : (k : Int) < (s.size : Int) := by omega
    have hks3 : k < s.size := by omega
    have hb1 : s[k] = c := by
      rw [byte_at hks3 (by rw [hD]; simp; omega)]
      simp [hD, ← hDl]
    obtain ⟨r, hr⟩ : ∃ r, s.extract 0 k = r := ⟨_, rfl⟩
    have hrd : r.data.toList = D := by
      rw [← hr, ByteArray.data_extract, Array.toList_extract, List.extract_eq_take_drop, List.drop_zero, Nat.sub_zero, hD, ← hDl, List.take_left]
    have hrs : r.size ≤ 281474976710656 := by
      have : r.size = D.length := by rw [← hrd]; rfl
      omega
    have hat := atoi_any W hEW r hrs
    rw [hrd] at hat
    have HAT := Lib.hid hat
    have HDD := Lib.hid hD
    clear hat hrd h0 hD hDl hbW hEW hsn hk hne
    go_enter Tryd.func38, Tryd.ntmps38
    go_upto_region 1 with (fail)
    rw [← hW]
    clear hW
    go_wp2_with fail
    refine HAT.out.mono ?_
    rintro e w1 ⟨v, x, rfl, hans, hb⟩
    obtain ⟨V1, hV1⟩ : ∃ V, V = w1.alloc (.cells #[.int .i64 v, .int .u8 (c.toNat : Int)] 32) := ⟨_, rfl⟩
    obtain ⟨X, hX⟩ : ∃ X, w1.heap.size = X := ⟨_, rfl⟩
    have hv1 : Below w1.heap.size w1 V1 := by rw [hV1]; exact (Below.refl _ _).alloc (Nat.le_refl _) _
    have bx : V1.heap[X]? = some (.cells #[.int .i64 v, .int .u8 (c.toNat : Int)] 32 (0, 0)) := by rw [hV1, ← hX]; exact heap_alloc_new w1 _
    have hb2 := bel_on hb hv1
    have HBV := Lib.hid (bel_on2 HBW.out hb2)
    have HX := Lib.hid (box_keep H1.out (Upd.of_below (S := fun _ => False) hb2) id)
    obtain ⟨x0, x1⟩ : V1.cell? ⟨X, 0, none⟩ = some (.int .i64 v) ∧ V1.cell? ⟨X, 1, none⟩ = some (.int .u8 (c.toNat : Int)) := ⟨by rw [cell_of_row _ _ 0 _ _ _ bx]; rfl, by rw [cell_of_row _ _ 1 _ _ _ bx]; rfl⟩
    have hwX : w.heap.size ≠ X := by have := HBW.out.size; have := hb.size; have := (Array.getElem?_eq_some_iff.1 H1.out).1; omega
    obtain ⟨E, hEE⟩ : ∃ E, labB ⟨v, c⟩ = E := ⟨_, rfl⟩
    obtain ⟨Z, hZ⟩ : ∃ Z, (⟨E.toArray⟩ : ByteArray) = Z := ⟨_, rfl⟩
    have HZ : Hid (Z.data.toList = E) := Lib.hid (by rw [← hZ])
    have HLB : Hid (Calls Tryd.prog 36 #[.agg #[.int .i64 v, .int .u8 (c.toNat : Int)]] V1 fun e V' => e = .returned (.string Z) ∧ Below V1.heap.size V1 V') := Lib.hid (by rw [← hZ, ← hEE]; exact rlabel_any V1 ⟨v, c⟩)
    have HEE := Lib.hid hEE
    clear hb hv1 hb2 hZ hEE
    have HXB := Lib.hid bx
    clear bx
    have HRV : Hid (R = if E = D ++ [c] then some ⟨v, c⟩ else none) := Lib.hid (by
      rcases hans with ⟨hok, rfl⟩ | ⟨hno, hv, t, p, rfl⟩
      · rw [← HR.out, HDD.out, prs_ok hok, HEE.out]
      · rw [← HR.out, HDD.out, prs_no hno, if_neg]
        rw [← HEE.out, lab_no hv]
        intro e
        exact HNE.out (HDD.out.trans e.symm))
    clear hans
    go_wp2_with fail
    rw [← hV1]
    clear hV1 x0 x1
    refine HLB.out.mono ?_
    rintro e w2 ⟨rfl, hb3⟩
    have HX2 := Lib.hid (box_keep HX.out (Upd.of_below (S := fun _ => False) hb3) id)
    have HB2 := Lib.hid (bel_on2 HBV.out hb3)
    have y0 : w2.cell? ⟨X, 0, none⟩ = some (.int .i64 v) := by rw [cell_of_row _ _ 0 _ _ _ (box_keep HXB.out (Upd.of_below (S := fun _ => False) hb3) id)]; rfl
    have y1 : w2.cell? ⟨X, 1, none⟩ = some (.int .u8 (c.toNat : Int)) := by rw [cell_of_row _ _ 1 _ _ _ (box_keep HXB.out (Upd.of_below (S := fun _ => False) hb3) id)]; rfl
    clear hb3 HX HBV HLB
    by_cases hz : E = D ++ [c]
    · have HS : Hid (R = some ⟨v, c⟩) := Lib.hid (by rw [HRV.out, if_pos hz])
      have hzz : (Z.toList == s.toList) = true := beq_yes (by apply ByteArray.ext; apply Array.toList_inj.1; rw [HZ.out, hz, HDD.out])
      clear HRV hz
      have r0 : w2.cell? ⟨w.heap.size, 0, none⟩ = some (.int .i64 0) := by rw [cell_of_row _ _ 0 _ _ _ HX2.out]; rfl
      have f0 : w2.frozen? ⟨w.heap.size, 0, none⟩ = false := frozen_of_row _ _ _ _ _ HX2.out
      have r1 : w2.cell? ⟨w.heap.size, 1, none⟩ = some (.int .u8 0) := by rw [cell_of_row _ _ 1 _ _ _ HX2.out]; rfl
      have f1 : w2.frozen? ⟨w.heap.size, 1, none⟩ = false := frozen_of_row _ _ _ _ _ HX2.out
      have RR : Hid (((w2.setCell ⟨w.heap.size, 0, none⟩ (.int .i64 v)).setCell ⟨w.heap.size, 1, none⟩ (.int .u8 (c.toNat : Int))).heap[w.heap.size]? = some (.cells #[.int .i64 v, .int .u8 (c.toNat : Int)] 32 (0, 0))) := Lib.hid (heap_setCell_same _ _ 1 _ _ _ (heap_setCell_same _ _ 0 _ _ _ HX2.out))
      go_wp2_with fail
      refine bodyPost_ret (results_cell_tmp_row rfl _ _ w.heap.size 32 #[.int .i64 v, .int .u8 (c.toNat : Int)] (0, 0) _ rfl RR.out Tryd.underlying32 rfl kinfo) rfl ?_
      refine ⟨by rw [HS.out]; rfl, HB2.out.trans ((((Upd.refl (fun k => k = w.heap.size) w2).setCell ⟨w.heap.size, 0, none⟩ rfl _).setCell ⟨w.heap.size, 1, none⟩ rfl _).below (fun k hk e => by omega) HB2.out.size)⟩
    · have HS : Hid (R = none) := Lib.hid (by rw [HRV.out, if_neg hz])
      have hzz : (Z.toList == s.toList) = false := beq_no (fun e => hz (by rw [← HZ.out, e, HDD.out]))
      clear HRV hz
      have r0 : w2.cell? ⟨w.heap.size, 0, none⟩ = some (.int .i64 0) := by rw [cell_of_row _ _ 0 _ _ _ HX2.out]; rfl
      have f0 : w2.frozen? ⟨w.heap.size, 0, none⟩ = false := frozen_of_row _ _ _ _ _ HX2.out
      have r1 : w2.cell? ⟨w.heap.size, 1, none⟩ = some (.int .u8 0) := by rw [cell_of_row _ _ 1 _ _ _ HX2.out]; rfl
      have f1 : w2.frozen? ⟨w.heap.size, 1, none⟩ = false := frozen_of_row _ _ _ _ _ HX2.out
      have RR : Hid (((w2.setCell ⟨w.heap.size, 0, none⟩ (.int .i64 0)).setCell ⟨w.heap.size, 1, none⟩ (.int .u8 0)).heap[w.heap.size]? = some (.cells #[.int .i64 0, .int .u8 0] 32 (0, 0))) := Lib.hid (heap_setCell_same _ _ 1 _ _ _ (heap_setCell_same _ _ 0 _ _ _ HX2.out))
      go_wp2_with fail
      refine bodyPost_ret (results_cell_tmp_row rfl _ _ w.heap.size 32 #[.int .i64 0, .int .u8 0] (0, 0) _ rfl RR.out Tryd.underlying32 rfl kinfo) rfl ?_
      refine ⟨by rw [HS.out]; rfl, HB2.out.trans ((((Upd.refl (fun k => k = w.heap.size) w2).setCell ⟨w.heap.size, 0, none⟩ rfl _).setCell ⟨w.heap.size, 1, none⟩ rfl _).below (fun k hk e => by omega) HB2.out.size)⟩
end Go.Proofs.YtddiabpjmnmllaaDoor
