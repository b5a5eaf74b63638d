/- Digests: keyed digests, walked. -/
import Derived.Test.YtohgkcgeanofnaaTgSum
import Derived.Lib.BufferWrite
import Derived.Deep.AppendLies
import Derived.Deep.RegionHeld3
import Derived.Deep.CutBlock
import Derived.Deep.DeepCutAuto
namespace Go.Proofs.Ytohgkcgeanofnaa
open Go.RowKit
theorem run_app {P : Program} (w : World) (base : Nat) (t ty e : TypeId) (i : TypeInfo) (z : Value) (size bytes : Nat) (ht : P.underlying t = some (.slice e)) (hi : P.info? e = some i) (hz : i.zero = some z)
    (hsize : i.size = size) (hby : i.bytes = bytes) (hzs : z.cells.size = size) (hsz : 0 < size)
    (v : Value) (n : Nat) (xs : List Value) (B : Nat) (A : Option Addr) (m c : Nat) (news : List Value) (hown : w.ownsRow base e size v n xs) (hr : Rd w B size A m news) (h1 : ∀ u ∈ news, u.oneCell' = true)
    (hbytes : (n + m) * bytes ≤ 140737488355328) (h63 : n + m ≤ maxLen) (hbase : base ≤ w.heap.size) :
    ∃ v' w', (Builtin.append_ #[t, t] ty #[v, .slice A m c]).run P w = .ok v' w' ∧ w'.ownsRow base e size v' (n + m) (xs ++ news) ∧ Upd (fun k => v.ownBlock = some k) w w' ∧ RowAt w v v' := by
  have some_case : ∀ ad, A = some ad → (∀ j u, news[j]? = some u → w.cell? (ad.add j) = some u) → ∃ v' w', (Builtin.append_ #[t, t] ty #[v, .slice A m c]).run P w = .ok v' w' ∧ w'.ownsRow base e size v' (n + m) (xs ++ news) ∧ Upd (fun k => v.ownBlock = some k) w w' ∧ RowAt w v v' := by
    rintro ad rfl hc
    obtain ⟨v', w', hrun, h2, h3, _, h5⟩ := run_append_own_at (P := P) w base t ty e i z size bytes ht hi hz hsize hby hzs hsz v n xs hown ad m c news hr.len hc h1 h63 hbytes hbase
    exact ⟨v', w', hrun, h2, Upd.of_grown h3, h5.imp id fun h => ⟨_, Nat.le_refl _, h⟩⟩
  by_cases hm : m = 0
  · subst hm
    have hn : news = [] := List.eq_nil_of_length_eq_zero (by simpa using hr.len)
    subst hn
    cases A with
    | none => exact ⟨v, w, run_append_empty (P := P) w base t ty e i size c ht hi v n xs hown, by simpa using hown, Upd.refl _ _, RowAt.refl _ _⟩
    | some ad => exact some_case ad rfl (by simp)
  · obtain ⟨ad, hA, _, hc⟩ := hr.at_ (by omega)
    exact some_case ad hA hc
theorem str_info : (Try.prog.info? 9).map (fun i => (i.zero, i.size, i.bytes)) = some (some (.string ⟨#[]⟩), 1, 16) := by kernel_rfl
/-- 'append', by what it answers, as a step of a region that draws. -/
theorem step_append_run {P : Program} {ops : Array Oper} {o : Oper} {a : Act} {w : World} {K : Act → World → Prop} {Q : Exit → Act → World → Prop} {E : Prop} (hgd : o.guard = none) (s x : Operand) (t : TypeId)
    (ho : o.op = .call { callee := .builtin .append, args := #[s, x], argTypes := #[t, t] }) (v u : Value) (hs : a.eval s = v) (hx : a.eval x = u) (v' : Value) (w' : World)
    (hrun : (Builtin.append_ #[t, t] o.type #[v, u]).run P w = .ok v' w') (h : K (a.put o.dst v') w') :
    if Region.wanted o (yielded ops a.tmps) = true then Oper.wp P o a w K Q else E := by
  have hw : Region.wanted o (yielded ops a.tmps) = true := by simp [Region.wanted, hgd]
  rw [if_pos hw]
  unfold Oper.wp execOp
  simp only [ho, resolve, invoke, builtin, Sem.run_bind, Sem.run_pure, Result.andThen_ok, List.map_toArray, List.map_cons, List.map_nil, hs, hx, hrun]
  exact h
/-- Block g is just the bytes l. -/
def RowB (w : World) (g : Nat) (l : List UInt8) : Prop := w.heap[g]? = some (.cells (bytv l).toArray 5 (0, 0))
section
variable {w w' : World} {g : Nat} {l : List UInt8}
theorem RowB.lt (h : RowB w g l) : g < w.heap.size := (Array.getElem?_eq_some_iff.1 h).1
theorem RowB.cell (h : RowB w g l) (k : Nat) (hk : k < l.length) : w.cell? ⟨g, k, none⟩ = some (.int .u8 (((l[k]'hk).toNat : Nat) : Int)) := by
  rw [cell_of_row w g k _ _ _ h, List.getElem?_toArray, bytv_get l k hk]
theorem RowB.free (h : RowB w g l) (k : Nat) : w.frozen? ⟨g, k, none⟩ = false := frozen_of_row w g k _ _ h
theorem RowB.set (h : RowB w g l) (k : Nat) (x : UInt8) : RowB (w.setCell ⟨g, k, none⟩ (.int .u8 (x.toNat : Int))) g (l.set k x) := by
  have := heap_setCell_same w g k _ _ (.int .u8 (x.toNat : Int)) h
  unfold RowB
  rw [this, List.setIfInBounds_toArray]
  simp [bytv, List.map_set]
theorem RowB.other (h : RowB w g l) (q : Nat) (p : Nat) (v : Value) (hn : g ≠ q) : RowB (w.setCell ⟨q, p, none⟩ v) g l := by
  unfold RowB
  rw [heap_setCell_other _ _ _ _ (by simp; exact hn)]
  exact h
theorem RowB.rd (h : RowB w g l) : Rd w w.heap.size 1 (some ⟨g, 0, none⟩) l.length (bytv l) :=
  ⟨by rw [bytv_length]; omega, fun _ => ⟨_, rfl, h.lt, fun j u hu => by rw [add_flat0, Nat.zero_add, cell_of_row w g j _ _ _ h, List.getElem?_toArray, hu]⟩⟩
end
def Z64 : Array Value := (bytv (List.replicate 64 0)).toArray
theorem mk64 (w : World) : (Instr.makeSlice 29 (.int .i64 64) (.int .i64 64)).run Try.prog w = .ok (.slice (some ⟨w.heap.size, 0, none⟩) 64 64) (w.alloc (.cells Z64 5)) := by
  obtain ⟨i0, hi0, hz0, hz1, hz2⟩ := info_parts u8_info
  have h := run_makeSlice (P := Try.prog) w 29 5 i0 (.int .u8 0) Try.underlying29 hi0 hz0 .i64 .i64 64 64 (by decide) (by decide) (by rw [hz1]; decide) (by rw [hz2]; decide) (by decide)
  rw [hz1] at h
  rw [h]
  have e : madeCells (Value.int .u8 0).cells ((64 : Int).toNat * 1) = Z64 := Array.toList_inj.1 (made_bytv 64)
  rw [e]
  rfl
theorem copy_str (kb : List UInt8) (hkl : kb.length ≤ 64) : ∃ C : Array Value, C = (bytv (kb ++ List.replicate (64 - kb.length) 0)).toArray ∧ ∀ (w : World) (g : Nat), w.heap[g]? = some (.cells Z64 5 (0, 0)) →
    (Builtin.copy_ #[29, 9] 3 #[.slice (some ⟨g, 0, none⟩) 64 64, .string ⟨kb.toArray⟩]).run Try.prog w = .ok (goInt (⟨kb.toArray⟩ : ByteArray).size) (w.setRow g C) := by
  refine ⟨_, rfl, fun w g hg => ?_⟩
  have hsz : (⟨kb.toArray⟩ : ByteArray).size = kb.length := by show kb.toArray.size = _; simp
  have h := Lib.run_copy_row_string (P := Try.prog) w 29 9 3 5 g 0 64 64 ⟨kb.toArray⟩ Z64 5 Try.underlying29 (by kernel_rfl) hg (by rw [hsz]; exact hkl) (by rw [hsz]; show 0 + kb.length ≤ 64; omega)
  rw [h]
  congr 3
  rw [List.take_zero, List.nil_append, Nat.zero_add, hsz, bytv_append]
  congr 1
  show List.drop kb.length (bytv (List.replicate 64 0)) = _
  unfold bytv
  rw [← List.map_drop, List.drop_replicate]
/-- What the loop has made of the key. -/
def mixk (x : UInt8) (kk : List UInt8) (j : Nat) : List UInt8 := (kk.take j).map (· ^^^ x) ++ kk.drop j
theorem mixk_length (x : UInt8) (kk : List UInt8) (j : Nat) (hj : j ≤ kk.length) : (mixk x kk j).length = kk.length := by
  unfold mixk
  rw [List.length_append, List.length_map, List.length_take, List.length_drop]; omega
theorem mixk_get (x : UInt8) (kk : List UInt8) (j : Nat) (hj : j < kk.length) : (mixk x kk j)[j]? = some kk[j] := by
  unfold mixk
  have e : ((kk.take j).map (· ^^^ x)).length = j := by rw [List.length_map, List.length_take]; omega
  rw [List.getElem?_append_right (by omega), e, Nat.sub_self, List.getElem?_drop, Nat.add_zero, List.getElem?_eq_getElem hj]
theorem mixk_set (x : UInt8) (kk : List UInt8) (j : Nat) (hj : j < kk.length) : (mixk x kk j).set j (kk[j] ^^^ x) = mixk x kk (j + 1) := by
  unfold mixk
  have e : ((kk.take j).map (· ^^^ x)).length = j := by rw [List.length_map, List.length_take]; omega
  rw [List.set_append_right _ _ (by omega), e, Nat.sub_self, List.drop_eq_getElem_cons hj, List.set_cons_zero, List.take_add_one, List.getElem?_eq_getElem hj, List.map_append, List.append_assoc]
  rfl
theorem mixk_all (x : UInt8) (kk : List UInt8) (n : Nat) (h : kk.length = n) : mixk x kk n = kk.map (· ^^^ x) := by
  unfold mixk
  rw [List.take_of_length_le (by omega), List.drop_of_length_le (by omega), List.append_nil]
theorem xor8 (x y : UInt8) : bits BinOp.xor IntKind.u8 (x.toNat : Int) (y.toNat : Int) = (((x ^^^ y).toNat : Nat) : Int) := by
  have hx := x.toNat_lt
  have hy := y.toNat_lt
  have hxy : x.toNat ^^^ y.toNat < 2 ^ 8 := Nat.xor_lt_two_pow hx hy
  have h1 : (BitVec.ofInt 8 (x.toNat : Int)).toNat = x.toNat := by
    rw [BitVec.ofInt_natCast, BitVec.toNat_ofNat]; exact Nat.mod_eq_of_lt (by omega)
  have h2 : (BitVec.ofInt 8 (y.toNat : Int)).toNat = y.toNat := by
    rw [BitVec.ofInt_natCast, BitVec.toNat_ofNat]; exact Nat.mod_eq_of_lt (by omega)
  show IntKind.u8.wrap ((BitVec.ofInt 8 (x.toNat : Int) ^^^ BitVec.ofInt 8 (y.toNat : Int)).toNat : Int) = _
  rw [BitVec.toNat_xor, h1, h2, IntKind.wrap_u8, UInt8.toNat_xor]
  omega
theorem RowB.cell? {w : World} {g k : Nat} {l : List UInt8} {x : UInt8} (h : RowB w g l) (hk : l[k]? = some x) : w.cell? ⟨g, k, none⟩ = some (.int .u8 ((x.toNat : Nat) : Int)) := by
  have hl := (List.getElem?_eq_some_iff.1 hk).1
  have h1 := h.cell k hl
  rw [h1, ← (List.getElem?_eq_some_iff.1 hk).2]
theorem row_str {W : World} {g : Nat} {l : List UInt8} (h : RowB W g l) (hl : l.length = 64) : (convert 29 9 (.slice (some ⟨g, 0, none⟩) 64 64)).run Try.prog W = .ok (.string ⟨l.toArray⟩) W := by
  have h1 := run_convert_bytes_back (P := Try.prog) W 29 9 5 ⟨g, 0, none⟩ 64 l Try.underlying29 Try.underlying5 Try.underlying9 (fun j hj => by rw [add_flat0, Nat.zero_add]; exact h.cell j hj)
  rw [hl] at h1
  exact h1
theorem two_rows (w wc : World) (hb : Below w.heap.size w wc) (z : Nat) :
    RowB (((wc.drewN z).alloc (.cells Z64 5)).alloc (.cells Z64 5)) wc.heap.size (List.replicate 64 0) ∧
    RowB (((wc.drewN z).alloc (.cells Z64 5)).alloc (.cells Z64 5)) (wc.heap.size + 1) (List.replicate 64 0) ∧
    Below w.heap.size w (((wc.drewN z).alloc (.cells Z64 5)).alloc (.cells Z64 5)) := by
  have h1 : ((wc.drewN z).alloc (.cells Z64 5)).heap.size = wc.heap.size + 1 := by simp [World.drewN]
  refine ⟨?_, ?_, ?_⟩
  · unfold RowB
    rw [heap_alloc_old _ _ (by rw [h1]; omega)]
    exact heap_alloc_new (wc.drewN z) _
  · unfold RowB
    rw [← h1]
    exact heap_alloc_new _ _
  · exact ((below_drewNs hb z).alloc hb.size _).alloc (by rw [h1]; have := hb.size; omega) _
set_option maxHeartbeats 8000000 in
set_option maxRecDepth 20000 in
theorem mac_any (w : World) (key : ByteArray) (A : Option Addr) (n c : Nat) (ps : List ByteArray) (hr : Rd w w.heap.size 1 A n (strv ps)) (hn : n ≤ 8796093022200) (hks : key.size ≤ 140737488351232) (hs : ∀ p ∈ ps, p.size ≤ 140737488351232) :
    Calls Try.prog 9 #[.string key, .slice A n c] w fun e w' => e = .returned (.string ⟨(macB key.data.toList (allB ps)).toArray⟩) ∧ Below w.heap.size w w' := by
  go_enter Try.func9, Try.ntmps9
  go_upto_if 10 with (fail)
  go_cut [0, 11, 12, 13] (fun k _ _ _ wc => ∃ kb : List UInt8, k = .string ⟨kb.toArray⟩ ∧ kb.length ≤ 64 ∧ kb ++ List.replicate (64 - kb.length) 0 = keyB key.data.toList ∧ Below w.heap.size w wc)
  case first =>
    by_cases h64 : 64 < key.size
    · have h64' : (64 : Int) < key.size := by omega
      go_wp2_with fail
      refine (sum_any (w.alloc (.cells #[.string key] 9)) (some ⟨w.heap.size, 0, none⟩) 1 1 [key] ?_ (by decide) ?_).mono ?_
      · have h1 := Rd.new (w := w) (size := 1) (n := 1) #[.string key] 9 rfl
        exact h1.mono (by simp)
      · intro p hp
        rw [List.mem_singleton] at hp
        rw [hp]; exact hks
      rintro e w1 ⟨rfl, hb1⟩
      go_wp2
      go_meet
      case rel =>
        have e1 : allB [key] = key.data.toList := by simp [allB]
        rw [e1]
        refine ⟨_, rfl, by rw [sumB_length]; decide, ?_, (((Below.refl _ _).alloc (Nat.le_refl _) _).trans (hb1.mono (by simp)))⟩
        unfold keyB
        have h2 : 64 < key.data.toList.length := by simpa using h64
        simp only [if_pos h2]
    · go_wp2
      go_meet
      case rel =>
        refine ⟨key.data.toList, ?_, by simp; omega, ?_, Below.refl _ _⟩
        · simp
        · unfold keyB
          have h2 : ¬ 64 < key.data.toList.length := by simpa using h64
          simp only [if_neg h2]
  case rest =>
    obtain ⟨kb, rfl, hkl, hkb, hb0⟩ := hcut
    go_wp2
    go_cut [5, 6, 14, 15] (fun u5 u6 _ _ w1 => ∃ g1 g2, u5 = .slice (some ⟨g1, 0, none⟩) 64 64 ∧ u6 = .slice (some ⟨g2, 0, none⟩) 64 64 ∧ g1 ≠ g2 ∧ w.heap.size ≤ g1 ∧ w.heap.size ≤ g2 ∧ RowB w1 g1 (List.replicate 64 0) ∧ RowB w1 g2 (List.replicate 64 0) ∧ Below w.heap.size w w1)
    case first =>
      have hmk := mk64
      go_region_with (fail)
      all_goals go_wp2
      all_goals go_meet
      · have h9 := two_rows w wc hb0 0
        exact ⟨_, _, rfl, rfl, by omega, hb0.size, Nat.le_succ_of_le hb0.size, h9.1, h9.2.1, below_drew1 h9.2.2⟩
      · have h9 := two_rows w wc hb0 0
        exact ⟨_, _, rfl, rfl, by omega, Nat.le_succ_of_le hb0.size, hb0.size, h9.2.1, h9.1, below_drew1 h9.2.2⟩
    case rest =>
      obtain ⟨g1, g2, rfl, rfl, hg, hgb1, hgb2, hr1, hr2, hb1⟩ := hcut
      have hkz : (⟨kb.toArray⟩ : ByteArray).size ≤ 64 := by show kb.toArray.size ≤ 64; simpa using hkl
      have hr1' : wc.heap[g1]? = some (.cells Z64 5 (0, 0)) := hr1
      have hkz2 : (⟨kb.toArray⟩ : ByteArray).size ≤ Z64.size := hkz
      obtain ⟨C, hC, hcp⟩ := copy_str kb hkl
      have hcp1 := hcp wc g1 hr1'
      have hcp2 := hcp (wc.setRow g1 C) g2 ((setRow_other _ _ _ _ (Ne.symm hg)).trans hr2)
      have hs1 : RowB ((wc.setRow g1 C).setRow g2 C) g1 (keyB key.data.toList) := by
        unfold RowB
        rw [setRow_other _ _ _ _ hg, setRow_heap _ _ _ _ _ _ hr1', hC, hkb]
      have hs2 : RowB ((wc.setRow g1 C).setRow g2 C) g2 (keyB key.data.toList) := by
        unfold RowB
        rw [setRow_heap _ _ _ _ _ _ ((setRow_other _ _ _ _ (Ne.symm hg)).trans hr2), hC, hkb]
      have hb2 : Below w.heap.size w ((wc.setRow g1 C).setRow g2 C) := below_setRow (below_setRow hb1 hgb1 _) hgb2 _
      clear hC hcp hr1 hr2 hr1' hb0 hb1
      go_wp2
      generalize (wc.setRow g1 C).setRow g2 C = wd at hs1 hs2 hb2 hcp2 ⊢
      clear hcp1 hcp2
      obtain ⟨kk, hkk⟩ : ∃ kk, kk = keyB key.data.toList := ⟨_, rfl⟩
      have hk64 : kk.length = 64 := by rw [hkk]; exact keyB_length _
      rw [← hkk] at hs1 hs2
      go_loopw [7, 24] (fun _ i wx => ∃ j : Nat, j ≤ 64 ∧ i = .int .i64 j ∧ RowB wx g1 (mixk 0x36 kk j) ∧ RowB wx g2 (mixk 0x5c kk j) ∧ Below w.heap.size w wx) (fun _ i _ => 64 - (intOf i).toNat)
      case atStart => exact ⟨0, by omega, rfl, hs1, hs2, hb2⟩
      case round =>
        clear hs1 hs2 hb2
        obtain ⟨j, hj, rfl, hs1, hs2, hb2⟩ := hrel
        by_cases hlt : j < 64
        · have c1 := hs1.cell? (mixk_get 0x36 kk j (by omega))
          have c2 := hs2.cell? (mixk_get 0x5c kk j (by omega))
          have f1 := hs1.free j
          have f2 := hs2.free j
          obtain ⟨x, hx⟩ : ∃ x, x = kk[j]'(by omega) := ⟨_, rfl⟩
          rw [← hx] at c1 c2
          have HX := Lib.hid hx
          have H1 := Lib.hid hs1
          have H2 := Lib.hid hs2
          have HB := Lib.hid hb2
          clear hx hs1 hs2 hb2
          have m4 : (j : Int) < 64 := by omega
          have hg' : g2 ≠ g1 := Ne.symm hg
          have x1 := xor8 x 0x36
          have x2 := xor8 x 0x5c
          go_wp2
          have y1 : bits BinOp.xor IntKind.u8 (x.toNat : Int) 54 = (((x ^^^ 0x36).toNat : Nat) : Int) := x1
          have y2 : bits BinOp.xor IntKind.u8 (x.toNat : Int) 92 = (((x ^^^ 0x5c).toNat : Nat) : Int) := x2
          rw [y1, y2]
          refine ⟨⟨j + 1, by omega, by go_num, ?_, ?_, (HB.out.setCell (p := ⟨g1, j, none⟩) hgb1 _).setCell (p := ⟨g2, j, none⟩) hgb2 _⟩, ?_⟩
          · have h1 := (H1.out.set j (x ^^^ 0x36)).other g2 j (.int .u8 (((x ^^^ 0x5c).toNat : Nat) : Int)) hg
            rw [HX.out, mixk_set _ _ _ (by omega)] at h1
            rw [HX.out]
            exact h1
          · have h1 := (H2.out.other g1 j (.int .u8 (((x ^^^ 0x36).toNat : Nat) : Int)) hg').set j (x ^^^ 0x5c)
            rw [HX.out, mixk_set _ _ _ (by omega)] at h1
            rw [HX.out]
            exact h1
          · simp [intOf]; omega
        · obtain rfl : j = 64 := by omega
          rw [mixk_all _ _ _ hk64, hkk] at hs1 hs2
          have hin : RowB wr g1 (padB 0x36 key.data.toList) := hs1
          have hou : RowB wr g2 (padB 0x5c key.data.toList) := hs2
          have hpi : (padB 0x36 key.data.toList).length = 64 := by unfold padB; rw [List.length_map]; exact keyB_length _
          have hpo : (padB 0x5c key.data.toList).length = 64 := by unfold padB; rw [List.length_map]; exact keyB_length _
          obtain ⟨si, hsi⟩ : ∃ si : ByteArray, si = ⟨(padB 0x36 key.data.toList).toArray⟩ := ⟨_, rfl⟩
          obtain ⟨so, hso⟩ : ∃ so : ByteArray, so = ⟨(padB 0x5c key.data.toList).toArray⟩ := ⟨_, rfl⟩
          obtain ⟨s1, hs1⟩ : ∃ s1 : ByteArray, s1 = ⟨(sumB (padB 0x36 key.data.toList ++ allB ps)).toArray⟩ := ⟨_, rfl⟩
          have HCI : Hid (∀ W, Below wr.heap.size wr W → (convert 29 9 (.slice (some ⟨g1, 0, none⟩) 64 64)).run Try.prog W = .ok (.string si) W) := Lib.hid fun W hW => by
            rw [hsi]
            exact row_str (by exact (hW.block g1 hin.lt).trans hin) hpi
          have HCO : Hid (∀ W, Below wr.heap.size wr W → (convert 29 9 (.slice (some ⟨g2, 0, none⟩) 64 64)).run Try.prog W = .ok (.string so) W) := Lib.hid fun W hW => by
            rw [hso]
            exact row_str (by exact (hW.block g2 hou.lt).trans hou) hpo
          have HB := Lib.hid hb2
          obtain ⟨W1, hW1⟩ : ∃ W1, W1 = (wr.alloc (.cells #[.string si] 9)).drew := ⟨_, rfl⟩
          have hbW0 : Below wr.heap.size wr wr.drew := below_drew1 (Below.refl _ _)
          have hbW1 : Below wr.heap.size wr W1 := by rw [hW1]; exact below_drew1 ((Below.refl _ _).alloc (Nat.le_refl _) _)
          obtain ⟨i1, hi1, hz1, hz2, hz3⟩ := info_parts str_info
          have hown1 : W1.ownsRow wr.heap.size 9 1 (.slice (some ⟨wr.heap.size, 0, none⟩) 1 1) 1 [.string si] := by
            rw [hW1]
            exact World.ownsRow_lit wr #[.string si] 1 (Nat.le_refl _) (by decide) rfl
          obtain ⟨v2, W2, happ, hown2, hu2, _⟩ := run_app (P := Try.prog) W1 wr.heap.size 28 28 9 i1 _ 1 16 Try.underlying28 hi1 hz1 hz2 hz3 rfl (by decide) _ 1 _ w.heap.size A n c (strv ps) hown1 (hr.below (hb2.trans (hbW1.mono hb2.size))) (strv_one ps) (by omega) (by unfold maxLen; omega) hbW1.size
          obtain ⟨N, hN⟩ : ∃ N, N = 1 + n := ⟨_, rfl⟩
          rw [← hN] at hown2
          obtain ⟨A2, c2, rfl⟩ := own_shape hown2
          have hbW2 : Below wr.heap.size wr W2 := below_row hbW1 hbW1.size hown1 (Nat.le_refl _) hu2
          have hall : allB (si :: ps) = padB 0x36 key.data.toList ++ allB ps := by rw [hsi]; simp [allB]
          have HC1 : Hid (Calls Try.prog 7 #[.slice A2 N c2] W2 (fun e w' => e = .returned (.string s1) ∧ Below wr.heap.size wr w')) := Lib.hid (by
            refine (sum_any W2 A2 N c2 (si :: ps) (Rd.own hown2) (by omega) ?_).mono ?_
            · intro p hp
              rcases List.mem_cons.1 hp with rfl | hp
              · rw [hsi]; show (padB 0x36 key.data.toList).toArray.size ≤ _; simp [hpi]
              · exact hs p hp
            · rintro e w' ⟨rfl, hb'⟩
              rw [hall, ← hs1]
              exact ⟨rfl, hbW2.trans (hb'.mono hbW2.size)⟩)
          have HC2 : Hid (∀ W, Below wr.heap.size wr W → Calls Try.prog 7 #[.slice (some ⟨W.heap.size, 0, none⟩) 2 2] (W.alloc (.cells #[.string so, .string s1] 9)) (fun e w' => e = .returned (.string ⟨(macB key.data.toList (allB ps)).toArray⟩) ∧ Below wr.heap.size wr w' ∧ Below w.heap.size w w')) := Lib.hid fun W hW => by
            have h1 := Rd.new (w := W) (size := 1) (n := 2) #[.string so, .string s1] 9 rfl
            refine (sum_any _ _ 2 2 [so, s1] (h1.mono (by simp)) (by decide) ?_).mono ?_
            · intro p hp
              rw [List.mem_cons, List.mem_singleton] at hp
              rcases hp with rfl | rfl
              · rw [hso]; show (padB 0x5c key.data.toList).toArray.size ≤ _; simp [hpo]
              · rw [hs1]; show (sumB _).toArray.size ≤ _; simp [sumB_length]
            · rintro e w' ⟨rfl, hb'⟩
              have h2 : allB [so, s1] = padB 0x5c key.data.toList ++ sumB (padB 0x36 key.data.toList ++ allB ps) := by rw [hso, hs1]; simp [allB]
              rw [h2]
              have h3 : Below wr.heap.size wr w' := (hW.alloc hW.size _).trans (hb'.mono (by simp; have := hW.size; omega))
              exact ⟨rfl, h3, HB.out.trans (h3.mono HB.out.size)⟩
          have HS : Hid (∀ W, Below wr.heap.size wr W → Below wr.heap.size wr W ∧ (convert 29 9 (.slice (some ⟨g1, 0, none⟩) 64 64)).run Try.prog W = .ok (.string si) W ∧ (convert 29 9 (.slice (some ⟨g2, 0, none⟩) 64 64)).run Try.prog W = .ok (.string so) W) := Lib.hid fun W hW => ⟨hW, HCI.out W hW, HCO.out W hW⟩
          rw [hW1] at happ hbW1
          clear hN hW1 hsi hso hs1 hall hown1 hown2 hu2 hb2 hin hou hs2
          go_wp2
          go_region_held3 (fun w' => Below wr.heap.size wr w' ∧ (convert 29 9 (.slice (some ⟨g1, 0, none⟩) 64 64)).run Try.prog w' = .ok (.string si) w' ∧ (convert 29 9 (.slice (some ⟨g2, 0, none⟩) 64 64)).run Try.prog w' = .ok (.string so) w') (first | exact HS.out _ (by assumption)) (first
              | (refine step_append_run rfl (.tmp 44) (.tmp 45) 28 rfl (.slice (some ⟨wr.heap.size, 0, none⟩) 1 1) (.slice A n c) rfl rfl (.slice A2 N c2) W2 (by exact happ) ?_)
              | (go_at_call_of 7 (Value.slice A2 N c2); refine (HC1.out).mono ?_; rintro e w3 ⟨rfl, hb3⟩; have hb3' := hb3.alloc hb3.size (.cells #[.string so, .string s1] 9))
              | (go_at_call 7; refine (HC2.out w3 hb3).mono ?_; rintro e w4 ⟨rfl, hb4, hb5⟩))
          go_wp2
          go_ret
          exact ⟨rfl, hb5⟩
end Go.Proofs.Ytohgkcgeanofnaa
