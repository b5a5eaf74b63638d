/- Digests: 64 bytes are taken, walked. -/
import Derived.Test.YtohgkcgeanofnaaTgSpec
import Derived.Test.YtohgkcgeanofnaaByt
import Derived.OwnWalk
import Derived.StillTailTactics
import Derived.Deep.RegionWith
import Derived.Laws.CopyOwn
namespace Go.Proofs.Ytohgkcgeanofnaa
open Go.RowKit
def u32v (l : List Nat) : List Value := l.map fun n : Nat => Value.int .u32 (n : Int)
theorem u32v_length (l : List Nat) : (u32v l).length = l.length := by simp [u32v]
theorem u32v_append (l m : List Nat) : u32v (l ++ m) = u32v l ++ u32v m := by simp [u32v]
/-- Block g is just the words l. -/
def RowU (w : World) (g : Nat) (T : TypeId) (l : List Nat) : Prop := w.heap[g]? = some (.cells (u32v l).toArray T (0, 0))
section
variable {w w' : World} {g : Nat} {T : TypeId} {l : List Nat}
theorem RowU.lt (h : RowU w g T l) : g < w.heap.size := (Array.getElem?_eq_some_iff.1 h).1
theorem RowU.cell (h : RowU w g T l) (k : Nat) (hk : k < l.length) : w.cell? ⟨g, k, none⟩ = some (.int .u32 ((l.getD k 0 : Nat) : Int)) := by
  rw [cell_of_row w g k _ _ _ h]
  simp [u32v, hk]
theorem RowU.free (h : RowU w g T l) (k : Nat) : w.frozen? ⟨g, k, none⟩ = false := frozen_of_row w g k _ _ h
theorem RowU.below (h : RowU w g T l) (hb : Below w.heap.size w w') : RowU w' g T l := (hb.block g h.lt).trans h
theorem RowU.drewN (h : RowU w g T l) (n : Nat) : RowU (w.drewN n) g T l := h
theorem RowU.set (h : RowU w g T l) (k x : Nat) : RowU (w.setCell ⟨g, k, none⟩ (.int .u32 (x : Int))) g T (l.set k x) := by
  have := heap_setCell_same w g k _ _ (.int .u32 (x : Int)) h
  unfold RowU
  rw [this]
  simp [u32v, List.map_set]
end
theorem wds_pad_set (b : List UInt8) (k n : Nat) : (wds b k ++ List.replicate (n + 1) 0).set k (if k < 16 then be b k else nw (wds b k) k) = wds b (k + 1) ++ List.replicate n 0 := by
  rw [List.set_append_right _ _ (by rw [wds_length]; omega), wds_length, Nat.sub_self, List.replicate_succ, List.set_cons_zero, wds, List.append_assoc]
  rfl
theorem wrap32 (n : Int) (h0 : 0 ≤ n) (h1 : n < 2 ^ 32) : IntKind.u32.wrap n = n := by rw [IntKind.wrap_u32]; omega
theorem join24 {x y : Int} (h1 : 0 ≤ x) (h2 : x % 16777216 = 0) (h3 : x < 4294967296) (h4 : 0 ≤ y) (h5 : y < 16777216) : bits BinOp.or IntKind.u32 x y = x + y :=
  bits_join .u32 32 (by decide) wrap32 24 x y h1 h2 h3 h4 h5 (Int.lt_trans h5 (by decide))
theorem join16 {x y : Int} (h1 : 0 ≤ x) (h2 : x % 65536 = 0) (h3 : x < 4294967296) (h4 : 0 ≤ y) (h5 : y < 65536) : bits BinOp.or IntKind.u32 x y = x + y :=
  bits_join .u32 32 (by decide) wrap32 16 x y h1 h2 h3 h4 h5 (Int.lt_trans h5 (by decide))
theorem join8 {x y : Int} (h1 : 0 ≤ x) (h2 : x % 256 = 0) (h3 : x < 4294967296) (h4 : 0 ≤ y) (h5 : y < 256) : bits BinOp.or IntKind.u32 x y = x + y :=
  bits_join .u32 32 (by decide) wrap32 8 x y h1 h2 h3 h4 h5 (Int.lt_trans h5 (by decide))
theorem or4 (a b c d : UInt8) : bits BinOp.or IntKind.u32 (bits BinOp.or IntKind.u32 (bits BinOp.or IntKind.u32 ((a.toNat : Int) % 4294967296 * 16777216 % 4294967296) ((b.toNat : Int) % 4294967296 * 65536 % 4294967296)) ((c.toNat : Int) % 4294967296 * 256 % 4294967296)) ((d.toNat : Int) % 4294967296) =
    ((a.toNat * 16777216 + b.toNat * 65536 + c.toNat * 256 + d.toNat : Nat) : Int) := by
  have ha := a.toNat_lt
  have hb := b.toNat_lt
  have hc := c.toNat_lt
  have hd := d.toNat_lt
  have e1 : (a.toNat : Int) % 4294967296 * 16777216 % 4294967296 = (a.toNat : Int) * 16777216 := by omega
  have e2 : (b.toNat : Int) % 4294967296 * 65536 % 4294967296 = (b.toNat : Int) * 65536 := by omega
  have e3 : (c.toNat : Int) % 4294967296 * 256 % 4294967296 = (c.toNat : Int) * 256 := by omega
  have e4 : (d.toNat : Int) % 4294967296 = (d.toNat : Int) := by omega
  rw [e1, e2, e3, e4, join24 (x := (a.toNat : Int) * 16777216) (y := (b.toNat : Int) * 65536) (by omega) (by omega) (by omega) (by omega) (by omega),
    join16 (x := (a.toNat : Int) * 16777216 + (b.toNat : Int) * 65536) (y := (c.toNat : Int) * 256) (by omega) (by omega) (by omega) (by omega) (by omega),
    join8 (x := (a.toNat : Int) * 16777216 + (b.toNat : Int) * 65536 + (c.toNat : Int) * 256) (y := (d.toNat : Int)) (by omega) (by omega) (by omega) (by omega) (by omega)]
  omega
theorem be_is (b : List UInt8) (k : Nat) (h : 4 * k + 3 < b.length) : (b[4 * k]'(by omega)).toNat * 16777216 + (b[4 * k + 1]'(by omega)).toNat * 65536 + (b[4 * k + 2]'(by omega)).toNat * 256 + (b[4 * k + 3]'h).toNat = be b k := by
  unfold be
  rw [List.getD_eq_getElem?_getD, List.getD_eq_getElem?_getD, List.getD_eq_getElem?_getD, List.getD_eq_getElem?_getD, List.getElem?_eq_getElem (by omega), List.getElem?_eq_getElem (by omega), List.getElem?_eq_getElem (by omega), List.getElem?_eq_getElem (by omega)]
  rfl
theorem below_drew1 {B : Nat} {w w' : World} (h : Below B w w') : Below B w w'.drew := ⟨h.os, h.tape, h.output, h.size, h.block⟩
theorem xor32 (a b : Nat) (ha : a < 4294967296) (hb : b < 4294967296) : bits BinOp.xor IntKind.u32 (a : Int) (b : Int) = ((a ^^^ b : Nat) : Int) := by
  have hx : a ^^^ b < 2 ^ 32 := Nat.xor_lt_two_pow (by omega) (by omega)
  have h1 : (BitVec.ofInt 32 (a : Int)).toNat = a := by
    rw [BitVec.ofInt_natCast, BitVec.toNat_ofNat]; exact Nat.mod_eq_of_lt (by omega)
  have h2 : (BitVec.ofInt 32 (b : Int)).toNat = b := by
    rw [BitVec.ofInt_natCast, BitVec.toNat_ofNat]; exact Nat.mod_eq_of_lt (by omega)
  show IntKind.u32.wrap ((BitVec.ofInt 32 (a : Int) ^^^ BitVec.ofInt 32 (b : Int)).toNat : Int) = _
  rw [BitVec.toNat_xor, h1, h2, IntKind.wrap_u32]
  omega
theorem xor32_lt {a b : Nat} (ha : a < 4294967296) (hb : b < 4294967296) : a ^^^ b < 4294967296 := Nat.xor_lt_two_pow (n := 32) ha hb
theorem and32 (a b : Nat) (ha : a < 4294967296) (hb : b < 4294967296) : bits BinOp.and IntKind.u32 (a : Int) (b : Int) = ((a &&& b : Nat) : Int) :=
  (bits_nat .u32 32 (by decide) wrap32 a b ha hb).1
theorem and32_lt {a b : Nat} (ha : a < 4294967296) : a &&& b < 4294967296 := Nat.lt_of_le_of_lt Nat.and_le_left ha
theorem not32 (a : Nat) (ha : a < 4294967296) : bits BinOp.xor IntKind.u32 4294967295 (a : Int) = ((4294967295 - a : Nat) : Int) := by
  have h := xor32 4294967295 a (by decide) ha
  have e : (4294967295 : Nat) ^^^ a = 4294967295 - a := by
    have e1 : (BitVec.allOnes 32 ^^^ BitVec.ofNat 32 a).toNat = 4294967295 - a := by
      rw [BitVec.allOnes_xor, BitVec.toNat_not, BitVec.toNat_ofNat, Nat.mod_eq_of_lt (by omega)]
    rw [BitVec.toNat_xor, BitVec.toNat_allOnes, BitVec.toNat_ofNat, Nat.mod_eq_of_lt (by omega)] at e1
    exact e1
  rw [e] at h
  exact h
theorem nw_fold (U V X Y : Nat) (hX : X < 4294967296) (hY : Y < 4294967296) :
    ((U : Int) + V + bits BinOp.xor IntKind.u32 (bits BinOp.xor IntKind.u32 (rotr 7 X : Int) (rotr 18 X : Int)) ((X : Int) / 8) + bits BinOp.xor IntKind.u32 (bits BinOp.xor IntKind.u32 (rotr 17 Y : Int) (rotr 19 Y : Int)) ((Y : Int) / 1024)) % 4294967296 =
      (((U + V + sg0 X + sg1 Y) % 4294967296 : Nat) : Int) := by
  have e1 : (X : Int) / 8 = ((X / 8 : Nat) : Int) := by omega
  have e2 : (Y : Int) / 1024 = ((Y / 1024 : Nat) : Int) := by omega
  rw [e1, e2, xor32 _ _ (rotr_lt (by decide) hX) (rotr_lt (by decide) hX), xor32 _ _ (rotr_lt (by decide) hY) (rotr_lt (by decide) hY),
    xor32 _ _ (xor32_lt (rotr_lt (by decide) hX) (rotr_lt (by decide) hX)) (by omega), xor32 _ _ (xor32_lt (rotr_lt (by decide) hY) (rotr_lt (by decide) hY)) (by omega)]
  show _ = (((U + V + (rotr 7 X ^^^ rotr 18 X ^^^ X / 8) + (rotr 17 Y ^^^ rotr 19 Y ^^^ Y / 1024)) % 4294967296 : Nat) : Int)
  omega
theorem below_drewNs {B : Nat} {w w' : World} (h : Below B w w') (n : Nat) : Below B w (w'.drewN n) := ⟨h.os, h.tape, h.output, h.size, h.block⟩
theorem kt_cell {w : World} {d T k : Nat} {H : List Nat} {tl : List Value} (h : w.heap[d]? = some (.cells (u32v (H ++ Kt) ++ tl).toArray T (0, 0))) (hH : H.length = 8) (hk : k < 64) :
    w.cell? ⟨d, 8 + k, none⟩ = some (.int .u32 ((Kt.getD k 0 : Nat) : Int)) := by
  rw [cell_of_row w d (8 + k) _ _ _ h, List.getElem?_toArray, List.getElem?_append_left (by rw [u32v_length, List.length_append, hH, Kt_length]; omega), u32v, List.getElem?_map,
    List.getElem?_append_right (by omega), hH, Nat.add_sub_cancel_left, List.getD_eq_getElem?_getD, List.getElem?_eq_getElem (by rw [Kt_length]; exact hk)]
  rfl
theorem t1_fold (v4 v5 v6 v7 K X : Nat) (h4 : v4 < 4294967296) (h5 : v5 < 4294967296) (h6 : v6 < 4294967296) :
    IntKind.u32.wrap (IntKind.u32.wrap (IntKind.u32.wrap (IntKind.u32.wrap ((v7 : Int) + bits BinOp.xor IntKind.u32 (bits BinOp.xor IntKind.u32 (rotr 6 v4 : Int) (rotr 11 v4 : Int)) (rotr 25 v4 : Int)) +
      bits BinOp.xor IntKind.u32 (bits BinOp.and IntKind.u32 (v4 : Int) (v5 : Int)) (bits BinOp.and IntKind.u32 (bits BinOp.xor IntKind.u32 (if IntKind.u32.signed = true then -1 else IntKind.u32.max) (v4 : Int)) (v6 : Int))) + (K : Int)) + (X : Int)) =
      (((v7 + bg1 v4 + chx v4 v5 v6 + K + X) % 4294967296 : Nat) : Int) := by
  have e0 : (if IntKind.u32.signed = true then (-1 : Int) else IntKind.u32.max) = 4294967295 := by decide
  rw [e0, not32 v4 h4, and32 _ _ h4 h5, and32 _ _ (by omega) h6, xor32 _ _ (and32_lt h4) (and32_lt (by omega)), xor32 _ _ (rotr_lt (by decide) h4) (rotr_lt (by decide) h4),
    xor32 _ _ (xor32_lt (rotr_lt (by decide) h4) (rotr_lt (by decide) h4)) (rotr_lt (by decide) h4)]
  simp only [IntKind.wrap_u32]
  show _ = (((v7 + (rotr 6 v4 ^^^ rotr 11 v4 ^^^ rotr 25 v4) + ((v4 &&& v5) ^^^ ((4294967295 - v4) &&& v6)) + K + X) % 4294967296 : Nat) : Int)
  omega
theorem t2_fold (v0 v1 v2 : Nat) (h0 : v0 < 4294967296) (h1 : v1 < 4294967296) (h2 : v2 < 4294967296) :
    IntKind.u32.wrap (bits BinOp.xor IntKind.u32 (bits BinOp.xor IntKind.u32 (rotr 2 v0 : Int) (rotr 13 v0 : Int)) (rotr 22 v0 : Int) +
      bits BinOp.xor IntKind.u32 (bits BinOp.xor IntKind.u32 (bits BinOp.and IntKind.u32 (v0 : Int) (v1 : Int)) (bits BinOp.and IntKind.u32 (v0 : Int) (v2 : Int))) (bits BinOp.and IntKind.u32 (v1 : Int) (v2 : Int))) =
      (((bg0 v0 + mjx v0 v1 v2) % 4294967296 : Nat) : Int) := by
  rw [and32 _ _ h0 h1, and32 _ _ h0 h2, and32 _ _ h1 h2, xor32 _ _ (and32_lt h0) (and32_lt h0), xor32 _ _ (xor32_lt (and32_lt h0) (and32_lt h0)) (and32_lt h1), xor32 _ _ (rotr_lt (by decide) h0) (rotr_lt (by decide) h0),
    xor32 _ _ (xor32_lt (rotr_lt (by decide) h0) (rotr_lt (by decide) h0)) (rotr_lt (by decide) h0)]
  simp only [IntKind.wrap_u32]
  show _ = ((((rotr 2 v0 ^^^ rotr 13 v0 ^^^ rotr 22 v0) + ((v0 &&& v1) ^^^ (v0 &&& v2) ^^^ (v1 &&& v2))) % 4294967296 : Nat) : Int)
  omega
/-- What loop 4 has made of H. -/
def mixv (H V : List Nat) (j : Nat) : List Nat := (addv H V).take j ++ H.drop j
/-- The state's block. -/
def RowK (w : World) (d T : Nat) (H : List Nat) (tl : List Value) : Prop := w.heap[d]? = some (.cells (u32v (H ++ Kt) ++ tl).toArray T (0, 0))
section
variable {w : World} {d T : Nat} {H : List Nat} {tl : List Value}
theorem RowK.cell (h : RowK w d T H tl) (j : Nat) (hj : j < H.length) : w.cell? ⟨d, j, none⟩ = some (.int .u32 ((H.getD j 0 : Nat) : Int)) := by
  rw [cell_of_row w d j _ _ _ h, List.getElem?_toArray, List.getElem?_append_left (by rw [u32v_length, List.length_append]; omega), u32v, List.getElem?_map,
    List.getElem?_append_left hj, List.getD_eq_getElem?_getD, List.getElem?_eq_getElem hj]
  rfl
theorem RowK.free (h : RowK w d T H tl) (j : Nat) : w.frozen? ⟨d, j, none⟩ = false := frozen_of_row w d j _ _ h
theorem RowK.set (h : RowK w d T H tl) (j x : Nat) (hj : j < H.length) : RowK (w.setCell ⟨d, j, none⟩ (.int .u32 (x : Int))) d T (H.set j x) tl := by
  have h1 := heap_setCell_same w d j _ _ (.int .u32 (x : Int)) h
  unfold RowK
  rw [h1, List.setIfInBounds_toArray, List.set_append_left _ _ (by rw [u32v_length, List.length_append]; omega)]
  congr 5
  rw [← List.set_append_left _ _ hj]
  simp only [u32v, List.map_set]
end
theorem mixv_length (H V : List Nat) (j : Nat) (h : H.length = 8) (hV : V.length = 8) (hj : j ≤ 8) : (mixv H V j).length = 8 := by
  unfold mixv addv
  rw [List.length_append, List.length_take, List.length_drop, List.length_zipWith, h, hV]
  omega
theorem mixv_getD (H V : List Nat) (j : Nat) (h : H.length = 8) (hV : V.length = 8) (hj : j < 8) : (mixv H V j).getD j 0 = H.getD j 0 := by
  unfold mixv addv
  have e : (List.take j (List.zipWith (fun x y => (x + y) % 4294967296) H V)).length = j := by rw [List.length_take, List.length_zipWith, h, hV]; omega
  rw [List.getD_eq_getElem?_getD, List.getD_eq_getElem?_getD, List.getElem?_append_right (by omega), e, Nat.sub_self, List.getElem?_drop, Nat.add_zero]
theorem mixv_set (H V : List Nat) (j : Nat) (h : H.length = 8) (hV : V.length = 8) (hj : j < 8) : (mixv H V j).set j ((H.getD j 0 + V.getD j 0) % 4294967296) = mixv H V (j + 1) := by
  unfold mixv
  have e : (List.take j (addv H V)).length = j := by unfold addv; rw [List.length_take, List.length_zipWith, h, hV]; omega
  rw [List.set_append_right _ _ (by omega), e, Nat.sub_self, List.drop_eq_getElem_cons (by omega : j < H.length), List.set_cons_zero, List.take_add_one, List.append_assoc]
  congr 1
  rw [List.getElem?_eq_getElem (by unfold addv; rw [List.length_zipWith, h, hV]; omega)]
  simp only [Option.toList_some, List.singleton_append, List.cons.injEq, and_true]
  unfold addv
  rw [List.getElem_zipWith, List.getD_eq_getElem?_getD, List.getD_eq_getElem?_getD, List.getElem?_eq_getElem (by omega), List.getElem?_eq_getElem (by omega)]
  rfl
theorem vix (w : World) (v0 v1 v2 v3 v4 v5 v6 v7 j : Nat) (hj : j < 8) :
    (Instr.index 51 (.agg #[.int .u32 (v0 : Int), .int .u32 (v1 : Int), .int .u32 (v2 : Int), .int .u32 (v3 : Int), .int .u32 (v4 : Int), .int .u32 (v5 : Int), .int .u32 (v6 : Int), .int .u32 (v7 : Int)]) (.int .i64 (j : Int))).run Try.prog w =
      .ok (.int .u32 (([v0, v1, v2, v3, v4, v5, v6, v7].getD j 0 : Nat) : Int)) w := by
  obtain rfl | rfl | rfl | rfl | rfl | rfl | rfl | rfl : j = 0 ∨ j = 1 ∨ j = 2 ∨ j = 3 ∨ j = 4 ∨ j = 5 ∨ j = 6 ∨ j = 7 := by omega
  all_goals rfl
theorem turn_s (w : World) (x n : Nat) (z : Int) (hx : x < 4294967296) (h0 : 0 < n) (hn : n < 32) (hz : z = (n : Int)) :
    Calls Try.prog 28 #[.int .u32 (x : Int), .int .i64 z] w fun e w' => e = .returned (.int .u32 (rotr n x : Int)) ∧ w' = w :=
  (turn_any w x n z hx h0 hn hz).mono fun _ _ h => ⟨h.1, h.2.symm⟩
theorem getD_lt {l : List Nat} (h : ∀ x ∈ l, x < 4294967296) (i : Nat) : l.getD i 0 < 4294967296 := by
  rw [List.getD_eq_getElem?_getD]
  cases h1 : l[i]? with
  | none => simp
  | some x => exact h x (List.mem_of_getElem? h1)
theorem pad_getD (b : List UInt8) (k n i : Nat) (h : i < k) : (wds b k ++ List.replicate n 0).getD i 0 = (wds b k).getD i 0 := by
  rw [List.getD_eq_getElem?_getD, List.getD_eq_getElem?_getD, List.getElem?_append_left (by rw [wds_length]; exact h)]
set_option maxHeartbeats 4000000 in
set_option maxRecDepth 20000 in
theorem block_any (w : World) (d T r ro bc : Nat) (H : List Nat) (tl : List Value) (b : List UInt8) (hH : H.length = 8) (hHl : ∀ x ∈ H, x < 4294967296)
    (hd : w.heap[d]? = some (.cells (u32v (H ++ Kt) ++ tl).toArray T (0, 0))) (hb : Rd w w.heap.size 1 (some ⟨r, ro, none⟩) 64 (bytv b)) :
    Calls Try.prog 23 #[.pointer (some ⟨d, 0, none⟩), .pointer (some ⟨d, 8, none⟩), .slice (some ⟨r, ro, none⟩) 64 bc] w fun e w' => e = .returned (.tuple #[]) ∧
      w'.heap[d]? = some (.cells (u32v (blk H b ++ Kt) ++ tl).toArray T (0, 0)) ∧ Upd (fun k => k = d) w w' := by
  go_enter Try.func23, Try.ntmps23
  go_wp2
  have hrow : RowU (w.alloc (.cells (List.replicate 64 (Value.int .u32 0)).toArray 41)) w.heap.size 41 (wds b 0 ++ List.replicate 64 0) := by
    unfold RowU
    rw [heap_alloc_new]
    rfl
  have hbl : b.length = 64 := by have := hb.len; rw [bytv_length] at this; omega
  have hbA : Below w.heap.size w (w.alloc (.cells (List.replicate 64 (Value.int .u32 0)).toArray 41)) := (Below.refl _ _).alloc (Nat.le_refl _) _
  go_loopw [7, 19] (fun u i wx => ∃ k : Nat, k ≤ 16 ∧ i = .int .i64 k ∧ RowU wx w.heap.size 41 (wds b k ++ List.replicate (64 - k) 0) ∧ Below w.heap.size w wx) (fun _ i _ => 16 - (intOf i).toNat)
  case atStart => exact ⟨0, Nat.zero_le _, rfl, hrow, hbA⟩
  case round =>
    clear hrow hbA
    obtain ⟨k, hk, rfl, hrow, hbx⟩ := hrel
    by_cases hlt : k < 16
    · have hbr := hb.below hbx
      obtain ⟨ad, hA, hB, hc⟩ := hbr.at_ (by omega)
      injection hA with hA
      subst hA
      have c0 := hc (4 * k) _ (bytv_get b (4 * k) (by omega))
      have c1 := hc (4 * k + 1) _ (bytv_get b (4 * k + 1) (by omega))
      have c2 := hc (4 * k + 2) _ (bytv_get b (4 * k + 2) (by omega))
      have c3 := hc (4 * k + 3) _ (bytv_get b (4 * k + 3) (by omega))
      rw [add_flat0] at c0 c1 c2 c3
      obtain ⟨b0, hb0⟩ : ∃ x, x = b[4 * k]'(by omega) := ⟨_, rfl⟩
      obtain ⟨b1, hb1⟩ : ∃ x, x = b[4 * k + 1]'(by omega) := ⟨_, rfl⟩
      obtain ⟨b2, hb2⟩ : ∃ x, x = b[4 * k + 2]'(by omega) := ⟨_, rfl⟩
      obtain ⟨b3, hb3⟩ : ∃ x, x = b[4 * k + 3]'(by omega) := ⟨_, rfl⟩
      rw [← hb0] at c0
      rw [← hb1] at c1
      rw [← hb2] at c2
      rw [← hb3] at c3
      have hf := hrow.free k
      have hcl := hrow.cell k (by rw [List.length_append, wds_length, List.length_replicate]; omega)
      have n0 : (4 * (k : Int)).toNat = 4 * k := by omega
      have n1 : (4 * (k : Int) + 1).toNat = 4 * k + 1 := by omega
      have n2 : (4 * (k : Int) + 2).toNat = 4 * k + 2 := by omega
      have n3 : (4 * (k : Int) + 3).toNat = 4 * k + 3 := by omega
      have m0 : 4 * (k : Int) < 64 := by omega
      have m1 : 4 * (k : Int) + 1 < 64 := by omega
      have m2 : 4 * (k : Int) + 2 < 64 := by omega
      have m3 : 4 * (k : Int) + 3 < 64 := by omega
      have l0 : 0 ≤ 4 * (k : Int) := by omega
      have l1 : 0 ≤ 4 * (k : Int) + 1 := by omega
      have l2 : 0 ≤ 4 * (k : Int) + 2 := by omega
      have l3 : 0 ≤ 4 * (k : Int) + 3 := by omega
      have m5 : (k : Int) < 64 := by omega
      have o0 : IntKind.i64.wrap (4 * (k : Int)) = 4 * (k : Int) := IntWalk.i64_in _ (by omega)
      have o1 : IntKind.i64.wrap (4 * (k : Int) + 1) = 4 * (k : Int) + 1 := IntWalk.i64_in _ (by omega)
      have o2 : IntKind.i64.wrap (4 * (k : Int) + 2) = 4 * (k : Int) + 2 := IntWalk.i64_in _ (by omega)
      have o3 : IntKind.i64.wrap (4 * (k : Int) + 3) = 4 * (k : Int) + 3 := IntWalk.i64_in _ (by omega)
      have m4 : k < 64 := by omega
      have HB0 := Lib.hid hb0
      have HB1 := Lib.hid hb1
      have HB2 := Lib.hid hb2
      have HB3 := Lib.hid hb3
      have HR := Lib.hid hrow
      clear hc hbr hb0 hb1 hb2 hb3 hrow
      go_wp2
      go_still_tail 35, (by kernel_rfl)
      change wpList _ _ _ _ _ wr.drew
      go_wp2
      rw [or4]
      have hx : b0.toNat * 16777216 + b1.toNat * 65536 + b2.toNat * 256 + b3.toNat = be b k := by
        rw [HB0.out, HB1.out, HB2.out, HB3.out]
        exact be_is b k (by omega)
      rw [hx]
      have hset : RowU (wr.setCell ⟨w.heap.size, k, none⟩ (.int .u32 ((be b k : Nat) : Int))).drew w.heap.size 41 (wds b (k + 1) ++ List.replicate (64 - (k + 1)) 0) := by
        have h1 := HR.out.set k (be b k)
        have h2 := wds_pad_set b k (63 - k)
        rw [if_pos hlt] at h2
        rw [show 64 - k = 63 - k + 1 by omega, h2] at h1
        rw [show 64 - (k + 1) = 63 - k by omega]
        exact h1
      have hbs := below_drew1 (hbx.setCell (p := ⟨w.heap.size, k, none⟩) (Nat.le_refl _) (.int .u32 ((be b k : Nat) : Int)))
      go_roundw
      case rel => exact ⟨k + 1, by omega, by go_num, hset, hbs⟩
      case measure => simp [intOf]; omega
    · obtain rfl : k = 16 := by omega
      clear hb hbl
      go_wp2
      simp only [Int.cast_ofNat_Int]
      go_loopw [8, 9, 10] (fun i u v wx => ∃ k : Nat, 16 ≤ k ∧ k ≤ 64 ∧ i = .int .i64 k ∧ RowU wx w.heap.size 41 (wds b k ++ List.replicate (64 - k) 0) ∧ Below w.heap.size w wx) (fun i _ _ _ => 64 - (intOf i).toNat)
      case atStart => exact ⟨16, by omega, by omega, rfl, hrow, hbx⟩
      case round =>
        clear hrow hbx
        obtain ⟨k, hk16, hk, rfl, hrow, hbx⟩ := hrel
        by_cases hlt : k < 64
        · obtain ⟨X, hX⟩ : ∃ X, X = (wds b k).getD (k - 15) 0 := ⟨_, rfl⟩
          obtain ⟨Y, hY⟩ : ∃ Y, Y = (wds b k).getD (k - 2) 0 := ⟨_, rfl⟩
          obtain ⟨U, hU⟩ : ∃ U, U = (wds b k).getD (k - 16) 0 := ⟨_, rfl⟩
          obtain ⟨V, hV⟩ : ∃ V, V = (wds b k).getD (k - 7) 0 := ⟨_, rfl⟩
          have hXl : X < 4294967296 := by rw [hX]; exact getD_lt (wds_lt b k) _
          have hYl : Y < 4294967296 := by rw [hY]; exact getD_lt (wds_lt b k) _
          have hll : (wds b k ++ List.replicate (64 - k) 0).length = 64 := by rw [List.length_append, wds_length, List.length_replicate]; omega
          have c15 := hrow.cell (k - 15) (by omega)
          have c2 := hrow.cell (k - 2) (by omega)
          have c16 := hrow.cell (k - 16) (by omega)
          have c7 := hrow.cell (k - 7) (by omega)
          have cz := hrow.cell k (by omega)
          have hf := hrow.free k
          rw [pad_getD _ _ _ _ (by omega), ← hX] at c15
          rw [pad_getD _ _ _ _ (by omega), ← hY] at c2
          rw [pad_getD _ _ _ _ (by omega), ← hU] at c16
          rw [pad_getD _ _ _ _ (by omega), ← hV] at c7
          generalize (wds b k ++ List.replicate (64 - k) 0).getD k 0 = Z at cz
          have n0 : ((k : Int) - 15).toNat = k - 15 := by omega
          have n1 : ((k : Int) - 2).toNat = k - 2 := by omega
          have n2 : ((k : Int) - 16).toNat = k - 16 := by omega
          have n3 : ((k : Int) - 7).toNat = k - 7 := by omega
          have m0 : (k : Int) - 15 < 64 := by omega
          have m1 : (k : Int) - 2 < 64 := by omega
          have m2 : (k : Int) - 16 < 64 := by omega
          have m3 : (k : Int) - 7 < 64 := by omega
          have m4 : (k : Int) < 64 := by omega
          have l4 : (15 : Int) ≤ k := by omega
          have l5 : (2 : Int) ≤ k := by omega
          have l6 : (16 : Int) ≤ k := by omega
          have l7 : (7 : Int) ≤ k := by omega
          have l0 : 0 ≤ (k : Int) - 15 := by omega
          have l1 : 0 ≤ (k : Int) - 2 := by omega
          have l2 : 0 ≤ (k : Int) - 16 := by omega
          have l3 : 0 ≤ (k : Int) - 7 := by omega
          have o0 : IntKind.i64.wrap ((k : Int) - 15) = (k : Int) - 15 := IntWalk.i64_in _ (by omega)
          have o1 : IntKind.i64.wrap ((k : Int) - 2) = (k : Int) - 2 := IntWalk.i64_in _ (by omega)
          have o2 : IntKind.i64.wrap ((k : Int) - 16) = (k : Int) - 16 := IntWalk.i64_in _ (by omega)
          have o3 : IntKind.i64.wrap ((k : Int) - 7) = (k : Int) - 7 := IntWalk.i64_in _ (by omega)
          have HX := Lib.hid hX
          have HY := Lib.hid hY
          have HU := Lib.hid hU
          have HV := Lib.hid hV
          have HR := Lib.hid hrow
          clear hX hY hU hV hrow hll
          go_wp2
          go_quiet (fail)
          go_wp2
          generalize hwq : wr.drewN nq = wq
          have c16 : wq.cell? ⟨w.heap.size, k - 16, none⟩ = some (.int .u32 (U : Int)) := by rw [← hwq]; exact c16
          have c7 : wq.cell? ⟨w.heap.size, k - 7, none⟩ = some (.int .u32 (V : Int)) := by rw [← hwq]; exact c7
          have cz : wq.cell? ⟨w.heap.size, k, none⟩ = some (.int .u32 (Z : Int)) := by rw [← hwq]; exact cz
          have hf : wq.frozen? ⟨w.heap.size, k, none⟩ = false := by rw [← hwq]; exact hf
          have HW := Lib.hid hwq
          clear hwq
          go_still_tail 29, (by kernel_rfl)
          still_call (turn_s _ X 7 7 hXl (by decide) (by decide) rfl)
          repeat still_step
          still_call (turn_s _ X 18 18 hXl (by decide) (by decide) rfl)
          repeat still_step
          still_call (turn_s _ Y 17 17 hYl (by decide) (by decide) rfl)
          repeat still_step
          still_call (turn_s _ Y 19 19 hYl (by decide) (by decide) rfl)
          repeat still_step
          refine wpStill_nil ?_
          change wpList _ _ _ _ _ wq.drew
          go_wp2
          rw [nw_fold U V X Y hXl hYl]
          have hx : (U + V + sg0 X + sg1 Y) % 4294967296 = nw (wds b k) k := by
            rw [HU.out, HV.out, HX.out, HY.out]
            rfl
          rw [hx]
          have hset : RowU (wq.setCell ⟨w.heap.size, k, none⟩ (.int .u32 ((nw (wds b k) k : Nat) : Int))).drew w.heap.size 41 (wds b (k + 1) ++ List.replicate (64 - (k + 1)) 0) := by
            have h0 : RowU wq w.heap.size 41 (wds b k ++ List.replicate (64 - k) 0) := by rw [← HW.out]; exact HR.out
            have h1 := h0.set k (nw (wds b k) k)
            have h2 := wds_pad_set b k (63 - k)
            rw [if_neg (by omega)] at h2
            rw [show 64 - k = 63 - k + 1 by omega, h2] at h1
            rw [show 64 - (k + 1) = 63 - k by omega]
            exact h1
          have hbq : Below w.heap.size w wq := by rw [← HW.out]; exact below_drewNs hbx _
          have hbs := below_drew1 (hbq.setCell (p := ⟨w.heap.size, k, none⟩) (Nat.le_refl _) (.int .u32 ((nw (wds b k) k : Nat) : Int)))
          go_roundw
          case rel => exact ⟨k + 1, by omega, by omega, by go_num, hset, hbs⟩
          case measure => simp [intOf]; omega
        · obtain rfl : k = 64 := by omega
          have hrow : RowU wr w.heap.size 41 (wds b 64) := by simpa using hrow
          obtain ⟨a0, a1, a2, a3, a4, a5, a6, a7, rfl⟩ : ∃ a0 a1 a2 a3 a4 a5 a6 a7, H = [a0, a1, a2, a3, a4, a5, a6, a7] := by
            match H, hH with
            | [a0, a1, a2, a3, a4, a5, a6, a7], _ => exact ⟨_, _, _, _, _, _, _, _, rfl⟩
          have hdl : d < w.heap.size := (Array.getElem?_eq_some_iff.1 hd).1
          have hdr : wr.heap[d]? = some (.cells (u32v ([a0, a1, a2, a3, a4, a5, a6, a7] ++ Kt) ++ tl).toArray T (0, 0)) := (hbx.block d hdl).trans hd
          have q0 : wr.cell? ⟨d, 0, none⟩ = some (.int .u32 (a0 : Int)) := cell_of_row wr d 0 _ _ _ hdr
          have q1 : wr.cell? ⟨d, 1, none⟩ = some (.int .u32 (a1 : Int)) := cell_of_row wr d 1 _ _ _ hdr
          have q2 : wr.cell? ⟨d, 2, none⟩ = some (.int .u32 (a2 : Int)) := cell_of_row wr d 2 _ _ _ hdr
          have q3 : wr.cell? ⟨d, 3, none⟩ = some (.int .u32 (a3 : Int)) := cell_of_row wr d 3 _ _ _ hdr
          have q4 : wr.cell? ⟨d, 4, none⟩ = some (.int .u32 (a4 : Int)) := cell_of_row wr d 4 _ _ _ hdr
          have q5 : wr.cell? ⟨d, 5, none⟩ = some (.int .u32 (a5 : Int)) := cell_of_row wr d 5 _ _ _ hdr
          have q6 : wr.cell? ⟨d, 6, none⟩ = some (.int .u32 (a6 : Int)) := cell_of_row wr d 6 _ _ _ hdr
          have q7 : wr.cell? ⟨d, 7, none⟩ = some (.int .u32 (a7 : Int)) := cell_of_row wr d 7 _ _ _ hdr
          have HD := Lib.hid hdr
          have HR := Lib.hid hrow
          have HDW := Lib.hid hd
          clear hdr hrow hd
          go_wp2
          have hgl : w.heap.size < wr.heap.size := HR.out.lt
          generalize hvb : wr.heap.size = vb
          rw [hvb] at hgl
          have hv0 : RowU (wr.alloc (.cells #[.int .u32 (a0 : Int), .int .u32 (a1 : Int), .int .u32 (a2 : Int), .int .u32 (a3 : Int), .int .u32 (a4 : Int), .int .u32 (a5 : Int), .int .u32 (a6 : Int), .int .u32 (a7 : Int)] 51)) vb 51 (rnds (wds b 64) [a0, a1, a2, a3, a4, a5, a6, a7] 0) := by
            unfold RowU
            rw [← hvb, heap_alloc_new]
            rfl
          have hba := hbx.alloc hbx.size (.cells #[.int .u32 (a0 : Int), .int .u32 (a1 : Int), .int .u32 (a2 : Int), .int .u32 (a3 : Int), .int .u32 (a4 : Int), .int .u32 (a5 : Int), .int .u32 (a6 : Int), .int .u32 (a7 : Int)] 51)
          have hrow : RowU (wr.alloc (.cells #[.int .u32 (a0 : Int), .int .u32 (a1 : Int), .int .u32 (a2 : Int), .int .u32 (a3 : Int), .int .u32 (a4 : Int), .int .u32 (a5 : Int), .int .u32 (a6 : Int), .int .u32 (a7 : Int)] 51)) w.heap.size 41 (wds b 64) := by
            unfold RowU
            rw [heap_alloc_old _ _ HR.out.lt]
            exact HR.out
          have hdr : (wr.alloc (.cells #[.int .u32 (a0 : Int), .int .u32 (a1 : Int), .int .u32 (a2 : Int), .int .u32 (a3 : Int), .int .u32 (a4 : Int), .int .u32 (a5 : Int), .int .u32 (a6 : Int), .int .u32 (a7 : Int)] 51)).heap[d]? = some (.cells (u32v ([a0, a1, a2, a3, a4, a5, a6, a7] ++ Kt) ++ tl).toArray T (0, 0)) := by
            rw [heap_alloc_old _ _ (Nat.lt_of_lt_of_le hdl hbx.size)]
            exact HD.out
          clear HR HD q0 q1 q2 q3 q4 q5 q6 q7
          simp only [Int.cast_ofNat_Int]
          go_loopw [12, 13, 14, 15, 16, 102] (fun _ _ _ _ _ i wx => ∃ k : Nat, k ≤ 64 ∧ i = .int .i64 k ∧ RowU wx vb 51 (rnds (wds b 64) [a0, a1, a2, a3, a4, a5, a6, a7] k) ∧ RowU wx w.heap.size 41 (wds b 64) ∧
            Below w.heap.size w wx) (fun _ _ _ _ _ i _ => 64 - (intOf i).toNat)
          case atStart => exact ⟨0, by omega, rfl, hv0, hrow, hba⟩
          case round =>
            clear hv0 hrow hdr hba
            clear hk16 hlt hvb hbx
            obtain ⟨k, hk, rfl, hv, hrow, hbx⟩ := hrel
            by_cases hlt : k < 64
            · obtain ⟨v0, v1, v2, v3, v4, v5, v6, v7, hv8⟩ : ∃ v0 v1 v2 v3 v4 v5 v6 v7, rnds (wds b 64) [a0, a1, a2, a3, a4, a5, a6, a7] k = [v0, v1, v2, v3, v4, v5, v6, v7] := by
                have h8 := rnds_length (wds b 64) [a0, a1, a2, a3, a4, a5, a6, a7] rfl k
                match rnds (wds b 64) [a0, a1, a2, a3, a4, a5, a6, a7] k, h8 with
                | [v0, v1, v2, v3, v4, v5, v6, v7], _ => exact ⟨_, _, _, _, _, _, _, _, rfl⟩
              have hvl := rnds_lt (wds b 64) [a0, a1, a2, a3, a4, a5, a6, a7] hHl k
              rw [hv8] at hv hvl
              have l0 : v0 < 4294967296 := hvl _ (by simp)
              have l1 : v1 < 4294967296 := hvl _ (by simp)
              have l2 : v2 < 4294967296 := hvl _ (by simp)
              have l4 : v4 < 4294967296 := hvl _ (by simp)
              have l5 : v5 < 4294967296 := hvl _ (by simp)
              have l6 : v6 < 4294967296 := hvl _ (by simp)
              have c0 : wr.cell? ⟨vb, 0, none⟩ = some (.int .u32 (v0 : Int)) := hv.cell 0 (by simp)
              have c1 : wr.cell? ⟨vb, 1, none⟩ = some (.int .u32 (v1 : Int)) := hv.cell 1 (by simp)
              have c2 : wr.cell? ⟨vb, 2, none⟩ = some (.int .u32 (v2 : Int)) := hv.cell 2 (by simp)
              have c4 : wr.cell? ⟨vb, 4, none⟩ = some (.int .u32 (v4 : Int)) := hv.cell 4 (by simp)
              have c5 : wr.cell? ⟨vb, 5, none⟩ = some (.int .u32 (v5 : Int)) := hv.cell 5 (by simp)
              have c6 : wr.cell? ⟨vb, 6, none⟩ = some (.int .u32 (v6 : Int)) := hv.cell 6 (by simp)
              have c7 : wr.cell? ⟨vb, 7, none⟩ = some (.int .u32 (v7 : Int)) := hv.cell 7 (by simp)
              obtain ⟨X, hX⟩ : ∃ X, X = (wds b 64).getD k 0 := ⟨_, rfl⟩
              obtain ⟨K, hK⟩ : ∃ K, K = Kt.getD k 0 := ⟨_, rfl⟩
              have cx := hrow.cell k (by rw [wds_length]; exact hlt)
              rw [← hX] at cx
              have ck : wr.cell? ⟨d, 8 + k, none⟩ = some (.int .u32 (K : Int)) := by
                rw [hK]
                exact kt_cell ((hbx.block d hdl).trans HDW.out) rfl hlt
              have HV := Lib.hid hv
              have HR := Lib.hid hrow
              have H8 := Lib.hid hv8
              have HX := Lib.hid hX
              have HK := Lib.hid hK
              clear hv hrow hv8 hX hK hvl
              have m4 : (k : Int) < 64 := by omega
              go_wp2
              go_quiet (fail)
              go_wp2
              generalize hwq : wr.drewN nq = wq
              have c0 : wq.cell? ⟨vb, 0, none⟩ = some (.int .u32 (v0 : Int)) := by rw [← hwq]; exact c0
              have c1 : wq.cell? ⟨vb, 1, none⟩ = some (.int .u32 (v1 : Int)) := by rw [← hwq]; exact c1
              have c2 : wq.cell? ⟨vb, 2, none⟩ = some (.int .u32 (v2 : Int)) := by rw [← hwq]; exact c2
              have c4 : wq.cell? ⟨vb, 4, none⟩ = some (.int .u32 (v4 : Int)) := by rw [← hwq]; exact c4
              have c5 : wq.cell? ⟨vb, 5, none⟩ = some (.int .u32 (v5 : Int)) := by rw [← hwq]; exact c5
              have c6 : wq.cell? ⟨vb, 6, none⟩ = some (.int .u32 (v6 : Int)) := by rw [← hwq]; exact c6
              have c7 : wq.cell? ⟨vb, 7, none⟩ = some (.int .u32 (v7 : Int)) := by rw [← hwq]; exact c7
              have cx : wq.cell? ⟨w.heap.size, k, none⟩ = some (.int .u32 (X : Int)) := by rw [← hwq]; exact cx
              have ck : wq.cell? ⟨d, 8 + k, none⟩ = some (.int .u32 (K : Int)) := by rw [← hwq]; exact ck
              have HW := Lib.hid hwq
              clear hwq
              refine wp_region_still_lit (by kernel_rfl) (by kernel_rfl) ?_
              repeat still_step
              still_call (turn_s _ v4 6 6 l4 (by decide) (by decide) rfl)
              repeat still_step
              still_call (turn_s _ v4 11 11 l4 (by decide) (by decide) rfl)
              repeat still_step
              still_call (turn_s _ v4 25 25 l4 (by decide) (by decide) rfl)
              repeat still_step
              refine wpStill_nil ?_
              rw [t1_fold v4 v5 v6 v7 K X l4 l5 l6]
              obtain ⟨t1, ht1⟩ : ∃ t1, t1 = (v7 + bg1 v4 + chx v4 v5 v6 + K + X) % 4294967296 := ⟨_, rfl⟩
              rw [← ht1]
              have HT1 := Lib.hid ht1
              clear ht1 c4 c5 c6 c7 cx ck
              change Exit.then _ _ Exit.normal _ wq.drew
              generalize hw2 : wq.drew = w2
              have c1 : w2.cell? ⟨vb, 1, none⟩ = some (.int .u32 (v1 : Int)) := by rw [← hw2]; exact c1
              have c2 : w2.cell? ⟨vb, 2, none⟩ = some (.int .u32 (v2 : Int)) := by rw [← hw2]; exact c2
              have HW2 := Lib.hid hw2
              clear hw2
              go_wp2
              refine wp_region_still_lit (by kernel_rfl) (by kernel_rfl) ?_
              repeat still_step
              still_call (turn_s _ v0 2 2 l0 (by decide) (by decide) rfl)
              repeat still_step
              still_call (turn_s _ v0 13 13 l0 (by decide) (by decide) rfl)
              repeat still_step
              still_call (turn_s _ v0 22 22 l0 (by decide) (by decide) rfl)
              repeat still_step
              refine wpStill_nil ?_
              rw [t2_fold v0 v1 v2 l0 l1 l2]
              obtain ⟨t2, ht2⟩ : ∃ t2, t2 = (bg0 v0 + mjx v0 v1 v2) % 4294967296 := ⟨_, rfl⟩
              rw [← ht2]
              have HT2 := Lib.hid ht2
              clear ht2 c1 c2
              change Exit.then _ _ Exit.normal _ w2.drew
              have hv3 : RowU w2.drew vb 51 [v0, v1, v2, v3, v4, v5, v6, v7] := by
                rw [← HW2.out, ← HW.out]
                exact HV.out
              have hr3 : RowU w2.drew w.heap.size 41 (wds b 64) := by
                rw [← HW2.out, ← HW.out]
                exact HR.out
              have hb3 : Below w.heap.size w w2.drew := by
                rw [← HW2.out, ← HW.out]
                exact below_drew1 (below_drew1 (below_drewNs hbx _))
              clear HW2 HW HV HR hbx
              generalize w2.drew = w3 at hv3 hr3 hb3 ⊢
              go_wp2
              go_still_tail 2, (by kernel_rfl)
              change wpList _ _ _ _ _ w3.drew
              refine wpList_copy_own rfl _ _ _ _ rfl 37 rfl rfl vb 1 7 7 ⟨vb, 0, none⟩ 7 8 rfl rfl (u32v [v0, v1, v2, v3, v4, v5, v6, v7]).toArray 51 hv3 (u32v [v0, v1, v2, v3, v4, v5, v6]) rfl ?_ ?_ ?_ ?_
              · intro j v hj
                have hl : j < 7 := (List.getElem?_eq_some_iff.1 hj).1
                rw [add_flat0, Nat.zero_add]
                have h9 := hv3.cell j (by simp; omega)
                have h10 : w3.drew.cell? ⟨vb, j, none⟩ = w3.cell? ⟨vb, j, none⟩ := rfl
                rw [h10, h9, ← hj]
                match j, hl with
                | 0, _ => rfl
                | 1, _ => rfl
                | 2, _ => rfl
                | 3, _ => rfl
                | 4, _ => rfl
                | 5, _ => rfl
                | 6, _ => rfl
              · simp [u32v]
              · intro v hv
                rw [u32v, List.mem_map] at hv
                obtain ⟨x, _, rfl⟩ := hv
                rfl
              have hv4 : RowU (w3.drew.setRow vb ((u32v [v0, v1, v2, v3, v4, v5, v6, v7]).toArray.toList.take 1 ++ (u32v [v0, v1, v2, v3, v4, v5, v6] ++ (u32v [v0, v1, v2, v3, v4, v5, v6, v7]).toArray.toList.drop (1 + (u32v [v0, v1, v2, v3, v4, v5, v6]).length))).toArray) vb 51 [v0, v0, v1, v2, v3, v4, v5, v6] := setRow_heap w3.drew vb _ _ _ (0, 0) hv3
              have hr4 : RowU (w3.drew.setRow vb ((u32v [v0, v1, v2, v3, v4, v5, v6, v7]).toArray.toList.take 1 ++ (u32v [v0, v1, v2, v3, v4, v5, v6] ++ (u32v [v0, v1, v2, v3, v4, v5, v6, v7]).toArray.toList.drop (1 + (u32v [v0, v1, v2, v3, v4, v5, v6]).length))).toArray) w.heap.size 41 (wds b 64) := (setRow_other w3.drew vb _ _ (by omega)).trans hr3
              have hb4 : Below w.heap.size w (w3.drew.setRow vb ((u32v [v0, v1, v2, v3, v4, v5, v6, v7]).toArray.toList.take 1 ++ (u32v [v0, v1, v2, v3, v4, v5, v6] ++ (u32v [v0, v1, v2, v3, v4, v5, v6, v7]).toArray.toList.drop (1 + (u32v [v0, v1, v2, v3, v4, v5, v6]).length))).toArray) := below_setRow (below_drew1 hb3) (by omega) _
              clear hv3 hr3 hb3
              generalize World.setRow w3.drew vb _ = w4 at hv4 hr4 hb4 ⊢
              have HR := Lib.hid hr4
              have HV := Lib.hid hv4
              have c4 : w4.cell? ⟨vb, 4, none⟩ = some (.int .u32 (v3 : Int)) := hv4.cell 4 (by simp)
              have c0 : w4.cell? ⟨vb, 0, none⟩ = some (.int .u32 (v0 : Int)) := hv4.cell 0 (by simp)
              have f4 : w4.frozen? ⟨vb, 4, none⟩ = false := hv4.free 4
              have f0 : w4.frozen? ⟨vb, 0, none⟩ = false := hv4.free 0
              clear hr4 hv4
              go_wp2
              have e3 : ((v3 : Int) + t1) % 4294967296 = ((((v3 + t1) % 4294967296 : Nat)) : Int) := by omega
              have e4 : ((t1 : Int) + t2) % 4294967296 = ((((t1 + t2) % 4294967296 : Nat)) : Int) := by omega
              rw [e3, e4]
              have hset : RowU ((w4.setCell ⟨vb, 4, none⟩ (.int .u32 (((v3 + t1) % 4294967296 : Nat) : Int))).setCell ⟨vb, 0, none⟩ (.int .u32 (((t1 + t2) % 4294967296 : Nat) : Int))) vb 51 (rnds (wds b 64) [a0, a1, a2, a3, a4, a5, a6, a7] (k + 1)) := by
                have h1 := (HV.out.set 4 ((v3 + t1) % 4294967296)).set 0 ((t1 + t2) % 4294967296)
                have h2 : (([v0, v0, v1, v2, v3, v4, v5, v6].set 4 ((v3 + t1) % 4294967296)).set 0 ((t1 + t2) % 4294967296)) = rnds (wds b 64) [a0, a1, a2, a3, a4, a5, a6, a7] (k + 1) := by
                  rw [rnds, H8.out, ← HX.out, ← HK.out, rnd, HT1.out, HT2.out]
                  simp only [List.set_cons_succ, List.set_cons_zero, List.cons.injEq, and_true, true_and]
                  exact ⟨by omega, by omega⟩
                rw [h2] at h1
                exact h1
              have hrs : RowU ((w4.setCell ⟨vb, 4, none⟩ (.int .u32 (((v3 + t1) % 4294967296 : Nat) : Int))).setCell ⟨vb, 0, none⟩ (.int .u32 (((t1 + t2) % 4294967296 : Nat) : Int))) w.heap.size 41 (wds b 64) := by
                unfold RowU
                rw [heap_setCell_other _ _ _ _ (by simp; omega), heap_setCell_other _ _ _ _ (by simp; omega)]
                exact HR.out
              have hbs := (hb4.setCell (p := ⟨vb, 4, none⟩) (Nat.le_of_lt hgl) (.int .u32 (((v3 + t1) % 4294967296 : Nat) : Int))).setCell (p := ⟨vb, 0, none⟩) (Nat.le_of_lt hgl) (.int .u32 (((t1 + t2) % 4294967296 : Nat) : Int))
              refine ⟨⟨k + 1, by omega, by go_num, hset, hrs, hbs⟩, ?_⟩
              simp [intOf]; omega
            · obtain rfl : k = 64 := by omega
              clear hrow
              obtain ⟨V, hV⟩ : ∃ V, V = rnds (wds b 64) [a0, a1, a2, a3, a4, a5, a6, a7] 64 := ⟨_, rfl⟩
              rw [← hV] at hv
              have hVl : V.length = 8 := by rw [hV]; exact rnds_length _ _ rfl _
              have HV := Lib.hid hV
              clear hV
              obtain ⟨v0, v1, v2, v3, v4, v5, v6, v7, rfl⟩ : ∃ v0 v1 v2 v3 v4 v5 v6 v7, V = [v0, v1, v2, v3, v4, v5, v6, v7] := by
                match V, hVl with
                | [v0, v1, v2, v3, v4, v5, v6, v7], _ => exact ⟨_, _, _, _, _, _, _, _, rfl⟩
              have c0 : wr.cell? ⟨vb, 0, none⟩ = some (.int .u32 (v0 : Int)) := hv.cell 0 (by simp)
              have c1 : wr.cell? ⟨vb, 1, none⟩ = some (.int .u32 (v1 : Int)) := hv.cell 1 (by simp)
              have c2 : wr.cell? ⟨vb, 2, none⟩ = some (.int .u32 (v2 : Int)) := hv.cell 2 (by simp)
              have c3 : wr.cell? ⟨vb, 3, none⟩ = some (.int .u32 (v3 : Int)) := hv.cell 3 (by simp)
              have c4 : wr.cell? ⟨vb, 4, none⟩ = some (.int .u32 (v4 : Int)) := hv.cell 4 (by simp)
              have c5 : wr.cell? ⟨vb, 5, none⟩ = some (.int .u32 (v5 : Int)) := hv.cell 5 (by simp)
              have c6 : wr.cell? ⟨vb, 6, none⟩ = some (.int .u32 (v6 : Int)) := hv.cell 6 (by simp)
              have c7 : wr.cell? ⟨vb, 7, none⟩ = some (.int .u32 (v7 : Int)) := hv.cell 7 (by simp)
              clear hv
              have hdr : RowK wr d T (mixv [a0, a1, a2, a3, a4, a5, a6, a7] [v0, v1, v2, v3, v4, v5, v6, v7] 0) tl := (hbx.block d hdl).trans HDW.out
              have hux : Upd (fun k => k = d) w wr := Upd.of_below hbx
              clear hbx
              go_wp2
              clear c0 c1 c2 c3 c4 c5 c6 c7
              simp only [Int.cast_ofNat_Int]
              go_loopw [17, 18, 179] (fun _ _ i wx => ∃ j : Nat, j ≤ 8 ∧ i = .int .i64 j ∧ RowK wx d T (mixv [a0, a1, a2, a3, a4, a5, a6, a7] [v0, v1, v2, v3, v4, v5, v6, v7] j) tl ∧ Upd (fun k => k = d) w wx) (fun _ _ i _ => 8 - (intOf i).toNat)
              case atStart => exact ⟨0, by omega, rfl, hdr, hux⟩
              case round =>
                clear hdr hux
                obtain ⟨j, hj, rfl, hdr, hux⟩ := hrel
                by_cases hlt : j < 8
                · have cj := hdr.cell j (by rw [mixv_length _ _ _ rfl rfl hj]; exact hlt)
                  have cf := hdr.free j
                  rw [mixv_getD _ _ _ rfl rfl hlt] at cj
                  obtain ⟨x, hx⟩ : ∃ x, x = [a0, a1, a2, a3, a4, a5, a6, a7].getD j 0 := ⟨_, rfl⟩
                  rw [← hx] at cj
                  have HX := Lib.hid hx
                  have HD := Lib.hid hdr
                  have hix := vix wr v0 v1 v2 v3 v4 v5 v6 v7 j hlt
                  obtain ⟨y, hy⟩ : ∃ y, y = [v0, v1, v2, v3, v4, v5, v6, v7].getD j 0 := ⟨_, rfl⟩
                  rw [← hy] at hix
                  have HY := Lib.hid hy
                  clear hx hdr hy
                  have m4 : (j : Int) < 8 := by omega
                  go_wp2
                  go_still_tail 9, (by kernel_rfl)
                  change wpList _ _ _ _ _ wr.drew
                  go_wp2
                  have e5 : ((x : Int) + y) % 4294967296 = ((((x + y) % 4294967296 : Nat)) : Int) := by omega
                  rw [e5]
                  have hset : RowK (wr.setCell ⟨d, j, none⟩ (.int .u32 (((x + y) % 4294967296 : Nat) : Int))).drew d T (mixv [a0, a1, a2, a3, a4, a5, a6, a7] [v0, v1, v2, v3, v4, v5, v6, v7] (j + 1)) tl := by
                    have h1 := HD.out.set j ((x + y) % 4294967296) (by rw [mixv_length _ _ _ rfl rfl hj]; exact hlt)
                    rw [HX.out, HY.out, mixv_set _ _ _ rfl rfl hlt, ← HX.out, ← HY.out] at h1
                    exact h1
                  have hus := (hux.setCell ⟨d, j, none⟩ rfl (.int .u32 (((x + y) % 4294967296 : Nat) : Int))).drewN 1
                  refine ⟨⟨j + 1, by omega, by go_num, hset, hus⟩, ?_⟩
                  simp [intOf]; omega
                · obtain rfl : j = 8 := by omega
                  go_wp2
                  refine bodyPost_end (results_none rfl _ _ _) rfl ?_
                  refine ⟨rfl, ?_, hux⟩
                  have h1 : mixv [a0, a1, a2, a3, a4, a5, a6, a7] [v0, v1, v2, v3, v4, v5, v6, v7] 8 = blk [a0, a1, a2, a3, a4, a5, a6, a7] b := by
                    unfold blk
                    rw [← HV.out]
                    rfl
                  rw [← h1]
                  exact hdr
end Go.Proofs.Ytohgkcgeanofnaa
