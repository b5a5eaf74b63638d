/- Blocks: the writer's entry, walked. -/
import Derived.Test.YtanieolnaiihmaaBkShared
import Derived.Deep.RegionHeld3
namespace Go.Proofs.Ytanieolnaiihmaa
open Go.RowKit

/-- Block g is a block's writer behind last, over the pack writer gp that has put bs. -/
structure Bkw (w : World) (base g gp : Nat) (v : Value) (last : ByteArray) (bs : List UInt8) : Prop where
  blk : w.heap[g]? = some (.cells #[.pointer (some ⟨gp, 0, none⟩), .string last] 109 (0, 0))
  wr : Wr w base gp v bs
def BkwS (g gp : Nat) (v : Value) (k : Nat) : Prop := k = g ∨ WrS gp v k
theorem cells_ne {w : World} {a b : Nat} {cs ds : Array Value} {t u : TypeId} {f f' : Nat × Nat} (h : w.heap[a]? = some (.cells cs t f)) (h' : w.heap[b]? = some (.cells ds u f')) (hne : t ≠ u) : a ≠ b := by
  rintro rfl
  have := h.symm.trans h'
  injection this with this
  injection this with _ h2 _
  exact hne h2
theorem Bkw.apart {w : World} {base g gp : Nat} {v : Value} {last : ByteArray} {bs : List UInt8} (h : Bkw w base g gp v last bs) : ¬ WrS gp v g := by
  rintro (e | e)
  · exact cells_ne h.blk h.wr.blk (by decide) e
  · exact own_ne_cells h.wr.own h.blk (by decide) e
/-- The state in which an entry is written: x lies boxed at block X. -/
structure Bst (w : World) (base g gp X : Nat) (v : Value) (last : ByteArray) (bs : List UInt8) (x : Ent) : Prop where
  bw : Bkw w base g gp v last bs
  xb : w.heap[X]? = some (.cells #[.string x.key, .int .i64 x.seq, .bool x.dead, .string x.val] 41 (0, 0))
section
variable {w w' : World} {base g gp X : Nat} {v v' : Value} {last : ByteArray} {bs bs' : List UInt8} {x : Ent}
theorem Bst.xapart (h : Bst w base g gp X v last bs x) : ¬ WrS gp v X := by
  rintro (e | e)
  · exact cells_ne h.xb h.bw.wr.blk (by decide) e
  · exact own_ne_cells h.bw.wr.own h.xb (by decide) e
theorem Bst.step (h : Bst w base g gp X v last bs x) (hw : Wr w' base gp v' bs') (hu : Upd (WrS gp v) w w') : Bst w' base g gp X v' last bs' x :=
  ⟨⟨(hu.block g (Array.getElem?_eq_some_iff.1 h.bw.blk).1 h.bw.apart).trans h.bw.blk, hw⟩, (hu.block X (Array.getElem?_eq_some_iff.1 h.xb).1 h.xapart).trans h.xb⟩
theorem Bst.same (h : Bst w base g gp X v last bs x) (hu : Upd (fun _ => False) w w') : Bst w' base g gp X v last bs x :=
  h.step (h.bw.wr.upd hu (fun _ _ h => h)) (hu.mono fun _ _ h => h.elim)
theorem Bst.c0 (h : Bst w base g gp X v last bs x) : w.cell? ⟨g, 0, none⟩ = some (.pointer (some ⟨gp, 0, none⟩)) := by rw [cell_of_row w g 0 _ _ _ h.bw.blk]; rfl
theorem Bst.c1 (h : Bst w base g gp X v last bs x) : w.cell? ⟨g, 1, none⟩ = some (.string last) := by rw [cell_of_row w g 1 _ _ _ h.bw.blk]; rfl
theorem Bst.x0 (h : Bst w base g gp X v last bs x) : w.cell? ⟨X, 0, none⟩ = some (.string x.key) := by rw [cell_of_row w X 0 _ _ _ h.xb]; rfl
theorem Bst.x1 (h : Bst w base g gp X v last bs x) : w.cell? ⟨X, 1, none⟩ = some (.int .i64 x.seq) := by rw [cell_of_row w X 1 _ _ _ h.xb]; rfl
theorem Bst.x2 (h : Bst w base g gp X v last bs x) : w.cell? ⟨X, 2, none⟩ = some (.bool x.dead) := by rw [cell_of_row w X 2 _ _ _ h.xb]; rfl
theorem Bst.x3 (h : Bst w base g gp X v last bs x) : w.cell? ⟨X, 3, none⟩ = some (.string x.val) := by rw [cell_of_row w X 3 _ _ _ h.xb]; rfl
end
theorem upd_hid {w w' : World} (h : Hid (∃ m, w' = w.drewN m)) : Upd (fun _ => False) w w' := by
  obtain ⟨m, rfl⟩ := h
  exact (Upd.refl _ w).drewN m
theorem upd_drew0 {S : Nat → Prop} {w w' : World} (h : Upd S w w') : Upd S w w'.drew := ⟨h.os, h.tape, h.output, h.size, h.block⟩
/-- One text that lies in the newest block, a draw behind it. -/
theorem text_new (w : World) (base g : Nat) (v : Value) (bs : List UInt8) (s : ByteArray) (h : Wr w base g v bs) (hb : base ≤ w.heap.size) (hl : bs.length + (textB s.data.toList).length ≤ 140737488355328) :
    Calls Try.prog 48 #[.pointer (some ⟨g, 0, none⟩), .slice (some ⟨w.heap.size, 0, none⟩) 1 1] (w.alloc (.cells #[.string s] 9)).drew fun e w' => e = .returned (.tuple #[]) ∧ ∃ v', Wr w' base g v' (bs ++ textB s.data.toList) ∧ RowAt w v v' ∧ Upd (WrS g v) w w' := by
  have hu : Upd (fun _ => False) w (w.alloc (.cells #[.string s] 9)).drew := upd_drew0 ((Upd.refl _ w).alloc _)
  have hone : textsB [s] = textB s.data.toList := by simp [textsB]
  have hr : Rd (w.alloc (.cells #[.string s] 9)) (w.heap.size + 1) 1 (some ⟨w.heap.size, 0, none⟩) 1 (strv [s]) := by simpa [strv] using Rd.new (w := w) (size := 1) (n := 1) #[.string s] 9 rfl
  have hr2 : Rd (w.alloc (.cells #[.string s] 9)).drew (w.heap.size + 1) 1 (some ⟨w.heap.size, 0, none⟩) 1 (strv [s]) := ⟨hr.len, hr.at_⟩
  refine (text_any (w.alloc (.cells #[.string s] 9)).drew base g v bs (some ⟨w.heap.size, 0, none⟩) 1 1 [s] (h.upd hu (fun _ _ h => h)) (Nat.le_trans hb hu.size) (hr2.mono (by simp)) (sep_new h) (by rw [hone]; exact hl) (by omega)).mono ?_
  rintro e w' ⟨rfl, v', h', hat, hu'⟩
  rw [hone] at h'
  exact ⟨rfl, v', h', rowAt_upd (w' := w') hu hat rfl, (hu.mono (fun _ _ h => h.elim)).trans hu' (fun _ _ hs => hs)⟩
theorem int_new (w : World) (base g : Nat) (v : Value) (bs : List UInt8) (x : Int) (h0 : -9223372036854775808 ≤ x) (h1 : x ≤ 9223372036854775807) (h : Wr w base g v bs) (hb : base ≤ w.heap.size) (hl : bs.length + (intB x).length ≤ 140737488355328) :
    Calls Try.prog 95 #[.pointer (some ⟨g, 0, none⟩), .slice (some ⟨w.heap.size, 0, none⟩) 1 1] (w.alloc (.cells #[.int .i64 x] 3)).drew fun e w' => e = .returned (.tuple #[]) ∧ ∃ v', Wr w' base g v' (bs ++ intB x) ∧ RowAt w v v' ∧ Upd (WrS g v) w w' := by
  have hu : Upd (fun _ => False) w (w.alloc (.cells #[.int .i64 x] 3)).drew := upd_drew0 ((Upd.refl _ w).alloc _)
  have hone : intsB [x] = intB x := by simp [intsB]
  have hr : Rd (w.alloc (.cells #[.int .i64 x] 3)) (w.heap.size + 1) 1 (some ⟨w.heap.size, 0, none⟩) 1 (i64v [x]) := by simpa [i64v] using Rd.new (w := w) (size := 1) (n := 1) #[.int .i64 x] 3 rfl
  have hr2 : Rd (w.alloc (.cells #[.int .i64 x] 3)).drew (w.heap.size + 1) 1 (some ⟨w.heap.size, 0, none⟩) 1 (i64v [x]) := ⟨hr.len, hr.at_⟩
  refine (int_any (w.alloc (.cells #[.int .i64 x] 3)).drew base g v bs (some ⟨w.heap.size, 0, none⟩) 1 1 [x] (h.upd hu (fun _ _ h => h)) (Nat.le_trans hb hu.size) (hr2.mono (by simp)) (sep_new h) (by rw [hone]; exact hl) (by simp; exact ⟨h0, h1⟩) (by omega)).mono ?_
  rintro e w' ⟨rfl, v', h', hat, hu'⟩
  rw [hone] at h'
  exact ⟨rfl, v', h', rowAt_upd (w' := w') hu hat rfl, (hu.mono (fun _ _ h => h.elim)).trans hu' (fun _ _ hs => hs)⟩
theorem entB_len (last : List UInt8) (x : Ent) (h0 : -9223372036854775808 ≤ x.seq) (h1 : x.seq ≤ 9223372036854775807) (hk : x.kl.length < 18446744073709551616) (hv : x.vl.length < 18446744073709551616) :
    (entB last x).length ≤ 50 + x.kl.length + x.vl.length ∧ (numB (lcp last x.kl)).length + (textB (x.kl.drop (lcp last x.kl))).length + (intB x.seq).length + (if x.dead then numB 1 else numB 0 ++ textB x.vl).length = (entB last x).length := by
  have hlc := lcp_le last x.kl
  have a1 := numB_len10 (lcp last x.kl) (by omega)
  have a2 := numB_len10 (x.kl.drop (lcp last x.kl)).length (by rw [List.length_drop]; omega)
  have a3 := intB_len x.seq h0 h1
  have a4 := numB_len10 x.vl.length hv
  have a5 := numB_len10 1 (by omega)
  have a6 := numB_len10 0 (by omega)
  unfold entB
  cases hd : x.dead
  · simp only [List.length_append, textB, List.length_drop, Bool.false_eq_true, if_false] at a2 ⊢
    exact ⟨by omega, trivial⟩
  · simp only [List.length_append, textB, List.length_drop, if_true] at a2 ⊢
    exact ⟨by omega, trivial⟩
theorem Bkw.last {w : World} {base g gp : Nat} {v : Value} {last : ByteArray} {bs : List UInt8} (h : Bkw w base g gp v last bs) (s : ByteArray) :
    Bkw (w.setCell ⟨g, 1, none⟩ (.string s)) base g gp v s bs ∧ Upd (fun k => k = g) w (w.setCell ⟨g, 1, none⟩ (.string s)) := by
  have hu : Upd (fun k => k = g) w (w.setCell ⟨g, 1, none⟩ (.string s)) := (Upd.refl (fun k => k = g) w).setCell ⟨g, 1, none⟩ rfl _
  exact ⟨⟨heap_setCell_same w g 1 _ _ (.string s) h.blk, h.wr.upd hu (fun k hk e => h.apart (by rw [← e]; exact hk))⟩, hu⟩
theorem ext_drop (s : ByteArray) (n : Nat) : (s.extract n s.size).data.toList = s.data.toList.drop n := by
  rw [ByteArray.data_extract, Array.toList_extract, List.extract_eq_take_drop, List.take_of_length_le]; simp
set_option maxHeartbeats 4000000 in
set_option maxRecDepth 20000 in
theorem went_any (w : World) (base g gp : Nat) (v : Value) (last : ByteArray) (bs : List UInt8) (x : Ent) (h : Bkw w base g gp v last bs) (hb : base ≤ w.heap.size) (hs0 : -9223372036854775808 ≤ x.seq) (hs1 : x.seq ≤ 9223372036854775807)
    (hk : x.key.size ≤ 1099511627776) (hv : x.val.size ≤ 1099511627776) (hla : last.size ≤ 1099511627776) (hl : bs.length + (entB last.data.toList x).length ≤ 140737488355328) :
    Calls Try.prog 69 #[.pointer (some ⟨g, 0, none⟩), .agg #[.string x.key, .int .i64 x.seq, .bool x.dead, .string x.val]] w fun e w' => e = .returned (.tuple #[]) ∧ ∃ v', Bkw w' base g gp v' x.key (bs ++ entB last.data.toList x) ∧ RowAt w v v' ∧ Upd (BkwS g gp v) w w' := by
  have hkl : x.kl.length = x.key.size := by simp [Ent.kl]
  have hvl : x.vl.length = x.val.size := by simp [Ent.vl]
  have hlen := (entB_len last.data.toList x hs0 hs1 (by omega) (by omega)).2
  have hS := shared_any
  have st : Bst (w.alloc (.cells #[.string x.key, .int .i64 x.seq, .bool x.dead, .string x.val] 41)) base g gp w.heap.size v last bs x :=
    ⟨⟨(Below.heap_alloc w _ g (Array.getElem?_eq_some_iff.1 h.blk).1).trans h.blk, h.wr.upd ((Upd.refl (fun _ => False) w).alloc _) (fun _ _ h => h)⟩, heap_alloc_new w _⟩
  have hu0 : Upd (fun _ => False) w (w.alloc (.cells #[.string x.key, .int .i64 x.seq, .bool x.dead, .string x.val] 41)) := (Upd.refl _ w).alloc _
  go_enter Try.func69, Try.ntmps69
  go_wp2
  generalize w.alloc (.cells #[.string x.key, .int .i64 x.seq, .bool x.dead, .string x.val] 41) = w1 at st hu0 ⊢
  have MK : Hid (∀ W, Upd (fun _ => False) w1 W → Upd (fun _ => False) w1 W ∧ W.cell? ⟨g, 1, none⟩ = some (.string last) ∧ W.cell? ⟨w.heap.size, 0, none⟩ = some (.string x.key)) := Lib.hid fun W hW => ⟨hW, (st.same hW).c1, (st.same hW).x0⟩
  go_region_held3 (fun W => Upd (fun _ => False) w1 W ∧ W.cell? ⟨g, 1, none⟩ = some (.string last) ∧ W.cell? ⟨w.heap.size, 0, none⟩ = some (.string x.key)) (first | exact MK.out _ (by assumption) | exact MK.out _ (upd_drew0 (Upd.refl _ _))) (first
    | (go_at_call 94; refine (shared_any _ last x.key (by omega) (by omega)).mono ?_; rintro e w2 ⟨rfl, hS2⟩; have hS3 := (And.left (by assumption) : Upd (fun _ => False) w1 _).trans (upd_hid hS2) (fun _ _ h => h)))
  have st2 := st.same hS3
  have hu2 := hu0.trans hS3 (fun _ _ h => h)
  clear MK hS2 hS3 st hu0 hS
  obtain ⟨n, hn⟩ : ∃ n, lcp last.data.toList x.kl = n := ⟨_, rfl⟩
  have hnle := lcp_le last.data.toList x.kl
  have hn' : lcp last.data.toList x.key.data.toList = n := hn
  rw [hn'] 
  rw [hn] at hlen hnle
  have HN := Lib.hid hn
  have hrs := ext_drop x.key n
  have hrk : (x.key.extract n x.key.size).data.toList = x.kl.drop n := hrs
  rw [← hrk] at hlen
  have HRK := Lib.hid hrk
  have hb2 := Nat.le_trans hb hu2.size
  have n1 : (n : Int) ≤ (x.key.size : Int) := by omega
  have n2 : (0 : Int) ≤ (n : Int) := by omega
  have n3 : n ≤ 1099511627776 := by omega
  have n4 : n ≤ x.key.size := by omega
  have HL := Lib.hid hlen
  have e1 : bs.length + (numB n).length ≤ 140737488355328 := by omega
  have e2 : bs.length + (numB n).length + (textB (x.key.extract n x.key.size).data.toList).length ≤ 140737488355328 := by omega
  have e3 : bs.length + (numB n).length + (textB (x.key.extract n x.key.size).data.toList).length + (intB x.seq).length ≤ 140737488355328 := by omega
  have e4 : bs.length + (numB n).length + (textB (x.key.extract n x.key.size).data.toList).length + (intB x.seq).length + (if x.dead then numB 1 else numB 0 ++ textB x.vl).length ≤ 140737488355328 := by omega
  clear hn hn' hrs hrk hlen hnle hkl hvl
  have c20 := st2.c0
  go_wp2_with fail
  refine (num_one _ base gp v bs n _ rfl (by omega) st2.bw.wr hb2 e1).mono ?_
  rintro e w3 ⟨rfl, v3, hw3, hat3, hu3⟩
  have st3 := st2.step hw3 hu3
  have hu3' : Upd (BkwS g gp v) w w3 := (hu2.mono (fun _ _ h => h.elim)).trans hu3 (fun k hk h => .inr h)
  have hat3' : RowAt w v v3 := (hat3.imp id fun ⟨k, h1, h2⟩ => ⟨k, Nat.le_trans hu2.size h1, h2⟩)
  have hb3 := Nat.le_trans hb2 hu3.size
  clear hw3 hat3 hu3 st2 c20
  have MK : Hid (∀ W, Upd (WrS gp v3) w3 W → Upd (WrS gp v3) w3 W ∧ W.cell? ⟨g, 0, none⟩ = some (.pointer (some ⟨gp, 0, none⟩)) ∧ W.cell? ⟨w.heap.size, 0, none⟩ = some (.string x.key)) := Lib.hid fun W hW =>
    ⟨hW, (hW.cell (p := ⟨g, 0, none⟩) (Array.getElem?_eq_some_iff.1 st3.bw.blk).1 st3.bw.apart).trans st3.c0, (hW.cell (p := ⟨w.heap.size, 0, none⟩) (Array.getElem?_eq_some_iff.1 st3.xb).1 st3.xapart).trans st3.x0⟩
  go_wp2
  go_region_held3 (fun W => Upd (WrS gp v3) w3 W ∧ W.cell? ⟨g, 0, none⟩ = some (.pointer (some ⟨gp, 0, none⟩)) ∧ W.cell? ⟨w.heap.size, 0, none⟩ = some (.string x.key)) (first | exact MK.out _ (by assumption) | exact MK.out _ (upd_drew0 (Upd.refl _ _)) | exact MK.out _ (upd_drew0 ((Upd.refl _ _).alloc _))) (first
    | (go_at_call 48; refine (text_new w3 base gp v3 _ (x.key.extract n x.key.size) st3.bw.wr hb3 (by rw [List.length_append]; exact e2)).mono ?_; rintro e w4 ⟨rfl, v4, hw4, hat4, hu4⟩))
  have st4 := st3.step hw4 hu4
  have hu4' : Upd (BkwS g gp v) w w4 := hu3'.trans hu4 (fun k hk h => h.elim (fun e => .inr (.inl e)) (fun e => hat3'.elim (fun q => .inr (.inr (q ▸ e))) (fun ⟨k', h1, h2⟩ => by rw [h2] at e; injection e with e; omega)))
  have hat4' := hat3'.trans hat4 hu3'.size
  have hb4 := Nat.le_trans hb3 hu4.size
  clear MK hw4 hat4 hu4 st3 hu3' hat3' hb3
  rename_i hh
  clear hh
  have MK : Hid (∀ W, Upd (WrS gp v4) w4 W → Upd (WrS gp v4) w4 W ∧ W.cell? ⟨g, 0, none⟩ = some (.pointer (some ⟨gp, 0, none⟩)) ∧ W.cell? ⟨w.heap.size, 1, none⟩ = some (.int .i64 x.seq)) := Lib.hid fun W hW =>
    ⟨hW, (hW.cell (p := ⟨g, 0, none⟩) (Array.getElem?_eq_some_iff.1 st4.bw.blk).1 st4.bw.apart).trans st4.c0, (hW.cell (p := ⟨w.heap.size, 1, none⟩) (Array.getElem?_eq_some_iff.1 st4.xb).1 st4.xapart).trans st4.x1⟩
  go_wp2
  go_region_held3 (fun W => Upd (WrS gp v4) w4 W ∧ W.cell? ⟨g, 0, none⟩ = some (.pointer (some ⟨gp, 0, none⟩)) ∧ W.cell? ⟨w.heap.size, 1, none⟩ = some (.int .i64 x.seq)) (first | exact MK.out _ (by assumption) | exact MK.out _ (upd_drew0 (Upd.refl _ _)) | exact MK.out _ (upd_drew0 ((Upd.refl _ _).alloc _))) (first
    | (go_at_call 95; refine (int_new w4 base gp v4 _ x.seq hs0 hs1 st4.bw.wr hb4 (by rw [List.length_append, List.length_append]; exact e3)).mono ?_; rintro e w5 ⟨rfl, v5, hw5, hat5, hu5⟩))
  have st5 := st4.step hw5 hu5
  have hu5' : Upd (BkwS g gp v) w w5 := hu4'.trans hu5 (fun k hk h => h.elim (fun e => .inr (.inl e)) (fun e => hat4'.elim (fun q => .inr (.inr (q ▸ e))) (fun ⟨k', h1, h2⟩ => by rw [h2] at e; injection e with e; omega)))
  have hat5' := hat4'.trans hat5 hu4'.size
  have hb5 := Nat.le_trans hb4 hu5.size
  clear MK hw5 hat5 hu5 st4 hu4' hat4' hb4
  rename_i hh
  clear hh
  have x52 := st5.x2
  have x50 := st5.x0
  have c50 := st5.c0
  have f5 : w5.frozen? ⟨g, 1, none⟩ = false := frozen_of_row w5 g 1 _ _ st5.bw.blk
  cases hd : x.dead with
  | true =>
    rw [hd] at x52 e4
    simp only [if_true] at e4
    have hE : Hid (bs ++ numB n ++ textB (x.key.extract n x.key.size).data.toList ++ intB x.seq ++ numB 1 = bs ++ entB last.data.toList x) := Lib.hid (by
      unfold entB; rw [HN.out, HRK.out, hd]; simp)
    have HD := Lib.hid hd
    clear hd
    go_wp2_with fail
    refine (num_one _ base gp v5 _ 1 _ rfl (by omega) st5.bw.wr hb5 (by simp only [List.length_append]; omega)).mono ?_
    rintro e w6 ⟨rfl, v6, hw6, hat6, hu6⟩
    have st6 := st5.step hw6 hu6
    have hu6' : Upd (BkwS g gp v) w w6 := hu5'.trans hu6 (fun k hk h => h.elim (fun e => .inr (.inl e)) (fun e => hat5'.elim (fun q => .inr (.inr (q ▸ e))) (fun ⟨k', h1, h2⟩ => by rw [h2] at e; injection e with e; omega)))
    have hat6' := hat5'.trans hat6 hu5'.size
    have x60 := st6.x0
    have c61 := st6.c1
    have f6 : w6.frozen? ⟨g, 1, none⟩ = false := frozen_of_row w6 g 1 _ _ st6.bw.blk
    have hfin := st6.bw.last x.key
    clear hw6 hat6 hu6 st5 hu5' hat5' hb5 x52 x50 c50 f5
    go_wp2
    go_end0
    exact ⟨rfl, v6, by rw [← hE.out]; exact hfin.1, hat6', hu6'.trans hfin.2 (fun k hk h => .inl h)⟩
  | false =>
    rw [hd] at x52 e4
    simp only [Bool.false_eq_true, if_false, List.length_append] at e4
    have e5 : bs.length + (numB n).length + (textB (x.key.extract n x.key.size).data.toList).length + (intB x.seq).length + (numB 0).length + (textB x.val.data.toList).length ≤ 140737488355328 := by
      have h : textB x.vl = textB x.val.data.toList := rfl
      rw [← h]; omega
    have hE : Hid (bs ++ numB n ++ textB (x.key.extract n x.key.size).data.toList ++ intB x.seq ++ numB 0 ++ textB x.vl = bs ++ entB last.data.toList x) := Lib.hid (by
      unfold entB; rw [HN.out, HRK.out, hd]; simp)
    have HD := Lib.hid hd
    clear hd
    go_wp2_with fail
    refine (num_one _ base gp v5 _ 0 _ rfl (by omega) st5.bw.wr hb5 (by simp only [List.length_append]; omega)).mono ?_
    rintro e w6 ⟨rfl, v6, hw6, hat6, hu6⟩
    have st6 := st5.step hw6 hu6
    have hu6' : Upd (BkwS g gp v) w w6 := hu5'.trans hu6 (fun k hk h => h.elim (fun e => .inr (.inl e)) (fun e => hat5'.elim (fun q => .inr (.inr (q ▸ e))) (fun ⟨k', h1, h2⟩ => by rw [h2] at e; injection e with e; omega)))
    have hat6' := hat5'.trans hat6 hu5'.size
    have hb6 := Nat.le_trans hb5 hu6.size
    clear hw6 hat6 hu6 st5 hu5' hat5' hb5 x52 x50 c50 f5
    have MK : Hid (∀ W, Upd (WrS gp v6) w6 W → Upd (WrS gp v6) w6 W ∧ W.cell? ⟨g, 0, none⟩ = some (.pointer (some ⟨gp, 0, none⟩)) ∧ W.cell? ⟨w.heap.size, 3, none⟩ = some (.string x.val)) := Lib.hid fun W hW =>
      ⟨hW, (hW.cell (p := ⟨g, 0, none⟩) (Array.getElem?_eq_some_iff.1 st6.bw.blk).1 st6.bw.apart).trans st6.c0, (hW.cell (p := ⟨w.heap.size, 3, none⟩) (Array.getElem?_eq_some_iff.1 st6.xb).1 st6.xapart).trans st6.x3⟩
    go_wp2
    go_region_held3 (fun W => Upd (WrS gp v6) w6 W ∧ W.cell? ⟨g, 0, none⟩ = some (.pointer (some ⟨gp, 0, none⟩)) ∧ W.cell? ⟨w.heap.size, 3, none⟩ = some (.string x.val)) (first | exact MK.out _ (by assumption) | exact MK.out _ (upd_drew0 (Upd.refl _ _)) | exact MK.out _ (upd_drew0 ((Upd.refl _ _).alloc _))) (first
      | (go_at_call 48; refine (text_new w6 base gp v6 _ x.val st6.bw.wr hb6 (by simp only [List.length_append]; exact e5)).mono ?_; rintro e w7 ⟨rfl, v7, hw7, hat7, hu7⟩))
    have st7 := st6.step hw7 hu7
    have hu7' : Upd (BkwS g gp v) w w7 := hu6'.trans hu7 (fun k hk h => h.elim (fun e => .inr (.inl e)) (fun e => hat6'.elim (fun q => .inr (.inr (q ▸ e))) (fun ⟨k', h1, h2⟩ => by rw [h2] at e; injection e with e; omega)))
    have hat7' := hat6'.trans hat7 hu6'.size
    have x70 := st7.x0
    have c71 := st7.c1
    have f7 : w7.frozen? ⟨g, 1, none⟩ = false := frozen_of_row w7 g 1 _ _ st7.bw.blk
    have hfin := st7.bw.last x.key
    clear MK hw7 hat7 hu7 st6 hu6' hat6' hb6
    go_wp2
    go_end0
    exact ⟨rfl, v7, by rw [← hE.out]; exact hfin.1, hat7', hu7'.trans hfin.2 (fun k hk h => .inl h)⟩
end Go.Proofs.Ytanieolnaiihmaa
