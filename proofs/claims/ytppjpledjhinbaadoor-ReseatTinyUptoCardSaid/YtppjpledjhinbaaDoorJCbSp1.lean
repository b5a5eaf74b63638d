/- Cabins: cabin.Spots, walked. -/
import Derived.Test.YtppjpledjhinbaaDoorJCbRSp
namespace Go.Proofs.YtppjpledjhinbaaDoor
open Go.RowKit Go.Lib
attribute [local go_sem] Oper.semAt_some
theorem Rd.goC {w w' : World} {size n : Nat} {A : Option Addr} {xs : List Value} (h : Rd w w.heap.size size A n xs) (hb : Below w.heap.size w w') : Rd w' w'.heap.size size A n xs := (h.below hb).mono hb.size
/-- What Spots has so far: out and block in their boxes. -/
structure SpSt (w1 W : World) (v : Value) (b : Int) (O : List MSpot) : Prop where
  out : W.heap[w1.heap.size]? = some (.cells #[v] 44 (0, 0))
  blk : W.heap[w1.heap.size + 1]? = some (.cells #[.int .i64 b] 3 (0, 0))
  own : W.ownsRow (w1.heap.size + 2) 105 7 v O.length (catv spotC O)
  bel : Below w1.heap.size w1 W
theorem SpSt.upd {S : Nat → Prop} {w1 W W' : World} {v : Value} {b : Int} {O : List MSpot} (h : SpSt w1 W v b O) (hu : Upd S W W') (h0 : ∀ k, k < w1.heap.size + 2 → ¬ S k) (h1 : ∀ g, v.ownBlock = some g → ¬ S g) : SpSt w1 W' v b O :=
  ⟨box_keep h.out hu (h0 _ (by omega)), box_keep h.blk hu (h0 _ (by omega)), own_upd h.own hu h1, h.bel.trans (hu.below (fun k hk => h0 k (by omega)) h.bel.size)⟩
theorem SpSt.below {w1 W W' : World} {v : Value} {b : Int} {O : List MSpot} (h : SpSt w1 W v b O) (hb : Below W.heap.size W W') : SpSt w1 W' v b O :=
  h.upd (S := fun _ => False) (Upd.of_below hb) (fun _ _ h => h) (fun _ _ h => h)
/-- .. within a row. -/
structure SpRow (w1 W : World) (h : Nat) (r : MRow) (Ds : List Nat) (v : Value) (b : Int) (O : List MSpot) : Prop where
  st : SpSt w1 W v b O
  row : W.heap[h]? = some (.cells (rowC r).toArray 72 (0, 0))
  far : ∀ g, v.ownBlock = some g → g < h ∨ h + 4 ≤ g
  marks : NoCalls W Ds
theorem SpRow.upd {S : Nat → Prop} {w1 W W' : World} {h : Nat} {r : MRow} {Ds : List Nat} {v : Value} {b : Int} {O : List MSpot} (H : SpRow w1 W h r Ds v b O) (hu : Upd S W W') (h0 : ∀ k, k < w1.heap.size + 2 → ¬ S k) (h1 : ∀ g, v.ownBlock = some g → ¬ S g) (h2 : ¬ S h) (h3 : ∀ D ∈ Ds, ¬ S D) : SpRow w1 W' h r Ds v b O :=
  ⟨H.st.upd hu h0 h1, box_keep H.row hu h2, H.far, H.marks.upd hu h3⟩
theorem SpRow.below {w1 W W' : World} {h : Nat} {r : MRow} {Ds : List Nat} {v : Value} {b : Int} {O : List MSpot} (H : SpRow w1 W h r Ds v b O) (hb : Below W.heap.size W W') : SpRow w1 W' h r Ds v b O :=
  H.upd (S := fun _ => False) (Upd.of_below hb) (fun _ _ h => h) (fun _ _ h => h) (fun h => h) (fun _ _ h => h)
/-- A turn of a block that is no cells' own. -/
theorem SpRow.grown {w1 W W' : World} {h B : Nat} {r : MRow} {Ds : List Nat} {v : Value} {b : Int} {O : List MSpot} {row : Option Nat} (H : SpRow w1 W h r Ds v b O) (hB : ∀ D ∈ Ds, D < B) (hw : w1.heap.size ≤ B) (hg : W.grownBy W' row)
    (hr : ∀ q, row = some q → B ≤ q ∧ ∃ o : Obj, W.heap[q]? = some o ∧ o.isCells = false) : SpRow w1 W' h r Ds v b O := by
  have nc : ∀ (k : Nat) (cs : Array Value) (t : TypeId) (f : Nat × Nat), W.heap[k]? = some (.cells cs t f) → ¬ row = some k := fun k cs t f hk e => by
    obtain ⟨_, o, ho, hc⟩ := hr k e
    rw [hk] at ho
    injection ho with ho
    subst ho
    cases hc
  refine H.upd (S := fun k => row = some k) (Upd.of_grown hg) (fun k hk e => ?_) (fun g hg e => ?_) (nc h _ _ _ H.row) (fun D hD e => by have := (hr D e).1; have := hB D hD; omega)
  · have := (hr k e).1
    rcases Nat.lt_or_ge k w1.heap.size with h9 | h9
    · omega
    · have h10 : k = w1.heap.size ∨ k = w1.heap.size + 1 := by omega
      rcases h10 with rfl | rfl
      · exact nc _ _ _ _ H.st.out e
      · exact nc _ _ _ _ H.st.blk e
  · rcases H.st.own.2 with ⟨h1, _⟩ | ⟨g', cap, cur, h1, _, h2, _⟩
    · rw [h1] at hg; cases hg
    · rw [h1] at hg
      simp [Value.ownBlock] at hg
      subst hg
      exact nc _ _ _ _ h2 e
theorem keeps_upd {B : Nat} {S : Nat → Prop} {W W' : World} (hu : Upd S W W') (hs : ∀ k, S k → k < W.heap.size → ∃ cs t f, W.heap[k]? = some (.cells cs t f)) : KeepsFrom B W W' :=
  ⟨hu.size, fun k o _ hk ho => by
    refine (hu.block k (Array.getElem?_eq_some_iff.1 hk).1 fun h => ?_).trans hk
    obtain ⟨cs, t, f, e⟩ := hs k h (Array.getElem?_eq_some_iff.1 hk).1
    rw [hk] at e
    injection e with e
    subst e
    cases ho⟩
theorem own_cells {w : World} {base size n : Nat} {e : TypeId} {v : Value} {xs : List Value} (h : w.ownsRow base e size v n xs) {g : Nat} (hg : v.ownBlock = some g) : ∃ cs t f, w.heap[g]? = some (.cells cs t f) := by
  rcases h.2 with ⟨h1, _⟩ | ⟨g', cap, cur, h1, _, h2, _⟩
  · rw [h1] at hg; cases hg
  · rw [h1] at hg
    simp [Value.ownBlock] at hg
    subst hg
    exact ⟨_, _, _, h2⟩
/-- A spot more. -/
theorem SpRow.push {w1 W W' w4 : World} {h : Nat} {r : MRow} {Ds : List Nat} {v v4 : Value} {b : Int} {O : List MSpot} (H : SpRow w1 W h r Ds v b O) (hW : Below W.heap.size W W') (hh : h + 4 ≤ W.heap.size) (hw : w1.heap.size + 2 ≤ h) (x : MSpot)
    (ho : w4.ownsRow (w1.heap.size + 2) 105 7 v4 (O ++ [x]).length (catv spotC (O ++ [x]))) (hu : Upd (fun q => v.ownBlock = some q) W' w4) (hat : RowAt W' v v4) :
    SpRow w1 (w4.setCell ⟨w1.heap.size, 0, none⟩ v4) h r Ds v4 b (O ++ [x]) ∧ Upd (fun q => v.ownBlock = some q ∨ q = w1.heap.size) W (w4.setCell ⟨w1.heap.size, 0, none⟩ v4) ∧ ∀ g, v4.ownBlock = some g → v.ownBlock = some g ∨ W'.heap.size ≤ g := by
  have H' := H.below hW
  have nd : ∀ D ∈ Ds, ¬ v.ownBlock = some D := fun D hD e => by
    obtain ⟨cs, t, f, e2⟩ := own_cells H'.st.own e
    rw [H'.marks.2 D hD] at e2; cases e2
  have ng : ∀ k, k < w1.heap.size + 2 → ¬ v.ownBlock = some k := fun k hk e => by have := (H'.st.own.lt k e).1; omega
  have nh : ¬ v.ownBlock = some h := fun e => by have := H.far h e; omega
  have nb : ∀ D ∈ Ds, D ≠ w1.heap.size := fun D hD e => by
    have h1 := H'.marks.2 D hD
    rw [e, H'.st.out] at h1; cases h1
  have o4 := box_keep H'.st.out hu (ng _ (by omega))
  have hv : ∀ g, v4.ownBlock = some g → v.ownBlock = some g ∨ W'.heap.size ≤ g := fun g hg => by
    rcases hat with h1 | ⟨q, hq, h1⟩
    · exact .inl (h1 ▸ hg)
    · rw [hg] at h1
      injection h1 with h1
      subst h1
      exact .inr hq
  have us : Upd (fun k => k = w1.heap.size) w4 (w4.setCell ⟨w1.heap.size, 0, none⟩ v4) := (Upd.refl (fun k => k = w1.heap.size) w4).setCell ⟨w1.heap.size, 0, none⟩ rfl v4
  have hsz := hW.size
  have hb4 : Below w1.heap.size w1 w4 := H'.st.bel.trans (hu.below (fun k hk => ng k (by omega)) H'.st.bel.size)
  refine ⟨⟨⟨?_, ?_, ?_, ?_⟩, ?_, ?_, ?_⟩, ?_, hv⟩
  · rw [heap_setCell_same w4 w1.heap.size 0 _ _ v4 o4]; rfl
  · exact box_keep (box_keep H'.st.blk hu (ng _ (by omega))) us (by omega)
  · exact own_upd ho us (fun g hg e => by have := (ho.lt g hg).1; omega)
  · exact hb4.trans (us.below (fun k hk e => by omega) hb4.size)
  · exact box_keep (box_keep H'.row hu nh) us (by omega)
  · intro g hg
    rcases hv g hg with h1 | h1
    · exact H.far g h1
    · right; omega
  · exact (H'.marks.upd hu nd).upd us nb
  · exact ((Upd.of_below (S := fun q => v.ownBlock = some q ∨ q = w1.heap.size) hW).trans hu (fun k _ h => .inl h)).trans us (fun k _ h => .inr h)
theorem Bts.upd {S : Nat → Prop} {w w' : World} {g : Nat} {l : List UInt8} (h : Bts w g l) (hu : Upd S w w') (hs : ¬ S g) : Bts w' g l :=
  ⟨Nat.lt_of_lt_of_le h.lt hu.size, fun j hj => (hu.cell (p := ⟨g, j, none⟩) h.lt hs).trans (h.cell j hj), fun j hj => (hu.frozen (p := ⟨g, j, none⟩) h.lt hs).trans (h.free j hj)⟩
theorem own_is {w : World} {base size n : Nat} {e : TypeId} {v : Value} {xs : List Value} (h : w.ownsRow base e size v n xs) : ∃ A m c, v = .slice A m c := by
  rcases h.2 with ⟨h1, _⟩ | ⟨g', cap, cur, h1, _⟩
  · exact ⟨_, _, _, h1⟩
  · exact ⟨_, _, _, h1⟩
theorem sp_more {w1 W wr w4 : World} {h q : Nat} {r : MRow} {Ds : List Nat} {v v4 : Value} {b : Int} {O : List MSpot} {x : MSpot} {z : List UInt8} {o : Obj} {W3s : Nat} (H : SpRow w1 wr h r Ds v b O) (hh : h + 4 ≤ wr.heap.size) (hw : w1.heap.size + 2 ≤ h)
    (hB : Bts wr q z) (hQ : ∀ g, v.ownBlock = some g → g ≠ q) (hK : KeepB (h + 1) W wr) (hF : KeepsFrom W3s W wr) (hq : h + 4 ≤ q)
    (ho : w4.ownsRow (w1.heap.size + 2) 105 7 v4 (O.length + 1) (catv spotC O ++ spotC x)) (hu : Upd (fun g => v.ownBlock = some g) (wr.alloc o) w4) (hat : RowAt (wr.alloc o) v v4) :
    ∃ u, w4.cell? ⟨w1.heap.size, 0, none⟩ = some u ∧ w4.frozen? ⟨w1.heap.size, 0, none⟩ = false ∧
      Hid (h + 4 ≤ (w4.setCell ⟨w1.heap.size, 0, none⟩ v4).heap.size ∧ SpRow w1 (w4.setCell ⟨w1.heap.size, 0, none⟩ v4) h r Ds v4 b (O ++ [x]) ∧ Bts (w4.setCell ⟨w1.heap.size, 0, none⟩ v4) q z ∧ (∀ g, v4.ownBlock = some g → g ≠ q) ∧ KeepB (h + 1) W (w4.setCell ⟨w1.heap.size, 0, none⟩ v4) ∧ KeepsFrom W3s W (w4.setCell ⟨w1.heap.size, 0, none⟩ v4)) := by
  have hW : Below wr.heap.size wr (wr.alloc o) := (Below.refl _ _).alloc (Nat.le_refl _) _
  have H' := H.below hW
  obtain ⟨p1, p2, p3⟩ := H.push hW hh hw x (by simpa [catv] using ho) hu hat
  have o4 : w4.heap[w1.heap.size]? = some (.cells #[v] 44 (0, 0)) := box_keep H'.st.out hu (fun e => by have := (H'.st.own.lt _ e).1; omega)
  refine ⟨v, by rw [cell_of_row _ _ 0 _ _ _ o4]; rfl, frozen_of_row _ _ _ _ _ o4, Lib.hid ⟨?_, p1, ?_, ?_, ?_, ?_⟩⟩
  · have := p2.size; omega
  · exact hB.upd p2 (fun e => by
      rcases e with e | e
      · exact hQ q e rfl
      · omega)
  · intro g hg e
    subst e
    rcases p3 g hg with e | e
    · exact hQ g e rfl
    · have := hB.lt; have := hW.size; omega
  · exact hK.trans (KeepB.upd p2 (fun k k1 k2 e => by
      rcases e with e | e
      · rcases H.far k e with e2 | e2 <;> omega
      · omega))
  · exact hF.trans (keeps_upd p2 (fun k e _ => by
      rcases e with e | e
      · exact own_cells H.st.own e
      · subst e; exact ⟨_, _, _, H.st.out⟩))
/-- .. at a part of a row. -/
def SpI (w1 : World) (h : Nat) (r : MRow) (Ds : List Nat) (b : Nat) (F : List MSpot) (Q : List (List UInt8)) (R : List MSpot) (j : Nat) (W : World) : Prop :=
  ∃ v O', h + 4 ≤ W.heap.size ∧ SpRow w1 W h r Ds v ((b : Int) + (j : Int)) O' ∧ Hid (F = O' ++ spotsP r (Q.drop j) ((b : Int) + (j : Int)) ++ R)
set_option maxHeartbeats 8000000 in
set_option maxRecDepth 100000 in
theorem spots_any (w : World) (m : Int) (A : Option Addr) (n c : Nat) (l : List MRow) (hr : Rd w w.heap.size 5 A n (catv rowC l)) (hf : ∀ r ∈ l, r.fits) (hLib : LibAt w m) :
    Calls Tryd.prog 66 #[.slice A n c] w fun e w' => ∃ v, e = .returned v ∧ w'.ownsRow w.heap.size 105 7 v (spotsL l).length (catv spotC (spotsL l)) ∧ Below w.heap.size w w' := by
  obtain ⟨i0, hi0, hz0, hz1, hz2⟩ := info_parts spot_info
  have HL := Lib.hid (rd_catlen rowC_len (by decide) hr)
  have HR := Lib.hid hr
  have HCK := Lib.hid (check_any w m A n c l hr hf hLib)
  obtain ⟨F, hF⟩ : ∃ F, spotsL l = F := ⟨_, rfl⟩
  rw [hF]
  have HF0 := Lib.hid hF
  have hcv := fun w s => run_bytes_of_string (P := Tryd.prog) w 9 160 5 s Tryd.underlying9 Tryd.underlying160 Tryd.underlying5
  clear hr hf hF hLib
  refine (callsIn_wide (n := 3)).1 ?_
  refine callsIn_of_wp_marks Tryd.func66 rfl trivial ?_ rfl
  simp only [Tryd.ntmps66, List.size_toArray, List.length_cons, List.length_nil, Nat.reduceAdd, Nat.reduceSub, Array.replicate_succ, Array.replicate_zero, List.push_toArray, List.append_toArray, List.nil_append, List.cons_append]
  gi_wp2_with (refine ⟨trivial, ?_⟩; gi_at_call 49; refine (callsIn_wide.2 HCK.out).mono ?_; rintro e w1 ⟨rfl, hb1⟩; have HB1 := Lib.hid hb1; have HR1 := Lib.hid (HR.out.goC hb1); clear hb1 HCK HR; unfold errC; cases hck : checkL l <;> simp only [Bool.false_eq_true, if_false, if_true])
  · have HS : F = [] := by rw [← HF0.out]; unfold spotsL; rw [hck]; rfl
    refine ⟨_, results_tmp rfl _ _ _, _, rfl, ?_, HB1.out⟩
    rw [HS]
    exact World.ownsRow_nil _ _ _ _
  · have HF : Hid (spotsAll l 0 = F) := Lib.hid (by rw [← HF0.out]; unfold spotsL; rw [hck]; rfl)
    have hcg : checkGo 0 l = true ∧ l.length ≤ 6 := by
      unfold checkL at hck
      simp only [Bool.and_eq_true, decide_eq_true_eq] at hck
      exact ⟨hck.2, hck.1.2⟩
    have HROW := Lib.hid (check_rows l 0 hcg.1)
    have hn6 : n ≤ 6 := by rw [HL.out]; exact hcg.2
    have hF66 : F.length ≤ 66 := by
      rw [← HF.out]
      have := spotsAll_len l 0 fun r hr => (seats_short (HROW.out r hr).1).1
      omega
    have st0 : SpSt w1 ((w1.alloc (.cells #[.slice none 0 0] 44)).alloc (.cells #[.int .i64 0] 3)) (.slice none 0 0) 0 [] := by
      have e1 : (w1.alloc (.cells #[.slice none 0 0] 44)).heap.size = w1.heap.size + 1 := by simp
      refine ⟨(Below.heap_alloc _ _ _ (by rw [e1]; omega)).trans (heap_alloc_new w1 _), ?_, World.ownsRow_nil _ _ _ _, ((Below.refl w1.heap.size w1).alloc (Nat.le_refl _) _).alloc (by simp) _⟩
      have := heap_alloc_new (w1.alloc (.cells #[.slice none 0 0] 44)) (.cells #[.int .i64 0] 3)
      rwa [e1] at this
    clear hcg hck HF0
    refine wpIn_loop (fun a W => ∃ (k b : Nat) (O : List MSpot) (v : Value) (Ds : List Nat) (u5 u6 u7 u8 u9 u10 u17 u18 u19 u20 u21 u22 u23 u24 u25 u26 u27 u28 u29 u30 u31 u32 u33 u34 u35 u36 u37 u38 u39 u40 u41 u42 u43 u44 u45 u46 u47 u48 u49 u50 u51 u52 u53 u54 u55 u56 : Value), a = { tmps := #[.slice A n c, undef, .slice none 0 0, .pointer (some ⟨w1.heap.size, 0, none⟩), .pointer (some ⟨w1.heap.size + 1, 0, none⟩), u5, u6, u7, u8, u9, u10, .slice A n c, .int .i64 0, .bool false, .slice A n c, .int .i64 n, .int .i64 (k : Int), u17, u18, u19, u20, u21, u22, u23, u24, u25, u26, u27, u28, u29, u30, u31, u32, u33, u34, u35, u36, u37, u38, u39, u40, u41, u42, u43, u44, u45, u46, u47, u48, u49, u50, u51, u52, u53, u54, u55, u56], defers := Ds.map markOf } ∧ k ≤ n ∧ b ≤ 12 * k ∧ Hid (F = O ++ spotsAll (l.drop k) b) ∧ Hid (SpSt w1 W v b O) ∧ Hid (NoCalls W Ds) ∧ Hid (∀ D ∈ Ds, w1.heap.size + 2 ≤ D)) (fun a _ => n - (intOf (a.tmps.getD 16 undef)).toNat) ?_ ?_
    · exact ⟨0, 0, [], .slice none 0 0, [], undef, undef, undef, undef, undef, undef, undef, undef, undef, undef, undef, undef, undef, undef, undef, undef, undef, undef, undef, undef, undef, undef, undef, undef, undef, undef, undef, undef, undef, undef, undef, undef, undef, undef, undef, undef, undef, undef, undef, undef, undef, undef, undef, undef, undef, undef, rfl, Nat.zero_le _, Nat.le_refl _, Lib.hid HF.out.symm, Lib.hid st0, Lib.hid ⟨List.nodup_nil, by simp⟩, Lib.hid (by simp)⟩
    · rintro a W ⟨k, b, O, v, Ds, u5, u6, u7, u8, u9, u10, u17, u18, u19, u20, u21, u22, u23, u24, u25, u26, u27, u28, u29, u30, u31, u32, u33, u34, u35, u36, u37, u38, u39, u40, u41, u42, u43, u44, u45, u46, u47, u48, u49, u50, u51, u52, u53, u54, u55, u56, rfl, hk, hb, hG, hst, hnc, hds⟩
      clear st0
      by_cases hlt : k < n
      · obtain ⟨gb, off, rfl, hgb, hs, hcc⟩ := (HR1.out.below hst.out.bel).elem rowC_len (by decide) hlt
        have hG2 := hG.out
        rw [List.drop_eq_getElem_cons hs, spotsAll] at hG2
        have hrw := HROW.out l[k] (List.getElem_mem hs)
        obtain ⟨r, hr⟩ : ∃ r, l[k] = r := ⟨_, rfl⟩
        rw [hr] at hcc hG2 hrw
        obtain ⟨r1, r2, r3, r4, r5⟩ := r
        have c0 := hcc 0 _ rfl
        have c1 := hcc 1 _ rfl
        have c2 := hcc 2 _ rfl
        have c3 := hcc 3 _ rfl
        have c4 := hcc 4 _ rfl
        rw [Nat.add_zero] at c0
        simp only at hG2 hrw
        have hsh := seats_short hrw.1
        have hlet : ∀ c ∈ r5.data.toList, c ≠ 46 → greatB c ≠ 0 := letter_ok _ _ _ _ hrw.1
        have hsl : r5.data.toList.length = r5.size := rfl
        have hr5 : r5.size ≤ 1048576 := by omega
        rw [← spots_pieces] at hG2
        obtain ⟨h, hh⟩ : ∃ h, W.heap.size = h := ⟨_, rfl⟩
        obtain ⟨Wx, hWx⟩ : ∃ Wx, Wx = W.alloc (.cells #[.int .i64 r1, .int .i64 r2, .int .i64 r3, .bool r4, .string r5] 72) := ⟨_, rfl⟩
        have hbx : Below W.heap.size W Wx := by rw [hWx]; exact (Below.refl _ _).alloc (Nat.le_refl _) _
        have hxs : Wx.heap.size = h + 1 := by rw [hWx]; simp [hh]
        have hsr : SpRow w1 Wx h ⟨r1, r2, r3, r4, r5⟩ Ds v b O := by
          refine ⟨hst.out.below hbx, ?_, fun g hg => .inl (by rw [← hh]; exact (hst.out.own.lt g hg).2), hnc.out.upd (S := fun _ => False) (Upd.of_below hbx) (fun _ _ h => h)⟩
          rw [hWx, ← hh]; exact heap_alloc_new W _
        obtain ⟨W3, hW3⟩ : ∃ W3, W3 = ((Wx.alloc (.cells #[.string r5] 9)).alloc (.cells #[.string ⟨#[46]⟩] 9)).alloc (.cells #[.int .i64 0] 3) := ⟨_, rfl⟩
        have hw1h : w1.heap.size + 2 ≤ h := by rw [← hh]; exact (Array.getElem?_eq_some_iff.1 hst.out.blk).1
        have b1 := heap_alloc_new Wx (.cells #[.string r5] 9)
        have b2 := heap_alloc_new (Wx.alloc (.cells #[.string r5] 9)) (.cells #[.string ⟨#[46]⟩] 9)
        have b3 := heap_alloc_new ((Wx.alloc (.cells #[.string r5] 9)).alloc (.cells #[.string ⟨#[46]⟩] 9)) (.cells #[.int .i64 0] 3)
        have e1 : (Wx.alloc (.cells #[.string r5] 9)).heap.size = h + 2 := by simp [hxs]
        have e2 : ((Wx.alloc (.cells #[.string r5] 9)).alloc (.cells #[.string ⟨#[46]⟩] 9)).heap.size = h + 3 := by simp [hxs]
        have h3s : W3.heap.size = h + 4 := by rw [hW3]; simp [hxs]
        rw [hxs] at b1
        rw [e1] at b2
        rw [e2] at b3
        have B1 : Hid (W3.heap[h + 1]? = some (.cells #[.string r5] 9 (0, 0))) := Lib.hid (by rw [hW3]; exact (Below.heap_alloc _ _ _ (by rw [e2]; omega)).trans ((Below.heap_alloc _ _ _ (by rw [e1]; omega)).trans b1))
        have B2 : Hid (W3.heap[h + 1 + 1]? = some (.cells #[.string ⟨#[46]⟩] 9 (0, 0))) := Lib.hid (by rw [hW3]; exact (Below.heap_alloc _ _ _ (by rw [e2]; omega)).trans b2)
        have B3 : Hid (W3.heap[h + 1 + 2]? = some (.cells #[.int .i64 0] 3 (0, 0))) := Lib.hid (by rw [hW3]; exact b3)
        have hb3 : Below Wx.heap.size Wx W3 := by rw [hW3]; exact (((Below.refl _ Wx).alloc (Nat.le_refl _) _).alloc (by simp) _).alloc (by simp; omega) _
        have HSR := Lib.hid (hsr.below hb3)
        have HSH := Lib.hid hsh
        have HNC := Lib.hid hnc.out
        have HLET := Lib.hid hlet
        have HG2 := Lib.hid hG2
        have HSPL := Lib.hid (split_hands 2 (by decide) W3 (h + 1) r5 hr5 B1.out B2.out B3.out)
        clear hcc hr hrw hsh hlet hG2 hbx hsr b1 b2 b3 e1 e2 hb3 hst hnc hG
        gi_wp2_with (refine ⟨trivial, ?_⟩; gi_at_call 79; refine (callsIn_wide.2 (splitSeq_any _ r5)).mono ?_; rintro e w2 ⟨rfl, rfl⟩)
        rw [← hWx, ← hW3]
        have hpc := pieces_of r5
        have hcn := pieces_count r5.data.toList
        have hpl := pieces_letters r5.data.toList
        obtain ⟨Z, hZ⟩ : ∃ Z, splitB ⟨#[46]⟩ 0 (countB r5 ⟨#[46]⟩) r5 = Z := ⟨_, rfl⟩
        obtain ⟨N, hN⟩ : ∃ N, countB r5 ⟨#[46]⟩ = N := ⟨_, rfl⟩
        have hZl : Z.length = N + 1 := by rw [← hZ, ← hN]; exact splitB_all ⟨#[46]⟩ (by decide) 0 _ r5 rfl
        rw [hZ] at hpc HSPL
        rw [hN] at HSPL
        obtain ⟨Q, hQ⟩ : ∃ Q, piecesL r5.data.toList = Q := ⟨_, rfl⟩
        obtain ⟨dn, hdn⟩ : ∃ dn, dotsN r5.data.toList = dn := ⟨_, rfl⟩
        rw [hQ] at hpc hcn hpl HG2
        rw [hdn] at hcn HSH HG2
        have hQl : Q.length = N + 1 := by rw [← hpc, List.length_map, hZl]
        have hNd : N = dn := by omega
        subst hNd
        have hN5 : N ≤ 5 := HSH.out.2
        have HPC := Lib.hid hpc
        have HPL := Lib.hid hpl
        have HQL := Lib.hid hQl
        have HZL := Lib.hid hZl
        have hDh : ∀ D ∈ Ds, D < h := fun D hD => by rw [← hh]; exact (Array.getElem?_eq_some_iff.1 (HNC.out.2 D hD)).1
        have HDH := Lib.hid hDh
        have hKX : KeepB (h + 1) W3 W3 := KeepB.refl _ _
        clear hpc hcn hpl hZ hN hZl hQ hdn hQl hDh HNC hKX hWx hW3 hxs hh
        obtain ⟨zv, hzv⟩ : ∃ zv : Nat → Value, (fun j => Value.string (Z.getD j ⟨#[]⟩)) = zv := ⟨_, rfl⟩
        rw [hzv] at HSPL
        have HZV : Hid (∀ j, zv j = .string (Z.getD j ⟨#[]⟩)) := Lib.hid (fun j => by rw [← hzv])
        clear hzv
        refine range_hands (x := zv) (N := N + 1) (sB := h + 1) (Kp := KeepB (h + 1)) rfl (by decide) (gf := 104) (lb := #[.pointer (some ⟨h + 1 + 1, 0, none⟩), .pointer (some ⟨h + 1, 0, none⟩), .pointer (some ⟨h + 1 + 2, 0, none⟩)]) rfl trivial (enters_of Tryd.func104 (by kernel_rfl) rfl) HSPL.out (fun h1 h2 => KeepB.trans h1 h2) (fun W l o hl => KeepB.putObj W l o (by omega)) (fun W o => KeepB.alloc _ W o) rfl (by omega)
          (SpI w1 h ⟨r1, r2, r3, r4, r5⟩ Ds b F Q (spotsAll (l.drop (k + 1)) ((b : Int) + N + 1)))
          ?own ?cell ?start (fun j => { tmps := #[.slice (some ⟨gb, off, none⟩) n c, undef, .slice none 0 0, .pointer (some ⟨w1.heap.size, 0, none⟩), .pointer (some ⟨w1.heap.size + 1, 0, none⟩), u5, .pointer (some ⟨h, 0, none⟩), zv j, u8, u9, u10, .slice (some ⟨gb, off, none⟩) n c, .int .i64 0, .bool false, .slice (some ⟨gb, off, none⟩) n c, .int .i64 n, .int .i64 (k : Int), .bool true, .pointer (some ⟨gb, off + k * 5, none⟩), .agg #[.int .i64 r1, .int .i64 r2, .int .i64 r3, .bool r4, .string r5], .pointer (some ⟨h, 4, none⟩), .string r5, .func (.func 104) #[] #[.pointer (some ⟨h + 2, 0, none⟩), .pointer (some ⟨h + 1, 0, none⟩), .pointer (some ⟨h + 3, 0, none⟩)], zv j, u24, u25, u26, u27, u28, u29, u30, u31, u32, u33, u34, u35, u36, u37, u38, u39, u40, u41, u42, u43, u44, u45, u46, u47, u48, u49, u50, u51, u52, u53, u54, u55, u56], defers := [] }) ?assign ?body ?done
        case own =>
          rintro j W W' row ⟨v', O', hq', hs', hg'⟩ hgr hrow
          exact ⟨v', O', Nat.le_trans hq' hgr.size, hs'.grown (B := W3.heap.size) (fun D hD => by have := HDH.out D hD; omega) (by omega) hgr hrow, hg'⟩
        case cell =>
          rintro j W u ⟨v', O', hq', hs', hg'⟩
          exact ⟨v', O', by simpa using hq', hs'.upd (S := fun k => k = h + 1) ((Upd.refl (fun k => k = h + 1) W).setCell ⟨h + 1, 0, none⟩ rfl u) (fun k hk => by omega) (fun g hg e => by have := hs'.far g hg; omega) (by omega) (fun D hD e => by have := HDH.out D hD; omega), hg'⟩
        case start =>
          refine ⟨v, O, by omega, ?_, Lib.hid ?_⟩
          · simpa using HSR.out
          · rw [List.drop_zero]; simpa using HG2.out
        case assign =>
          intro l' j W K hK
          gi_wp2
          exact hK
        case body =>
          rintro l' j W ⟨v', O', hq', hs', hg'⟩ hj
          obtain ⟨Zb, hZb⟩ : ∃ Zb, Z.getD j ⟨#[]⟩ = Zb := ⟨_, rfl⟩
          have hzj := HZV.out j
          rw [hZb] at hzj
          have hjZ : j < Z.length := by rw [HZL.out]; exact hj
          have hjQ : j < Q.length := by rw [HQL.out]; exact hj
          obtain ⟨z, hz⟩ : ∃ z, Zb.data.toList = z := ⟨_, rfl⟩
          have hQj : Q[j] = z := by
            rw [← hz, ← hZb, List.getD_eq_getElem?_getD, List.getElem?_eq_getElem hjZ]
            have := HPC.out
            simp only [← this, List.getElem_map]
            rfl
          obtain ⟨bb, hbb⟩ : ∃ bb, (b : Int) + (j : Int) = bb := ⟨_, rfl⟩
          have hg2 := hg'.out
          rw [List.drop_eq_getElem_cons hjQ, hQj, spotsP, hbb] at hg2
          rw [hbb] at hs'
          have hzl : z.length ≤ 66 := by
            have := congrArg List.length hg2
            simp only [List.length_append, List.length_map] at this
            omega
          have hle : ∀ c ∈ z, greatB c ≠ 0 := fun c hc => by
            have := HPL.out z (by rw [← hQj]; exact List.getElem_mem hjQ) c hc
            exact HLET.out c this.1 this.2
          have HLE := Lib.hid hle
          have hzs : Zb.size = z.length := by rw [← hz]; rfl
          have HB := Lib.hid (Bts.made W Zb (grownCap W Zb.size 0 5) 5).drew
          rw [hz] at HB
          have HW := Lib.hid (below_drewL ((Below.refl W.heap.size W).alloc (Nat.le_refl _) (.cells (bytesRow Zb (grownCap W Zb.size 0 5)) 5 ((bytesRow Zb (grownCap W Zb.size 0 5)).size, (bytesRow Zb (grownCap W Zb.size 0 5)).size + 1))))
          have HS' := Lib.hid hs'
          have HGI := Lib.hid hg2
          have HZS := Lib.hid hzs
          have hzs66 : Zb.size ≤ 66 := by omega
          clear hg2 hQj hjZ hjQ hz hZb hzs hs' hg' hle
          rw [hzj]
          clear hzj
          gi_wp2
          generalize hc1 : grownCap W Zb.size 0 5 = cap at *
          clear hc1
          generalize (W.alloc (.cells (bytesRow Zb cap) 5 ((bytesRow Zb cap).size, (bytesRow Zb cap).size + 1))).drew = W4 at HB HW ⊢
          have HS4 := Lib.hid (HS'.out.below HW.out)
          have HQ4 : Hid (∀ g, v'.ownBlock = some g → g ≠ W.heap.size) := Lib.hid (fun g hg e => by have := (HS'.out.st.own.lt g hg).2; omega)
          have HK4 : Hid (KeepB (h + 1) W W4) := Lib.hid (KeepB.upd (S := fun _ => False) (Upd.of_below HW.out) (fun _ _ _ h => h))
          have HF4 : Hid (KeepsFrom W3.heap.size W W4) := Lib.hid (keeps_upd (S := fun _ => False) (Upd.of_below HW.out) (fun _ h _ => h.elim))
          have hw4 : h + 4 ≤ W4.heap.size := Nat.le_trans hq' HW.out.size
          have hbq : W.heap.size < W4.heap.size := HB.out.lt
          have HGJ : Hid (F = O' ++ ((z.drop 0).map (fun c => spotOf ⟨r1, r2, r3, r4, r5⟩ c bb) ++ spotsP ⟨r1, r2, r3, r4, r5⟩ (Q.drop (j + 1)) (bb + 1)) ++ spotsAll (l.drop (k + 1)) ((b : Int) + N + 1)) := HGI
          gi_loopw [27] (fun i wx => ∃ (t : Nat) (v2 : Value) (O2 : List MSpot), t ≤ Zb.size ∧ i = .int .i64 (t : Int) ∧ h + 4 ≤ wx.heap.size ∧ Hid (SpRow w1 wx h ⟨r1, r2, r3, r4, r5⟩ Ds v2 bb O2) ∧ Hid (F = O2 ++ ((z.drop t).map (fun c => spotOf ⟨r1, r2, r3, r4, r5⟩ c bb) ++ spotsP ⟨r1, r2, r3, r4, r5⟩ (Q.drop (j + 1)) (bb + 1)) ++ spotsAll (l.drop (k + 1)) ((b : Int) + N + 1)) ∧ Hid (Bts wx W.heap.size z) ∧ Hid (∀ g, v2.ownBlock = some g → g ≠ W.heap.size) ∧ Hid (KeepB (h + 1) W wx) ∧ Hid (KeepsFrom W3.heap.size W wx)) (fun i _ => Zb.size - (intOf i).toNat)
          case atStart => exact ⟨0, v', O', Nat.zero_le _, rfl, hw4, HS4, HGJ, HB, HQ4, HK4, HF4⟩
          case round =>
            clear HS4 HQ4 HK4 HF4 HB HGJ HGI HS' HW
            obtain ⟨t, v2, O2, ht, rfl, hw2, hS, hGG, hB, hQ2, hK, hFr⟩ := hrel
            have y3 : wr.cell? ⟨w1.heap.size, 0, none⟩ = some v2 := by rw [cell_of_row _ _ 0 _ _ _ hS.out.st.out]; rfl
            have f3 : wr.frozen? ⟨w1.heap.size, 0, none⟩ = false := frozen_of_row _ _ _ _ _ hS.out.st.out
            have y4 : wr.cell? ⟨w1.heap.size + 1, 0, none⟩ = some (.int .i64 bb) := by rw [cell_of_row _ _ 0 _ _ _ hS.out.st.blk]; rfl
            have f4 : wr.frozen? ⟨w1.heap.size + 1, 0, none⟩ = false := frozen_of_row _ _ _ _ _ hS.out.st.blk
            by_cases hlt2 : t < Zb.size
            · obtain ⟨ch, hch⟩ : ∃ ch, z[t]'(by rw [← HZS.out]; exact hlt2) = ch := ⟨_, rfl⟩
              have x5 := hB.out.cell t (by rw [← HZS.out]; exact hlt2)
              have f5 := hB.out.free t (by rw [← HZS.out]; exact hlt2)
              have hgU := hGG.out
              rw [List.drop_eq_getElem_cons (by rw [← HZS.out]; exact hlt2), List.map_cons] at hgU
              rw [hch] at x5 hgU
              have hgr : greatB ch ≠ 0 := HLE.out ch (by rw [← hch]; exact List.getElem_mem _)
              have hup := great_up hgr
              have hlt256 : ch.toNat < 256 := ch.toNat_lt
              have rw0 := hS.out.row
              have c0 : wr.cell? ⟨h, 0, none⟩ = some (.int .i64 r1) := by rw [cell_of_row _ _ 0 _ _ _ rw0]; rfl
              have c1 : wr.cell? ⟨h, 1, none⟩ = some (.int .i64 r2) := by rw [cell_of_row _ _ 1 _ _ _ rw0]; rfl
              have c2 : wr.cell? ⟨h, 2, none⟩ = some (.int .i64 r3) := by rw [cell_of_row _ _ 2 _ _ _ rw0]; rfl
              have c3 : wr.cell? ⟨h, 3, none⟩ = some (.bool r4) := by rw [cell_of_row _ _ 3 _ _ _ rw0]; rfl
              have hO2 : O2.length < F.length := by
                have := congrArg List.length hgU
                simp only [List.length_append, List.length_cons] at this
                omega
              have HGU := Lib.hid hgU
              clear hgU hch hgr
              have hlz : (t : Int) < (Zb.size : Int) := by omega
              by_cases h97 : 97 ≤ ch.toNat
              · obtain ⟨u1, u2, u3⟩ := hup.1 h97
                have d97 : decide ((ch.toNat : Int) ≥ 97) = true := by simp; omega
                have dwr : IntKind.u8.wrap ((ch.toNat : Int) - 32) = ((greatB ch).toNat : Int) := by
                  rw [u1, u2, IntWalk.u8_in _ (by omega)]; omega
                have HX : Hid (spotOf ⟨r1, r2, r3, r4, r5⟩ ch bb = ⟨⟨r1, greatB ch⟩, r2, r3, bb, r4, true⟩) := Lib.hid (by unfold spotOf; simp [u3])
                clear hup u1 u2 u3
                gi_wp2_with (gi_at_builtin; refine wpListIn_app rfl (.tmp 36) (.tmp 50) 44 rfl (w1.heap.size + 2) 105 i0 _ 7 48 Tryd.underlying44 hi0 hz0 hz1 hz2 rfl (by omega) v2 O2.length (catv spotC O2) _ (some ⟨wr.heap.size, 0, none⟩) 1 1 _ rfl (hS.out.st.own.alloc _) rfl (rd_block (heap_alloc_new wr _) rfl) (by simp [Value.oneCell']) (by omega) (by unfold maxLen; omega) (by simp; omega) ?_; intro v4 w4 ho4 hu4 hat4; obtain ⟨uu, y5, f5, HN⟩ := sp_more (x := ⟨⟨r1, greatB ch⟩, r2, r3, bb, r4, true⟩) hS.out hw2 hw1h hB.out hQ2.out hK.out hFr.out hq' ho4 hu4 hat4; obtain ⟨A4, k4, c4, rfl⟩ := own_is ho4; clear ho4 hu4 hat4)
                go_roundw
                case rel =>
                  refine ⟨t + 1, _, O2 ++ [⟨⟨r1, greatB ch⟩, r2, r3, bb, r4, true⟩], by omega, by go_num, HN.out.1, Lib.hid HN.out.2.1, Lib.hid ?_, Lib.hid HN.out.2.2.1, Lib.hid HN.out.2.2.2.1, Lib.hid HN.out.2.2.2.2.1, Lib.hid HN.out.2.2.2.2.2⟩
                  have := HGU.out
                  rw [HX.out] at this
                  rw [this]
                  simp only [List.append_assoc, List.cons_append, List.nil_append]
                case measure => simp [intOf]; omega
              · have u1 := hup.2 h97
                have d97 : decide ((ch.toNat : Int) ≥ 97) = false := by simp; omega
                have HX : Hid (spotOf ⟨r1, r2, r3, r4, r5⟩ ch bb = ⟨⟨r1, ch⟩, r2, r3, bb, r4, false⟩) := Lib.hid (by unfold spotOf; simp [u1])
                clear hup u1
                gi_wp2_with (gi_at_builtin; refine wpListIn_app rfl (.tmp 36) (.tmp 50) 44 rfl (w1.heap.size + 2) 105 i0 _ 7 48 Tryd.underlying44 hi0 hz0 hz1 hz2 rfl (by omega) v2 O2.length (catv spotC O2) _ (some ⟨wr.heap.size, 0, none⟩) 1 1 _ rfl (hS.out.st.own.alloc _) rfl (rd_block (heap_alloc_new wr _) rfl) (by simp [Value.oneCell']) (by omega) (by unfold maxLen; omega) (by simp; omega) ?_; intro v4 w4 ho4 hu4 hat4; obtain ⟨uu, y5, f5, HN⟩ := sp_more (x := ⟨⟨r1, ch⟩, r2, r3, bb, r4, false⟩) hS.out hw2 hw1h hB.out hQ2.out hK.out hFr.out hq' ho4 hu4 hat4; obtain ⟨A4, k4, c4, rfl⟩ := own_is ho4; clear ho4 hu4 hat4)
                go_roundw
                case rel =>
                  refine ⟨t + 1, _, O2 ++ [⟨⟨r1, ch⟩, r2, r3, bb, r4, false⟩], by omega, by go_num, HN.out.1, Lib.hid HN.out.2.1, Lib.hid ?_, Lib.hid HN.out.2.2.1, Lib.hid HN.out.2.2.2.1, Lib.hid HN.out.2.2.2.2.1, Lib.hid HN.out.2.2.2.2.2⟩
                  have := HGU.out
                  rw [HX.out] at this
                  rw [this]
                  simp only [List.append_assoc, List.cons_append, List.nil_append]
                case measure => simp [intOf]; omega
            · have hz0 : ¬ (t : Int) < (Zb.size : Int) := by omega
              have hg2 := hGG.out
              rw [List.drop_eq_nil_of_le (by rw [← HZS.out]; omega)] at hg2
              simp only [List.map_nil, List.nil_append] at hg2
              have hbw : IntKind.i64.wrap (bb + 1) = bb + 1 := IntWalk.i64_in _ (by omega)
              have o3 := hS.out.st.out
              have o4 := hS.out.st.blk
              have hset := heap_setCell_same wr (w1.heap.size + 1) 0 _ _ (.int .i64 (bb + 1)) o4
              have us : Upd (fun k => k = w1.heap.size + 1) wr (wr.setCell ⟨w1.heap.size + 1, 0, none⟩ (.int .i64 (bb + 1))) := (Upd.refl (fun k => k = w1.heap.size + 1) wr).setCell ⟨w1.heap.size + 1, 0, none⟩ rfl _
              have HFIN : Hid (goesOn (h + 4) (KeepB (h + 1)) (SpI w1 h ⟨r1, r2, r3, r4, r5⟩ Ds b F Q (spotsAll (l.drop (k + 1)) ((b : Int) + N + 1))) j W .normal { tmps := #[], defers := [] } (wr.setCell ⟨w1.heap.size + 1, 0, none⟩ (.int .i64 (bb + 1)))) := Lib.hid (by
                have ej : (b : Int) + ((j + 1 : Nat) : Int) = bb + 1 := by omega
                have nb : ∀ D ∈ Ds, D ≠ w1.heap.size + 1 := fun D hD e => by
                  have h1 := hS.out.marks.2 D hD
                  rw [e, o4] at h1; cases h1
                refine ⟨?_, ?_, v2, O2, by simpa using hw2, ?_, Lib.hid ?_⟩
                · rw [← h3s]; exact hFr.out.trans (keeps_upd us (fun k hk _ => by subst hk; exact ⟨_, _, _, o4⟩))
                · exact hK.out.trans (KeepB.upd us (fun k k1 k2 e => by omega))
                · rw [ej]
                  refine ⟨⟨box_keep o3 us (by omega), ?_, own_upd hS.out.st.own us (fun g hg e => by have := (hS.out.st.own.lt g hg).1; omega), hS.out.st.bel.trans (us.below (fun k hk e => by omega) hS.out.st.bel.size)⟩, box_keep hS.out.row us (by omega), hS.out.far, hS.out.marks.upd us nb⟩
                  rw [hset]; rfl
                · rw [ej]; rw [hg2])
              clear hg2 hset us o3 o4 hS hGG hB hQ2 hK hFr
              gi_wp2
              exact HFIN.out
        case done =>
          rintro D W hD ⟨v', O', -, hs', hg'⟩ hdf
          have hg2 := hg'.out
          rw [List.drop_eq_nil_of_le (by rw [HQL.out]; exact Nat.le_refl _)] at hg2
          simp only [spotsP, List.append_nil] at hg2
          have HG3 : Hid (F = O' ++ spotsAll (l.drop (k + 1)) ((b + N + 1 : Nat) : Int)) := Lib.hid (by
            rw [hg2, show ((b : Int) + (N : Int) + 1) = ((b + N + 1 : Nat) : Int) by omega])
          have HST3 : Hid (SpSt w1 W v' ((b + N + 1 : Nat) : Int) O') := Lib.hid (by
            have := hs'.st
            rwa [show ((b : Int) + ((N + 1 : Nat) : Int)) = ((b + N + 1 : Nat) : Int) by omega] at this)
          have HNC3 : Hid (NoCalls W (D :: Ds)) := Lib.hid ⟨List.nodup_cons.2 ⟨fun hh => by have := HDH.out D hh; omega, hs'.marks.1⟩, fun D' h' => by
            rcases List.mem_cons.1 h' with rfl | h'
            · exact hdf
            · exact hs'.marks.2 D' h'⟩
          have HDS3 : Hid (∀ D' ∈ D :: Ds, w1.heap.size + 2 ≤ D') := Lib.hid (fun D' h' => by
            rcases List.mem_cons.1 h' with rfl | h'
            · omega
            · exact hds.out D' h')
          clear hg2 hs' hg' hdf HSR HG2 HSPL
          gi_wp2
          refine ⟨⟨k + 1, b + N + 1, O', v', D :: Ds, _, _, _, _, _, _, _, _, _, _, _, _, _, _, _, _, _, _, _, _, _, _, _, _, _, _, _, _, _, _, _, _, _, _, _, _, _, _, _, _, _, _, _, _, _, _, rfl, by omega, by omega, HG3, HST3, HNC3, HDS3⟩, ?_⟩
          simp [intOf]; omega
      · have hz : ¬ (k : Int) < (n : Int) := by omega
        have hG2 := hG.out
        rw [List.drop_eq_nil_of_le (by rw [← HL.out]; omega), spotsAll, List.append_nil] at hG2
        subst hG2
        have y3 : W.cell? ⟨w1.heap.size, 0, none⟩ = some v := by rw [cell_of_row _ _ 0 _ _ _ hst.out.out]; rfl
        gi_wp2
        refine leave_marks Ds W hnc.out fun W' hu => ?_
        have hns : ∀ k cs t f, W.heap[k]? = some (.cells cs t f) → ¬ k ∈ Ds := fun k cs t f hk hD => by
          have := hnc.out.2 k hD
          rw [hk] at this
          cases this
        refine ⟨_, results_tmp rfl _ _ _, v, rfl, ?_, ?_⟩
        · have h1 := own_upd hst.out.own hu (fun g hg => by
            rcases hst.out.own.2 with ⟨e, _⟩ | ⟨g', cap, cur, e, _, e2, _⟩
            · rw [e] at hg; cases hg
            · rw [e] at hg
              simp [Value.ownBlock] at hg
              subst hg
              exact hns _ _ _ _ e2)
          exact own_mono h1 (by have := HB1.out.size; omega)
        · exact HB1.out.trans ((hst.out.bel.trans (hu.below (fun k hk hD => by have := hds.out k hD; omega) hst.out.bel.size)).mono HB1.out.size)
end Go.Proofs.YtppjpledjhinbaaDoor
