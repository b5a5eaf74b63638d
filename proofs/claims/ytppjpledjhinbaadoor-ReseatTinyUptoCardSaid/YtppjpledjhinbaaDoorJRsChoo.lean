/- A plane in memory whose seekers were decided in part; what it costs then. -/
import Derived.Test.YtppjpledjhinbaaDoorJRsFin
namespace Go.Proofs.YtppjpledjhinbaaDoor
open Go.RowKit Go.Lib
theorem PlaneAt.turn {W : World} {base P g n c o : Nat} {v u' : Value} {vs : List Value} {B : List MBlk} {ks ks' : List MSkr} (h : PlaneAt W base P v (.slice (some ⟨g, 0, none⟩) n c) vs B ks) (hn : n = ks.length) (ho : o < n * 9) (e : (catv skrC ks).set o u' = catv skrC ks') (hl : ks'.length = ks.length) : PlaneAt (W.setCell ⟨g, o, none⟩ u') base P v (.slice (some ⟨g, 0, none⟩) n c) vs B ks' := by
  subst hn
  obtain ⟨cs, hg⟩ := own_typed h.skr (show (Value.slice (some ⟨g, 0, none⟩) ks.length c).ownBlock = some g from rfl)
  have hs : Upd (fun k => k = g) W (W.setCell ⟨g, o, none⟩ u') := (Upd.refl (fun k => k = g) W).setCell ⟨g, o, none⟩ rfl u'
  have ho2 := own_set h.skr o ho u'
  rw [e] at ho2
  refine ⟨box_keep h.box hs (kinds_ne h.box hg (by decide)), h.lo, ⟨h.blk.len, own_upd h.blk.row hs (fun k e e2 => ?_), fun j hj x hx => own_upd (h.blk.own j hj x hx) hs (fun k e e2 => ?_), h.blk.apart, h.blk.off⟩, by rw [hl]; exact ho2⟩
  · obtain ⟨cs2, h2⟩ := own_typed h.blk.row e
    exact kinds_ne h2 hg (by decide) e2
  · obtain ⟨cs2, h2⟩ := own_typed (h.blk.own j hj x hx) e
    exact kinds_ne h2 hg (by decide) e2
/-- The plane of a law's riders, decided so far. -/
def PlD (l : List MRow) (rs : List MSit) (W : World) (base P : Nat) (v u : Value) (vs : List Value) (mu no : Nat → Bool) (β : Nat → Int) : Prop :=
  PlaneAt W base P v u vs (blocksOf (spotsL l)) (decK (boardK (spotsL l) [] rs) mu no β)
section
variable {l : List MRow} {rs : List MSit} {W W' : World} {base P : Nat} {v u : Value} {vs : List Value} {mu no : Nat → Bool} {β : Nat → Int}
theorem decB_len (l : List MRow) (rs : List MSit) (mu no : Nat → Bool) (β : Nat → Int) : (decK (boardK (spotsL l) [] rs) mu no β).length = rs.length := by rw [decK_len, boardK_len]
theorem PlD.start (h : PlaneAt W base P v u vs (blocksOf (spotsL l)) (boardK (spotsL l) [] rs)) : PlD l rs W base P v u vs (fun _ => false) (fun _ => false) (fun _ => -1) := by
  unfold PlD
  rw [decK_id]
  exact h
theorem PlD.below (h : PlD l rs W base P v u vs mu no β) (hb : Below W.heap.size W W') : PlD l rs W' base P v u vs mu no β := PlaneAt.below h hb
theorem PlD.congr {mu' no' : Nat → Bool} {β' : Nat → Int} (h : PlD l rs W base P v u vs mu no β) (e : ∀ i, i < rs.length → mu i = mu' i ∧ no i = no' i ∧ β i = β' i) : PlD l rs W base P v u vs mu' no' β' := by
  unfold PlD at h ⊢
  rw [← decK_congr (ks := boardK (spotsL l) [] rs) (fun i hi => e i (by rw [boardK_len] at hi; exact hi))]
  exact h
theorem PlD.cells (h : PlD l rs W base P v u vs mu no β) : W.cell? ⟨P, 0, none⟩ = some v ∧ W.cell? ⟨P, 1, none⟩ = some u := PlaneAt.cells h
theorem PlD.plt (h : PlD l rs W base P v u vs mu no β) : P < W.heap.size := PlaneAt.plt h
theorem PlD.shape (h : PlD l rs W base P v u vs mu no β) : (∃ A c, v = .slice A (blocksOf (spotsL l)).length c) ∧ ∃ A c, u = .slice A rs.length c := by
  obtain ⟨A, c, e⟩ := own_shape (PlaneAt.blk h).row
  obtain ⟨A', c', e'⟩ := own_shape (PlaneAt.skr h)
  rw [decB_len] at e'
  exact ⟨⟨A, c, e⟩, A', c', e'⟩
/-- The cells of a seeker that matter. -/
structure SkAt (W : World) (g i : Nat) (x : MSit) (mu no : Bool) (b own : Int) : Prop where
  lt : g < W.heap.size
  fr : ∀ j, W.frozen? ⟨g, j, none⟩ = false
  all : SkrAt W g (i * 9) ⟨x, mu, no, b, own⟩
  mu : W.cell? ⟨g, i * 9 + 5, none⟩ = some (.bool mu)
  no : W.cell? ⟨g, i * 9 + 6, none⟩ = some (.bool no)
  blk : W.cell? ⟨g, i * 9 + 7, none⟩ = some (.int .i64 b)
  own : W.cell? ⟨g, i * 9 + 8, none⟩ = some (.int .i64 own)
theorem PlD.seek (h : PlD l rs W base P v u vs mu no β) {i : Nat} (hi : i < rs.length) : ∃ g c, u = .slice (some ⟨g, 0, none⟩) rs.length c ∧ SkAt W g i rs[i] (mu i) (no i) (β i) (ownOf (spotsL l) (rs.take i) rs[i]) := by
  have hb : i < (boardK (spotsL l) [] rs).length := by rw [boardK_len]; exact hi
  obtain ⟨g, c, e, hg, hs⟩ := PlaneAt.seeker h (i := i) (by rw [decB_len]; exact hi)
  rw [decB_len] at e
  rw [decK_at _ _ _ _ hb, boardK_at (spotsL l) rs [] i hi, List.nil_append] at hs
  obtain ⟨cs, h2⟩ := own_typed (PlaneAt.skr h) (show u.ownBlock = some g by rw [e]; rfl)
  exact ⟨g, c, e, hg, fun j => frozen_of_row _ _ _ _ _ h2, hs, hs 5 _ rfl, hs 6 _ rfl, hs 7 _ rfl, hs 8 _ rfl⟩
theorem PlD.setMust {g c : Nat} (h : PlD l rs W base P v (.slice (some ⟨g, 0, none⟩) rs.length c) vs mu no β) {i : Nat} (hi : i < rs.length) (b : Bool) : PlD l rs (W.setCell ⟨g, i * 9 + 5, none⟩ (.bool b)) base P v (.slice (some ⟨g, 0, none⟩) rs.length c) vs (withI mu i b) no β :=
  PlaneAt.turn h (decB_len ..).symm (by omega) (decK_must _ mu no β (by rw [boardK_len]; exact hi) b) (by rw [decB_len, decB_len])
theorem PlD.setNo {g c : Nat} (h : PlD l rs W base P v (.slice (some ⟨g, 0, none⟩) rs.length c) vs mu no β) {i : Nat} (hi : i < rs.length) (b : Bool) : PlD l rs (W.setCell ⟨g, i * 9 + 6, none⟩ (.bool b)) base P v (.slice (some ⟨g, 0, none⟩) rs.length c) vs mu (withI no i b) β :=
  PlaneAt.turn h (decB_len ..).symm (by omega) (decK_no _ mu no β (by rw [boardK_len]; exact hi) b) (by rw [decB_len, decB_len])
theorem PlD.setBlk {g c : Nat} (h : PlD l rs W base P v (.slice (some ⟨g, 0, none⟩) rs.length c) vs mu no β) {i : Nat} (hi : i < rs.length) (b : Int) : PlD l rs (W.setCell ⟨g, i * 9 + 7, none⟩ (.int .i64 b)) base P v (.slice (some ⟨g, 0, none⟩) rs.length c) vs mu no (setI β i b) :=
  PlaneAt.turn h (decB_len ..).symm (by omega) (decK_blk _ mu no β (by rw [boardK_len]; exact hi) b) (by rw [decB_len, decB_len])
theorem PlD.slt (h : PlD l rs W base P v u vs mu no β) : base ≤ P := PlaneAt.lo h
theorem PlD.ulo (h : PlD l rs W base P v u vs mu no β) {k : Nat} (e : u.ownBlock = some k) : base ≤ k ∧ k < W.heap.size := (PlaneAt.skr h).lt k e
theorem costD_any (h : PlD l rs W base P v u vs mu no β) (hn : rs.length ≤ 20) :
    Calls Tryd.prog 32 #[.pointer (some ⟨P, 0, none⟩)] W fun e w' => ∃ c : Int, e = .returned (.int .i64 c) ∧ MinIs (kN (blocksOf (spotsL l)) (decK (boardK (spotsL l) [] rs) mu no β)) (capsOf (blocksOf (spotsL l))) rs.length (blocksOf (spotsL l)).length c ∧ Below W.heap.size W w' := by
  have h1 := spots_len l
  have h2 := blocksOf_len (spotsL l)
  have h3 := seats_le (spotsL l)
  have := cost_any W base P v u vs _ _ h (by rw [decB_len]; exact hn) (by omega) (fun y hy => Nat.le_trans (h3 y hy) (by omega))
  rw [decB_len] at this
  exact this
end
end Go.Proofs.YtppjpledjhinbaaDoor
/- Who is taken, walked. -/
namespace Go.Proofs.YtppjpledjhinbaaDoor
open Go.RowKit Go.Lib
/-- While it is taken: the plane, and what turned since w. -/
structure TkSt (l : List MRow) (rs : List MSit) (w wx : World) (base P : Nat) (v u : Value) (vs : List Value) (mu no : Nat → Bool) (β : Nat → Int) : Prop where
  pl : PlD l rs wx base P v u vs mu no β
  up : Upd (fun k => u.ownBlock = some k) w wx
theorem TkSt.below {l : List MRow} {rs : List MSit} {w wx wy : World} {base P : Nat} {v u : Value} {vs : List Value} {mu no : Nat → Bool} {β : Nat → Int} (h : TkSt l rs w wx base P v u vs mu no β) (hb : Below wx.heap.size wx wy) : TkSt l rs w wy base P v u vs mu no β :=
  ⟨h.pl.below hb, h.up.trans (S' := fun _ => False) (Upd.of_below hb) (fun _ _ h => h.elim)⟩
section
variable {l : List MRow} {rs : List MSit} {w wx : World} {base P g c : Nat} {v : Value} {vs : List Value} {mu no : Nat → Bool} {β : Nat → Int}
theorem TkSt.setMust (h : TkSt l rs w wx base P v (.slice (some ⟨g, 0, none⟩) rs.length c) vs mu no β) {i : Nat} (hi : i < rs.length) (b : Bool) : TkSt l rs w (wx.setCell ⟨g, i * 9 + 5, none⟩ (.bool b)) base P v (.slice (some ⟨g, 0, none⟩) rs.length c) vs (withI mu i b) no β :=
  ⟨h.pl.setMust hi b, h.up.setCell ⟨g, i * 9 + 5, none⟩ rfl _⟩
theorem TkSt.setNo (h : TkSt l rs w wx base P v (.slice (some ⟨g, 0, none⟩) rs.length c) vs mu no β) {i : Nat} (hi : i < rs.length) (b : Bool) : TkSt l rs w (wx.setCell ⟨g, i * 9 + 6, none⟩ (.bool b)) base P v (.slice (some ⟨g, 0, none⟩) rs.length c) vs mu (withI no i b) β :=
  ⟨h.pl.setNo hi b, h.up.setCell ⟨g, i * 9 + 6, none⟩ rfl _⟩
theorem TkSt.setBlk (h : TkSt l rs w wx base P v (.slice (some ⟨g, 0, none⟩) rs.length c) vs mu no β) {i : Nat} (hi : i < rs.length) (b : Int) : TkSt l rs w (wx.setCell ⟨g, i * 9 + 7, none⟩ (.int .i64 b)) base P v (.slice (some ⟨g, 0, none⟩) rs.length c) vs mu no (setI β i b) :=
  ⟨h.pl.setBlk hi b, h.up.setCell ⟨g, i * 9 + 7, none⟩ rfl _⟩
theorem TkSt.congr {mu' no' : Nat → Bool} {β' : Nat → Int} {u : Value} (h : TkSt l rs w wx base P v u vs mu no β) (e : ∀ i, i < rs.length → mu i = mu' i ∧ no i = no' i ∧ β i = β' i) : TkSt l rs w wx base P v u vs mu' no' β' := ⟨h.pl.congr e, h.up⟩
end
/-- Who isn't taken, of the first j, is told not to be. -/
noncomputable def noL (l : List MRow) (rs : List MSit) (j : Nat) : Nat → Bool := fun i => decide (i < j) && !tkT l rs i
theorem noL_next (l : List MRow) (rs : List MSit) (j i : Nat) : withI (noL l rs j) j (!tkT l rs j) i = noL l rs (j + 1) i := by
  unfold withI noL
  by_cases e : i = j
  · subst e; simp
  · rw [if_neg e]
    have : (i < j) ↔ (i < j + 1) := by omega
    simp [this]
set_option maxHeartbeats 4000000 in
set_option maxRecDepth 20000 in
theorem take_any (l : List MRow) (rs : List MSit) (w : World) (base P : Nat) (v u : Value) (vs : List Value) (best : Int) (h : PlD l rs w base P v u vs (fun _ => false) (fun _ => false) (fun _ => -1)) (hn : rs.length ≤ 20) (hbest : best = bestC l rs) :
    Calls Tryd.prog 37 #[.pointer (some ⟨P, 0, none⟩), .int .i64 best] w fun e w' => e = .returned (.tuple #[]) ∧ TkSt l rs w w' base P v u vs (tkT l rs) (fun i => !tkT l rs i) (fun _ => -1) := by
  obtain ⟨p0, p1⟩ := h.cells
  obtain ⟨⟨A, c, rfl⟩, A', c', rfl⟩ := h.shape
  obtain ⟨n, hn'⟩ : ∃ n, rs.length = n := ⟨_, rfl⟩
  obtain ⟨m, hm'⟩ : ∃ m, (blocksOf (spotsL l)).length = m := ⟨_, rfl⟩
  rw [hn', hm'] at h
  rw [hm'] at p0
  rw [hn'] at p1
  rw [hn'] at hn
  rw [hn', hm']
  have H0 := Lib.hid (TkSt.mk h (Upd.refl _ w))
  have HN := Lib.hid hn'
  have HB := Lib.hid hbest
  clear h hn' hm' hbest
  go_enter Tryd.func37, Tryd.ntmps37
  go_wp2
  go_loopw [12] (fun iv wx => ∃ j : Nat, iv = .int .i64 (j : Int) ∧ j ≤ n ∧ Hid (TkSt l rs w wx base P (.slice A m c) (.slice A' n c') vs (tkL l rs j) (fun _ => false) (fun _ => -1))) (fun iv _ => n - (intOf iv).toNat)
  case atStart =>
    refine ⟨0, rfl, Nat.zero_le _, Lib.hid (H0.out.congr fun i hi => ⟨?_, rfl, rfl⟩)⟩
    exact (tk_none 0 i (Nat.zero_le _)).symm
  case round =>
    obtain ⟨j, rfl, hj, hst⟩ := hrel
    by_cases hlt : j < n
    · have hjr : j < rs.length := by rw [HN.out]; exact hlt
      obtain ⟨q0, q1⟩ := hst.out.pl.cells
      obtain ⟨g, c2, e, hsk⟩ := hst.out.pl.seek hjr
      simp only [Value.slice.injEq] at e
      obtain ⟨rfl, -, rfl⟩ := e
      have hst := hst.out
      rw [← HN.out] at hst
      have h5 := hsk.mu
      have f5 := hsk.fr (j * 9 + 5)
      have hs1 := hst.setMust hjr true
      have HC := Lib.hid (costD_any hs1.pl (by rw [HN.out]; exact hn))
      have HS1 := Lib.hid hs1
      have hji : (j : Int) < (n : Int) := by omega
      have hj0 : (0 : Int) ≤ (j : Int) := by omega
      clear hsk hst hs1
      go_wp2_with fail
      refine HC.out.mono ?_
      rintro e w2 ⟨cc, rfl, hm, hb2⟩
      have hs2 := HS1.out.below hb2
      obtain ⟨g2, c3, e, hsk⟩ := hs2.pl.seek hjr
      simp only [Value.slice.injEq, Option.some.injEq, Addr.mk.injEq, and_true] at e
      obtain ⟨rfl, -⟩ := e
      have h5b := hsk.mu
      have f5b := hsk.fr (j * 9 + 5)
      have HS3 : Hid (TkSt l rs w (w2.setCell ⟨g, j * 9 + 5, none⟩ (.bool (decide (cc = best)))) base P (.slice A m c) (.slice (some ⟨g, 0, none⟩) n c') vs (tkL l rs (j + 1)) (fun _ => false) (fun _ => -1)) := Lib.hid (by
        have := hs2.setMust hjr (decide (cc = best))
        rw [HN.out] at this
        refine this.congr fun i hi => ⟨?_, rfl, rfl⟩
        have h2 := take_cost hm
        rw [← HB.out] at h2
        rw [← h2]
        unfold withI
        by_cases e : i = j
        · rw [if_pos e, if_pos e]
        · rw [if_neg e, if_neg e, if_neg e])
      clear hs2 hsk hm hb2 HS1 HC h5 f5 q0 q1
      go_wp2
      go_roundw
      case rel => exact ⟨j + 1, by go_num, hlt, HS3⟩
      case measure => (simp [intOf]; try omega)
    · obtain rfl : j = n := by omega
      have hji : ¬ (j : Int) < (j : Int) := by omega
      obtain ⟨q0, q1⟩ := hst.out.pl.cells
      have HST : Hid (TkSt l rs w wr base P (.slice A m c) (.slice A' j c') vs (tkT l rs) (noL l rs 0) (fun _ => -1)) := Lib.hid (hst.out.congr fun i hi => ⟨by unfold tkT; rw [HN.out], by simp [noL], rfl⟩)
      clear hst
      go_wp2
      go_loopw [39] (fun iv wx => ∃ k : Nat, iv = .int .i64 (k : Int) ∧ k ≤ j ∧ Hid (TkSt l rs w wx base P (.slice A m c) (.slice A' j c') vs (tkT l rs) (noL l rs k) (fun _ => -1))) (fun iv _ => j - (intOf iv).toNat)
      case atStart => exact ⟨0, rfl, Nat.zero_le _, HST⟩
      case round =>
        obtain ⟨k, rfl, hk, hst⟩ := hrel
        by_cases hlt : k < j
        · have hkr : k < rs.length := by rw [HN.out]; exact hlt
          obtain ⟨r0, r1⟩ := hst.out.pl.cells
          obtain ⟨g, c2, e, hsk⟩ := hst.out.pl.seek hkr
          simp only [Value.slice.injEq] at e
          obtain ⟨rfl, -, rfl⟩ := e
          obtain ⟨t, ht⟩ : ∃ t, tkT l rs k = t := ⟨_, rfl⟩
          have h5 := hsk.mu
          rw [ht] at h5
          have HT := Lib.hid ht
          have HST2 := hst
          have hki : (k : Int) < (j : Int) := by omega
          have hk0 : (0 : Int) ≤ (k : Int) := by omega
          clear hsk hst ht
          go_upto_region 10 with (fail)
          generalize wr = wz at HST2 r0 r1 h5 ⊢
          go_still_tail 18, (by kernel_rfl)
          change wpList _ _ _ _ _ wz.drew
          have hd : Below wz.heap.size wz wz.drew := (Below.refl _ _).drew
          have hst := HST2.out.below hd
          generalize wz.drew = wd at hst ⊢
          obtain ⟨g2, c3, e, hsk⟩ := hst.pl.seek hkr
          simp only [Value.slice.injEq, Option.some.injEq, Addr.mk.injEq, and_true] at e
          obtain ⟨rfl, -⟩ := e
          have h6 := hsk.no
          have f6 := hsk.fr (k * 9 + 6)
          have HS1 : Hid (TkSt l rs w (wd.setCell ⟨g, k * 9 + 6, none⟩ (.bool (!t))) base P (.slice A m c) (.slice (some ⟨g, 0, none⟩) j c') vs (tkT l rs) (noL l rs (k + 1)) (fun _ => -1)) := Lib.hid (by
            have h1 := hst
            rw [← HN.out] at h1
            have h2 := h1.setNo hkr (!t)
            rw [HN.out, ← HT.out] at h2
            rw [← HT.out]
            exact h2.congr fun i hi => ⟨rfl, noL_next l rs k i, rfl⟩)
          clear hsk hst r0 r1 h5 HST2 hd
          go_wp2
          go_roundw
          case rel => exact ⟨k + 1, by go_num, hlt, HS1⟩
          case measure => (simp [intOf]; try omega)
        · obtain rfl : k = j := by omega
          have hki : ¬ (k : Int) < (k : Int) := by omega
          have HST2 : Hid (TkSt l rs w wr base P (.slice A m c) (.slice A' k c') vs (tkT l rs) (fun i => !tkT l rs i) (fun _ => -1)) := Lib.hid (hst.out.congr fun i hi => ⟨rfl, by unfold noL; rw [HN.out] at hi; simp [hi], rfl⟩)
          clear hst
          go_wp2
          refine bodyPost_end (results_none rfl _ _ _) rfl ?_
          exact ⟨rfl, HST2.out⟩
end Go.Proofs.YtppjpledjhinbaaDoor
/- Which block each is seated in, walked. -/
namespace Go.Proofs.YtppjpledjhinbaaDoor
open Go.RowKit Go.Lib
def ChoseL (l : List MRow) (rs : List MSit) (β : Nat → Int) : Prop := Chose (gP l rs) (gC l) rs.length (gM l) (bestC l rs) (tkT l rs) β
section
variable {l : List MRow} {rs : List MSit} {i : Nat}
theorem chL_skip (ht : tkT l rs i = false) : chL l rs (i + 1) = chL l rs i := by
  unfold chL
  simp only [ch]
  rw [if_neg (by rw [ht]; decide)]
theorem chL_own (hi : i < rs.length) (ht : tkT l rs i = true) (h0 : 0 ≤ ownOf (spotsL l) (rs.take i) rs[i]) (hc : ChoseL l rs (setI (chL l rs i) i (ownOf (spotsL l) (rs.take i) rs[i]))) : chL l rs (i + 1) = setI (chL l rs i) i (ownOf (spotsL l) (rs.take i) rs[i]) := by
  have ho : (gP l rs i).own = ownOf (spotsL l) (rs.take i) rs[i] := by rw [gP_at l rs hi]; rfl
  rw [← ho] at h0 hc ⊢
  unfold chL ChoseL at *
  simp only [ch]
  rw [if_pos ht]
  unfold pickB
  rw [if_pos ⟨h0, hc⟩]
theorem firstB_eq {P : Nat → Skr} {caps : Nat → Nat} {n m : Nat} {best : Int} {T : Nat → Bool} {β : Nat → Int} {i b : Nat} (hb : Chose P caps n m best T (setI β i (b : Int))) : ∀ (k a : Nat), a ≤ b → b < a + k → (∀ d : Nat, a ≤ d → d < b → ¬ Chose P caps n m best T (setI β i (d : Int))) → firstB P caps n m best T β i a k = (b : Int) := by
  intro k
  induction k with
  | zero => intro a h1 h2; omega
  | succ k ih =>
    intro a h1 h2 h3
    simp only [firstB]
    by_cases e : a = b
    · subst e; rw [if_pos hb]
    · rw [if_neg (h3 a (Nat.le_refl _) (by omega))]
      exact ih (a + 1) (by omega) (by omega) (fun d h4 h5 => h3 d (by omega) h5)
theorem chL_first (hi : i < rs.length) (ht : tkT l rs i = true) (hno : ¬ (0 ≤ ownOf (spotsL l) (rs.take i) rs[i] ∧ ChoseL l rs (setI (chL l rs i) i (ownOf (spotsL l) (rs.take i) rs[i])))) {b : Nat} (hb : b < (blocksOf (spotsL l)).length) (hn : ∀ d : Nat, d < b → ¬ ChoseL l rs (setI (chL l rs i) i (d : Int))) (hc : ChoseL l rs (setI (chL l rs i) i (b : Int))) : chL l rs (i + 1) = setI (chL l rs i) i (b : Int) := by
  have ho : (gP l rs i).own = ownOf (spotsL l) (rs.take i) rs[i] := by rw [gP_at l rs hi]; rfl
  rw [← ho] at hno
  unfold chL ChoseL at *
  simp only [ch]
  rw [if_pos ht]
  unfold pickB
  rw [if_neg hno, firstB_eq hc (gM l) 0 (Nat.zero_le _) (by unfold gM; omega) (fun d _ h => hn d h)]
theorem chL_some (hi : i < rs.length) (ht : tkT l rs i = true) : ∃ d : Nat, d < (blocksOf (spotsL l)).length ∧ ChoseL l rs (setI (chL l rs i) i (d : Int)) := by
  have hown : ∀ i, i < rs.length → (gP l rs i).own < (gM l : Int) := fun i hi => by
    rw [gP_at l rs hi]
    exact own_lt l _ _
  obtain ⟨⟨σ, g1, g2, g3⟩, _⟩ := ch_chose (taken_ok l rs) hown i (by omega)
  refine ⟨σ i, (g2 i hi).2 ht, σ, g1, g2, fun j hj hTj hb => ?_⟩
  unfold setI at hb ⊢
  by_cases e : j = i
  · rw [if_pos e, e]
  · rw [if_neg e] at hb ⊢; exact g3 j hj hTj hb
theorem setI_two (β : Nat → Int) (i : Nat) (a b : Int) : setI (setI β i a) i b = setI β i b := by
  funext j
  unfold setI
  by_cases e : j = i
  · rw [if_pos e, if_pos e]
  · rw [if_neg e, if_neg e, if_neg e]
end
set_option maxHeartbeats 4000000 in
set_option maxRecDepth 20000 in
theorem choose_any (l : List MRow) (rs : List MSit) (w : World) (base P : Nat) (v u : Value) (vs : List Value) (best : Int) (h : PlD l rs w base P v u vs (tkT l rs) (fun i => !tkT l rs i) (fun _ => -1)) (hn : rs.length ≤ 20) (hbest : best = bestC l rs) :
    Calls Tryd.prog 38 #[.pointer (some ⟨P, 0, none⟩), .int .i64 best] w fun e w' => e = .returned (.tuple #[]) ∧ TkSt l rs w w' base P v u vs (tkT l rs) (fun i => !tkT l rs i) (chL l rs rs.length) := by
  obtain ⟨p0, p1⟩ := h.cells
  obtain ⟨⟨A, c, rfl⟩, A', c', rfl⟩ := h.shape
  obtain ⟨n, hn'⟩ : ∃ n, rs.length = n := ⟨_, rfl⟩
  obtain ⟨m, hm'⟩ : ∃ m, (blocksOf (spotsL l)).length = m := ⟨_, rfl⟩
  rw [hn', hm'] at h
  rw [hm'] at p0
  rw [hn'] at p1
  rw [hn'] at hn
  rw [hn', hm']
  have H0 := Lib.hid (TkSt.mk h (Upd.refl _ w))
  have HN := Lib.hid hn'
  have HM := Lib.hid hm'
  have HB := Lib.hid hbest
  have hm66 : m ≤ 66 := by rw [← hm']; have := blocksOf_len (spotsL l); have := spots_len l; omega
  clear h hn' hm' hbest
  go_enter Tryd.func38, Tryd.ntmps38
  go_wp2
  go_loopw [11] (fun iv wx => ∃ i : Nat, iv = .int .i64 (i : Int) ∧ i ≤ n ∧ Hid (TkSt l rs w wx base P (.slice A m c) (.slice A' n c') vs (tkT l rs) (fun i => !tkT l rs i) (chL l rs i))) (fun iv _ => n - (intOf iv).toNat)
  case atStart =>
    exact ⟨0, rfl, Nat.zero_le _, Lib.hid (H0.out.congr fun i hi => ⟨rfl, rfl, rfl⟩)⟩
  case round =>
    obtain ⟨i, rfl, hi, hst⟩ := hrel
    by_cases hlt : i < n
    · have hir : i < rs.length := by rw [HN.out]; exact hlt
      obtain ⟨q0, q1⟩ := hst.out.pl.cells
      obtain ⟨g, c2, e, hsk⟩ := hst.out.pl.seek hir
      simp only [Value.slice.injEq] at e
      obtain ⟨rfl, -, rfl⟩ := e
      obtain ⟨t, ht⟩ : ∃ t, tkT l rs i = t := ⟨_, rfl⟩
      obtain ⟨o, ho⟩ : ∃ o, ownOf (spotsL l) (rs.take i) rs[i] = o := ⟨_, rfl⟩
      have h6 := hsk.no
      have h7 := hsk.blk
      have h8 := hsk.own
      have f7 := hsk.fr (i * 9 + 7)
      rw [ht] at h6
      rw [ho] at h8
      have HT := Lib.hid ht
      have HO := Lib.hid ho
      have hst := hst.out
      have hii : (i : Int) < (n : Int) := by omega
      have hi0 : (0 : Int) ≤ (i : Int) := by omega
      clear hsk ht ho
      cases t with
      | false =>
        have HST := Lib.hid hst
        clear hst f7 h7 h8
        go_wp2
        go_roundw
        case rel => exact ⟨i + 1, by go_num, hlt, Lib.hid (by rw [chL_skip HT.out]; exact HST.out)⟩
        case measure => (simp [intOf]; try omega)
      | true =>
        have hs1 := hst
        rw [← HN.out] at hs1
        have hs1 := hs1.setBlk hir o
        rw [HN.out] at hs1
        have HS1 := Lib.hid hs1
        have HST := Lib.hid hst
        by_cases h0 : 0 ≤ o
        · obtain ⟨W1, hW1⟩ : ∃ W, wr.setCell ⟨g, i * 9 + 7, none⟩ (.int .i64 o) = W := ⟨_, rfl⟩
          rw [hW1] at HS1
          have HC := Lib.hid (costD_any HS1.out.pl (by rw [HN.out]; exact hn))
          have h8b : W1.cell? ⟨g, i * 9 + 8, none⟩ = some (.int .i64 o) := by
            obtain ⟨g2, c3, e, hk2⟩ := HS1.out.pl.seek hir
            simp only [Value.slice.injEq, Option.some.injEq, Addr.mk.injEq, and_true] at e
            obtain ⟨rfl, -⟩ := e
            have := hk2.own
            rw [HO.out] at this
            exact this
          clear hst hs1 HST
          go_wp2_with fail
          refine HC.out.mono ?_
          rintro e w2 ⟨cc, rfl, hm, hb2⟩
          have hiff := choose_cost hm
          have HS2 := Lib.hid (HS1.out.below hb2)
          clear hm hb2 HC h8b HS1 hW1 q0 q1 h6 h7 h8 f7
          by_cases hcb : cc = best
          · have HCH := Lib.hid (hiff.1 (by rw [hcb]; exact HB.out))
            clear hiff
            go_wp2
            go_roundw
            case rel => exact ⟨i + 1, by go_num, hlt, Lib.hid (by
              rw [chL_own hir HT.out (by rw [HO.out]; exact h0) (by rw [HO.out]; exact HCH.out), HO.out]; exact HS2.out)⟩
            case measure => (simp [intOf]; try omega)
          · have HNO : Hid (¬ (0 ≤ ownOf (spotsL l) (rs.take i) rs[i] ∧ ChoseL l rs (setI (chL l rs i) i (ownOf (spotsL l) (rs.take i) rs[i])))) := Lib.hid (fun h => hcb (by
              have := h.2
              rw [HO.out] at this
              rw [hiff.2 this]; exact HB.out.symm))
            have hq : (cc == best) = false := by simpa using hcb
            clear hiff hcb
            obtain ⟨q0, q1⟩ := HS2.out.pl.cells
            go_wp2
            go_loopw [49] (fun bv wy => ∃ (b : Nat) (z : Int), bv = .int .i64 (b : Int) ∧ b ≤ m ∧ Hid (TkSt l rs w wy base P (.slice A m c) (.slice (some ⟨g, 0, none⟩) n c') vs (tkT l rs) (fun i => !tkT l rs i) (setI (chL l rs i) i z)) ∧ Hid (∀ d : Nat, d < b → ¬ ChoseL l rs (setI (chL l rs i) i (d : Int)))) (fun bv _ => m - (intOf bv).toNat)
            case atStart => exact ⟨0, o, rfl, Nat.zero_le _, HS2, Lib.hid (fun d hd => by omega)⟩
            case round =>
              obtain ⟨b, z, rfl, hb, hsy, hnob⟩ := hrel
              by_cases hbl : b < m
              · obtain ⟨g2, c3, e, hk2⟩ := hsy.out.pl.seek hir
                simp only [Value.slice.injEq, Option.some.injEq, Addr.mk.injEq, and_true] at e
                obtain ⟨rfl, -⟩ := e
                have h7 := hk2.blk
                have f7 := hk2.fr (i * 9 + 7)
                have hs3 := hsy.out
                rw [← HN.out] at hs3
                have hs3 := hs3.setBlk hir (b : Int)
                rw [HN.out, setI_two] at hs3
                have HC := Lib.hid (costD_any hs3.pl (by rw [HN.out]; exact hn))
                have HS3 := Lib.hid hs3
                have hbi : (b : Int) < (m : Int) := by omega
                have hb0 : (0 : Int) ≤ (b : Int) := by omega
                clear hk2 hs3 hsy q0 q1
                go_wp2_with fail
                refine HC.out.mono ?_
                rintro e w4 ⟨cc, rfl, hm, hb4⟩
                have hiff := choose_cost hm
                have HS4 := Lib.hid (HS3.out.below hb4)
                clear hm hb4 HC HS3 h7 f7
                by_cases hcb : cc = best
                · have HCH := Lib.hid (hiff.1 (by rw [hcb]; exact HB.out))
                  clear hiff
                  go_wp2
                  go_roundw
                  case rel => exact ⟨i + 1, by go_num, hlt, Lib.hid (by
                    rw [chL_first hir HT.out HNO.out (b := b) (by rw [HM.out]; exact hbl) hnob.out HCH.out]; exact HS4.out)⟩
                  case measure => (simp [intOf]; try omega)
                · have HNB : Hid (∀ d : Nat, d < b + 1 → ¬ ChoseL l rs (setI (chL l rs i) i (d : Int))) := Lib.hid (fun d hd h => by
                    by_cases e : d = b
                    · subst e; exact hcb (by rw [hiff.2 h]; exact HB.out.symm)
                    · exact hnob.out d (by omega) h)
                  clear hiff
                  go_wp2
                  go_roundw
                  case rel => exact ⟨b + 1, (b : Int), by go_num, hbl, HS4, HNB⟩
                  case measure => (simp [intOf]; try omega)
              · exfalso
                obtain ⟨d, hd, hcd⟩ := chL_some hir HT.out
                rw [HM.out] at hd
                exact hnob.out d (by omega) hcd
        · have HNO : Hid (¬ (0 ≤ ownOf (spotsL l) (rs.take i) rs[i] ∧ ChoseL l rs (setI (chL l rs i) i (ownOf (spotsL l) (rs.take i) rs[i])))) := Lib.hid (fun h => h0 (by
            have := h.1
            rw [HO.out] at this
            exact this))
          have HS2 := HS1
          have hlt0 : decide ((0 : Int) ≤ o) = false := decide_eq_false h0
          obtain ⟨W1, hW1⟩ : ∃ W, wr.setCell ⟨g, i * 9 + 7, none⟩ (.int .i64 o) = W := ⟨_, rfl⟩
          rw [hW1] at HS2
          have h8b : W1.cell? ⟨g, i * 9 + 8, none⟩ = some (.int .i64 o) := by
            obtain ⟨g2, c3, e, hk2⟩ := HS2.out.pl.seek hir
            simp only [Value.slice.injEq, Option.some.injEq, Addr.mk.injEq, and_true] at e
            obtain ⟨rfl, -⟩ := e
            have := hk2.own
            rw [HO.out] at this
            exact this
          clear hst hs1 HST
          obtain ⟨q0, q1⟩ := HS2.out.pl.cells
          go_wp2
          go_loopw [49] (fun bv wy => ∃ (b : Nat) (z : Int), bv = .int .i64 (b : Int) ∧ b ≤ m ∧ Hid (TkSt l rs w wy base P (.slice A m c) (.slice (some ⟨g, 0, none⟩) n c') vs (tkT l rs) (fun i => !tkT l rs i) (setI (chL l rs i) i z)) ∧ Hid (∀ d : Nat, d < b → ¬ ChoseL l rs (setI (chL l rs i) i (d : Int)))) (fun bv _ => m - (intOf bv).toNat)
          case atStart => exact ⟨0, o, rfl, Nat.zero_le _, HS2, Lib.hid (fun d hd => by omega)⟩
          case round =>
            obtain ⟨b, z, rfl, hb, hsy, hnob⟩ := hrel
            by_cases hbl : b < m
            · obtain ⟨g2, c3, e, hk2⟩ := hsy.out.pl.seek hir
              simp only [Value.slice.injEq, Option.some.injEq, Addr.mk.injEq, and_true] at e
              obtain ⟨rfl, -⟩ := e
              have h7 := hk2.blk
              have f7 := hk2.fr (i * 9 + 7)
              have hs3 := hsy.out
              rw [← HN.out] at hs3
              have hs3 := hs3.setBlk hir (b : Int)
              rw [HN.out, setI_two] at hs3
              have HC := Lib.hid (costD_any hs3.pl (by rw [HN.out]; exact hn))
              have HS3 := Lib.hid hs3
              have hbi : (b : Int) < (m : Int) := by omega
              have hb0 : (0 : Int) ≤ (b : Int) := by omega
              clear hk2 hs3 hsy q0 q1
              go_wp2_with fail
              refine HC.out.mono ?_
              rintro e w4 ⟨cc, rfl, hm, hb4⟩
              have hiff := choose_cost hm
              have HS4 := Lib.hid (HS3.out.below hb4)
              clear hm hb4 HC HS3 h7 f7
              by_cases hcb : cc = best
              · have HCH := Lib.hid (hiff.1 (by rw [hcb]; exact HB.out))
                clear hiff
                go_wp2
                go_roundw
                case rel => exact ⟨i + 1, by go_num, hlt, Lib.hid (by
                  rw [chL_first hir HT.out HNO.out (b := b) (by rw [HM.out]; exact hbl) hnob.out HCH.out]; exact HS4.out)⟩
                case measure => (simp [intOf]; try omega)
              · have HNB : Hid (∀ d : Nat, d < b + 1 → ¬ ChoseL l rs (setI (chL l rs i) i (d : Int))) := Lib.hid (fun d hd h => by
                  by_cases e : d = b
                  · subst e; exact hcb (by rw [hiff.2 h]; exact HB.out.symm)
                  · exact hnob.out d (by omega) h)
                clear hiff
                go_wp2
                go_roundw
                case rel => exact ⟨b + 1, (b : Int), by go_num, hbl, HS4, HNB⟩
                case measure => (simp [intOf]; try omega)
            · exfalso
              obtain ⟨d, hd, hcd⟩ := chL_some hir HT.out
              rw [HM.out] at hd
              exact hnob.out d (by omega) hcd
    · obtain rfl : i = n := by omega
      have hii : ¬ (i : Int) < (i : Int) := by omega
      have HST : Hid (TkSt l rs w wr base P (.slice A m c) (.slice A' i c') vs (tkT l rs) (fun i => !tkT l rs i) (chL l rs i)) := hst
      clear hst
      go_wp2
      refine bodyPost_end (results_none rfl _ _ _) rfl ?_
      exact ⟨rfl, HST.out⟩
end Go.Proofs.YtppjpledjhinbaaDoor
