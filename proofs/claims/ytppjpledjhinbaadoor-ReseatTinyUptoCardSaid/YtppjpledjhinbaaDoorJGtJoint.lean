/- The gate's hall: enter, add, most, fits, Joint, walked (printed by wip/tools/gen_hall.py). -/
import Derived.Test.YtppjpledjhinbaaDoorJRsMost
namespace Go.Proofs.YtppjpledjhinbaaDoor
open Go.RowKit Go.Lib
set_option maxRecDepth 20000 in
theorem rdr_info : (Tryd.prog.info? 30).map (fun i => (i.zero, i.size, i.bytes)) = some (some (.agg #[.int .i64 0, .bool false, .bool false, .int .i64 0, .int .u8 0]), 5, 32) := by kernel_rfl
def whoC (x : MWho) : List Value := [.int .i64 x.cab, .bool x.fit, .bool x.inf]
theorem whoC_len (x : MWho) : (whoC x).length = 3 := rfl
def rider (x : MWho) : MSit := ⟨x, ⟨0, 0⟩⟩
/-- A hall in memory: its rows, who is in. -/
structure HallAt (W : World) (base H : Nat) (rv u : Value) (I : List MSit) : Prop where
  box : W.heap[H]? = some (.cells #[rv, u] 119 (0, 0))
  lo : base ≤ H
  inn : W.ownsRow base 30 5 u I.length (catv sitC I)
section
variable {W W' : World} {base H : Nat} {rv u : Value} {I : List MSit}
theorem HallAt.below (h : HallAt W base H rv u I) (hb : Below W.heap.size W W') : HallAt W' base H rv u I :=
  ⟨box_keep h.box (Upd.of_below (S := fun _ => False) hb) id, h.lo, own_below h.inn hb⟩
theorem HallAt.cells (h : HallAt W base H rv u I) : W.cell? ⟨H, 0, none⟩ = some rv ∧ W.cell? ⟨H, 1, none⟩ = some u := by
  constructor <;> rw [cell_of_row _ _ _ _ _ _ h.box] <;> rfl
theorem HallAt.hlt (h : HallAt W base H rv u I) : H < W.heap.size := (Array.getElem?_eq_some_iff.1 h.box).1
end
def EnterAns (w : World) (l : List MRow) (rv : Value) (k : Int) (e : Ending) (w' : World) : Prop :=
  Below w.heap.size w w' ∧
  if errC l ≠ 0 then e = .returned (.tuple #[.pointer none, .int .i64 (errC l)])
  else if 20 < k then e = .returned (.tuple #[.pointer none, .int .i64 26])
  else ∃ H, e = .returned (.tuple #[.pointer (some ⟨H, 0, none⟩), .int .i64 0]) ∧ HallAt w' w.heap.size H rv (.slice none 0 0) []
set_option maxHeartbeats 4000000 in
set_option maxRecDepth 20000 in
theorem enter_any (w : World) (mm : Int) (A : Option Addr) (n c : Nat) (l : List MRow) (k : Int) (hr : Rd w w.heap.size 5 A n (catv rowC l)) (hf : ∀ r ∈ l, r.fits) (hLib : LibAt w mm) :
    Calls Tryd.prog 45 #[.slice A n c, .int .i64 k] w (EnterAns w l (.slice A n c) k) := by
  obtain ⟨E, hE⟩ : ∃ E, errC l = E := ⟨_, rfl⟩
  have HCK := Lib.hid (check_any w mm A n c l hr hf hLib)
  rw [hE] at HCK
  have HE := Lib.hid hE
  clear hE hr hf hLib
  go_enter Tryd.func45, Tryd.ntmps45
  go_wp2_with fail
  refine HCK.out.mono ?_
  rintro e w1 ⟨rfl, hb1⟩
  have HB1 := Lib.hid hb1
  clear hb1 HCK
  by_cases hE0 : E = 0
  · subst hE0
    by_cases hk : 20 < k
    · have HK := Lib.hid hk
      go_wp2
      go_ret2
      refine ⟨HB1.out, ?_⟩
      rw [if_neg (fun h => h HE.out), if_pos HK.out]
      rfl
    · have HK := Lib.hid hk
      have hn := heap_alloc_new w1 (.cells #[.slice A n c, .slice none 0 0] 119)
      have HN : Hid (HallAt (w1.alloc (.cells #[.slice A n c, .slice none 0 0] 119)) w.heap.size w1.heap.size (.slice A n c) (.slice none 0 0) []) := Lib.hid ⟨hn, HB1.out.size, World.ownsRow_nil _ _ _ _⟩
      have HB2 := Lib.hid (HB1.out.alloc HB1.out.size (.cells #[.slice A n c, .slice none 0 0] 119))
      clear hn
      go_wp2
      go_ret2
      refine ⟨HB2.out, ?_⟩
      rw [if_neg (fun h => h HE.out), if_neg (by have := HK.out; omega)]
      exact ⟨_, rfl, HN.out⟩
  · have hEi : ¬ E = 0 := hE0
    go_wp2
    go_ret2
    refine ⟨HB1.out, ?_⟩
    rw [if_pos (by rw [HE.out]; exact hE0), HE.out]
    rfl
/-- Most, on a right map, of no more than twenty. -/
def SeatedIs (l : List MRow) (rs : List MSit) (k : Int) : Prop := ∃ c : Nat, MinIs (kN (blocksOf (spotsL l)) (boardK (spotsL l) [] rs)) (capsOf (blocksOf (spotsL l))) rs.length (blocksOf (spotsL l)).length c ∧ k = (rs.length : Int) - ((c / 100 : Nat) : Int)
theorem SeatedIs.bound {l : List MRow} {rs : List MSit} {k : Int} (h : SeatedIs l rs k) (hn : rs.length ≤ 20) : -200 ≤ k ∧ k ≤ 20 := by
  obtain ⟨c, hm, rfl⟩ := h
  have := min_bounds hm
  omega
set_option maxHeartbeats 4000000 in
set_option maxRecDepth 20000 in
theorem hmost_any (w : World) (mm : Int) (A : Option Addr) (n c : Nat) (l : List MRow) (hr : Rd w w.heap.size 5 A n (catv rowC l)) (hf : ∀ r ∈ l, r.fits) (hLib : LibAt w mm) (hE : errC l = 0) (H : Nat) (h0 : w.cell? ⟨H, 0, none⟩ = some (.slice A n c))
    (A2 : Option Addr) (n2 c2 : Nat) (rs : List MSit) (hr2 : Rd w w.heap.size 5 A2 n2 (catv sitC rs)) (hf2 : ∀ x ∈ rs, x.seat.fits) (hn2 : n2 ≤ 20) :
    Calls Tryd.prog 59 #[.pointer (some ⟨H, 0, none⟩), .slice A2 n2 c2] w fun e w' => ∃ k, e = .returned (.int .i64 k) ∧ SeatedIs l rs k ∧ Below w.heap.size w w' := by
  have HM := Lib.hid (most_any w mm A n c l hr hf hLib A2 n2 c2 rs hr2 hf2 (by omega))
  have hnr : rs.length ≤ 20 := by rw [← rd_catlen sitC_len (by decide) hr2]; exact hn2
  clear hr hf hLib hr2 hf2
  go_enter Tryd.func59, Tryd.ntmps59
  go_wp2_with fail
  refine HM.out.mono ?_
  rintro e w1 ⟨hb1, hcase⟩
  rw [if_neg (fun h => h hE), if_neg (by omega)] at hcase
  obtain ⟨cc, hmin, rfl⟩ := hcase
  obtain ⟨k, hk⟩ : ∃ k, (rs.length : Int) - ((cc / 100 : Nat) : Int) = k := ⟨_, rfl⟩
  rw [hk]
  have HS : Hid (SeatedIs l rs k) := Lib.hid ⟨cc, hmin, hk.symm⟩
  have HB1 := Lib.hid hb1
  clear hb1 hmin hk HM
  go_wp2
  go_ret
  exact ⟨k, rfl, HS.out, HB1.out⟩
set_option maxHeartbeats 4000000 in
set_option maxRecDepth 20000 in
theorem fits_any (w : World) (mm : Int) (A : Option Addr) (n c : Nat) (l : List MRow) (hr : Rd w w.heap.size 5 A n (catv rowC l)) (hf : ∀ r ∈ l, r.fits) (hLib : LibAt w mm) (hE : errC l = 0) (base H : Nat) (u : Value) (I : List MSit) (h : HallAt w base H (.slice A n c) u I) (hf2 : ∀ x ∈ I, x.seat.fits) (hn2 : I.length ≤ 20) :
    Calls Tryd.prog 47 #[.pointer (some ⟨H, 0, none⟩)] w fun e w' => ∃ k, e = .returned (.bool (decide (k = (I.length : Int)))) ∧ SeatedIs l I k ∧ Below w.heap.size w w' := by
  obtain ⟨p0, p1⟩ := h.cells
  have hlt := h.hlt
  obtain ⟨A2, c2, rfl⟩ := own_shape h.inn
  have HR2 := Lib.hid (Rd.own h.inn)
  have HMS := Lib.hid (fun W (hW : Below w.heap.size w W) => hmost_any W mm A n c l ((hr.below hW).mono hW.size) hf (hLib.below hW) hE H ((hW.cell (p := ⟨H, 0, none⟩) hlt).trans p0) A2 I.length c2 I ((HR2.out.below hW).mono hW.size) hf2 hn2)
  have MK : Hid (∀ W, Below w.heap.size w W → Below w.heap.size w W ∧ W.cell? ⟨H, 1, none⟩ = some (.slice A2 I.length c2)) := Lib.hid (fun W hW => ⟨hW, (hW.cell (p := ⟨H, 1, none⟩) hlt).trans p1⟩)
  have hb0 := Below.refl w.heap.size w
  clear hr hf hLib h hf2 p0
  go_enter Tryd.func47, Tryd.ntmps47
  go_wp2
  go_region_held3 (fun W => Below w.heap.size w W ∧ W.cell? ⟨H, 1, none⟩ = some (.slice A2 I.length c2)) (first | exact MK.out _ (by assumption) | exact MK.out _ (Below.drew hb0)) (first
    | (go_at_call 59; refine (HMS.out _ (And.left (by assumption))).mono ?_; rintro e w2 ⟨k, rfl, hk2, hb2⟩; have hS2 : Below w.heap.size w w2 := (And.left (by assumption) : Below w.heap.size w _).trans (hb2.mono (And.left (by assumption) : Below w.heap.size w _).size)))
  all_goals
    have HK := Lib.hid hk2
    clear hk2
    go_wp2
    go_ret
    exact ⟨k, ret_bool (by first | rfl | simp | (rw [Bool.eq_iff_iff]; simp)), HK.out, hS2⟩
end Go.Proofs.YtppjpledjhinbaaDoor
/- The gate's hall: add, walked (printed by wip/tools/gen_hall.py). -/
namespace Go.Proofs.YtppjpledjhinbaaDoor
open Go.RowKit Go.Lib
theorem sitC_rider (x : MWho) : sitC (rider x) = [.int .i64 x.cab, .bool x.fit, .bool x.inf, .int .i64 0, .int .u8 0] := rfl
/-- Since w0 nothing of what was there has turned but the hall H and the row of who is in. -/
structure HallUp (w0 W : World) (base H : Nat) (rv u0 u : Value) (I : List MSit) : Prop where
  hall : HallAt W base H rv u I
  up : Upd (fun k => k = H ∨ u0.ownBlock = some k) w0 W
  new : ∀ k, u.ownBlock = some k → u0.ownBlock = some k ∨ w0.heap.size ≤ k
theorem HallUp.refl {w0 : World} {base H : Nat} {rv u : Value} {I : List MSit} (h : HallAt w0 base H rv u I) : HallUp w0 w0 base H rv u u I := ⟨h, Upd.refl _ _, fun k e => .inl e⟩
set_option maxHeartbeats 8000000 in
set_option maxRecDepth 20000 in
theorem hadd_any (w : World) (base H : Nat) (rv u0 : Value) (I0 : List MSit) (h : HallAt w base H rv u0 I0) (hbase : base ≤ w.heap.size) (A : Option Addr) (n c : Nat) (ws : List MWho) (hr : Rd w w.heap.size 3 A n (catv whoC ws)) (hn : n + I0.length ≤ 1000000)
    (hA : 0 < n → ∀ ad, A = some ad → ad.block ≠ H ∧ u0.ownBlock ≠ some ad.block) :
    Calls Tryd.prog 46 #[.pointer (some ⟨H, 0, none⟩), .slice A n c] w fun e w' => e = .returned (.tuple #[]) ∧ ∃ u, HallUp w w' base H rv u0 u (I0 ++ ws.map rider) := by
  obtain ⟨i0, hi0, hz0, hz1, hz2⟩ := info_parts rdr_info
  have HNW := Lib.hid (rd_catlen whoC_len (by decide) hr)
  have HR := Lib.hid hr
  have HA := Lib.hid hA
  have H00 := Lib.hid (HallUp.refl h)
  clear hr hA h
  go_enter Tryd.func46, Tryd.ntmps46
  go_wp2
  go_loopw [8] (fun iv wx => ∃ (k : Nat) (u : Value), iv = .int .i64 (k : Int) ∧ k ≤ n ∧ Hid (HallUp w wx base H rv u0 u (I0 ++ (ws.take k).map rider)) ∧ Hid (w.heap.size ≤ wx.heap.size)) (fun iv _ => n - (intOf iv).toNat)
  case atStart => exact ⟨0, u0, rfl, Nat.zero_le _, Lib.hid (by simpa using H00.out), Lib.hid (Nat.le_refl _)⟩
  case round =>
    obtain ⟨k, u, rfl, hk, hst, hwz⟩ := hrel
    by_cases hlt : k < n
    · obtain ⟨gb, off, rfl, hgb, hs, hcc⟩ := HR.out.elem whoC_len (by decide) hlt
      obtain ⟨hg1, hg2⟩ := HA.out (by omega) _ rfl
      obtain ⟨x, hx⟩ : ∃ x, ws[k] = x := ⟨_, rfl⟩
      rw [hx] at hcc
      have keep : ∀ (j : Nat) (vv : Value), w.cell? ⟨gb, off + k * 3 + j, none⟩ = some vv → wr.cell? ⟨gb, off + k * 3 + j, none⟩ = some vv := fun j vv h1 => (hst.out.up.cell (p := ⟨gb, off + k * 3 + j, none⟩) hgb (fun h2 => by rcases h2 with h2 | h2; exact hg1 h2; exact hg2 h2)).trans h1
      have c0 := keep 0 _ (hcc 0 (.int .i64 x.cab) rfl)
      have c1 := keep 1 _ (hcc 1 (.bool x.fit) rfl)
      have c2 := keep 2 _ (hcc 2 (.bool x.inf) rfl)
      rw [Nat.add_zero] at c0
      have htk : (ws.take (k + 1)).map rider = (ws.take k).map rider ++ [rider x] := by rw [List.take_succ_eq_append_getElem hs, hx, List.map_append]; rfl
      obtain ⟨I, hI⟩ : ∃ I, I0 ++ (ws.take k).map rider = I := ⟨_, rfl⟩
      have hIl : I.length ≤ 1000000 := by rw [← hI, List.length_append, List.length_map, List.length_take]; omega
      have hI1 : I0 ++ (ws.take (k + 1)).map rider = I ++ [rider x] := by rw [htk, ← List.append_assoc, hI]
      rw [hI] at hst
      have HI1 := Lib.hid hI1
      have HIL := Lib.hid hIl
      obtain ⟨X, hX⟩ : ∃ X, wr.heap.size = X := ⟨_, rfl⟩
      obtain ⟨wq, hV⟩ : ∃ V, wr.alloc (.cells #[.int .i64 x.cab, .bool x.fit, .bool x.inf] 28) = V := ⟨_, rfl⟩
      have hbV : Below wr.heap.size wr wq := by rw [← hV]; exact (Below.refl _ _).alloc (Nat.le_refl _) _
      have hxV : wq.heap[X]? = some (.cells #[.int .i64 x.cab, .bool x.fit, .bool x.inf] 28 (0, 0)) := by rw [← hV, ← hX]; exact heap_alloc_new wr _
      have hhV := hst.out.hall.below hbV
      have hupV : Upd (fun k => k = H ∨ u0.ownBlock = some k) w wq := hst.out.up.trans (S' := fun _ => False) (Upd.of_below hbV) (fun _ _ h => h.elim)
      have hnewV := hst.out.new
      have hki : (k : Int) < (n : Int) := by omega
      have hk0 : (0 : Int) ≤ (k : Int) := by omega
      have hbq : base ≤ wq.heap.size := Nat.le_trans hbase (Nat.le_trans hwz.out hbV.size)
      have hXH : X ≠ H := by rw [← hX]; exact Nat.ne_of_gt hst.out.hall.hlt
      have hXu : u.ownBlock ≠ some X := fun e => by have := (hst.out.hall.inn.lt _ e).2; omega
      have hud : Upd (fun k => u.ownBlock = some k ∨ k = H) wq wq.drew := (Upd.refl _ wq).drewN 1
      have ud := hud
      have ua : Upd (fun k => u.ownBlock = some k ∨ k = H) wq (wq.drew.alloc (.cells #[.int .i64 x.cab, .bool x.fit, .bool x.inf, .int .i64 0, .int .u8 0] 30)) := hud.alloc _
      have MK : Hid (∀ U, Upd (fun k => u.ownBlock = some k ∨ k = H) wq U → (fun U => U.cell? ⟨X, 0, none⟩ = some (.int .i64 x.cab) ∧ U.cell? ⟨X, 1, none⟩ = some (.bool x.fit) ∧ U.cell? ⟨X, 2, none⟩ = some (.bool x.inf)) U) := Lib.hid (fun U hU => by
        have h9 := box_keep hxV hU (fun h => by rcases h with h | h; exact hXu h; exact hXH h)
        refine ⟨?_, ?_, ?_⟩ <;> rw [cell_of_row _ _ _ _ _ _ h9] <;> rfl)
      have OA : Hid ((wq.drew.alloc (.cells #[.int .i64 x.cab, .bool x.fit, .bool x.inf, .int .i64 0, .int .u8 0] 30)).ownsRow base 30 5 u I.length (catv sitC I)) := Lib.hid (own_below hhV.inn ((Below.refl wq.heap.size wq).drew.alloc (Nat.le_refl _) _))
      have HAZ : Hid (base ≤ (wq.drew.alloc (.cells #[.int .i64 x.cab, .bool x.fit, .bool x.inf, .int .i64 0, .int .u8 0] 30)).heap.size) := Lib.hid (by simp; omega)
      have HPA : Hid ((wq.drew.alloc (.cells #[.int .i64 x.cab, .bool x.fit, .bool x.inf, .int .i64 0, .int .u8 0] 30)).heap[H]? = some (.cells #[rv, u] 119 (0, 0))) := Lib.hid (by
        rw [Below.heap_alloc wq.drew _ _ (show H < wq.drew.heap.size from hhV.hlt)]
        exact hhV.box)
      have hHu : u.ownBlock ≠ some H := fun e => by
        obtain ⟨cs, h2⟩ := own_typed hhV.inn e
        rw [hhV.box] at h2
        simp at h2
      have HPB : Hid (u.ownBlock ≠ some H ∧ H < wq.heap.size) := Lib.hid ⟨hHu, hhV.hlt⟩
      have p1 : wq.drew.cell? ⟨H, 1, none⟩ = some u := by rw [cell_of_row _ _ 1 _ _ _ (show wq.drew.heap[H]? = _ from hhV.box)]; rfl
      have p1b : (wq.alloc (.cells #[.int .i64 x.cab, .bool x.fit, .bool x.inf, .int .i64 0, .int .u8 0] 30)).cell? ⟨H, 1, none⟩ = some u := by rw [cell_of_row _ _ 1 _ _ _ (show (wq.alloc (.cells #[.int .i64 x.cab, .bool x.fit, .bool x.inf, .int .i64 0, .int .u8 0] 30)).heap[H]? = _ from HPA.out)]; rfl
      have HNEW : Hid (∀ (Ad : Option Addr) (kd : Nat) (w7 : World), w7.ownsRow base 30 5 (.slice Ad (I.length + 1) kd) (I.length + 1) (catv sitC I ++ sitC (rider x)) → Upd (fun k => u.ownBlock = some k) (wq.drew.alloc (.cells #[.int .i64 x.cab, .bool x.fit, .bool x.inf, .int .i64 0, .int .u8 0] 30)) w7 → RowAt (wq.drew.alloc (.cells #[.int .i64 x.cab, .bool x.fit, .bool x.inf, .int .i64 0, .int .u8 0] 30)) u (.slice Ad (I.length + 1) kd) → HallUp w (w7.setCell ⟨H, 1, none⟩ (.slice Ad (I.length + 1) kd)) base H rv u0 (.slice Ad (I.length + 1) kd) (I0 ++ (ws.take (k + 1)).map rider) ∧ w.heap.size ≤ (w7.setCell ⟨H, 1, none⟩ (.slice Ad (I.length + 1) kd)).heap.size) := Lib.hid (fun Ad kd w7 ho hu2 hat => by
        rw [HI1.out]
        have e7 := box_keep HPA.out hu2 hHu
        have hs : Upd (fun k => k = H) w7 (w7.setCell ⟨H, 1, none⟩ (.slice Ad (I.length + 1) kd)) := (Upd.refl (fun k => k = H) w7).setCell ⟨H, 1, none⟩ rfl _
        have e8 := heap_setCell_same w7 H 1 _ _ (.slice Ad (I.length + 1) kd) e7
        have hsz : wq.heap.size ≤ w7.heap.size := Nat.le_trans (by simp) hu2.size
        have hwq : w.heap.size ≤ wq.heap.size := Nat.le_trans hwz.out hbV.size
        have hal : Upd (fun k => k = H ∨ u0.ownBlock = some k) w (wq.drew.alloc (.cells #[.int .i64 x.cab, .bool x.fit, .bool x.inf, .int .i64 0, .int .u8 0] 30)) := hupV.trans (S' := fun _ => False) ((Upd.refl _ wq).drewN 1 |>.alloc _) (fun _ _ h => h.elim)
        refine ⟨⟨⟨by simpa using e8, hhV.lo, ?_⟩, ?_, fun q hq => ?_⟩, by have := hs.size; omega⟩
        · rw [List.length_append, catv_append, catv_one]
          exact own_upd ho hs (fun q e e2 => by
            obtain ⟨cs, h2⟩ := own_typed ho e
            rw [e2, e7] at h2
            simp at h2)
        · exact (hal.trans hu2 (fun q hq h2 => by
            rcases hnewV q h2 with h3 | h3
            · exact .inr h3
            · omega)).trans hs (fun q _ h2 => .inl h2)
        · rcases hat with hat | ⟨q', h1, h2⟩
          · rw [hat] at hq
            exact hnewV q hq
          · rw [h2] at hq
            injection hq with hq
            right
            have : wq.heap.size ≤ (wq.drew.alloc (.cells #[.int .i64 x.cab, .bool x.fit, .bool x.inf, .int .i64 0, .int .u8 0] 30)).heap.size := by simp
            omega)
      clear keep hcc hx htk hI hIl hI1 hst hbV hxV hhV hupV hnewV hXH hXu hHu hgb hg1 hg2 hwz
      go_upto_region 3 with (fail)
      clear hV c0 c1 c2
      refine wp_region_held_drew (S := (fun U => U.cell? ⟨X, 0, none⟩ = some (.int .i64 x.cab) ∧ U.cell? ⟨X, 1, none⟩ = some (.bool x.fit) ∧ U.cell? ⟨X, 2, none⟩ = some (.bool x.inf))) (by kernel_rfl) (by exact MK.out _ ud) (fun hHeld => ?_)
      refine wpAnyH_take (i := 0) (v := ?_) rfl (by kernel_rfl) (by kernel_rfl) (by kernel_rfl) (fun _ _ _ h => h) (Or.inl ⟨by kernel_rfl, ?_⟩) (by assumption) ?_
      rotate_left
      · (intro w hSw; (try dsimp only at hSw); go_simp; try with_reducible rfl)
      try simp only [Act.put, List.getElem_toArray, List.getElem_cons_succ, List.getElem_cons_zero, List.setIfInBounds_toArray, List.set_cons_zero, List.set_cons_succ]
      refine wpAnyH_take (i := 1) (v := ?_) rfl (by kernel_rfl) (by kernel_rfl) (by kernel_rfl) (fun _ _ _ h => h) (Or.inl ⟨by kernel_rfl, ?_⟩) (by assumption) ?_
      rotate_left
      · (intro w hSw; (try dsimp only at hSw); go_simp; try with_reducible rfl)
      try simp only [Act.put, List.getElem_toArray, List.getElem_cons_succ, List.getElem_cons_zero, List.setIfInBounds_toArray, List.set_cons_zero, List.set_cons_succ]
      refine wpAnyH_take (i := 2) (v := ?_) rfl (by kernel_rfl) (by kernel_rfl) (by kernel_rfl) (fun _ _ _ h => h) (Or.inl ⟨by kernel_rfl, ?_⟩) (by assumption) ?_
      rotate_left
      · (intro w hSw; (try dsimp only at hSw); go_simp; try with_reducible rfl)
      try simp only [Act.put, List.getElem_toArray, List.getElem_cons_succ, List.getElem_cons_zero, List.setIfInBounds_toArray, List.set_cons_zero, List.set_cons_succ]
      refine wpAnyH_take (i := 3) (v := ?_) rfl (by kernel_rfl) (by kernel_rfl) (by kernel_rfl) (fun _ _ _ h => h) (Or.inl ⟨by kernel_rfl, ?_⟩) (by assumption) ?_
      rotate_left
      · (intro w hSw; (try dsimp only at hSw); go_simp; try with_reducible rfl)
      try simp only [Act.put, List.getElem_toArray, List.getElem_cons_succ, List.getElem_cons_zero, List.setIfInBounds_toArray, List.set_cons_zero, List.set_cons_succ]
      refine wpAnyH_take (i := 5) (v := ?_) rfl (by kernel_rfl) (by kernel_rfl) (by kernel_rfl) (fun _ _ _ h => h) (Or.inl ⟨by kernel_rfl, ?_⟩) (by assumption) ?_
      rotate_left
      · (intro w hSw; (try dsimp only at hSw); go_simp; try with_reducible rfl)
      try simp only [Act.put, List.getElem_toArray, List.getElem_cons_succ, List.getElem_cons_zero, List.setIfInBounds_toArray, List.set_cons_zero, List.set_cons_succ]
      refine wpAnyH_take (i := 6) (v := ?_) rfl (by kernel_rfl) (by kernel_rfl) (by kernel_rfl) (fun _ _ _ h => h) (Or.inl ⟨by kernel_rfl, ?_⟩) (by assumption) ?_
      rotate_left
      · (intro w hSw; (try dsimp only at hSw); go_simp; try with_reducible rfl)
      try simp only [Act.put, List.getElem_toArray, List.getElem_cons_succ, List.getElem_cons_zero, List.setIfInBounds_toArray, List.set_cons_zero, List.set_cons_succ]
      refine wpAnyH_ready (rs := [4, 7]) (by kernel_rfl) (by simp) ?_
      refine AllReadyH.cons rfl (fun K hK => ?_) (AllReadyH.cons rfl (fun K hK => ?_) AllReadyH.nil)
      · go_simp
        refine hK.out _ _ (by exact MK.out _ (by first | exact ud | exact ua | exact ua3 | exact ua3.setCell _ (.inr rfl) _)) (fun hHeld => ?_)
        clear hK K
        try simp only [Act.put, List.getElem_toArray, List.getElem_cons_succ, List.getElem_cons_zero, List.setIfInBounds_toArray, List.set_cons_zero, List.set_cons_succ]
        refine wpAnyH_ready (rs := [7]) (by kernel_rfl) (by simp) ?_
        refine AllReadyH.cons rfl (fun K hK => ?_) AllReadyH.nil
        go_simp
        refine hK.out _ _ (by exact MK.out _ (by first | exact ud | exact ua | exact ua3 | exact ua3.setCell _ (.inr rfl) _)) (fun hHeld => ?_)
        clear hK K
        try simp only [Act.put, List.getElem_toArray, List.getElem_cons_succ, List.getElem_cons_zero, List.setIfInBounds_toArray, List.set_cons_zero, List.set_cons_succ]
        refine wpAnyH_ready (rs := [8]) (by kernel_rfl) (by simp) ?_
        refine AllReadyH.cons rfl (fun K hK => ?_) AllReadyH.nil
        refine step_app (by rfl) (.tmp 16) (.tmp 19) 23 (by rfl) base 30 i0 _ 5 32 Tryd.underlying23 hi0 hz0 hz1 hz2 rfl (by omega) u I.length (catv sitC I) _ (some ⟨wq.heap.size, 0, none⟩) 1 1 (sitC (rider x)) (by rfl) (by exact OA.out) (by rfl) (rd_block (heap_alloc_new wq.drew (.cells #[.int .i64 x.cab, .bool x.fit, .bool x.inf, .int .i64 0, .int .u8 0] 30)) rfl) (sitC_cell _) (by have := HIL.out; omega) (by have := HIL.out; unfold maxLen; omega) (by exact HAZ.out) ?_
        intro u' w7 ho7 hu7 hat7
        obtain ⟨Ad, kd, rfl⟩ := own_shape ho7
        have ua3 : Upd (fun k => u.ownBlock = some k ∨ k = H) wq w7 := ua.trans hu7 (fun k _ h => .inl h)
        have e7 := (hu7.block H (by have := HPB.out.2; simp; omega) HPB.out.1).trans HPA.out
        have p1' : w7.cell? ⟨H, 1, none⟩ = some u := by rw [cell_of_row _ _ 1 _ _ _ e7]; rfl
        have f1' : w7.frozen? ⟨H, 1, none⟩ = false := frozen_of_row _ _ _ _ _ e7
        refine hK.out _ _ (by exact MK.out _ (by first | exact ud | exact ua | exact ua3 | exact ua3.setCell _ (.inr rfl) _)) (fun hHeld => ?_)
        clear hK K
        try simp only [Act.put, List.getElem_toArray, List.getElem_cons_succ, List.getElem_cons_zero, List.setIfInBounds_toArray, List.set_cons_zero, List.set_cons_succ]
        refine wpAnyH_ready (rs := [9]) (by kernel_rfl) (by simp) ?_
        refine AllReadyH.cons rfl (fun K hK => ?_) AllReadyH.nil
        go_simp
        refine hK.out _ _ (by exact MK.out _ (by first | exact ud | exact ua | exact ua3 | exact ua3.setCell _ (.inr rfl) _)) (fun hHeld => ?_)
        clear hK K
        try simp only [Act.put, List.getElem_toArray, List.getElem_cons_succ, List.getElem_cons_zero, List.setIfInBounds_toArray, List.set_cons_zero, List.set_cons_succ]
        refine wpAnyH_ready (rs := [10]) (by kernel_rfl) (by simp) ?_
        refine AllReadyH.cons rfl (fun K hK => ?_) AllReadyH.nil
        go_simp
        refine hK.out _ _ (by exact MK.out _ (by first | exact ud | exact ua | exact ua3 | exact ua3.setCell _ (.inr rfl) _)) (fun hHeld => ?_)
        clear hK K
        try simp only [Act.put, List.getElem_toArray, List.getElem_cons_succ, List.getElem_cons_zero, List.setIfInBounds_toArray, List.set_cons_zero, List.set_cons_succ]
        refine wpAnyH_ready (rs := [11]) (by kernel_rfl) (by simp) ?_
        refine AllReadyH.cons rfl (fun K hK => ?_) AllReadyH.nil
        go_simp
        refine hK.out _ _ (by exact MK.out _ (by first | exact ud | exact ua | exact ua3 | exact ua3.setCell _ (.inr rfl) _)) (fun hHeld => ?_)
        clear hK K
        try simp only [Act.put, List.getElem_toArray, List.getElem_cons_succ, List.getElem_cons_zero, List.setIfInBounds_toArray, List.set_cons_zero, List.set_cons_succ]
        refine wpAnyH_done (by kernel_rfl) ?_ _
        have HN7 := Lib.hid (HNEW.out Ad kd w7 ho7 hu7 hat7)
        clear ho7 hu7 hat7 e7 ua3 hHeld
        go_wp2
        go_roundw
        case rel => exact ⟨k + 1, _, by go_num, hlt, Lib.hid HN7.out.1, Lib.hid HN7.out.2⟩
        case measure => simp [intOf]; omega
      · go_simp
        refine hK.out _ _ (by exact MK.out _ (by first | exact ud | exact ua | exact ua3 | exact ua3.setCell _ (.inr rfl) _)) (fun hHeld => ?_)
        clear hK K
        try simp only [Act.put, List.getElem_toArray, List.getElem_cons_succ, List.getElem_cons_zero, List.setIfInBounds_toArray, List.set_cons_zero, List.set_cons_succ]
        refine wpAnyH_ready (rs := [4]) (by kernel_rfl) (by simp) ?_
        refine AllReadyH.cons rfl (fun K hK => ?_) AllReadyH.nil
        go_simp
        refine hK.out _ _ (by exact MK.out _ (by first | exact ud | exact ua | exact ua3 | exact ua3.setCell _ (.inr rfl) _)) (fun hHeld => ?_)
        clear hK K
        try simp only [Act.put, List.getElem_toArray, List.getElem_cons_succ, List.getElem_cons_zero, List.setIfInBounds_toArray, List.set_cons_zero, List.set_cons_succ]
        refine wpAnyH_ready (rs := [8]) (by kernel_rfl) (by simp) ?_
        refine AllReadyH.cons rfl (fun K hK => ?_) AllReadyH.nil
        refine step_app (by rfl) (.tmp 16) (.tmp 19) 23 (by rfl) base 30 i0 _ 5 32 Tryd.underlying23 hi0 hz0 hz1 hz2 rfl (by omega) u I.length (catv sitC I) _ (some ⟨wq.heap.size, 0, none⟩) 1 1 (sitC (rider x)) (by rfl) (by exact OA.out) (by rfl) (rd_block (heap_alloc_new wq.drew (.cells #[.int .i64 x.cab, .bool x.fit, .bool x.inf, .int .i64 0, .int .u8 0] 30)) rfl) (sitC_cell _) (by have := HIL.out; omega) (by have := HIL.out; unfold maxLen; omega) (by exact HAZ.out) ?_
        intro u' w7 ho7 hu7 hat7
        obtain ⟨Ad, kd, rfl⟩ := own_shape ho7
        have ua3 : Upd (fun k => u.ownBlock = some k ∨ k = H) wq w7 := ua.trans hu7 (fun k _ h => .inl h)
        have e7 := (hu7.block H (by have := HPB.out.2; simp; omega) HPB.out.1).trans HPA.out
        have p1' : w7.cell? ⟨H, 1, none⟩ = some u := by rw [cell_of_row _ _ 1 _ _ _ e7]; rfl
        have f1' : w7.frozen? ⟨H, 1, none⟩ = false := frozen_of_row _ _ _ _ _ e7
        refine hK.out _ _ (by exact MK.out _ (by first | exact ud | exact ua | exact ua3 | exact ua3.setCell _ (.inr rfl) _)) (fun hHeld => ?_)
        clear hK K
        try simp only [Act.put, List.getElem_toArray, List.getElem_cons_succ, List.getElem_cons_zero, List.setIfInBounds_toArray, List.set_cons_zero, List.set_cons_succ]
        refine wpAnyH_ready (rs := [9]) (by kernel_rfl) (by simp) ?_
        refine AllReadyH.cons rfl (fun K hK => ?_) AllReadyH.nil
        go_simp
        refine hK.out _ _ (by exact MK.out _ (by first | exact ud | exact ua | exact ua3 | exact ua3.setCell _ (.inr rfl) _)) (fun hHeld => ?_)
        clear hK K
        try simp only [Act.put, List.getElem_toArray, List.getElem_cons_succ, List.getElem_cons_zero, List.setIfInBounds_toArray, List.set_cons_zero, List.set_cons_succ]
        refine wpAnyH_ready (rs := [10]) (by kernel_rfl) (by simp) ?_
        refine AllReadyH.cons rfl (fun K hK => ?_) AllReadyH.nil
        go_simp
        refine hK.out _ _ (by exact MK.out _ (by first | exact ud | exact ua | exact ua3 | exact ua3.setCell _ (.inr rfl) _)) (fun hHeld => ?_)
        clear hK K
        try simp only [Act.put, List.getElem_toArray, List.getElem_cons_succ, List.getElem_cons_zero, List.setIfInBounds_toArray, List.set_cons_zero, List.set_cons_succ]
        refine wpAnyH_ready (rs := [11]) (by kernel_rfl) (by simp) ?_
        refine AllReadyH.cons rfl (fun K hK => ?_) AllReadyH.nil
        go_simp
        refine hK.out _ _ (by exact MK.out _ (by first | exact ud | exact ua | exact ua3 | exact ua3.setCell _ (.inr rfl) _)) (fun hHeld => ?_)
        clear hK K
        try simp only [Act.put, List.getElem_toArray, List.getElem_cons_succ, List.getElem_cons_zero, List.setIfInBounds_toArray, List.set_cons_zero, List.set_cons_succ]
        refine wpAnyH_done (by kernel_rfl) ?_ _
        have HN7 := Lib.hid (HNEW.out Ad kd w7 ho7 hu7 hat7)
        clear ho7 hu7 hat7 e7 ua3 hHeld
        go_wp2
        go_roundw
        case rel => exact ⟨k + 1, _, by go_num, hlt, Lib.hid HN7.out.1, Lib.hid HN7.out.2⟩
        case measure => simp [intOf]; omega
    · obtain rfl : k = n := by omega
      have hki : ¬ (k : Int) < (k : Int) := by omega
      have HE : Hid (HallUp w wr base H rv u0 u (I0 ++ ws.map rider)) := Lib.hid (by
        have h1 := hst.out
        rw [HNW.out, List.take_length] at h1
        exact h1)
      clear hst
      go_wp2
      refine bodyPost_end (results_none rfl _ _ _) rfl ?_
      exact ⟨rfl, u, HE.out⟩
end Go.Proofs.YtppjpledjhinbaaDoor
/- The gate: Joint, walked. -/
namespace Go.Proofs.YtppjpledjhinbaaDoor
open Go.RowKit Go.Lib
def JointAns (w : World) (l : List MRow) (ws : List MWho) (e : Ending) (w' : World) : Prop :=
  Below w.heap.size w w' ∧
  if errC l ≠ 0 then e = .returned (.tuple #[.bool false, .int .i64 (errC l)])
  else if 20 < ws.length then e = .returned (.tuple #[.bool false, .int .i64 26])
  else ∃ k, SeatedIs l (ws.map rider) k ∧ e = .returned (.tuple #[.bool (decide (k = (ws.length : Int))), .int .i64 0])
theorem rider_fits (ws : List MWho) : ∀ x ∈ ws.map rider, x.seat.fits := by
  intro x hx
  obtain ⟨y, _, rfl⟩ := List.mem_map.1 hx
  unfold MSeat.fits rider
  simp
set_option maxHeartbeats 4000000 in
set_option maxRecDepth 20000 in
theorem joint_any (w : World) (mm : Int) (A : Option Addr) (n c : Nat) (l : List MRow) (hr : Rd w w.heap.size 5 A n (catv rowC l)) (hf : ∀ r ∈ l, r.fits) (hLib : LibAt w mm) (A2 : Option Addr) (n2 c2 : Nat) (ws : List MWho) (hr2 : Rd w w.heap.size 3 A2 n2 (catv whoC ws)) :
    Calls Tryd.prog 27 #[.slice A n c, .slice A2 n2 c2] w (JointAns w l ws) := by
  obtain rfl := rd_catlen whoC_len (by decide) hr2
  have HEN := Lib.hid (enter_any w mm A n c l (ws.length : Int) hr hf hLib)
  have HR := Lib.hid hr
  have HF := Lib.hid hf
  have HLB := Lib.hid hLib
  have HR2 := Lib.hid hr2
  clear hr hf hLib hr2
  go_enter Tryd.func27, Tryd.ntmps27
  go_wp2_with fail
  refine HEN.out.mono ?_
  rintro e w1 ⟨hb1, hcase⟩
  by_cases hE : errC l ≠ 0
  · rw [if_pos hE] at hcase
    obtain rfl : e = _ := hcase
    obtain ⟨E, hE1⟩ : ∃ E, errC l = E := ⟨_, rfl⟩
    rw [hE1] at hE ⊢
    have HE1 := Lib.hid hE1
    have hEi : ¬ E = 0 := hE
    have HB1 := Lib.hid hb1
    clear hb1 HEN hE1
    go_wp2
    go_ret2
    refine ⟨HB1.out, ?_⟩
    rw [if_pos (by rw [HE1.out]; exact hE), HE1.out]
    rfl
  · rw [if_neg hE] at hcase
    by_cases hlt : (20 : Int) < (ws.length : Int)
    · rw [if_pos hlt] at hcase
      obtain rfl : e = _ := hcase
      have HB1 := Lib.hid hb1
      have HE := Lib.hid hE
      have HK := Lib.hid (show 20 < ws.length by omega)
      clear hb1 HEN hE hlt
      go_wp2
      go_ret2
      refine ⟨HB1.out, ?_⟩
      rw [if_neg HE.out, if_pos HK.out]
      rfl
    · rw [if_neg hlt] at hcase
      obtain ⟨H, rfl, hh⟩ := hcase
      have hE0 : errC l = 0 := Classical.byContradiction hE
      have hw20 : ws.length ≤ 20 := by omega
      have HB1 := Lib.hid hb1
      have HAD := Lib.hid (hadd_any w1 w.heap.size H (.slice A n c) (.slice none 0 0) [] hh hb1.size A2 ws.length c2 ws ((HR2.out.below hb1).mono hb1.size) (by simp; omega) (fun h0 ad e => by
        subst e
        obtain ⟨ad', e, h2, _⟩ := HR2.out.at_ h0
        injection e with e
        subst e
        refine ⟨?_, fun e => by cases e⟩
        have := hh.lo
        omega))
      have hHlo := hh.lo
      have HE0 := Lib.hid hE0
      have HE := Lib.hid hE
      clear hb1 HEN hE hh hE0 hlt
      go_wp2_with fail
      refine HAD.out.mono ?_
      rintro e w2 ⟨rfl, u, hup⟩
      rw [List.nil_append] at hup
      have hb12 : Below w.heap.size w w2 := HB1.out.trans (hup.up.below (fun k hk h => by
        rcases h with h | h
        · omega
        · cases h) HB1.out.size)
      have HFT := Lib.hid (fits_any w2 mm A n c l ((HR.out.below hb12).mono hb12.size) HF.out (HLB.out.below hb12) HE0.out w.heap.size H u (ws.map rider) hup.hall (rider_fits ws) (by simpa using hw20))
      rw [List.length_map] at HFT
      have HB2 := Lib.hid hb12
      have HWL := Lib.hid hw20
      clear hup hb12 HAD HB1
      go_wp2_with fail
      refine HFT.out.mono ?_
      rintro e w3 ⟨k, rfl, hk, hb3⟩
      have HK := Lib.hid hk
      have HB3 := Lib.hid (HB2.out.trans (hb3.mono HB2.out.size))
      clear hk hb3 HFT
      go_wp2
      go_ret2
      refine ⟨HB3.out, ?_⟩
      rw [if_neg HE.out, if_neg (by have := HWL.out; omega)]
      exact ⟨k, HK.out, rfl⟩
end Go.Proofs.YtppjpledjhinbaaDoor
