/- Matchings: levels, walked. -/
import Derived.Test.YtegpanfcjfcaeaaDoorJTm17G
import Derived.Test.YtegpanfcjfcaeaaDoorJTm17N
import Derived.StillTailTactics
import Derived.Deep.CutBlock
import Derived.Deep.DeepCutAuto
namespace Go.Proofs.YtegpanfcjfcaeaaDoor
open Go.RowKit
section
variable {near : Nat → List Nat} {n : Nat} {of wi di : List Int} {P T : List Nat} {fo : Bool} {seen : Nat → Nat → Prop}
theorem Lv.count (h : Lv near n of wi seen P T di fo) : P.length + T.length ≤ n := by
  have := nodup_sub_len (b := List.range n) h.nd fun y hy => by simpa using h.lt y hy
  rw [List.length_range, List.length_append] at this
  exact this
theorem Lv.hi (h : Lv near n of wi seen P T di fo) (x : Nat) : gi di x < n := by
  by_cases hx : 0 ≤ gi di x
  · have hm := (h.on x).1 hx
    obtain ⟨i, hi, e⟩ := List.getElem_of_mem hm
    have h5 := h.idx i hi
    rw [e] at h5
    have := h.count
    rw [List.length_append] at hi
    omega
  · omega
theorem Lv.out (h : Lv near n of wi (fun p b => p ∈ P ∧ b ∈ near p) P [] di fo) : LevOut near n of wi di fo := by
  have hP : ∀ x, x ∈ P ++ [] ↔ x ∈ P := fun x => by simp
  refine ⟨h.len, h.lo, h.hi, fun a ha hu => (h.root a ha hu).2, fun hfo a b hb ha => ?_, fun hfo => ?_⟩
  · rcases h.clo a b ⟨(hP a).1 ((h.on a).1 ha), hb⟩ with ⟨_, h5⟩ | ⟨q, h5, h6⟩
    · rw [hfo] at h5; cases h5
    · have := (h.on q).2 h6
      have e : (gi wi b).toNat = q := by omega
      rw [e]
      exact ⟨by omega, this⟩
  · obtain ⟨p, hp, b, hb, hf⟩ := h.fnd hfo
    have up : ∀ (k x : Nat), gi di x ≤ k → x ∈ P → Good near wi di x → ∃ a, a < n ∧ gi of a < 0 ∧ Good near wi di a := by
      intro k
      induction k with
      | zero =>
        intro x hk hx hg
        rcases h.par x (by simp [hx]) with h5 | ⟨q, hq, c, hc, h6, h7⟩
        · exact ⟨x, h.lt x (by simp [hx]), h5, hg⟩
        · have := (h.on q).2 (by simp [hq])
          omega
      | succ k ih =>
        intro x hk hx hg
        rcases h.par x (by simp [hx]) with h5 | ⟨q, hq, c, hc, h6, h7⟩
        · exact ⟨x, h.lt x (by simp [hx]), h5, hg⟩
        · refine ih q (by omega) hq (.step q c hc (by omega) ?_ ?_)
          · rw [h6, Int.toNat_natCast]; exact h7
          · rw [h6, Int.toNat_natCast]; exact hg
    exact up (gi di p).toNat p (by omega) hp (.free p b hb hf)
theorem Lv.start : Lv near n of wi (fun p b => p ∈ ([] : List Nat) ∧ b ∈ near p) [] (levR of n n).1 (levR of n n).2 false := by
  obtain ⟨h1, h2, h3, h4⟩ := levR_is of n n (Nat.le_refl _)
  refine ⟨h1, by simpa using h2, fun x hx => ?_, fun x => ?_, fun x => ?_, fun i hi => ?_, fun a ha hu => ?_, fun x hx => ?_, fun p b hs => ?_, fun h => by cases h⟩
  · exact ((h3 x).1 (by simpa using hx)).1
  · rw [h4, List.nil_append, h3]
    split
    · rename_i h; simp [h]
    · rename_i h; simp [h]
  · rw [h4]; split <;> omega
  · rw [h4]; split <;> omega
  · refine ⟨by simpa using (h3 a).2 ⟨ha, hu⟩, ?_⟩
    rw [h4, if_pos ⟨ha, hu⟩]
  · exact .inl ((h3 x).1 (by simpa using hx)).2
  · cases hs.1
theorem Lv.begin {a : Nat} (h : Lv near n of wi (fun p b => p ∈ P ∧ b ∈ near p) P (a :: T) di fo) : Lv near n of wi (fun p b => p ∈ P ∧ b ∈ near p) (P ++ [a]) T di fo := by
  have e : P ++ a :: T = (P ++ [a]) ++ T := by simp
  obtain ⟨g1, g2, g3, g4, g5, g6, g7, g8, g9, g10⟩ := h
  simp only [e] at g2 g3 g4 g6 g7 g8 g9
  refine ⟨g1, g2, g3, g4, g5, g6, g7, fun x hx => ?_, g9, fun hf => ?_⟩
  · rcases g8 x hx with h | ⟨p, hp, h⟩
    · exact .inl h
    · exact .inr ⟨p, by simp [hp], h⟩
  · obtain ⟨p, hp, h⟩ := g10 hf
    exact ⟨p, by simp [hp], h⟩
theorem Lv.seen_ {seen' : Nat → Nat → Prop} (h : Lv near n of wi seen P T di fo) (hs : ∀ p b, seen' p b → seen p b) : Lv near n of wi seen' P T di fo :=
  ⟨h.len, h.nd, h.lt, h.on, h.lo, h.idx, h.root, h.par, fun p b h' => h.clo p b (hs p b h'), h.fnd⟩
theorem Lv.one {a j : Nat} (hwi : ∀ b ∈ near a, 0 ≤ gi wi b → (gi wi b).toNat < n) (hj : j < (near a).length)
    (h : Lv near n of wi (fun p b => (p ∈ P ∧ b ∈ near p) ∨ (p = a ∧ b ∈ (near a).take j)) (P ++ [a]) T di fo) :
    Lv near n of wi (fun p b => (p ∈ P ∧ b ∈ near p) ∨ (p = a ∧ b ∈ (near a).take (j + 1))) (P ++ [a]) (levB wi a [(near a)[j]] T di fo).1 (levB wi a [(near a)[j]] T di fo).2.1 (levB wi a [(near a)[j]] T di fo).2.2 := by
  have h2 := levB_lv (a := a) (by simp) hwi [(near a)[j]] T di fo _ (fun b hb => by simp only [List.mem_singleton] at hb; subst hb; exact List.getElem_mem hj) h
  refine h2.seen_ fun p b hs => ?_
  rcases hs with hs | ⟨hp, hs⟩
  · exact .inl (.inl hs)
  · rw [List.take_succ_eq_append_getElem hj, List.mem_append] at hs
    rcases hs with hs | hs
    · exact .inl (.inr ⟨hp, hs⟩)
    · exact .inr ⟨hp, hs⟩
theorem levR_len (of : List Int) (n k : Nat) (hk : k ≤ n) : (levR of n k).1.length ≤ k := by
  have h := levR_is of n k hk
  have := nodup_sub_len (b := List.range k) h.nd fun x hx => by simpa using ((h.mem x).1 hx).1
  simpa using this
end
theorem PairA.setD {w : World} {B P G N O W : Nat} {dv : Value} {n m : Nat} {rows : List (List Nat)} {of wi : List Int} (h : PairA w B P G N O W dv n m rows of wi) (v : Value) : PairA (w.setCell ⟨P, 3, none⟩ v) B P G N O W v n m rows of wi := by
  have hu : Upd (fun k => k = P) w (w.setCell ⟨P, 3, none⟩ v) := (Upd.refl (fun k => k = P) w).setCell ⟨P, 3, none⟩ rfl _
  exact ⟨heap_setCell_same w P 3 _ _ v h.blk, h.g.upd hu (by have := h.gB; have := h.pB; omega), h.nr.keep fun p hp => hu.cell (Nat.lt_of_lt_of_le hp h.Blt) (by have := h.pB; omega), h.iof.upd hu (fun e => h.po e.symm), h.iwi.upd hu (fun e => h.pw e.symm), h.gB, h.pB, h.oB, h.wB, h.ow, h.po, h.pw, h.lo, h.lw, h.lr, h.nb, h.wb⟩
/-- The blocks that 'levels' turns: the pairing's own, the row of levels, the queue. -/
def LevS (P D base k : Nat) : Prop := k = P ∨ k = D ∨ base ≤ k
set_option maxHeartbeats 8000000 in
set_option maxRecDepth 20000 in
theorem levels_any (w : World) (B P G N O W n m : Nat) (dv : Value) (rows : List (List Nat)) (of wi : List Int) (hn : n ≤ 200) (hm : m ≤ 200) (hA : PairA w B P G N O W dv n m rows of wi) (hlens : ∀ a, (nearOf rows a).length ≤ 1048576) :
    Calls Tryd.prog 63 #[.pointer (some ⟨P, 0, none⟩)] w fun e w' => ∃ D di fo, e = .returned (.bool fo) ∧ PairA w' B P G N O W (.slice (some ⟨D, 0, none⟩) n n) n m rows of wi ∧ Ints w' D di ∧ LevOut (nearOf rows) n of wi di fo ∧ w.heap.size ≤ D ∧ Upd (fun k => k = P) w w' := by
  have HLN := Lib.hid hlens
  have c0 := hA.c0
  have g1 := hA.g.c1
  clear hlens
  go_enter Tryd.func63, Tryd.ntmps63
  go_wp2_with fail
  refine (none_any _ n hn).mono ?_
  rintro e w1 ⟨D, rfl, hDz, hI1, hb1⟩
  have hu1 : Upd (fun _ => False) w w1 := Upd.of_below hb1
  have hA1 := hA.upd hu1 (fun _ _ h => h) (fun h => h) (fun h => h) (fun h => h)
  have hPD : P ≠ D := by have := hA.plt; omega
  have hOD : O ≠ D := by have := hA.iof.lt; omega
  have hWD : W ≠ D := by have := hA.iwi.lt; omega
  have hBD : B ≤ D := by have := hA.Blt; omega
  have hD1 := hI1.lt
  clear c0 g1
  have q1 := hA1.c1
  have q3 := hA1.c3
  have qf := hA1.free 3
  have hA2 := hA1.setD (.slice (some ⟨D, 0, none⟩) n n)
  have hI2 : Ints (w1.setCell ⟨P, 3, none⟩ (.slice (some ⟨D, 0, none⟩) n n)) D (List.replicate n (-1)) := hI1.upd ((Upd.refl (fun k => k = P) w1).setCell ⟨P, 3, none⟩ rfl _) (fun e => hPD e.symm)
  have hu2 : Upd (LevS P D w1.heap.size) w1 (w1.setCell ⟨P, 3, none⟩ (.slice (some ⟨D, 0, none⟩) n n)) := (Upd.refl _ w1).setCell ⟨P, 3, none⟩ (.inl rfl) _
  have hsz : w1.heap.size ≤ (w1.setCell ⟨P, 3, none⟩ (.slice (some ⟨D, 0, none⟩) n n)).heap.size := hu2.size
  have HA1 := Lib.hid hA1
  have HA := Lib.hid hA
  clear hI1 hA hA1
  obtain ⟨base, hbase⟩ : ∃ base, base = w1.heap.size := ⟨_, rfl⟩
  rw [← hbase] at hsz hu2 hD1
  have HBASE := Lib.hid hbase
  clear hbase
  go_wp2
  generalize w1.setCell ⟨P, 3, none⟩ (.slice (some ⟨D, 0, none⟩) n n) = w2 at hA2 hI2 hu2 hsz ⊢
  clear q1 q3 qf
  go_loopw [27, 3] (fun i vT wx => ∃ k : Nat, k ≤ n ∧ i = .int .i64 k ∧ OwnQ wx base vT (levR of n k).1 ∧ Ints wx D (levR of n k).2 ∧ PairA wx B P G N O W (.slice (some ⟨D, 0, none⟩) n n) n m rows of wi ∧ base ≤ wx.heap.size ∧ Upd (LevS P D base) w1 wx) (fun i _ _ => n - (intOf i).toNat)
  case atStart => exact ⟨0, Nat.zero_le _, rfl, OwnQ.nil, hI2, hA2, hsz, hu2⟩
  case round =>
    obtain ⟨k, hk, rfl, hq, hI, hA, hz, hu⟩ := hrel
    clear hA2 hI2 hu2 hsz
    by_cases hlt : k < n
    · have o0 := hA.iof.cell (k := k) (by rw [hA.lo]; exact hlt)
      have c3 := hA.c3
      have hLR := levR_is of n k hk
      have hll := levR_len of n k hk
      obtain ⟨A', c', rfl⟩ := hq.shape
      obtain ⟨x, hx⟩ : ∃ x, gi of k = x := ⟨_, rfl⟩
      rw [hx] at o0
      by_cases hneg : x < 0
      · have hstep : levR of n (k + 1) = ((levR of n k).1 ++ [k], (levR of n k).2.set k 0) := by rw [levR, if_pos (by rw [hx]; exact hneg)]
        have b1 : decide (x < 0) = true := decide_eq_true hneg
        have d0 := hI.cell (k := k) (by rw [hLR.len]; exact hlt)
        have d1 := hI.free k
        have huD : Upd (fun k => k = D) wr (wr.setCell ⟨D, k, none⟩ (.int .i64 0)) := (Upd.refl (fun k => k = D) wr).setCell ⟨D, k, none⟩ rfl _
        have hI3 := hI.set k 0
        have hA3 := hA.upd huD (fun k hk e => by omega) hPD hOD hWD
        have hq3 := hq.upd huD (fun k hk e => by have := (hq.lt k hk).1; omega)
        have hz3 : base ≤ (wr.setCell ⟨D, k, none⟩ (.int .i64 0)).heap.size := Nat.le_trans hz huD.size
        have hu3 : Upd (LevS P D base) w1 (wr.setCell ⟨D, k, none⟩ (.int .i64 0)) := hu.setCell ⟨D, k, none⟩ (.inr (.inl rfl)) _
        have hqb := hq.lt
        have HST := Lib.hid hstep
        have HI3 := Lib.hid hI3
        have HA3 := Lib.hid hA3
        have HU3 := Lib.hid hu3
        clear hI hA hq hLR hstep hx hI3 hA3 hu3
        have hlen1 : (levR of n k).1.length + 1 ≤ 1048576 := by omega
        go_upto_region 8 with (fail)
        generalize wr.setCell ⟨D, k, none⟩ (.int .i64 0) = wD at huD hq3 hz3 HI3 HA3 HU3 ⊢
        go_wp2_with (at_builtin; refine wpList_pushQ rfl (.tmp 40) (.tmp 42) rfl rfl _ _ k base rfl hq3 rfl hz3 hlen1 ?_)
        intro v4 w4 hq4 hu4
        have hn4 : ∀ j, j < base → ¬ (Value.slice A' (levR of n k).1.length c').ownBlock = some j := fun j hj e => by have := (hqb j e).1; omega
        have hP := HA1.out.plt
        have hO := HA1.out.iof.lt
        have hW := HA1.out.iwi.lt
        rw [← HBASE.out] at hP hO hW
        have hA4 := HA3.out.upd hu4 (fun j hj => hn4 j (by omega)) (hn4 P hP) (hn4 O hO) (hn4 W hW)
        have hI4 := HI3.out.upd hu4 (hn4 D hD1)
        have hu5 : Upd (LevS P D base) w1 w4 := HU3.out.trans hu4 (fun j _ e => .inr (.inr (hqb j e).1))
        have hz4 : base ≤ w4.heap.size := Nat.le_trans hz3 hu4.size
        clear hqb hn4 huD hq3 HI3 HA3 HU3 hu4 c3 d0 d1 o0
        go_wp2
        go_roundw
        case rel => exact ⟨k + 1, by omega, by go_num, by rw [HST.out]; exact hq4, by rw [HST.out]; exact hI4, hA4, hz4, hu5⟩
        case measure => simp [intOf]; omega
      · have hstep : levR of n (k + 1) = levR of n k := by rw [levR, if_neg (by rw [hx]; exact hneg)]
        have b1 : decide (x < 0) = false := decide_eq_false hneg
        have HST := Lib.hid hstep
        clear hstep hx hLR
        go_wp2
        go_roundw
        case rel => exact ⟨k + 1, by omega, by go_num, by rw [HST.out]; exact hq, by rw [HST.out]; exact hI, hA, hz, hu⟩
        case measure => simp [intOf]; omega
    · obtain rfl : n = k := by omega
      have hlv := Lv.start (near := nearOf rows) (n := n) (of := of) (wi := wi)
      have HLV := Lib.hid hlv
      clear hlv
      generalize (levR of n n).1 = T0 at hq HLV
      generalize (levR of n n).2 = di0 at hI HLV
      have b1 : decide ((n : Int) < (n : Int)) = false := decide_eq_false (by omega)
      have hPb := HA1.out.plt
      have hOb := HA1.out.iof.lt
      have hWb := HA1.out.iwi.lt
      rw [← HBASE.out] at hPb hOb hWb
      go_wp2
      go_loopg [3, 6] n (fun gk vT vf wx => ∃ (Pd T : List Nat) (di : List Int) (fo : Bool), gk + Pd.length = n ∧ Hid (Lv (nearOf rows) n of wi (fun p b => p ∈ Pd ∧ b ∈ nearOf rows p) Pd T di fo) ∧ vf = .bool fo ∧ OwnQ wx base vT T ∧ Ints wx D di ∧ PairA wx B P G N O W (.slice (some ⟨D, 0, none⟩) n n) n m rows of wi ∧ base ≤ wx.heap.size ∧ Upd (LevS P D base) w1 wx)
      case atStart => exact ⟨[], T0, di0, false, by simp, HLV.out, rfl, hq, hI, hA, hz, hu⟩
      case round =>
        clear hq hI hA hu hz b1 HLV
        obtain ⟨Pd, T, di, fo, hgk, HLV, rfl, hq, hI, hA, hz, hu⟩ := hrel
        cases T with
        | nil =>
          obtain ⟨A', c', rfl⟩ := hq.shape
          have hout := HLV.out.out
          have huF : Upd (fun k => k = P) w wr := (hu1.mono (S' := fun k => k = P) (fun _ _ h => h.elim)).trans hu (fun j hj h => by
            have h1 := hb1.size
            have h2 := HBASE.out
            rcases h with h | h | h
            · exact h
            · omega
            · omega)
          have HO := Lib.hid hout
          clear hu1 hb1 hu hq HLV hout
          go_wp2
          go_ret
          exact ⟨D, di, fo, rfl, hA, hI, HO.out, hDz, huF⟩
        | cons a T =>
          have hcnt := HLV.out.count
          simp only [List.length_cons] at hcnt
          have hbeg := Lib.hid HLV.out.begin
          have han : a < n := HLV.out.lt a (by simp)
          obtain ⟨A', c', rfl⟩ := hq.shape
          obtain ⟨g, off, rfl, hnl, hc1, hcell, hgb, hgl, hq1, hq2⟩ := hq.head
          have c0 := hA.c0
          have g0 := hA.g.c0
          obtain ⟨A, c, hcN, hrow⟩ := hA.near han
          have HROW := Lib.hid hrow
          obtain ⟨L, hL⟩ : ∃ L, L = (nearOf rows a).length := ⟨_, rfl⟩
          have hlen := HLN.out a
          rw [← hL] at hcN hlen
          have HL := Lib.hid hL
          have HQ1 := Lib.hid hq1
          have HQ2 := Lib.hid hq2
          have HA := Lib.hid hA
          have HI := Lib.hid hI
          have HU := Lib.hid hu
          clear hrow hL hq hA hI hu hq1 hq2
          rw [List.length_cons]
          go_upto_region 13 with (fail)
          go_cut [3] (fun v3 wc => wc = wr ∧ Hid (OwnQ wr base v3 T))
          case first =>
            by_cases hc : c' = 1
            · have hq := Lib.hid (HQ1.out hc)
              clear HQ1 HQ2
              go_wp2
              all_goals go_meet
              all_goals (case rel => exact ⟨rfl, hq⟩)
            · have hq := HQ2
              clear HQ1 HQ2
              go_wp2
              all_goals go_meet
              all_goals (case rel => exact ⟨rfl, hq⟩)
          case rest =>
            obtain ⟨rfl, hq⟩ := hcut
            clear HQ1 HQ2
            have HB0 := hbeg
            go_wp2
            go_loopw [64, 3, 6] (fun i vT vf wx => ∃ (j : Nat) (T : List Nat) (di : List Int) (fo : Bool), j ≤ L ∧ i = .int .i64 j ∧ Hid (Lv (nearOf rows) n of wi (fun p b => (p ∈ Pd ∧ b ∈ nearOf rows p) ∨ (p = a ∧ b ∈ (nearOf rows a).take j)) (Pd ++ [a]) T di fo) ∧ vf = .bool fo ∧ OwnQ wx base vT T ∧ Ints wx D di ∧ PairA wx B P G N O W (.slice (some ⟨D, 0, none⟩) n n) n m rows of wi ∧ base ≤ wx.heap.size ∧ Upd (LevS P D base) wc wx) (fun i _ _ _ => L - (intOf i).toNat)
            case atStart => exact ⟨0, T, di, fo, Nat.zero_le _, rfl, Lib.hid (HB0.out.seen_ fun p b h => by
              rcases h with h | ⟨_, h⟩
              · exact h
              · simp at h), rfl, hq.out, HI.out, HA.out, hz, Upd.refl _ _⟩
            case round =>
              have HHI := HI
              have HHA := HA
              clear HI HA hq hbeg HB0 HLV c0 g0 hcell hcN
              obtain ⟨j, T', di', fo', hj, rfl, HLV, rfl, hq, hI, hA, hz', hu⟩ := hrel
              by_cases hlt : j < L
              · have hlt' : j < (nearOf rows a).length := by rw [← HL.out]; exact hlt
                obtain ⟨g2, hAg, hgB, hcell⟩ := HROW.out j hlt'
                subst hAg
                obtain ⟨b, hb⟩ : ∃ b, (nearOf rows a)[j] = b := ⟨_, rfl⟩
                have hbm : b < m := hA.nb a b (by rw [← hb]; exact List.getElem_mem hlt')
                have hone := HLV.out.one (fun c _ h0 => by have := hA.wb c h0; omega) hlt'
                rw [hb] at hcell hone
                have hnS : ∀ k, k < B → ¬ LevS P D base k := by
                  intro k hk e
                  have := HHA.out.pB
                  rcases e with e | e | e <;> omega
                have hcB : wr.cell? ⟨g2, j, none⟩ = some (.int .i64 (b : Int)) := (hu.cell (p := ⟨g2, j, none⟩) (Nat.lt_of_lt_of_le hgB HHA.out.Blt) (hnS _ hgB)).trans hcell
                have hwb := hA.iwi.cell (k := b) (by rw [hA.lw]; exact hbm)
                have c2 := hA.c2
                obtain ⟨A', c', rfl⟩ := hq.shape
                obtain ⟨x, hx⟩ : ∃ x, gi wi b = x := ⟨_, rfl⟩
                rw [hx] at hwb
                by_cases hneg : x < 0
                · have hst : levB wi a [b] T' di' fo' = (T', di', true) := by rw [levB, if_pos (by rw [hx]; exact hneg), levB]
                  rw [hst] at hone
                  have HO := Lib.hid hone
                  have b1 : decide (x < 0) = true := decide_eq_true hneg
                  clear hone hst hb hx hcell HLV
                  go_wp2
                  go_roundw
                  case rel => exact ⟨j + 1, T', di', true, by omega, by go_num, HO, rfl, hq, hI, hA, hz', hu⟩
                  case measure => simp [intOf]; omega
                · have b1 : decide (x < 0) = false := decide_eq_false hneg
                  obtain ⟨q, rfl⟩ : ∃ q : Nat, x = (q : Int) := ⟨x.toNat, by omega⟩
                  have hqn : q < n := by have := hA.wb b (by omega); omega
                  have hqt : (gi wi b).toNat = q := by omega
                  have c3 := hA.c3
                  have hlen' : di'.length = n := HLV.out.len
                  have dq := hI.cell (k := q) (by omega)
                  obtain ⟨y, hy⟩ : ∃ y, gi di' q = y := ⟨_, rfl⟩
                  rw [hy] at dq
                  by_cases hyn : y < 0
                  · have hst : levB wi a [b] T' di' fo' = (T' ++ [q], di'.set q (gi di' a + 1), fo') := by rw [levB, if_neg (by rw [hx]; exact hneg), hqt, if_pos (by rw [hy]; exact hyn), levB]
                    rw [hst] at hone
                    have hza : 0 ≤ gi di' a := (HLV.out.on a).2 (by simp)
                    have hzb := HLV.out.hi a
                    have hct := HLV.out.count
                    rw [List.length_append] at hct
                    have da := hI.cell (k := a) (by omega)
                    obtain ⟨z, hz0⟩ : ∃ z, gi di' a = z := ⟨_, rfl⟩
                    rw [hz0] at da hza hzb hone
                    have hwz : IntKind.i64.wrap (z + 1) = z + 1 := IntWalk.i64_in _ (by omega)
                    have HO := Lib.hid hone
                    have b2 : decide (y < 0) = true := decide_eq_true hyn
                    have hqb := hq.lt
                    clear hone hst hb hx hcell HLV hy hqt hz0
                    go_wp2
                    go_still_tail 13, (by kernel_rfl)
                    change wpList _ _ _ _ _ wr.drew
                    have hAd := hA.drew
                    have hId : Ints wr.drew D di' := hI
                    have hqd := hq.upd (S := fun _ => False) (w' := wr.drew) ((Upd.refl _ wr).drewN 1) (fun _ _ h => h)
                    have hud : Upd (LevS P D base) wc wr.drew := hu.drewN 1
                    have hzd : base ≤ wr.drew.heap.size := hz'
                    have hqb' : ∀ k, (Value.slice A' T'.length c').ownBlock = some k → base ≤ k ∧ k < wr.drew.heap.size := hqb
                    clear hA hI hq hu c2 c3 dq da hcB hwb hz' hqb
                    generalize wr.drew = wd at hAd hId hqd hud hzd hqb' ⊢
                    have d0 := hId.cell (k := q) (by omega)
                    have d1 := hId.free q
                    have huD : Upd (fun k => k = D) wd (wd.setCell ⟨D, q, none⟩ (.int .i64 (z + 1))) := (Upd.refl (fun k => k = D) wd).setCell ⟨D, q, none⟩ rfl _
                    have hIs := hId.set q (z + 1)
                    have hAs := hAd.upd huD (fun k hk e => by omega) hPD hOD hWD
                    have hqs := hqd.upd huD (fun k hk e => by have := (hqb' k hk).1; omega)
                    have hzs : base ≤ (wd.setCell ⟨D, q, none⟩ (.int .i64 (z + 1))).heap.size := Nat.le_trans hzd huD.size
                    have hus : Upd (LevS P D base) wc (wd.setCell ⟨D, q, none⟩ (.int .i64 (z + 1))) := hud.setCell ⟨D, q, none⟩ (.inr (.inl rfl)) _
                    have hlen1 : T'.length + 1 ≤ 1048576 := by omega
                    clear hId hAd hqd hud hzd huD
                    go_upto_region 22 with (fail)
                    generalize wd.setCell ⟨D, q, none⟩ (.int .i64 (z + 1)) = wS at hIs hAs hqs hzs hus ⊢
                    go_wp2_with (at_builtin; refine wpList_pushQ rfl (.tmp 99) (.tmp 101) rfl rfl _ _ q base rfl hqs rfl hzs hlen1 ?_)
                    intro v4 w4 hq4 hu4
                    have hn4 : ∀ j, j < base → ¬ (Value.slice A' T'.length c').ownBlock = some j := fun j hj e => by have := (hqb' j e).1; omega
                    have hA4 := hAs.upd hu4 (fun j hj => hn4 j (by omega)) (hn4 P hPb) (hn4 O hOb) (hn4 W hWb)
                    have hI4 := hIs.upd hu4 (hn4 D hD1)
                    have hu5 : Upd (LevS P D base) wc w4 := hus.trans hu4 (fun j _ e => .inr (.inr (hqb' j e).1))
                    have hz4 : base ≤ w4.heap.size := Nat.le_trans hzs hu4.size
                    clear hqb' hn4 hqs hIs hAs hus hu4 d0 d1
                    go_wp2
                    go_roundw
                    case rel => exact ⟨j + 1, T' ++ [q], di'.set q (z + 1), fo', by omega, by go_num, HO, rfl, hq4, hI4, hA4, hz4, hu5⟩
                    case measure => simp [intOf]; omega
                  · have hst : levB wi a [b] T' di' fo' = (T', di', fo') := by rw [levB, if_neg (by rw [hx]; exact hneg), hqt, if_neg (by rw [hy]; exact hyn), levB]
                    rw [hst] at hone
                    have HO := Lib.hid hone
                    have b2 : decide (y < 0) = false := decide_eq_false hyn
                    clear hone hst hb hx hcell HLV hy hqt
                    go_wp2
                    go_roundw
                    case rel => exact ⟨j + 1, T', di', fo', by omega, by go_num, HO, rfl, hq, hI, hA, hz', hu⟩
                    case measure => simp [intOf]; omega
              · obtain rfl : j = L := by omega
                have hend : Hid (Lv (nearOf rows) n of wi (fun p b => p ∈ Pd ++ [a] ∧ b ∈ nearOf rows p) (Pd ++ [a]) T' di' fo') := Lib.hid (HLV.out.seen_ fun p b h => by
                  rw [HL.out, List.take_length]
                  rcases List.mem_append.1 h.1 with h1 | h1
                  · exact .inl ⟨h1, h.2⟩
                  · simp only [List.mem_singleton] at h1
                    subst h1
                    exact .inr ⟨rfl, h.2⟩)
                have hu' := HU.out.trans hu (fun _ _ h => h)
                clear HLV hu
                go_wp2
                go_roundg (gk - 1)
                case measure => omega
                case rel => exact ⟨Pd ++ [a], T', di', fo', by simp; omega, hend, rfl, hq, hI, hA, hz', hu'⟩
end Go.Proofs.YtegpanfcjfcaeaaDoor
/- Matchings: solve, walked. -/
namespace Go.Proofs.YtegpanfcjfcaeaaDoor
open Go.RowKit
theorem okE_all {n m : Nat} {l : List Eg} (h : okE n m l l.length) : ∀ e ∈ l, inE n m e := by
  intro e he
  obtain ⟨i, hi, rfl⟩ := List.getElem_of_mem he
  exact h i hi hi
theorem natE_ok {n m : Nat} {l : List Eg} (h : ∀ e ∈ l, inE n m e) : ∀ p ∈ natE l, p.1 < n ∧ p.2 < m := by
  intro p hp
  obtain ⟨e, he, rfl⟩ := List.mem_map.1 hp
  obtain ⟨h1, h2, h3, h4⟩ := h e he
  constructor
  · show e.1.toNat < n; omega
  · show e.2.toNat < m; omega
/-- What the search leaves behind. -/
def SolveRet (w : World) (n m : Nat) (l : List Eg) (e : Ending) (w' : World) : Prop :=
  ∃ B P G N O W D s, e = .returned (.tuple #[.pointer (some ⟨P, 0, none⟩), .int .i64 0]) ∧ w.heap.size ≤ B ∧ PairA w' B P G N O W (.slice (some ⟨D, 0, none⟩) n n) n m (rowsOf n l) s.of s.wi ∧ SolveOut (natE l) n m s ∧ (∀ e ∈ l, inE n m e) ∧ Below w.heap.size w w'
def SolveAnsM (w : World) (n m : Nat) (l : List Eg) (e : Ending) (w' : World) : Prop :=
  SolveRet w n m l e w' ∨ (e = .returned (.tuple #[.pointer none, .int .i64 19]) ∧ (∃ x ∈ l, ¬ inE n m x) ∧ Below w.heap.size w w')
theorem solve_sizeM (w : World) (n m : Int) (A : Option Addr) (k c : Nat) (hs : ¬ ((0 ≤ n ∧ n ≤ 200) ∧ (0 ≤ m ∧ m ≤ 200) ∧ k ≤ 4000)) :
    Calls Tryd.prog 39 #[.int .i64 n, .int .i64 m, .slice A k c] w fun e w' => e = .returned (.tuple #[.pointer none, .int .i64 19]) ∧ w' = w := by
  go_enter Tryd.func39, Tryd.ntmps39
  go_wp2_with fail
  refine (newg_size _ n m A k c hs).mono ?_
  rintro e w1 ⟨rfl, rfl⟩
  go_wp2
  go_ret2
  exact ⟨rfl, rfl⟩
theorem drop_range {n j : Nat} (h : j < n) : (List.range n).drop j = j :: (List.range n).drop (j + 1) := by
  rw [List.drop_eq_getElem_cons (by simpa using h)]
  simp
/-- A round of the search, as it stands. -/
structure SolveSt (l : List Eg) (n m : Nat) (gk : Nat) (s : PSt) : Prop where
  pairs : Pairs (natE l) n m (gi s.of) (gi s.wi)
  lowo : ∀ x, -1 ≤ gi s.of x
  left : n < gk + matched n (gi s.of)
set_option maxHeartbeats 8000000 in
set_option maxRecDepth 20000 in
theorem solve_anyM (w : World) (n m : Nat) (A : Option Addr) (k c : Nat) (l : List Eg) (hr : Rd w w.heap.size 2 A k (edgv l)) (hk : k ≤ 4000) (hn : n ≤ 200) (hm : m ≤ 200) :
    Calls Tryd.prog 39 #[.int .i64 n, .int .i64 m, .slice A k c] w (SolveAnsM w n m l) := by
  have hkl := rd_edglen hr
  have HLENS : Hid (∀ a, (nearOf (rowsOf n l) a).length ≤ 1048576) := Lib.hid fun a => by have := near_len n a l.length l rfl; omega
  clear hkl
  go_enter Tryd.func39, Tryd.ntmps39
  go_wp2_with fail
  refine (newg_any _ n m A k c l hr hk hn hm).mono ?_
  rintro e w1 (⟨N, G, vs, rfl, hNz, hGz, hN, hG, hok, hb1⟩ | ⟨rfl, hbad, hb1⟩)
  · have hall := okE_all hok
    have hE := natE_ok hall
    have hbE := mem_near n m l.length l rfl hall
    have hNR := hN.read
    have hNlt := hN.lt
    have hGlt := hG.lt
    have hlr := rowsOf_len n l
    have HALL := Lib.hid hall
    have HE := Lib.hid hE
    have HBE := Lib.hid hbE
    have HLR := Lib.hid hlr
    clear hr hN hok hall hE hbE hlr
    go_wp2_with fail
    refine (none_any _ n hn).mono ?_
    rintro e w2 ⟨O, rfl, hOz, hO, hb2⟩
    go_wp2_with fail
    refine (none_any _ m hm).mono ?_
    rintro e w3 ⟨W, rfl, hWz, hW, hb3⟩
    have hOlt := hO.lt
    have hWlt := hW.lt
    have u2 : Upd (fun _ => False) w1 w2 := Upd.of_below hb2
    have u3 : Upd (fun _ => False) w2 w3 := Upd.of_below hb3
    have u4 : Upd (fun _ => False) w3 (w3.alloc (.cells #[.pointer (some ⟨G, 0, none⟩), .slice (some ⟨O, 0, none⟩) n n, .slice (some ⟨W, 0, none⟩) m m, .slice none 0 0] 93)) := (Upd.refl _ w3).alloc _
    have u14 := (u2.trans u3 (fun _ _ h => h)).trans u4 (fun _ _ h => h)
    have hA : PairA (w3.alloc (.cells #[.pointer (some ⟨G, 0, none⟩), .slice (some ⟨O, 0, none⟩) n n, .slice (some ⟨W, 0, none⟩) m m, .slice none 0 0] 93)) w1.heap.size w3.heap.size G N O W (.slice none 0 0) n m (rowsOf n l) (List.replicate n (-1)) (List.replicate m (-1)) :=
      ⟨heap_alloc_new w3 _, hG.upd u14 (fun h => h), hNR.keep fun p hp => u14.cell hp (fun h => h), (hO.upd u3 (fun h => h)).upd u4 (fun h => h), hW.upd u4 (fun h => h), hGlt, by have := u2.size; have := u3.size; omega, hOz, by have := u2.size; omega, by omega, by have := u3.size; omega, by omega, by simp, by simp, HLR.out,
        fun a b h => (HE.out _ ((HBE.out a b).1 h)).2, fun b h => by rw [gi_rep] at h; omega⟩
    have hbel : Below w.heap.size w (w3.alloc (.cells #[.pointer (some ⟨G, 0, none⟩), .slice (some ⟨O, 0, none⟩) n n, .slice (some ⟨W, 0, none⟩) m m, .slice none 0 0] 93)) := hb1.trans (u14.below (fun _ _ h => h) hb1.size)
    have hwB : w.heap.size ≤ w1.heap.size := hb1.size
    have HA := Lib.hid hA
    clear hb1 hb2 hb3 u2 u3 u4 u14 hO hW hG hNR hA hNz hGz hNlt hGlt hOz hWz hOlt hWlt
    generalize w1.heap.size = B at HA hwB
    go_wp2
    generalize w3.alloc (.cells #[.pointer (some ⟨G, 0, none⟩), .slice (some ⟨O, 0, none⟩) n n, .slice (some ⟨W, 0, none⟩) m m, .slice none 0 0] 93) = w4 at HA hbel ⊢
    generalize w3.heap.size = P at HA ⊢
    go_loopg [] (n + 1) (fun gk wx => ∃ (s : PSt) (dv : Value), PairA wx B P G N O W dv n m (rowsOf n l) s.of s.wi ∧ SolveSt l n m gk s ∧ Below w.heap.size w wx)
    case atStart => exact ⟨⟨_, _, []⟩, _, HA.out, ⟨pairs_none, fun x => by rw [gi_rep]; omega, by omega⟩, hbel⟩
    case round =>
      obtain ⟨s, dv, hA, hS, hb⟩ := hrel
      clear hbel HA
      go_wp2_with fail
      refine (levels_any _ B P G N O W n m dv (rowsOf n l) s.of s.wi hn hm hA HLENS.out).mono ?_
      rintro e w5 ⟨D, di, fo, rfl, hA5, hI5, hlev, hDz, hu5⟩
      have hPB := hA.pB
      have hplt := hA.plt
      have holt := hA.iof.lt
      have hwlt := hA.iwi.lt
      have hBlt := hA.Blt
      have hOB := hA.oB
      have hWB := hA.wB
      have hb5 : Below w.heap.size w w5 := hb.trans (hu5.below (fun j hj e => by omega) hb.size)
      clear hA hu5 hb
      cases fo with
      | false =>
        have hret : SolveOut (natE l) n m ⟨s.of, s.wi, di⟩ := ⟨hS.pairs, hA5.lo, hA5.lw, hlev.len, hS.lowo, fun a ha hu => by
          show 0 ≤ gi di a
          rw [hlev.root a ha hu]; exact Int.le_refl _, fun p hp hz => hlev.no rfl p.1 p.2 ((HBE.out _ _).2 hp) hz⟩
        have HR : Hid (SolveAnsM w n m l (.returned (.tuple #[.pointer (some ⟨P, 0, none⟩), .int .i64 0])) w5) := Lib.hid (.inl ⟨B, P, G, N, O, W, D, ⟨s.of, s.wi, di⟩, rfl, hwB, hA5, hret, HALL.out, hb5⟩)
        clear hret hS hlev hA5 hI5 hb5
        go_wp2
        go_ret2
        exact HR.out
      | true =>
        obtain ⟨a0, ha0, hu0, hgood⟩ := hlev.yes rfl
        have hg : Gin (natE l) (nearOf (rowsOf n l)) n m n ⟨s.of, s.wi, di⟩ := ⟨hS.pairs, hA5.lo, hA5.lw, hlev.len, fun x => by have := hlev.lo x; show -2 ≤ gi di x; omega, hlev.hi⟩
        obtain ⟨s9, hph, hg9, hlo9, hm9⟩ := phase_more (fun a b h => (HBE.out a b).1 h) HE.out hg hS.lowo hlev.root a0 hu0 hgood (List.range n) ⟨s.of, s.wi, di⟩ List.nodup_range (by simpa using ha0) (fun a h => by simpa using h) (Dead.refl _ _) (fun _ _ _ => rfl)
        have hm9' : matched n (gi s.of) + 1 ≤ matched n (gi s9.of) := hm9
        have hS9 : SolveSt l n m (gk - 1) s9 ∧ gk - 1 < gk := by
          have hmn : matched n (gi s9.of) ≤ n := by
            have := List.length_filter_le (fun a => decide (0 ≤ gi s9.of a)) (List.range n)
            rw [List.length_range] at this
            exact this
          have := hS.left
          exact ⟨⟨hg9.pairs, hlo9, by omega⟩, by omega⟩
        have hD : PairD w5 B P O W D n di := ⟨hI5, by omega, by omega, by omega, by omega, hlev.len, fun x => by have := hlev.lo x; have := hlev.hi x; omega⟩
        have HS9 := Lib.hid hS9
        have HPH := Lib.hid hph
        have hDw : w.heap.size ≤ D := by omega
        have c1 := hA5.c1
        have HA5 := Lib.hid hA5
        have HD := Lib.hid hD
        have HB5 := Lib.hid hb5
        clear hS9 hph hg9 hlo9 hm9 hm9' hg hgood hu0 ha0 hS hlev hI5 hA5 hD hb5
        go_wp2
        go_loopw [36] (fun i wx => ∃ (j : Nat) (s' : PSt), j ≤ n ∧ i = .int .i64 j ∧ Hid (phaseF (nearOf (rowsOf n l)) (n + 2) ((List.range n).drop j) s' = some s9) ∧ PairA wx B P G N O W (.slice (some ⟨D, 0, none⟩) n n) n m (rowsOf n l) s'.of s'.wi ∧ PairD wx B P O W D n s'.di ∧ Below w.heap.size w wx) (fun i _ => n - (intOf i).toNat)
        case atStart => exact ⟨0, ⟨s.of, s.wi, di⟩, Nat.zero_le _, rfl, Lib.hid (by rw [List.drop_zero]; exact HPH.out), HA5.out, HD.out, HB5.out⟩
        case round =>
          clear HA5 HD HB5 HPH c1
          obtain ⟨j, s', hj, rfl, hph, hA, hD, hb⟩ := hrel
          by_cases hlt : j < n
          · have hph' := hph.out
            rw [drop_range hlt, phaseF] at hph'
            have c1 := hA.c1
            have o0 := hA.iof.cell (k := j) (by rw [hA.lo]; exact hlt)
            obtain ⟨x, hx⟩ : ∃ x, gi s'.of j = x := ⟨_, rfl⟩
            rw [hx] at o0 hph'
            by_cases hneg : x < 0
            · rw [if_pos hneg] at hph'
              obtain ⟨rr, hgr, hnext⟩ : ∃ rr, growF (nearOf (rowsOf n l)) (n + 2) j s' = some rr ∧ phaseF (nearOf (rowsOf n l)) (n + 2) ((List.range n).drop (j + 1)) rr.2 = some s9 := by
                cases hq : growF (nearOf (rowsOf n l)) (n + 2) j s' with
                | none => rw [hq] at hph'; cases hph'
                | some rr => rw [hq] at hph'; exact ⟨rr, rfl, hph'⟩
              have HC := Lib.hid (grow_any B P G N O W D n m (rowsOf n l) hn hm (n + 2) wr j s' rr hgr hlt (HLENS.out j) hA hD HLENS.out)
              have HN := Lib.hid hnext
              have hDB := hD.dB
              have b1 : decide (x < 0) = true := decide_eq_true hneg
              clear hph hph' hA hD hx hgr hnext
              go_wp2_with fail
              refine HC.out.mono ?_
              rintro e w6 ⟨rfl, hA6, hD6, hu6⟩
              have hb6 : Below w.heap.size w w6 := hb.trans (hu6.below (fun j hj e => by rcases e with e | e | e <;> omega) hb.size)
              clear hb hu6 HC c1 o0
              go_wp2
              go_roundw
              case rel => exact ⟨j + 1, rr.2, by omega, by go_num, HN, hA6, hD6, hb6⟩
              case measure => simp [intOf]; omega
            · rw [if_neg hneg] at hph'
              have HN := Lib.hid hph'
              have b1 : decide (x < 0) = false := decide_eq_false hneg
              clear hph hph' hx
              go_wp2
              go_roundw
              case rel => exact ⟨j + 1, s', by omega, by go_num, HN, hA, hD, hb⟩
              case measure => simp [intOf]; omega
          · have hjn : j = n := by omega
            have hph' := hph.out
            rw [hjn, List.drop_of_length_le (by simp), phaseF] at hph'
            injection hph' with hph'
            subst hph'
            clear hph
            go_wp2
            go_roundg (gk - 1)
            case measure => exact HS9.out.2
            case rel => exact ⟨s', _, hA, HS9.out.1, hb⟩
  · clear hr
    have HB := Lib.hid hbad
    clear hbad
    go_wp2
    go_ret2
    exact .inr ⟨rfl, HB.out, hb1⟩
end Go.Proofs.YtegpanfcjfcaeaaDoor
/- Matchings: places, Max, Size, walked. -/
namespace Go.Proofs.YtegpanfcjfcaeaaDoor
open Go.RowKit
theorem good_iff {n m : Nat} {l : List Eg} (hn : n ≤ 200) (hm : m ≤ 200) (hl : l.length ≤ 4000) : GoodG n m l ↔ ∀ e ∈ l, inE n m e := by
  unfold GoodG inE
  constructor
  · rintro ⟨_, _, _, h⟩ e he
    obtain ⟨⟨a, b⟩, c, d⟩ := h e he
    exact ⟨a, b, c, d⟩
  · intro h
    refine ⟨⟨by omega, by omega⟩, ⟨by omega, by omega⟩, hl, fun e he => ?_⟩
    obtain ⟨a, b, c, d⟩ := h e he
    exact ⟨⟨a, b⟩, c, d⟩
/-- 'solve', of whatever graph. -/
theorem solve_all (w : World) (n m : Int) (A : Option Addr) (k c : Nat) (l : List Eg) (hr : Rd w w.heap.size 2 A k (edgv l)) :
    Calls Tryd.prog 39 #[.int .i64 n, .int .i64 m, .slice A k c] w fun e w' =>
      (∃ n0 m0 : Nat, n = n0 ∧ m = m0 ∧ n0 ≤ 200 ∧ m0 ≤ 200 ∧ k ≤ 4000 ∧ GoodG n m l ∧ SolveRet w n0 m0 l e w') ∨ (¬ GoodG n m l ∧ e = .returned (.tuple #[.pointer none, .int .i64 19]) ∧ Below w.heap.size w w') := by
  have hkl := rd_edglen hr
  by_cases hs : (0 ≤ n ∧ n ≤ 200) ∧ (0 ≤ m ∧ m ≤ 200) ∧ k ≤ 4000
  · obtain ⟨⟨h1, h2⟩, ⟨h3, h4⟩, h5⟩ := hs
    obtain ⟨n0, rfl⟩ : ∃ n0 : Nat, n = n0 := ⟨n.toNat, by omega⟩
    obtain ⟨m0, rfl⟩ : ∃ m0 : Nat, m = m0 := ⟨m.toNat, by omega⟩
    have hg := good_iff (n := n0) (m := m0) (l := l) (by omega) (by omega) (by omega)
    refine (solve_anyM w n0 m0 A k c l hr h5 (by omega) (by omega)).mono ?_
    rintro e w' (h | ⟨h6, ⟨x, hx, hx2⟩, h7⟩)
    · obtain ⟨_, _, _, _, _, _, _, _, _, _, _, _, hall, _⟩ := id h
      exact .inl ⟨n0, m0, rfl, rfl, by omega, by omega, h5, hg.2 hall, h⟩
    · exact .inr ⟨fun h => hx2 (hg.1 h x hx), h6, h7⟩
  · refine (solve_sizeM w n m A k c hs).mono ?_
    rintro e w' ⟨h1, rfl⟩
    exact .inr ⟨fun h => hs ⟨h.1, h.2.1, by have := h.2.2.1; omega⟩, h1, Below.refl _ _⟩
theorem placesN_take (l : List Int) (v : Int) : placesN l v = (List.range l.length).filter (fun x => decide (gi l x = v)) := rfl
def placesTo (l : List Int) (v : Int) (k : Nat) : List Nat := (List.range k).filter (fun x => decide (gi l x = v))
theorem placesTo_succ (l : List Int) (v : Int) (k : Nat) : placesTo l v (k + 1) = placesTo l v k ++ (if gi l k = v then [k] else []) := by
  unfold placesTo
  rw [List.range_succ, List.filter_append]
  congr 1
  by_cases h : gi l k = v <;> simp [h]
theorem placesTo_len (l : List Int) (v : Int) (k : Nat) : (placesTo l v k).length ≤ k := by
  have := List.length_filter_le (fun x => decide (gi l x = v)) (List.range k)
  rw [List.length_range] at this
  exact this
set_option maxHeartbeats 4000000 in
set_option maxRecDepth 20000 in
theorem places_any (w : World) (g n : Nat) (l : List Int) (x : Int) (hI : Ints w g l) (hl : l.length = n) (hn : n ≤ 200) :
    Calls Tryd.prog 40 #[.slice (some ⟨g, 0, none⟩) n n, .int .i64 x] w fun e w' => ∃ v, e = .returned v ∧ OwnQ w' w.heap.size v (placesN l x) ∧ Below w.heap.size w w' := by
  have hgl := hI.lt
  have HL := Lib.hid hl
  clear hl
  go_enter Tryd.func40, Tryd.ntmps40
  go_wp2
  go_loopw [10, 5] (fun i vT wx => ∃ k : Nat, k ≤ n ∧ i = .int .i64 k ∧ OwnQ wx w.heap.size vT (placesTo l x k) ∧ Below w.heap.size w wx) (fun i _ _ => n - (intOf i).toNat)
  case atStart => exact ⟨0, Nat.zero_le _, rfl, OwnQ.nil, Below.refl _ _⟩
  case round =>
    obtain ⟨k, hk, rfl, hq, hb⟩ := hrel
    by_cases hlt : k < n
    · have c0 := (hI.below hb hgl).cell (k := k) (by rw [HL.out]; exact hlt)
      have hst := placesTo_succ l x k
      have hln := placesTo_len l x k
      obtain ⟨A', c', rfl⟩ := hq.shape
      obtain ⟨y, hy⟩ : ∃ y, gi l k = y := ⟨_, rfl⟩
      rw [hy] at c0 hst
      have hz := hb.size
      have hqb := hq.lt
      clear hy
      by_cases hxy : x = y
      · have b1 : (x == y) = true := by rw [hxy]; simp
        rw [if_pos hxy.symm] at hst
        have HST := Lib.hid hst
        have hlen1 : (placesTo l x k).length + 1 ≤ 1048576 := by omega
        clear hst hxy
        go_wp2_with (at_builtin; refine wpList_pushQ rfl (.tmp 18) (.tmp 20) rfl rfl _ _ k w.heap.size rfl hq rfl hz hlen1 ?_)
        intro v4 w4 hq4 hu4
        have hb4 : Below w.heap.size w w4 := hb.trans (hu4.below (fun j hj e => by have := (hqb j e).1; omega) hz)
        clear hqb hu4 hq
        go_wp2
        go_roundw
        case rel => exact ⟨k + 1, by omega, by go_num, by rw [HST.out]; exact hq4, hb4⟩
        case measure => simp [intOf]; omega
      · have b1 : (x == y) = false := beq_eq_false_iff_ne.2 hxy
        rw [if_neg (fun e => hxy e.symm), List.append_nil] at hst
        have HST := Lib.hid hst
        clear hst hxy
        go_wp2
        go_roundw
        case rel => exact ⟨k + 1, by omega, by go_num, by rw [HST.out]; exact hq, hb⟩
        case measure => simp [intOf]; omega
    · obtain rfl : n = k := by omega
      have hq' : OwnQ wr w.heap.size u5 (placesN l x) := by
        rw [placesN_take, HL.out]; exact hq
      clear hq
      go_wp2
      go_ret
      exact ⟨_, rfl, hq', hb⟩
theorem matched_places {n : Nat} {of : List Int} (hl : of.length = n) (ho : ∀ x, -1 ≤ gi of x) : (placesN of (-1)).length + matched n (gi of) = n := by
  have h := len_parts (fun a => decide (0 ≤ gi of a)) (List.range n)
  rw [List.length_range] at h
  have e : (List.range n).filter (fun a => !decide (0 ≤ gi of a)) = placesN of (-1) := by
    unfold placesN
    rw [hl]
    refine List.filter_congr fun a _ => ?_
    have := ho a
    by_cases h1 : gi of a = -1
    · simp [h1]
    · have : 0 ≤ gi of a := by omega
      simp [h1, this]
  rw [e] at h
  unfold matched
  omega
set_option maxHeartbeats 4000000 in
theorem size_any (w : World) (n m : Int) (A : Option Addr) (k c : Nat) (l : List Eg) (hr : Rd w w.heap.size 2 A k (edgv l)) :
    Calls Tryd.prog 19 #[.int .i64 n, .int .i64 m, .slice A k c] w fun e w' =>
      ((GoodG n m l ∧ ∃ nu : Nat, NuIs (natE l) nu ∧ nu ≤ 200 ∧ e = .returned (.tuple #[.int .i64 nu, .int .i64 0])) ∨ (¬ GoodG n m l ∧ e = .returned (.tuple #[.int .i64 0, .int .i64 19]))) ∧ Below w.heap.size w w' := by
  go_enter Tryd.func19, Tryd.ntmps19
  go_wp2_with fail
  refine (solve_all _ n m A k c l hr).mono ?_
  rintro e w1 (⟨n0, m0, rfl, rfl, hn, hm, hk, hg, B, P, G, N, O, W, D, s, rfl, hwB, hA, hS, hall, hb⟩ | ⟨hng, rfl, hb⟩)
  · have c1 := hA.c1
    have hnu := hS.nu (natE_ok hall)
    have hmp := matched_places hS.lof hS.lowo
    have hI := hA.iof
    have hlo := hA.lo
    have HNU := Lib.hid hnu
    have HMP := Lib.hid hmp
    have HG := Lib.hid hg
    have HLO := Lib.hid hlo
    clear hr hA hS hall hnu hmp hg hlo
    go_wp2_with fail
    refine (places_any _ O n0 s.of (-1) hI HLO.out hn).mono ?_
    rintro e w2 ⟨v, rfl, hq, hb2⟩
    obtain ⟨A', c', rfl⟩ := hq.shape
    obtain ⟨p, hp⟩ : ∃ p, p = (placesN s.of (-1)).length := ⟨_, rfl⟩
    rw [← hp]
    have hpn : p ≤ n0 := by have := HMP.out; omega
    have hsub : IntKind.i64.wrap ((n0 : Int) - (p : Int)) = ((n0 - p : Nat) : Int) := by rw [IntWalk.i64_in _ (by omega)]; omega
    have HP := Lib.hid hp
    clear hq hp
    go_wp2
    go_ret2
    refine ⟨.inl ⟨HG.out, n0 - p, ?_, by omega, rfl⟩, hb.trans (hb2.mono hb.size)⟩
    have e1 : n0 - p = matched n0 (gi s.of) := by have := HMP.out; have := HP.out; omega
    rw [e1]
    exact HNU.out
  · have HNG := Lib.hid hng
    clear hng hr
    go_wp2
    go_ret2
    exact ⟨.inr ⟨HNG.out, rfl⟩, hb⟩
end Go.Proofs.YtegpanfcjfcaeaaDoor
