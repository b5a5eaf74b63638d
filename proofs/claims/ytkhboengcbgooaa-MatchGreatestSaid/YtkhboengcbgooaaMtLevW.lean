/- Matchings: levels, walked. -/
import Derived.Test.YtkhboengcbgooaaMtPair
import Derived.Test.YtkhboengcbgooaaMtQue
import Derived.StillTailTactics
import Derived.Deep.CutBlock
import Derived.Deep.DeepCutAuto
namespace Go.Proofs.Ytkhboengcbgooaa
open Go.RowKit
section
variable {near : Nat → List Nat} {n : Nat} {of wi di : List Int} {P T : List Nat} {fo : Bool} {seen : Nat → Nat → Prop}
theorem Lv.count (h : Lv near n of wi seen P T di fo) : P.length + T.length ≤ n := by
  have := nodup_sub_len (b := List.range n) h.nd fun y hy => by simpa using h.lt y hy
  rw [List.length_range, List.length_append] at this
  exact this
theorem Lv.hi (h : Lv near n of wi seen P T di fo) (x : Nat) : gi di x < n := by
  by_cases hx : 0 ≤ gi di x
  · have hm := (h.on x).1 hx
    obtain ⟨i, hi, e⟩ := List.getElem_of_mem hm
    have h5 := h.idx i hi
    rw [e] at h5
    have := h.count
    rw [List.length_append] at hi
    omega
  · omega
theorem Lv.out (h : Lv near n of wi (fun p b => p ∈ P ∧ b ∈ near p) P [] di fo) : LevOut near n of wi di fo := by
  have hP : ∀ x, x ∈ P ++ [] ↔ x ∈ P := fun x => by simp
  refine ⟨h.len, h.lo, h.hi, fun a ha hu => (h.root a ha hu).2, fun hfo a b hb ha => ?_, fun hfo => ?_⟩
  · rcases h.clo a b ⟨(hP a).1 ((h.on a).1 ha), hb⟩ with ⟨_, h5⟩ | ⟨q, h5, h6⟩
    · rw [hfo] at h5; cases h5
    · have := (h.on q).2 h6
      have e : (gi wi b).toNat = q := by omega
      rw [e]
      exact ⟨by omega, this⟩
  · obtain ⟨p, hp, b, hb, hf⟩ := h.fnd hfo
    have up : ∀ (k x : Nat), gi di x ≤ k → x ∈ P → Good near wi di x → ∃ a, a < n ∧ gi of a < 0 ∧ Good near wi di a := by
      intro k
      induction k with
      | zero =>
        intro x hk hx hg
        rcases h.par x (by simp [hx]) with h5 | ⟨q, hq, c, hc, h6, h7⟩
        · exact ⟨x, h.lt x (by simp [hx]), h5, hg⟩
        · have := (h.on q).2 (by simp [hq])
          omega
      | succ k ih =>
        intro x hk hx hg
        rcases h.par x (by simp [hx]) with h5 | ⟨q, hq, c, hc, h6, h7⟩
        · exact ⟨x, h.lt x (by simp [hx]), h5, hg⟩
        · refine ih q (by omega) hq (.step q c hc (by omega) ?_ ?_)
          · rw [h6, Int.toNat_natCast]; exact h7
          · rw [h6, Int.toNat_natCast]; exact hg
    exact up (gi di p).toNat p (by omega) hp (.free p b hb hf)
theorem Lv.start : Lv near n of wi (fun p b => p ∈ ([] : List Nat) ∧ b ∈ near p) [] (levR of n n).1 (levR of n n).2 false := by
  obtain ⟨h1, h2, h3, h4⟩ := levR_is of n n (Nat.le_refl _)
  refine ⟨h1, by simpa using h2, fun x hx => ?_, fun x => ?_, fun x => ?_, fun i hi => ?_, fun a ha hu => ?_, fun x hx => ?_, fun p b hs => ?_, fun h => by cases h⟩
  · exact ((h3 x).1 (by simpa using hx)).1
  · rw [h4, List.nil_append, h3]
    split
    · rename_i h; simp [h]
    · rename_i h; simp [h]
  · rw [h4]; split <;> omega
  · rw [h4]; split <;> omega
  · refine ⟨by simpa using (h3 a).2 ⟨ha, hu⟩, ?_⟩
    rw [h4, if_pos ⟨ha, hu⟩]
  · exact .inl ((h3 x).1 (by simpa using hx)).2
  · cases hs.1
theorem Lv.begin {a : Nat} (h : Lv near n of wi (fun p b => p ∈ P ∧ b ∈ near p) P (a :: T) di fo) : Lv near n of wi (fun p b => p ∈ P ∧ b ∈ near p) (P ++ [a]) T di fo := by
  have e : P ++ a :: T = (P ++ [a]) ++ T := by simp
  obtain ⟨g1, g2, g3, g4, g5, g6, g7, g8, g9, g10⟩ := h
  simp only [e] at g2 g3 g4 g6 g7 g8 g9
  refine ⟨g1, g2, g3, g4, g5, g6, g7, fun x hx => ?_, g9, fun hf => ?_⟩
  · rcases g8 x hx with h | ⟨p, hp, h⟩
    · exact .inl h
    · exact .inr ⟨p, by simp [hp], h⟩
  · obtain ⟨p, hp, h⟩ := g10 hf
    exact ⟨p, by simp [hp], h⟩
theorem Lv.seen_ {seen' : Nat → Nat → Prop} (h : Lv near n of wi seen P T di fo) (hs : ∀ p b, seen' p b → seen p b) : Lv near n of wi seen' P T di fo :=
  ⟨h.len, h.nd, h.lt, h.on, h.lo, h.idx, h.root, h.par, fun p b h' => h.clo p b (hs p b h'), h.fnd⟩
theorem Lv.one {a j : Nat} (hwi : ∀ b ∈ near a, 0 ≤ gi wi b → (gi wi b).toNat < n) (hj : j < (near a).length)
    (h : Lv near n of wi (fun p b => (p ∈ P ∧ b ∈ near p) ∨ (p = a ∧ b ∈ (near a).take j)) (P ++ [a]) T di fo) :
    Lv near n of wi (fun p b => (p ∈ P ∧ b ∈ near p) ∨ (p = a ∧ b ∈ (near a).take (j + 1))) (P ++ [a]) (levB wi a [(near a)[j]] T di fo).1 (levB wi a [(near a)[j]] T di fo).2.1 (levB wi a [(near a)[j]] T di fo).2.2 := by
  have h2 := levB_lv (a := a) (by simp) hwi [(near a)[j]] T di fo _ (fun b hb => by simp only [List.mem_singleton] at hb; subst hb; exact List.getElem_mem hj) h
  refine h2.seen_ fun p b hs => ?_
  rcases hs with hs | ⟨hp, hs⟩
  · exact .inl (.inl hs)
  · rw [List.take_succ_eq_append_getElem hj, List.mem_append] at hs
    rcases hs with hs | hs
    · exact .inl (.inr ⟨hp, hs⟩)
    · exact .inr ⟨hp, hs⟩
theorem levR_len (of : List Int) (n k : Nat) (hk : k ≤ n) : (levR of n k).1.length ≤ k := by
  have h := levR_is of n k hk
  have := nodup_sub_len (b := List.range k) h.nd fun x hx => by simpa using ((h.mem x).1 hx).1
  simpa using this
end
theorem PairA.setD {w : World} {B P G N O W : Nat} {dv : Value} {n m : Nat} {rows : List (List Nat)} {of wi : List Int} (h : PairA w B P G N O W dv n m rows of wi) (v : Value) : PairA (w.setCell ⟨P, 3, none⟩ v) B P G N O W v n m rows of wi := by
  have hu : Upd (fun k => k = P) w (w.setCell ⟨P, 3, none⟩ v) := (Upd.refl (fun k => k = P) w).setCell ⟨P, 3, none⟩ rfl _
  exact ⟨heap_setCell_same w P 3 _ _ v h.blk, h.g.upd hu (by have := h.gB; have := h.pB; omega), h.nr.keep fun p hp => hu.cell (Nat.lt_of_lt_of_le hp h.Blt) (by have := h.pB; omega), h.iof.upd hu (fun e => h.po e.symm), h.iwi.upd hu (fun e => h.pw e.symm), h.gB, h.pB, h.oB, h.wB, h.ow, h.po, h.pw, h.lo, h.lw, h.lr, h.nb, h.wb⟩
/-- The blocks that 'levels' turns: the pairing's own, the row of levels, the queue. -/
def LevS (P D base k : Nat) : Prop := k = P ∨ k = D ∨ base ≤ k
set_option maxHeartbeats 8000000 in
set_option maxRecDepth 20000 in
theorem levels_any (w : World) (B P G N O W n m : Nat) (dv : Value) (rows : List (List Nat)) (of wi : List Int) (hn : n ≤ 200) (hm : m ≤ 200) (hA : PairA w B P G N O W dv n m rows of wi) (hlens : ∀ a, (nearOf rows a).length ≤ 1048576) :
    Calls Try.prog 24 #[.pointer (some ⟨P, 0, none⟩)] w fun e w' => ∃ D di fo, e = .returned (.bool fo) ∧ PairA w' B P G N O W (.slice (some ⟨D, 0, none⟩) n n) n m rows of wi ∧ Ints w' D di ∧ LevOut (nearOf rows) n of wi di fo ∧ w.heap.size ≤ D ∧ Upd (fun k => k = P) w w' := by
  have HLN := Lib.hid hlens
  have c0 := hA.c0
  have g1 := hA.g.c1
  clear hlens
  go_enter Try.func24, Try.ntmps24
  go_wp2_with fail
  refine (none_any _ n hn).mono ?_
  rintro e w1 ⟨D, rfl, hDz, hI1, hb1⟩
  have hu1 : Upd (fun _ => False) w w1 := Upd.of_below hb1
  have hA1 := hA.upd hu1 (fun _ _ h => h) (fun h => h) (fun h => h) (fun h => h)
  have hPD : P ≠ D := by have := hA.plt; omega
  have hOD : O ≠ D := by have := hA.iof.lt; omega
  have hWD : W ≠ D := by have := hA.iwi.lt; omega
  have hBD : B ≤ D := by have := hA.Blt; omega
  have hD1 := hI1.lt
  clear c0 g1
  have q1 := hA1.c1
  have q3 := hA1.c3
  have qf := hA1.free 3
  have hA2 := hA1.setD (.slice (some ⟨D, 0, none⟩) n n)
  have hI2 : Ints (w1.setCell ⟨P, 3, none⟩ (.slice (some ⟨D, 0, none⟩) n n)) D (List.replicate n (-1)) := hI1.upd ((Upd.refl (fun k => k = P) w1).setCell ⟨P, 3, none⟩ rfl _) (fun e => hPD e.symm)
  have hu2 : Upd (LevS P D w1.heap.size) w1 (w1.setCell ⟨P, 3, none⟩ (.slice (some ⟨D, 0, none⟩) n n)) := (Upd.refl _ w1).setCell ⟨P, 3, none⟩ (.inl rfl) _
  have hsz : w1.heap.size ≤ (w1.setCell ⟨P, 3, none⟩ (.slice (some ⟨D, 0, none⟩) n n)).heap.size := hu2.size
  have HA1 := Lib.hid hA1
  have HA := Lib.hid hA
  clear hI1 hA hA1
  obtain ⟨base, hbase⟩ : ∃ base, base = w1.heap.size := ⟨_, rfl⟩
  rw [← hbase] at hsz hu2 hD1
  have HBASE := Lib.hid hbase
  clear hbase
  go_wp2
  generalize w1.setCell ⟨P, 3, none⟩ (.slice (some ⟨D, 0, none⟩) n n) = w2 at hA2 hI2 hu2 hsz ⊢
  clear q1 q3 qf
  go_loopw [27, 3] (fun i vT wx => ∃ k : Nat, k ≤ n ∧ i = .int .i64 k ∧ OwnQ wx base vT (levR of n k).1 ∧ Ints wx D (levR of n k).2 ∧ PairA wx B P G N O W (.slice (some ⟨D, 0, none⟩) n n) n m rows of wi ∧ base ≤ wx.heap.size ∧ Upd (LevS P D base) w1 wx) (fun i _ _ => n - (intOf i).toNat)
  case atStart => exact ⟨0, Nat.zero_le _, rfl, OwnQ.nil, hI2, hA2, hsz, hu2⟩
  case round =>
    obtain ⟨k, hk, rfl, hq, hI, hA, hz, hu⟩ := hrel
    clear hA2 hI2 hu2 hsz
    by_cases hlt : k < n
    · have o0 := hA.iof.cell (k := k) (by rw [hA.lo]; exact hlt)
      have c3 := hA.c3
      have hLR := levR_is of n k hk
      have hll := levR_len of n k hk
      obtain ⟨A', c', rfl⟩ := hq.shape
      obtain ⟨x, hx⟩ : ∃ x, gi of k = x := ⟨_, rfl⟩
      rw [hx] at o0
      by_cases hneg : x < 0
      · have hstep : levR of n (k + 1) = ((levR of n k).1 ++ [k], (levR of n k).2.set k 0) := by rw [levR, if_pos (by rw [hx]; exact hneg)]
        have b1 : decide (x < 0) = true := decide_eq_true hneg
        have d0 := hI.cell (k := k) (by rw [hLR.len]; exact hlt)
        have d1 := hI.free k
        have huD : Upd (fun k => k = D) wr (wr.setCell ⟨D, k, none⟩ (.int .i64 0)) := (Upd.refl (fun k => k = D) wr).setCell ⟨D, k, none⟩ rfl _
        have hI3 := hI.set k 0
        have hA3 := hA.upd huD (fun k hk e => by omega) hPD hOD hWD
        have hq3 := hq.upd huD (fun k hk e => by have := (hq.lt k hk).1; omega)
        have hz3 : base ≤ (wr.setCell ⟨D, k, none⟩ (.int .i64 0)).heap.size := Nat.le_trans hz huD.size
        have hu3 : Upd (LevS P D base) w1 (wr.setCell ⟨D, k, none⟩ (.int .i64 0)) := hu.setCell ⟨D, k, none⟩ (.inr (.inl rfl)) _
        have hqb := hq.lt
        have HST := Lib.hid hstep
        have HI3 := Lib.hid hI3
        have HA3 := Lib.hid hA3
        have HU3 := Lib.hid hu3
        clear hI hA hq hLR hstep hx hI3 hA3 hu3
        have hlen1 : (levR of n k).1.length + 1 ≤ 1048576 := by omega
        go_upto_region 8 with (fail)
        generalize wr.setCell ⟨D, k, none⟩ (.int .i64 0) = wD at huD hq3 hz3 HI3 HA3 HU3 ⊢
        go_wp2_with (at_builtin; refine wpList_pushQ rfl (.tmp 40) (.tmp 42) rfl rfl _ _ k base rfl hq3 rfl hz3 hlen1 ?_)
        intro v4 w4 hq4 hu4
        have hn4 : ∀ j, j < base → ¬ (Value.slice A' (levR of n k).1.length c').ownBlock = some j := fun j hj e => by have := (hqb j e).1; omega
        have hP := HA1.out.plt
        have hO := HA1.out.iof.lt
        have hW := HA1.out.iwi.lt
        rw [← HBASE.out] at hP hO hW
        have hA4 := HA3.out.upd hu4 (fun j hj => hn4 j (by omega)) (hn4 P hP) (hn4 O hO) (hn4 W hW)
        have hI4 := HI3.out.upd hu4 (hn4 D hD1)
        have hu5 : Upd (LevS P D base) w1 w4 := HU3.out.trans hu4 (fun j _ e => .inr (.inr (hqb j e).1))
        have hz4 : base ≤ w4.heap.size := Nat.le_trans hz3 hu4.size
        clear hqb hn4 huD hq3 HI3 HA3 HU3 hu4 c3 d0 d1 o0
        go_wp2
        go_roundw
        case rel => exact ⟨k + 1, by omega, by go_num, by rw [HST.out]; exact hq4, by rw [HST.out]; exact hI4, hA4, hz4, hu5⟩
        case measure => simp [intOf]; omega
      · have hstep : levR of n (k + 1) = levR of n k := by rw [levR, if_neg (by rw [hx]; exact hneg)]
        have b1 : decide (x < 0) = false := decide_eq_false hneg
        have HST := Lib.hid hstep
        clear hstep hx hLR
        go_wp2
        go_roundw
        case rel => exact ⟨k + 1, by omega, by go_num, by rw [HST.out]; exact hq, by rw [HST.out]; exact hI, hA, hz, hu⟩
        case measure => simp [intOf]; omega
    · obtain rfl : n = k := by omega
      have hlv := Lv.start (near := nearOf rows) (n := n) (of := of) (wi := wi)
      have HLV := Lib.hid hlv
      clear hlv
      generalize (levR of n n).1 = T0 at hq HLV
      generalize (levR of n n).2 = di0 at hI HLV
      have b1 : decide ((n : Int) < (n : Int)) = false := decide_eq_false (by omega)
      have hPb := HA1.out.plt
      have hOb := HA1.out.iof.lt
      have hWb := HA1.out.iwi.lt
      rw [← HBASE.out] at hPb hOb hWb
      go_wp2
      go_loopg [3, 6] n (fun gk vT vf wx => ∃ (Pd T : List Nat) (di : List Int) (fo : Bool), gk + Pd.length = n ∧ Hid (Lv (nearOf rows) n of wi (fun p b => p ∈ Pd ∧ b ∈ nearOf rows p) Pd T di fo) ∧ vf = .bool fo ∧ OwnQ wx base vT T ∧ Ints wx D di ∧ PairA wx B P G N O W (.slice (some ⟨D, 0, none⟩) n n) n m rows of wi ∧ base ≤ wx.heap.size ∧ Upd (LevS P D base) w1 wx)
      case atStart => exact ⟨[], T0, di0, false, by simp, HLV.out, rfl, hq, hI, hA, hz, hu⟩
      case round =>
        clear hq hI hA hu hz b1 HLV
        obtain ⟨Pd, T, di, fo, hgk, HLV, rfl, hq, hI, hA, hz, hu⟩ := hrel
        cases T with
        | nil =>
          obtain ⟨A', c', rfl⟩ := hq.shape
          have hout := HLV.out.out
          have huF : Upd (fun k => k = P) w wr := (hu1.mono (S' := fun k => k = P) (fun _ _ h => h.elim)).trans hu (fun j hj h => by
            have h1 := hb1.size
            have h2 := HBASE.out
            rcases h with h | h | h
            · exact h
            · omega
            · omega)
          have HO := Lib.hid hout
          clear hu1 hb1 hu hq HLV hout
          go_wp2
          go_ret
          exact ⟨D, di, fo, rfl, hA, hI, HO.out, hDz, huF⟩
        | cons a T =>
          have hcnt := HLV.out.count
          simp only [List.length_cons] at hcnt
          have hbeg := Lib.hid HLV.out.begin
          have han : a < n := HLV.out.lt a (by simp)
          obtain ⟨A', c', rfl⟩ := hq.shape
          obtain ⟨g, off, rfl, hnl, hc1, hcell, hgb, hgl, hq1, hq2⟩ := hq.head
          have c0 := hA.c0
          have g0 := hA.g.c0
          obtain ⟨A, c, hcN, hrow⟩ := hA.near han
          have HROW := Lib.hid hrow
          obtain ⟨L, hL⟩ : ∃ L, L = (nearOf rows a).length := ⟨_, rfl⟩
          have hlen := HLN.out a
          rw [← hL] at hcN hlen
          have HL := Lib.hid hL
          have HQ1 := Lib.hid hq1
          have HQ2 := Lib.hid hq2
          have HA := Lib.hid hA
          have HI := Lib.hid hI
          have HU := Lib.hid hu
          clear hrow hL hq hA hI hu hq1 hq2
          rw [List.length_cons]
          go_upto_region 13 with (fail)
          go_cut [3] (fun v3 wc => wc = wr ∧ Hid (OwnQ wr base v3 T))
          case first =>
            by_cases hc : c' = 1
            · have hq := Lib.hid (HQ1.out hc)
              clear HQ1 HQ2
              go_wp2
              all_goals go_meet
              all_goals (case rel => exact ⟨rfl, hq⟩)
            · have hq := HQ2
              clear HQ1 HQ2
              go_wp2
              all_goals go_meet
              all_goals (case rel => exact ⟨rfl, hq⟩)
          case rest =>
            obtain ⟨rfl, hq⟩ := hcut
            clear HQ1 HQ2
            have HB0 := hbeg
            go_wp2
            go_loopw [64, 3, 6] (fun i vT vf wx => ∃ (j : Nat) (T : List Nat) (di : List Int) (fo : Bool), j ≤ L ∧ i = .int .i64 j ∧ Hid (Lv (nearOf rows) n of wi (fun p b => (p ∈ Pd ∧ b ∈ nearOf rows p) ∨ (p = a ∧ b ∈ (nearOf rows a).take j)) (Pd ++ [a]) T di fo) ∧ vf = .bool fo ∧ OwnQ wx base vT T ∧ Ints wx D di ∧ PairA wx B P G N O W (.slice (some ⟨D, 0, none⟩) n n) n m rows of wi ∧ base ≤ wx.heap.size ∧ Upd (LevS P D base) wc wx) (fun i _ _ _ => L - (intOf i).toNat)
            case atStart => exact ⟨0, T, di, fo, Nat.zero_le _, rfl, Lib.hid (HB0.out.seen_ fun p b h => by
              rcases h with h | ⟨_, h⟩
              · exact h
              · simp at h), rfl, hq.out, HI.out, HA.out, hz, Upd.refl _ _⟩
            case round =>
              have HHI := HI
              have HHA := HA
              clear HI HA hq hbeg HB0 HLV c0 g0 hcell hcN
              obtain ⟨j, T', di', fo', hj, rfl, HLV, rfl, hq, hI, hA, hz', hu⟩ := hrel
              by_cases hlt : j < L
              · have hlt' : j < (nearOf rows a).length := by rw [← HL.out]; exact hlt
                obtain ⟨g2, hAg, hgB, hcell⟩ := HROW.out j hlt'
                subst hAg
                obtain ⟨b, hb⟩ : ∃ b, (nearOf rows a)[j] = b := ⟨_, rfl⟩
                have hbm : b < m := hA.nb a b (by rw [← hb]; exact List.getElem_mem hlt')
                have hone := HLV.out.one (fun c _ h0 => by have := hA.wb c h0; omega) hlt'
                rw [hb] at hcell hone
                have hnS : ∀ k, k < B → ¬ LevS P D base k := by
                  intro k hk e
                  have := HHA.out.pB
                  rcases e with e | e | e <;> omega
                have hcB : wr.cell? ⟨g2, j, none⟩ = some (.int .i64 (b : Int)) := (hu.cell (p := ⟨g2, j, none⟩) (Nat.lt_of_lt_of_le hgB HHA.out.Blt) (hnS _ hgB)).trans hcell
                have hwb := hA.iwi.cell (k := b) (by rw [hA.lw]; exact hbm)
                have c2 := hA.c2
                obtain ⟨A', c', rfl⟩ := hq.shape
                obtain ⟨x, hx⟩ : ∃ x, gi wi b = x := ⟨_, rfl⟩
                rw [hx] at hwb
                by_cases hneg : x < 0
                · have hst : levB wi a [b] T' di' fo' = (T', di', true) := by rw [levB, if_pos (by rw [hx]; exact hneg), levB]
                  rw [hst] at hone
                  have HO := Lib.hid hone
                  have b1 : decide (x < 0) = true := decide_eq_true hneg
                  clear hone hst hb hx hcell HLV
                  go_wp2
                  go_roundw
                  case rel => exact ⟨j + 1, T', di', true, by omega, by go_num, HO, rfl, hq, hI, hA, hz', hu⟩
                  case measure => simp [intOf]; omega
                · have b1 : decide (x < 0) = false := decide_eq_false hneg
                  obtain ⟨q, rfl⟩ : ∃ q : Nat, x = (q : Int) := ⟨x.toNat, by omega⟩
                  have hqn : q < n := by have := hA.wb b (by omega); omega
                  have hqt : (gi wi b).toNat = q := by omega
                  have c3 := hA.c3
                  have hlen' : di'.length = n := HLV.out.len
                  have dq := hI.cell (k := q) (by omega)
                  obtain ⟨y, hy⟩ : ∃ y, gi di' q = y := ⟨_, rfl⟩
                  rw [hy] at dq
                  by_cases hyn : y < 0
                  · have hst : levB wi a [b] T' di' fo' = (T' ++ [q], di'.set q (gi di' a + 1), fo') := by rw [levB, if_neg (by rw [hx]; exact hneg), hqt, if_pos (by rw [hy]; exact hyn), levB]
                    rw [hst] at hone
                    have hza : 0 ≤ gi di' a := (HLV.out.on a).2 (by simp)
                    have hzb := HLV.out.hi a
                    have hct := HLV.out.count
                    rw [List.length_append] at hct
                    have da := hI.cell (k := a) (by omega)
                    obtain ⟨z, hz0⟩ : ∃ z, gi di' a = z := ⟨_, rfl⟩
                    rw [hz0] at da hza hzb hone
                    have hwz : IntKind.i64.wrap (z + 1) = z + 1 := IntWalk.i64_in _ (by omega)
                    have HO := Lib.hid hone
                    have b2 : decide (y < 0) = true := decide_eq_true hyn
                    have hqb := hq.lt
                    clear hone hst hb hx hcell HLV hy hqt hz0
                    go_wp2
                    go_still_tail 13, (by kernel_rfl)
                    change wpList _ _ _ _ _ wr.drew
                    have hAd := hA.drew
                    have hId : Ints wr.drew D di' := hI
                    have hqd := hq.upd (S := fun _ => False) (w' := wr.drew) ((Upd.refl _ wr).drewN 1) (fun _ _ h => h)
                    have hud : Upd (LevS P D base) wc wr.drew := hu.drewN 1
                    have hzd : base ≤ wr.drew.heap.size := hz'
                    have hqb' : ∀ k, (Value.slice A' T'.length c').ownBlock = some k → base ≤ k ∧ k < wr.drew.heap.size := hqb
                    clear hA hI hq hu c2 c3 dq da hcB hwb hz' hqb
                    generalize wr.drew = wd at hAd hId hqd hud hzd hqb' ⊢
                    have d0 := hId.cell (k := q) (by omega)
                    have d1 := hId.free q
                    have huD : Upd (fun k => k = D) wd (wd.setCell ⟨D, q, none⟩ (.int .i64 (z + 1))) := (Upd.refl (fun k => k = D) wd).setCell ⟨D, q, none⟩ rfl _
                    have hIs := hId.set q (z + 1)
                    have hAs := hAd.upd huD (fun k hk e => by omega) hPD hOD hWD
                    have hqs := hqd.upd huD (fun k hk e => by have := (hqb' k hk).1; omega)
                    have hzs : base ≤ (wd.setCell ⟨D, q, none⟩ (.int .i64 (z + 1))).heap.size := Nat.le_trans hzd huD.size
                    have hus : Upd (LevS P D base) wc (wd.setCell ⟨D, q, none⟩ (.int .i64 (z + 1))) := hud.setCell ⟨D, q, none⟩ (.inr (.inl rfl)) _
                    have hlen1 : T'.length + 1 ≤ 1048576 := by omega
                    clear hId hAd hqd hud hzd huD
                    go_upto_region 22 with (fail)
                    generalize wd.setCell ⟨D, q, none⟩ (.int .i64 (z + 1)) = wS at hIs hAs hqs hzs hus ⊢
                    go_wp2_with (at_builtin; refine wpList_pushQ rfl (.tmp 99) (.tmp 101) rfl rfl _ _ q base rfl hqs rfl hzs hlen1 ?_)
                    intro v4 w4 hq4 hu4
                    have hn4 : ∀ j, j < base → ¬ (Value.slice A' T'.length c').ownBlock = some j := fun j hj e => by have := (hqb' j e).1; omega
                    have hA4 := hAs.upd hu4 (fun j hj => hn4 j (by omega)) (hn4 P hPb) (hn4 O hOb) (hn4 W hWb)
                    have hI4 := hIs.upd hu4 (hn4 D hD1)
                    have hu5 : Upd (LevS P D base) wc w4 := hus.trans hu4 (fun j _ e => .inr (.inr (hqb' j e).1))
                    have hz4 : base ≤ w4.heap.size := Nat.le_trans hzs hu4.size
                    clear hqb' hn4 hqs hIs hAs hus hu4 d0 d1
                    go_wp2
                    go_roundw
                    case rel => exact ⟨j + 1, T' ++ [q], di'.set q (z + 1), fo', by omega, by go_num, HO, rfl, hq4, hI4, hA4, hz4, hu5⟩
                    case measure => simp [intOf]; omega
                  · have hst : levB wi a [b] T' di' fo' = (T', di', fo') := by rw [levB, if_neg (by rw [hx]; exact hneg), hqt, if_neg (by rw [hy]; exact hyn), levB]
                    rw [hst] at hone
                    have HO := Lib.hid hone
                    have b2 : decide (y < 0) = false := decide_eq_false hyn
                    clear hone hst hb hx hcell HLV hy hqt
                    go_wp2
                    go_roundw
                    case rel => exact ⟨j + 1, T', di', fo', by omega, by go_num, HO, rfl, hq, hI, hA, hz', hu⟩
                    case measure => simp [intOf]; omega
              · obtain rfl : j = L := by omega
                have hend : Hid (Lv (nearOf rows) n of wi (fun p b => p ∈ Pd ++ [a] ∧ b ∈ nearOf rows p) (Pd ++ [a]) T' di' fo') := Lib.hid (HLV.out.seen_ fun p b h => by
                  rw [HL.out, List.take_length]
                  rcases List.mem_append.1 h.1 with h1 | h1
                  · exact .inl ⟨h1, h.2⟩
                  · simp only [List.mem_singleton] at h1
                    subst h1
                    exact .inr ⟨rfl, h.2⟩)
                have hu' := HU.out.trans hu (fun _ _ h => h)
                clear HLV hu
                go_wp2
                go_roundg (gk - 1)
                case measure => omega
                case rel => exact ⟨Pd ++ [a], T', di', fo', by simp; omega, hend, rfl, hq, hI, hA, hz', hu'⟩
end Go.Proofs.Ytkhboengcbgooaa
