/- Merging versions: merge.trim, walked. -/
import Derived.Test.YtcfgmkiohmbdlaaMgTrimP
import Derived.Test.YtcfgmkiohmbdlaaMgView
import Derived.Test.YtcfgmkiohmbdlaaIMap
import Derived.Test.YtcfgmkiohmbdlaaNums
namespace Go.Proofs.Ytcfgmkiohmbdlaa
open Go.RowKit
section
variable {w : World} {b n : Nat} {f : Int → Int} {Ks : List Int}
theorem wpList_insI {ops : Array Oper} {rest : List Oper} {o : Oper} {a : Act} {Q : Exit → Act → World → Prop} (hg : o.guard = none) (m x v : Operand) (hop : o.op = Op.insert 121 m x v)
    (hm : a.eval m = .map (some b)) (h : IMap w b n f Ks) (hn : n < maxLen) {q u : Int} (hx : a.eval x = .int .i64 q) (hv : a.eval v = .int .i64 u) (hq : -9223372036854775808 ≤ q ∧ q ≤ 9223372036854775807) (hu : -9223372036854775808 ≤ u ∧ u ≤ 9223372036854775807)
    (hK : ∀ w', IMap w' b (n + 1) (fun x => if x = q then u else f x) (addK Ks q) → Upd (fun k => k = b) w w' → wpList Try.prog ops Q rest (a.put o.dst undef) w') : wpList Try.prog ops Q (o :: rest) a w := by
  refine wpList_plain hg fun K' hK' => ?_
  obtain ⟨w', hrun, r1, r2⟩ := h.put hn hq hu
  unfold Oper.wp
  simp [execOp, hop, hm, hx, hv, hrun, Result.andThen]
  exact hK' _ _ (hK w' r1 r2)
theorem wpList_lookI {ops : Array Oper} {rest : List Oper} {o : Oper} {a : Act} {Q : Exit → Act → World → Prop} (hg : o.guard = none) (m x : Operand) (hop : o.op = Op.lookup 121 m x false)
    (hm : a.eval m = .map (some b)) (h : IMap w b n f Ks) {q : Int} (hx : a.eval x = .int .i64 q) (hq : -9223372036854775808 ≤ q ∧ q ≤ 9223372036854775807)
    (hK : ∀ fv : Int, Hid (f q = fv) → wpList Try.prog ops Q rest (a.put o.dst (.int .i64 fv)) w) : wpList Try.prog ops Q (o :: rest) a w := by
  refine wpList_plain hg fun K' hK' => ?_
  have hrun := h.look hq
  unfold Oper.wp
  simp [execOp, hop, hm, hx, hrun, Result.andThen]
  exact hK' _ _ (hK _ (Lib.hid rfl))
end
/-- The map says which places are kept. -/
def KeptIs (G : List Ent) (S : List Int) (f : Int → Int) : Prop := ∀ i : Nat, f (i : Int) = 1 ↔ i = 0 ∨ ∃ n ∈ S, idxN G n = i
theorem KeptIs.start (G : List Ent) : KeptIs G [] (fun x => if x = 0 then 1 else 0) := fun i => by
  by_cases h : i = 0
  · subst h; simp
  · have : ¬ (i : Int) = 0 := by omega
    simp [h, this]
theorem KeptIs.yes {G : List Ent} {S : List Int} {f : Int → Int} {a : Int} {k : Nat} (h : KeptIs G S f) (hk : idxN G a = k) : KeptIs G (S ++ [a]) (fun x => if x = (k : Int) then 1 else f x) := fun i => by
  by_cases e : i = k
  · subst e
    simp only [if_true, true_iff]
    exact .inr ⟨a, by simp, hk⟩
  · have e2 : ¬ (i : Int) = (k : Int) := by omega
    simp only [if_neg e2]
    rw [h i]
    constructor
    · rintro (h1 | ⟨n, hn, h1⟩)
      · exact .inl h1
      · exact .inr ⟨n, by simp [hn], h1⟩
    · rintro (h1 | ⟨n, hn, h1⟩)
      · exact .inl h1
      · rcases List.mem_append.1 hn with hn | hn
        · exact .inr ⟨n, hn, h1⟩
        · rw [List.mem_singleton.1 hn, hk] at h1; omega
theorem KeptIs.no {G : List Ent} {S : List Int} {f : Int → Int} {a : Int} (h : KeptIs G S f) (hk : idxN G a = -1) : KeptIs G (S ++ [a]) f := fun i => by
  rw [h i]
  constructor
  · rintro (h1 | ⟨n, hn, h1⟩)
    · exact .inl h1
    · exact .inr ⟨n, by simp [hn], h1⟩
  · rintro (h1 | ⟨n, hn, h1⟩)
    · exact .inl h1
    · rcases List.mem_append.1 hn with hn | hn
      · exact .inr ⟨n, hn, h1⟩
      · rw [List.mem_singleton.1 hn, hk] at h1; omega
theorem KeptIs.need {G : List Ent} {S : List Int} {f : Int → Int} (h : KeptIs G S f) (hf : Fall G) (hmax : ∀ x ∈ G, x.seq ≤ 9223372036854775807) {i : Nat} (hi : i < G.length) : needP G S G[i] = (f (i : Int) == 1) := by
  rw [Bool.eq_iff_iff, need_at hf hmax S hi, beq_iff_eq, h i]
theorem keep_next {G : List Ent} {p : Ent → Bool} {q : Nat} (hq : q < G.length) : (G.take (q + 1)).filter p = (G.take q).filter p ++ (if p G[q] then [G[q]] else []) := by
  rw [List.take_succ_eq_append_getElem hq, List.filter_append]
  congr 1
  cases h : p G[q] <;> simp [h]
theorem cut_next {K : List Ent} {q : Nat} (hq : q < K.length) (hd : K[q].dead = true) : cutD (K.take (q + 1)) = cutD (K.take q) := by
  rw [List.take_succ_eq_append_getElem hq, cutD_dead hd]
theorem cut_stop {K : List Ent} {q : Nat} (hq : q < K.length) (hd : K[q].dead = false) : cutD (K.take (q + 1)) = K.take (q + 1) := by
  rw [List.take_succ_eq_append_getElem hq, cutD_live hd]
/-- What 'trim' answers. -/
def TrimPost (w : World) (l : List Ent) (e : Ending) (w' : World) : Prop := ∃ A n c, e = .returned (.slice A n c) ∧ Rd w' w'.heap.size 4 A n (entv l) ∧ Below w.heap.size w w'
set_option maxHeartbeats 8000000 in
set_option maxRecDepth 20000 in
theorem trim1_any (w : World) (A : Option Addr) (n c B : Nat) (G : List Ent) (b : Bool) (A2 : Option Addr) (m c2 : Nat) (seen : List Int) (hr : Rd w B 4 A n (entv G)) (hs : Rd w B 1 A2 m (i64v seen)) (hB : B ≤ w.heap.size) (hf : Fall G) (hmax : ∀ x ∈ G, x.seq ≤ 9223372036854775807) (hn : n ≤ 1073741824) (hm : m ≤ 1073741824) :
    Calls Try.prog 53 #[.slice A n c, .bool b, .slice A2 m c2] w (TrimPost w (trimG b seen G)) := by
  obtain ⟨i0, hi0, hz0, hz1, hz2⟩ := info_parts ent_info2
  have hmm := @run_makeMap Try.prog
  have HM1 := Lib.hid (IMap.made w)
  have HB1 : Hid (Below w.heap.size w (w.alloc (.map #[] 0))) := Lib.hid ((Below.refl _ _).alloc (Nat.le_refl _) _)
  have HR := Lib.hid hr
  have HS := Lib.hid hs
  have HGL := Lib.hid (rd_entlen hr)
  have HSL := Lib.hid (show m = seen.length by have := hs.len; rw [i64v_length] at this; omega)
  have HF := Lib.hid hf
  have HMX := Lib.hid hmax
  clear hr hs hf hmax
  go_enter Try.func53, Try.ntmps53
  go_wp2_with (refine wpList_insI rfl _ _ _ rfl rfl HM1.out (by decide) (q := 0) (u := 1) rfl rfl (by omega) (by omega) ?_)
  intro w2 hm2 hu2
  have HM2 : Hid (IMap w2 w.heap.size 1 (fun x => if x = 0 then 1 else 0) [0]) := Lib.hid hm2
  have HB2 : Hid (Below w.heap.size w w2) := Lib.hid (HB1.out.trans (hu2.below (fun k hk e => by omega) (by simp)))
  clear hm2 hu2 HM1 HB1
  go_wp2
  go_loopw [18] (fun iv wx => ∃ (k : Nat) (f : Int → Int) (Ks : List Int), k ≤ m ∧ iv = .int .i64 k ∧ Hid (IMap wx w.heap.size (k + 1) f Ks) ∧ Hid (KeptIs G (seen.take k) f) ∧ Hid (Below w.heap.size w wx)) (fun iv _ => m - (intOf iv).toNat)
  case atStart => exact ⟨0, _, _, Nat.zero_le _, rfl, HM2, Lib.hid (KeptIs.start G), HB2⟩
  case round =>
    clear HM2 HB2
    obtain ⟨k, f, Ks, hk, rfl, HM, HK, HW⟩ := hrel
    by_cases hlt : k < m
    · obtain ⟨ad, u, rfl, hb, hu, hcl⟩ := (HS.out.below (HW.out.mono hB)).get hlt
      have hkl : k < seen.length := by rw [← HSL.out]; exact hlt
      rw [i64v_get _ _ hkl] at hu
      injection hu with hu
      subst hu
      have htk : seen.take (k + 1) = seen.take k ++ [seen[k]] := List.take_succ_eq_append_getElem hkl
      obtain ⟨a, ha⟩ : ∃ a, seen[k] = a := ⟨_, rfl⟩
      rw [ha] at hcl htk
      have HT := Lib.hid htk
      have hbw := HW.out.size
      have HNE := Lib.hid (newest_any wr A n c B G a (HR.out.below (HW.out.mono hB)) (by omega) hn)
      clear htk ha hkl
      go_wp2_with fail
      refine HNE.out.mono ?_
      rintro e w3 ⟨rfl, hb3⟩
      have HW3 := Lib.hid (HW.out.trans (hb3.mono hbw))
      have HM3 := Lib.hid (HM.out.upd (Upd.of_below (S := fun _ => False) hb3) (fun h => h))
      clear hb3 HNE HM
      rcases idxN_range G a with hi | ⟨j, hj, hi⟩
      · have HK2 : Hid (KeptIs G (seen.take (k + 1)) f) := Lib.hid (by rw [HT.out]; exact HK.out.no hi)
        have HM4 := Lib.hid (HM3.out.mono (Nat.le_succ _))
        rw [hi]
        clear hi HM3
        go_wp2
        go_roundw
        case rel => exact ⟨k + 1, f, Ks, by omega, by go_num, HM4, HK2, HW3⟩
        case measure => simp [intOf]; omega
      · have HK2 : Hid (KeptIs G (seen.take (k + 1)) (fun x => if x = (j : Int) then 1 else f x)) := Lib.hid (by rw [HT.out]; exact HK.out.yes hi)
        have hjn : j < n := by rw [HGL.out]; exact hj
        have hmap := HM3.out
        rw [hi]
        clear hi HM3 hj
        go_wp2_with (at_mapUpdate; refine wpList_putI rfl _ _ _ rfl rfl hmap (by unfold maxLen; omega) (q := (j : Int)) (u := 1) rfl rfl (by omega) (by omega) ?_)
        intro w4 hm4 hu4
        have HM4 := Lib.hid hm4
        have HW4 := Lib.hid (HW3.out.trans (hu4.below (fun k hk e => by omega) HW3.out.size))
        clear hm4 hu4 hmap
        go_wp2
        go_roundw
        case rel => exact ⟨k + 1, _, _, by omega, by go_num, HM4, HK2, HW4⟩
        case measure => simp [intOf]; omega
    · have HKK : Hid (KeptIs G seen f) := Lib.hid (by
        have h := HK.out
        rwa [List.take_of_length_le (by rw [← HSL.out]; omega)] at h)
      have hz : ¬ (k : Int) < (m : Int) := by omega
      clear HK
      obtain ⟨w4, rfl⟩ : ∃ w4, w4 = wr := ⟨_, rfl⟩
      go_wp2
      go_loopw [11, 32] (fun ov iv wx => ∃ q : Nat, q ≤ n ∧ iv = .int .i64 q ∧ Hid (((G.take q).filter (needP G seen)).length ≤ q ∧ wx.ownsRow w4.heap.size 26 4 ov ((G.take q).filter (needP G seen)).length (entv ((G.take q).filter (needP G seen)))) ∧ Hid (Below w4.heap.size w4 wx)) (fun _ iv _ => n - (intOf iv).toNat)
      case atStart => exact ⟨0, Nat.zero_le _, rfl, Lib.hid ⟨by simp, World.ownsRow_nil _ _ _ _⟩, Lib.hid (Below.refl _ _)⟩
      case round =>
        obtain ⟨q, hq, rfl, HO, HX⟩ := hrel
        have hbw := HW.out.size
        by_cases hlt2 : q < n
        · obtain ⟨bb, off, rfl, hb, hsq, e0, e1, e2, e3⟩ := ((HR.out.below (HW.out.mono hB)).below (HX.out.mono (by omega))).ent hlt2
          have hkn := keep_next (p := needP G seen) hsq
          have hnd := HKK.out.need HF.out HMX.out hsq
          rw [hnd] at hkn
          obtain ⟨x, hx⟩ : ∃ x, G[q] = x := ⟨_, rfl⟩
          obtain ⟨O, hO⟩ : ∃ O, (G.take q).filter (needP G seen) = O := ⟨_, rfl⟩
          rw [hx] at e0 e1 e2 e3 hkn
          rw [hO] at hkn HO
          obtain ⟨Ao, co, rfl⟩ := own_shape HO.out.2
          obtain ⟨x1, x2, x3, x4⟩ := x
          simp only at e0 e1 e2 e3
          have hxs := HX.out.size
          have HKN := Lib.hid hkn
          have hol : O.length ≤ 1073741824 := by have := HO.out.1; omega
          have HMW : Hid (IMap (wr.alloc (.cells #[.string x1, .int .i64 x2, .bool x3, .string x4] 26)) w.heap.size (k + 1) f Ks) := Lib.hid (HM.out.upd ((Upd.of_below (S := fun _ => False) HX.out).alloc _) (fun h => h))
          have HB5 : Hid (Below w4.heap.size w4 (wr.alloc (.cells #[.string x1, .int .i64 x2, .bool x3, .string x4] 26))) := Lib.hid (HX.out.alloc hxs _)
          have HO5 : Hid ((wr.alloc (.cells #[.string x1, .int .i64 x2, .bool x3, .string x4] 26)).ownsRow w4.heap.size 26 4 (.slice Ao O.length co) O.length (entv O)) := Lib.hid (own_below HO.out.2 ((Below.refl _ _).alloc (Nat.le_refl _) _))
          have HQL := Lib.hid HO.out.1
          have hnew := heap_alloc_new wr (.cells #[.string x1, .int .i64 x2, .bool x3, .string x4] 26)
          have d0 : (wr.alloc (.cells #[.string x1, .int .i64 x2, .bool x3, .string x4] 26)).cell? ⟨wr.heap.size, 0, none⟩ = some (.string x1) := by rw [cell_of_row _ _ 0 _ _ _ hnew]; rfl
          have d1 : (wr.alloc (.cells #[.string x1, .int .i64 x2, .bool x3, .string x4] 26)).cell? ⟨wr.heap.size, 1, none⟩ = some (.int .i64 x2) := by rw [cell_of_row _ _ 1 _ _ _ hnew]; rfl
          have d2 : (wr.alloc (.cells #[.string x1, .int .i64 x2, .bool x3, .string x4] 26)).cell? ⟨wr.heap.size, 2, none⟩ = some (.bool x3) := by rw [cell_of_row _ _ 2 _ _ _ hnew]; rfl
          have d3 : (wr.alloc (.cells #[.string x1, .int .i64 x2, .bool x3, .string x4] 26)).cell? ⟨wr.heap.size, 3, none⟩ = some (.string x4) := by rw [cell_of_row _ _ 3 _ _ _ hnew]; rfl
          have hgs : w4.heap.size ≤ (wr.alloc (.cells #[.string x1, .int .i64 x2, .bool x3, .string x4] 26)).heap.size := by simp; omega
          obtain ⟨fb, hfb⟩ : ∃ fb, (f (q : Int) == 1) = fb := ⟨_, rfl⟩
          have HFB := Lib.hid hfb
          clear hkn hnd hx hO HO hnew
          go_wp2_with (at_lookup; refine wpList_lookI rfl _ _ rfl rfl HMW.out (q := (q : Int)) rfl (by omega) ?_)
          intro fv HFV
          have hfv := HFV.out
          rw [hfv] at hfb HFB HKN
          generalize wr.alloc (.cells #[.string x1, .int .i64 x2, .bool x3, .string x4] 26) = w5 at HMW HB5 HO5 d0 d1 d2 d3 hgs ⊢
          clear HMW hfv HFV
          cases fb with
          | false =>
            have HO6 : Hid (((G.take (q + 1)).filter (needP G seen)).length ≤ q + 1 ∧ w5.ownsRow w4.heap.size 26 4 (.slice Ao O.length co) ((G.take (q + 1)).filter (needP G seen)).length (entv ((G.take (q + 1)).filter (needP G seen)))) := Lib.hid (by
              rw [HKN.out, HFB.out, if_neg (by decide), List.append_nil]
              exact ⟨by have := HQL.out; omega, HO5.out⟩)
            clear HKN HFB HO5 HQL
            go_wp2
            go_roundw
            case rel => exact ⟨q + 1, by omega, by go_num, HO6, HB5⟩
            case measure => simp [intOf]; omega
          | true =>
            go_wp2_with (at_builtin; refine wpList_push (w := w5) rfl (.tmp 41) (.tmp 43) 22 rfl w4.heap.size 26 i0 _ 4 48 Try.underlying22 hi0 hz0 hz1 hz2 rfl (by decide) _ O.length (entv O) #[.string x1, .int .i64 x2, .bool x3, .string x4] rfl (by exact HO5.out) rfl rfl (by simp [Value.oneCell']) ?a2 ?a3 ?a4 ?_)
            case a2 => omega
            case a3 => unfold maxLen; omega
            case a4 => exact hgs
            intro v6 w6 hown6 hu6 hat6
            have HO6 : Hid (((G.take (q + 1)).filter (needP G seen)).length ≤ q + 1 ∧ w6.ownsRow w4.heap.size 26 4 v6 ((G.take (q + 1)).filter (needP G seen)).length (entv ((G.take (q + 1)).filter (needP G seen)))) := Lib.hid (by
              rw [HKN.out, HFB.out, if_pos rfl, List.length_append, entv_append, entv_one]
              exact ⟨by have := HQL.out; simp; omega, hown6⟩)
            have HB6 := Lib.hid (below_row HB5.out hgs HO5.out (Nat.le_refl _) hu6)
            clear hown6 hu6 hat6 HO5 HB5 HKN HFB HQL d0 d1 d2 d3 hgs
            go_wp2
            go_roundw
            case rel => exact ⟨q + 1, by omega, by go_num, HO6, HB6⟩
            case measure => simp [intOf]; omega
        · have HKO : Hid ((keepG G seen).length ≤ 1073741824 ∧ wr.ownsRow w4.heap.size 26 4 u11 (keepG G seen).length (entv (keepG G seen))) := Lib.hid (by
            have h := HO.out
            rw [List.take_of_length_le (by rw [← HGL.out]; omega)] at h
            exact ⟨by have := h.1; unfold keepG; omega, h.2⟩)
          have hz2 : ¬ (q : Int) < (n : Int) := by omega
          clear HO
          obtain ⟨K, hK⟩ : ∃ K, keepG G seen = K := ⟨_, rfl⟩
          have htg : trimG b seen G = if b then cutD K else K := by unfold trimG; rw [hK]
          rw [hK] at HKO
          have HTG := Lib.hid htg
          obtain ⟨A5, c5, rfl⟩ := own_shape HKO.out.2
          have hcap := own_cap HKO.out.2
          have HRK := Lib.hid (Rd.own HKO.out.2)
          have HWW : Hid (Below w.heap.size w wr) := Lib.hid (HW.out.trans (HX.out.mono hbw))
          obtain ⟨p0, hp0⟩ : ∃ p0, K.length = p0 := ⟨_, rfl⟩
          have hp1 : p0 ≤ 1073741824 := by have := HKO.out.1; omega
          rw [hp0] at hcap HRK ⊢
          have HP0 := Lib.hid hp0
          clear HKO htg hK hp0 HM HKK
          obtain ⟨w6, rfl⟩ : ∃ w6, w6 = wr := ⟨_, rfl⟩
          go_wp2
          go_loopw [11] (fun ov wx => ∃ p : Nat, p ≤ p0 ∧ ov = .slice A5 p c5 ∧ (b = false → p = p0) ∧ Hid (cutD (K.take p) = cutD K) ∧ Hid (Below w6.heap.size w6 wx)) (fun ov _ => (match ov with | .slice _ p _ => p | _ => 0))
          case atStart => exact ⟨p0, Nat.le_refl _, rfl, fun _ => rfl, Lib.hid (by rw [List.take_of_length_le (by rw [HP0.out]; exact Nat.le_refl _)]), Lib.hid (Below.refl _ _)⟩
          case round =>
            obtain ⟨p, hp, rfl, hbp, HCU, HY⟩ := hrel
            have fin : ∀ l : List Ent, l = trimG b seen G → l = K.take p → ∀ wz, Below wr.heap.size wr wz → TrimPost w (trimG b seen G) (.returned (.slice A5 p c5)) wz := by
              intro l h1 h2 wz hz
              refine ⟨A5, p, c5, rfl, ?_, HWW.out.trans ((HY.out.mono HWW.out.size).trans (hz.mono (by have := HY.out.size; have := HWW.out.size; omega)))⟩
              rw [← h1, h2]
              have h3 := (HRK.out.take p hp)
              have h4 := (h3.below HY.out).below (hz.mono HY.out.size)
              have h5 : (entv K).take (p * 4) = entv (K.take p) := by
                have h6 : entv K = entv (K.take p) ++ entv (K.drop p) := by rw [← entv_append, List.take_append_drop]
                rw [h6, List.take_left' (by rw [entv_length, List.length_take]; congr 1; have := HP0.out; omega)]
              rw [h5] at h4
              exact h4.mono (by have := HY.out.size; have := hz.size; omega)
            have FIN := Lib.hid fin
            clear fin
            have hxs := HY.out.size
            cases b with
            | false =>
              obtain rfl := hbp rfl
              have HE : Hid (K.take p = trimG false seen G) := Lib.hid (by rw [HTG.out, if_neg (by decide), List.take_of_length_le (by rw [HP0.out]; exact Nat.le_refl _)])
              clear HCU
              go_wp2
              go_ret
              exact FIN.out _ HE.out rfl _ (Below.refl _ _)
            | true =>
              cases p with
              | zero =>
                have HE : Hid (K.take 0 = trimG true seen G) := Lib.hid (by rw [HTG.out, if_pos rfl, ← HCU.out]; rfl)
                clear HCU
                go_wp2
                go_ret
                exact FIN.out _ HE.out rfl _ (Below.refl _ _)
              | succ p =>
                obtain ⟨bb, off, rfl, hbl, hsq, e0, e1, e2, e3⟩ := (HRK.out.below HY.out).ent (show p < p0 by omega)
                have hgt : decide (((p + 1 : Nat) : Int) > 0) = true := decide_eq_true (by omega)
                have hws : IntKind.i64.wrap (((p + 1 : Nat) : Int) - 1) = (p : Int) := by rw [IntWalk.i64_in _ (by omega)]; omega
                have hpI : (p : Int) < ((p + 1 : Nat) : Int) := by omega
                have hcn := fun h => cut_next hsq h
                have hcs := fun h => cut_stop hsq h
                obtain ⟨d, hd⟩ : ∃ d, K[p].dead = d := ⟨_, rfl⟩
                rw [hd] at e2 hcn hcs
                cases d with
                | false =>
                  have HE : Hid (K.take (p + 1) = trimG true seen G) := Lib.hid (by rw [HTG.out, if_pos rfl, ← HCU.out, hcs rfl])
                  clear HCU hcn hcs hd e0 e1 e3
                  go_wp2
                  go_ret
                  exact FIN.out _ HE.out rfl _ (Below.refl _ _)
                | true =>
                  have HC2 : Hid (cutD (K.take p) = cutD K) := Lib.hid (by rw [← hcn rfl]; exact HCU.out)
                  have hpc : (p : Int) ≤ (c5 : Int) := by omega
                  clear HCU hcn hcs hd e0 e1 e3
                  go_wp2
                  go_roundw
                  case rel => exact ⟨p, by omega, rfl, fun h => (by cases h), HC2, HY⟩
                  case measure => simp
end Go.Proofs.Ytcfgmkiohmbdlaa
