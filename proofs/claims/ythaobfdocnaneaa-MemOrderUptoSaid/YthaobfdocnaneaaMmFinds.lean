/- Tables in memory: MemFinds, walked. -/
import Derived.Test.YthaobfdocnaneaaMmPlays
namespace Go.Proofs.Ythaobfdocnaneaa
open Go.RowKit
theorem tw_take {α : Type} (p : α → Bool) : ∀ l : List α, l.take (l.takeWhile p).length = l.takeWhile p
  | [] => rfl
  | x :: l => by
    rw [List.takeWhile_cons]
    split
    · rw [List.length_cons, List.take_succ_cons, tw_take p l]
    · rfl
theorem tw_mem {α : Type} {p : α → Bool} {l : List α} {x : α} (h : x ∈ l.takeWhile p) : p x = true := List.all_eq_true.1 (List.all_takeWhile (p := p) (l := l)) x h
theorem getE_drop (l : List Ent) (key : ByteArray) (sq : Int) : getE (l.drop (fromE l key)) key sq = getE l key sq := by
  unfold getE
  conv => rhs; rw [← List.take_append_drop (fromE l key) l]
  rw [List.find?_append]
  have h : (l.take (fromE l key)).find? (fun x => decide (x.key = key) && decide (x.seq ≤ sq)) = none := by
    rw [List.find?_eq_none]
    intro x hx
    have hk : Op.bytesLess x.key.toList key.toList = true := by
      unfold fromE at hx
      rw [tw_take] at hx
      exact tw_mem (p := fun e : Ent => Op.bytesLess e.key.toList key.toList) hx
    rw [decide_eq_false (less_ne hk), Bool.false_and]
    exact Bool.false_ne_true
  rw [h, Option.none_or]
theorem fromE_less (l : List Ent) (key : ByteArray) (j : Nat) (h : j < l.length) (hj : j < fromE l key) : Op.bytesLess l[j].key.toList key.toList = true := by
  have hm : l[j] ∈ l.take (fromE l key) := List.mem_iff_getElem.2 ⟨j, by rw [List.length_take]; omega, by rw [List.getElem_take]⟩
  unfold fromE at hm
  rw [tw_take] at hm
  exact tw_mem (p := fun e : Ent => Op.bytesLess e.key.toList key.toList) hm
theorem Rd.dropM {w : World} {B size n : Nat} {A : Option Addr} {xs : List Value} (h : Rd w B size A n xs) (k : Nat) (hk : k ≤ n) : Rd w B size (A.map fun x => x.add (k * size)) (n - k) (xs.drop (k * size)) := by
  cases A with
  | some ad => exact h.drop k hk
  | none =>
    have hn : n = 0 := by
      rcases Nat.eq_zero_or_pos n with h0 | h0
      · exact h0
      · obtain ⟨_, e, _⟩ := h.at_ h0
        cases e
    have hx : xs = [] := List.eq_nil_of_length_eq_zero (by rw [h.len, hn]; simp)
    subst hx
    rw [hn, Nat.zero_sub, List.drop_nil]
    exact Rd.nil
theorem getE_step (L : List Ent) (key : ByteArray) (sq : Int) (j : Nat) (h : j < L.length) : getE (L.drop j) key sq = if L[j].key = key ∧ L[j].seq ≤ sq then some L[j] else getE (L.drop (j + 1)) key sq := by
  unfold getE
  rw [List.drop_eq_getElem_cons h, List.find?_cons]
  by_cases h1 : L[j].key = key ∧ L[j].seq ≤ sq
  · rw [if_pos h1, decide_eq_true h1.1, decide_eq_true h1.2]; rfl
  · rw [if_neg h1]
    have : (decide (L[j].key = key) && decide (L[j].seq ≤ sq)) = false := by
      rw [Bool.and_eq_false_iff, decide_eq_false_iff_not, decide_eq_false_iff_not]
      by_cases h2 : L[j].key = key
      · exact .inr fun h3 => h1 ⟨h2, h3⟩
      · exact .inl h2
    rw [this]
set_option maxHeartbeats 8000000 in
set_option maxRecDepth 20000 in
theorem finds_any (w : World) (A0 : Option Addr) (n0 c0 : Nat) (a : List Int) (hr0 : Rd w w.heap.size 1 A0 n0 (a.map (Value.int .i64))) (hn0 : n0 ≤ 1048576) (A : Option Addr) (n c : Nat) (l : List Ent) (hr : Rd w w.heap.size 4 A n (entv l)) (hn : n ≤ 1048576)
    (hok : ∀ x ∈ l, -9223372036854775808 ≤ x.seq ∧ x.seq ≤ 9223372036854775807) (hz : sizE l ≤ 2097152) (key : ByteArray) (sq : Int) :
    Calls Try.prog 5 #[.slice A0 n0 c0, .slice A n c, .agg #[.string key, .int .i64 sq]] w fun e w' => e = .returned (.bool true) ∧ Below w.heap.size w w' := by
  have HR0 := Lib.hid hr0
  have HR := Lib.hid hr
  have HML := Lib.hid (rd_entlen hr)
  have HNA : Hid (a.length = n0) := Lib.hid (by have := hr0.len; simpa using this)
  have HOK := Lib.hid hok
  have HZ := Lib.hid hz
  clear hr0 hr hok hz
  go_enter Try.func5, Try.ntmps5
  go_wp2_with fail
  refine (mlives_any _).mono ?_
  rintro e w1 ⟨rfl, hb1⟩
  have hnk := heap_alloc_new w (.cells #[.string key, .int .i64 sq] 53)
  have hk1 := (hb1.block _ (by simp)).trans hnk
  have k0 : w1.cell? ⟨w.heap.size, 0, none⟩ = some (.string key) := by rw [cell_of_row _ _ 0 _ _ _ hk1]; rfl
  have k1 : w1.cell? ⟨w.heap.size, 1, none⟩ = some (.int .i64 sq) := by rw [cell_of_row _ _ 1 _ _ _ hk1]; rfl
  have hb := (below_alloc w (.cells #[.string key, .int .i64 sq] 53)).trans (hb1.mono (by simp))
  have HB1 := Lib.hid hb
  clear hb hb1 hnk hk1
  go_wp2
  first
    | go_quiet (fail)
    | fail
  have HB2 := Lib.hid (below_drewNs HB1.out nq)
  generalize w1.drewN nq = w2 at HB2 ⊢
  clear k0 k1 HB1
  go_wp2_with fail
  refine (new_any _ A0 n0 c0 a ((HR0.out.below HB2.out).mono HB2.out.size) (by omega)).mono ?_
  rintro e w3 ⟨t, hv, rfl, hsk, hb3⟩
  have HB3 := Lib.hid (HB2.out.trans (hb3.mono HB2.out.size))
  have hBl : w.heap.size ≤ w2.heap.size := HB2.out.size
  generalize w2.heap.size = B at hsk hBl
  have HSK := Lib.hid hsk
  clear hb3 hsk HB2
  have hhl : (highs a).length ≤ 17592186044416 := by rw [highs_len, HNA.out]; omega
  go_wp2_with fail
  refine (add_any _ HSK.out A n c l ((HR.out.below HB3.out).mono HB3.out.size) (fun h0 ad e => ?_) (by omega) (by omega) hhl (by simp; omega) (by have h1 := HZ.out; have h2 : sizE (ents ([] : List Nd)) = 0 := rfl; omega)).mono ?_
  · obtain ⟨ad', e', hlt, _⟩ := HR.out.at_ h0
    rw [e] at e'
    injection e' with e'
    subst e'
    exact foot_old HSK.out (Nat.lt_of_lt_of_le hlt hBl)
  rintro e w4 ⟨nk, tk, rfl, had⟩
  have HB4 := Lib.hid (HB3.out.trans (had.below HSK.out hBl HB3.out.size))
  have HAD := Lib.hid had.skip
  have hlk : nk.length ≤ 1048576 := by have := had.len; have h2 := HML.out; simp at this; omega
  have hfe : fromAt nk key = fromE (ents nk) key := fromAt_fromE nk key (fun d hd => by
    have h1 : d.x ∈ l.foldl insE [] := by
      have := had.list
      rw [show ents ([] : List Nd) = [] from rfl] at this
      rw [← this]
      exact List.mem_map.2 ⟨d, hd, rfl⟩
    rcases foldE_mem h1 with h2 | ⟨x, hx, e⟩
    · cases h2
    · rw [e, clean_seq]
      exact (HOK.out x hx).2)
  have hel : (ents nk).length = nk.length := by simp [ents]
  have hfl := fromE_le (ents nk) key
  obtain ⟨f, hf⟩ : ∃ f, f = fromE (ents nk) key := ⟨_, rfl⟩
  rw [← hf] at hfe hfl
  obtain ⟨N, hg⟩ : ∃ N, nk.length = N := ⟨_, rfl⟩
  obtain ⟨g, hN⟩ : ∃ g, N = f + g := ⟨N - f, by omega⟩
  have HF := Lib.hid (fun W (hW : Below w4.heap.size w4 W) => fromk_any W key (had.skip.below hW) (by omega))
  have HA := Lib.hid (fun W (hW : Below w4.heap.size w4 W) => all_any W (had.skip.below hW) (by omega))
  have HG := Lib.hid (fun W (hW : Below w4.heap.size w4 W) => get_go W key sq (had.skip.below hW))
  rw [hfe, hg, show N - f = g by omega] at HF
  rw [hg] at HA
  have HFE := Lib.hid hf
  have HNG := Lib.hid hg
  have HEL := Lib.hid hel
  have hfg : N ≤ 1048576 := by omega
  have hNg : (N : Int) - (g : Int) = (f : Int) := by omega
  have hgN : (g : Int) ≤ (N : Int) := by omega
  have hgN2 : g ≤ N := by omega
  have hfN : f ≤ N := by omega
  have bgN : decide (N < g) = false := decide_eq_false (by omega)
  have HN := Lib.hid hN
  clear had hfe hf hg hel hlk hfl HAD hN
  go_wp2_with fail
  refine (HF.out _ (Below.refl _ _)).mono ?_
  rintro e w5 ⟨v5, rfl, ho5, hb5⟩
  obtain ⟨A5, c5, rfl, hnc5, hr5⟩ := own_full ho5
  have HB5 := Lib.hid hb5
  have HR5 := Lib.hid hr5
  clear ho5 hb5 hr5
  go_wp2_with fail
  refine (HA.out _ HB5.out).mono ?_
  rintro e w6 ⟨v6, rfl, ho6, hb6⟩
  obtain ⟨A6, c6, rfl, hnc6, hr6⟩ := own_full ho6
  have HB6 := Lib.hid (HB5.out.trans (hb6.mono HB5.out.size))
  have HR6 := Lib.hid hr6
  have HR7 := Lib.hid ((HR5.out.below hb6).mono hb6.size)
  clear ho6 hb6 hr6
  change Hid (Rd w6 w6.heap.size 4 A6 N (entv (ents nk))) at HR6
  change Hid (Rd w6 w6.heap.size 4 A5 g (entv ((ents nk).drop f))) at HR7
  go_upto_region 7 with (fail)
  go_cut [70] (fun rv wc => rv = .bool false ∧ Hid (∃ m, wc = w6.drewN m))
  case first =>
    have HSM := Lib.hid (fun (A' : Option Addr) (c' : Nat) (h : Rd w6 w6.heap.size 4 A' g (entv ((ents nk).drop f))) => same6_yes A' A5 g c' c5 _ ((ents nk).drop f) w6 (by unfold maxLen; omega) h HR7.out)
    have HRD : Hid (Rd w6 w6.heap.size 4 (A6.map fun x => x.add (f * 4)) g (entv ((ents nk).drop f))) := Lib.hid (by
      have := HR6.out.dropM f hfN
      rw [entv_drop, show N - f = g by have := HN.out; omega] at this
      exact this)
    have HNL : Hid (g = 0 → ∀ A', Rd w6 w6.heap.size 4 A' g (entv ((ents nk).drop f))) := Lib.hid fun h A' => by
      rw [List.drop_eq_nil_of_le (by have := HEL.out; have := HNG.out; have := HN.out; omega), h]
      exact Rd.nil
    rcases Nat.eq_zero_or_pos f with hf0 | hf0
    · subst hf0
      have HR8 : Hid (Rd w6 w6.heap.size 4 A6 g (entv ((ents nk).drop 0))) := Lib.hid (by
        have := HR6.out
        rw [show N = g by have := HN.out; omega] at this
        exact this)
      obtain rfl : N = g := by have := HN.out; omega
      by_cases hcf : c6 = 0
      · subst hcf
        obtain rfl : N = 0 := by omega
        go_wp2_with fail
        refine (HSM.out _ _ (by exact HNL.out (by first | trivial | rfl) _)).mono ?_
        rintro e w7 ⟨rfl, m, hw7⟩
        have HW7 : Hid (∃ m, w7 = w6.drewN m) := Lib.hid ⟨m, hw7⟩
        clear hw7
        go_wp2
        go_meet
        case rel => exact ⟨rfl, HW7⟩
      · go_wp2_with fail
        refine (HSM.out _ _ (by exact HR8.out)).mono ?_
        rintro e w7 ⟨rfl, m, hw7⟩
        have HW7 : Hid (∃ m, w7 = w6.drewN m) := Lib.hid ⟨m, hw7⟩
        clear hw7
        go_wp2
        go_meet
        case rel => exact ⟨rfl, HW7⟩
    · obtain ⟨f', rfl⟩ : ∃ f', f = f' + 1 := ⟨f - 1, by omega⟩
      have hfN' : f' < N := by omega
      obtain ⟨b, off, rfl, hB, hs, c0, c1, c2, c3⟩ := HR6.out.ent (k := f') hfN'
      have hless := fromE_less (ents nk) key f' hs (by rw [← HFE.out]; omega)
      obtain ⟨q, hq⟩ : ∃ q, q = (ents nk)[f'].key := ⟨_, rfl⟩
      rw [← hq] at c0 hless
      clear hq c1 c2 c3
      have bgM : decide (g < N) = true := decide_eq_true (by have := HN.out; omega)
      have bgL : g < N := by have := HN.out; omega
      have hfi : (f' : Int) < N := by omega
      have hf0i : (0 : Int) ≤ f' := by omega
      have hNg2 : (N : Int) - (g : Int) = (f' : Int) + 1 := by omega
      have hNg3 : N - (f' + 1) = g := by have := HN.out; omega
      clear hNg
      by_cases hcf : c6 = f' + 1
      · subst hcf
        obtain rfl : N = f' + 1 := by omega
        obtain rfl : g = 0 := by have := HN.out; omega
        go_wp2_with fail
        refine (HSM.out _ _ (by exact HNL.out (by first | trivial | rfl) _)).mono ?_
        rintro e w7 ⟨rfl, m, hw7⟩
        have HW7 : Hid (∃ m, w7 = w6.drewN m) := Lib.hid ⟨m, hw7⟩
        have c0' : w7.cell? ⟨b, off + f' * 4, none⟩ = some (.string q) := by rw [hw7]; exact c0
        clear hw7 c0
        go_wp2
        go_meet
        case rel => exact ⟨rfl, HW7⟩
      · go_wp2_with fail
        refine (HSM.out _ _ (by exact HRD.out)).mono ?_
        rintro e w7 ⟨rfl, m, hw7⟩
        have HW7 : Hid (∃ m, w7 = w6.drewN m) := Lib.hid ⟨m, hw7⟩
        have c0' : w7.cell? ⟨b, off + f' * 4, none⟩ = some (.string q) := by rw [hw7]; exact c0
        clear hw7 c0
        go_wp2
        go_meet
        case rel => exact ⟨rfl, HW7⟩
  case rest =>
    obtain ⟨rfl, hwc⟩ := hcut
    have HBC : Hid (Below w4.heap.size w4 wc) := Lib.hid (by
      obtain ⟨m, e⟩ := hwc.out
      rw [e]
      exact below_drewNs HB6.out m)
    have HRC : Hid (Rd wc wc.heap.size 4 A5 g (entv ((ents nk).drop f))) := Lib.hid (by
      obtain ⟨m, e⟩ := hwc.out
      rw [e]
      exact HR7.out.drewN m)
    clear hwc HR7 HR6 HB6 HR5 HB5 HF HA
    obtain ⟨L, hL⟩ : ∃ L, L = (ents nk).drop f := ⟨_, rfl⟩
    rw [← hL] at HRC
    have hLl : L.length = g := by rw [hL, List.length_drop]; have := HEL.out; have := HNG.out; have := HN.out; omega
    have HLL := Lib.hid hLl
    have hgl : getE L key sq = getE (ents nk) key sq := by rw [hL, HFE.out]; exact getE_drop _ _ _
    rw [← hgl] at HG
    clear hL hgl hLl
    obtain ⟨hwb, hrow0⟩ : Hid (Below wc.heap.size wc (wc.alloc (.cells #[.string ⟨#[]⟩, .int .i64 0, .bool false, .string ⟨#[]⟩] 27))) ∧ Hid ((wc.alloc (.cells #[.string ⟨#[]⟩, .int .i64 0, .bool false, .string ⟨#[]⟩] 27)).heap[wc.heap.size]? = some (.cells noEnt.cells.toArray 27 (0, 0))) := ⟨Lib.hid (below_alloc _ _), Lib.hid (heap_alloc_new _ _)⟩
    have hg0 : getE (L.drop g) key sq = none := by rw [List.drop_eq_nil_of_le (by have := HLL.out; omega)]; rfl
    have HG0 := Lib.hid hg0
    clear hg0
    go_wp2
    go_loopw [13, 14] (fun ov i wx => ∃ (j : Nat) (want : Ent) (gb : Bool), j ≤ g ∧ i = .int .i64 ((j : Int) - 1) ∧ ov = .bool gb ∧ Hid (want = (getE (L.drop j) key sq).getD noEnt ∧ gb = (getE (L.drop j) key sq).isSome) ∧ Hid (wx.heap[wc.heap.size]? = some (.cells want.cells.toArray 27 (0, 0))) ∧ Hid (Below wc.heap.size wc wx)) (fun _ i _ => (intOf i + 1).toNat)
    case atStart => exact ⟨g, noEnt, false, Nat.le_refl _, rfl, rfl, Lib.hid (by rw [HG0.out]; exact ⟨rfl, rfl⟩), hrow0, hwb⟩
    case round =>
      obtain ⟨j, want, gb, hj, rfl, rfl, hwg, hrow, hbw⟩ := hrel
      by_cases hj0 : 0 < j
      · obtain ⟨i, rfl⟩ : ∃ i, j = i + 1 := ⟨j - 1, by omega⟩
        rw [show ((i + 1 : Nat) : Int) - 1 = (i : Int) by omega]
        have hrx := HRC.out.below hbw.out
        obtain ⟨b, off, rfl, hB, hs, d0, d1, d2, d3⟩ := hrx.ent (k := i) (by omega)
        have hst := getE_step L key sq i hs
        obtain ⟨q, hq⟩ : ∃ q, L[i] = q := ⟨_, rfl⟩
        rw [hq] at d0 d1 d2 d3 hst
        obtain ⟨qk, qs, qd, qv⟩ := q
        change wr.cell? ⟨b, off + i * 4, none⟩ = some (.string qk) at d0
        change wr.cell? ⟨b, off + i * 4 + 1, none⟩ = some (.int .i64 qs) at d1
        change wr.cell? ⟨b, off + i * 4 + 2, none⟩ = some (.bool qd) at d2
        change wr.cell? ⟨b, off + i * 4 + 3, none⟩ = some (.string qv) at d3
        change getE (L.drop i) key sq = if qk = key ∧ qs ≤ sq then _ else _ at hst
        have HST := Lib.hid hst
        have i1 : (0 : Int) ≤ (i : Int) := by omega
        have i2 : (i : Int) < (g : Int) := by omega
        clear hq hst hrx
        by_cases e1 : qk = key
        · subst e1
          by_cases e2 : qs ≤ sq
          · have f0 : wr.frozen? ⟨wc.heap.size, 0, none⟩ = false := frozen_of_row _ _ _ _ _ hrow.out
            have f1 : wr.frozen? ⟨wc.heap.size, 1, none⟩ = false := frozen_of_row _ _ _ _ _ hrow.out
            have f2 : wr.frozen? ⟨wc.heap.size, 2, none⟩ = false := frozen_of_row _ _ _ _ _ hrow.out
            have f3 : wr.frozen? ⟨wc.heap.size, 3, none⟩ = false := frozen_of_row _ _ _ _ _ hrow.out
            have z0 : wr.cell? ⟨wc.heap.size, 0, none⟩ = some (.string want.key) := by rw [cell_of_row _ _ 0 _ _ _ hrow.out]; rfl
            have z1 : wr.cell? ⟨wc.heap.size, 1, none⟩ = some (.int .i64 want.seq) := by rw [cell_of_row _ _ 1 _ _ _ hrow.out]; rfl
            have z2 : wr.cell? ⟨wc.heap.size, 2, none⟩ = some (.bool want.dead) := by rw [cell_of_row _ _ 2 _ _ _ hrow.out]; rfl
            have z3 : wr.cell? ⟨wc.heap.size, 3, none⟩ = some (.string want.val) := by rw [cell_of_row _ _ 3 _ _ _ hrow.out]; rfl
            have HN2 : Hid ((⟨qk, qs, qd, qv⟩ : Ent) = (getE (L.drop i) qk sq).getD noEnt ∧ true = (getE (L.drop i) qk sq).isSome) := Lib.hid (by rw [HST.out, if_pos ⟨rfl, e2⟩]; exact ⟨rfl, rfl⟩)
            have hbz := hbw.out.size
            clear hwg HG HG0 HST
            go_wp2
            have hF := row4 wr wc.heap.size _ _ _ _ _ (.string qk) (.int .i64 qs) (.bool qd) (.string qv) hrow.out
            generalize ((((wr.setCell ⟨wc.heap.size, 0, none⟩ (.string qk)).setCell ⟨wc.heap.size, 1, none⟩ (.int .i64 qs)).setCell ⟨wc.heap.size, 2, none⟩ (.bool qd)).setCell ⟨wc.heap.size, 3, none⟩ (.string qv)) = wF at hF ⊢
            have hbF : Below wc.heap.size wc wF := hbw.out.trans (hF.2.below (fun k hk e => by omega) hbz)
            have HBF := Lib.hid hbF
            have HRF : Hid (wF.heap[wc.heap.size]? = some (.cells (Ent.cells ⟨qk, qs, qd, qv⟩).toArray 27 (0, 0))) := Lib.hid hF.1
            clear hF hbF
            go_wp2
            go_roundw
            case rel => exact ⟨i, ⟨qk, qs, qd, qv⟩, true, by omega, by go_num, rfl, HN2, HRF, HBF⟩
            case measure => simp [intOf]
          · have e3 : decide (qs ≤ sq) = false := decide_eq_false e2
            have HN : Hid (want = (getE (L.drop i) qk sq).getD noEnt ∧ gb = (getE (L.drop i) qk sq).isSome) := Lib.hid (by rw [HST.out, if_neg (fun h => e2 h.2)]; exact hwg.out)
            clear e2 hwg
            go_wp2
            go_roundw
            case rel => exact ⟨i, want, gb, by omega, by go_num, rfl, HN, hrow, hbw⟩
            case measure => simp [intOf]
        · have e3 := str_ne e1
          have HN : Hid (want = (getE (L.drop i) key sq).getD noEnt ∧ gb = (getE (L.drop i) key sq).isSome) := Lib.hid (by rw [HST.out, if_neg (fun h => e1 h.1)]; exact hwg.out)
          clear e1 hwg
          go_wp2
          go_roundw
          case rel => exact ⟨i, want, gb, by omega, by go_num, rfl, HN, hrow, hbw⟩
          case measure => simp [intOf]
      · obtain rfl : j = 0 := by omega
        rw [show ((0 : Nat) : Int) - 1 = -1 by omega]
        rw [List.drop_zero] at hwg
        have z0 : wr.cell? ⟨wc.heap.size, 0, none⟩ = some (.string want.key) := by rw [cell_of_row _ _ 0 _ _ _ hrow.out]; rfl
        have z1 : wr.cell? ⟨wc.heap.size, 1, none⟩ = some (.int .i64 want.seq) := by rw [cell_of_row _ _ 1 _ _ _ hrow.out]; rfl
        have z2 : wr.cell? ⟨wc.heap.size, 2, none⟩ = some (.bool want.dead) := by rw [cell_of_row _ _ 2 _ _ _ hrow.out]; rfl
        have z3 : wr.cell? ⟨wc.heap.size, 3, none⟩ = some (.string want.val) := by rw [cell_of_row _ _ 3 _ _ _ hrow.out]; rfl
        have HBR : Hid (Below w4.heap.size w4 wr) := Lib.hid (HBC.out.trans (hbw.out.mono HBC.out.size))
        have hlt := (Array.getElem?_eq_some_iff.1 hrow.out).1
        go_wp2_with fail
        refine (HG.out _ HBR.out).mono ?_
        rintro e w7 ⟨y, gb2, hyy, rfl, hb7⟩
        obtain rfl : y = want := hyy.out.1.trans hwg.out.1.symm
        obtain rfl : gb2 = gb := hyy.out.2.trans hwg.out.2.symm
        have z0' := (hb7.cell (p := ⟨wc.heap.size, 0, none⟩) hlt).trans z0
        have z1' := (hb7.cell (p := ⟨wc.heap.size, 1, none⟩) hlt).trans z1
        have z2' := (hb7.cell (p := ⟨wc.heap.size, 2, none⟩) hlt).trans z2
        have z3' := (hb7.cell (p := ⟨wc.heap.size, 3, none⟩) hlt).trans z3
        have HB7 : Hid (Below w.heap.size w w7) := Lib.hid (HB4.out.trans ((HBR.out.trans (hb7.mono HBR.out.size)).mono HB4.out.size))
        have hlt7 : wc.heap.size < w7.heap.size := Nat.lt_of_lt_of_le hlt hb7.size
        clear z0 z1 z2 z3 hb7 hyy hwg
        go_wp2
        go_ret
        exact ⟨rfl, HB7.out.alloc HB7.out.size _⟩
end Go.Proofs.Ythaobfdocnaneaa
