/- Tables in memory: MemPlays, walked. -/
import Derived.Test.YthaobfdocnaneaaMmLives
import Derived.Test.YthaobfdocnaneaaSame6
namespace Go.Proofs.Ythaobfdocnaneaa
open Go.RowKit
section
variable {w w' w1 : World} {B t : Nat} {ns ns' : List Nd} {turn turn' : Int} {hv : Value} {hs : List Int} {l : List Ent}
theorem Added.after (h : Added w w1 B t ns ns' hv hs turn turn' l) (hb : Below w1.heap.size w1 w') : Added w w' B t ns ns' hv hs turn turn' l :=
  ⟨h.skip.below hb, h.list, h.turn0, h.turn1, h.len, h.size, h.upd.trans (Upd.of_below (S := fun _ => False) hb) (fun _ _ h => h.elim), h.new⟩
/-- What is done first, ahead of it. -/
theorem Added.before (h : Added w1 w' B t ns ns' hv hs turn turn' l) (hb : Below w.heap.size w w1) : Added w w' B t ns ns' hv hs turn turn' l :=
  ⟨h.skip, h.list, h.turn0, h.turn1, h.len, h.size, (Upd.of_below (S := foot t ns) hb).trans h.upd (fun _ _ h => h), fun d hd => (h.new d hd).imp id fun h => Nat.le_trans hb.size h⟩
end
theorem own_full {w : World} {base size n : Nat} {e : TypeId} {v : Value} {xs : List Value} (h : w.ownsRow base e size v n xs) : ∃ A c, v = .slice A n c ∧ n ≤ c ∧ Rd w w.heap.size size A n xs := by
  obtain ⟨A, c, rfl⟩ := own_shape h
  refine ⟨A, c, rfl, ?_, Rd.own h⟩
  rcases Nat.eq_zero_or_pos n with h0 | h0
  · omega
  · obtain ⟨g, cap, hv, _, _, h1, _⟩ := own_form h h0
    injection hv with _ _ e
    omega
theorem agg_inj {a b : Ent} (h : a = b) : a.agg = b.agg := by rw [h]
theorem get_go {B t : Nat} {ns : List Nd} {n bytes turn : Int} {hv : Value} {hs : List Int} (w : World) (key : ByteArray) (sq : Int) (h : Skip w B t ns n bytes hv hs turn) :
    Calls Try.prog 16 #[.pointer (some ⟨t, 0, none⟩), .string key, .int .i64 sq] w fun e w' => ∃ (y : Ent) (gb : Bool), Hid (y = (getE (ents ns) key sq).getD noEnt ∧ gb = (getE (ents ns) key sq).isSome) ∧ e = .returned (.tuple #[.agg #[.string y.key, .int .i64 y.seq, .bool y.dead, .string y.val], .bool gb]) ∧ Below w.heap.size w w' := by
  have := get_any w key sq h
  rw [getN_getE _ _ _ h.rise] at this
  exact this.mono fun e w' h => ⟨_, _, Lib.hid ⟨rfl, rfl⟩, h.1, h.2⟩
theorem rget_go (w : World) (A : Option Addr) (n c : Nat) (l : List Ent) (key : ByteArray) (sq : Int) (hr : Rd w w.heap.size 4 A n (entv l)) (hn : n ≤ 1099511627776) :
    Calls Try.prog 17 #[.slice A n c, .string key, .int .i64 sq] w fun e w' => ∃ (y : Ent) (gb : Bool), Hid (y = (getE l key sq).getD noEnt ∧ gb = (getE l key sq).isSome) ∧ e = .returned (.tuple #[.agg #[.string y.key, .int .i64 y.seq, .bool y.dead, .string y.val], .bool gb]) ∧ Below w.heap.size w w' :=
  (rget_any w A n c l key sq hr hn).mono fun e w' h => ⟨_, _, Lib.hid ⟨rfl, rfl⟩, h.1, h.2⟩
set_option maxHeartbeats 8000000 in
set_option maxRecDepth 20000 in
theorem plays_any (w : World) (A0 : Option Addr) (n0 c0 : Nat) (a : List Int) (hr0 : Rd w w.heap.size 1 A0 n0 (a.map (Value.int .i64))) (hn0 : n0 ≤ 1048576) (A : Option Addr) (n c : Nat) (l : List Ent) (key : ByteArray) (hr : Rd w w.heap.size 4 A n (entv l)) (hn : n ≤ 1048576)
    (hok : ∀ x ∈ l, -9223372036854775808 ≤ x.seq ∧ x.seq ≤ 9223372036854775807) (hz : sizE l ≤ 2097152) :
    Calls Try.prog 4 #[.slice A0 n0 c0, .slice A n c, .string key] w fun e w' => e = .returned (.bool true) ∧ Below w.heap.size w w' := by
  have HR0 := Lib.hid hr0
  have HR := Lib.hid hr
  have HML := Lib.hid (rd_entlen hr)
  have HNA : Hid (a.length = n0) := Lib.hid (by have := hr0.len; simpa using this)
  have HOK := Lib.hid hok
  have HZ := Lib.hid hz
  clear hr0 hr hok hz
  go_enter Try.func4, Try.ntmps4
  go_wp2_with fail
  refine (mlives_any _).mono ?_
  rintro e w1 ⟨rfl, hb1⟩
  go_wp2_with fail
  refine (new_any _ A0 n0 c0 a ((HR0.out.below hb1).mono hb1.size) (by omega)).mono ?_
  rintro e w2 ⟨t, hv, rfl, hsk, hb2⟩
  have hb := bel hb1 hb2
  have hBl : w.heap.size ≤ w1.heap.size := hb1.size
  generalize w1.heap.size = B at hsk hBl
  have HSK := Lib.hid hsk
  have HB := Lib.hid hb
  clear hb1 hb2 hsk hb
  go_wp2_with fail
  refine (len_any _ HSK.out).mono ?_
  rintro e w4 ⟨rfl, hw4⟩
  subst hw4
  have hhl : (highs a).length ≤ 17592186044416 := by rw [highs_len, HNA.out]; omega
  rename World => w2
  go_wp2
  go_loopw [8, 31] (fun mv i wx => ∃ (k : Nat) (nk : List Nd) (tk : Int), k ≤ n ∧ i = .int .i64 (k : Int) ∧ Hid (Added w2 wx B t [] nk hv (highs a) 0 tk (l.take k)) ∧ Hid (wx.ownsRow w.heap.size 27 4 mv nk.length (entv (ents nk)) ∧ ∀ b, mv.ownBlock = some b → ¬ foot t nk b) ∧ Hid (Below w.heap.size w wx)) (fun _ i _ => n - (intOf i).toNat)
  case atStart => exact ⟨0, [], 0, Nat.zero_le _, rfl, Lib.hid (Added.refl HSK.out), Lib.hid ⟨World.ownsRow_nil _ _ _ _, fun b e => by simp [Value.ownBlock] at e⟩, HB⟩
  case round =>
    obtain ⟨k, nk, tk, hkn, rfl, had, hmv, hb⟩ := hrel
    obtain ⟨A2, c2, rfl, hnc2, hrm⟩ := own_full hmv.out.1
    by_cases hlt : k < n
    · have hrx := HR.out.below hb.out
      obtain ⟨b, off, rfl, hB, hs, d0, d1, d2, d3⟩ := hrx.ent hlt
      obtain ⟨q, hq⟩ : ∃ q, l[k] = q := ⟨_, rfl⟩
      have HQ := Lib.hid hq
      rw [hq] at d0 d1 d2 d3
      have hqs := HOK.out _ (List.getElem_mem hs)
      rw [hq] at hqs
      obtain ⟨hq0, hq1⟩ := hqs
      obtain ⟨qk, qs, qd, qv⟩ := q
      change wr.cell? ⟨b, off + k * 4, none⟩ = some (.string qk) at d0
      change wr.cell? ⟨b, off + k * 4 + 1, none⟩ = some (.int .i64 qs) at d1
      change wr.cell? ⟨b, off + k * 4 + 2, none⟩ = some (.bool qd) at d2
      change wr.cell? ⟨b, off + k * 4 + 3, none⟩ = some (.string qv) at d3
      have i1 : (0 : Int) ≤ (k : Int) := by omega
      have i2 : (k : Int) < (n : Int) := by omega
      have hst : l.take (k + 1) = l.take k ++ [⟨qk, qs, qd, qv⟩] := by rw [List.take_succ_eq_append_getElem hs, hq]
      have hzt := sizE_take l (k + 1)
      rw [hst, sizE_append] at hzt
      have HZT := Lib.hid hzt
      have HST := Lib.hid hst
      have hba : Below wr.heap.size wr ((wr.alloc (.cells #[.string qk, .int .i64 qs, .bool qd, .string qv] 27)).alloc (.cells #[.string qk, .int .i64 qs, .bool qd, .string qv] 27)) := ((below_alloc _ _).alloc (by simp) _)
      have HBA := Lib.hid hba
      have hlk := had.out.len
      rw [List.length_take] at hlk
      have ht0 := had.out.turn0
      have ht1 := had.out.turn1
      rw [List.length_take] at ht1
      have hadd := add_any _ (had.out.skip.below hba) (some ⟨wr.heap.size + 1, 0, none⟩) 1 1 [⟨qk, qs, qd, qv⟩] (by
        have := rd_new (wr.alloc (.cells #[.string qk, .int .i64 qs, .bool qd, .string qv] 27)) 4 1 #[.string qk, .int .i64 qs, .bool qd, .string qv] 27 (entv [⟨qk, qs, qd, qv⟩]) rfl rfl
        simpa using this) (fun _ ad e => by injection e with e; subst e; exact foot_new had.out.skip (Nat.le_succ _)) ht0 (by omega) hhl (by simp at hlk; omega) (by
          have := had.out.size
          have h1 := HZ.out
          have h2 := HZT.out
          have h3 : sizE (ents ([] : List Nd)) = 0 := rfl
          omega)
      have HADD := Lib.hid hadd
      clear hq hrx hst hzt hba hadd ht0 ht1 hlk
      go_wp2_with fail
      refine HADD.out.mono ?_
      rintro e w3 ⟨nk', tk', rfl, had'⟩
      have hba3 := had'.before HBA.out
      have had2 := had.out.snoc hba3
      rw [← HST.out] at had2
      have hxr : w3.heap[wr.heap.size]? = some (.cells #[.string qk, .int .i64 qs, .bool qd, .string qv] 27 (0, 0)) := by
        rw [had'.upd.block _ (by simp; omega) (foot_new had.out.skip (Nat.le_refl _)), heap_alloc_old _ _ (by simp)]
        exact heap_alloc_new _ _
      have x0 : w3.cell? ⟨wr.heap.size, 0, none⟩ = some (.string qk) := by rw [cell_of_row _ _ 0 _ _ _ hxr]; rfl
      have x1 : w3.cell? ⟨wr.heap.size, 1, none⟩ = some (.int .i64 qs) := by rw [cell_of_row _ _ 1 _ _ _ hxr]; rfl
      have x2 : w3.cell? ⟨wr.heap.size, 2, none⟩ = some (.bool qd) := by rw [cell_of_row _ _ 2 _ _ _ hxr]; rfl
      have x3 : w3.cell? ⟨wr.heap.size, 3, none⟩ = some (.string qv) := by rw [cell_of_row _ _ 3 _ _ _ hxr]; rfl
      have hm3 := Rd.own (own_upd hmv.out.1 hba3.upd hmv.out.2)
      have hle2 : ents nk' = insE (ents nk) ⟨qk, qs, qd, qv⟩ := hba3.list
      have hlk := had2.len
      rw [List.length_take] at hlk
      have hlk' : nk'.length ≤ 1048576 := by simp at hlk; omega
      have hlk0 : nk.length ≤ 1048576 := by have := had.out.len; rw [List.length_take] at this; simp at this; omega
      have HRA := Lib.hid (radd_any w3 A2 nk.length c2 (ents nk) ⟨qk, qs, qd, qv⟩ hm3 (by omega) hnc2)
      have hbw3 : Below w.heap.size w w3 := hb.out.trans (had'.below (had.out.skip.below HBA.out) hBl (Nat.le_trans hb.out.size HBA.out.size) |> fun h => (HBA.out.mono hb.out.size).trans h)
      have HB3 := Lib.hid hbw3
      have HAD2 := Lib.hid had2
      have HLE2 := Lib.hid hle2
      have HXR := Lib.hid hxr
      have hxl : wr.heap.size < w3.heap.size := (Array.getElem?_eq_some_iff.1 hxr).1
      clear hba3 had' had2 hxr hm3 hle2 hlk hbw3 d0 d1 d2 d3 HBA HADD hrm had hb hmv
      go_wp2_with fail
      refine HRA.out.mono ?_
      rintro e w4 ⟨v4, rfl, ho4, hb4⟩
      have hlen : (insE (ents nk) ⟨qk, qs, qd, qv⟩).length = nk'.length := by rw [← HLE2.out]; simp [ents]
      rw [← HLE2.out] at ho4
      rw [show (ents nk').length = nk'.length by simp [ents]] at ho4
      have HB4 := Lib.hid (HB3.out.trans (hb4.mono HB3.out.size))
      have HAD4 := Lib.hid (HAD2.out.after hb4)
      have hnf : ∀ b, v4.ownBlock = some b → ¬ foot t nk' b := fun b e => foot_new HAD2.out.skip (ho4.lt b e).1
      have x0' := (hb4.cell (p := ⟨wr.heap.size, 0, none⟩) hxl).trans x0
      have x1' := (hb4.cell (p := ⟨wr.heap.size, 1, none⟩) hxl).trans x1
      have HO4 := Lib.hid (own_mono ho4 HB3.out.size)
      have HNF := Lib.hid hnf
      obtain ⟨A4, c4, rfl, hnc4, hrm4⟩ := own_full ho4
      have HRM := Lib.hid hrm4
      have hxl4 : wr.heap.size < w4.heap.size := Nat.lt_of_lt_of_le hxl hb4.size
      have HEX : Hid (∀ W, Below w4.heap.size w4 W → ∃ (k_1 : Nat) (nk_1 : List Nd) (tk_1 : Int), k_1 ≤ n ∧ Value.int .i64 ((k : Int) + 1) = .int .i64 (k_1 : Int) ∧ Hid (Added w2 W B t [] nk_1 hv (highs a) 0 tk_1 (l.take k_1)) ∧ Hid (W.ownsRow w.heap.size 27 4 (.slice A4 nk'.length c4) nk_1.length (entv (ents nk_1)) ∧ ∀ b, (Value.slice A4 nk'.length c4).ownBlock = some b → ¬ foot t nk_1 b) ∧ Hid (Below w.heap.size w W)) := Lib.hid fun W hW =>
        ⟨k + 1, nk', tk', by omega, by go_num, Lib.hid (HAD4.out.after hW), Lib.hid ⟨own_upd HO4.out (Upd.of_below (S := fun _ => False) hW) (fun _ _ h => h), HNF.out⟩, Lib.hid (HB4.out.trans (hW.mono HB4.out.size))⟩
      clear x0 x1 x2 x3 ho4 hnf hrm4 hlen hb4 HNF HO4 HRA HB3 HAD2 HXR
      by_cases hk40 : k < 40
      · have hsz : sizE (ents nk') ≤ 2305843009213693952 := by
          have h1 := HAD4.out.size
          have h2 := HZ.out
          have h3 := sizE_take l (k + 1)
          have h4 : sizE (ents ([] : List Nd)) = 0 := rfl
          omega
        have HSZ := Lib.hid hsz
        clear hsz
        go_wp2_with fail
        all_goals
          refine (get_go _ qk _ HAD4.out.skip).mono ?_
          rintro e w5 ⟨y, gb, hyy, rfl, hb5⟩
          have hb5' := hb5
          have y0 := (hb5.cell (p := ⟨wr.heap.size, 0, none⟩) hxl4).trans x0'
          have hxl5 : wr.heap.size < w5.heap.size := Nat.lt_of_lt_of_le hxl4 hb5.size
          have HB5 := Lib.hid hb5
          clear x0' x1' hb5 hb5'
          go_wp2_with fail
          have hbA := HB5.out.alloc HB5.out.size (.cells #[.string y.key, .int .i64 y.seq, .bool y.dead, .string y.val] 27)
          refine (rget_go _ A4 nk'.length c4 (ents nk') qk _ ((HRM.out.below hbA).mono hbA.size) (by omega)).mono ?_
          rintro e w6 ⟨y2, gb2, hyy2, rfl, hb6⟩
          obtain rfl : y2 = y := hyy2.out.1.trans hyy.out.1.symm
          obtain rfl : gb2 = gb := hyy2.out.2.trans hyy.out.2.symm
          have hbC : Below w4.heap.size w4 w6 := hbA.trans (hb6.mono hbA.size)
          have hr5 : w6.heap[w5.heap.size]? = some (.cells #[.string y2.key, .int .i64 y2.seq, .bool y2.dead, .string y2.val] 27 (0, 0)) := (hb6.block _ (by simp)).trans (heap_alloc_new w5 _)
          have q0 : w6.cell? ⟨w5.heap.size, 0, none⟩ = some (.string y2.key) := by rw [cell_of_row _ _ 0 _ _ _ hr5]; rfl
          have q1 : w6.cell? ⟨w5.heap.size, 1, none⟩ = some (.int .i64 y2.seq) := by rw [cell_of_row _ _ 1 _ _ _ hr5]; rfl
          have q2 : w6.cell? ⟨w5.heap.size, 2, none⟩ = some (.bool y2.dead) := by rw [cell_of_row _ _ 2 _ _ _ hr5]; rfl
          have q3 : w6.cell? ⟨w5.heap.size, 3, none⟩ = some (.string y2.val) := by rw [cell_of_row _ _ 3 _ _ _ hr5]; rfl
          have hbD := hbC.alloc hbC.size (.cells #[.string y2.key, .int .i64 y2.seq, .bool y2.dead, .string y2.val] 27)
          have hl5 : w5.heap.size < w6.heap.size := (Array.getElem?_eq_some_iff.1 hr5).1
          have HBD := Lib.hid hbD
          clear hbA hb6 hbC hr5 hyy hyy2 hbD y0
          cases gb2
          all_goals
            go_wp2_with fail
            refine (len_any _ (HAD4.out.skip.below HBD.out)).mono ?_
            rintro e w7 ⟨rfl, hw7⟩
            subst hw7
            go_wp2_with fail
            refine (bytes_any _ (HAD4.out.skip.below HBD.out)).mono ?_
            rintro e w7 ⟨rfl, hw7⟩
            subst hw7
            go_wp2_with fail
            refine (rbytes_any _ A4 nk'.length c4 (ents nk') ((HRM.out.below HBD.out).mono HBD.out.size) (by omega) HSZ.out).mono ?_
            rintro e w8 ⟨rfl, hb8⟩
            have HB8 := Lib.hid (HBD.out.trans (hb8.mono HBD.out.size))
            clear q0 q1 q2 q3 hb8
            go_wp2
            go_roundw
            case rel => exact HEX.out _ HB8.out
            case measure => simp [intOf]; omega
      · go_wp2
        go_roundw
        case rel => exact HEX.out _ (Below.refl _ _)
        case measure => simp [intOf]; omega
    · obtain rfl : k = n := by omega
      have hlk := had.out.len
      rw [List.length_take] at hlk
      have hlk0 : nk.length ≤ 1048576 := by simp at hlk; omega
      have hfe : fromAt nk key = fromE (ents nk) key := fromAt_fromE nk key (fun d hd => by
        have h1 : d.x ∈ (l.take k).foldl insE [] := by
          have := had.out.list
          rw [show ents ([] : List Nd) = [] from rfl] at this
          rw [← this]
          exact List.mem_map.2 ⟨d, hd, rfl⟩
        rcases foldE_mem h1 with h2 | ⟨x, hx, e⟩
        · cases h2
        · rw [e, clean_seq]
          exact (HOK.out x (List.mem_of_mem_take hx)).2)
      have HRM := Lib.hid hrm
      have HF := Lib.hid (fun W (hW : Below wr.heap.size wr W) => fromk_any W key (had.out.skip.below hW) (by omega))
      rw [hfe] at HF
      have hfl := fromE_le (ents nk) key
      rw [show (ents nk).length = nk.length by simp [ents]] at hfl
      clear hrm hfe hlk
      go_wp2_with fail
      refine (all_any _ had.out.skip (by omega)).mono ?_
      rintro e w5 ⟨v5, rfl, ho5, hb5⟩
      obtain ⟨A5, c5, rfl, _, hr5⟩ := own_full ho5
      have HB5 := Lib.hid hb5
      have HR5 := Lib.hid hr5
      clear ho5 hb5 hr5
      go_wp2_with fail
      refine (same6_yes A5 A2 nk.length c5 c2 _ (ents nk) w5 (by unfold maxLen; omega) HR5.out ((HRM.out.below HB5.out).mono HB5.out.size)).mono ?_
      rintro e w6 ⟨rfl, m, hw6⟩
      have HB6 : Hid (Below wr.heap.size wr w6) := Lib.hid (by rw [hw6]; exact below_drewNs HB5.out m)
      clear hw6
      go_wp2_with fail
      refine (HF.out _ HB6.out).mono ?_
      rintro e w7 ⟨v7, rfl, ho7, hb7⟩
      obtain ⟨A7, c7, rfl, _, hr7⟩ := own_full ho7
      have HB7 := Lib.hid (HB6.out.trans (hb7.mono HB6.out.size))
      have HR7 := Lib.hid hr7
      clear ho7 hb7 hr7
      go_wp2_with fail
      refine (rfrom_any _ A2 nk.length c2 (ents nk) key ((HRM.out.below HB7.out).mono HB7.out.size) (by omega) hnc2).mono ?_
      rintro e w8 ⟨⟨A8, c8, rfl, hr8⟩, hb8⟩
      have HB8 := Lib.hid (HB7.out.trans (hb8.mono HB7.out.size))
      have HR8 := Lib.hid (hr8.mono (Nat.le_trans (Nat.le_refl _) hb8.size))
      have HR9 := Lib.hid ((HR7.out.below hb8).mono hb8.size)
      clear hr8 hb8
      go_wp2_with fail
      refine (same6_yes A7 A8 _ c7 c8 _ _ w8 (by unfold maxLen; omega) HR9.out HR8.out).mono ?_
      rintro e w9 ⟨rfl, m2, hw9⟩
      have HB9 : Hid (Below w.heap.size w w9) := Lib.hid (by rw [hw9]; exact below_drewNs (hb.out.trans (HB8.out.mono hb.out.size)) m2)
      clear hw9
      go_wp2
      go_ret
      exact ⟨rfl, HB9.out⟩
end Go.Proofs.Ythaobfdocnaneaa
