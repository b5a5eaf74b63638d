/- Bloom: May, as the code asks it. -/
import Derived.Test.YtanieolnaiihmaaJBlProbe
namespace Go.Proofs.Ytanieolnaiihmaa
open Go.RowKit

set_option maxRecDepth 20000 in
theorem idx0 (a b c d : Int) (w : World) : (Instr.index 79 (.agg #[.int .i64 a, .int .i64 b, .int .i64 c, .int .i64 d]) (.int .i64 0)).run Try.prog w = .ok (.int .i64 a) w := by kernel_rfl
set_option maxRecDepth 20000 in
theorem idx1 (a b c d : Int) (w : World) : (Instr.index 79 (.agg #[.int .i64 a, .int .i64 b, .int .i64 c, .int .i64 d]) (.int .i64 1)).run Try.prog w = .ok (.int .i64 b) w := by kernel_rfl
set_option maxRecDepth 20000 in
theorem idx2 (a b c d : Int) (w : World) : (Instr.index 79 (.agg #[.int .i64 a, .int .i64 b, .int .i64 c, .int .i64 d]) (.int .i64 2)).run Try.prog w = .ok (.int .i64 c) w := by kernel_rfl
set_option maxRecDepth 20000 in
theorem idx3 (a b c d : Int) (w : World) : (Instr.index 79 (.agg #[.int .i64 a, .int .i64 b, .int .i64 c, .int .i64 d]) (.int .i64 3)).run Try.prog w = .ok (.int .i64 d) w := by kernel_rfl
set_option maxRecDepth 20000 in
theorem idx4 (q : Nat → Nat) (k : Nat) (hk : k < 4) (w : World) : (Instr.index 79 (.agg #[.int .i64 (q 0), .int .i64 (q 1), .int .i64 (q 2), .int .i64 (q 3)]) (.int .i64 (k : Int))).run Try.prog w = .ok (.int .i64 (q k)) w := by
  rcases (show k = 0 ∨ k = 1 ∨ k = 2 ∨ k = 3 by omega) with rfl | rfl | rfl | rfl
  · exact idx0 _ _ _ _ w
  · exact idx1 _ _ _ _ w
  · exact idx2 _ _ _ _ w
  · exact idx3 _ _ _ _ w

theorem and7 (p : Nat) (hp : p ≤ 9223372036854775807) : bits BinOp.and IntKind.i64 (p : Int) 7 = ((p % 8 : Nat) : Int) := by
  have e : (BitVec.ofInt 64 (p : Int) &&& BitVec.ofInt 64 7).toNat = p % 8 := by
    rw [BitVec.toNat_and, BitVec.ofInt_natCast, BitVec.toNat_ofNat, Nat.mod_eq_of_lt (by omega)]
    exact nat_mask3 p
  show IntKind.i64.wrap ((BitVec.ofInt 64 (p : Int) &&& BitVec.ofInt 64 7).toNat : Int) = _
  rw [e]
  exact IntWalk.i64_in _ (by omega)
theorem and1_test (x r : Nat) (hx : x < 256) : (bits BinOp.and IntKind.u8 ((x : Int) / 2 ^ r) 1 == 0) = !(hv x r % 2 == 1) := by
  have e2 : ((x : Int) / 2 ^ r) = ((hv x r : Nat) : Int) := by unfold hv; rw [Int.natCast_ediv, Int.natCast_pow]; rfl
  have h3 := hv_le x r
  have e3 := u8_and_nat (hv x r) 1 (by omega) (by omega)
  rw [nat_mask1] at e3
  rw [e2, show (1 : Int) = ((1 : Nat) : Int) from rfl, e3]
  have h4 : hv x r % 2 = 0 ∨ hv x r % 2 = 1 := by omega
  rcases h4 with h4 | h4 <;> rw [h4] <;> rfl

set_option maxRecDepth 20000 in
set_option maxHeartbeats 400000 in
theorem may_any (f key : ByteArray) (w : World) (hf : f.size ≤ 140737488351232) (hk : key.size ≤ maxLen) :
    Calls Try.prog 14 #[.string f, .string key] w fun e w' => e = .returned (.bool (may f.data.toList key.data.toList)) ∧ Below w.heap.size w w' := by
  by_cases h0 : f.size = 0
  · have h1 := empty_of_size h0
    have H0 := Lib.hid (show may f.data.toList key.data.toList = false by rw [← ByteArray.toList_eq f, h1, may_nil])
    clear h0
    go_enter Try.func14, Try.ntmps14
    go_wp2
    go_ret
    exact ⟨ret_bool (by rw [H0.out]), Below.refl _ _⟩
  · have h1 := isEmpty_of_size h0
    have hl := Lib.hid (show f.data.toList.length = f.size by simp)
    have hy := Lib.hid (@may_yes f.data.toList key.data.toList (by rw [hl.out]; exact h0))
    have hno := Lib.hid (may_no f.data.toList key.data.toList)
    have hh := hsh_lt key.data.toList
    have hpos : 0 < f.size := by omega
    have hlt := fun i => prb_lt (hsh key.data.toList) i (8 * f.size) (by omega)
    clear h0
    go_enter Try.func14, Try.ntmps14
    go_wp2_with (go_at_call 41; refine (probes_any key _ _ hk (by omega) (by omega)).mono ?_; rintro e w' ⟨rfl, hb⟩)
    rw [show (8 * (f.size : Int)).toNat = 8 * f.size by omega]
    generalize hq : (fun i => prb (hsh key.data.toList) i (8 * f.size)) = q at *
    have hq' : ∀ i, prb (hsh key.data.toList) i (8 * f.size) = q i := fun i => congrFun hq i
    rw [hq' 0, hq' 1, hq' 2, hq' 3]
    have HQ := Lib.hid hq'
    clear hq hq'
    go_loop [6, 14] (fun u i => ∃ k : Nat, k ≤ 4 ∧ i = .int .i64 k ∧ Hid (∀ j, j < k → fbit f.data.toList (q j) = true)) (fun _ i => 4 - (intOf i).toNat)
    case atStart => exact ⟨0, Nat.zero_le _, rfl, fun j hj => absurd hj (Nat.not_lt_zero _)⟩
    case round =>
      obtain ⟨k, hk4, rfl, hall⟩ := hrel
      by_cases h4 : k < 4
      · have hix := idx4 q k h4
        have hp : q k < 8 * f.size := by rw [← HQ.out]; exact hlt k
        clear hlt
        obtain ⟨r, hr⟩ : ∃ r, r = q k % 8 := ⟨_, rfl⟩
        have hr8 : r < 8 := by omega
        have ha : bits BinOp.and IntKind.i64 (q k : Int) 7 = (r : Int) := by rw [hr]; exact and7 _ (by omega)
        have hqs : q k / 8 < f.size := by omega
        have hbit : fbit f.data.toList (q k) = (hv f[q k / 8].toNat r % 2 == 1) := by unfold fbit; rw [getD_data f _ hqs, hr]
        have ht := and1_test f[q k / 8].toNat r f[q k / 8].toNat_lt
        rw [← hbit] at ht
        have HR := Lib.hid hr
        clear hr hbit
        cases hfb : fbit f.data.toList (q k)
        all_goals
          simp only [hfb, Bool.not_false, Bool.not_true] at ht
          have HF := Lib.hid hfb
          clear hfb
        · go_wp2
          go_ret
          exact ⟨ret_bool (by rw [hno.out k h4 (by rw [hl.out, HQ.out]; exact HF.out)]), hb⟩
        · go_wp2
          go_round
          case rel =>
            refine ⟨k + 1, by omega, by go_num, ?_⟩
            intro j hj
            by_cases h : j < k
            · exact hall j h
            · obtain rfl : j = k := by omega
              exact HF.out
          case measure => simp [intOf]; omega
      · obtain rfl : k = 4 := by omega
        go_wp2
        go_ret
        exact ⟨ret_bool (by rw [hy.out (fun i hi => by rw [hl.out, HQ.out]; exact hall i hi)]), hb⟩
end Go.Proofs.Ytanieolnaiihmaa
/- Bloom: Build, as the code builds it. -/
namespace Go.Proofs.Ytanieolnaiihmaa
open Go.RowKit

def setb (l : List UInt8) (p : Nat) : List UInt8 := l.set (p / 8) (UInt8.ofNat ((l.getD (p / 8) 0).toNat ||| 2 ^ (p % 8)))
theorem setb_length (l : List UInt8) (p : Nat) : (setb l p).length = l.length := by simp [setb]
/-- The bits of one key, the first j probes. -/
def setk (m : Nat) (h : Nat) : Nat → List UInt8 → List UInt8
  | 0, l => l
  | j + 1, l => setb (setk m h j l) (prb h j m)
theorem setk_length (m h : Nat) (j : Nat) (l : List UInt8) : (setk m h j l).length = l.length := by
  induction j with
  | zero => rfl
  | succ j ih => rw [setk, setb_length, ih]
def blen (n : Nat) : Nat := (10 * n + 7) / 8
def bldTo (N : Nat) (ks : List ByteArray) : List UInt8 := ks.foldl (fun l k => setk (8 * N) (hsh k.data.toList) 4 l) (List.replicate N 0)
theorem bldTo_length (N : Nat) (ks : List ByteArray) : (bldTo N ks).length = N := by
  unfold bldTo
  have : ∀ (ks : List ByteArray) (l : List UInt8), (ks.foldl (fun l k => setk (8 * N) (hsh k.data.toList) 4 l) l).length = l.length := by
    intro ks
    induction ks with
    | nil => intro l; rfl
    | cons a ks ih => intro l; rw [List.foldl_cons, ih, setk_length]
  rw [this]; simp
theorem bldTo_snoc (N : Nat) (ks : List ByteArray) (k : ByteArray) : bldTo N (ks ++ [k]) = setk (8 * N) (hsh k.data.toList) 4 (bldTo N ks) := by
  unfold bldTo; rw [foldl_snoc]
def bld (ks : List ByteArray) : List UInt8 := if ks = [] then [] else bldTo (blen ks.length) ks

theorem u8_infoB : (Try.prog.info? 5).map (fun i => (i.zero, i.size, i.bytes)) = some (some (.int .u8 0), 1, 1) := by kernel_rfl

theorem or_num (x r : Nat) (hx : x < 256) (hr : r < 8) : bits BinOp.or IntKind.u8 (x : Int) (2 ^ r % 256) = (((UInt8.ofNat (x ||| 2 ^ r)).toNat : Nat) : Int) := by
  have hp : 2 ^ r < 256 := Nat.pow_lt_pow_right (by omega) hr
  have e1 : ((2 : Int) ^ r % 256) = ((2 ^ r : Nat) : Int) := by
    rw [show (2 : Int) ^ r = ((2 ^ r : Nat) : Int) by simp, show (256 : Int) = ((256 : Nat) : Int) from rfl, ← Int.natCast_emod, Nat.mod_eq_of_lt hp]
  rw [e1, u8_or_nat x _ hx hp]
  have h3 : x ||| 2 ^ r < 2 ^ 8 := Nat.or_lt_two_pow (by omega) (by omega)
  rw [UInt8.toNat_ofNat', Nat.mod_eq_of_lt (by omega)]

set_option maxRecDepth 20000 in
set_option maxHeartbeats 1000000 in
theorem build_any (A : Option Addr) (n c : Nat) (ks : List ByteArray) (w : World) (hn : n * 16 ≤ 140737488351232) (hr : Rd w w.heap.size 1 A n (strv ks)) (hks : ∀ k ∈ ks, k.size ≤ maxLen) :
    Calls Try.prog 9 #[.slice A n c] w fun e w' => e = .returned (.string ⟨(bld ks).toArray⟩) ∧ Below w.heap.size w w' := by
  have hlen : ks.length = n := by have := hr.len; rw [strv_length] at this; omega
  by_cases h0 : n = 0
  · have H := Lib.hid (show bld ks = [] by unfold bld; rw [if_pos (List.eq_nil_of_length_eq_zero (by omega))])
    subst h0
    clear hlen
    go_enter Try.func9, Try.ntmps9
    go_wp2
    go_ret
    exact ⟨ret_str (by rw [H.out]), Below.refl _ _⟩
  · have H := Lib.hid (show bld ks = bldTo (blen n) ks by unfold bld; rw [if_neg (fun e => h0 (by rw [← hlen, e]; rfl)), hlen])
    have h0' : ((n : Int) == 0) = false := by simpa using h0
    have hN : blen n = (10 * n + 7) / 8 := rfl
    obtain ⟨N, hN'⟩ : ∃ N, N = blen n := ⟨_, rfl⟩
    rw [← hN'] at hN
    have HN := Lib.hid hN'
    have HN2 := Lib.hid hN
    have hNle : N ≤ 140737488351232 := by omega
    have hN1 : 1 ≤ N := by omega
    have Hlen := Lib.hid hlen
    obtain ⟨i0, hi0, hz0, hz1, hz2⟩ := info_parts u8_infoB
    clear hlen hN' hN
    go_enter Try.func9, Try.ntmps9
    go_wp2_with (at_make; refine wpList_make_full _ rfl _ _ 38 rfl w.heap.size 5 i0 (.int .u8 0) 1 Try.underlying38 hi0 hz0 hz1 .i64 .i64 _ _ N rfl rfl ?c1 ?c2 ?c3 ?c4 ?c5 ?_)
    case c1 => have := HN2.out; omega
    case c2 => have := HN2.out; omega
    case c3 => rw [hz2]; omega
    case c4 => unfold maxLen; omega
    case c5 => exact Nat.le_refl _
    intro w1 hown hgr
    rw [made_bytv] at hown
    have hb1 : Below w.heap.size w w1 := (Below.refl _ _).grown hgr (Nat.le_refl _) (fun k hk => by cases hk)
    clear hgr
    go_wp2
    go_loopw [19] (fun i wr => ∃ k : Nat, k ≤ n ∧ i = .int .i64 k ∧ wr.ownsRow w.heap.size 5 1 (.slice (some ⟨w.heap.size, 0, none⟩) N N) N (bytv (bldTo N (ks.take k))) ∧ Below w.heap.size w wr) (fun i _ => n - (intOf i).toNat)
    case atStart => exact ⟨0, Nat.zero_le _, rfl, hown, hb1⟩
    case round =>
      obtain ⟨k, hk, rfl, hownr, hbr⟩ := hrel
      by_cases hlt : k < n
      · obtain ⟨ad, rfl, hab, hs, hc⟩ := hr.str hlt
        have hcr : wr.cell? (ad.add k) = some (.string ks[k]) := by rw [hbr.cell (by rw [block_add]; exact hab)]; exact hc
        have hksk : ks[k].size ≤ maxLen := hks _ (List.getElem_mem _)
        go_wp2_with (go_at_call 41; refine (probes_any _ _ _ hksk (by omega) (by omega)).mono ?_; rintro e w' ⟨rfl, hb⟩)
        have hownw := hownr.kept (w' := w') (row := none) ⟨hb.os, hb.tape, hb.output, hb.size, fun k hk _ => hb.block k hk⟩ (by simp [Value.ownBlock])
        have hbw : Below w.heap.size w w' := hbr.trans (hb.mono hbr.size)
        clear hownr hb hcr
        rw [show (8 * (N : Int)).toNat = 8 * N by omega]
        have hplt := fun i => prb_lt (hsh ks[k].data.toList) i (8 * N) (by omega)
        obtain ⟨hh, hhe⟩ : ∃ h, h = hsh ks[k].data.toList := ⟨_, rfl⟩
        rw [← hhe]
        rw [← hhe] at hplt
        obtain ⟨L, hL⟩ : ∃ L, L = bldTo N (ks.take k) := ⟨_, rfl⟩
        rw [← hL] at hownw
        have hLl : L.length = N := by rw [hL, bldTo_length]
        have HL := Lib.hid hL
        have HH := Lib.hid hhe
        have HLl := Lib.hid hLl
        have HT := Lib.hid (show bldTo N (ks.take (k + 1)) = setk (8 * N) hh 4 L by
          rw [List.take_succ_eq_append_getElem hs, bldTo_snoc, hL, hhe])
        clear hL hhe hLl
        go_loopw [7, 28] (fun u i wr => ∃ j : Nat, j ≤ 4 ∧ i = .int .i64 j ∧ wr.ownsRow w.heap.size 5 1 (.slice (some ⟨w.heap.size, 0, none⟩) N N) N (bytv (setk (8 * N) hh j L)) ∧ Below w.heap.size w wr) (fun _ i _ => 4 - (intOf i).toNat)
        case atStart => exact ⟨0, Nat.zero_le _, rfl, hownw, hbw⟩
        case round =>
          obtain ⟨j, hj, rfl, howni, hbi⟩ := hrel
          by_cases h4 : j < 4
          · have hix := idx4 (fun i => prb hh i (8 * N)) j h4
            have hp := hplt j
            have hset : Hid (setk (8 * N) hh (j + 1) L = setb (setk (8 * N) hh j L) (prb hh j (8 * N))) := rfl
            have hMl : (setk (8 * N) hh j L).length = N := by rw [setk_length]; exact HLl.out
            generalize prb hh j (8 * N) = p at *
            obtain ⟨M, hM⟩ : ∃ M, M = setk (8 * N) hh j L := ⟨_, rfl⟩
            rw [← hM] at howni hset hMl
            clear hM
            have hpN : p / 8 < N := by omega
            obtain ⟨x, hx⟩ : ∃ x, x = (M.getD (p / 8) 0).toNat := ⟨_, rfl⟩
            have hx256 : x < 256 := by rw [hx]; exact UInt8.toNat_lt _
            have hcell : wr.cell? ⟨w.heap.size, p / 8, none⟩ = some (.int .u8 (x : Int)) := by
              rw [howni.cellAt (p / 8) (by omega), bytv_get _ _ (by omega), hx, List.getD_eq_getElem?_getD, List.getElem?_eq_getElem (by omega)]; rfl
            have hfz := howni.frozenAt (p / 8)
            obtain ⟨r, hr⟩ : ∃ r, r = p % 8 := ⟨_, rfl⟩
            have hr8 : r < 8 := by omega
            have ha : bits BinOp.and IntKind.i64 (p : Int) 7 = (r : Int) := by rw [hr]; exact and7 _ (by omega)
            have HX := Lib.hid hx
            have HR := Lib.hid hr
            have HMl := Lib.hid hMl
            clear hx hr hMl
            have hst := howni.stored (p / 8) (Value.int .u8 (bits BinOp.or IntKind.u8 (x : Int) (2 ^ r % 256)))
            have hnum := or_num x r hx256 hr8
            have HS : Hid ((wr.setCell ⟨w.heap.size, p / 8, none⟩ (Value.int .u8 (bits BinOp.or IntKind.u8 (x : Int) (2 ^ r % 256)))).ownsRow w.heap.size 5 1 (.slice (some ⟨w.heap.size, 0, none⟩) N N) N (bytv (setk (8 * N) hh (j + 1) L))) := by
              have h1 := hst.1
              rw [hnum, bytv_set, HX.out, HR.out] at h1
              rw [HX.out, HR.out] at hnum
              rw [hset.out, HX.out, HR.out, hnum]
              exact h1
            have HB : Hid (Below w.heap.size w (wr.setCell ⟨w.heap.size, p / 8, none⟩ (Value.int .u8 (bits BinOp.or IntKind.u8 (x : Int) (2 ^ r % 256))))) := hbi.setCell (Nat.le_refl _) _
            clear hst hnum howni hbi hset
            go_wp2
            go_roundw
            case rel => exact ⟨j + 1, by omega, by go_num, HS.out, HB.out⟩
            case measure => simp [intOf]; omega
          · obtain rfl : j = 4 := by omega
            rw [← HT.out] at howni
            go_wp2
            go_roundw
            case rel => exact ⟨k + 1, by omega, by go_num, howni, hbi⟩
            case measure => simp [intOf]; omega
      · obtain rfl : k = n := by omega
        rw [← Hlen.out, List.take_length] at hownr
        have hcv := conv_own (P := Try.prog) (src := 38) (dst := 9) Try.underlying38 Try.underlying5 Try.underlying9 hownr
        go_wp2
        go_ret
        exact ⟨ret_str (by rw [H.out, ← HN.out]), hbr⟩
end Go.Proofs.Ytanieolnaiihmaa
