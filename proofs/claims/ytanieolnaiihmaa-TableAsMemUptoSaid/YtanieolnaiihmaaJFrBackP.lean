/- Frames: the reference's First, walked. -/
import Derived.Test.YtanieolnaiihmaaJFrFirst
namespace Go.Proofs.Ytanieolnaiihmaa
open Go.RowKit

def bef (l : List UInt8) (i : Nat) : Nat := (l.take i).foldl (fun n b => 256 * n + b.toNat) 0
theorem bef_succ (l : List UInt8) (i : Nat) (h : i < l.length) : bef l (i + 1) = 256 * bef l i + l[i].toNat := by
  unfold bef; rw [List.take_succ_eq_append_getElem h, List.foldl_append]; rfl
theorem bef_lt (l : List UInt8) : ∀ i, bef l i < 256 ^ i
  | 0 => by simp [bef]
  | i + 1 => by
    by_cases h : i < l.length
    · rw [bef_succ l i h, Nat.pow_succ]
      have := bef_lt l i
      have := l[i].toNat_lt
      omega
    · have h1 : bef l (i + 1) = bef l i := by unfold bef; rw [List.take_of_length_le (by omega), List.take_of_length_le (by omega)]
      rw [h1, Nat.pow_succ]
      have := bef_lt l i
      omega
theorem bef_4 (l : List UInt8) : bef l 4 = be4 l := rfl
theorem fourB_inj {a b : Nat} (ha : a < 4294967296) (hb : b < 4294967296) (h : fourB a = fourB b) : a = b := by
  have h1 := be4_fourB a ha []
  have h2 := be4_fourB b hb []
  rw [h] at h1
  exact h1.symm.trans h2
theorem frame_eq (l : List UInt8) (h : be4 l + 8 ≤ l.length) : frameB ((l.drop 8).take (be4 l)) = l.take (8 + be4 l) ↔ sumB (l.take 4 ++ (l.drop 8).take (be4 l)) = be4 (l.drop 4) := by
  have hq : ((l.drop 8).take (be4 l)).length = be4 l := by rw [List.length_take, List.length_drop]; omega
  have hs : l.take (8 + be4 l) = l.take 4 ++ (l.drop 4).take 4 ++ (l.drop 8).take (be4 l) := by
    rw [show 8 + be4 l = 4 + (4 + be4 l) by omega, List.take_add, List.take_add, List.drop_drop, List.append_assoc]
  have h4 := four_take l (by omega)
  have h5 := four_take (l.drop 4) (by rw [List.length_drop]; omega)
  unfold frameB
  rw [hq, h4, hs, List.append_cancel_right_eq, List.append_cancel_left_eq, ← h5]
  exact ⟨fun e => fourB_inj (sumB_lt _) (be4_lt _) e, fun e => by rw [e]⟩
theorem cmp_eq (s : ByteArray) (k n : Nat) (l : List UInt8) (hl : l = s.data.toList.drop k) (hn : n = be4 l) (h : n + 8 ≤ l.length) :
    (!frameB (List.take n (List.drop (k + 8) s.data.toList)) == (s.extract k ((k : Int) + 8 + (n : Int)).toNat).toList) = false ↔ sumB (l.take 4 ++ (l.drop 8).take (be4 l)) = be4 (l.drop 4) := by
  subst hn
  rw [← frame_eq l h, ByteArray.toList_eq, ext_list, show ((k : Int) + 8 + ((be4 l : Nat) : Int)).toNat - k = 8 + be4 l by omega, ← hl, ← List.drop_drop, ← hl]
  simp
theorem first_retR {l : List UInt8} {a : Int} {k n : Nat} {p : ByteArray} {q m : List UInt8} (h1 : firstR l a = firstAt l k) (h2 : firstAt l k = (q, ((k + 8 + be4 m : Nat) : Int), 0)) (hp : p.data.toList = q) (hn : n = be4 m) :
    Ending.returned (.tuple #[.string p, .int .i64 ((k : Int) + 8 + (n : Int)), .int .i64 0]) = .returned (.tuple #[.string ⟨(firstR l a).1.toArray⟩, .int .i64 (firstR l a).2.1, .int .i64 ((firstR l a).2.2 : Int)]) := by
  rw [h1, h2, ← hp, hn]
  rfl
set_option maxRecDepth 20000 in
set_option maxHeartbeats 4000000 in
theorem rfirst_any (w : World) (s : ByteArray) (a : Int) (hs : s.size ≤ 140737488355328) (ha0 : -9223372036854775808 ≤ a) (ha1 : a ≤ 9223372036854775807) :
    Calls Try.prog 84 #[.string s, .int .i64 a] w fun e w' => e = .returned (.tuple #[.string ⟨(firstR s.data.toList a).1.toArray⟩, .int .i64 (firstR s.data.toList a).2.1, .int .i64 ((firstR s.data.toList a).2.2 : Int)]) ∧ Below w.heap.size w w' := by
  have hsl : s.data.toList.length = s.size := by simp
  go_enter Try.func84, Try.ntmps84
  by_cases hn : a < 0
  · have hno := first_out (l := s.data.toList) (.inl hn)
    have b0 : decide (a < 0) = true := decide_eq_true hn
    go_wp2
    go_ret3
    exact ⟨by first | rfl | (rw [hno]; rfl), Below.refl _ _⟩
  · have b0 : decide (a < 0) = false := decide_eq_false hn
    by_cases hg : (s.size : Int) - 8 < a
    · have hno := first_out (l := s.data.toList) (a := a) (.inr (by omega))
      by_cases hg2 : (s.size : Int) < a
      · have b1 : decide ((s.size : Int) < a) = true := decide_eq_true hg2
        go_wp2
        go_ret3
        exact ⟨by first | rfl | (rw [hno]; rfl), Below.refl _ _⟩
      · have b1 : decide ((s.size : Int) < a) = false := decide_eq_false hg2
        have b2 : decide ((s.size : Int) - a < 8) = true := decide_eq_true (by omega)
        go_wp2
        go_ret3
        exact ⟨by first | rfl | (rw [hno]; rfl), Below.refl _ _⟩
    · obtain ⟨k, rfl⟩ : ∃ k : Nat, a = (k : Int) := ⟨a.toNat, by omega⟩
      have hk : k + 8 ≤ s.size := by omega
      have hF := Lib.hid (first_in (l := s.data.toList) (k := k) (by omega))
      have b1 : decide ((s.size : Int) < (k : Int)) = false := decide_eq_false (by omega)
      have b2 : decide ((s.size : Int) - (k : Int) < 8) = false := decide_eq_false (by omega)
      obtain ⟨l, hl⟩ : ∃ l, l = s.data.toList.drop k := ⟨_, rfl⟩
      have hll : l.length = s.size - k := by rw [hl]; simp
      have hget : ∀ (i : Nat) (hi : k + i < s.size) (h2 : i < l.length), s[k + i] = l[i] := fun i hi h2 => by
        subst hl
        simp
        rfl
      have HL := Lib.hid hl
      clear hl
      go_wp2
      go_loop [7, 8] (fun n i => ∃ j : Nat, j ≤ 4 ∧ i = .int .i64 j ∧ n = .int .i64 (bef l j : Int)) (fun _ i => 4 - (intOf i).toNat)
      case atStart => exact ⟨0, Nat.zero_le _, rfl, rfl⟩
      case round =>
        obtain ⟨j, hj, rfl, rfl⟩ := hrel
        have hbf := bef_lt l j
        have hp4 : 256 ^ j ≤ 256 ^ 4 := Nat.pow_le_pow_right (by omega) hj
        generalize 256 ^ j = Z at *
        by_cases hj4 : j < 4
        · have hsu := bef_succ l j (by omega)
          have hgj := hget j (by omega) (by omega)
          rw [← hgj] at hsu
          have hlt : k + j < s.size := by omega
          have hb := (s[k + j]).toNat_lt
          have HSU := Lib.hid hsu
          clear hsu hgj hget
          generalize bef l j = n at *
          go_wp2
          go_round
          case rel => exact ⟨j + 1, by omega, by go_num, congrArg (Value.int .i64) (by rw [HSU.out]; omega)⟩
          case measure => simp [intOf]; omega
        · obtain rfl : j = 4 := by omega
          rw [bef_4] at hbf ⊢
          clear hget
          have hn32 := be4_lt l
          by_cases hbig : 65536 < be4 l ∨ l.length < be4 l + 8
          · have hno := Lib.hid (at_big HL.out.symm hbig)
            generalize be4 l = n at *
            by_cases hb6 : 65536 < n
            · have b3 : decide ((65536 : Int) < (n : Int)) = true := decide_eq_true (by omega)
              go_wp2
              go_ret3
              exact ⟨by rw [hF.out, hno.out]; rfl, Below.refl _ _⟩
            · have b3 : decide ((65536 : Int) < (n : Int)) = false := decide_eq_false (by omega)
              have b4 : decide ((s.size : Int) - (k : Int) - 8 < (n : Int)) = true := decide_eq_true (by omega)
              go_wp2
              go_ret3
              exact ⟨by rw [hF.out, hno.out]; rfl, Below.refl _ _⟩
          · have HOK := Lib.hid (at_ok HL.out.symm hbig)
            have HBAD := Lib.hid (at_bad (l := s.data.toList) (k := k) HL.out.symm)
            have b3 : decide ((65536 : Int) < (be4 l : Int)) = false := decide_eq_false (by omega)
            have b4 : decide ((s.size : Int) - (k : Int) - 8 < (be4 l : Int)) = false := decide_eq_false (by omega)
            obtain ⟨n, hnn⟩ : ∃ n, n = be4 l := ⟨_, rfl⟩
            rw [← hnn] at b3 b4 hbig hbf ⊢
            have HNN := Lib.hid hnn
            clear hnn
            have hps : (s.extract (k + 8) (k + 8 + n)).size ≤ 65536 := by
              have : (s.extract (k + 8) (k + 8 + n)).size = n := by simp; omega
              omega
            have f1 : k + 8 + n ≤ s.size := by omega
            have f2 : (k : Int) + 8 + (n : Int) ≤ (s.size : Int) := by omega
            have f3 : (k : Int) ≤ (k : Int) + 8 + (n : Int) := by omega
            have f4 : k ≤ k + 8 + n := by omega
            have f5 : (0 : Int) ≤ (k : Int) + 8 + (n : Int) := by omega
            have g1 : IntKind.i64.wrap ((k : Int) + 8) = (k : Int) + 8 := by rw [IntKind.wrap_i64]; omega
            have g2 : IntKind.i64.wrap ((k : Int) + 8 + (n : Int)) = ((k + 8 + n : Nat) : Int) := by rw [IntKind.wrap_i64]; omega
            have hce := Lib.hid (cmp_eq s k n l HL.out HNN.out (by omega))
            have HQ : Hid ((s.extract (k + 8) (k + 8 + n)).data.toList = (l.drop 8).take (be4 l)) := by
              rw [ext_list, Nat.add_sub_cancel_left, HL.out, List.drop_drop, ← HL.out, HNN.out]; rfl
            clear hll hbf hp4 hj hn32
            go_wp2
            go_region_with (go_at_call 83; refine (rframe_any _ (s.extract (k + 8) (k + 8 + n)) hps).mono ?_; rintro e w2 ⟨rfl, hb2⟩)
            all_goals go_wp2
            all_goals rename_i hcmp
            all_goals go_ret3
            all_goals first | exact ⟨by rw [hF.out, HBAD.out (fun e => by rw [(hce.out).2 e] at hcmp; cases hcmp)]; rfl, hb2.os, hb2.tape, hb2.output, hb2.size, hb2.block⟩ | exact ⟨first_retR hF.out (HOK.out ((hce.out).1 (by simpa using hcmp))) HQ.out HNN.out, hb2.os, hb2.tape, hb2.output, hb2.size, hb2.block⟩
end Go.Proofs.Ytanieolnaiihmaa
/- Frames: Scan, the program's and the reference's, walked. -/
namespace Go.Proofs.Ytanieolnaiihmaa
open Go.RowKit

def scanFrom (l : List UInt8) : Nat → Nat → List (List UInt8) × Nat
  | 0, k => ([], k)
  | f + 1, k => if (firstR l (k : Int)).2.2 = 0 then ((firstR l (k : Int)).1 :: (scanFrom l f (firstR l (k : Int)).2.1.toNat).1, (scanFrom l f (firstR l (k : Int)).2.1.toNat).2) else ([], k)
def scanR (l : List UInt8) : List (List UInt8) × Nat := scanFrom l (l.length + 1) 0
def toStr (p : List UInt8) : ByteArray := ⟨p.toArray⟩
def strsOf (ps : List (List UInt8)) : List ByteArray := ps.map toStr
theorem strsOf_snoc (ps : List (List UInt8)) (p : List UInt8) : strv (strsOf (ps ++ [p])) = strv (strsOf ps) ++ [Value.string (toStr p)] := by simp [strsOf, strv]
theorem first_two (l : List UInt8) (a : Int) : (firstR l a).2.2 = 0 ∨ (firstR l a).2.2 = 1 := by
  unfold firstR
  split
  · exact .inr rfl
  · unfold firstAt
    split
    · exact .inr rfl
    · split
      · exact .inl rfl
      · exact .inr rfl
/-- A frame that is found ends behind its place, and inside the text. -/
theorem first_end {l : List UInt8} {k : Nat} (h : (firstR l (k : Int)).2.2 = 0) : ∃ e : Nat, (firstR l (k : Int)).2.1 = (e : Int) ∧ k + 8 ≤ e ∧ e ≤ l.length ∧ (firstR l (k : Int)).1.length + k + 8 = e := by
  unfold firstR at h ⊢
  split at h
  · cases h
  · rename_i hin
    rw [if_neg hin]
    unfold firstAt at h ⊢
    have hk : (k : Int).toNat = k := by omega
    rw [hk] at h ⊢
    split at h
    · cases h
    · rename_i hb
      rw [if_neg hb]
      split at h
      · rename_i hs
        rw [if_pos hs]
        have hl : (l.drop k).length = l.length - k := by simp
        refine ⟨_, rfl, by omega, by omega, ?_⟩
        simp only [List.length_take, List.length_drop]
        omega
      · cases h
theorem scan_no {l : List UInt8} {f k : Nat} (h : (firstR l (k : Int)).2.2 = 1) : scanFrom l f k = ([], k) := by
  cases f with
  | zero => rfl
  | succ f => unfold scanFrom; rw [if_neg (by omega)]
theorem scan_ok {l : List UInt8} {f k e : Nat} {p : List UInt8} (h : firstR l (k : Int) = (p, (e : Int), 0)) : scanFrom l (f + 1) k = (p :: (scanFrom l f e).1, (scanFrom l f e).2) := by
  rw [scanFrom, h, if_pos rfl]; rfl
set_option maxRecDepth 20000 in
theorem str_info : (Try.prog.info? 9).map (fun i => (i.zero, i.size, i.bytes)) = some (some (.string ByteArray.empty), 1, 16) := by kernel_rfl
set_option maxHeartbeats 2000000 in
set_option maxRecDepth 20000 in
theorem scan_any (w : World) (s : ByteArray) (hs : s.size ≤ 17179869184) :
    Calls Try.prog 52 #[.string s] w fun e w' => ∃ v, e = .returned (.tuple #[v, .int .i64 ((scanR s.data.toList).2 : Int)]) ∧ w'.ownsRow w.heap.size 9 1 v (scanR s.data.toList).1.length (strv (strsOf (scanR s.data.toList).1)) ∧ Below w.heap.size w w' := by
  obtain ⟨i0, hi0, hz0, hz1, hz2⟩ := info_parts str_info
  have hsl : s.data.toList.length = s.size := by simp
  go_enter Try.func52, Try.ntmps52
  go_wp2
  go_loopw [4, 5] (fun v i wx => ∃ (ps : List (List UInt8)) (k f : Nat), i = .int .i64 k ∧ k ≤ s.size ∧ s.size < f + k ∧ ps.length ≤ k ∧ Hid (scanR s.data.toList = (ps ++ (scanFrom s.data.toList f k).1, (scanFrom s.data.toList f k).2)) ∧ wx.ownsRow w.heap.size 9 1 v ps.length (strv (strsOf ps)) ∧ Below w.heap.size w wx) (fun _ i _ => s.size - (intOf i).toNat)
  case atStart => exact ⟨[], 0, s.size + 1, rfl, Nat.zero_le _, by omega, Nat.le_refl _, by show scanR _ = _; unfold scanR; rw [hsl]; rfl, World.ownsRow_nil _ _ _ _, Below.refl _ _⟩
  case round =>
    obtain ⟨ps, k, f, rfl, hk, hf, hps, HS, hown, hbx⟩ := hrel
    obtain ⟨p, e, c, hfr⟩ : ∃ p e c, firstR s.data.toList (k : Int) = (p, e, c) := ⟨_, _, _, rfl⟩
    have h2 := first_two s.data.toList (k : Int)
    have h3 := first_end (l := s.data.toList) (k := k)
    rw [hfr] at h2 h3
    simp only at h2 h3
    have HF := Lib.hid hfr
    have hcall := first_any wr s (k : Int) (by omega) (by omega) (by omega)
    rw [hfr] at hcall
    simp only at hcall
    clear hfr
    rcases h2 with rfl | rfl
    · obtain ⟨e', rfl, he1, he2, he3⟩ := h3 rfl
      obtain ⟨f, rfl⟩ : ∃ f', f = f' + 1 := ⟨f - 1, by omega⟩
      have HN : Hid (scanR s.data.toList = ((ps ++ [p]) ++ (scanFrom s.data.toList f e').1, (scanFrom s.data.toList f e').2)) := Lib.hid (by
        rw [HS.out, scan_ok HF.out]; simp)
      go_wp2_with fail
      refine hcall.mono ?_
      rintro e w2 ⟨rfl, hb2⟩
      have hown2 := own_below hown hb2
      have hbx2 := bel hbx hb2
      clear hown hb2 hcall h3 HS HF
      go_wp2_with (at_builtin; refine wpList_push rfl (.tmp 20) (.tmp 22) 22 rfl w.heap.size 9 i0 _ 1 16 Try.underlying22 hi0 hz0 hz1 hz2 rfl (by omega) _ ps.length (strv (strsOf ps)) #[.string (toStr p)] rfl (by exact hown2) rfl rfl (by simp [Value.oneCell']) ?c1 ?c2 ?c3 ?_)
      case c1 => omega
      case c2 => unfold maxLen; omega
      case c3 => exact hbx2.size
      intro v3 w3 hown3 hu3 hat3
      have hown3' : w3.ownsRow w.heap.size 9 1 v3 (ps ++ [p]).length (strv (strsOf (ps ++ [p]))) := by
        rw [strsOf_snoc, List.length_append]; exact hown3
      have hb3 := below_row hbx2 hbx2.size hown2 (Nat.le_refl _) hu3
      clear hown3 hown2 hu3 hat3
      go_wp2
      go_roundw
      case rel => exact ⟨ps ++ [p], e', f, rfl, by omega, by omega, by rw [List.length_append]; simp; omega, HN, hown3', hb3⟩
      case measure => simp [intOf]; omega
    · have hend : scanFrom s.data.toList f k = ([], k) := scan_no (by rw [HF.out])
      have HE : Hid (scanR s.data.toList = (ps, k)) := Lib.hid (by rw [HS.out, hend]; simp)
      clear hend HS HF h3
      go_wp2_with fail
      refine hcall.mono ?_
      rintro e' w2 ⟨rfl, hb2⟩
      have hown2 := own_below hown hb2
      have hbx2 := bel hbx hb2
      go_wp2
      go_ret2
      exact ⟨_, by rw [HE.out]; rfl, by rw [HE.out]; exact hown2, hbx2⟩
set_option maxHeartbeats 2000000 in
set_option maxRecDepth 20000 in
theorem rscan_any (w : World) (s : ByteArray) (hs : s.size ≤ 17179869184) :
    Calls Try.prog 58 #[.string s] w fun e w' => ∃ v, e = .returned (.tuple #[v, .int .i64 ((scanR s.data.toList).2 : Int)]) ∧ w'.ownsRow w.heap.size 9 1 v (scanR s.data.toList).1.length (strv (strsOf (scanR s.data.toList).1)) ∧ Below w.heap.size w w' := by
  obtain ⟨i0, hi0, hz0, hz1, hz2⟩ := info_parts str_info
  have hsl : s.data.toList.length = s.size := by simp
  go_enter Try.func58, Try.ntmps58
  go_wp2
  go_loopw [4, 5] (fun v i wx => ∃ (ps : List (List UInt8)) (k f : Nat), i = .int .i64 k ∧ k ≤ s.size ∧ s.size < f + k ∧ ps.length ≤ k ∧ Hid (scanR s.data.toList = (ps ++ (scanFrom s.data.toList f k).1, (scanFrom s.data.toList f k).2)) ∧ wx.ownsRow w.heap.size 9 1 v ps.length (strv (strsOf ps)) ∧ Below w.heap.size w wx) (fun _ i _ => s.size - (intOf i).toNat)
  case atStart => exact ⟨[], 0, s.size + 1, rfl, Nat.zero_le _, by omega, Nat.le_refl _, by show scanR _ = _; unfold scanR; rw [hsl]; rfl, World.ownsRow_nil _ _ _ _, Below.refl _ _⟩
  case round =>
    obtain ⟨ps, k, f, rfl, hk, hf, hps, HS, hown, hbx⟩ := hrel
    obtain ⟨p, e, c, hfr⟩ : ∃ p e c, firstR s.data.toList (k : Int) = (p, e, c) := ⟨_, _, _, rfl⟩
    have h2 := first_two s.data.toList (k : Int)
    have h3 := first_end (l := s.data.toList) (k := k)
    rw [hfr] at h2 h3
    simp only at h2 h3
    have HF := Lib.hid hfr
    have hcall := rfirst_any wr s (k : Int) (by omega) (by omega) (by omega)
    rw [hfr] at hcall
    simp only at hcall
    clear hfr
    rcases h2 with rfl | rfl
    · obtain ⟨e', rfl, he1, he2, he3⟩ := h3 rfl
      obtain ⟨f, rfl⟩ : ∃ f', f = f' + 1 := ⟨f - 1, by omega⟩
      have HN : Hid (scanR s.data.toList = ((ps ++ [p]) ++ (scanFrom s.data.toList f e').1, (scanFrom s.data.toList f e').2)) := Lib.hid (by
        rw [HS.out, scan_ok HF.out]; simp)
      go_wp2_with fail
      refine hcall.mono ?_
      rintro e w2 ⟨rfl, hb2⟩
      have hown2 := own_below hown hb2
      have hbx2 := bel hbx hb2
      clear hown hb2 hcall h3 HS HF
      go_wp2_with (at_builtin; refine wpList_push rfl (.tmp 20) (.tmp 22) 22 rfl w.heap.size 9 i0 _ 1 16 Try.underlying22 hi0 hz0 hz1 hz2 rfl (by omega) _ ps.length (strv (strsOf ps)) #[.string (toStr p)] rfl (by exact hown2) rfl rfl (by simp [Value.oneCell']) ?c1 ?c2 ?c3 ?_)
      case c1 => omega
      case c2 => unfold maxLen; omega
      case c3 => exact hbx2.size
      intro v3 w3 hown3 hu3 hat3
      have hown3' : w3.ownsRow w.heap.size 9 1 v3 (ps ++ [p]).length (strv (strsOf (ps ++ [p]))) := by
        rw [strsOf_snoc, List.length_append]; exact hown3
      have hb3 := below_row hbx2 hbx2.size hown2 (Nat.le_refl _) hu3
      clear hown3 hown2 hu3 hat3
      go_wp2
      go_roundw
      case rel => exact ⟨ps ++ [p], e', f, rfl, by omega, by omega, by rw [List.length_append]; simp; omega, HN, hown3', hb3⟩
      case measure => simp [intOf]; omega
    · have hend : scanFrom s.data.toList f k = ([], k) := scan_no (by rw [HF.out])
      have HE : Hid (scanR s.data.toList = (ps, k)) := Lib.hid (by rw [HS.out, hend]; simp)
      clear hend HS HF h3
      go_wp2_with fail
      refine hcall.mono ?_
      rintro e' w2 ⟨rfl, hb2⟩
      have hown2 := own_below hown hb2
      have hbx2 := bel hbx hb2
      go_wp2
      go_ret2
      exact ⟨_, by rw [HE.out]; rfl, by rw [HE.out]; exact hown2, hbx2⟩
end Go.Proofs.Ytanieolnaiihmaa
/- Frames: what is sealed is scanned again; spoilt frames. Plain. -/
namespace Go.Proofs.Ytanieolnaiihmaa

theorem frame_first (pre rest p : List UInt8) (hp : p.length ≤ 65536) : firstR (pre ++ (frameB p ++ rest)) (pre.length : Int) = (p, ((pre.length + 8 + p.length : Nat) : Int), 0) := by
  have hl := frameB_len p
  rw [first_in (by simp only [List.length_append]; omega)]
  have hd : (pre ++ (frameB p ++ rest)).drop pre.length = frameB p ++ rest := by rw [List.drop_left]
  have hb : be4 (frameB p ++ rest) = p.length := by
    unfold frameB
    rw [List.append_assoc, List.append_assoc]
    exact be4_fourB _ (by omega) _
  have e1 : frameB p ++ rest = (fourB p.length ++ fourB (sumB (fourB p.length ++ p))) ++ (p ++ rest) := by unfold frameB; simp
  have e2 : (frameB p ++ rest).drop 8 = p ++ rest := by
    rw [e1]; exact List.drop_left (l₁ := fourB p.length ++ fourB (sumB (fourB p.length ++ p)))
  have e3 : ((frameB p ++ rest).drop 8).take p.length = p := by rw [e2, List.take_left]
  have e4 : (frameB p ++ rest).take 4 = fourB p.length := by
    rw [e1, List.append_assoc]; exact List.take_left (l₁ := fourB p.length)
  have e5 : be4 ((frameB p ++ rest).drop 4) = sumB (fourB p.length ++ p) := by
    have : (frameB p ++ rest).drop 4 = fourB (sumB (fourB p.length ++ p)) ++ (p ++ rest) := by
      rw [e1, List.append_assoc]; exact List.drop_left (l₁ := fourB p.length)
    rw [this]; exact be4_fourB _ (sumB_lt _) _
  have h := at_ok (l := pre ++ (frameB p ++ rest)) (k := pre.length) hd (by rw [hb, List.length_append]; omega) (by rw [hb, e3, e4, e5])
  rw [h, hb, e3]
theorem tail_first (pre p : List UInt8) (k : Nat) (hp : p.length ≤ 65536) (hk : k < (frameB p).length) : firstR (pre ++ (frameB p).take k) (pre.length : Int) = ([], 0, 1) := by
  have hl := frameB_len p
  have hkl : ((frameB p).take k).length = k := by rw [List.length_take]; omega
  by_cases h8 : k < 8
  · exact first_out (.inr (by simp only [List.length_append, hkl]; omega))
  · rw [first_in (by simp only [List.length_append, hkl]; omega)]
    have hd : (pre ++ (frameB p).take k).drop pre.length = (frameB p).take k := by rw [List.drop_left]
    have hb : be4 ((frameB p).take k) = p.length := by
      unfold frameB
      rw [List.append_assoc, List.take_append, fourB_len, List.take_of_length_le (l := fourB p.length) (by rw [fourB_len]; omega)]
      exact be4_fourB _ (by omega) _
    exact at_big hd (.inr (by rw [hb, hkl]; omega))
theorem scan_from (tail : List UInt8) (htail : ∀ pre : List UInt8, firstR (pre ++ tail) (pre.length : Int) = ([], 0, 1)) (l : List ByteArray) : ∀ (pre : List UInt8) (f : Nat), fits l → l.length < f → scanFrom (pre ++ (sealB l ++ tail)) f pre.length = (l.map fun s => s.data.toList, pre.length + (sealB l).length) := by
  induction l with
  | nil =>
    intro pre f _ hf
    have h1 : sealB [] = [] := rfl
    rw [h1, List.nil_append, scan_no (by rw [htail])]
    simp
  | cons s l ih =>
    intro pre f hfit hf
    obtain ⟨f, rfl⟩ : ∃ f', f = f' + 1 := ⟨f - 1, by omega⟩
    have hs : s.data.toList.length = s.size := by simp
    have hss := hfit s List.mem_cons_self
    have h1 : sealB (s :: l) = frameB s.data.toList ++ sealB l := by simp [sealB]
    have hfl := frameB_len s.data.toList
    rw [h1, List.append_assoc, scan_ok (frame_first pre (sealB l ++ tail) s.data.toList (by omega))]
    have h2 := ih (pre ++ frameB s.data.toList) f (fun x hx => hfit x (List.mem_cons_of_mem _ hx)) (by simp only [List.length_cons] at hf; omega)
    have hpl : (pre ++ frameB s.data.toList).length = pre.length + 8 + s.data.toList.length := by rw [List.length_append, hfl]; omega
    rw [hpl, List.append_assoc] at h2
    rw [h2, List.length_append, hfl, List.map_cons]
    congr 1
    omega
theorem nil_first (pre : List UInt8) : firstR (pre ++ []) (pre.length : Int) = ([], 0, 1) := first_out (.inr (by simp; omega))
theorem seal_len (l : List ByteArray) : l.length ≤ (sealB l).length := by
  induction l with
  | nil => simp
  | cons s l ih =>
    have h1 : sealB (s :: l) = frameB s.data.toList ++ sealB l := by simp [sealB]
    rw [h1, List.length_append, frameB_len, List.length_cons]; omega
theorem scan_seal (l : List ByteArray) (h : fits l) : scanR (sealB l) = (l.map fun s => s.data.toList, (sealB l).length) := by
  have := scan_from [] nil_first l [] ((sealB l).length + 1) h (by have := seal_len l; omega)
  simpa [scanR] using this
theorem scan_seal_cut (l : List ByteArray) (p : List UInt8) (k : Nat) (h : fits l) (hp : p.length ≤ 65536) (hk : k < (frameB p).length) : scanR (sealB l ++ (frameB p).take k) = (l.map fun s => s.data.toList, (sealB l).length) := by
  have := scan_from ((frameB p).take k) (fun pre => tail_first pre p k hp hk) l [] ((sealB l ++ (frameB p).take k).length + 1) h (by have := seal_len l; rw [List.length_append]; omega)
  simpa [scanR] using this
theorem strsOf_map (l : List ByteArray) : strsOf (l.map fun s => s.data.toList) = l := by
  unfold strsOf
  rw [List.map_map]
  have : toStr ∘ (fun s : ByteArray => s.data.toList) = id := by
    funext s
    show (⟨s.data.toList.toArray⟩ : ByteArray) = s
    simp
  rw [this, List.map_id]
theorem fits_append {a b : List ByteArray} : fits (a ++ b) ↔ fits a ∧ fits b := by
  unfold fits
  constructor
  · intro h; exact ⟨fun s hs => h s (List.mem_append_left _ hs), fun s hs => h s (List.mem_append_right _ hs)⟩
  · intro h s hs
    rcases List.mem_append.1 hs with h1 | h1
    · exact h.1 s h1
    · exact h.2 s h1
theorem sealB_append (a b : List ByteArray) : sealB (a ++ b) = sealB a ++ sealB b := by simp [sealB]
end Go.Proofs.Ytanieolnaiihmaa
