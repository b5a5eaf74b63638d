/- Frames: Scan, the program's and the reference's, walked. -/
import Derived.Test.YtanieolnaiihmaaJFrFirstR
namespace Go.Proofs.Ytanieolnaiihmaa
open Go.RowKit

def scanFrom (l : List UInt8) : Nat → Nat → List (List UInt8) × Nat
  | 0, k => ([], k)
  | f + 1, k => if (firstR l (k : Int)).2.2 = 0 then ((firstR l (k : Int)).1 :: (scanFrom l f (firstR l (k : Int)).2.1.toNat).1, (scanFrom l f (firstR l (k : Int)).2.1.toNat).2) else ([], k)
def scanR (l : List UInt8) : List (List UInt8) × Nat := scanFrom l (l.length + 1) 0
def toStr (p : List UInt8) : ByteArray := ⟨p.toArray⟩
def strsOf (ps : List (List UInt8)) : List ByteArray := ps.map toStr
theorem strsOf_snoc (ps : List (List UInt8)) (p : List UInt8) : strv (strsOf (ps ++ [p])) = strv (strsOf ps) ++ [Value.string (toStr p)] := by simp [strsOf, strv]
theorem first_two (l : List UInt8) (a : Int) : (firstR l a).2.2 = 0 ∨ (firstR l a).2.2 = 1 := by
  unfold firstR
  split
  · exact .inr rfl
  · unfold firstAt
    split
    · exact .inr rfl
    · split
      · exact .inl rfl
      · exact .inr rfl
/-- A frame that is found ends behind its place, and inside the text. -/
theorem first_end {l : List UInt8} {k : Nat} (h : (firstR l (k : Int)).2.2 = 0) : ∃ e : Nat, (firstR l (k : Int)).2.1 = (e : Int) ∧ k + 8 ≤ e ∧ e ≤ l.length ∧ (firstR l (k : Int)).1.length + k + 8 = e := by
  unfold firstR at h ⊢
  split at h
  · cases h
  · rename_i hin
    rw [if_neg hin]
    unfold firstAt at h ⊢
    have hk : (k : Int).toNat = k := by omega
    rw [hk] at h ⊢
    split at h
    · cases h
    · rename_i hb
      rw [if_neg hb]
      split at h
      · rename_i hs
        rw [if_pos hs]
        have hl : (l.drop k).length = l.length - k := by simp
        refine ⟨_, rfl, by omega, by omega, ?_⟩
        simp only [List.length_take, List.length_drop]
        omega
      · cases h
theorem scan_no {l : List UInt8} {f k : Nat} (h : (firstR l (k : Int)).2.2 = 1) : scanFrom l f k = ([], k) := by
  cases f with
  | zero => rfl
  | succ f => unfold scanFrom; rw [if_neg (by omega)]
theorem scan_ok {l : List UInt8} {f k e : Nat} {p : List UInt8} (h : firstR l (k : Int) = (p, (e : Int), 0)) : scanFrom l (f + 1) k = (p :: (scanFrom l f e).1, (scanFrom l f e).2) := by
  rw [scanFrom, h, if_pos rfl]; rfl
set_option maxRecDepth 20000 in
theorem str_info : (Try.prog.info? 9).map (fun i => (i.zero, i.size, i.bytes)) = some (some (.string ByteArray.empty), 1, 16) := by kernel_rfl
set_option maxHeartbeats 2000000 in
set_option maxRecDepth 20000 in
theorem scan_any (w : World) (s : ByteArray) (hs : s.size ≤ 17179869184) :
    Calls Try.prog 52 #[.string s] w fun e w' => ∃ v, e = .returned (.tuple #[v, .int .i64 ((scanR s.data.toList).2 : Int)]) ∧ w'.ownsRow w.heap.size 9 1 v (scanR s.data.toList).1.length (strv (strsOf (scanR s.data.toList).1)) ∧ Below w.heap.size w w' := by
  obtain ⟨i0, hi0, hz0, hz1, hz2⟩ := info_parts str_info
  have hsl : s.data.toList.length = s.size := by simp
  go_enter Try.func52, Try.ntmps52
  go_wp2
  go_loopw [4, 5] (fun v i wx => ∃ (ps : List (List UInt8)) (k f : Nat), i = .int .i64 k ∧ k ≤ s.size ∧ s.size < f + k ∧ ps.length ≤ k ∧ Hid (scanR s.data.toList = (ps ++ (scanFrom s.data.toList f k).1, (scanFrom s.data.toList f k).2)) ∧ wx.ownsRow w.heap.size 9 1 v ps.length (strv (strsOf ps)) ∧ Below w.heap.size w wx) (fun _ i _ => s.size - (intOf i).toNat)
  case atStart => exact ⟨[], 0, s.size + 1, rfl, Nat.zero_le _, by omega, Nat.le_refl _, by show scanR _ = _; unfold scanR; rw [hsl]; rfl, World.ownsRow_nil _ _ _ _, Below.refl _ _⟩
  case round =>
    obtain ⟨ps, k, f, rfl, hk, hf, hps, HS, hown, hbx⟩ := hrel
    obtain ⟨p, e, c, hfr⟩ : ∃ p e c, firstR s.data.toList (k : Int) = (p, e, c) := ⟨_, _, _, rfl⟩
    have h2 := first_two s.data.toList (k : Int)
    have h3 := first_end (l := s.data.toList) (k := k)
    rw [hfr] at h2 h3
    simp only at h2 h3
    have HF := Lib.hid hfr
    have hcall := first_any wr s (k : Int) (by omega) (by omega) (by omega)
    rw [hfr] at hcall
    simp only at hcall
    clear hfr
    rcases h2 with rfl | rfl
    · obtain ⟨e', rfl, he1, he2, he3⟩ := h3 rfl
      obtain ⟨f, rfl⟩ : ∃ f', f = f' + 1 := ⟨f - 1, by omega⟩
      have HN : Hid (scanR s.data.toList = ((ps ++ [p]) ++ (scanFrom s.data.toList f e').1, (scanFrom s.data.toList f e').2)) := Lib.hid (by
        rw [HS.out, scan_ok HF.out]; simp)
      go_wp2_with fail
      refine hcall.mono ?_
      rintro e w2 ⟨rfl, hb2⟩
      have hown2 := own_below hown hb2
      have hbx2 := bel hbx hb2
      clear hown hb2 hcall h3 HS HF
      go_wp2_with (at_builtin; refine wpList_push rfl (.tmp 20) (.tmp 22) 22 rfl w.heap.size 9 i0 _ 1 16 Try.underlying22 hi0 hz0 hz1 hz2 rfl (by omega) _ ps.length (strv (strsOf ps)) #[.string (toStr p)] rfl (by exact hown2) rfl rfl (by simp [Value.oneCell']) ?c1 ?c2 ?c3 ?_)
      case c1 => omega
      case c2 => unfold maxLen; omega
      case c3 => exact hbx2.size
      intro v3 w3 hown3 hu3 hat3
      have hown3' : w3.ownsRow w.heap.size 9 1 v3 (ps ++ [p]).length (strv (strsOf (ps ++ [p]))) := by
        rw [strsOf_snoc, List.length_append]; exact hown3
      have hb3 := below_row hbx2 hbx2.size hown2 (Nat.le_refl _) hu3
      clear hown3 hown2 hu3 hat3
      go_wp2
      go_roundw
      case rel => exact ⟨ps ++ [p], e', f, rfl, by omega, by omega, by rw [List.length_append]; simp; omega, HN, hown3', hb3⟩
      case measure => simp [intOf]; omega
    · have hend : scanFrom s.data.toList f k = ([], k) := scan_no (by rw [HF.out])
      have HE : Hid (scanR s.data.toList = (ps, k)) := Lib.hid (by rw [HS.out, hend]; simp)
      clear hend HS HF h3
      go_wp2_with fail
      refine hcall.mono ?_
      rintro e' w2 ⟨rfl, hb2⟩
      have hown2 := own_below hown hb2
      have hbx2 := bel hbx hb2
      go_wp2
      go_ret2
      exact ⟨_, by rw [HE.out]; rfl, by rw [HE.out]; exact hown2, hbx2⟩
set_option maxHeartbeats 2000000 in
set_option maxRecDepth 20000 in
theorem rscan_any (w : World) (s : ByteArray) (hs : s.size ≤ 17179869184) :
    Calls Try.prog 58 #[.string s] w fun e w' => ∃ v, e = .returned (.tuple #[v, .int .i64 ((scanR s.data.toList).2 : Int)]) ∧ w'.ownsRow w.heap.size 9 1 v (scanR s.data.toList).1.length (strv (strsOf (scanR s.data.toList).1)) ∧ Below w.heap.size w w' := by
  obtain ⟨i0, hi0, hz0, hz1, hz2⟩ := info_parts str_info
  have hsl : s.data.toList.length = s.size := by simp
  go_enter Try.func58, Try.ntmps58
  go_wp2
  go_loopw [4, 5] (fun v i wx => ∃ (ps : List (List UInt8)) (k f : Nat), i = .int .i64 k ∧ k ≤ s.size ∧ s.size < f + k ∧ ps.length ≤ k ∧ Hid (scanR s.data.toList = (ps ++ (scanFrom s.data.toList f k).1, (scanFrom s.data.toList f k).2)) ∧ wx.ownsRow w.heap.size 9 1 v ps.length (strv (strsOf ps)) ∧ Below w.heap.size w wx) (fun _ i _ => s.size - (intOf i).toNat)
  case atStart => exact ⟨[], 0, s.size + 1, rfl, Nat.zero_le _, by omega, Nat.le_refl _, by show scanR _ = _; unfold scanR; rw [hsl]; rfl, World.ownsRow_nil _ _ _ _, Below.refl _ _⟩
  case round =>
    obtain ⟨ps, k, f, rfl, hk, hf, hps, HS, hown, hbx⟩ := hrel
    obtain ⟨p, e, c, hfr⟩ : ∃ p e c, firstR s.data.toList (k : Int) = (p, e, c) := ⟨_, _, _, rfl⟩
    have h2 := first_two s.data.toList (k : Int)
    have h3 := first_end (l := s.data.toList) (k := k)
    rw [hfr] at h2 h3
    simp only at h2 h3
    have HF := Lib.hid hfr
    have hcall := rfirst_any wr s (k : Int) (by omega) (by omega) (by omega)
    rw [hfr] at hcall
    simp only at hcall
    clear hfr
    rcases h2 with rfl | rfl
    · obtain ⟨e', rfl, he1, he2, he3⟩ := h3 rfl
      obtain ⟨f, rfl⟩ : ∃ f', f = f' + 1 := ⟨f - 1, by omega⟩
      have HN : Hid (scanR s.data.toList = ((ps ++ [p]) ++ (scanFrom s.data.toList f e').1, (scanFrom s.data.toList f e').2)) := Lib.hid (by
        rw [HS.out, scan_ok HF.out]; simp)
      go_wp2_with fail
      refine hcall.mono ?_
      rintro e w2 ⟨rfl, hb2⟩
      have hown2 := own_below hown hb2
      have hbx2 := bel hbx hb2
      clear hown hb2 hcall h3 HS HF
      go_wp2_with (at_builtin; refine wpList_push rfl (.tmp 20) (.tmp 22) 22 rfl w.heap.size 9 i0 _ 1 16 Try.underlying22 hi0 hz0 hz1 hz2 rfl (by omega) _ ps.length (strv (strsOf ps)) #[.string (toStr p)] rfl (by exact hown2) rfl rfl (by simp [Value.oneCell']) ?c1 ?c2 ?c3 ?_)
      case c1 => omega
      case c2 => unfold maxLen; omega
      case c3 => exact hbx2.size
      intro v3 w3 hown3 hu3 hat3
      have hown3' : w3.ownsRow w.heap.size 9 1 v3 (ps ++ [p]).length (strv (strsOf (ps ++ [p]))) := by
        rw [strsOf_snoc, List.length_append]; exact hown3
      have hb3 := below_row hbx2 hbx2.size hown2 (Nat.le_refl _) hu3
      clear hown3 hown2 hu3 hat3
      go_wp2
      go_roundw
      case rel => exact ⟨ps ++ [p], e', f, rfl, by omega, by omega, by rw [List.length_append]; simp; omega, HN, hown3', hb3⟩
      case measure => simp [intOf]; omega
    · have hend : scanFrom s.data.toList f k = ([], k) := scan_no (by rw [HF.out])
      have HE : Hid (scanR s.data.toList = (ps, k)) := Lib.hid (by rw [HS.out, hend]; simp)
      clear hend HS HF h3
      go_wp2_with fail
      refine hcall.mono ?_
      rintro e' w2 ⟨rfl, hb2⟩
      have hown2 := own_below hown hb2
      have hbx2 := bel hbx hb2
      go_wp2
      go_ret2
      exact ⟨_, by rw [HE.out]; rfl, by rw [HE.out]; exact hown2, hbx2⟩
end Go.Proofs.Ytanieolnaiihmaa
