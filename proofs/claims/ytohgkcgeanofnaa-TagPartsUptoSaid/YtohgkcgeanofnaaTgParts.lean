/- Digests: TagParts, walked. -/
import Derived.Test.YtohgkcgeanofnaaTgKeys
namespace Go.Proofs.Ytohgkcgeanofnaa
open Go.RowKit
theorem allB_cons (s : ByteArray) (ps : List ByteArray) : allB (s :: ps) = s.data.toList ++ allB ps := by simp [allB]
theorem row_one {w : World} {g : Nat} {s : ByteArray} (h : w.heap[g]? = some (.cells #[.string s] 9 (0, 0))) : Rd w w.heap.size 1 (some ⟨g, 0, none⟩) 1 (strv [s]) :=
  ⟨rfl, fun _ => ⟨_, rfl, (Array.getElem?_eq_some_iff.1 h).1, fun j u hu => by rw [add_flat0, Nat.zero_add, cell_of_row w g j _ _ _ h, ← hu]; simp [strv]⟩⟩
theorem allB_length (ps : List ByteArray) : (allB ps).length ≤ (ps.map fun s => s.size + 1).sum := by
  induction ps with
  | nil => exact Nat.le_refl _
  | cons s ps ih =>
    rw [allB_cons, List.length_append, List.map_cons, List.sum_cons]
    have h : s.data.toList.length = s.size := by simp
    omega
theorem mac_length (key l : List UInt8) : (macB key l).length = 32 := sumB_length _
set_option maxHeartbeats 8000000 in
set_option maxRecDepth 20000 in
theorem parts_any (w : World) (key : ByteArray) (A : Option Addr) (n c : Nat) (ps : List ByteArray) (hr : Rd w w.heap.size 1 A n (strv ps)) (hn : n ≤ 8796093022200) (hks : key.size ≤ 140737488351232) (hs : ∀ p ∈ ps, p.size ≤ 140737488351232)
    (hall : (allB ps).length ≤ 140737488351232) :
    Calls Try.prog 4 #[.string key, .slice A n c] w fun e w' => e = .returned (.bool true) ∧ Below w.heap.size w w' := by
  obtain ⟨i0, hi0, hz0, hz1, hz2⟩ := info_parts u8_info
  have hpl : ps.length = n := by have := hr.len; rw [strv_length] at this; omega
  go_enter Try.func4, Try.ntmps4
  go_wp2_with fail
  refine (lives_any w).mono ?_
  rintro e w1 ⟨rfl, hb1⟩
  go_wp2
  go_loopw [5, 7, 12] (fun v _ i wx => ∃ k : Nat, k ≤ n ∧ i = .int .i64 k ∧ OwnB wx w.heap.size 5 v (allB (ps.take k)) ∧ Below w.heap.size w wx) (fun _ _ i _ => n - (intOf i).toNat)
  case atStart => exact ⟨0, Nat.zero_le _, rfl, .inl ⟨rfl, rfl⟩, hb1⟩
  case round =>
    clear hb1
    obtain ⟨k, hk, rfl, how, hB⟩ := hrel
    obtain ⟨L, hL⟩ : ∃ L, L = allB (ps.take k) := ⟨_, rfl⟩
    rw [← hL] at how
    obtain ⟨A5, c5, rfl⟩ := how.shape
    have HL := Lib.hid hL
    have HOW := Lib.hid how
    have HB := Lib.hid hB
    have hBw := hB.size
    by_cases hlt : k < n
    · obtain ⟨ad, rfl, _, hks', hc⟩ := (hr.below hB).str hlt
      obtain ⟨x, hx⟩ : ∃ x, x = ps[k] := ⟨_, rfl⟩
      rw [← hx] at hc
      have ht : allB (ps.take (k + 1)) = L ++ x.data.toList := by rw [hL]; exact allB_take ps k x (by rw [hx]; exact List.getElem?_eq_getElem hks')
      have hle : L.length + x.size ≤ 140737488351232 := by
        have h1 : allB ps = allB (ps.take (k + 1)) ++ allB (ps.drop (k + 1)) := by unfold allB; rw [← List.flatMap_append, List.take_append_drop]
        rw [h1, ht, List.length_append, List.length_append] at hall
        have h2 : x.data.toList.length = x.size := by simp
        omega
      have HT := Lib.hid ht
      clear how hB hL ht hx
      have m4 : (k : Int) < n := by omega
      go_wp2_with (at_builtin; refine wpList_bapps wr rfl (.tmp 16) (.tmp 17) 29 9 rfl w.heap.size 5 i0 Try.underlying29 Try.underlying9 hi0 hz0 hz1 hz2 _ L x rfl (by exact HOW.out) rfl ?c1 ?c2 ?_)
      case c1 => omega
      case c2 => exact hBw
      intro v' w3 ho3 hu3 _
      have hB4 := below_ownB HB.out hBw HOW.out (Nat.le_refl _) hu3
      rw [← HT.out] at ho3
      clear hu3
      go_wp2
      refine ⟨⟨k + 1, by omega, by go_num, ho3, hB4⟩, ?_⟩
      simp [intOf]; omega
    · obtain rfl : k = n := by omega
      have hLa : L = allB ps := by rw [hL, List.take_of_length_le (by omega)]
      have hLs : L.length ≤ 140737488351232 := by rw [hLa]; exact hall
      obtain ⟨sl, hsl⟩ : ∃ sl : ByteArray, sl = ⟨L.toArray⟩ := ⟨_, rfl⟩
      have hsls : sl.size ≤ 140737488351232 := by rw [hsl]; show L.toArray.size ≤ _; simpa using hLs
      have hsld : sl.data.toList = allB ps := by rw [hsl, ← hLa]
      have hkB : k ≤ 17592186044416 := by omega
      have HS : Hid (∀ W, Below wr.heap.size wr W → Below wr.heap.size wr W ∧ (convert 29 9 (.slice A5 L.length c5)).run Try.prog W = .ok (.string sl) W) := Lib.hid fun W hW => by
        refine ⟨hW, ?_⟩
        rw [hsl]
        exact (how.below hW).str (P := Try.prog) (src := 29) (dst := 9) Try.underlying29 Try.underlying5 Try.underlying9
      obtain ⟨s1, hs1⟩ : ∃ s1 : ByteArray, s1 = ⟨(sumB (allB ps)).toArray⟩ := ⟨_, rfl⟩
      obtain ⟨s2, hs2⟩ : ∃ s2 : ByteArray, s2 = ⟨(macB key.data.toList (allB ps)).toArray⟩ := ⟨_, rfl⟩
      obtain ⟨s3, hs3⟩ : ∃ s3 : ByteArray, s3 = ⟨(macB key.data.toList []).toArray⟩ := ⟨_, rfl⟩
      have hs3l : s3.size = 32 := by rw [hs3]; show (macB _ _).toArray.size = _; rw [List.size_toArray, mac_length]
      have HC1 : Hid (∀ W, Below wr.heap.size wr W → Calls Try.prog 7 #[.slice A k c] W (fun e w' => e = .returned (.string s1) ∧ Below wr.heap.size wr w' ∧ Below W.heap.size W w')) := Lib.hid fun W hW => by
        refine (sum_any W A k c ps ((hr.below (hB.trans (hW.mono hBw))).mono (Nat.le_trans hBw hW.size)) hkB hs).mono ?_
        rintro e w' ⟨rfl, hb⟩
        rw [hs1]
        exact ⟨rfl, hW.trans (hb.mono hW.size), hb⟩
      have HC2 : Hid (∀ W g, Below wr.heap.size wr W → W.heap[g]? = some (.cells #[.string sl] 9 (0, 0)) → Calls Try.prog 7 #[.slice (some ⟨g, 0, none⟩) 1 1] W (fun e w' => e = .returned (.string s1) ∧ Below wr.heap.size wr w')) := Lib.hid fun W g hW hg => by
        refine (sum_any W _ 1 1 [sl] (row_one hg) (by decide) (fun p hp => by rw [List.mem_singleton] at hp; rw [hp]; exact hsls)).mono ?_
        rintro e w' ⟨rfl, hb⟩
        rw [hs1, allB_one, hsld]
        exact ⟨rfl, hW.trans (hb.mono hW.size)⟩
      have HM1 : Hid (∀ W, Below wr.heap.size wr W → Calls Try.prog 9 #[.string key, .slice A k c] W (fun e w' => e = .returned (.string s2) ∧ Below wr.heap.size wr w' ∧ Below W.heap.size W w')) := Lib.hid fun W hW => by
        refine (mac_any W key A k c ps ((hr.below (hB.trans (hW.mono hBw))).mono (Nat.le_trans hBw hW.size)) hn hks hs).mono ?_
        rintro e w' ⟨rfl, hb⟩
        rw [hs2]
        exact ⟨rfl, hW.trans (hb.mono hW.size), hb⟩
      have HM2 : Hid (∀ W g, Below wr.heap.size wr W → W.heap[g]? = some (.cells #[.string sl] 9 (0, 0)) → Calls Try.prog 9 #[.string key, .slice (some ⟨g, 0, none⟩) 1 1] W (fun e w' => e = .returned (.string s2) ∧ Below wr.heap.size wr w')) := Lib.hid fun W g hW hg => by
        refine (mac_any W key _ 1 1 [sl] (row_one hg) (by decide) hks (fun p hp => by rw [List.mem_singleton] at hp; rw [hp]; exact hsls)).mono ?_
        rintro e w' ⟨rfl, hb⟩
        rw [hs2, allB_one, hsld]
        exact ⟨rfl, hW.trans (hb.mono hW.size)⟩
      have HM3 : Hid (∀ W, Below wr.heap.size wr W → Calls Try.prog 9 #[.string key, .slice none 0 0] W (fun e w' => e = .returned (.string s3) ∧ Below wr.heap.size wr w')) := Lib.hid fun W hW => by
        refine (mac_any W key none 0 0 [] Rd.nil (by decide) hks (fun p hp => by cases hp)).mono ?_
        rintro e w' ⟨rfl, hb⟩
        rw [hs3]
        exact ⟨rfl, hW.trans (hb.mono hW.size)⟩
      have hbW0 : Below wr.heap.size wr wr.drew := below_drew1 (Below.refl _ _)
      clear how hL hLa hLs hsl hsls hsld hs1 hs2 hs3 hB hkB hall
      go_wp2
      first
        | go_region_held3 (fun w' => Below wr.heap.size wr w' ∧ (convert 29 9 (.slice A5 L.length c5)).run Try.prog w' = .ok (.string sl) w') (first | exact HS.out _ (by assumption) | exact HS.out _ (Below.alloc (by assumption) (Below.size (by assumption)) _) | fail) (first
          | (go_at_call_of 7 (Value.slice A k c); refine (HC1.out _ (by first | assumption | exact And.left (by assumption))).mono ?_; rintro e w2 ⟨rfl, hb2, hc2⟩)
          | (go_at_call 7; refine (HC2.out _ _ (by first | assumption | exact And.left (by assumption)) (by first | exact heap_alloc_new _ _ | exact (hc2.block _ (by simp)).trans (heap_alloc_new _ _))).mono ?_; rintro e w2 ⟨rfl, hb2⟩)
          | (go_at_call_of 9 (Value.slice A k c); refine (HM1.out _ (by first | assumption | exact And.left (by assumption))).mono ?_; rintro e w2 ⟨rfl, hb2, hc2⟩)
          | (go_at_call_of 9 (Value.slice none 0 0); refine (HM3.out _ (by first | assumption | exact And.left (by assumption))).mono ?_; rintro e w2 ⟨rfl, hb2⟩)
          | (go_at_call 9; refine (HM2.out _ _ (by first | assumption | exact And.left (by assumption)) (by first | exact heap_alloc_new _ _ | exact (hc2.block _ (by simp)).trans (heap_alloc_new _ _))).mono ?_; rintro e w2 ⟨rfl, hb2⟩))
        | fail
      all_goals go_wp2
      all_goals go_ret
      all_goals exact ⟨rfl, bel HB.out hb2⟩
end Go.Proofs.Ytohgkcgeanofnaa
