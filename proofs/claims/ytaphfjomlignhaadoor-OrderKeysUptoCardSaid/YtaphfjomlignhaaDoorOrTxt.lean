/- Keys: order.text, walked. -/
import Derived.Test.YtaphfjomlignhaaDoorOrSpl
namespace Go.Proofs.YtaphfjomlignhaaDoor
open Go.RowKit
theorem text_pre : ∀ (t t' r c : List UInt8), esc t ++ r = esc t' ++ (0 :: 0 :: c) → ∃ t'', t' = t ++ t'' ∧ r = esc t'' ++ (0 :: 0 :: c) := by
  intro t
  induction t with
  | nil => intro t' r c h; exact ⟨t', rfl, by simpa [esc] using h⟩
  | cons a t ih =>
    intro t' r c h
    cases t' with
    | nil =>
      by_cases ha : a = 0
      · subst ha; rw [esc_zero] at h; simp [esc] at h
      · rw [esc_ne a ha] at h; simp [esc] at h; exact absurd h.1 ha
    | cons b t' =>
      by_cases ha : a = 0 <;> by_cases hb : b = 0
      · subst ha; subst hb
        rw [esc_zero, esc_zero] at h
        simp at h
        obtain ⟨t'', h1, h2⟩ := ih t' r c (by simpa using h)
        exact ⟨t'', by rw [h1]; rfl, h2⟩
      · subst ha
        rw [esc_zero, esc_ne b hb] at h
        simp at h; exact absurd h.1.symm hb
      · subst hb
        rw [esc_zero, esc_ne a ha] at h
        simp at h; exact absurd h.1 ha
      · rw [esc_ne a ha, esc_ne b hb] at h
        simp at h
        obtain ⟨t'', h1, h2⟩ := ih t' r c (by simpa using h.2)
        exact ⟨t'', by rw [h1, h.1]; rfl, h2⟩
/-- No text stands at the head of these bytes. -/
def NoText (l : List UInt8) : Prop := ∀ t c, l ≠ esc t ++ (0 :: 0 :: c)
theorem noText_short {l t : List UInt8} {k : Nat} (h : l.take k = esc t) (hk : l.length ≤ k + 1) : NoText l := by
  intro t' c e
  have h2 : esc t ++ l.drop k = esc t' ++ (0 :: 0 :: c) := by rw [← h, List.take_append_drop]; exact e
  obtain ⟨t'', _, h3⟩ := text_pre _ _ _ _ h2
  have := congrArg List.length h3
  simp at this
  omega
theorem noText_bad {l t : List UInt8} {k : Nat} (h : l.take k = esc t) (hk : k + 1 < l.length) (h0 : l[k]'(by omega) = 0) (h1 : l[k + 1] ≠ 0) (h2 : l[k + 1] ≠ 255) : NoText l := by
  intro t' c e
  have h2' : esc t ++ l.drop k = esc t' ++ (0 :: 0 :: c) := by rw [← h, List.take_append_drop]; exact e
  obtain ⟨t'', _, h3⟩ := text_pre _ _ _ _ h2'
  rw [List.drop_eq_getElem_cons (by omega), List.drop_eq_getElem_cons hk, h0] at h3
  cases t'' with
  | nil =>
    have h4 : (0 : UInt8) :: l[k + 1] :: l.drop (k + 1 + 1) = 0 :: 0 :: c := h3
    injection h4 with _ h5
    injection h5 with h6 _
    exact h1 h6
  | cons b t'' =>
    by_cases hb : b = 0
    · subst hb; rw [esc_zero] at h3
      injection h3 with _ h5
      injection h5 with h6 _
      exact h2 h6
    · rw [esc_ne b hb] at h3
      injection h3 with h4 _
      exact hb h4.symm
theorem esc_take_ne {l t : List UInt8} {k : Nat} (h : l.take k = esc t) (hk : k < l.length) (h0 : l[k] ≠ 0) : l.take (k + 1) = esc (t ++ [l[k]]) := by
  rw [List.take_succ_eq_append_getElem hk, h, esc_append, esc_ne _ h0]; simp [esc]
theorem esc_take_zero {l t : List UInt8} {k : Nat} (h : l.take k = esc t) (hk : k + 1 < l.length) (h0 : l[k]'(by omega) = 0) (h1 : l[k + 1] = 255) : l.take (k + 2) = esc (t ++ [0]) := by
  rw [List.take_succ_eq_append_getElem hk, List.take_succ_eq_append_getElem (by omega), h, h0, h1, esc_append, esc_zero]; simp [esc]
theorem text_end {l t : List UInt8} {k : Nat} (h : l.take k = esc t) (hk : k + 1 < l.length) (h0 : l[k]'(by omega) = 0) (h1 : l[k + 1] = 0) : l = esc t ++ (0 :: 0 :: l.drop (k + 2)) := by
  have : l.drop k = 0 :: 0 :: l.drop (k + 2) := by rw [List.drop_eq_getElem_cons (by omega), List.drop_eq_getElem_cons hk, h0, h1]
  rw [← this, ← h, List.take_append_drop]
/-- What order.text answers. -/
def TextAns (s : ByteArray) (v : Value) : Prop :=
  (∃ (t r : ByteArray), s.data.toList = esc t.data.toList ++ (0 :: 0 :: r.data.toList) ∧ v = .tuple #[.agg #[.int .i64 2, .int .i64 0, .string t], .string r, .bool true]) ∨
  (NoText s.data.toList ∧ v = .tuple #[noPart, .string ⟨#[]⟩, .bool false])
set_option maxHeartbeats 4000000 in
set_option maxRecDepth 20000 in
theorem text_any (w : World) (s : ByteArray) (hs : s.size ≤ 1073741824) :
    Calls Tryd.prog 26 #[.string s] w fun e w' => ∃ v, e = .returned v ∧ TextAns s v ∧ Below w.heap.size w w' := by
  obtain ⟨i0, hi0, hz0, hz1, hz2⟩ := info_parts u8_info
  have R0 := heap_alloc_new w (.cells #[.int .i64 0, .int .i64 0, .string ⟨#[]⟩] 31)
  have hb0 : Below w.heap.size w (w.alloc (.cells #[.int .i64 0, .int .i64 0, .string ⟨#[]⟩] 31)) := (Below.refl _ _).alloc (Nat.le_refl _) _
  have hsA : (w.alloc (.cells #[.int .i64 0, .int .i64 0, .string ⟨#[]⟩] 31)).heap.size = w.heap.size + 1 := by simp
  have HB0 := Lib.hid hb0
  have HR0 := Lib.hid R0
  have HSL := Lib.hid (show s.data.toList.length = s.size by simp)
  clear hb0 R0
  go_enter Tryd.func26, Tryd.ntmps26
  go_upto_region 2 with (fail)
  generalize hWA : w.alloc (.cells #[.int .i64 0, .int .i64 0, .string ⟨#[]⟩] 31) = wA at HB0 HR0 hsA ⊢
  clear hWA
  go_wp2
  go_loopw [5, 6] (fun v i wx => ∃ k : Nat, k ≤ s.size ∧ i = .int .i64 k ∧ Hid (∃ t, s.data.toList.take k = esc t ∧ t.length ≤ k ∧ wx.ownsRow wA.heap.size 5 1 v t.length (bytv t)) ∧ Hid (Below wA.heap.size wA wx)) (fun _ i _ => s.size - (intOf i).toNat)
  case atStart => exact ⟨0, Nat.zero_le _, rfl, Lib.hid ⟨[], by simp [esc], by simp, World.ownsRow_nil _ _ _ _⟩, Lib.hid (Below.refl _ _)⟩
  case round =>
    obtain ⟨k, hk, rfl, hO, hW⟩ := hrel
    obtain ⟨t, ht, htl, hown⟩ := hO.out
    have HT := Lib.hid ht
    have HOWN := Lib.hid hown
    have hsz := hW.out.size
    have HR1 := Lib.hid ((hW.out.block _ (by omega)).trans HR0.out)
    clear hO ht hown
    by_cases hlt : k + 1 < s.size
    · have hk1 : k < s.size := by omega
      have hd : (k : Int) < (s.size : Int) - 1 := by omega
      have hkl : k < s.data.toList.length := by rw [HSL.out]; exact hk1
      have hkl2 : k + 1 < s.data.toList.length := by rw [HSL.out]; exact hlt
      have hg1 : s.data.toList[k] = s[k] := rfl
      have hg2 : s.data.toList[k + 1] = s[k + 1] := rfl
      by_cases hb : s[k] = 0
      · have hb0 : (((s[k]).toNat : Int) == 0) = true := by rw [hb]; rfl
        by_cases hd255 : s[k + 1] = 255
        · have hd0 : (((s[k + 1]).toNat : Int) == 255) = true := by rw [hd255]; rfl
          have HT2 : Hid (s.data.toList.take (k + 2) = esc (t ++ [s[k]])) := Lib.hid (by rw [hb]; exact esc_take_zero HT.out hkl2 (hg1.trans hb) (hg2.trans hd255))
          clear hg1 hg2 hb hd255
          go_wp2_with (at_builtin; refine wpList_push rfl (.tmp 32) (.tmp 34) 43 rfl wA.heap.size 5 i0 _ 1 1 Tryd.underlying43 hi0 hz0 hz1 hz2 rfl (by decide) _ t.length (bytv t) #[.int .u8 (s[k].toNat : Int)] rfl (by exact HOWN.out) rfl rfl ?a1 ?a2 ?a3 ?a4 ?_)
          case a1 => first | rfl | (intro u hu; simp at hu; subst hu; rfl)
          case a2 => omega
          case a3 => unfold maxLen; omega
          case a4 => omega
          intro v3 w3 hown3 hu3 hat3
          have HO3 : Hid (∃ t', s.data.toList.take (k + 2) = esc t' ∧ t'.length ≤ k + 2 ∧ w3.ownsRow wA.heap.size 5 1 v3 t'.length (bytv t')) := Lib.hid ⟨t ++ [s[k]], HT2.out, by simp; omega, by
            rw [bytv_append, List.length_append, hsA]; exact hown3⟩
          have HW3 : Hid (Below wA.heap.size wA w3) := Lib.hid (below_row hW.out hW.out.size HOWN.out (Nat.le_refl _) hu3)
          clear hown3 hu3 hat3 HOWN hW HR1
          go_wp2
          go_roundw
          case rel => exact ⟨k + 2, by omega, by go_num, HO3, HW3⟩
          case measure => simp [intOf]; omega
        · have hd1 : (((s[k + 1]).toNat : Int) == 255) = false := beq_eq_false_iff_ne.2 (fun h => hd255 (UInt8.toNat_inj.1 (by show (s[k + 1]).toNat = 255; omega)))
          by_cases hdz : s[k + 1] = 0
          · have hd0 : (((s[k + 1]).toNat : Int) == 0) = true := by rw [hdz]; rfl
            have HE := Lib.hid (text_end HT.out hkl2 (hg1.trans hb) (hg2.trans hdz))
            have hcv := conv_own (P := Tryd.prog) (w := wr.drew) (src := 43) (dst := 9) Tryd.underlying43 Tryd.underlying5 Tryd.underlying9 (show wr.drew.ownsRow wA.heap.size 5 1 _ t.length (bytv t) from HOWN.out)
            obtain ⟨TT, hTT⟩ : ∃ TT : ByteArray, (⟨t.toArray⟩ : ByteArray) = TT := ⟨_, rfl⟩
            have HTT : Hid (TT.data.toList = t) := Lib.hid (by rw [← hTT])
            rw [hTT] at hcv
            have HX : Hid ((s.extract (k + 2) s.size).data.toList = s.data.toList.drop (k + 2)) := Lib.hid (by
              rw [ByteArray.data_extract]; simp
              exact List.take_of_length_le (by rw [List.length_drop, HSL.out]; exact Nat.le_refl _))
            clear hg1 hg2 hb hd255 hdz hTT
            have c0 : wr.cell? ⟨w.heap.size, 0, none⟩ = some (.int .i64 0) := by rw [cell_of_row _ _ 0 _ _ _ HR1.out]; rfl
            have c1 : wr.cell? ⟨w.heap.size, 1, none⟩ = some (.int .i64 0) := by rw [cell_of_row _ _ 1 _ _ _ HR1.out]; rfl
            have c2 : wr.cell? ⟨w.heap.size, 2, none⟩ = some (.string ⟨#[]⟩) := by rw [cell_of_row _ _ 2 _ _ _ HR1.out]; rfl
            have f : ∀ i, wr.frozen? ⟨w.heap.size, i, none⟩ = false := fun i => frozen_of_row wr _ i _ _ HR1.out
            have f0 := f 0
            have f1 := f 1
            have f2 := f 2
            clear f
            go_wp2
            go_region
            go_wp2
            have hF := row3 wr w.heap.size _ _ _ _ (.int .i64 2) (.int .i64 0) (.string TT) HR1.out
            have HW := Lib.hid (below_drew1 ((HB0.out.trans (hW.out.mono (by omega))).trans (hF.2.below (B := w.heap.size) (fun k hk e => by omega) (by omega))))
            generalize ((wr.setCell ⟨w.heap.size, 0, none⟩ (.int .i64 2)).setCell ⟨w.heap.size, 1, none⟩ (.int .i64 0)).setCell ⟨w.heap.size, 2, none⟩ (.string TT) = wF at hF HW ⊢
            have r0 : wF.cell? ⟨w.heap.size, 0, none⟩ = some (.int .i64 2) := by rw [cell_of_row wF _ 0 _ _ _ hF.1]; rfl
            have r1 : wF.cell? ⟨w.heap.size, 1, none⟩ = some (.int .i64 0) := by rw [cell_of_row wF _ 1 _ _ _ hF.1]; rfl
            have r2 : wF.cell? ⟨w.heap.size, 2, none⟩ = some (.string TT) := by rw [cell_of_row wF _ 2 _ _ _ hF.1]; rfl
            exact bodyPost_ret (v := .tuple #[.agg #[.int .i64 2, .int .i64 0, .string TT], .string (s.extract (k + 2) s.size), .bool true]) (by simp [results, noPart, Tryd.results26, go_sem, r0, r1, r2]) rfl ⟨_, rfl, .inl ⟨TT, s.extract (k + 2) s.size, by rw [HTT.out, HX.out]; exact HE.out, rfl⟩, HW.out⟩
          · have hd0 : (((s[k + 1]).toNat : Int) == 0) = false := beq_eq_false_iff_ne.2 (fun h => hdz (UInt8.toNat_inj.1 (by show (s[k + 1]).toNat = 0; omega)))
            have HN := Lib.hid (noText_bad HT.out hkl2 (hg1.trans hb) hdz hd255)
            clear hg1 hg2 hb hd255 hdz
            have c0 : wr.cell? ⟨w.heap.size, 0, none⟩ = some (.int .i64 0) := by rw [cell_of_row _ _ 0 _ _ _ HR1.out]; rfl
            have c1 : wr.cell? ⟨w.heap.size, 1, none⟩ = some (.int .i64 0) := by rw [cell_of_row _ _ 1 _ _ _ HR1.out]; rfl
            have c2 : wr.cell? ⟨w.heap.size, 2, none⟩ = some (.string ⟨#[]⟩) := by rw [cell_of_row _ _ 2 _ _ _ HR1.out]; rfl
            have f : ∀ i, wr.frozen? ⟨w.heap.size, i, none⟩ = false := fun i => frozen_of_row wr _ i _ _ HR1.out
            have f0 := f 0
            have f1 := f 1
            have f2 := f 2
            clear f
            go_wp2
            have hF := row3 wr w.heap.size _ _ _ _ (.int .i64 0) (.int .i64 0) (.string ⟨#[]⟩) HR1.out
            have HW := Lib.hid (((HB0.out.trans (hW.out.mono (by omega))).trans (hF.2.below (B := w.heap.size) (fun k hk e => by omega) (by omega))))
            generalize ((wr.setCell ⟨w.heap.size, 0, none⟩ (.int .i64 0)).setCell ⟨w.heap.size, 1, none⟩ (.int .i64 0)).setCell ⟨w.heap.size, 2, none⟩ (.string ⟨#[]⟩) = wF at hF HW ⊢
            have r0 : wF.cell? ⟨w.heap.size, 0, none⟩ = some (.int .i64 0) := by rw [cell_of_row wF _ 0 _ _ _ hF.1]; rfl
            have r1 : wF.cell? ⟨w.heap.size, 1, none⟩ = some (.int .i64 0) := by rw [cell_of_row wF _ 1 _ _ _ hF.1]; rfl
            have r2 : wF.cell? ⟨w.heap.size, 2, none⟩ = some (.string ⟨#[]⟩) := by rw [cell_of_row wF _ 2 _ _ _ hF.1]; rfl
            exact bodyPost_ret (v := .tuple #[noPart, .string ⟨#[]⟩, .bool false]) (by simp [results, noPart, Tryd.results26, go_sem, r0, r1, r2]) rfl ⟨_, rfl, .inr ⟨HN.out, rfl⟩, HW.out⟩
      · have hb0 : (((s[k]).toNat : Int) == 0) = false := beq_eq_false_iff_ne.2 (fun h => hb (UInt8.toNat_inj.1 (by show (s[k]).toNat = 0; omega)))
        have HT2 : Hid (s.data.toList.take (k + 1) = esc (t ++ [s[k]])) := Lib.hid (esc_take_ne HT.out hkl hb)
        clear hg1 hg2 hb
        go_wp2_with (at_builtin; refine wpList_push rfl (.tmp 22) (.tmp 24) 43 rfl wA.heap.size 5 i0 _ 1 1 Tryd.underlying43 hi0 hz0 hz1 hz2 rfl (by decide) _ t.length (bytv t) #[.int .u8 (s[k].toNat : Int)] rfl (by exact HOWN.out) rfl rfl ?b1 ?b2 ?b3 ?b4 ?_)
        case b1 => first | rfl | (intro u hu; simp at hu; subst hu; rfl)
        case b2 => omega
        case b3 => unfold maxLen; omega
        case b4 => omega
        intro v3 w3 hown3 hu3 hat3
        have HO3 : Hid (∃ t', s.data.toList.take (k + 1) = esc t' ∧ t'.length ≤ k + 1 ∧ w3.ownsRow wA.heap.size 5 1 v3 t'.length (bytv t')) := Lib.hid ⟨t ++ [s[k]], HT2.out, by simp; omega, by
          rw [bytv_append, List.length_append, hsA]; exact hown3⟩
        have HW3 : Hid (Below wA.heap.size wA w3) := Lib.hid (below_row hW.out hW.out.size HOWN.out (Nat.le_refl _) hu3)
        clear hown3 hu3 hat3 HOWN hW HR1
        go_wp2
        go_roundw
        case rel => exact ⟨k + 1, by omega, by go_num, HO3, HW3⟩
        case measure => simp [intOf]; omega
    · have hd : ¬ ((k : Int) < (s.size : Int) - 1) := by omega
      have HN := Lib.hid (noText_short HT.out (by rw [HSL.out]; omega))
      have c0 : wr.cell? ⟨w.heap.size, 0, none⟩ = some (.int .i64 0) := by rw [cell_of_row _ _ 0 _ _ _ HR1.out]; rfl
      have c1 : wr.cell? ⟨w.heap.size, 1, none⟩ = some (.int .i64 0) := by rw [cell_of_row _ _ 1 _ _ _ HR1.out]; rfl
      have c2 : wr.cell? ⟨w.heap.size, 2, none⟩ = some (.string ⟨#[]⟩) := by rw [cell_of_row _ _ 2 _ _ _ HR1.out]; rfl
      have f : ∀ i, wr.frozen? ⟨w.heap.size, i, none⟩ = false := fun i => frozen_of_row wr _ i _ _ HR1.out
      have f0 := f 0
      have f1 := f 1
      have f2 := f 2
      clear f
      go_wp2
      have hF := row3 wr w.heap.size _ _ _ _ (.int .i64 0) (.int .i64 0) (.string ⟨#[]⟩) HR1.out
      have HW := Lib.hid (((HB0.out.trans (hW.out.mono (by omega))).trans (hF.2.below (B := w.heap.size) (fun k hk e => by omega) (by omega))))
      generalize ((wr.setCell ⟨w.heap.size, 0, none⟩ (.int .i64 0)).setCell ⟨w.heap.size, 1, none⟩ (.int .i64 0)).setCell ⟨w.heap.size, 2, none⟩ (.string ⟨#[]⟩) = wF at hF HW ⊢
      have r0 : wF.cell? ⟨w.heap.size, 0, none⟩ = some (.int .i64 0) := by rw [cell_of_row wF _ 0 _ _ _ hF.1]; rfl
      have r1 : wF.cell? ⟨w.heap.size, 1, none⟩ = some (.int .i64 0) := by rw [cell_of_row wF _ 1 _ _ _ hF.1]; rfl
      have r2 : wF.cell? ⟨w.heap.size, 2, none⟩ = some (.string ⟨#[]⟩) := by rw [cell_of_row wF _ 2 _ _ _ hF.1]; rfl
      exact bodyPost_ret (v := .tuple #[noPart, .string ⟨#[]⟩, .bool false]) (by simp [results, noPart, Tryd.results26, go_sem, r0, r1, r2]) rfl ⟨_, rfl, .inr ⟨HN.out, rfl⟩, HW.out⟩
end Go.Proofs.YtaphfjomlignhaaDoor
