/- Merging versions: merge.newest and merge.View, walked. -/
import Derived.Test.YtcfgmkiohmbdlaaMgGrp
import Derived.Test.YtcfgmkiohmbdlaaMgMerge
namespace Go.Proofs.Ytcfgmkiohmbdlaa
open Go.RowKit
theorem idxN_at {l : List Ent} {a : Int} {k : Nat} (hk : k < l.length) (h : ∀ x ∈ l.take k, a < x.seq) (h0 : l[k].seq ≤ a) : idxN l a = k := by
  have : l.findIdx? (fun x => decide (x.seq ≤ a)) = some k := by
    rw [List.findIdx?_eq_some_iff_getElem]
    refine ⟨hk, by simpa using h0, fun j hj => ?_⟩
    have := h l[j] (by rw [List.mem_take_iff_getElem]; exact ⟨j, by omega, rfl⟩)
    simpa using this
  unfold idxN
  rw [this]
theorem idxN_none {l : List Ent} {a : Int} (h : ∀ x ∈ l, a < x.seq) : idxN l a = -1 := by
  have : l.findIdx? (fun x => decide (x.seq ≤ a)) = none := by
    rw [List.findIdx?_eq_none_iff]
    intro x hx
    simpa using h x hx
  unfold idxN
  rw [this]
theorem seen_at {l : List Ent} {a : Int} {k : Nat} (hk : k < l.length) (h : idxN l a = k) : seenG l a = if l[k].dead then [] else [l[k]] := by
  unfold idxN at h
  unfold seenG
  cases hf : l.findIdx? (fun x => decide (x.seq ≤ a)) with
  | none => rw [hf] at h; simp at h
  | some i =>
    rw [hf] at h
    have hik : i = k := by have h2 : (i : Int) = (k : Int) := h; omega
    subst hik
    obtain ⟨h1, h2, h3⟩ := List.findIdx?_eq_some_iff_getElem.1 hf
    have : l.find? (fun x => decide (x.seq ≤ a)) = some l[i] := by
      rw [List.find?_eq_some_iff_getElem]
      exact ⟨h2, i, h1, rfl, fun j hj => by simpa using h3 j hj⟩
    rw [this]
theorem seen_no {l : List Ent} {a : Int} (h : idxN l a < 0) : seenG l a = [] := by
  unfold idxN at h
  unfold seenG
  cases hf : l.findIdx? (fun x => decide (x.seq ≤ a)) with
  | some i => rw [hf] at h; simp at h; omega
  | none =>
    rw [List.findIdx?_eq_none_iff] at hf
    have : l.find? (fun x => decide (x.seq ≤ a)) = none := by
      rw [List.find?_eq_none]
      intro x hx; simpa using hf x hx
    rw [this]
theorem idxN_range (l : List Ent) (a : Int) : idxN l a = -1 ∨ ∃ k : Nat, k < l.length ∧ idxN l a = k := by
  unfold idxN
  cases hf : l.findIdx? (fun x => decide (x.seq ≤ a)) with
  | none => exact .inl rfl
  | some i =>
    obtain ⟨h1, _⟩ := List.findIdx?_eq_some_iff_getElem.1 hf
    exact .inr ⟨i, h1, rfl⟩
set_option maxHeartbeats 1000000 in
theorem new1_any (w : World) (x1 : ByteArray) (x2 : Int) (x3 : Bool) (x4 : ByteArray) (P : Nat) (a : Int) (hP : w.cell? ⟨P, 0, none⟩ = some (.int .i64 a)) (hPl : P < w.heap.size) (r : Bool) (hr : decide (x2 ≤ a) = r) :
    Calls Try.prog 91 #[.agg #[.string x1, .int .i64 x2, .bool x3, .string x4], .pointer (some ⟨P, 0, none⟩)] w fun e w' => e = .returned (.bool r) ∧ Below w.heap.size w w' := by
  subst hr
  go_enter Try.func91, Try.ntmps91
  go_wp2
  go_ret
  exact ⟨rfl, (Below.refl _ _).alloc (Nat.le_refl _) _⟩
set_option maxHeartbeats 2000000 in
set_option maxRecDepth 20000 in
theorem idx_any (w : World) (A : Option Addr) (n c B P : Nat) (l : List Ent) (a : Int) (hr : Rd w B 4 A n (entv l)) (hB : B ≤ w.heap.size) (hP : w.cell? ⟨P, 0, none⟩ = some (.int .i64 a)) (hPl : P < w.heap.size) (hn : n ≤ 1073741824) :
    Calls Try.prog 90 #[.slice A n c, .func (.func 91) #[] #[.pointer (some ⟨P, 0, none⟩)]] w fun e w' => e = .returned (.int .i64 (idxN l a)) ∧ Below w.heap.size w w' := by
  have HL := Lib.hid (rd_entlen hr)
  have HR := Lib.hid hr
  have HP := Lib.hid hP
  clear hr hP
  go_enter Try.func90, Try.ntmps90
  go_wp2
  go_loopw [8] (fun iv wx => ∃ k : Nat, k ≤ n ∧ iv = .int .i64 k ∧ Hid (∀ x ∈ l.take k, a < x.seq) ∧ Hid (Below w.heap.size w wx)) (fun iv _ => n - (intOf iv).toNat)
  case atStart => exact ⟨0, Nat.zero_le _, rfl, Lib.hid (by simp), Lib.hid (Below.refl _ _)⟩
  case round =>
    obtain ⟨k, hk, rfl, HZ, HW⟩ := hrel
    by_cases hlt : k < n
    · obtain ⟨b, off, rfl, hb, hs, e0, e1, e2, e3⟩ := (HR.out.below (HW.out.mono hB)).ent hlt
      have hz1 := fun h0 => idxN_at hs HZ.out h0
      have hz2 := List.take_succ_eq_append_getElem hs
      obtain ⟨x, hx⟩ : ∃ x, l[k] = x := ⟨_, rfl⟩
      rw [hx] at e0 e1 e2 e3 hz1 hz2
      have HZ1 := Lib.hid hz1
      have HZ2 := Lib.hid hz2
      obtain ⟨x1, x2, x3, x4⟩ := x
      simp only at e0 e1 e2 e3
      obtain ⟨r, hrr⟩ : ∃ r, decide (x2 ≤ a) = r := ⟨_, rfl⟩
      have HN := Lib.hid (new1_any wr x1 x2 x3 x4 P a ((HW.out.cell (p := ⟨P, 0, none⟩) hPl).trans HP.out) (Nat.lt_of_lt_of_le hPl HW.out.size) r hrr)
      have HRR := Lib.hid hrr
      clear hx hz1 hz2 hrr
      go_wp2_with fail
      refine HN.out.mono ?_
      rintro e w2 ⟨rfl, hb2⟩
      have HW2 := Lib.hid (HW.out.trans (hb2.mono HW.out.size))
      clear hb2 HN e0 e1 e2 e3
      cases r with
      | true =>
        have HE := Lib.hid (HZ1.out (of_decide_eq_true HRR.out))
        go_wp2
        go_ret
        rw [HE.out]
        exact ⟨rfl, HW2.out⟩
      | false =>
        have HZ3 : Hid (∀ x ∈ l.take (k + 1), a < x.seq) := Lib.hid (by
          rw [HZ2.out]
          intro x hx
          rcases List.mem_append.1 hx with hx | hx
          · exact HZ.out x hx
          · rw [List.mem_singleton.1 hx]; exact Int.not_le.1 (of_decide_eq_false HRR.out))
        clear HZ1 HZ2
        go_wp2
        go_roundw
        case rel => exact ⟨k + 1, by omega, by go_num, HZ3, HW2⟩
        case measure => simp [intOf]; omega
    · have HE : Hid (idxN l a = -1) := Lib.hid (idxN_none (by
        have h := HZ.out
        rwa [List.take_of_length_le (by rw [← HL.out]; omega)] at h))
      have hz : ¬ (k : Int) < (n : Int) := by omega
      go_wp2
      go_ret
      rw [HE.out]
      exact ⟨rfl, HW.out⟩
set_option maxHeartbeats 1000000 in
theorem newest_any (w : World) (A : Option Addr) (n c B : Nat) (l : List Ent) (a : Int) (hr : Rd w B 4 A n (entv l)) (hB : B ≤ w.heap.size) (hn : n ≤ 1073741824) :
    Calls Try.prog 55 #[.slice A n c, .int .i64 a] w fun e w' => e = .returned (.int .i64 (idxN l a)) ∧ Below w.heap.size w w' := by
  have hb0 : Below w.heap.size w (w.alloc (.cells #[.int .i64 a] 3)) := (Below.refl _ _).alloc (Nat.le_refl _) _
  have hc := idx_any (w.alloc (.cells #[.int .i64 a] 3)) A n c B w.heap.size l a (hr.below (hb0.mono hB)) (by simp; omega) (by rw [cell_of_row _ _ 0 _ _ _ (heap_alloc_new w _)]; rfl) (by simp) hn
  have HC := Lib.hid hc
  have HB0 := Lib.hid hb0
  clear hr hc hb0
  go_enter Try.func55, Try.ntmps55
  go_wp2_with fail
  refine HC.out.mono ?_
  rintro e w2 ⟨rfl, hb2⟩
  have HB := Lib.hid (HB0.out.trans (hb2.mono HB0.out.size))
  clear hb2 HC HB0
  go_wp2
  go_ret
  exact ⟨rfl, HB.out⟩
end Go.Proofs.Ytcfgmkiohmbdlaa
