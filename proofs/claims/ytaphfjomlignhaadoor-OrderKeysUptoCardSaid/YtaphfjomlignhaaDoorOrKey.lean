/- Keys: the key of parts, in plain words, and Key's walk. -/
import Derived.Test.YtaphfjomlignhaaDoorOrPt
import Derived.Test.YtaphfjomlignhaaDoorOrNum
import Derived.Test.YtaphfjomlignhaaDoorOrStr
import Derived.Deep.DeepCutAuto
namespace Go.Proofs.YtaphfjomlignhaaDoor
open Go.RowKit Go.Shelf
def Pt.right (x : Pt) : Prop := (x.kind = 1 ∧ x.text.size = 0) ∨ (x.kind = 2 ∧ x.num = 0)
instance (x : Pt) : Decidable x.right := by unfold Pt.right; infer_instance
def partK (x : Pt) : List UInt8 := if x.kind = 1 then numK x.num else textK x.text.data.toList
def bytesK (l : List Pt) : List UInt8 := l.flatMap partK
def allR (l : List Pt) : Prop := ∀ x ∈ l, x.right
instance (l : List Pt) : Decidable (allR l) := by unfold allR; infer_instance
def keyR (l : List Pt) : List UInt8 × Nat := if allR l then (bytesK l, 0) else ([], 3)
theorem keyR_ok {l : List Pt} (h : allR l) : keyR l = (bytesK l, 0) := if_pos h
theorem keyR_no {l : List Pt} {x : Pt} (hx : x ∈ l) (h : ¬ x.right) : keyR l = ([], 3) := if_neg fun hf => h (hf x hx)
theorem bytesK_take (l : List Pt) (k : Nat) (h : k < l.length) : bytesK (l.take (k + 1)) = bytesK (l.take k) ++ partK l[k] := by
  rw [List.take_succ_eq_append_getElem h]; unfold bytesK; rw [List.flatMap_append, List.flatMap_cons, List.flatMap_nil, List.append_nil]
theorem bytesK_take_len (l : List Pt) (k : Nat) : (bytesK (l.take k)).length ≤ (bytesK l).length := by
  have : bytesK l = bytesK (l.take k) ++ bytesK (l.drop k) := by unfold bytesK; rw [← List.flatMap_append, List.take_append_drop]
  rw [this, List.length_append]; omega
theorem allR_take {l : List Pt} {k : Nat} (h : k < l.length) (ha : allR (l.take k)) (hx : l[k].right) : allR (l.take (k + 1)) := by
  intro x hx'
  rw [List.take_succ_eq_append_getElem h] at hx'
  rcases List.mem_append.1 hx' with h' | h'
  · exact ha x h'
  · rw [List.mem_singleton.1 h']; exact hx
theorem kx1 {x : Pt} (h1 : x.kind = 1) : partK x = numK x.num := if_pos h1
theorem kx2 {x : Pt} (h1 : x.kind ≠ 1) : partK x = textK x.text.data.toList := if_neg h1
set_option maxHeartbeats 2000000 in
set_option maxRecDepth 20000 in
theorem key_any (w : World) (A : Option Addr) (n c : Nat) (l : List Pt) (m : Int) (hm : w.cell? ⟨0, 0, none⟩ = some (.int .i64 m)) (hg : 0 < w.heap.size)
    (hr : Rd w w.heap.size 3 A n (ptv l)) (hn : n ≤ 1048576) (hok : ∀ x ∈ l, (-9223372036854775808 ≤ x.num ∧ x.num ≤ 9223372036854775807) ∧ x.text.size ≤ 1048576) (hl : (bytesK l).length ≤ 1099511627776) :
    Calls Tryd.prog 14 #[.slice A n c] w fun e w' => e = .returned (.tuple #[.string ⟨(keyR l).1.toArray⟩, .int .i64 ((keyR l).2 : Int)]) ∧ Below w.heap.size w w' := by
  have HNL := Lib.hid (rd_ptlen hr)
  have HR := Lib.hid hr
  have HOK := Lib.hid hok
  have HL := Lib.hid hl
  have HM := Lib.hid hm
  clear hr hok hl hm
  go_enter Tryd.func14, Tryd.ntmps14
  go_wp2
  go_loopw [11] (fun i wx => ∃ k : Nat, k ≤ n ∧ i = .int .i64 k ∧ allR (l.take k) ∧ Hid (Bld w.heap.size w.heap.size (bytesK (l.take k)) wx) ∧ Hid (Below w.heap.size w wx)) (fun i _ => n - (intOf i).toNat)
  case atStart =>
    refine ⟨0, Nat.zero_le _, rfl, by intro x hx; simp at hx, Lib.hid (.inl ⟨Nat.le_refl _, .slice none 0 0, heap_alloc_new _ _, World.ownsRow_nil _ _ _ _, by simp [Value.ownBlock]⟩), Lib.hid ((Below.refl _ _).alloc (Nat.le_refl _) _)⟩
  case round =>
    obtain ⟨k, hk, rfl, hall, hB, hW⟩ := hrel
    have HA := Lib.hid hall
    clear hall
    by_cases hlt : k < n
    · obtain ⟨b, off, rfl, hbB, hsl, e0, e1, e2⟩ := (HR.out.below hW.out).pt hlt
      have HT := Lib.hid (bytesK_take l k hsl)
      have hpre := bytesK_take_len l (k + 1)
      have hbl := HL.out
      have hmem := List.getElem_mem hsl
      have hokx := HOK.out l[k] hmem
      have HRt := Lib.hid (fun h : l[k].right => allR_take hsl HA.out h)
      have HNo := Lib.hid (fun h : ¬ l[k].right => keyR_no hmem h)
      obtain ⟨x, hx⟩ : ∃ x, l[k] = x := ⟨_, rfl⟩
      rw [bytesK_take l k hsl, List.length_append] at hpre
      rw [hx] at e0 e1 e2 hokx hpre
      simp only [hx] at HT HRt HNo
      clear hx hmem
      have hsz := hW.out.size
      have hgw : 0 < wr.heap.size := by omega
      obtain ⟨W, hWA⟩ : ∃ W, wr.alloc (.cells #[.int .i64 x.kind, .int .i64 x.num, .string x.text] 31) = W := ⟨_, rfl⟩
      have hab : Below wr.heap.size wr (wr.alloc (.cells #[.int .i64 x.kind, .int .i64 x.num, .string x.text] 31)) := (Below.refl _ _).alloc (Nat.le_refl _) _
      have hrow := heap_alloc_new wr (.cells #[.int .i64 x.kind, .int .i64 x.num, .string x.text] 31)
      go_upto_region 6 with (fail)
      obtain ⟨K, N, T⟩ := x
      simp only at e0 e1 e2 hokx hWA hab hrow
      rw [hWA] at hab hrow
      clear hWA e0 e1 e2
      obtain ⟨X, hX⟩ : ∃ X, wr.heap.size = X := ⟨_, rfl⟩
      have c0 : W.cell? ⟨X, 0, none⟩ = some (.int .i64 K) := by rw [← hX, cell_of_row _ _ 0 _ _ _ hrow]; rfl
      have c1 : W.cell? ⟨X, 1, none⟩ = some (.int .i64 N) := by rw [← hX, cell_of_row _ _ 1 _ _ _ hrow]; rfl
      have c2 : W.cell? ⟨X, 2, none⟩ = some (.string T) := by rw [← hX, cell_of_row _ _ 2 _ _ _ hrow]; rfl
      have HBW : Hid (Bld w.heap.size w.heap.size (bytesK (l.take k)) W) := Lib.hid (isB_below hB.out hab)
      have HWW : Hid (Below w.heap.size w W) := Lib.hid (hW.out.trans (hab.mono hsz))
      have hWs := HWW.out.size
      have HMW : Hid (W.cell? ⟨0, 0, none⟩ = some (.int .i64 m)) := Lib.hid ((HWW.out.cell (p := ⟨0, 0, none⟩) hg).trans HM.out)
      rw [hX]
      clear hrow hab hX hB hW hgw hsz
      obtain ⟨⟨hN0, hN1⟩, hTs⟩ := hokx
      have hpk : (bytesK (l.take k)).length + 3000000 ≤ 140737488355328 := by omega
      by_cases hK1 : K = 1
      · subst hK1
        by_cases hT0 : T.size = 0
        · obtain rfl : T = ⟨#[]⟩ := by
            have : T.data.toList = [] := List.eq_nil_of_length_eq_zero (by simpa using hT0)
            apply ByteArray.ext; apply Array.ext'; simpa using this
          have HR2 := Lib.hid (HRt.out (.inl ⟨rfl, rfl⟩))
          clear HRt HNo
          go_wp2_with fail
          refine (bnum_any w.heap.size w.heap.size (bytesK (l.take k)) N W HBW.out ⟨hN0, hN1⟩ (by omega) hWs).mono ?_
          rintro e w3 ⟨rfl, hB3, hb3⟩
          have HB3 : Hid (Bld w.heap.size w.heap.size (bytesK (l.take (k + 1))) w3) := Lib.hid (by rw [HT.out]; exact hB3)
          have HW3 := Lib.hid (HWW.out.trans hb3)
          clear hB3 hb3
          go_wp2
          go_roundw
          case rel => exact ⟨k + 1, by omega, by go_num, HR2.out, HB3, HW3⟩
          case measure => simp [intOf]; omega
        · have HN2 := Lib.hid (HNo.out (by rintro (⟨_, h⟩ | ⟨h, _⟩)
                                           · exact hT0 h
                                           · exact absurd (show (1 : Int) = 2 from h) (by decide)))
          have hne : T.toList ≠ [] := fun h => hT0 (by rw [ByteArray.toList_eq] at h; have := congrArg List.length h; simpa using this)
          have hq : (T.toList == (⟨#[]⟩ : ByteArray).toList) = false := beq_eq_false_iff_ne.2 (by simpa [ByteArray.toList_eq] using hne)
          have hq3 := isEmpty_of_size hT0
          clear HRt HNo
          go_wp2
          go_ret2
          rw [HN2.out]
          exact ⟨rfl, HWW.out⟩
      · have hk1 : ((K == 1) : Bool) = false := beq_eq_false_iff_ne.2 hK1
        by_cases hK2 : K = 2
        · subst hK2
          by_cases hN : N = 0
          · subst hN
            have HR2 := Lib.hid (HRt.out (.inr ⟨rfl, rfl⟩))
            clear HRt HNo
            go_wp2_with fail
            refine (btext_any w.heap.size w.heap.size (bytesK (l.take k)) T W m HMW.out hg HBW.out hTs hpk hWs).mono ?_
            rintro e w3 ⟨rfl, hB3, hb3⟩
            have HB3 : Hid (Bld w.heap.size w.heap.size (bytesK (l.take (k + 1))) w3) := Lib.hid (by rw [HT.out]; exact hB3)
            have HW3 := Lib.hid (HWW.out.trans hb3)
            clear hB3 hb3
            go_wp2
            go_roundw
            case rel => exact ⟨k + 1, by omega, by go_num, HR2.out, HB3, HW3⟩
            case measure => simp [intOf]; omega
          · have HN2 := Lib.hid (HNo.out (by rintro (⟨h, _⟩ | ⟨_, h⟩)
                                             · exact absurd (show (2 : Int) = 1 from h) (by decide)
                                             · exact hN h))
            have hn0 : ((N == 0) : Bool) = false := beq_eq_false_iff_ne.2 hN
            clear HRt HNo
            go_wp2
            go_ret2
            rw [HN2.out]
            exact ⟨rfl, HWW.out⟩
        · have HN2 := Lib.hid (HNo.out (by rintro (⟨h, _⟩ | ⟨h, _⟩)
                                           · exact hK1 h
                                           · exact hK2 h))
          have hk2 : ((K == 2) : Bool) = false := beq_eq_false_iff_ne.2 hK2
          clear HRt HNo
          go_wp2
          go_ret2
          rw [HN2.out]
          exact ⟨rfl, HWW.out⟩
    · obtain rfl : k = n := by omega
      have HKR := Lib.hid (keyR_ok (l := l) (by have := HA.out; rwa [List.take_of_length_le (by rw [← HNL.out]; exact Nat.le_refl _)] at this))
      have HB : Hid (Bld w.heap.size w.heap.size (bytesK l) wr) := Lib.hid (by have := hB.out; rwa [List.take_of_length_le (by rw [← HNL.out]; exact Nat.le_refl _)] at this)
      clear hB HA
      have hsz := hW.out.size
      go_wp2_with fail
      refine (bstr_any w.heap.size w.heap.size (bytesK l) wr HB.out hsz).mono ?_
      rintro e w2 ⟨rfl, hb2⟩
      have HW2 := Lib.hid (hW.out.trans hb2)
      clear hb2
      go_wp2
      go_ret2
      rw [HKR.out]
      exact ⟨rfl, HW2.out⟩
end Go.Proofs.YtaphfjomlignhaaDoor
