/- Keys: the law OrderEnds, walked. -/
import Derived.Test.YtaphfjomlignhaaDoorOrLives
import Derived.Laws.IdiomStrings
namespace Go.Proofs.YtaphfjomlignhaaDoor
open Go.RowKit
theorem prefix_extract {p t : ByteArray} (h : p.data.toList <+: t.data.toList) : p.size ≤ t.size ∧ t.extract 0 p.size = p := by
  have hl := h.length_le
  have e1 : p.data.toList.length = p.size := by simp
  have e2 : t.data.toList.length = t.size := by simp
  refine ⟨by omega, ?_⟩
  apply ByteArray.ext
  apply Array.ext'
  rw [ByteArray.data_extract]
  have := List.prefix_iff_eq_take.1 h
  rw [this]
  simp
theorem extract_prefix {p t : ByteArray} (h : t.extract 0 p.size = p) : p.data.toList <+: t.data.toList := by
  have h1 : (t.extract 0 p.size).data.toList = p.data.toList := by rw [h]
  rw [ByteArray.data_extract] at h1
  simp at h1
  rw [← h1]
  exact List.take_prefix _ _
theorem beq_ba {a b : ByteArray} (h : a ≠ b) : (a.toList == b.toList) = false := by
  refine beq_eq_false_iff_ne.2 fun e => h ?_
  rw [ByteArray.toList_eq, ByteArray.toList_eq] at e
  exact ByteArray.ext (Array.toList_inj.1 e)
/-- What the two sides of the law come to. -/
theorem ends_cases (p t E : ByteArray) (hE : E.data.toList = endF p.data.toList) :
    (p.size ≤ t.size ∧ t.extract 0 p.size = p ∧ Op.bytesLess t.toList p.toList = false ∧ (E.toList = [] ∨ (E.toList ≠ [] ∧ Op.bytesLess t.toList E.toList = true))) ∨
    ((¬ p.size ≤ t.size ∨ (p.size ≤ t.size ∧ t.extract 0 p.size ≠ p)) ∧ (Op.bytesLess t.toList p.toList = true ∨ (Op.bytesLess t.toList p.toList = false ∧ E.toList ≠ [] ∧ Op.bytesLess t.toList E.toList = false))) := by
  have hi := begins_iff p.data.toList t.data.toList
  rw [← hE] at hi
  rw [ByteArray.toList_eq, ByteArray.toList_eq, ByteArray.toList_eq]
  by_cases hP : p.data.toList <+: t.data.toList
  · obtain ⟨h1, h2⟩ := prefix_extract hP
    obtain ⟨h3, h4⟩ := hi.1 hP
    refine .inl ⟨h1, h2, h3, ?_⟩
    by_cases he : E.data.toList = []
    · exact .inl he
    · exact .inr ⟨he, h4.resolve_left he⟩
  · refine .inr ⟨?_, ?_⟩
    · by_cases h1 : p.size ≤ t.size
      · exact .inr ⟨h1, fun h => hP (extract_prefix h)⟩
      · exact .inl h1
    · cases h3 : Op.bytesLess t.data.toList p.data.toList with
      | true => exact .inl rfl
      | false =>
        refine .inr ⟨rfl, fun he => hP (hi.2 ⟨h3, .inl he⟩), ?_⟩
        cases h4 : Op.bytesLess t.data.toList E.data.toList with
        | false => rfl
        | true => exact absurd (hi.2 ⟨h3, .inr h4⟩) hP
set_option maxHeartbeats 2000000 in
set_option maxRecDepth 20000 in
theorem ends_any (w : World) (p t : ByteArray) (m : Int) (hm : MaxAt w m) (hp : p.size ≤ 140737488351232) (ht : t.size ≤ 140737488351232) :
    Calls Tryd.prog 3 #[.string p, .string t] w fun e w' => e = .returned (.bool true) ∧ Below w.heap.size w w' := by
  go_enter Tryd.func3, Tryd.ntmps3
  go_wp2_with fail
  refine (olives_any _ m hm).mono ?_
  rintro e w1 ⟨rfl, hb1⟩
  have HB1 := Lib.hid hb1
  clear hb1
  go_wp2_with fail
  obtain ⟨E, hE⟩ : ∃ E : ByteArray, (⟨(endF p.data.toList).toArray⟩ : ByteArray) = E := ⟨_, rfl⟩
  have hEd : E.data.toList = endF p.data.toList := by rw [← hE]
  have HEd := Lib.hid hEd
  have h1 := end_any w1 p hp
  rw [hE] at h1
  clear hEd
  refine h1.mono ?_
  rintro e w2 ⟨rfl, hb2⟩
  have HB2 := Lib.hid (bel HB1.out hb2)
  have h2 := rend_any w2 p hp
  rw [hE] at h2
  clear hb2 h1 hE HB1
  have hC := ends_cases p t E HEd.out
  have hfin : ∀ e w', (e = Ending.returned (Value.string E) ∧ Below w2.heap.size w2 w') → e = Ending.returned (Value.string E) ∧ Hid (Below w.heap.size w w') := fun e w' h => ⟨h.1, Lib.hid (bel HB2.out h.2)⟩
  have HC2 := Lib.hid (h2.mono hfin)
  clear h2 hfin HEd HB2 hm
  rcases hC with ⟨c1, c2, c3, c4⟩ | ⟨c1, c3⟩
  · have hmin : min (p.size : Int) (t.size : Int) = (p.size : Int) := by omega
    rcases c4 with c4 | ⟨c4, c5⟩
    · go_wp2_with fail
      refine HC2.out.mono ?_
      rintro e w3 ⟨rfl, HW⟩
      go_wp2
      go_ret
      exact ⟨rfl, HW.out⟩
    · have c6 : (E.toList == []) = false := beq_eq_false_iff_ne.2 c4
      go_wp2_with fail
      refine HC2.out.mono ?_
      rintro e w3 ⟨rfl, HW⟩
      go_wp2
      go_ret
      exact ⟨rfl, HW.out⟩
  · rcases c1 with c1 | ⟨c1, c2⟩
    · rcases c3 with c3 | ⟨c3, c4, c5⟩
      · go_wp2_with fail
        refine HC2.out.mono ?_
        rintro e w3 ⟨rfl, HW⟩
        go_wp2
        go_ret
        exact ⟨rfl, HW.out⟩
      · have c6 : E.toList.isEmpty = false := List.isEmpty_eq_false_iff.2 c4
        go_wp2_with fail
        refine HC2.out.mono ?_
        rintro e w3 ⟨rfl, HW⟩
        go_wp2
        go_ret
        exact ⟨rfl, HW.out⟩
    · have hmin : min (p.size : Int) (t.size : Int) = (p.size : Int) := by omega
      have c7 := beq_ba c2
      rcases c3 with c3 | ⟨c3, c4, c5⟩
      · go_wp2_with fail
        refine HC2.out.mono ?_
        rintro e w3 ⟨rfl, HW⟩
        go_wp2
        go_ret
        exact ⟨rfl, HW.out⟩
      · have c6 : E.toList.isEmpty = false := List.isEmpty_eq_false_iff.2 c4
        go_wp2_with fail
        refine HC2.out.mono ?_
        rintro e w3 ⟨rfl, HW⟩
        go_wp2
        go_ret
        exact ⟨rfl, HW.out⟩
end Go.Proofs.YtaphfjomlignhaaDoor
