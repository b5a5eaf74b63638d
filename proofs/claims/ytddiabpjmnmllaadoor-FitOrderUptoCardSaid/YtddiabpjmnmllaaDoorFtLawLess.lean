/- The law FitLess, walked. -/
import Derived.Test.YtddiabpjmnmllaaDoorFtLawAll
import Derived.Test.YtddiabpjmnmllaaDoorFtPl
namespace Go.Proofs.YtddiabpjmnmllaaDoor
open Go.RowKit Go.Lib
theorem free_none {rows : List MRow} {x : MWho} {q : List MSit} (h : allE rows q ≠ 0) : freeL rows x q = [] := by
  unfold freeL
  rw [if_neg]
  rintro ⟨h1, h2⟩
  unfold allE at h
  rw [h1, if_pos rfl] at h
  exact h h2
theorem take_sub (q : List MSit) (j : Nat) : (q.take j).Sublist (q.take (j + 1)) := by
  have := List.take_sublist j (q.take (j + 1))
  rwa [List.take_take, Nat.min_eq_left (Nat.le_succ j)] at this
theorem free_step {rows : List MRow} {x : MWho} {q : List MSit} (h : allE rows q = 0) (j : Nat) : (freeL rows x (q.take (j + 1))).Sublist (freeL rows x (q.take j)) := by
  obtain ⟨_, hw⟩ := (allE_zero _ _).1 h
  exact free_less rows x ((sitE_well _ _).2 (well_sub hw (List.take_sublist _ _))) (take_sub q j)
/-- The search for the next. -/
theorem sub_step {s : MSeat} {t W : List MSeat} {b : Nat} (h : (s :: t).Sublist (W.drop b)) : ∃ hb : b < W.length, (W[b] ≠ s → (s :: t).Sublist (W.drop (b + 1))) ∧ t.Sublist (W.drop b) := by
  have hb : b < W.length := by
    rcases Nat.lt_or_ge b W.length with h' | h'
    · exact h'
    · rw [List.drop_eq_nil_of_le h'] at h
      cases h
  refine ⟨hb, fun hne => ?_, (List.sublist_cons_self s t).trans h⟩
  rw [List.drop_eq_getElem_cons hb] at h
  cases h with
  | cons _ h => exact h
  | cons_cons _ h => exact absurd rfl hne
theorem seats_cells {w : World} {B n g off : Nat} {L : List MSeat} {j : Nat} (h : Rd w B 2 (some ⟨g, off, none⟩) n (catv seatC L)) (hj : j < n) : ∃ hs : j < L.length, w.cell? ⟨g, off + j * 2, none⟩ = some (.int .i64 L[j].num) ∧ w.cell? ⟨g, off + j * 2 + 1, none⟩ = some (.int .u8 (L[j].ltr.toNat : Int)) := by
  obtain ⟨g', o', e, _, hs, hc⟩ := h.elem seatC_len (by decide) hj
  simp only [Option.some.injEq, Addr.mk.injEq, and_true] at e
  obtain ⟨rfl, rfl⟩ := e
  have c0 := hc 0 _ rfl
  have c1 := hc 1 _ rfl
  rw [Nat.add_zero] at c0
  exact ⟨hs, c0, c1⟩
end Go.Proofs.YtddiabpjmnmllaaDoor
