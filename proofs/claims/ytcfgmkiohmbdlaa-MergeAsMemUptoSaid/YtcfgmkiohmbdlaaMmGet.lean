/- Tables in memory: Get, walked. -/
import Derived.Test.YtcfgmkiohmbdlaaMmFrom
namespace Go.Proofs.Ytcfgmkiohmbdlaa
open Go.RowKit
/-- What 'Get' finds. -/
noncomputable def getN (ns : List Nd) (key : ByteArray) (sq : Int) : Option Ent :=
  match ns[cutOf ns ⟨key, sq, false, ⟨#[]⟩⟩]? with
  | some d => if d.x.key = key then some d.x else none
  | none => none
theorem row4 (w : World) (R : Nat) (T : TypeId) (a b c d a' b' c' d' : Value) (h : w.heap[R]? = some (.cells #[a, b, c, d] T (0, 0))) :
    ((((w.setCell ⟨R, 0, none⟩ a').setCell ⟨R, 1, none⟩ b').setCell ⟨R, 2, none⟩ c').setCell ⟨R, 3, none⟩ d').heap[R]? = some (.cells #[a', b', c', d'] T (0, 0)) ∧
    Upd (fun k => k = R) w ((((w.setCell ⟨R, 0, none⟩ a').setCell ⟨R, 1, none⟩ b').setCell ⟨R, 2, none⟩ c').setCell ⟨R, 3, none⟩ d') := by
  have h0 := heap_setCell_same w R 0 _ _ a' h
  have h1 := heap_setCell_same _ R 1 _ _ b' h0
  have h2 := heap_setCell_same _ R 2 _ _ c' h1
  have h3 := heap_setCell_same _ R 3 _ _ d' h2
  exact ⟨h3, ((((Upd.refl (fun k => k = R) w).setCell ⟨R, 0, none⟩ rfl _).setCell ⟨R, 1, none⟩ rfl _).setCell ⟨R, 2, none⟩ rfl _).setCell ⟨R, 3, none⟩ rfl _⟩
theorem str_ne {a b : ByteArray} (h : ¬ a = b) : (a.toList == b.toList) = false := by
  rw [beq_eq_false_iff_ne]
  intro e
  rw [ByteArray.toList_eq, ByteArray.toList_eq] at e
  exact h (bytes_eq e)
section
variable {w w' : World} {B t : Nat} {ns : List Nd} {n bytes turn : Int} {hv : Value} {hs : List Int}
set_option maxHeartbeats 4000000 in
set_option maxRecDepth 20000 in
theorem get_any (w : World) (key : ByteArray) (sq : Int) (h : Skip w B t ns n bytes hv hs turn) :
    Calls Try.prog 44 #[.pointer (some ⟨t, 0, none⟩), .string key, .int .i64 sq] w fun e w' => e = .returned (.tuple #[((getN ns key sq).getD noEnt).agg, .bool (getN ns key sq).isSome]) ∧ Below w.heap.size w w' := by
  have HSK := Lib.hid h
  have HF := Lib.hid (fun W (hW : Below w.heap.size w W) => from_any W ⟨key, sq, false, ⟨#[]⟩⟩ (h.below hW))
  clear h
  go_enter Try.func44, Try.ntmps44
  go_wp2_with fail
  have hb0 : Below w.heap.size w (w.alloc (.cells #[.string ⟨#[]⟩, .int .i64 0, .bool false, .string ⟨#[]⟩] 26)) := (Below.refl _ _).alloc (Nat.le_refl _) _
  refine (HF.out _ hb0).mono ?_
  rintro e w1 ⟨rfl, hb1⟩
  have hbA : Below w.heap.size w w1 := hb0.trans (hb1.mono hb0.size)
  have rz : w1.heap[w.heap.size]? = some (.cells #[.string ⟨#[]⟩, .int .i64 0, .bool false, .string ⟨#[]⟩] 26 (0, 0)) := (hb1.block _ (by simp)).trans (heap_alloc_new w _)
  have z0 : w1.cell? ⟨w.heap.size, 0, none⟩ = some (.string ⟨#[]⟩) := by rw [cell_of_row _ _ 0 _ _ _ rz]; rfl
  have z1 : w1.cell? ⟨w.heap.size, 1, none⟩ = some (.int .i64 0) := by rw [cell_of_row _ _ 1 _ _ _ rz]; rfl
  have z2 : w1.cell? ⟨w.heap.size, 2, none⟩ = some (.bool false) := by rw [cell_of_row _ _ 2 _ _ _ rz]; rfl
  have z3 : w1.cell? ⟨w.heap.size, 3, none⟩ = some (.string ⟨#[]⟩) := by rw [cell_of_row _ _ 3 _ _ _ rz]; rfl
  have f0 := frozen_of_row w1 w.heap.size 0 _ _ rz
  have f1 := frozen_of_row w1 w.heap.size 1 _ _ rz
  have f2 := frozen_of_row w1 w.heap.size 2 _ _ rz
  have f3 := frozen_of_row w1 w.heap.size 3 _ _ rz
  have skr := HSK.out.below hbA
  cases hc : ns[cutOf ns ⟨key, sq, false, ⟨#[]⟩⟩]? with
  | none =>
    have hg : getN ns key sq = none := by unfold getN; rw [hc]
    have HG := Lib.hid hg
    have RZ := Lib.hid rz
    clear hg hc skr rz
    simp only [pv, Option.map_none]
    go_wp2
    have hF := row4 w1 w.heap.size _ _ _ _ _ (.string ⟨#[]⟩) (.int .i64 0) (.bool false) (.string ⟨#[]⟩) RZ.out
    generalize ((((w1.setCell ⟨w.heap.size, 0, none⟩ (.string ⟨#[]⟩)).setCell ⟨w.heap.size, 1, none⟩ (.int .i64 0)).setCell ⟨w.heap.size, 2, none⟩ (.bool false)).setCell ⟨w.heap.size, 3, none⟩ (.string ⟨#[]⟩)) = wF at hF ⊢
    have r0 : wF.cell? ⟨w.heap.size, 0, none⟩ = some (.string ⟨#[]⟩) := by rw [cell_of_row wF _ 0 _ _ _ hF.1]; rfl
    have r1 : wF.cell? ⟨w.heap.size, 1, none⟩ = some (.int .i64 0) := by rw [cell_of_row wF _ 1 _ _ _ hF.1]; rfl
    have r2 : wF.cell? ⟨w.heap.size, 2, none⟩ = some (.bool false) := by rw [cell_of_row wF _ 2 _ _ _ hF.1]; rfl
    have r3 : wF.cell? ⟨w.heap.size, 3, none⟩ = some (.string ⟨#[]⟩) := by rw [cell_of_row wF _ 3 _ _ _ hF.1]; rfl
    have hbF : Below w.heap.size w wF := hbA.trans (hF.2.below (fun k hk e => by omega) hbA.size)
    exact bodyPost_ret (v := .tuple #[.agg #[(.string ⟨#[]⟩), (.int .i64 0), (.bool false), (.string ⟨#[]⟩)], .bool false]) (by simp [results, Try.results44, go_sem, r0, r1, r2, r3]) rfl ⟨by rw [HG.out]; rfl, hbF⟩
  | some d =>
    have hi := (List.getElem?_eq_some_iff.1 hc)
    obtain ⟨hil, hid⟩ := hi
    have he := skr.ent _ hil
    rw [hid] at he
    have hdl : d.b < w1.heap.size := by have := skr.nlt _ hil; rw [hid] at this; exact this
    obtain ⟨e0, e1, e2, e3⟩ := he
    obtain ⟨b, ⟨K', S', D', V'⟩, hh⟩ := d
    change w1.cell? ⟨b, 0, none⟩ = some (.string K') at e0
    change w1.cell? ⟨b, 1, none⟩ = some (.int .i64 S') at e1
    change w1.cell? ⟨b, 2, none⟩ = some (.bool D') at e2
    change w1.cell? ⟨b, 3, none⟩ = some (.string V') at e3
    by_cases hk : K' = key
    · subst hk
      have hg : getN ns K' sq = some ⟨K', S', D', V'⟩ := by unfold getN; rw [hc]; exact if_pos rfl
      have HG := Lib.hid hg
      have RZ := Lib.hid rz
      clear hg hc skr rz hid hil
      simp only [pv, Option.map_some]
      go_wp2
      have hF := row4 w1 w.heap.size _ _ _ _ _ (.string K') (.int .i64 S') (.bool D') (.string V') RZ.out
      generalize ((((w1.setCell ⟨w.heap.size, 0, none⟩ (.string K')).setCell ⟨w.heap.size, 1, none⟩ (.int .i64 S')).setCell ⟨w.heap.size, 2, none⟩ (.bool D')).setCell ⟨w.heap.size, 3, none⟩ (.string V')) = wF at hF ⊢
      have r0 : wF.cell? ⟨w.heap.size, 0, none⟩ = some (.string K') := by rw [cell_of_row wF _ 0 _ _ _ hF.1]; rfl
      have r1 : wF.cell? ⟨w.heap.size, 1, none⟩ = some (.int .i64 S') := by rw [cell_of_row wF _ 1 _ _ _ hF.1]; rfl
      have r2 : wF.cell? ⟨w.heap.size, 2, none⟩ = some (.bool D') := by rw [cell_of_row wF _ 2 _ _ _ hF.1]; rfl
      have r3 : wF.cell? ⟨w.heap.size, 3, none⟩ = some (.string V') := by rw [cell_of_row wF _ 3 _ _ _ hF.1]; rfl
      have hbF : Below w.heap.size w wF := hbA.trans (hF.2.below (fun k hk e => by omega) hbA.size)
      exact bodyPost_ret (v := .tuple #[.agg #[(.string K'), (.int .i64 S'), (.bool D'), (.string V')], .bool true]) (by simp [results, Try.results44, go_sem, r0, r1, r2, r3]) rfl ⟨by rw [HG.out]; rfl, hbF⟩
    · have hne := str_ne hk
      have hg : getN ns key sq = none := by unfold getN; rw [hc]; exact if_neg hk
      have HG := Lib.hid hg
      have RZ := Lib.hid rz
      clear hg hc skr rz hid hil
      simp only [pv, Option.map_some]
      go_wp2
      have hF := row4 w1 w.heap.size _ _ _ _ _ (.string ⟨#[]⟩) (.int .i64 0) (.bool false) (.string ⟨#[]⟩) RZ.out
      generalize ((((w1.setCell ⟨w.heap.size, 0, none⟩ (.string ⟨#[]⟩)).setCell ⟨w.heap.size, 1, none⟩ (.int .i64 0)).setCell ⟨w.heap.size, 2, none⟩ (.bool false)).setCell ⟨w.heap.size, 3, none⟩ (.string ⟨#[]⟩)) = wF at hF ⊢
      have r0 : wF.cell? ⟨w.heap.size, 0, none⟩ = some (.string ⟨#[]⟩) := by rw [cell_of_row wF _ 0 _ _ _ hF.1]; rfl
      have r1 : wF.cell? ⟨w.heap.size, 1, none⟩ = some (.int .i64 0) := by rw [cell_of_row wF _ 1 _ _ _ hF.1]; rfl
      have r2 : wF.cell? ⟨w.heap.size, 2, none⟩ = some (.bool false) := by rw [cell_of_row wF _ 2 _ _ _ hF.1]; rfl
      have r3 : wF.cell? ⟨w.heap.size, 3, none⟩ = some (.string ⟨#[]⟩) := by rw [cell_of_row wF _ 3 _ _ _ hF.1]; rfl
      have hbF : Below w.heap.size w wF := hbA.trans (hF.2.below (fun k hk e => by omega) hbA.size)
      exact bodyPost_ret (v := .tuple #[.agg #[(.string ⟨#[]⟩), (.int .i64 0), (.bool false), (.string ⟨#[]⟩)], .bool false]) (by simp [results, Try.results44, go_sem, r0, r1, r2, r3]) rfl ⟨by rw [HG.out]; rfl, hbF⟩
end
end Go.Proofs.Ytcfgmkiohmbdlaa
