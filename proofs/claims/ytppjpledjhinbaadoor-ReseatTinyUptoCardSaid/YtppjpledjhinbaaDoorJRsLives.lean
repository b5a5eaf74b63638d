/- The chapter's example, walked. -/
import Derived.Test.YtppjpledjhinbaaDoorJRsLivP
import Derived.Test.YtppjpledjhinbaaDoorJRsSeat
import Derived.Test.YtppjpledjhinbaaDoorJFtSame
namespace Go.Proofs.YtppjpledjhinbaaDoor
open Go.RowKit Go.Lib
theorem alloc_keepR {w : World} {h : Nat} {o o' : Obj} (hb : w.heap[h]? = some o) : (w.alloc o').heap[h]? = some o := (Below.heap_alloc w _ _ (Array.getElem?_eq_some_iff.1 hb).1).trans hb
set_option maxHeartbeats 8000000 in
set_option maxRecDepth 20000 in
theorem rlives_any (w : World) (mm : Int) (hLib : LibAt w mm) : Calls Tryd.prog 13 #[] w fun e w' => e = .returned (.bool true) ∧ Below w.heap.size w w' := by
  obtain ⟨Wa, hWa⟩ : ∃ W, W = w.alloc (.cells #[.int .i64 1, .int .i64 1, .int .i64 0, .bool false, .string ⟨#[65, 66]⟩] 72) := ⟨_, rfl⟩
  obtain ⟨Wb, hWb⟩ : ∃ W, W = Wa.alloc (.cells #[.int .i64 1, .bool false, .bool false] 28) := ⟨_, rfl⟩
  obtain ⟨Wc, hWc⟩ : ∃ W, W = Wb.alloc (.cells #[.int .i64 1, .int .u8 65] 26) := ⟨_, rfl⟩
  obtain ⟨Wd, hWd⟩ : ∃ W, W = Wc.alloc (.cells #[.int .i64 1, .bool false, .bool false, .int .i64 0, .int .u8 0, .int .i64 1, .bool false, .bool false, .int .i64 1, .int .u8 65, .int .i64 1, .bool false, .bool false, .int .i64 0, .int .u8 0] 30) := ⟨_, rfl⟩
  obtain ⟨s0, hs0⟩ : ∃ s, w.heap.size = s := ⟨_, rfl⟩
  have sa : Wa.heap.size = s0 + 1 := by rw [hWa, ← hs0]; simp
  have sb : Wb.heap.size = s0 + 2 := by rw [hWb]; simp [sa]
  have sc : Wc.heap.size = s0 + 3 := by rw [hWc]; simp [sb]
  have sd : Wd.heap.size = s0 + 4 := by rw [hWd]; simp [sc]
  have hba : Below w.heap.size w Wa := by rw [hWa]; exact (Below.refl _ _).alloc (Nat.le_refl _) _
  have hbb : Below w.heap.size w Wb := by rw [hWb]; exact hba.alloc (by omega) _
  have hbc : Below w.heap.size w Wc := by rw [hWc]; exact hbb.alloc (by omega) _
  have hbd : Below w.heap.size w Wd := by rw [hWd]; exact hbc.alloc (by omega) _
  have ra : Wa.heap[s0]? = some (.cells #[.int .i64 1, .int .i64 1, .int .i64 0, .bool false, .string ⟨#[65, 66]⟩] 72 (0, 0)) := by rw [hWa, ← hs0]; exact heap_alloc_new w _
  have rb : Wb.heap[s0 + 1]? = some (.cells #[.int .i64 1, .bool false, .bool false] 28 (0, 0)) := by rw [hWb, ← sa]; exact heap_alloc_new Wa _
  have rc : Wc.heap[s0 + 2]? = some (.cells #[.int .i64 1, .int .u8 65] 26 (0, 0)) := by rw [hWc, ← sb]; exact heap_alloc_new Wb _
  have rd : Wd.heap[s0 + 3]? = some (.cells #[.int .i64 1, .bool false, .bool false, .int .i64 0, .int .u8 0, .int .i64 1, .bool false, .bool false, .int .i64 1, .int .u8 65, .int .i64 1, .bool false, .bool false, .int .i64 0, .int .u8 0] 30 (0, 0)) := by rw [hWd, ← sc]; exact heap_alloc_new Wc _
  have rad : Wd.heap[s0]? = some (.cells #[.int .i64 1, .int .i64 1, .int .i64 0, .bool false, .string ⟨#[65, 66]⟩] 72 (0, 0)) := by rw [hWd]; refine alloc_keepR ?_; rw [hWc]; refine alloc_keepR ?_; rw [hWb]; exact alloc_keepR ra
  have rcd : Wd.heap[s0 + 2]? = some (.cells #[.int .i64 1, .int .u8 65] 26 (0, 0)) := by rw [hWd]; exact alloc_keepR rc
  have p1 : Rd Wd Wd.heap.size 5 (some ⟨s0, 0, none⟩) 1 (catv rowC rxRows) := rd_blockN 1 5 rad rfl
  have p2 : Rd Wd Wd.heap.size 5 (some ⟨s0 + 3, 0, none⟩) 3 (catv sitC rxR) := rd_blockN 3 5 rd rfl
  have HST := Lib.hid (seat_any Wd mm _ 1 1 rxRows p1 rx_fits (hLib.below hbd) _ 3 3 rxR p2 rx_sits (by omega))
  have HRC := Lib.hid rcd
  have HBD := Lib.hid hbd
  clear ra rb rc rd rad rcd p1 p2 hba hbb hbc hbd hLib sa sb sc sd
  go_enter Tryd.func13, Tryd.ntmps13
  go_wp2_with fail
  rw [← hWa, ← hWb, ← hWc, ← hWd]
  refine HST.out.mono ?_
  rintro e w2 ⟨hb2, hcase⟩
  rw [if_neg (fun h => h rx_err), if_neg (by decide), rx_seat] at hcase
  obtain ⟨v2, rfl, ho2⟩ := hcase
  have hb02 := HBD.out.trans (hb2.mono HBD.out.size)
  obtain ⟨A2, c2, rfl⟩ := own_shape ho2
  have rc2 := box_keep HRC.out (Upd.of_below (S := fun _ => False) hb2) id
  have k0 : w2.cell? ⟨s0 + 2, 0, none⟩ = some (.int .i64 1) := by rw [cell_of_row _ _ _ _ _ _ rc2]; rfl
  have k1 : w2.cell? ⟨s0 + 2, 1, none⟩ = some (.int .u8 65) := by rw [cell_of_row _ _ _ _ _ _ rc2]; rfl
  obtain ⟨W3, hW3⟩ : ∃ W, W = w2.alloc (.cells #[.int .i64 1, .int .u8 66, .int .i64 1, .int .u8 65, .int .i64 0, .int .u8 0] 26) := ⟨_, rfl⟩
  have hb3 : Below w2.heap.size w2 W3 := by rw [hW3]; exact (Below.refl _ _).alloc (Nat.le_refl _) _
  have r3 : W3.heap[w2.heap.size]? = some (.cells #[.int .i64 1, .int .u8 66, .int .i64 1, .int .u8 65, .int .i64 0, .int .u8 0] 26 (0, 0)) := by rw [hW3]; exact heap_alloc_new w2 _
  have p3 : Rd W3 W3.heap.size 2 (some ⟨w2.heap.size, 0, none⟩) 3 (catv seatC [⟨1, 66⟩, ⟨1, 65⟩, ⟨0, 0⟩]) := rd_blockN 3 2 r3 rfl
  have HSM := Lib.hid (same_seats W3 A2 _ 3 c2 3 [⟨1, 66⟩, ⟨1, 65⟩, ⟨0, 0⟩] (Rd.own (own_below ho2 hb3)) p3 (by omega))
  have HB3 := Lib.hid (hb02.trans (hb3.mono hb02.size))
  clear hb2 ho2 rc2 hb3 r3 p3 hb02 HST
  go_wp2_with fail
  rw [← hW3]
  clear hW3
  refine HSM.out.mono ?_
  rintro e w4 ⟨rfl, hb4⟩
  have HB4 := Lib.hid (HB3.out.trans (hb4.mono HB3.out.size))
  clear hb4 HSM
  go_wp2
  go_ret
  exact ⟨rfl, HB4.out⟩
end Go.Proofs.YtppjpledjhinbaaDoor
