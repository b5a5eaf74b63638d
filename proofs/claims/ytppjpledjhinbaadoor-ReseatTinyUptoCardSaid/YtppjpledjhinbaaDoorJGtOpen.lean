/- Candidates, riders and whos that came in, opened. -/
import Derived.Test.YtppjpledjhinbaaDoorJFtDoor
import Derived.Test.YtppjpledjhinbaaDoorJGtDenP
namespace Go.Proofs.YtppjpledjhinbaaDoor
open Go.RowKit Go.ChangeShapes Go.WideShapes Go.ChangeAt
instance : Inhabited MWho := ⟨⟨0, false, false⟩⟩
instance : Inhabited MCand := ⟨⟨⟨0, false, false⟩, false⟩⟩
section
variable {H : Type} {enc : TypeId × Value → H} {w : World} {held : Bool}
theorem len4 {l : List Value} (h : l.length = 4) : ∃ a b c d, l = [a, b, c, d] := by
  match l, h with
  | [a, b, c, d], _ => exact ⟨a, b, c, d, rfl⟩
theorem kCand : Tryd.prog.cellsOf 69 = 4 := by kernel_rfl
theorem kRdr : Tryd.prog.cellsOf 30 = 5 := by kernel_rfl
theorem open_candC {cs : List Value} {y : DataW H × List MemPlace} {fuel : Nat} (h : DataW.trod enc Tryd.prog w 0 (fun _ => true) held fuel 69 cs = some y) : ∃ x : MCand, cs = candC x ∧ True := by
  obtain ⟨y0, y1, n, _, hl, h0, h1⟩ := trod_struct2 Tryd.underlying69 h
  rw [kCand] at hl
  obtain ⟨c0, c1, c2, c3, rfl⟩ := len4 hl
  simp only [List.drop_zero, kWho] at h0
  simp only [kB] at h1
  obtain ⟨x, hx⟩ := open_whoC h0
  obtain ⟨b, rfl⟩ := trod_b h1
  refine ⟨⟨x, b⟩, ?_, trivial⟩
  simp at hx
  obtain ⟨rfl, rfl, rfl⟩ := hx
  rfl
theorem open_whoC2 {cs : List Value} {y : DataW H × List MemPlace} {fuel : Nat} (h : DataW.trod enc Tryd.prog w 0 (fun _ => true) held fuel 28 cs = some y) : ∃ x : MWho, cs = whoC x ∧ True := by
  obtain ⟨x, hx⟩ := open_whoC h
  exact ⟨x, hx, trivial⟩
theorem open_riderC {cs : List Value} {y : DataW H × List MemPlace} {fuel : Nat} (h : DataW.trod enc Tryd.prog w 0 (fun _ => true) held fuel 30 cs = some y) : ∃ x : MSit, cs = sitC x ∧ x.seat.fits := by
  obtain ⟨y0, y1, n, _, hl, h0, h1⟩ := trod_struct2 Tryd.underlying30 h
  rw [kRdr] at hl
  obtain ⟨c0, c1, c2, c3, c4, rfl⟩ := len5 hl
  simp only [List.drop_zero, kWho] at h0
  simp only [kSeat] at h1
  obtain ⟨x, hx⟩ := open_whoC h0
  obtain ⟨s, hs, hsf⟩ := open_seatC h1
  refine ⟨⟨x, s⟩, ?_, hsf⟩
  simp [seatC] at hx hs
  obtain ⟨rfl, rfl, rfl⟩ := hx
  obtain ⟨rfl, rfl⟩ := hs
  rfl
set_option maxRecDepth 100000 in
theorem open_cands {v : Value} {d : DataW H} {p : List MemPlace} {b r} (hval : Value.okWide Tryd.prog w r b 56 v) (h : DataW.Trod enc Tryd.prog w 0 (fun _ => true) held 56 v d p) (hbk : Rows.uptoBulk d ≤ 1048576) :
    ∃ A n c, ∃ l : List MCand, v = .slice A n c ∧ Rd w w.heap.size 4 A n (catv candC l) ∧ n ≤ 1048576 ∧ n ≤ c ∧ ∀ x ∈ l, True :=
  open_listB (Q := fun _ => True) candC_len (by decide) Tryd.underlying56 kCand (fun _ _ _ h _ => open_candC h) hval h hbk
set_option maxRecDepth 100000 in
theorem open_whos {v : Value} {d : DataW H} {p : List MemPlace} {b r} (hval : Value.okWide Tryd.prog w r b 57 v) (h : DataW.Trod enc Tryd.prog w 0 (fun _ => true) held 57 v d p) (hbk : Rows.uptoBulk d ≤ 1048576) :
    ∃ A n c, ∃ l : List MWho, v = .slice A n c ∧ Rd w w.heap.size 3 A n (catv whoC l) ∧ n ≤ 1048576 ∧ n ≤ c ∧ ∀ x ∈ l, True :=
  open_listB (Q := fun _ => True) whoC_len (by decide) Tryd.underlying57 kWho (fun _ _ _ h _ => open_whoC2 h) hval h hbk
set_option maxRecDepth 100000 in
theorem open_riders {v : Value} {d : DataW H} {p : List MemPlace} {b r} (hval : Value.okWide Tryd.prog w r b 23 v) (h : DataW.Trod enc Tryd.prog w 0 (fun _ => true) held 23 v d p) (hbk : Rows.uptoBulk d ≤ 1048576) :
    ∃ A n c, ∃ l : List MSit, v = .slice A n c ∧ Rd w w.heap.size 5 A n (catv sitC l) ∧ n ≤ 1048576 ∧ n ≤ c ∧ ∀ x ∈ l, x.seat.fits :=
  open_listB sitC_len (by decide) Tryd.underlying23 kRdr (fun _ _ _ h _ => open_riderC h) hval h hbk
end
end Go.Proofs.YtppjpledjhinbaaDoor
