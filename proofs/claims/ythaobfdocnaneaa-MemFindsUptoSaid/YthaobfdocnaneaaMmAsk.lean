/- A question (a key and a number) that came in, opened. -/
import Derived.Test.YthaobfdocnaneaaOpen
import Derived.Test.YthaobfdocnaneaaOpenRows
namespace Go.Proofs.Ythaobfdocnaneaa
open Go.RowKit Go.ChangeShapes Go.WideShapes Go.ChangeAt
theorem open_ask {H : Type} {enc : TypeId × Value → H} {w : World} {held : Bool} {v : Value} {d : DataW H} {p : List MemPlace} {b r} (hval : Value.okWide Try.prog w r b 53 v)
    (h : DataW.Trod enc Try.prog w 0 (fun _ => true) held 53 v d p) : ∃ (s : ByteArray) (a : Int), v = .agg #[.string s, .int .i64 a] := by
  obtain ⟨cs, rfl, hs⟩ := okWide_struct Try.underlying53 hval
  obtain ⟨fuel, hf⟩ := h
  obtain ⟨y0, y1, n, _, hl, h0, h1⟩ := trod_struct2 Try.underlying53 hf
  have h2 : Try.prog.cellsOf 53 = 2 := by kernel_rfl
  rw [h2] at hs
  obtain ⟨c0, c1, rfl⟩ : ∃ c0 c1, cs = #[c0, c1] := by
    match cs, hs with
    | ⟨[c0, c1]⟩, _ => exact ⟨c0, c1, rfl⟩
  have k0 : Try.prog.cellsOf 9 = 1 := by kernel_rfl
  have k1 : Try.prog.cellsOf 3 = 1 := by kernel_rfl
  simp only [Value.cells, List.drop_zero, k0] at h0
  simp only [Value.cells, k1] at h1
  obtain ⟨s, e0, _, _⟩ := DataW.trod_string (P := Try.prog) Try.underlying9 h0
  obtain ⟨a, e1, _, _⟩ := DataW.trod_int (P := Try.prog) Try.underlying3 h1
  have g0 : c0 = .string s := by simpa using e0
  have g1 : c1 = .int .i64 a := by simpa using e1
  exact ⟨s, a, by rw [g0, g1]⟩
end Go.Proofs.Ythaobfdocnaneaa
