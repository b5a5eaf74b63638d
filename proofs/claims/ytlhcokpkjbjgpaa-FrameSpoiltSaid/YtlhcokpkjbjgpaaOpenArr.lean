/- An array of four bytes that came in, opened. -/
import Derived.Test.YtlhcokpkjbjgpaaOpen
namespace Go.Proofs.Ytlhcokpkjbjgpaa
open Go.RowKit Go.ChangeShapes Go.WideShapes Go.ChangeAt

theorem mapM_get {α β : Type} {f : α → Option β} : ∀ {L : List α} {ys : List β}, L.mapM f = some ys → ∀ i ∈ L, ∃ y, f i = some y
  | [], _, _, i, hi => by cases hi
  | a :: L, ys, h, i, hi => by
    rw [List.mapM_cons] at h
    simp only [bind, Option.bind_eq_some_iff, pure, Option.some.injEq] at h
    obtain ⟨y, hy, zs, hz, _⟩ := h
    rcases List.mem_cons.1 hi with rfl | hi
    · exact ⟨y, hy⟩
    · exact mapM_get hz i hi
section
variable {H : Type} {enc : TypeId × Value → H} {P : Program} {w : World} {base : Nat} {spare : Nat → Bool} {held : Bool}
theorem open_arr4 {t e : TypeId} {v : Value} {d : DataW H} {p : List MemPlace} {b r} (ht : P.underlying t = some (.array 4 e)) (he : P.underlying e = some (.int .u8)) (hc : P.cellsOf t = 4) (hce : P.cellsOf e = 1)
    (hval : Value.okWide P w r b t v) (h : DataW.Trod enc P w base spare held t v d p) :
    ∃ l : List UInt8, l.length = 4 ∧ v = .agg (bytv l).toArray := by
  simp only [Value.okWide, ht] at hval
  obtain ⟨cs, rfl, hs, _⟩ := hval
  rw [hc] at hs
  obtain ⟨fuel, hf⟩ := h
  cases fuel with
  | zero => simp [DataW.trod] at hf
  | succ m =>
    rw [DataW.trod_step] at hf
    unfold DataW.trodStep at hf
    simp only [ht, Value.cells] at hf
    rw [if_pos (by rw [hc]; simpa using hs)] at hf
    simp only [Option.map_eq_some_iff] at hf
    obtain ⟨ys, hy, _⟩ := hf
    have key : ∀ i, i < 4 → ∃ x : UInt8, cs[i]? = some (.int .u8 (x.toNat : Int)) := by
      intro i hi
      obtain ⟨y, hyi⟩ := mapM_get hy i (List.mem_range.2 hi)
      obtain ⟨a, ea, _, wa⟩ := DataW.trod_int he hyi
      rw [hce] at ea
      have h1 : (cs.toList.drop i).take 1 = [.int .u8 a] := by simpa using ea
      have h2 : cs.toList[i]? = some (.int .u8 a) := by
        have := congrArg (fun l => l[0]?) h1
        simpa using this
      have h3 := bounds_u8 wa
      refine ⟨UInt8.ofNat a.toNat, ?_⟩
      rw [← Array.getElem?_toList, h2, UInt8.toNat_ofNat']
      congr 2
      omega
    obtain ⟨x0, h0⟩ := key 0 (by omega)
    obtain ⟨x1, h1⟩ := key 1 (by omega)
    obtain ⟨x2, h2⟩ := key 2 (by omega)
    obtain ⟨x3, h3⟩ := key 3 (by omega)
    refine ⟨[x0, x1, x2, x3], rfl, ?_⟩
    congr 1
    apply Array.ext_getElem?
    intro i
    by_cases hi : i < 4
    · rcases (show i = 0 ∨ i = 1 ∨ i = 2 ∨ i = 3 by omega) with rfl | rfl | rfl | rfl
      · rw [h0]; rfl
      · rw [h1]; rfl
      · rw [h2]; rfl
      · rw [h3]; rfl
    · rw [Array.getElem?_eq_none (by omega), Array.getElem?_eq_none (by simp [bytv]; omega)]
end
end Go.Proofs.Ytlhcokpkjbjgpaa
