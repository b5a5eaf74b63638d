/- Rows, sitters, who, seats and spots that came in, opened. -/
import Derived.Test.YtppjpledjhinbaaDoorJVMap
import Derived.Test.YtppjpledjhinbaaDoorJFtOne
import Derived.Deep.Strs
import Derived.Test.YtppjpledjhinbaaDoorTie
import Derived.Test.YtppjpledjhinbaaDoorCards
import Derived.Test.YtppjpledjhinbaaDoorJCbChk
import Derived.PinnedBridge
import Derived.Lib.LaidCase
import Derived.Lib.LaidU8
import Derived.Shelf.Vars
import Derived.ProofKit
import Derived.OpenShut
import Derived.LaidMore
import Derived.Lay
import Derived.SevenTiedAt
import Derived.Stop.Joined
import Derived.Deep.DeepHandedRow
namespace Go.Proofs.YtppjpledjhinbaaDoor
open Go.RowKit Go.ChangeShapes Go.WideShapes Go.ChangeAt

section
variable {H : Type} {enc : TypeId × Value → H} {P : Program} {w : World} {held : Bool}
theorem bulk_pos (d : DataW H) : 1 ≤ Rows.uptoBulk d := by
  cases d with
  | lit l => cases l <;> simp [Rows.uptoBulk]
  | _ => simp [Rows.uptoBulk]
theorem ys5 {l : List (DataW H × List MemPlace)} (h : l.length = 5) : ∃ a b c d e, l = [a, b, c, d, e] := by
  match l, h with
  | [a, b, c, d, e], _ => exact ⟨a, b, c, d, e, rfl⟩
theorem ys6 {l : List (DataW H × List MemPlace)} (h : l.length = 6) : ∃ a b c d e f, l = [a, b, c, d, e, f] := by
  match l, h with
  | [a, b, c, d, e, f], _ => exact ⟨a, b, c, d, e, f, rfl⟩
theorem trod_struct5 {t : TypeId} {f0 f1 f2 f3 f4 : Field} {fuel : Nat} {cs : List Value} {x : DataW H × List MemPlace} (ht : P.underlying t = some (.struct #[f0, f1, f2, f3, f4])) (h : DataW.trod enc P w 0 (fun _ => true) held fuel t cs = some x) :
    ∃ y0 y1 y2 y3 y4 n, x.1 = .agg [y0.1, y1.1, y2.1, y3.1, y4.1] ∧ cs.length = P.cellsOf t ∧ DataW.trod enc P w 0 (fun _ => true) held n f0.type ((cs.drop f0.offset).take (P.cellsOf f0.type)) = some y0 ∧ DataW.trod enc P w 0 (fun _ => true) held n f1.type ((cs.drop f1.offset).take (P.cellsOf f1.type)) = some y1 ∧ DataW.trod enc P w 0 (fun _ => true) held n f2.type ((cs.drop f2.offset).take (P.cellsOf f2.type)) = some y2 ∧ DataW.trod enc P w 0 (fun _ => true) held n f3.type ((cs.drop f3.offset).take (P.cellsOf f3.type)) = some y3 ∧ DataW.trod enc P w 0 (fun _ => true) held n f4.type ((cs.drop f4.offset).take (P.cellsOf f4.type)) = some y4 := by
  obtain ⟨xs, n, _, rfl, hl, hlen, hf⟩ := DataW.trod_struct ht h
  obtain ⟨y0, y1, y2, y3, y4, rfl⟩ := ys5 hlen
  exact ⟨y0, y1, y2, y3, y4, n, rfl, hl, by simpa using hf 0 f0 rfl, by simpa using hf 1 f1 rfl, by simpa using hf 2 f2 rfl, by simpa using hf 3 f3 rfl, by simpa using hf 4 f4 rfl⟩
theorem trod_struct6 {t : TypeId} {f0 f1 f2 f3 f4 f5 : Field} {fuel : Nat} {cs : List Value} {x : DataW H × List MemPlace} (ht : P.underlying t = some (.struct #[f0, f1, f2, f3, f4, f5])) (h : DataW.trod enc P w 0 (fun _ => true) held fuel t cs = some x) :
    ∃ y0 y1 y2 y3 y4 y5 n, x.1 = .agg [y0.1, y1.1, y2.1, y3.1, y4.1, y5.1] ∧ cs.length = P.cellsOf t ∧ DataW.trod enc P w 0 (fun _ => true) held n f0.type ((cs.drop f0.offset).take (P.cellsOf f0.type)) = some y0 ∧ DataW.trod enc P w 0 (fun _ => true) held n f1.type ((cs.drop f1.offset).take (P.cellsOf f1.type)) = some y1 ∧ DataW.trod enc P w 0 (fun _ => true) held n f2.type ((cs.drop f2.offset).take (P.cellsOf f2.type)) = some y2 ∧ DataW.trod enc P w 0 (fun _ => true) held n f3.type ((cs.drop f3.offset).take (P.cellsOf f3.type)) = some y3 ∧ DataW.trod enc P w 0 (fun _ => true) held n f4.type ((cs.drop f4.offset).take (P.cellsOf f4.type)) = some y4 ∧ DataW.trod enc P w 0 (fun _ => true) held n f5.type ((cs.drop f5.offset).take (P.cellsOf f5.type)) = some y5 := by
  obtain ⟨xs, n, _, rfl, hl, hlen, hf⟩ := DataW.trod_struct ht h
  obtain ⟨y0, y1, y2, y3, y4, y5, rfl⟩ := ys6 hlen
  exact ⟨y0, y1, y2, y3, y4, y5, n, rfl, hl, by simpa using hf 0 f0 rfl, by simpa using hf 1 f1 rfl, by simpa using hf 2 f2 rfl, by simpa using hf 3 f3 rfl, by simpa using hf 4 f4 rfl, by simpa using hf 5 f5 rfl⟩
/-- A slice whatever its elements, opened; f: an element's cells. -/
theorem open_listB {α : Type} [Inhabited α] {f : α → List Value} {m : Nat} (hf : ∀ x, (f x).length = m) (hm : 0 < m) {Q : α → Prop} {t e : TypeId} {v : Value} {d : DataW H} {p : List MemPlace} {b r} (ht : P.underlying t = some (.slice e)) (hC : P.cellsOf e = m)
    (helem : ∀ (cs : List Value) (y : DataW H × List MemPlace) (fuel : Nat), DataW.trod enc P w 0 (fun _ => true) held fuel e cs = some y → Rows.uptoBulk y.1 ≤ 1048576 → ∃ x, cs = f x ∧ Q x)
    (hval : Value.okWide P w r b t v) (h : DataW.Trod enc P w 0 (fun _ => true) held t v d p) (hbk : Rows.uptoBulk d ≤ 1048576) :
    ∃ A n c, ∃ l : List α, v = .slice A n c ∧ Rd w w.heap.size m A n (catv f l) ∧ n ≤ 1048576 ∧ n ≤ c ∧ ∀ x ∈ l, Q x := by
  have hlt := lt_of_trod h
  obtain ⟨a0, n, c, rfl⟩ := okWide_slice ht hval
  obtain ⟨fuel, hfu⟩ := h
  rcases Deep.open_slice ht hfu with ⟨hcs, _⟩ | ⟨a, len', cap', q, fu, D, Pl, hcs, _, hl, hcm, hmm, hx, hi⟩
  · simp [Value.cells] at hcs
    obtain ⟨rfl, rfl, rfl⟩ := hcs
    exact ⟨none, 0, 0, [], rfl, ⟨by simp [catv], fun h => absurd h (by omega)⟩, by omega, by omega, by simp⟩
  · simp [Value.cells] at hcs
    obtain ⟨rfl, rfl, rfl⟩ := hcs
    simp only [if_true] at hmm
    subst hmm
    simp only [Prod.mk.injEq] at hx
    obtain ⟨rfl, rfl⟩ := hx
    have hsum : ((List.range n).map fun i => Rows.uptoBulk (D i)).sum ≤ 1048576 := by
      simp only [Rows.uptoBulk] at hbk
      rw [bulkAll_sum, List.map_map] at hbk
      have : ((List.range n).map (Rows.uptoBulk ∘ D)).sum = ((List.range n).map fun i => Rows.uptoBulk (D i)).sum := rfl
      omega
    obtain ⟨I, hI⟩ := Deep.choose_lt (n := n) (p := fun i (x : α) => w.cells? 0 (a.add (i * P.cellsOf e)) (P.cellsOf e) = some (f x) ∧ Q x) (fun i hin => by
      obtain ⟨cs', hc, ht'⟩ := hi i (by omega)
      obtain ⟨x, rfl, hq⟩ := helem cs' _ _ ht' (Nat.le_trans (le_sum (List.mem_map.2 ⟨i, List.mem_range.2 hin, rfl⟩)) hsum)
      exact ⟨x, hc, hq⟩)
    have hn1 : n ≤ 1048576 := by
      have h1 : ((List.range n).map fun _ => 1).sum ≤ ((List.range n).map fun i => Rows.uptoBulk (D i)).sum := sum_le_map fun i _ => bulk_pos (D i)
      have h2 : ((List.range n).map fun _ => 1).sum = n := by rw [List.map_const', List.sum_replicate_nat, List.length_range, Nat.mul_one]
      omega
    refine ⟨some a, n, q, (List.range n).map I, rfl, rd_of_rows (V := fun i j => ((f (I i))[j]?).getD undef) hm (by rw [catv_length hf]; simp) (fun hn => ⟨a, rfl, ?_, fun i j hin hj => ?_⟩) (fun i j hin hj => ?_), hn1, hl, fun x hx => ?_⟩
    · exact hlt (.cell a.block (a.off + 0)) (List.mem_append.2 (.inl (by
        simp only [MemPlace.row, List.mem_map, List.mem_range]
        exact ⟨0, by rw [hC]; exact Nat.mul_pos (by omega) hm, rfl⟩)))
    · obtain ⟨hc, _⟩ := hI i hin
      obtain ⟨_, hcl, hat⟩ := World.cells?_some hc
      have := hat j (by rw [hC]; exact hj)
      rw [hC] at this
      rw [← Deep.add_add, this, List.getElem?_eq_getElem (by rw [hf]; exact hj)]
      rfl
    · have hll : i < ((List.range n).map I).length := by simpa using hin
      rw [catv_get hf _ i j hll hj]
      simp only [List.getElem_map, List.getElem_range]
      rw [List.getElem?_eq_getElem (by rw [hf]; exact hj)]
      rfl
    · obtain ⟨i, hi', rfl⟩ := List.mem_map.1 hx
      exact (hI i (List.mem_range.1 hi')).2
end
instance : Inhabited MRow := ⟨⟨0, 0, 0, false, ⟨#[]⟩⟩⟩
instance : Inhabited MSeat := ⟨⟨0, 0⟩⟩
instance : Inhabited MSit := ⟨⟨⟨0, false, false⟩, ⟨0, 0⟩⟩⟩
section
variable {H : Type} {enc : TypeId × Value → H} {w : World} {held : Bool}
theorem len2 {l : List Value} (h : l.length = 2) : ∃ a b, l = [a, b] := by
  match l, h with
  | [a, b], _ => exact ⟨a, b, rfl⟩
theorem len3 {l : List Value} (h : l.length = 3) : ∃ a b c, l = [a, b, c] := by
  match l, h with
  | [a, b, c], _ => exact ⟨a, b, c, rfl⟩
theorem len5 {l : List Value} (h : l.length = 5) : ∃ a b c d e, l = [a, b, c, d, e] := by
  match l, h with
  | [a, b, c, d, e], _ => exact ⟨a, b, c, d, e, rfl⟩
theorem len7 {l : List Value} (h : l.length = 7) : ∃ a b c d e f g, l = [a, b, c, d, e, f, g] := by
  match l, h with
  | [a, b, c, d, e, f, g], _ => exact ⟨a, b, c, d, e, f, g, rfl⟩
theorem trod_i {v : Value} {y : DataW H × List MemPlace} {fuel : Nat} (h : DataW.trod enc Tryd.prog w 0 (fun _ => true) held fuel 3 [v] = some y) : ∃ a : Int, v = .int .i64 a ∧ -9223372036854775808 ≤ a ∧ a ≤ 9223372036854775807 := by
  obtain ⟨a, ha, hw⟩ := field_int Tryd.underlying3 h
  simp [Lit.wf] at hw
  exact ⟨a, ha, hw⟩
theorem trod_b {v : Value} {y : DataW H × List MemPlace} {fuel : Nat} (h : DataW.trod enc Tryd.prog w 0 (fun _ => true) held fuel 4 [v] = some y) : ∃ a : Bool, v = .bool a := field_bool Tryd.underlying4 h
theorem trod_u {v : Value} {y : DataW H × List MemPlace} {fuel : Nat} (h : DataW.trod enc Tryd.prog w 0 (fun _ => true) held fuel 5 [v] = some y) : ∃ a : UInt8, v = .int .u8 (a.toNat : Int) := by
  obtain ⟨a, ha, hw⟩ := field_int Tryd.underlying5 h
  have h0 : 0 ≤ a ∧ a ≤ 255 := by simpa [Lit.wf, show IntKind.u8.min = 0 from rfl, show IntKind.u8.max = 255 from rfl] using hw
  refine ⟨UInt8.ofNat a.toNat, ?_⟩
  have e : (UInt8.ofNat a.toNat).toNat = a.toNat := by simp [UInt8.toNat_ofNat']; omega
  rw [ha, e]
  congr 1
  omega
theorem kI : Tryd.prog.cellsOf 3 = 1 := by kernel_rfl
theorem kB : Tryd.prog.cellsOf 4 = 1 := by kernel_rfl
theorem kU : Tryd.prog.cellsOf 5 = 1 := by kernel_rfl
theorem kS : Tryd.prog.cellsOf 9 = 1 := by kernel_rfl
theorem kSeat : Tryd.prog.cellsOf 26 = 2 := by kernel_rfl
theorem kWho : Tryd.prog.cellsOf 28 = 3 := by kernel_rfl
theorem kSpot : Tryd.prog.cellsOf 105 = 7 := by kernel_rfl
theorem kSit : Tryd.prog.cellsOf 51 = 5 := by kernel_rfl
theorem kRow : Tryd.prog.cellsOf 72 = 5 := by kernel_rfl
theorem open_seatC {cs : List Value} {y : DataW H × List MemPlace} {fuel : Nat} (h : DataW.trod enc Tryd.prog w 0 (fun _ => true) held fuel 26 cs = some y) : ∃ x : MSeat, cs = seatC x ∧ x.fits := by
  obtain ⟨y0, y1, n, _, hl, h0, h1⟩ := trod_struct2 Tryd.underlying26 h
  rw [kSeat] at hl
  obtain ⟨c0, c1, rfl⟩ := len2 hl
  simp only [List.drop_zero, kI] at h0
  simp only [kU] at h1
  obtain ⟨a, rfl, ha⟩ := trod_i h0
  obtain ⟨b, rfl⟩ := trod_u h1
  exact ⟨⟨a, b⟩, rfl, ha⟩
theorem open_whoC {cs : List Value} {y : DataW H × List MemPlace} {fuel : Nat} (h : DataW.trod enc Tryd.prog w 0 (fun _ => true) held fuel 28 cs = some y) : ∃ x : MWho, cs = [.int .i64 x.cab, .bool x.fit, .bool x.inf] := by
  obtain ⟨y0, y1, y2, n, _, hl, h0, h1, h2⟩ := Deep.trod_struct3 Tryd.underlying28 h
  rw [kWho] at hl
  obtain ⟨c0, c1, c2, rfl⟩ := len3 hl
  simp only [List.drop_zero, kI] at h0
  simp only [kB] at h1 h2
  obtain ⟨a, rfl, _⟩ := trod_i h0
  obtain ⟨b, rfl⟩ := trod_b h1
  obtain ⟨c, rfl⟩ := trod_b h2
  exact ⟨⟨a, b, c⟩, rfl⟩
theorem open_sitC {cs : List Value} {y : DataW H × List MemPlace} {fuel : Nat} (h : DataW.trod enc Tryd.prog w 0 (fun _ => true) held fuel 51 cs = some y) : ∃ x : MSit, cs = sitC x ∧ x.seat.fits := by
  obtain ⟨y0, y1, n, _, hl, h0, h1⟩ := trod_struct2 Tryd.underlying51 h
  rw [kSit] at hl
  obtain ⟨c0, c1, c2, c3, c4, rfl⟩ := len5 hl
  simp only [List.drop_zero, kWho] at h0
  simp only [kSeat] at h1
  obtain ⟨x, hx⟩ := open_whoC h0
  obtain ⟨s, hs, hsf⟩ := open_seatC h1
  refine ⟨⟨x, s⟩, ?_, hsf⟩
  simp [seatC] at hx hs
  obtain ⟨rfl, rfl, rfl⟩ := hx
  obtain ⟨rfl, rfl⟩ := hs
  rfl
theorem open_mrowC {cs : List Value} {y : DataW H × List MemPlace} {fuel : Nat} (h : DataW.trod enc Tryd.prog w 0 (fun _ => true) held fuel 72 cs = some y) (hb : Rows.uptoBulk y.1 ≤ 1048576) : ∃ x : MRow, cs = rowC x ∧ x.fits := by
  obtain ⟨y0, y1, y2, y3, y4, n, hx, hl, h0, h1, h2, h3, h4⟩ := trod_struct5 Tryd.underlying72 h
  rw [kRow] at hl
  obtain ⟨c0, c1, c2, c3, c4, rfl⟩ := len5 hl
  simp only [List.drop_zero, kI] at h0
  simp only [kI] at h1 h2
  simp only [kB] at h3
  simp only [kS] at h4
  obtain ⟨a0, rfl, ha0⟩ := trod_i h0
  obtain ⟨a1, rfl, _⟩ := trod_i h1
  obtain ⟨a2, rfl, _⟩ := trod_i h2
  obtain ⟨a3, rfl⟩ := trod_b h3
  obtain ⟨s, hv, he, _⟩ := DataW.trod_string Tryd.underlying9 h4
  have e4 : c4 = .string s := by simpa using hv
  subst e4
  refine ⟨⟨a0, a1, a2, a3, s⟩, rfl, ha0, ?_⟩
  have e5 : y4.1 = .lit (.string s.data.toList) := by rw [he]
  rw [hx] at hb
  simp only [Rows.uptoBulk, Rows.uptoBulkAll, e5] at hb
  have hs : s.data.toList.length = s.size := by simp
  show s.size ≤ 1048576
  omega
theorem open_spotC {cs : List Value} {y : DataW H × List MemPlace} {fuel : Nat} (h : DataW.trod enc Tryd.prog w 0 (fun _ => true) held fuel 105 cs = some y) : ∃ x : MSpot, cs = spotC x := by
  obtain ⟨y0, y1, y2, y3, y4, y5, n, _, hl, h0, h1, h2, h3, h4, h5⟩ := trod_struct6 Tryd.underlying105 h
  rw [kSpot] at hl
  obtain ⟨c0, c1, c2, c3, c4, c5, c6, rfl⟩ := len7 hl
  simp only [List.drop_zero, kSeat] at h0
  simp only [kI] at h1 h2 h3
  simp only [kB] at h4 h5
  obtain ⟨s, hs, _⟩ := open_seatC h0
  obtain ⟨a1, rfl, _⟩ := trod_i h1
  obtain ⟨a2, rfl, _⟩ := trod_i h2
  obtain ⟨a3, rfl, _⟩ := trod_i h3
  obtain ⟨a4, rfl⟩ := trod_b h4
  obtain ⟨a5, rfl⟩ := trod_b h5
  simp [seatC] at hs
  obtain ⟨rfl, rfl⟩ := hs
  exact ⟨⟨s, a1, a2, a3, a4, a5⟩, rfl⟩
set_option maxRecDepth 100000 in
/-- The arguments. -/
theorem open_who {v : Value} {d : DataW H} {p : List MemPlace} {b r} (hval : Value.okWide Tryd.prog w r b 28 v) (h : DataW.Trod enc Tryd.prog w 0 (fun _ => true) held 28 v d p) : ∃ x : MWho, v = .agg #[.int .i64 x.cab, .bool x.fit, .bool x.inf] := by
  obtain ⟨cs, rfl, hs⟩ := okWide_struct Tryd.underlying28 hval
  obtain ⟨fuel, hf⟩ := h
  obtain ⟨x, hx⟩ := open_whoC hf
  exact ⟨x, by rw [← (show cs.toList.toArray = cs by simp), show cs.toList = _ from hx]⟩
set_option maxRecDepth 100000 in
theorem open_seat {v : Value} {d : DataW H} {p : List MemPlace} {b r} (hval : Value.okWide Tryd.prog w r b 26 v) (h : DataW.Trod enc Tryd.prog w 0 (fun _ => true) held 26 v d p) : ∃ x : MSeat, v = .agg #[.int .i64 x.num, .int .u8 (x.ltr.toNat : Int)] ∧ x.fits := by
  obtain ⟨cs, rfl, hs⟩ := okWide_struct Tryd.underlying26 hval
  obtain ⟨fuel, hf⟩ := h
  obtain ⟨x, hx, hxf⟩ := open_seatC hf
  exact ⟨x, by rw [← (show cs.toList.toArray = cs by simp), show cs.toList = _ from hx]; rfl, hxf⟩
set_option maxRecDepth 100000 in
theorem open_spot {v : Value} {d : DataW H} {p : List MemPlace} {b r} (hval : Value.okWide Tryd.prog w r b 105 v) (h : DataW.Trod enc Tryd.prog w 0 (fun _ => true) held 105 v d p) : ∃ x : MSpot, v = spotV x := by
  obtain ⟨cs, rfl, hs⟩ := okWide_struct Tryd.underlying105 hval
  obtain ⟨fuel, hf⟩ := h
  obtain ⟨x, hx⟩ := open_spotC hf
  exact ⟨x, by rw [← (show cs.toList.toArray = cs by simp), show cs.toList = _ from hx]; rfl⟩
set_option maxRecDepth 100000 in
theorem open_mrows {v : Value} {d : DataW H} {p : List MemPlace} {b r} (hval : Value.okWide Tryd.prog w r b 22 v) (h : DataW.Trod enc Tryd.prog w 0 (fun _ => true) held 22 v d p) (hbk : Rows.uptoBulk d ≤ 1048576) :
    ∃ A n c, ∃ l : List MRow, v = .slice A n c ∧ Rd w w.heap.size 5 A n (catv rowC l) ∧ n ≤ 1048576 ∧ n ≤ c ∧ ∀ x ∈ l, x.fits :=
  open_listB rowC_len (by decide) Tryd.underlying22 kRow (fun _ _ _ h hb => open_mrowC h hb) hval h hbk
set_option maxRecDepth 100000 in
theorem open_sits {v : Value} {d : DataW H} {p : List MemPlace} {b r} (hval : Value.okWide Tryd.prog w r b 48 v) (h : DataW.Trod enc Tryd.prog w 0 (fun _ => true) held 48 v d p) (hbk : Rows.uptoBulk d ≤ 1048576) :
    ∃ A n c, ∃ l : List MSit, v = .slice A n c ∧ Rd w w.heap.size 5 A n (catv sitC l) ∧ n ≤ 1048576 ∧ n ≤ c ∧ ∀ x ∈ l, x.seat.fits :=
  open_listB sitC_len (by decide) Tryd.underlying48 kSit (fun _ _ _ h _ => open_sitC h) hval h hbk
end
end Go.Proofs.YtppjpledjhinbaaDoor
/- Cabins, seating: what the tied rows of this seat share: the witness's world, and what the library's own variables hold. -/
namespace Go.Proofs.YtppjpledjhinbaaDoor
open Go.RowKit Go.ChangeShapes Go.WideShapes Go.ChangeAt
theorem own : ownKnob Tryd.prog.godebug = none := by kernel_rfl
theorem laidOut : laidOutB Tryd.prog = true := by kernel_rfl
def laidL : List (String × DataW Unit) := [("unicode/utf8.acceptRanges", Rows.laid_unicode_utf8_acceptRanges), ("unicode.CaseRanges", Rows.laid_unicode_CaseRanges), ("unicode/utf8.first", Rows.laid_unicode_utf8_first)]
theorem lib_of {W : World} (h : W.ShapedOpen Tryd.prog) (hl : laidMetH Tryd.prog laidL W) : ∃ m, LibAt W m := by
  obtain ⟨m, hm⟩ := cell_of_shapedOpen_int (P := Tryd.prog) (g := 1) (t := 3) (zero := #[.int .i64 0]) (k := .i64) h (by decide +kernel) (by kernel_rfl) rfl (by kernel_rfl) (by kernel_rfl) Tryd.underlying3
  rw [MakeChecks.laidMetH_plain _ _ _ (by kernel_rfl)] at hl
  have h1 := Lib.laidMet.reads hl (n := "unicode/utf8.acceptRanges") (d := Rows.laid_unicode_utf8_acceptRanges) (.head _)
  have h2 := Lib.laidMet.reads hl (n := "unicode.CaseRanges") (d := Rows.laid_unicode_CaseRanges) (.tail _ (.head _))
  have h3 := Lib.laidMet.reads hl (n := "unicode/utf8.first") (d := Rows.laid_unicode_utf8_first) (.tail _ (.tail _ (.head _)))
  rw [show (Rows.laid_unicode_utf8_acceptRanges : DataW Unit) = Lib.acceptData by kernel_rfl] at h1
  rw [show Rows.laid_unicode_CaseRanges = Lib.caseData from Pinned.caseRanges_eq] at h2
  rw [show Rows.laid_unicode_utf8_first = Lib.firstData from Pinned.utf8First_eq] at h3
  exact ⟨m, caseVar_of_reads { Tryd.lays158 with } Tryd.lays158.t206 ⟨by kernel_rfl, by kernel_rfl, by kernel_rfl, by kernel_rfl, by kernel_rfl, by kernel_rfl⟩ h2,
    utf8Tabs_of_reads { Tryd.lays158 with } ⟨by kernel_rfl, by kernel_rfl, by kernel_rfl, by kernel_rfl, by kernel_rfl, by kernel_rfl, by kernel_rfl⟩ h3 h1, hm⟩
theorem laid_met (os : Os) (args : Array Value) : laidMetH Tryd.prog laidL ((World.laidAll Tryd.prog os laidL).forCall (fun _ _ => 0) ⟨#[], args, []⟩).memory := by
  rw [MakeChecks.laidMetH_plain _ _ _ (by kernel_rfl)]
  exact laidMet_laidAll _ (by kernel_rfl) (by kernel_rfl)
/-- There is an input that fits. -/
theorem wit {H : Type} {enc : TypeId × Value → H} {os : Os} {f : FuncId} {fn : Func} {s : OpenSpec} {conds : List PathCond} {apart : Bool} (args : Array Value) (fuel : Nat)
    (hsh : ((World.laidAll Tryd.prog os laidL).forCall (fun _ _ => 0) ⟨#[], args, []⟩).Shaped Tryd.prog)
    (hok : Input.okWideB Tryd.prog ((World.laidAll Tryd.prog os laidL).forCall (fun _ _ => 0) ⟨#[], args, []⟩) f ⟨#[], args, []⟩ = true)
    {x : List (DataW H) × List (DataW H) × List MemPlace} (hx : DataW.whole enc Tryd.prog ((World.laidAll Tryd.prog os laidL).forCall (fun _ _ => 0) ⟨#[], args, []⟩).memory fn.params.toList s.vars apart args.toList fuel = some x)
    (hconds : conds.all (PathCond.test Tryd.prog ⟨fn.params.toList, x.1, s.bare.plain.varTypes Tryd.prog, x.2.1⟩) = true) (hkk : ∀ k, s.cond = some k → k H (x.1 ++ x.2.1) = true)
    (hsz : s.bare.sizedB enc Tryd.prog fn apart ((World.laidAll Tryd.prog os laidL).forCall (fun _ _ => 0) ⟨#[], args, []⟩).memory args fuel = true) :
    ∃ (w : World) (tape : Tape) (i : Input), w.os = os ∧ (w.forCall tape i).Shaped Tryd.prog ∧ i.vars = [] ∧ Input.okWide Tryd.prog (w.forCall tape i) .any w.heap.size f i ∧
      s.preRow enc Tryd.prog fn conds apart laidL (w.forCall tape i).memory i.args ∧ ({} : Assume).holds Tryd.prog (lone (Frame.enter Tryd.prog f i.args .normal) [] (w.forCall tape i)) :=
  ⟨World.laidAll Tryd.prog os laidL, fun _ _ => 0, ⟨#[], args, []⟩, World.laidAll_os _ _ _, hsh, (Input.okWide_of_okWideB (base := 0) hok).1, (Input.okWide_of_okWideB hok).2,
    OpenSpec.preRow_of_cond fuel hx hconds hkk hsz (laid_met os args), by
    simp only [Assume.holds]
    exact ⟨by simp, by simp, fun _ => Modest.zero, by simp, by simp⟩⟩
end Go.Proofs.YtppjpledjhinbaaDoor
