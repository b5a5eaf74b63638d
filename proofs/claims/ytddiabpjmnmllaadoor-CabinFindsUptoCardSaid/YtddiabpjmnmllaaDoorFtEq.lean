/- Seats, and people, compared. -/
import Derived.Test.YtddiabpjmnmllaaDoorFtP
namespace Go.Proofs.YtddiabpjmnmllaaDoor
open Go.RowKit Go.Lib
theorem fldSeat : Tryd.prog.underlying 32 = some (.struct (Tryd.prog.fieldsOf 32)) := by kernel_rfl
theorem hldSeat : Tryd.prog.stoodInHeld 32 = false := by kernel_rfl
theorem fldWho : Tryd.prog.underlying 24 = some (.struct (Tryd.prog.fieldsOf 24)) := by kernel_rfl
theorem hldWho : Tryd.prog.stoodInHeld 24 = false := by kernel_rfl
theorem seat_eqIn (w : World) (a b : MSeat) : (Op.equalIn 10000 32 (.agg #[.int .i64 a.num, .int .u8 (a.ltr.toNat : Int)]) (.agg #[.int .i64 b.num, .int .u8 (b.ltr.toNat : Int)])).run Tryd.prog w = .ok (decide (a = b)) w := by
  have u3 := Tryd.underlying3
  have u5 := Tryd.underlying5
  rw [show (10000 : Nat) = 9999 + 1 from rfl, run_equalIn_agg w 9999 32 _ _ fldSeat hldSeat]
  simp only [Program.fieldsOf, Tryd.underlying32]
  obtain ⟨an, al⟩ := a
  obtain ⟨bn, bl⟩ := b
  go_simp
  have e : al ≠ bl → ¬ al.toNat = bl.toNat := fun h h' => h (UInt8.toNat_inj.1 h')
  by_cases h1 : an = bn <;> by_cases h2 : al = bl <;> simp [h1, h2]
  exact fun h => e h2 (by omega)
theorem seat_eql (w : World) (a b : MSeat) : (binOp .eql 32 (.agg #[.int .i64 a.num, .int .u8 (a.ltr.toNat : Int)]) (.agg #[.int .i64 b.num, .int .u8 (b.ltr.toNat : Int)])).run Tryd.prog w = .ok (.bool (decide (a = b))) w := by
  rw [run_eql_struct, seat_eqIn]; rfl
theorem seat_neq (w : World) (a b : MSeat) : (binOp .neq 32 (.agg #[.int .i64 a.num, .int .u8 (a.ltr.toNat : Int)]) (.agg #[.int .i64 b.num, .int .u8 (b.ltr.toNat : Int)])).run Tryd.prog w = .ok (.bool (!decide (a = b))) w := by
  rw [run_neq_struct, seat_eqIn]; rfl
theorem who_eqIn (w : World) (a b : MWho) : (Op.equalIn 10000 24 (.agg #[.int .i64 a.cab, .bool a.fit, .bool a.inf]) (.agg #[.int .i64 b.cab, .bool b.fit, .bool b.inf])).run Tryd.prog w = .ok (decide (a = b)) w := by
  have u3 := Tryd.underlying3
  have u4 := Tryd.underlying4
  rw [show (10000 : Nat) = 9999 + 1 from rfl, run_equalIn_agg w 9999 24 _ _ fldWho hldWho]
  simp only [Program.fieldsOf, Tryd.underlying24]
  obtain ⟨ac, af, ai⟩ := a
  obtain ⟨bc, bf, bi⟩ := b
  go_simp
  by_cases h1 : ac = bc <;> by_cases h2 : af = bf <;> by_cases h3 : ai = bi <;> simp [h1, h2, h3]
theorem who_neq (w : World) (a b : MWho) : (binOp .neq 24 (.agg #[.int .i64 a.cab, .bool a.fit, .bool a.inf]) (.agg #[.int .i64 b.cab, .bool b.fit, .bool b.inf])).run Tryd.prog w = .ok (.bool (!decide (a = b))) w := by
  rw [run_neq_struct, who_eqIn]; rfl
end Go.Proofs.YtddiabpjmnmllaaDoor
