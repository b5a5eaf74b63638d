/- Seating: who fits a spot, walked. -/
import Derived.Test.YtddiabpjmnmllaaDoorFtP
namespace Go.Proofs.YtddiabpjmnmllaaDoor
open Go.RowKit Go.Lib
def whoV (x : MWho) : Value := .agg #[.int .i64 x.cab, .bool x.fit, .bool x.inf]
set_option maxHeartbeats 4000000 in
set_option maxRecDepth 20000 in
theorem one_any (w : World) (x : MWho) (s : MSpot) : Calls Tryd.prog 15 #[whoV x, spotV s] w fun e w' => e = .returned (.int .i64 (oneE x s)) ∧ Below w.heap.size w w' := by
  obtain ⟨cab, fit, inf⟩ := x
  obtain ⟨⟨num, ltr⟩, sc, sz, sb, se, sk⟩ := s
  unfold whoV spotV oneE
  simp only
  go_enter Tryd.func15, Tryd.ntmps15
  cases sk with
  | true =>
    go_wp2
    go_ret
    exact ⟨rfl, ((Below.refl _ w).alloc (Nat.le_refl _) _).alloc (by simp) _⟩
  | false =>
    by_cases hc : cab = sc
    · subst hc
      cases se <;> cases fit <;> cases inf <;> (go_wp2; go_ret; exact ⟨by simp, ((Below.refl _ w).alloc (Nat.le_refl _) _).alloc (by simp) _⟩)
    · have hd : (cab != sc) = true := by simpa using hc
      go_wp2
      go_ret
      exact ⟨by simp, ((Below.refl _ w).alloc (Nat.le_refl _) _).alloc (by simp) _⟩
set_option maxHeartbeats 4000000 in
set_option maxRecDepth 20000 in
theorem rone_any (w : World) (x : MWho) (s : MSpot) : Calls Tryd.prog 16 #[whoV x, spotV s] w fun e w' => e = .returned (.int .i64 (oneE x s)) ∧ Below w.heap.size w w' := by
  obtain ⟨cab, fit, inf⟩ := x
  obtain ⟨⟨num, ltr⟩, sc, sz, sb, se, sk⟩ := s
  unfold whoV spotV oneE
  simp only
  go_enter Tryd.func16, Tryd.ntmps16
  cases sk with
  | true =>
    go_wp2
    go_ret
    exact ⟨rfl, ((Below.refl _ w).alloc (Nat.le_refl _) _).alloc (by simp) _⟩
  | false =>
    by_cases hc : cab = sc
    · subst hc
      cases se <;> cases fit <;> cases inf <;> (go_wp2; go_ret; exact ⟨by simp, ((Below.refl _ w).alloc (Nat.le_refl _) _).alloc (by simp) _⟩)
    · have hd : (cab != sc) = true := by simpa using hc
      go_wp2
      go_ret
      exact ⟨by simp, ((Below.refl _ w).alloc (Nat.le_refl _) _).alloc (by simp) _⟩
end Go.Proofs.YtddiabpjmnmllaaDoor
