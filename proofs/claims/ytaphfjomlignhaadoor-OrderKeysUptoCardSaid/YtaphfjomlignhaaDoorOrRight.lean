/- Keys: the reference's Right, walked. -/
import Derived.Test.YtaphfjomlignhaaDoorOrKey
namespace Go.Proofs.YtaphfjomlignhaaDoor
open Go.RowKit
set_option maxHeartbeats 1000000 in
theorem right_any (w : World) (K N : Int) (T : ByteArray) :
    Calls Tryd.prog 24 #[.agg #[.int .i64 K, .int .i64 N, .string T]] w fun e w' => e = .returned (.bool (decide (Pt.right ⟨K, N, T⟩))) ∧ Below w.heap.size w w' := by
  have hb : Below w.heap.size w (w.alloc (.cells #[.int .i64 K, .int .i64 N, .string T] 31)) := (Below.refl _ _).alloc (Nat.le_refl _) _
  have HB := Lib.hid hb
  clear hb
  by_cases hK1 : K = 1
  · subst hK1
    by_cases hT : T.size = 0
    · have hT' : T = ⟨#[]⟩ := by
        have : T.data.toList = [] := List.eq_nil_of_length_eq_zero (by simpa using hT)
        apply ByteArray.ext; apply Array.ext'; simpa using this
      subst hT'
      have hd : decide (Pt.right ⟨1, N, ⟨#[]⟩⟩) = true := decide_eq_true (.inl ⟨rfl, rfl⟩)
      rw [hd]
      go_enter Tryd.func24, Tryd.ntmps24
      go_wp2
      go_ret
      exact ⟨rfl, HB.out⟩
    · have hd : decide (Pt.right ⟨1, N, T⟩) = false := decide_eq_false (by
        rintro (⟨_, h⟩ | ⟨h, _⟩)
        · exact hT h
        · exact absurd (show (1 : Int) = 2 from h) (by decide))
      rw [hd]
      have hq := isEmpty_of_size hT
      go_enter Tryd.func24, Tryd.ntmps24
      go_wp2
      go_ret
      exact ⟨rfl, HB.out⟩
  · have hk1 : ((K == 1) : Bool) = false := beq_eq_false_iff_ne.2 hK1
    by_cases hK2 : K = 2
    · subst hK2
      by_cases hN : N = 0
      · subst hN
        have hd : decide (Pt.right ⟨2, 0, T⟩) = true := decide_eq_true (.inr ⟨rfl, rfl⟩)
        rw [hd]
        go_enter Tryd.func24, Tryd.ntmps24
        go_wp2
        go_ret
        exact ⟨rfl, HB.out⟩
      · have hd : decide (Pt.right ⟨2, N, T⟩) = false := decide_eq_false (by
          rintro (⟨h, _⟩ | ⟨_, h⟩)
          · exact absurd (show (2 : Int) = 1 from h) (by decide)
          · exact hN h)
        rw [hd]
        have hn0 : ((N == 0) : Bool) = false := beq_eq_false_iff_ne.2 hN
        go_enter Tryd.func24, Tryd.ntmps24
        go_wp2
        go_ret
        exact ⟨rfl, HB.out⟩
    · have hd : decide (Pt.right ⟨K, N, T⟩) = false := decide_eq_false (by
        rintro (⟨h, _⟩ | ⟨h, _⟩)
        · exact hK1 h
        · exact hK2 h)
      rw [hd]
      have hk2 : ((K == 2) : Bool) = false := beq_eq_false_iff_ne.2 hK2
      go_enter Tryd.func24, Tryd.ntmps24
      go_wp2
      go_ret
      exact ⟨rfl, HB.out⟩
end Go.Proofs.YtaphfjomlignhaaDoor
