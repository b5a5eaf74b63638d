/- Pack: one whole number, one text that lies in the newest block; and what parts a writer from a reader. -/
import Derived.Test.YtmjkebokedaldaaPkReads
namespace Go.Proofs.Ytmjkebokedaldaa
open Go.RowKit

theorem own_ne_cells {w : World} {base size n g : Nat} {e t : TypeId} {v : Value} {xs : List Value} {cs : Array Value} {fr : Nat × Nat} (h : w.ownsRow base e size v n xs) (hb : w.heap[g]? = some (.cells cs t fr)) (hne : e ≠ t) : v.ownBlock ≠ some g := by
  rcases h.2 with ⟨rfl, _⟩ | ⟨g', cap, cur, rfl, _, hg, _⟩
  · simp [Value.ownBlock]
  · intro e'
    have : g' = g := by simpa [Value.ownBlock] using e'
    subst this
    have := hg.symm.trans hb
    injection this with this
    injection this with _ ht
    exact hne ht
/-- A reader's block is none of a writer's. -/
theorem rdr_wr {w : World} {base g g2 : Nat} {v : Value} {bs : List UInt8} {s : ByteArray} {T : TypeId} (h : Wr w base g v bs) (h2 : Rdr w T g2 s) (hT : T ≠ 5) (hT2 : T ≠ 57) : ¬ WrS g v g2 := by
  rintro (e | e)
  · subst e
    have := h.blk.symm.trans h2
    injection this with this
    injection this with _ ht
    exact hT2 ht.symm
  · exact own_ne_cells h.own h2 (fun e => hT e.symm) e
theorem sep_new {w : World} {base g : Nat} {v : Value} {bs : List UInt8} (h : Wr w base g v bs) : 0 < 1 → ∀ ad, (some ⟨w.heap.size, 0, none⟩ : Option Addr) = some ad → ¬ WrS g v ad.block := by
  rintro _ ad e
  injection e with e
  subst e
  rintro (e | e)
  · have := h.lt; simp only at e; omega
  · have := (h.own.lt _ e).2; simp only at this; omega
theorem int_one (w : World) (base g : Nat) (v : Value) (bs : List UInt8) (x : Int) (h0 : -9223372036854775808 ≤ x) (h1 : x ≤ 9223372036854775807) (h : Wr w base g v bs) (hb : base ≤ w.heap.size) (hl : bs.length + (intB x).length ≤ 140737488355328) :
    Calls Try.prog 26 #[.pointer (some ⟨g, 0, none⟩), .slice (some ⟨w.heap.size, 0, none⟩) 1 1] (w.alloc (.cells #[.int .i64 x] 3)) fun e w' => e = .returned (.tuple #[]) ∧ ∃ v', Wr w' base g v' (bs ++ intB x) ∧ RowAt w v v' ∧ Upd (WrS g v) w w' := by
  have hu : Upd (fun _ => False) w (w.alloc (.cells #[.int .i64 x] 3)) := (Upd.refl _ w).alloc _
  have hone : intsB [x] = intB x := by simp [intsB]
  refine (int_any (w.alloc (.cells #[.int .i64 x] 3)) base g v bs (some ⟨w.heap.size, 0, none⟩) 1 1 [x] (h.upd hu (fun _ _ h => h)) (by simp; omega) (by simpa [i64v] using Rd.new (w := w) (size := 1) (n := 1) #[.int .i64 x] 3 rfl) (sep_new h) (by rw [hone]; exact hl) (by simp; exact ⟨h0, h1⟩) (by omega)).mono ?_
  rintro e w' ⟨rfl, v', h', hat, hu'⟩
  rw [hone] at h'
  exact ⟨rfl, v', h', rowAt_upd (w' := w') hu hat rfl, (hu.mono (fun _ _ h => h.elim)).trans hu' (fun _ _ hs => hs)⟩
theorem text_one (w : World) (base g : Nat) (v : Value) (bs : List UInt8) (s : ByteArray) (h : Wr w base g v bs) (hb : base ≤ w.heap.size) (hl : bs.length + (textB s.data.toList).length ≤ 140737488355328) :
    Calls Try.prog 27 #[.pointer (some ⟨g, 0, none⟩), .slice (some ⟨w.heap.size, 0, none⟩) 1 1] (w.alloc (.cells #[.string s] 9)) fun e w' => e = .returned (.tuple #[]) ∧ ∃ v', Wr w' base g v' (bs ++ textB s.data.toList) ∧ RowAt w v v' ∧ Upd (WrS g v) w w' := by
  have hu : Upd (fun _ => False) w (w.alloc (.cells #[.string s] 9)) := (Upd.refl _ w).alloc _
  have hone : textsB [s] = textB s.data.toList := by simp [textsB]
  refine (text_any (w.alloc (.cells #[.string s] 9)) base g v bs (some ⟨w.heap.size, 0, none⟩) 1 1 [s] (h.upd hu (fun _ _ h => h)) (by simp; omega) (by simpa [strv] using Rd.new (w := w) (size := 1) (n := 1) #[.string s] 9 rfl) (sep_new h) (by rw [hone]; exact hl) (by omega)).mono ?_
  rintro e w' ⟨rfl, v', h', hat, hu'⟩
  rw [hone] at h'
  exact ⟨rfl, v', h', rowAt_upd (w' := w') hu hat rfl, (hu.mono (fun _ _ h => h.elim)).trans hu' (fun _ _ hs => hs)⟩
theorem new_wr (w : World) (base : Nat) : Calls Try.prog 24 #[] w fun e w' => e = .returned (.pointer (some ⟨w.heap.size, 0, none⟩)) ∧ Wr w' base w.heap.size (.slice none 0 0) [] ∧ Below w.heap.size w w' ∧ w.heap.size < w'.heap.size :=
  (new_any w).mono fun e w' ⟨he, hw⟩ => ⟨he, by rw [hw]; exact Wr.new w base, by rw [hw]; exact (Below.refl _ _).alloc (Nat.le_refl _) _, by rw [hw]; simp⟩
theorem fold_unfold (u : Nat) : fold (unfold_ u) = u := by
  unfold fold unfold_
  split <;> split <;> omega
theorem unfold_lo (u : Nat) (hu : u < 18446744073709551616) : -9223372036854775808 ≤ unfold_ u ∧ unfold_ u ≤ 9223372036854775807 := by unfold unfold_; split <;> omega
theorem unfold_fold (x : Int) : unfold_ (fold x) = x := by
  unfold fold unfold_
  split <;> split <;> omega
/-- What is taken was written so. -/
theorem num_back {l : List UInt8} {n : Nat} {r : List UInt8} (h : rdNum l = (n, 0, r)) : l = numB n ++ r ∧ n < 18446744073709551616 := by
  unfold rdNum at h
  split at h
  · rename_i m q hq
    injection h with a b
    injection b with _ c
    subst a; subst c
    exact numR0_some hq
  · injection h with _ b
    injection b with b _
    omega
theorem int_back {l : List UInt8} {x : Int} {r : List UInt8} (h : rdInt l = (x, 0, r)) : l = intB x ++ r ∧ -9223372036854775808 ≤ x ∧ x ≤ 9223372036854775807 := by
  unfold rdInt at h
  injection h with a b
  obtain ⟨n, hn⟩ : ∃ n, n = (rdNum l).1 := ⟨_, rfl⟩
  have h1 : rdNum l = (n, 0, r) := by rw [hn, ← b]
  obtain ⟨h2, h3⟩ := num_back h1
  rw [← hn] at a
  subst a
  exact ⟨by unfold intB; rw [fold_unfold]; exact h2, unfold_lo n h3⟩
theorem text_back {l : List UInt8} {t r : List UInt8} (h : rdText l = (t, 0, r)) : l = textB t ++ r := by
  unfold rdText at h
  split at h
  · injection h with _ b
    injection b with b _
    omega
  · rename_i hc
    obtain ⟨n, e, q, hq⟩ : ∃ n e q, rdNum l = (n, e, q) := ⟨_, _, _, rfl⟩
    rw [hq] at h hc
    simp only [not_or, Decidable.not_not, Nat.not_lt] at hc
    obtain ⟨rfl, hc⟩ := hc
    injection h with a b
    injection b with _ c
    simp only at a c
    have h1 := (num_back hq).1
    have hl : t.length = n := by rw [← a, List.length_take]; omega
    rw [h1, textB, hl, ← a, ← c, List.append_assoc, List.take_append_drop]
theorem rdText_err {l : List UInt8} {t : List UInt8} {e : Nat} {r : List UInt8} (h : rdText l = (t, e, r)) : e = 0 ∨ (e = 1 ∧ r = l) := by
  unfold rdText at h
  split at h
  · injection h with a b; injection b with b c; exact .inr ⟨b.symm, c.symm⟩
  · injection h with a b; injection b with b c; exact .inl b.symm
theorem rdNum_err' {l : List UInt8} {n e : Nat} {r : List UInt8} (h : rdNum l = (n, e, r)) : e = 0 ∨ (e = 1 ∧ r = l) := by
  rcases rdNum_err h with ⟨h, _⟩ | ⟨h, _, h2⟩
  · exact .inl h
  · exact .inr ⟨h, h2⟩
theorem rdInt_err {l : List UInt8} {x : Int} {e : Nat} {r : List UInt8} (h : rdInt l = (x, e, r)) : e = 0 ∨ (e = 1 ∧ r = l) := by
  unfold rdInt at h
  injection h with _ b
  exact rdNum_err' (n := (rdNum l).1) (by rw [← b])
end Go.Proofs.Ytmjkebokedaldaa
