/- Pack's writer, as other chapters use it. -/
import Derived.Test.YtanieolnaiihmaaPkWr
namespace Go.Proofs.Ytanieolnaiihmaa
open Go.RowKit

theorem rowAt_upd {w W w' : World} {v v' : Value} (hu : Upd (fun _ => False) w W) (h : RowAt W v v') (_h : w' = w') : RowAt w v v' :=
  h.imp id fun ⟨k, hk, e⟩ => ⟨k, Nat.le_trans hu.size hk, e⟩
/-- Bytes that lie in memory made since w. -/
theorem add_upd (w W : World) (base g : Nat) (v : Value) (bs b : List UInt8) (B : Nat) (A : Option Addr) (n c : Nat) (hn : n = b.length) (hu : Upd (fun _ => False) w W) (h : Wr w base g v bs) (hb : base ≤ w.heap.size) (hr : Rd W B 1 A b.length (bytv b)) (hl : bs.length + b.length ≤ 140737488355328) :
    Calls Try.prog 70 #[.pointer (some ⟨g, 0, none⟩), .slice A n c] W fun e w' => e = .returned (.tuple #[]) ∧ ∃ v', Wr w' base g v' (bs ++ b) ∧ RowAt w v v' ∧ Upd (WrS g v) w w' := by
  subst hn
  refine (add_any W base g v bs b B A c (h.upd hu (fun _ _ h => h)) (Nat.le_trans hb hu.size) hr hl).mono ?_
  rintro e w' ⟨rfl, v', h', hat, hu'⟩
  exact ⟨rfl, v', h', rowAt_upd (w' := w') hu hat rfl, (hu.mono (fun _ _ h => h.elim)).trans hu' (fun _ _ hs => hs)⟩
/-- '[]byte(s)' in memory. -/
theorem rd_bytes (w : World) (s : ByteArray) (cap : Nat) (e : TypeId) (fr : Nat × Nat) : Rd (w.alloc (.cells (bytesRow s cap) e fr)).drew (w.heap.size + 1) 1 (some ⟨w.heap.size, 0, none⟩) s.data.toList.length (bytv s.data.toList) := by
  refine ⟨by simp [bytv], fun _ => ⟨_, rfl, by simp, fun j u hu => ?_⟩⟩
  rw [add_zero_off]
  show (w.alloc (.cells (bytesRow s cap) e fr)).cell? ⟨w.heap.size, j, none⟩ = some u
  rw [World.cell?_alloc_mark]
  have hj : j < (bytv s.data.toList).length := (List.getElem?_eq_some_iff.1 hu).1
  rw [bytv_length] at hj
  unfold bytesRow
  rw [Array.getElem?_append_left (by simpa using hj)]
  rw [bytv_get _ _ hj] at hu
  simp at hj
  simp [hj]
  simpa using hu
/-- One number that lies in the newest block. -/
theorem num_one (w : World) (base g : Nat) (v : Value) (bs : List UInt8) (x : Nat) (z : Int) (hz : z = (x : Int)) (hx : x < 18446744073709551616) (h : Wr w base g v bs) (hb : base ≤ w.heap.size) (hl : bs.length + (numB x).length ≤ 140737488355328) :
    Calls Try.prog 46 #[.pointer (some ⟨g, 0, none⟩), .slice (some ⟨w.heap.size, 0, none⟩) 1 1] (w.alloc (.cells #[.int .u64 z] 27)) fun e w' => e = .returned (.tuple #[]) ∧ ∃ v', Wr w' base g v' (bs ++ numB x) ∧ RowAt w v v' ∧ Upd (WrS g v) w w' := by
  subst hz
  have hu : Upd (fun _ => False) w (w.alloc (.cells #[.int .u64 (x : Int)] 27)) := (Upd.refl _ w).alloc _
  have hone : numsB [x] = numB x := by simp [numsB]
  have hsep : 0 < 1 → ∀ ad, (some ⟨w.heap.size, 0, none⟩ : Option Addr) = some ad → ¬ WrS g v ad.block := by
    rintro _ ad e
    injection e with e
    subst e
    rintro (e | e)
    · have := h.lt; simp only at e; omega
    · have := (h.own.lt _ e).2; simp only at this; omega
  refine (num_any (w.alloc (.cells #[.int .u64 (x : Int)] 27)) base g v bs (some ⟨w.heap.size, 0, none⟩) 1 1 [x] (h.upd hu (fun _ _ h => h)) (by simp; omega) (by simpa [u64v] using Rd.new (w := w) (size := 1) (n := 1) #[.int .u64 (x : Int)] 27 rfl) hsep (by rw [hone]; exact hl) (by simpa using hx) (by omega)).mono ?_
  rintro e w' ⟨rfl, v', h', hat, hu'⟩
  rw [hone] at h'
  refine ⟨rfl, v', h', ?_, (hu.mono (fun _ _ h => h.elim)).trans hu' (fun _ _ hs => hs)⟩
  rcases hat with hat | ⟨k, hk, hat⟩
  · exact .inl hat
  · exact .inr ⟨k, by simp at hk; omega, hat⟩
theorem zig_num (x : Int) (h0 : -9223372036854775808 ≤ x) (h1 : x ≤ 9223372036854775807) :
    bits BinOp.xor IntKind.u64 (IntKind.u64.wrap (IntKind.u64.wrap x * 2)) (IntKind.u64.wrap (x / 9223372036854775808)) = ((fold x : Nat) : Int) := by
  rw [IntKind.wrap_u64, IntKind.wrap_u64, IntKind.wrap_u64]
  unfold fold
  by_cases h : 0 ≤ x
  · rw [if_pos h, show x / 9223372036854775808 % 18446744073709551616 = ((0 : Nat) : Int) by omega, show x % 18446744073709551616 * 2 % 18446744073709551616 = (((2 * x).toNat : Nat) : Int) by omega,
      bits_xor_u64_nat _ _ (by omega) (by omega), Nat.xor_zero]
  · rw [if_neg h, show x / 9223372036854775808 % 18446744073709551616 = ((2 ^ 64 - 1 : Nat) : Int) by omega, show x % 18446744073709551616 * 2 % 18446744073709551616 = (((2 * x + 18446744073709551616).toNat : Nat) : Int) by omega,
      bits_xor_u64_nat _ _ (by omega) (by omega), Nat.xor_comm, Lib.xor_ones64 _ (by omega)]
    omega
set_option maxHeartbeats 1000000 in
theorem int_any (w : World) (base g : Nat) (v : Value) (bs : List UInt8) (A : Option Addr) (n c : Nat) (l : List Int) (h : Wr w base g v bs) (hb : base ≤ w.heap.size) (hr : Rd w w.heap.size 1 A n (i64v l))
    (hsep : 0 < n → ∀ ad, A = some ad → ¬ WrS g v ad.block) (hl : bs.length + (intsB l).length ≤ 140737488355328) (h64 : ∀ x ∈ l, -9223372036854775808 ≤ x ∧ x ≤ 9223372036854775807) (hn : n ≤ 17592186044416) :
    Calls Try.prog 95 #[.pointer (some ⟨g, 0, none⟩), .slice A n c] w fun e w' => e = .returned (.tuple #[]) ∧ ∃ v', Wr w' base g v' (bs ++ intsB l) ∧ RowAt w v v' ∧ Upd (WrS g v) w w' := by
  have hlen := Lib.hid (show l.length = n by have := hr.len; rw [i64v_length] at this; omega)
  go_enter Try.func95, Try.ntmps95
  go_wp2
  go_loopw [8] (fun i wx => ∃ k : Nat, k ≤ n ∧ i = .int .i64 k ∧ ∃ v', Wr wx base g v' (bs ++ intsB (l.take k)) ∧ RowAt w v v' ∧ Upd (WrS g v) w wx) (fun i _ => n - (intOf i).toNat)
  case atStart => exact ⟨0, Nat.zero_le _, rfl, v, by simpa [intsB] using h, RowAt.refl _ _, Upd.refl _ _⟩
  case round =>
    obtain ⟨k, hk, rfl, v1, hw1, hat1, hu1⟩ := hrel
    by_cases hlt : k < n
    · have hr1 := hr.upd hu1 (Nat.le_refl _) hsep
      obtain ⟨ad, rfl, hab, hs, hc⟩ := hr1.i64 hlt
      obtain ⟨hx0, hx1⟩ := h64 _ (List.getElem_mem hs)
      have HT := Lib.hid (show intsB (l.take (k + 1)) = intsB (l.take k) ++ intB l[k] by rw [List.take_succ_eq_append_getElem hs, intsB_snoc])
      obtain ⟨x, hx⟩ : ∃ x, x = l[k] := ⟨_, rfl⟩
      rw [← hx] at HT hc hx0 hx1
      have hz := Lib.hid (zig_num x hx0 hx1)
      have hf64 := fold_lt hx0 hx1
      have hlx : (bs ++ intsB (l.take k)).length + (numB (fold x)).length ≤ 140737488355328 := by
        have h1 : intsB l = intsB (l.take (k + 1)) ++ intsB (l.drop (k + 1)) := by rw [intsB, intsB, intsB, ← List.flatMap_append, List.take_append_drop]
        have h2 : intB x = numB (fold x) := rfl
        rw [h1, HT.out, h2] at hl
        simp only [List.length_append] at hl ⊢
        omega
      have hbw : base ≤ wr.heap.size := Nat.le_trans hb hu1.size
      clear hx
      go_wp2_with fail
      refine (num_one _ base g v1 (bs ++ intsB (l.take k)) (fold x) _ hz.out hf64 hw1 hbw hlx).mono ?_
      rintro e w3 ⟨rfl, v3, hw3, hat3, hu3⟩
      have hw3' : Wr w3 base g v3 (bs ++ intsB (l.take (k + 1))) := by rw [HT.out, ← List.append_assoc]; exact hw3
      have hat3' := hat1.trans hat3 hu1.size
      have hu3' : Upd (WrS g v) w w3 := hu1.trans hu3 (fun k hk hs => wrS_back hat1 hk hs)
      clear hw3 hat3 hu3 hw1 hat1 hu1
      go_wp2
      go_roundw
      case rel => exact ⟨k + 1, by omega, by go_num, v3, hw3', hat3', hu3'⟩
      case measure => simp [intOf]; omega
    · obtain rfl : k = n := by omega
      rw [← hlen.out, List.take_length] at hw1
      go_wp2
      go_end0
      exact ⟨rfl, v1, hw1, hat1, hu1⟩
set_option maxHeartbeats 1000000 in
theorem text_any (w : World) (base g : Nat) (v : Value) (bs : List UInt8) (A : Option Addr) (n c : Nat) (l : List ByteArray) (h : Wr w base g v bs) (hb : base ≤ w.heap.size) (hr : Rd w w.heap.size 1 A n (strv l))
    (hsep : 0 < n → ∀ ad, A = some ad → ¬ WrS g v ad.block) (hl : bs.length + (textsB l).length ≤ 140737488355328) (hn : n ≤ 17592186044416) :
    Calls Try.prog 48 #[.pointer (some ⟨g, 0, none⟩), .slice A n c] w fun e w' => e = .returned (.tuple #[]) ∧ ∃ v', Wr w' base g v' (bs ++ textsB l) ∧ RowAt w v v' ∧ Upd (WrS g v) w w' := by
  have hlen := Lib.hid (show l.length = n by have := hr.len; rw [strv_length] at this; omega)
  go_enter Try.func48, Try.ntmps48
  go_wp2
  go_loopw [8] (fun i wx => ∃ k : Nat, k ≤ n ∧ i = .int .i64 k ∧ ∃ v', Wr wx base g v' (bs ++ textsB (l.take k)) ∧ RowAt w v v' ∧ Upd (WrS g v) w wx) (fun i _ => n - (intOf i).toNat)
  case atStart => exact ⟨0, Nat.zero_le _, rfl, v, by simpa [textsB] using h, RowAt.refl _ _, Upd.refl _ _⟩
  case round =>
    obtain ⟨k, hk, rfl, v1, hw1, hat1, hu1⟩ := hrel
    by_cases hlt : k < n
    · have hr1 := hr.upd hu1 (Nat.le_refl _) hsep
      obtain ⟨ad, rfl, hab, hs, hc⟩ := hr1.str hlt
      have HT := Lib.hid (show textsB (l.take (k + 1)) = textsB (l.take k) ++ textB l[k].data.toList by rw [List.take_succ_eq_append_getElem hs, textsB_snoc])
      obtain ⟨x, hx⟩ : ∃ x, x = l[k] := ⟨_, rfl⟩
      rw [← hx] at HT hc
      have hxl : x.data.toList.length = x.size := by simp
      have hlx : (bs ++ textsB (l.take k)).length + (numB x.size).length + x.size ≤ 140737488355328 := by
        have h1 : textsB l = textsB (l.take (k + 1)) ++ textsB (l.drop (k + 1)) := by rw [textsB, textsB, textsB, ← List.flatMap_append, List.take_append_drop]
        have h2 : textB x.data.toList = numB x.size ++ x.data.toList := by rw [textB, hxl]
        rw [h1, HT.out, h2] at hl
        simp only [List.length_append, hxl] at hl ⊢
        omega
      have HX := Lib.hid (show textB x.data.toList = numB x.size ++ x.data.toList by rw [textB, hxl])
      have hbw : base ≤ wr.heap.size := Nat.le_trans hb hu1.size
      clear hx hxl
      have hxs : x.size < 18446744073709551616 := by omega
      go_wp2_with fail
      refine (num_one _ base g v1 (bs ++ textsB (l.take k)) x.size _ rfl hxs hw1 hbw (by omega)).mono ?_
      rintro e w2 ⟨rfl, v2, hw2, hat2, hu2⟩
      have hcv := fun w s => run_bytes_of_string (P := Try.prog) w 9 38 5 s Try.underlying9 Try.underlying38 Try.underlying5
      go_wp2_with fail
      refine (add_upd w2 _ base g v2 (bs ++ textsB (l.take k) ++ numB x.size) x.data.toList _ _ x.size _ (by simp) ((Upd.refl _ w2).alloc _ |>.drewN 1) hw2 (Nat.le_trans hbw hu2.size) (rd_bytes w2 x _ _ _) (by simp only [List.length_append] at hlx ⊢; simp; omega)).mono ?_
      rintro e w3 ⟨rfl, v3, hw3, hat3, hu3⟩
      have hw3' : Wr w3 base g v3 (bs ++ textsB (l.take (k + 1))) := by rw [HT.out, HX.out, ← List.append_assoc, ← List.append_assoc]; exact hw3
      have hat3' := (hat1.trans hat2 hu1.size).trans hat3 (Nat.le_trans hu1.size hu2.size)
      have hu3' : Upd (WrS g v) w w3 := (hu1.trans hu2 (fun k hk hs => wrS_back hat1 hk hs)).trans hu3 (fun k hk hs => wrS_back (hat1.trans hat2 hu1.size) hk hs)
      clear hw3 hat3 hu3 hw1 hat1 hu1 hw2 hat2 hu2 hcv
      go_wp2
      go_roundw
      case rel => exact ⟨k + 1, by omega, by go_num, v3, hw3', hat3', hu3'⟩
      case measure => simp [intOf]; omega
    · obtain rfl : k = n := by omega
      rw [← hlen.out, List.take_length] at hw1
      go_wp2
      go_end0
      exact ⟨rfl, v1, hw1, hat1, hu1⟩
set_option maxHeartbeats 400000 in
theorem bytes_any (w : World) (base g : Nat) (v : Value) (bs : List UInt8) (h : Wr w base g v bs) :
    Calls Try.prog 49 #[.pointer (some ⟨g, 0, none⟩)] w fun e w' => e = .returned (.string ⟨bs.toArray⟩) ∧ w = w' := by
  have c1 := h.cell1
  have hcv := conv_own (P := Try.prog) (src := 38) (dst := 9) Try.underlying38 Try.underlying5 Try.underlying9 h.own
  obtain ⟨A, c, hv⟩ := own_shape h.own
  subst hv
  go_enter Try.func49, Try.ntmps49
  go_wp2
  go_ret
  exact ⟨rfl, rfl⟩
theorem sep_of {w : World} {B g size n : Nat} {A : Option Addr} {xs : List Value} {v : Value} (hr : Rd w B size A n xs) (hg : B ≤ g) (hv : ∀ k, v.ownBlock = some k → B ≤ k) : 0 < n → ∀ ad, A = some ad → ¬ WrS g v ad.block := by
  rintro hn ad e (h | h)
  · obtain ⟨ad', e', hb, _⟩ := hr.at_ hn
    rw [e] at e'; injection e' with e'; subst e'
    omega
  · obtain ⟨ad', e', hb, _⟩ := hr.at_ hn
    rw [e] at e'; injection e' with e'; subst e'
    have := hv _ h; omega
theorem below_wr {w w1 w2 : World} {B g : Nat} {v : Value} (hB : B = w.heap.size) (h : Below B w w1) (hu : Upd (WrS g v) w1 w2) (hg : B ≤ g) (hv : ∀ k, v.ownBlock = some k → B ≤ k) : Below B w w2 := by
  refine h.trans (hu.below (fun k hk => ?_) (by rw [hB]; exact h.size))
  rintro (e | e)
  · omega
  · have := hv _ e; omega
theorem own_ne_cells {w : World} {base size n g : Nat} {e t : TypeId} {v : Value} {xs : List Value} {cs : Array Value} {fr : Nat × Nat} (h : w.ownsRow base e size v n xs) (hb : w.heap[g]? = some (.cells cs t fr)) (hne : e ≠ t) : v.ownBlock ≠ some g := by
  rcases h.2 with ⟨rfl, _⟩ | ⟨g', cap, cur, rfl, _, hg, _⟩
  · simp [Value.ownBlock]
  · intro e'
    have : g' = g := by simpa [Value.ownBlock] using e'
    subst this
    have := hg.symm.trans hb
    injection this with this
    injection this with _ ht
    exact hne ht
theorem sep_new {w : World} {base g : Nat} {v : Value} {bs : List UInt8} (h : Wr w base g v bs) : 0 < 1 → ∀ ad, (some ⟨w.heap.size, 0, none⟩ : Option Addr) = some ad → ¬ WrS g v ad.block := by
  rintro _ ad e
  injection e with e
  subst e
  rintro (e | e)
  · have := h.lt; simp only at e; omega
  · have := (h.own.lt _ e).2; simp only at this; omega
theorem int_one (w : World) (base g : Nat) (v : Value) (bs : List UInt8) (x : Int) (h0 : -9223372036854775808 ≤ x) (h1 : x ≤ 9223372036854775807) (h : Wr w base g v bs) (hb : base ≤ w.heap.size) (hl : bs.length + (intB x).length ≤ 140737488355328) :
    Calls Try.prog 95 #[.pointer (some ⟨g, 0, none⟩), .slice (some ⟨w.heap.size, 0, none⟩) 1 1] (w.alloc (.cells #[.int .i64 x] 3)) fun e w' => e = .returned (.tuple #[]) ∧ ∃ v', Wr w' base g v' (bs ++ intB x) ∧ RowAt w v v' ∧ Upd (WrS g v) w w' := by
  have hu : Upd (fun _ => False) w (w.alloc (.cells #[.int .i64 x] 3)) := (Upd.refl _ w).alloc _
  have hone : intsB [x] = intB x := by simp [intsB]
  refine (int_any (w.alloc (.cells #[.int .i64 x] 3)) base g v bs (some ⟨w.heap.size, 0, none⟩) 1 1 [x] (h.upd hu (fun _ _ h => h)) (by simp; omega) (by simpa [i64v] using Rd.new (w := w) (size := 1) (n := 1) #[.int .i64 x] 3 rfl) (sep_new h) (by rw [hone]; exact hl) (by simp; exact ⟨h0, h1⟩) (by omega)).mono ?_
  rintro e w' ⟨rfl, v', h', hat, hu'⟩
  rw [hone] at h'
  exact ⟨rfl, v', h', rowAt_upd (w' := w') hu hat rfl, (hu.mono (fun _ _ h => h.elim)).trans hu' (fun _ _ hs => hs)⟩
theorem text_one (w : World) (base g : Nat) (v : Value) (bs : List UInt8) (s : ByteArray) (h : Wr w base g v bs) (hb : base ≤ w.heap.size) (hl : bs.length + (textB s.data.toList).length ≤ 140737488355328) :
    Calls Try.prog 48 #[.pointer (some ⟨g, 0, none⟩), .slice (some ⟨w.heap.size, 0, none⟩) 1 1] (w.alloc (.cells #[.string s] 9)) fun e w' => e = .returned (.tuple #[]) ∧ ∃ v', Wr w' base g v' (bs ++ textB s.data.toList) ∧ RowAt w v v' ∧ Upd (WrS g v) w w' := by
  have hu : Upd (fun _ => False) w (w.alloc (.cells #[.string s] 9)) := (Upd.refl _ w).alloc _
  have hone : textsB [s] = textB s.data.toList := by simp [textsB]
  refine (text_any (w.alloc (.cells #[.string s] 9)) base g v bs (some ⟨w.heap.size, 0, none⟩) 1 1 [s] (h.upd hu (fun _ _ h => h)) (by simp; omega) (by simpa [strv] using Rd.new (w := w) (size := 1) (n := 1) #[.string s] 9 rfl) (sep_new h) (by rw [hone]; exact hl) (by omega)).mono ?_
  rintro e w' ⟨rfl, v', h', hat, hu'⟩
  rw [hone] at h'
  exact ⟨rfl, v', h', rowAt_upd (w' := w') hu hat rfl, (hu.mono (fun _ _ h => h.elim)).trans hu' (fun _ _ hs => hs)⟩
theorem new_wr (w : World) (base : Nat) : Calls Try.prog 45 #[] w fun e w' => e = .returned (.pointer (some ⟨w.heap.size, 0, none⟩)) ∧ Wr w' base w.heap.size (.slice none 0 0) [] ∧ Below w.heap.size w w' ∧ w.heap.size < w'.heap.size :=
  (new_any w).mono fun e w' ⟨he, hw⟩ => ⟨he, by rw [hw]; exact Wr.new w base, by rw [hw]; exact (Below.refl _ _).alloc (Nat.le_refl _) _, by rw [hw]; simp⟩
end Go.Proofs.Ytanieolnaiihmaa
