/- Pack: the writer, walked. -/
import Derived.Test.YtanieolnaiihmaaRow
import Derived.Test.YtanieolnaiihmaaPkPlain
import Derived.Test.YtanieolnaiihmaaNums
import Derived.Deep.RegionLaw
import Derived.Deep.AppendLies
namespace Go.Proofs.Ytanieolnaiihmaa
open Go.RowKit

/-- Block g is a writer that has put bs; v: the slice in it. -/
structure Wr (w : World) (base g : Nat) (v : Value) (bs : List UInt8) : Prop where
  blk : w.heap[g]? = some (.cells #[.int .i64 (bs.length : Int), v] 115 (0, 0))
  own : w.ownsRow base 5 1 v bs.length (bytv bs)
/-- What a call on the writer turns. -/
def WrS (g : Nat) (v : Value) (k : Nat) : Prop := k = g ∨ v.ownBlock = some k
theorem Wr.lt {w : World} {base g : Nat} {v : Value} {bs : List UInt8} (h : Wr w base g v bs) : g < w.heap.size := (Array.getElem?_eq_some_iff.1 h.blk).1
theorem Wr.cell0 {w : World} {base g : Nat} {v : Value} {bs : List UInt8} (h : Wr w base g v bs) : w.cell? ⟨g, 0, none⟩ = some (.int .i64 (bs.length : Int)) := by
  rw [cell_of_row w g 0 _ _ _ h.blk]; rfl
theorem Wr.cell1 {w : World} {base g : Nat} {v : Value} {bs : List UInt8} (h : Wr w base g v bs) : w.cell? ⟨g, 1, none⟩ = some v := by
  rw [cell_of_row w g 1 _ _ _ h.blk]; rfl
theorem Wr.free {w : World} {base g : Nat} {v : Value} {bs : List UInt8} (h : Wr w base g v bs) (i : Nat) : w.frozen? ⟨g, i, none⟩ = false := frozen_of_row w g i _ _ h.blk
theorem wrS_back {w : World} {g : Nat} {v v' : Value} (h : RowAt w v v') {k : Nat} (hk : k < w.heap.size) (hs : WrS g v' k) : WrS g v k := hs.imp id fun e => h.old hk e
theorem Wr.ne {w : World} {base g : Nat} {v : Value} {bs : List UInt8} (h : Wr w base g v bs) : v.ownBlock ≠ some g := by
  rcases h.own.2 with ⟨rfl, _⟩ | ⟨g', cap, cur, rfl, _, hg, _⟩
  · simp [Value.ownBlock]
  · intro e
    have e' : g' = g := by simpa [Value.ownBlock] using e
    subst e'
    have := h.blk.symm.trans hg
    injection this with this
    injection this with _ ht
    exact absurd ht (by decide)
theorem Wr.upd {w w' : World} {base g : Nat} {v : Value} {bs : List UInt8} {S : Nat → Prop} (h : Wr w base g v bs) (hu : Upd S w w') (hs : ∀ k, WrS g v k → ¬ S k) : Wr w' base g v bs :=
  ⟨(hu.block g h.lt (hs g (.inl rfl))).trans h.blk, own_upd h.own hu (fun k hk => hs k (.inr hk))⟩

set_option maxHeartbeats 400000 in
theorem new_any (w : World) : Calls Try.prog 45 #[] w fun e w' => e = .returned (.pointer (some ⟨w.heap.size, 0, none⟩)) ∧ w' = w.alloc (.cells #[.int .i64 0, .slice none 0 0] 115) := by
  go_enter Try.func45, Try.ntmps45
  go_wp2
  go_ret
  exact ⟨rfl, rfl⟩
theorem Wr.new (w : World) (base : Nat) : Wr (w.alloc (.cells #[.int .i64 0, .slice none 0 0] 115)) base w.heap.size (.slice none 0 0) [] :=
  ⟨heap_alloc_new w _, World.ownsRow_nil _ _ _ _⟩

theorem u8_info : (Try.prog.info? 5).map (fun i => (i.zero, i.size, i.bytes)) = some (some (.int .u8 0), 1, 1) := by kernel_rfl

theorem add_end {w w1 : World} {base g : Nat} {v v1 : Value} {bs b : List UInt8} {n' : Int} (hblk : w1.heap[g]? = some (.cells #[.int .i64 (bs.length : Int), v] 115 (0, 0)))
    (hown : w1.ownsRow base 5 1 v1 (bs.length + b.length) (bytv bs ++ bytv b)) (hu : Upd (fun k => v.ownBlock = some k) w w1) (hat : RowAt w v v1) (hne : ¬ v.ownBlock = some g) (hn : n' = ((bs ++ b).length : Int)) :
    Wr ((w1.setCell ⟨g, 1, none⟩ v1).setCell ⟨g, 0, none⟩ (.int .i64 n')) base g v1 (bs ++ b) ∧ RowAt w v v1 ∧ Upd (WrS g v) w ((w1.setCell ⟨g, 1, none⟩ v1).setCell ⟨g, 0, none⟩ (.int .i64 n')) := by
  have hlt : g < w1.heap.size := (Array.getElem?_eq_some_iff.1 hblk).1
  have hne1 : ¬ v1.ownBlock = some g := by
    intro e
    rcases hown.2 with ⟨rfl, _⟩ | ⟨g', cap, cur, rfl, _, hg, _⟩
    · simp [Value.ownBlock] at e
    · have e' : g' = g := by simpa [Value.ownBlock] using e
      subst e'
      have := hblk.symm.trans hg
      injection this with this
      injection this with _ ht
      exact absurd ht (by decide)
  have hu2 : Upd (fun k => k = g) w1 ((w1.setCell ⟨g, 1, none⟩ v1).setCell ⟨g, 0, none⟩ (.int .i64 n')) := ((Upd.refl (fun k => k = g) w1).setCell ⟨g, 1, none⟩ rfl v1).setCell ⟨g, 0, none⟩ rfl _
  refine ⟨⟨?_, ?_⟩, hat, (hu.mono (fun k _ h => .inr h)).trans hu2 (fun k _ h => .inl h)⟩
  · have h1 := heap_setCell_same w1 g 1 _ _ v1 hblk
    have h2 := heap_setCell_same _ g 0 _ _ (.int .i64 n') h1
    rw [h2, hn]
    rfl
  · rw [List.length_append, bytv_append]
    exact own_upd hown hu2 (fun k hk e => hne1 (by rw [hk, e]))

set_option maxHeartbeats 1000000 in
theorem add_any (w : World) (base g : Nat) (v : Value) (bs b : List UInt8) (B : Nat) (A : Option Addr) (c : Nat) (h : Wr w base g v bs) (hb : base ≤ w.heap.size) (hr : Rd w B 1 A b.length (bytv b)) (hl : bs.length + b.length ≤ 140737488355328) :
    Calls Try.prog 70 #[.pointer (some ⟨g, 0, none⟩), .slice A b.length c] w fun e w' => e = .returned (.tuple #[]) ∧ ∃ v', Wr w' base g v' (bs ++ b) ∧ RowAt w v v' ∧ Upd (WrS g v) w w' := by
  obtain ⟨i0, hi0, hz0, hz1, hz2⟩ := info_parts u8_info
  have c1 := h.cell1
  have f1 := h.free 1
  go_enter Try.func70, Try.ntmps70
  go_wp2_with (at_builtin; refine wpList_app rfl (.tmp 8) (.tmp 9) 38 rfl base 5 i0 (.int .u8 0) 1 1 Try.underlying38 hi0 hz0 hz1 hz2 rfl (by decide) v bs.length (bytv bs) B A b.length c (bytv b) rfl (by exact h.own) rfl (by exact hr) (bytv_one b) ?c1 ?c2 ?c3 ?_)
  case c1 => omega
  case c2 => unfold maxLen; omega
  case c3 => exact hb
  intro v1 w1 hown1 hu1 hat1
  have hne : ¬ (v.ownBlock = some g) := h.ne
  have hblk1 : w1.heap[g]? = some (.cells #[.int .i64 (bs.length : Int), v] 115 (0, 0)) := (hu1.block g h.lt hne).trans h.blk
  have d0 : w1.cell? ⟨g, 0, none⟩ = some (.int .i64 (bs.length : Int)) := by rw [cell_of_row w1 g 0 _ _ _ hblk1]; rfl
  have d1 : w1.cell? ⟨g, 1, none⟩ = some v := by rw [cell_of_row w1 g 1 _ _ _ hblk1]; rfl
  have e0 : w1.frozen? ⟨g, 0, none⟩ = false := frozen_of_row w1 g 0 _ _ hblk1
  have e1 : w1.frozen? ⟨g, 1, none⟩ = false := frozen_of_row w1 g 1 _ _ hblk1
  obtain ⟨A1, c1', hv1⟩ := own_shape hown1
  rw [hv1]
  rw [hv1] at hown1 hat1
  have HFIN := Lib.hid (add_end (n' := (bs.length : Int) + (b.length : Int)) hblk1 hown1 hu1 hat1 hne (by rw [List.length_append]; omega))
  clear hown1 hat1 hblk1 hv1 hr h
  go_wp2
  go_end0
  exact ⟨rfl, _, HFIN.out⟩

/-- One byte that lies in the newest block. -/
theorem add_one (w : World) (base g : Nat) (v : Value) (bs : List UInt8) (x : UInt8) (z : Int) (hz : z = (x.toNat : Int)) (h : Wr w base g v bs) (hb : base ≤ w.heap.size) (hl : bs.length + 1 ≤ 140737488355328) :
    Calls Try.prog 70 #[.pointer (some ⟨g, 0, none⟩), .slice (some ⟨w.heap.size, 0, none⟩) 1 1] (w.alloc (.cells #[.int .u8 z] 5)) fun e w' => e = .returned (.tuple #[]) ∧ ∃ v', Wr w' base g v' (bs ++ [x]) ∧ RowAt w v v' ∧ Upd (WrS g v) w w' := by
  subst hz
  have hu : Upd (fun _ => False) w (w.alloc (.cells #[.int .u8 (x.toNat : Int)] 5)) := (Upd.refl _ w).alloc _
  refine (add_any (w.alloc (.cells #[.int .u8 (x.toNat : Int)] 5)) base g v bs [x] (w.heap.size + 1) (some ⟨w.heap.size, 0, none⟩) 1 (h.upd hu (fun _ _ h => h)) (by simp; omega) (Rd.new #[.int .u8 (x.toNat : Int)] 5 rfl) (by simpa using hl)).mono ?_
  rintro e w' ⟨rfl, v', h', hat, hu'⟩
  refine ⟨rfl, v', h', ?_, (hu.mono (fun _ _ h => h.elim)).trans hu' (fun _ _ hs => hs)⟩
  rcases hat with hat | ⟨k, hk, hat⟩
  · exact .inl hat
  · exact .inr ⟨k, by simp at hk; omega, hat⟩

set_option maxHeartbeats 1000000 in
theorem num_any (w : World) (base g : Nat) (v : Value) (bs : List UInt8) (A : Option Addr) (n c : Nat) (l : List Nat) (h : Wr w base g v bs) (hb : base ≤ w.heap.size) (hr : Rd w w.heap.size 1 A n (u64v l))
    (hsep : 0 < n → ∀ ad, A = some ad → ¬ WrS g v ad.block) (hl : bs.length + (numsB l).length ≤ 140737488355328) (h64 : ∀ x ∈ l, x < 18446744073709551616) (hn : n ≤ 17592186044416) :
    Calls Try.prog 46 #[.pointer (some ⟨g, 0, none⟩), .slice A n c] w fun e w' => e = .returned (.tuple #[]) ∧ ∃ v', Wr w' base g v' (bs ++ numsB l) ∧ RowAt w v v' ∧ Upd (WrS g v) w w' := by
  have hlen := Lib.hid (show l.length = n by have := hr.len; rw [u64v_length] at this; omega)
  go_enter Try.func46, Try.ntmps46
  go_wp2
  go_loopw [8] (fun i wx => ∃ k : Nat, k ≤ n ∧ i = .int .i64 k ∧ ∃ v', Wr wx base g v' (bs ++ numsB (l.take k)) ∧ RowAt w v v' ∧ Upd (WrS g v) w wx) (fun i _ => n - (intOf i).toNat)
  case atStart => exact ⟨0, Nat.zero_le _, rfl, v, by simpa [numsB] using h, RowAt.refl _ _, Upd.refl _ _⟩
  case round =>
    obtain ⟨k, hk, rfl, v1, hw1, hat1, hu1⟩ := hrel
    by_cases hlt : k < n
    · have hr1 := hr.upd hu1 (Nat.le_refl _) hsep
      obtain ⟨ad, rfl, hab, hs, hc⟩ := hr1.u64 hlt
      have hx64 : l[k] < 18446744073709551616 := h64 _ (List.getElem_mem hs)
      have HT := Lib.hid (show numsB (l.take (k + 1)) = numsB (l.take k) ++ numB l[k] by rw [List.take_succ_eq_append_getElem hs, numsB_snoc])
      go_wp2
      obtain ⟨x, hx⟩ : ∃ x, x = l[k] := ⟨_, rfl⟩
      rw [← hx]
      rw [← hx] at HT hx64
      have hlx : bs.length + (numsB (l.take k)).length + (numB x).length ≤ 140737488355328 := by
        have h1 : numsB l = numsB (l.take (k + 1)) ++ numsB (l.drop (k + 1)) := by rw [numsB, numsB, numsB, ← List.flatMap_append, List.take_append_drop]
        rw [h1, HT.out] at hl
        simp only [List.length_append] at hl
        omega
      clear hx hc
      have hz1 := hu1.size
      obtain ⟨pr, hpr⟩ : ∃ pr, pr = bs ++ numsB (l.take k) := ⟨_, rfl⟩
      have HPR := Lib.hid hpr
      have hlp : pr.length + (numB x).length ≤ 140737488355328 := by rw [hpr, List.length_append]; exact hlx
      rw [← hpr] at hw1
      clear hpr hlx
      go_loopw [5] (fun q wx => ∃ cur : Nat, ∃ pre : List UInt8, q = .int .u64 (cur : Int) ∧ cur < 18446744073709551616 ∧ Hid (numB x = pre ++ numB cur) ∧ ∃ v2, Wr wx base g v2 (pr ++ pre) ∧ RowAt w v v2 ∧ Upd (WrS g v) w wx) (fun q _ => (intOf q).toNat)
      case atStart => exact ⟨x, [], rfl, hx64, rfl, v1, by simpa using hw1, hat1, hu1⟩
      case round =>
        obtain ⟨cur, pre, rfl, hc64, hpre, v2, hw2, hat2, hu2⟩ := hrel
        have hlen2 : pre.length + (numB cur).length = (numB x).length := by rw [hpre.out, List.length_append]
        have hpos := numB_pos cur
        by_cases hbig : cur < 128
        · have HS := Lib.hid (numB_small hbig)
          have hz := Lib.hid (show (cur : Int) = (((UInt8.ofNat cur).toNat : Nat) : Int) by rw [UInt8.toNat_ofNat', Nat.mod_eq_of_lt (by omega)])
          have hlb : (pr ++ pre).length + 1 ≤ 140737488355328 := by rw [List.length_append]; omega
          have hbw : base ≤ wr.heap.size := Nat.le_trans hb hu2.size
          go_wp2_with fail
          refine (add_one _ base g v2 (pr ++ pre) (UInt8.ofNat cur) _ hz.out hw2 hbw hlb).mono ?_
          rintro e w3 ⟨rfl, v3, hw3, hat3, hu3⟩
          have hw3' : Wr w3 base g v3 (bs ++ numsB (l.take (k + 1))) := by
            rw [HT.out, ← List.append_assoc, ← HPR.out, hpre.out, HS.out, ← List.append_assoc]; exact hw3
          have hat3' := hat2.trans hat3 hu2.size
          have hu3' : Upd (WrS g v) w w3 := hu2.trans hu3 (fun k hk hs => wrS_back hat2 hk hs)
          clear hw3 hat3 hu3 hw2 hat2 hu2
          go_wp2
          go_roundw
          case rel => exact ⟨k + 1, by omega, by go_num, v3, hw3', hat3', hu3'⟩
          case measure => simp [intOf]; omega
        · have HS := Lib.hid (numB_big hbig)
          have hz := Lib.hid (low7 cur)
          have hlb : (pr ++ pre).length + 1 ≤ 140737488355328 := by rw [List.length_append]; omega
          have hbw : base ≤ wr.heap.size := Nat.le_trans hb hu2.size
          go_wp2_with fail
          refine (add_one _ base g v2 (pr ++ pre) (UInt8.ofNat (cur % 128 + 128)) _ hz.out hw2 hbw hlb).mono ?_
          rintro e w3 ⟨rfl, v3, hw3, hat3, hu3⟩
          have hw3' : Wr w3 base g v3 (pr ++ (pre ++ [UInt8.ofNat (cur % 128 + 128)])) := by rw [← List.append_assoc]; exact hw3
          have hp3 : Hid (numB x = (pre ++ [UInt8.ofNat (cur % 128 + 128)]) ++ numB (cur / 128)) := by rw [hpre.out, HS.out]; simp [Hid]
          have hat3' := hat2.trans hat3 hu2.size
          have hu3' : Upd (WrS g v) w w3 := hu2.trans hu3 (fun k hk hs => wrS_back hat2 hk hs)
          clear hw3 hat3 hu3 hw2 hat2 hu2
          go_wp2
          go_roundw
          case rel => exact ⟨cur / 128, _, by go_num, by omega, hp3, v3, hw3', hat3', hu3'⟩
          case measure => simp [intOf]; omega
    · obtain rfl : k = n := by omega
      rw [← hlen.out, List.take_length] at hw1
      go_wp2
      go_end0
      exact ⟨rfl, v1, hw1, hat1, hu1⟩
end Go.Proofs.Ytanieolnaiihmaa
