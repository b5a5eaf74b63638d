/- Digests: bytes are taken, walked. -/
import Derived.Test.YtohgkcgeanofnaaTgBlock
namespace Go.Proofs.Ytohgkcgeanofnaa
open Go.RowKit
theorem u8_info : (Try.prog.info? 5).map (fun i => (i.zero, i.size, i.bytes)) = some (some (.int .u8 0), 1, 1) := by kernel_rfl
/-- The digest's block. -/
def RowD (w : World) (d : Nat) (H : List Nat) (rv : Value) (n : Nat) : Prop := w.heap[d]? = some (.cells (u32v (H ++ Kt) ++ [rv, .int .u64 (n : Int)]).toArray 54 (0, 0))
section
variable {w w' : World} {d n : Nat} {H : List Nat} {rv : Value}
theorem RowD.lt (h : RowD w d H rv n) : d < w.heap.size := (Array.getElem?_eq_some_iff.1 h).1
theorem len72 (hH : H.length = 8) : (u32v (H ++ Kt)).length = 72 := by rw [u32v_length, List.length_append, hH, Kt_length]
theorem RowD.rest (h : RowD w d H rv n) (hH : H.length = 8) : w.cell? ⟨d, 72, none⟩ = some rv := by
  rw [cell_of_row w d 72 _ _ _ h, List.getElem?_toArray, List.getElem?_append_right (by rw [len72 hH]; exact Nat.le_refl _), len72 hH]
  rfl
theorem RowD.num (h : RowD w d H rv n) (hH : H.length = 8) : w.cell? ⟨d, 73, none⟩ = some (.int .u64 (n : Int)) := by
  rw [cell_of_row w d 73 _ _ _ h, List.getElem?_toArray, List.getElem?_append_right (by rw [len72 hH]; decide), len72 hH]
  rfl
theorem RowD.free (h : RowD w d H rv n) (k : Nat) : w.frozen? ⟨d, k, none⟩ = false := frozen_of_row w d k _ _ h
theorem RowD.setRest (h : RowD w d H rv n) (hH : H.length = 8) (v : Value) : RowD (w.setCell ⟨d, 72, none⟩ v) d H v n := by
  have h1 := heap_setCell_same w d 72 _ _ v h
  unfold RowD
  rw [h1, List.setIfInBounds_toArray, List.set_append_right _ _ (by rw [len72 hH]; exact Nat.le_refl _), len72 hH]
  rfl
theorem RowD.setNum (h : RowD w d H rv n) (hH : H.length = 8) (m : Nat) : RowD (w.setCell ⟨d, 73, none⟩ (.int .u64 (m : Int))) d H rv m := by
  have h1 := heap_setCell_same w d 73 _ _ (.int .u64 (m : Int)) h
  unfold RowD
  rw [h1, List.setIfInBounds_toArray, List.set_append_right _ _ (by rw [len72 hH]; decide), len72 hH]
  rfl
theorem RowD.upd {S : Nat → Prop} (h : RowD w d H rv n) (hu : Upd S w w') (hs : ¬ S d) : RowD w' d H rv n := (hu.block d h.lt hs).trans h
end
/-- A digest in block d: the eight words, the bytes that are left, how many bytes came; its own blocks lie from B on. -/
structure Dg (w : World) (B d : Nat) (H : List Nat) (rv : Value) (l : List UInt8) (n : Nat) : Prop where
  row : RowD w d H rv n
  hH : H.length = 8
  hl : ∀ x ∈ H, x < 4294967296
  ow : OwnB w B 5 rv l
  base : B ≤ d
  ne : rv.ownBlock ≠ some d
  num : n < 18446744073709551616
theorem Dg.upd {w w' : World} {B d n : Nat} {H : List Nat} {rv : Value} {l : List UInt8} {S : Nat → Prop} (h : Dg w B d H rv l n) (hu : Upd S w w') (hs : ∀ k, k < w.heap.size → B ≤ k → ¬ S k) : Dg w' B d H rv l n :=
  ⟨h.row.upd hu (hs d h.row.lt h.base), h.hH, h.hl, h.ow.upd hu (fun k hk => hs k (h.ow.lt k hk).2 (h.ow.lt k hk).1), h.base, h.ne, h.num⟩
def restLen (w : World) (d : Nat) : Nat := match w.cell? ⟨d, 72, none⟩ with
  | some (.slice _ n _) => n
  | _ => 0
theorem Dg.len {w : World} {B d n : Nat} {H : List Nat} {A : Option Addr} {k c : Nat} {l : List UInt8} (h : Dg w B d H (.slice A k c) l n) : restLen w d = k := by
  unfold restLen
  rw [h.row.rest h.hH]
theorem below_step {B d : Nat} {w w1 w2 : World} (hb : Below B w w1) (hu : Upd (fun k => k = d) w1.drew w2) (hd : B ≤ d) (hd1 : d < w1.heap.size) (v : Value) : Below B w (w2.setCell ⟨d, 72, none⟩ v) :=
  ((below_drew1 hb).trans (hu.below (fun k hk e => by omega) (by show B ≤ w1.heap.size; omega))).setCell hd v
theorem Dg.next {w w2 : World} {B d n g off c k : Nat} {H H2 : List Nat} {l : List UInt8} {v : Value} (h : Dg w B d H (.slice (some ⟨g, off, none⟩) k c) l n) (hk : 64 ≤ k) (hr : RowD w2 d H2 (.slice (some ⟨g, off, none⟩) k c) n)
    (h8 : H2.length = 8) (hl : ∀ x ∈ H2, x < 4294967296) (hu : Upd (fun k => k = d) w.drew w2) (hv : v = .slice (if c = 64 then some ⟨g, off, none⟩ else some (⟨g, off + 64, none⟩ : Addr)) (k - 64) (c - 64)) :
    Dg (w2.setCell ⟨d, 72, none⟩ v) B d H2 v (l.drop 64) n := by
  subst hv
  have h1 : OwnB w2 B 5 (.slice (some ⟨g, off, none⟩) k c) l := OwnB.upd (w := w) (S := fun k => k = d) h.ow ⟨hu.os, hu.tape, hu.output, hu.size, hu.block⟩ (fun k hk e => h.ne (by rw [← e, ← hk]))
  have h2 := h1.cut 64 hk
  rw [show (Option.map (fun x : Addr => x.add 64) (some ⟨g, off, none⟩)) = some ⟨g, off + 64, none⟩ by rw [Option.map_some, add_flat0]] at h2
  have hb : ∀ q, (Value.slice (if c = 64 then some ⟨g, off, none⟩ else some (⟨g, off + 64, none⟩ : Addr)) (k - 64) (c - 64)).ownBlock = some q → q = g := by
    intro q hq
    split at hq
    · simpa [Value.ownBlock] using hq.symm
    · simpa [Value.ownBlock] using hq.symm
  have hg : g ≠ d := fun e => h.ne (by rw [e]; rfl)
  refine ⟨hr.setRest h8 _, h8, hl, h2.upd ((Upd.refl (fun k => k = d) w2).setCell ⟨d, 72, none⟩ rfl _) (fun q hq e => hg (by rw [← hb q hq, e])), h.base, fun e => hg (hb d e).symm, h.num⟩
set_option maxHeartbeats 4000000 in
set_option maxRecDepth 20000 in
theorem add_any (w : World) (B d : Nat) (H : List Nat) (rv : Value) (l : List UInt8) (n : Nat) (A : Option Addr) (m c : Nat) (x : List UInt8) (h : Dg w B d H rv l n) (hx : Rd w w.heap.size 1 A m (bytv x)) (hlx : l.length + x.length ≤ 140737488355328) :
    Calls Try.prog 14 #[.pointer (some ⟨d, 0, none⟩), .slice A m c] w fun e w' => e = .returned (.tuple #[]) ∧
      (∃ rv', Dg w' B d (fed H (l ++ x)).1 rv' (fed H (l ++ x)).2 ((n + x.length) % 18446744073709551616)) ∧ Below B w w' := by
  obtain ⟨i0, hi0, hz0, hz1, hz2⟩ := info_parts u8_info
  have hmx : x.length = m := by have := hx.len; rw [bytv_length] at this; omega
  have hr := h.row.rest h.hH
  have hn := h.row.num h.hH
  have hf := h.row.free 72
  have hBw : B ≤ w.heap.size := Nat.le_trans h.base (Nat.le_of_lt h.row.lt)
  subst hmx
  have HX := Lib.hid hx
  clear hx
  obtain ⟨A0, c0, rfl⟩ := h.ow.shape
  go_enter Try.func14, Try.ntmps14
  go_wp2_with (at_builtin; refine wpList_bapp w rfl (.tmp 8) (.tmp 9) 29 rfl B 5 i0 Try.underlying29 hi0 hz0 hz1 hz2 _ l A x.length c w.heap.size x rfl (by exact h.ow) rfl (by exact HX.out) ?c1 ?c2 ?_)
  case c1 => exact hlx
  case c2 => exact hBw
  intro v1 w1 ho1 hu1 hra1
  have hrow1 := h.row.upd hu1 h.ne
  have hr1 := hrow1.rest h.hH
  have hn1 := hrow1.num h.hH
  have hf1 := hrow1.free 72
  have hg1 := hrow1.free 73
  have hne1 : v1.ownBlock ≠ some d := by
    rcases hra1 with e | ⟨k, hk, e⟩
    · rw [e]; exact h.ne
    · rw [e]
      intro e2
      injection e2 with e2
      have := h.row.lt
      omega
  obtain ⟨A1, c1, rfl⟩ := ho1.shape
  have hl1 : (l ++ x).length = l.length + x.length := List.length_append
  have HN1 := Lib.hid hne1
  have HO1 := Lib.hid ho1
  have HR1 := Lib.hid hrow1
  have HU1 := Lib.hid hu1
  clear hr hn hf hne1 ho1 hrow1 hu1 hra1
  go_wp2
  rw [hl1] at HO1 HN1
  have hD : Dg ((w1.setCell ⟨d, 72, none⟩ (.slice A1 (l.length + x.length) c1)).setCell ⟨d, 73, none⟩ (.int .u64 (IntKind.u64.wrap ((n : Int) + x.length)))) B d H (.slice A1 (l.length + x.length) c1) (l ++ x) ((n + x.length) % 18446744073709551616) := by
    have e : IntKind.u64.wrap ((n : Int) + x.length) = (((n + x.length) % 18446744073709551616 : Nat) : Int) := by rw [IntKind.wrap_u64]; omega
    rw [e]
    refine ⟨(HR1.out.setRest h.hH _).setNum h.hH _, h.hH, h.hl, ?_, h.base, ?_, Nat.mod_lt _ (by decide)⟩
    · exact HO1.out.upd (((Upd.refl (fun k => k = d) w1).setCell ⟨d, 72, none⟩ rfl _).setCell ⟨d, 73, none⟩ rfl _) (fun k hk e => HN1.out (by rw [← e, ← hk]))
    · exact HN1.out
  have hB : Below B w ((w1.setCell ⟨d, 72, none⟩ (.slice A1 (l.length + x.length) c1)).setCell ⟨d, 73, none⟩ (.int .u64 (IntKind.u64.wrap ((n : Int) + x.length)))) := by
    exact ((((HU1.out.mono (fun k _ e => (h.ow.lt k e).1)) : Upd (fun k => B ≤ k) w w1).setCell ⟨d, 72, none⟩ h.base _).setCell ⟨d, 73, none⟩ h.base _).below (fun k hk e => by omega) hBw
  clear hr1 hn1 hf1 hg1
  go_loopw [] (fun wx => ∃ H' rv' l', Dg wx B d H' rv' l' ((n + x.length) % 18446744073709551616) ∧ fed H' l' = fed H (l ++ x) ∧ Below B w wx) (fun wx => restLen wx d)
  case atStart => exact ⟨_, _, _, hD, rfl, hB⟩
  case round =>
    clear hD hB HO1 HR1 HU1 HN1
    obtain ⟨H', rv', l', hD, hfed, hB⟩ := hrel
    have HF := Lib.hid hfed
    have HB := Lib.hid hB
    clear hfed hB
    obtain ⟨n', hn'⟩ : ∃ n', n' = (n + x.length) % 18446744073709551616 := ⟨_, rfl⟩
    rw [← hn'] at hD
    have HNN := Lib.hid hn'
    clear hn'
    by_cases hlt : 64 ≤ l'.length
    · obtain ⟨g, off, c2, rfl, hc2⟩ : ∃ g off c2, rv' = .slice (some ⟨g, off, none⟩) l'.length c2 ∧ l'.length ≤ c2 := by
        rcases hD.ow with ⟨_, e⟩ | ⟨g, off, cap, cur, fz, e, _, _, _, h9, _⟩
        · rw [e] at hlt; exact absurd hlt (by decide)
        · exact ⟨g, off, cap, e, h9⟩
      have hr := hD.row.rest hD.hH
      have hf := hD.row.free 72
      have HD := Lib.hid hD
      clear hD
      have b1 : (64 : Int) ≤ (c2 : Int) := by omega
      have b2 : (64 : Int) ≤ (l'.length : Int) := by omega
      go_wp2
      go_still_tail 11, (by kernel_rfl)
      change wpList _ _ _ _ _ wr.drew
      go_wp2_with fail
      refine (block_any wr.drew d 54 g off c2 H' [.slice (some ⟨g, off, none⟩) l'.length c2, .int .u64 (n' : Int)] (l'.take 64) HD.out.hH HD.out.hl HD.out.row ?_).mono ?_
      · have h1 := (HD.out.ow.rd.2).take 64 hlt
        rw [Nat.mul_one] at h1
        have h2 : (bytv l').take 64 = bytv (l'.take 64) := by simp [bytv]
        rw [h2] at h1
        exact h1.drewN 1
      rintro e w2 ⟨rfl, hd2, hu2⟩
      have hrow2 : RowD w2 d (blk H' (l'.take 64)) (.slice (some ⟨g, off, none⟩) l'.length c2) n' := hd2
      have hH2 := blk_length H' (l'.take 64) HD.out.hH
      have hr2 := hrow2.rest hH2
      have hf2 := hrow2.free 72
      have HR2 := Lib.hid hrow2
      have HU2 := Lib.hid hu2
      clear hd2 hu2 hrow2 hr hf
      go_wp2
      · rw [← HNN.out]
        subst c2
        have hN := HD.out.next hlt HR2.out hH2 (blk_lt _ _) HU2.out (v := .slice (some ⟨g, off, none⟩) (l'.length - 64) 0) (by rw [if_pos rfl])
        refine ⟨⟨_, _, _, hN, by rw [← HF.out, fed_big hlt], ?_⟩, ?_⟩
        · exact below_step HB.out HU2.out HD.out.base HD.out.row.lt _
        · rw [hN.len, HD.out.len]; omega
      · rw [← HNN.out]
        have hN := HD.out.next hlt HR2.out hH2 (blk_lt _ _) HU2.out (v := .slice (some ⟨g, off + 64, none⟩) (l'.length - 64) (c2 - 64)) (by rw [if_neg (by assumption)])
        refine ⟨⟨_, _, _, hN, by rw [← HF.out, fed_big hlt], ?_⟩, ?_⟩
        · exact below_step HB.out HU2.out HD.out.base HD.out.row.lt _
        · rw [hN.len, HD.out.len]; omega
    · obtain ⟨A2, c2, rfl⟩ := hD.ow.shape
      have hr := hD.row.rest hD.hH
      have HD := Lib.hid hD
      clear hD
      go_wp2
      refine bodyPost_end (results_none rfl _ _ _) rfl ?_
      refine ⟨rfl, ⟨.slice A2 l'.length c2, ?_⟩, HB.out⟩
      rw [← HF.out, fed_small (by omega), ← HNN.out]
      exact HD.out
end Go.Proofs.Ytohgkcgeanofnaa
