/- Merging versions: the law MergeAsMem, walked. -/
import Derived.Test.YtcfgmkiohmbdlaaMgLives
import Derived.Test.YtcfgmkiohmbdlaaMgMemP
import Derived.Test.YtcfgmkiohmbdlaaMmAdd
import Derived.Test.YtcfgmkiohmbdlaaSame6
namespace Go.Proofs.Ytcfgmkiohmbdlaa
open Go.RowKit
theorem Rd.goM {w w' : World} {size n : Nat} {A : Option Addr} {xs : List Value} (h : Rd w w.heap.size size A n xs) (hb : Below w.heap.size w w') : Rd w' w'.heap.size size A n xs := (h.below hb).mono hb.size
theorem bel_goM {w0 w w' : World} (h : Below w0.heap.size w0 w) (hb : Below w.heap.size w w') : Below w0.heap.size w0 w' := h.trans (hb.mono h.size)
theorem entv_wipe (l : List Ent) (k : Nat) (hk : k < l.length) (r : List Value) : (entv l ++ r).set (k * 4 + 3) (.string ⟨#[]⟩) = entv (l.set k ⟨l[k].key, l[k].seq, l[k].dead, ⟨#[]⟩⟩) ++ r := by
  have hl : (entv (l.take k)).length = k * 4 := by rw [entv_length, List.length_take]; omega
  rw [entv_split l k hk, entv_split (l.set k _) k (by simpa using hk)]
  simp only [List.getElem_set_self, List.take_set_of_le (Nat.le_refl k), List.drop_set_of_lt (Nat.lt_succ_self k)]
  rw [← hl]
  simp [Ent.cells]
theorem ERow.wipe {w0 W : World} {g : Nat} {l : List Ent} (h : ERow w0 W g l) (k : Nat) (hk : k < l.length) : ERow w0 (W.setCell ⟨g, k * 4 + 3, none⟩ (.string ⟨#[]⟩)) g (l.set k ⟨l[k].key, l[k].seq, l[k].dead, ⟨#[]⟩⟩) := by
  obtain ⟨cur, hrow, r, hr⟩ := h.row
  have r1 := heap_setCell_same W g (k * 4 + 3) _ _ (.string ⟨#[]⟩) hrow
  refine ⟨h.lt, h.up.setCell ⟨g, k * 4 + 3, none⟩ rfl _, ⟨_, r1, r, ?_⟩, erow_sz h.sz hrow r1 (by simp)⟩
  simp only [Array.toList_setIfInBounds, ← hr]
  exact (entv_wipe l k hk r).symm
/-- The table in block t holds the versions S, the first of them taken in last. -/
def MState (B t : Nat) (hv : Value) (wB wx : World) (S : List Ent) (cnt : Nat) : Prop :=
  ∃ ns turn, Skip wx B t ns ns.length (sizE (ents ns)) hv (highs [2, 0, 1]) turn ∧ ents ns = S.reverse.foldl insE [] ∧ 0 ≤ turn ∧ turn ≤ cnt ∧ ns.length ≤ cnt ∧ sizE (ents ns) ≤ sizE S ∧ Below B wB wx
theorem MState.below {B t : Nat} {hv : Value} {wB w w' : World} {S : List Ent} {cnt : Nat} (h : MState B t hv wB w S cnt) (hb : Below w.heap.size w w') (hB : B ≤ w.heap.size) : MState B t hv wB w' S cnt := by
  obtain ⟨ns, turn, h1, h2, h3, h4, h5, h6, h7⟩ := h
  exact ⟨ns, turn, h1.below hb, h2, h3, h4, h5, h6, h7.trans (hb.mono hB)⟩
theorem madd_one {B t : Nat} {hv : Value} {wB w : World} {S : List Ent} {cnt : Nat} (h : MState B t hv wB w S cnt) (hB : B ≤ w.heap.size) (hc : cnt ≤ 4194304) (x1 : ByteArray) (x2 : Int) (x3 : Bool) (x4 : ByteArray) (hz : sizE (⟨x1, x2, x3, x4⟩ :: S) ≤ 1099511627776) :
    Calls Try.prog 21 #[.pointer (some ⟨t, 0, none⟩), .slice (some ⟨w.heap.size, 0, none⟩) 1 1] (w.alloc (.cells #[.string x1, .int .i64 x2, .bool x3, .string x4] 26)) fun e w' => e = .returned (.tuple #[]) ∧ MState B t hv wB w' (⟨x1, x2, x3, x4⟩ :: S) (cnt + 1) ∧ B ≤ w'.heap.size := by
  obtain ⟨ns, turn, h1, h2, h3, h4, h5, h6, h7⟩ := h
  have hb : Below w.heap.size w (w.alloc (.cells #[.string x1, .int .i64 x2, .bool x3, .string x4] 26)) := (Below.refl _ _).alloc (Nat.le_refl _) _
  have hr : Rd (w.alloc (.cells #[.string x1, .int .i64 x2, .bool x3, .string x4] 26)) (w.alloc (.cells #[.string x1, .int .i64 x2, .bool x3, .string x4] 26)).heap.size 4 (some ⟨w.heap.size, 0, none⟩) 1 (entv [⟨x1, x2, x3, x4⟩]) := by
    have := Rd.new (w := w) (size := 4) (n := 1) #[.string x1, .int .i64 x2, .bool x3, .string x4] 26 rfl
    simpa [entv, Ent.cells] using this
  have hsk := h1.below hb
  rw [sizE_cons] at hz
  simp only at hz
  have hs1 : sizE [⟨x1, x2, x3, x4⟩] = x1.size + x4.size := by rw [sizE_cons]; rfl
  refine (add_any _ hsk _ 1 1 [⟨x1, x2, x3, x4⟩] hr (fun _ ad e hf => ?_) h3 (by omega) (by rw [highs_len]; decide) (by omega) (by omega)).mono ?_
  · injection e with e
    subst e
    have := foot_base h1 _ hf
    exact absurd this.2 (Nat.lt_irrefl _)
  · rintro e w' ⟨ns', turn', rfl, had⟩
    have hlen := had.len
    have hbB : Below B w w' := (hb.mono hB).trans (had.upd.below (fun k hk hf => by have := (foot_base hsk k hf).1; omega) (Nat.le_trans hB hb.size))
    refine ⟨rfl, ⟨ns', turn', had.skip, ?_, Int.le_trans h3 had.turn0, ?_, ?_, ?_, h7.trans hbB⟩, Nat.le_trans hB hbB.size⟩
    · rw [had.list, h2, List.reverse_cons, List.foldl_append]
    · have := had.turn1; simp at this; omega
    · simp at hlen; omega
    · have := had.size; rw [sizE_cons]; simp only; omega
theorem clean_set {M : List Ent} {k : Nat} (hk : k < M.length) {x : Ent} (hx : M[k] = x) : (M.take (k + 1)).map clean ++ M.drop (k + 1) = ((M.take k).map clean ++ M.drop k).set k (clean x) := by
  have hl : ((M.take k).map clean).length = k := by rw [List.length_map, List.length_take]; omega
  rw [List.take_succ_eq_append_getElem hk, hx, List.map_append, List.drop_eq_getElem_cons hk, List.set_append_right _ _ (by omega), hl, Nat.sub_self, List.set_cons_zero]
  simp
theorem clean_at {M : List Ent} {k : Nat} (hk : k < M.length) : ((M.take k).map clean ++ M.drop k)[k]? = some M[k] := by
  have hl : ((M.take k).map clean).length = k := by rw [List.length_map, List.length_take]; omega
  rw [List.getElem?_append_right (by omega), hl, Nat.sub_self, List.drop_eq_getElem_cons hk]
  rfl
set_option maxHeartbeats 8000000 in
set_option maxRecDepth 20000 in
theorem masmem_any (w : World) (A0 : Option Addr) (n0 c0 : Nat) (a : List Ent) (A1 : Option Addr) (n1 c1 : Nat) (b : List Ent) (hr0 : Rd w w.heap.size 4 A0 n0 (entv a)) (hr1 : Rd w w.heap.size 4 A1 n1 (entv b)) (hn0 : n0 ≤ 1048576) (hn1 : n1 ≤ 1048576) (hza : sizE a ≤ 2097152) (hzb : sizE b ≤ 2097152) :
    Calls Try.prog 6 #[.slice A0 n0 c0, .slice A1 n1 c1] w fun e w' => e = .returned (.bool true) ∧ Below w.heap.size w w' := by
  have HLA := Lib.hid (rd_entlen hr0)
  have HLB := Lib.hid (rd_entlen hr1)
  have HZ : Hid (sizE (a ++ b) ≤ 4194304) := Lib.hid (by rw [sizE_append]; omega)
  have HZB := Lib.hid hzb
  have R0 := Lib.hid hr0
  have R1 := Lib.hid hr1
  have HL := Lib.hid (mlives_any w)
  clear hr0 hr1 hza hzb
  go_enter Try.func6, Try.ntmps6
  go_wp2_with fail
  refine HL.out.mono ?_
  rintro e w1 ⟨rfl, hb⟩
  have HB1 := Lib.hid hb
  replace R0 := Lib.hid (R0.out.goM hb)
  replace R1 := Lib.hid (R1.out.goM hb)
  have hrh : Rd (w1.alloc (.cells #[.int .i64 2, .int .i64 0, .int .i64 1] 3)) (w1.alloc (.cells #[.int .i64 2, .int .i64 0, .int .i64 1] 3)).heap.size 1 (some ⟨w1.heap.size, 0, none⟩) 3 ([2, 0, 1].map (Value.int .i64)) := by
    have := Rd.new (w := w1) (size := 1) (n := 3) #[.int .i64 2, .int .i64 0, .int .i64 1] 3 rfl
    simpa using this
  have HNW := Lib.hid (new_any _ _ 3 3 [2, 0, 1] hrh (by omega))
  clear hb hrh HL
  go_wp2_with fail
  refine HNW.out.mono ?_
  rintro e w3 ⟨t, hv, rfl, hsk, hb3⟩
  obtain ⟨B, hB⟩ : ∃ B, (w1.alloc (.cells #[.int .i64 2, .int .i64 0, .int .i64 1] 3)).heap.size = B := ⟨_, rfl⟩
  have hBw : w1.heap.size ≤ B := by rw [← hB]; simp
  have hb13 : Below w1.heap.size w1 w3 := ((Below.refl w1.heap.size w1).alloc (Nat.le_refl _) _).trans (hb3.mono (by simp))
  have hB3 : B ≤ w3.heap.size := by rw [← hB]; exact hb3.size
  rw [hB] at hsk
  have HM0 : Hid (MState B t hv w3 w3 [] 0) := Lib.hid ⟨[], 0, hsk, rfl, by omega, by omega, by simp, by simp [ents, sizE], Below.refl _ _⟩
  replace R0 := Lib.hid (R0.out.below hb13)
  replace R1 := Lib.hid (R1.out.below hb13)
  have HB3 := Lib.hid (bel_goM HB1.out hb13)
  have hw01 := HB1.out.size
  clear hsk hb3 hb13 hB HNW HB1
  go_wp2
  go_loopw [6] (fun iv wx => ∃ p : Nat, p ≤ n1 ∧ (∃ z : Int, z = (p : Int) - 1 ∧ iv = .int .i64 z) ∧ Hid (MState B t hv w3 wx (b.drop p) (n1 - p)) ∧ B ≤ wx.heap.size) (fun iv _ => (intOf iv + 1).toNat)
  case atStart => exact ⟨n1, Nat.le_refl _, ⟨_, rfl, by go_num⟩, Lib.hid (by rw [List.drop_eq_nil_of_le (by rw [← HLB.out]; exact Nat.le_refl _), Nat.sub_self]; exact HM0.out), hB3⟩
  case round =>
    clear HM0
    obtain ⟨p, hp, ⟨z, hz, rfl⟩, HM, hBr⟩ := hrel
    cases p with
    | succ i =>
      obtain rfl : z = (i : Int) := by omega
      clear hz
      have hbw : Below w1.heap.size w3 wr := by obtain ⟨_, _, _, _, _, _, _, _, h⟩ := HM.out; exact h.mono hBw
      obtain ⟨bb, off, rfl, hbb, hs, e0, e1, e2, e3⟩ := (R1.out.below hbw).ent (k := i) (by omega)
      have hdr := List.drop_eq_getElem_cons hs
      have hsz := sizE_drop hs
      have hsl : sizE (b.drop i) ≤ sizE b := by
        have h1 := sizE_append (b.take i) (b.drop i)
        rw [List.take_append_drop] at h1
        omega
      obtain ⟨x, hx⟩ : ∃ x, b[i] = x := ⟨_, rfl⟩
      rw [hx] at e0 e1 e2 e3 hdr
      obtain ⟨x1, x2, x3, x4⟩ := x
      simp only at e0 e1 e2 e3
      have hzz := HZB.out
      have HAD := Lib.hid (madd_one HM.out hBr (by omega) x1 x2 x3 x4 (by rw [← hdr]; omega))
      rw [← hdr] at HAD
      have i1 : (0 : Int) ≤ (i : Int) := by omega
      have i2 : (i : Int) < (n1 : Int) := by omega
      have i5 : IntKind.i64.wrap ((i : Int) - 1) = (i : Int) - 1 := IntWalk.i64_in _ (by omega)
      clear hx hdr hsz hsl hzz hbw HM
      go_wp2_with fail
      refine HAD.out.mono ?_
      rintro e w4 ⟨rfl, hm4, hB4⟩
      have HM4 : Hid (MState B t hv w3 w4 (b.drop i) (n1 - i)) := Lib.hid (by rw [show n1 - i = n1 - (i + 1) + 1 by omega]; exact hm4)
      clear hm4 HAD
      go_wp2
      go_roundw
      case rel => exact ⟨i, by omega, ⟨_, rfl, by go_num⟩, HM4, hB4⟩
      case measure => simp [intOf]
    | zero =>
      obtain rfl : z = -1 := by omega
      clear hz
      have HM0 : Hid (MState B t hv w3 wr (a.drop n0 ++ b) (n1 + n0 - n0)) := Lib.hid (by
        rw [List.drop_eq_nil_of_le (by rw [← HLA.out]; exact Nat.le_refl _), Nat.add_sub_cancel]; exact HM.out)
      clear HM
      go_wp2
      go_loopw [7] (fun iv wx => ∃ p : Nat, p ≤ n0 ∧ (∃ z : Int, z = (p : Int) - 1 ∧ iv = .int .i64 z) ∧ Hid (MState B t hv w3 wx (a.drop p ++ b) (n1 + n0 - p)) ∧ B ≤ wx.heap.size) (fun iv _ => (intOf iv + 1).toNat)
      case atStart => exact ⟨n0, Nat.le_refl _, ⟨_, rfl, by go_num⟩, HM0, hBr⟩
      case round =>
        clear HM0 hBr
        obtain ⟨p, hp, ⟨z, hz, rfl⟩, HM, hBr⟩ := hrel
        cases p with
        | succ i =>
          obtain rfl : z = (i : Int) := by omega
          clear hz
          have hbw : Below w1.heap.size w3 wr := by obtain ⟨_, _, _, _, _, _, _, _, h⟩ := HM.out; exact h.mono hBw
          obtain ⟨bb, off, rfl, hbb, hs, e0, e1, e2, e3⟩ := (R0.out.below hbw).ent (k := i) (by omega)
          have hdr := List.drop_eq_getElem_cons hs
          have hsl : sizE (a.drop i ++ b) ≤ sizE (a ++ b) := by
            have h1 := sizE_append (a.take i) (a.drop i)
            rw [List.take_append_drop] at h1
            rw [sizE_append, sizE_append]
            omega
          obtain ⟨x, hx⟩ : ∃ x, a[i] = x := ⟨_, rfl⟩
          rw [hx] at e0 e1 e2 e3 hdr
          obtain ⟨x1, x2, x3, x4⟩ := x
          simp only at e0 e1 e2 e3
          have hzz := HZ.out
          have HAD := Lib.hid (madd_one HM.out hBr (by omega) x1 x2 x3 x4 (by rw [← List.cons_append, ← hdr]; omega))
          rw [← List.cons_append, ← hdr] at HAD
          have i1 : (0 : Int) ≤ (i : Int) := by omega
          have i2 : (i : Int) < (n0 : Int) := by omega
          have i5 : IntKind.i64.wrap ((i : Int) - 1) = (i : Int) - 1 := IntWalk.i64_in _ (by omega)
          clear hx hdr hsl hzz hbw HM
          go_wp2_with fail
          refine HAD.out.mono ?_
          rintro e w4 ⟨rfl, hm4, hB4⟩
          have HM4 : Hid (MState B t hv w3 w4 (a.drop i ++ b) (n1 + n0 - i)) := Lib.hid (by rw [show n1 + n0 - i = n1 + n0 - (i + 1) + 1 by omega]; exact hm4)
          clear hm4 HAD
          go_wp2
          go_roundw
          case rel => exact ⟨i, by omega, ⟨_, rfl, by go_num⟩, HM4, hB4⟩
          case measure => simp [intOf]
        | zero =>
          obtain rfl : z = -1 := by omega
          clear hz
          obtain ⟨wm, rfl⟩ : ∃ wm, wm = wr := ⟨_, rfl⟩
          have hbw : Below w1.heap.size w3 wm := by obtain ⟨_, _, _, _, _, _, _, _, h⟩ := HM.out; exact h.mono hBw
          have hq0 := ((R0.out.below hbw).mono (Nat.le_trans hBw hBr))
          have hq1 := ((R1.out.below hbw).mono (Nat.le_trans hBw hBr))
          have HBr := Lib.hid (HB3.out.trans (hbw.mono hw01))
          have hls := ls_two (c1 := c0) (c2 := c1) hq0 hq1
          have hfl : [a, b].flatten = a ++ b := by simp
          have hlen : (a ++ b).length ≤ 2097152 := by rw [List.length_append, ← HLA.out, ← HLB.out]; omega
          have hme := merge_any _ _ 2 2 _ _ hls (by decide) (by rw [hfl]; omega)
          have hml := mergeL_len (a ++ b)
          have hmm := mem_merge (a ++ b)
          rw [hfl] at hme
          obtain ⟨M, hM⟩ : ∃ M, mergeL (a ++ b) = M := ⟨_, rfl⟩
          rw [hM] at hme hml hmm
          simp only [World.size_alloc] at hme
          have HME := Lib.hid hme
          have HMM := Lib.hid hmm
          have HM2 : Hid (MState B t hv w3 wm (a ++ b) (n1 + n0)) := Lib.hid (by simpa using HM.out)
          have hMl : M.length ≤ 2097152 := by omega
          clear hq0 hq1 hls hfl hlen hme hml hmm hM HM hbw R0 R1 HB3
          go_wp2_with fail
          refine HME.out.mono ?_
          rintro e w5 ⟨v5, rfl, ho5, hb5⟩
          obtain ⟨A5, c5, rfl⟩ := own_shape ho5
          have hb5' : Below wm.heap.size wm w5 := ((Below.refl _ _).alloc (Nat.le_refl _) _).trans (hb5.mono (by simp))
          have HM5 := Lib.hid hb5'
          have HBM := Lib.hid HBr.out.size
          have HBW5 := Lib.hid (HBr.out.trans (hb5'.mono HBr.out.size))
          have hr5 := hb5'.size
          obtain ⟨N, hN⟩ : ∃ N, M.length = N := ⟨_, rfl⟩
          rw [hN] at ho5 hMl
          rw [hN]
          have HN := Lib.hid hN
          have HO5 := Lib.hid ho5
          have HG5 : Hid (∀ k, (Value.slice A5 N c5).ownBlock = some k → wm.heap.size + 1 ≤ k) := Lib.hid fun k e => (ho5.lt k e).1
          have HE5 : Hid (N = 0 ∨ ∃ g, A5 = some ⟨g, 0, none⟩ ∧ ERow w5 w5 g ((M.take 0).map clean ++ M.drop 0)) := Lib.hid (by
            rcases Nat.eq_zero_or_pos N with h | h
            · exact .inl h
            · obtain ⟨g, cap, e, _⟩ := own_form ho5 h
              injection e with e e2 e3
              subst e
              exact .inr ⟨g, rfl, by simpa using ERow.of_own ho5⟩)
          clear ho5 hb5 hb5' hN HME HBr
          go_wp2
          go_loopw [48] (fun iv wx => ∃ k : Nat, k ≤ N ∧ iv = .int .i64 k ∧ Hid (N = 0 ∨ ∃ g, A5 = some ⟨g, 0, none⟩ ∧ ERow w5 wx g ((M.take k).map clean ++ M.drop k)) ∧ Hid (Upd (fun b => (Value.slice A5 N c5).ownBlock = some b) w5 wx)) (fun iv _ => N - (intOf iv).toNat)
          case atStart => exact ⟨0, Nat.zero_le _, rfl, HE5, Lib.hid (Upd.refl _ _)⟩
          case round =>
            clear HE5
            obtain ⟨k, hk, rfl, HE, HU⟩ := hrel
            by_cases hlt : k < N
            · obtain ⟨g, rfl, hE⟩ : ∃ g, A5 = some ⟨g, 0, none⟩ ∧ ERow w5 wr g ((M.take k).map clean ++ M.drop k) := by
                rcases HE.out with h | h
                · omega
                · exact h
              have hkM : k < M.length := by rw [HN.out]; exact hlt
              have hat := clean_at hkM
              obtain ⟨x, hx⟩ : ∃ x, M[k] = x := ⟨_, rfl⟩
              rw [hx] at hat
              obtain ⟨e0, e1, e2, e3⟩ := hE.look hat
              have hfz := hE.free (k * 4 + 3)
              have hcs := clean_set hkM hx
              have hkl : k < ((M.take k).map clean ++ M.drop k).length := (List.getElem?_eq_some_iff.1 hat).1
              have hwp := hE.wipe k hkl
              have hgk : ((M.take k).map clean ++ M.drop k)[k] = x := (List.getElem?_eq_some_iff.1 hat).2
              rw [hgk] at hwp
              have i1 : (0 : Int) ≤ (k : Int) := by omega
              have i2 : (k : Int) < (N : Int) := by omega
              obtain ⟨x1, x2, x3, x4⟩ := x
              simp only at e0 e1 e2 e3
              cases x3 with
              | false =>
                have hcl : ((M.take (k + 1)).map clean ++ M.drop (k + 1)) = (M.take k).map clean ++ M.drop k := by
                  rw [hcs]
                  refine List.ext_getElem? fun i => ?_
                  rw [List.getElem?_set]
                  split
                  · rename_i h
                    subst h
                    rw [hat]
                    rfl
                  · rfl
                have HE2 : Hid (N = 0 ∨ ∃ g', some (⟨g, 0, none⟩ : Addr) = some ⟨g', 0, none⟩ ∧ ERow w5 wr g' ((M.take (k + 1)).map clean ++ M.drop (k + 1))) := Lib.hid (.inr ⟨g, rfl, by rw [hcl]; exact hE⟩)
                clear hat hx hE hcs hkl hwp hgk hcl HE hkM
                go_wp2
                go_roundw
                case rel => exact ⟨k + 1, by omega, by go_num, HE2, HU⟩
                case measure => simp [intOf]; omega
              | true =>
                have HE2 : Hid (N = 0 ∨ ∃ g', some (⟨g, 0, none⟩ : Addr) = some ⟨g', 0, none⟩ ∧ ERow w5 (wr.setCell ⟨g, k * 4 + 3, none⟩ (.string ⟨#[]⟩)) g' ((M.take (k + 1)).map clean ++ M.drop (k + 1))) := Lib.hid (.inr ⟨g, rfl, by rw [hcs]; exact hwp⟩)
                have HU2 : Hid (Upd (fun b => (Value.slice (some ⟨g, 0, none⟩) N c5).ownBlock = some b) w5 (wr.setCell ⟨g, k * 4 + 3, none⟩ (.string ⟨#[]⟩))) := Lib.hid (HU.out.setCell ⟨g, k * 4 + 3, none⟩ rfl _)
                clear hat hx hE hcs hkl hwp hgk HE hkM HU
                go_wp2
                go_roundw
                case rel => exact ⟨k + 1, by omega, by go_num, HE2, HU2⟩
                case measure => simp [intOf]; omega
            · have hz : ¬ (k : Int) < (N : Int) := by omega
              have hkN : k = N := by omega
              have hRL : Rd wr wr.heap.size 4 A5 N (entv (M.map clean)) := by
                rcases HE.out with h | ⟨g, rfl, hE⟩
                · subst h
                  rw [List.eq_nil_of_length_eq_zero HN.out]
                  exact Rd.nil
                · rw [hkN, List.take_of_length_le (by rw [HN.out]; exact Nat.le_refl _), List.drop_eq_nil_of_le (by rw [HN.out]; exact Nat.le_refl _), List.append_nil] at hE
                  exact Rd.own (hE.own (by have := HO5.out; exact this) (by rw [List.length_map, HN.out]) (by
                    rcases Nat.eq_zero_or_pos N with h0 | h0
                    · omega
                    · obtain ⟨g', cap, e, _, _, h9, _⟩ := own_form HO5.out h0
                      injection e with _ _ e3
                      omega))
              have HRL := Lib.hid hRL
              have hbx : Below wm.heap.size wm wr := HM5.out.trans (HU.out.below (fun k hk e => by have := HG5.out k e; omega) hr5)
              have HBX := Lib.hid (HBW5.out.trans (HU.out.below (fun k hk e => by have := HG5.out k e; have := HBM.out; omega) HBW5.out.size))
              obtain ⟨ns, turn, h1, h2, h3, h4, h5, h6, h7⟩ := HM2.out.below hbx hBr
              have hall := all_any wr h1 (by omega)
              have hmap : ns.map (·.x) = M.map clean := by
                rw [← HMM.out, ← h2]; rfl
              have hlen : ns.length = N := by
                have := congrArg List.length hmap
                rw [List.length_map, List.length_map] at this
                rw [this, HN.out]
              rw [hmap, hlen] at hall
              have HALL := Lib.hid hall
              clear hall hmap hlen h1 h2 h3 h4 h5 h6 h7 hbx hRL HM2 HM5 HU HE HO5 HG5 HBW5
              go_wp2_with fail
              refine HALL.out.mono ?_
              rintro e w6 ⟨v6, rfl, ho6, hb6⟩
              obtain ⟨A6, c6, rfl⟩ := own_shape ho6
              have HR6 := Lib.hid (Rd.own ho6)
              have HRL6 := Lib.hid (HRL.out.goM hb6)
              have HB6 := Lib.hid (bel_goM HBX.out hb6)
              clear ho6 hb6 HALL HRL HBX
              go_wp2_with fail
              refine (same6_yes A5 A6 N c5 c6 _ (M.map clean) w6 (by unfold maxLen; omega) HRL6.out HR6.out).mono ?_
              rintro e w7 ⟨rfl, m7, hw7⟩
              have HB7 : Hid (Below w.heap.size w w7) := Lib.hid (by rw [hw7]; exact ⟨HB6.out.os, HB6.out.tape, HB6.out.output, HB6.out.size, HB6.out.block⟩)
              clear hw7
              go_wp2
              go_ret
              exact ⟨rfl, HB7.out⟩
end Go.Proofs.Ytcfgmkiohmbdlaa
