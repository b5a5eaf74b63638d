/- Merging versions: slices.Concat, walked. -/
import Derived.Test.YtcfgmkiohmbdlaaERow
import Derived.Lib.AppendZerosOnto
import Derived.Lib.Walk
namespace Go.Proofs.Ytcfgmkiohmbdlaa
open Go.RowKit
theorem ent_info2 : (Try.prog.info? 26).map (fun i => (i.zero, i.size, i.bytes)) = some (some (.agg #[.string ⟨#[]⟩, .int .i64 0, .bool false, .string ⟨#[]⟩]), 4, 48) := by kernel_rfl
set_option maxHeartbeats 2000000 in
set_option maxRecDepth 20000 in
theorem grow_any (w : World) (n : Nat) (hn : n ≤ 1073741824) :
    Calls Try.prog 85 #[.slice none 0 0, .int .i64 n] w fun e w' => ∃ v, e = .returned v ∧ w'.ownsRow w.heap.size 26 4 v 0 [] ∧ Below w.heap.size w w' := by
  obtain ⟨i0, hi0, hz0, hz1, hz2⟩ := info_parts ent_info2
  by_cases h0 : n = 0
  · subst h0
    go_enter Try.func85, Try.ntmps85
    go_wp2
    go_ret
    exact ⟨_, rfl, World.ownsRow_nil _ _ _ _, Below.refl _ _⟩
  · have hrz : ∀ ty, (Builtin.append_ #[22, 3] ty #[.slice none 0 0, .int .i64 (n : Int)]).run Try.prog w =
        .ok (.slice (some ⟨w.heap.size, 0, none⟩) n (grownCap w n 0 26)) (w.drew.alloc (.cells (#[] ++ Builtin.zeroCells (Value.agg #[.string ⟨#[]⟩, .int .i64 0, .bool false, .string ⟨#[]⟩]).cells n ++ Builtin.zeroCells (Value.agg #[.string ⟨#[]⟩, .int .i64 0, .bool false, .string ⟨#[]⟩]).cells (grownCap w n 0 26 - n)) 26)) := fun ty => by
      have h := Lib.run_append_grow_zeros w 22 3 ty 26 i0 _ .i64 .i64 Try.underlying22 Try.underlying3 hi0 hz0 none 0 0 [] (by rw [hz1]; exact run_firstCells_none w.drew 4 0 0 0) n (by omega) (by rw [hz1]; omega) (by omega) (by omega)
        (by rw [hz2]; omega) (by rw [hz2]; simp only [Nat.zero_add]; exact growslice_fits (by omega) (by omega))
      simpa only [Nat.zero_add] using h
    have hG := grownCap_le_maxLen w n 0 26 (by unfold maxLen; omega)
    have hGn : n ≤ grownCap w n 0 26 := grownCap_ge w _ _ _
    obtain ⟨G, hGG⟩ : ∃ G, grownCap w n 0 26 = G := ⟨_, rfl⟩
    rw [hGG] at hrz hG hGn
    obtain ⟨O, hO⟩ : ∃ O : Array Value, (#[] ++ Builtin.zeroCells (Value.agg #[.string ⟨#[]⟩, .int .i64 0, .bool false, .string ⟨#[]⟩]).cells n ++ Builtin.zeroCells (Value.agg #[.string ⟨#[]⟩, .int .i64 0, .bool false, .string ⟨#[]⟩]).cells (G - n)) = O := ⟨_, rfl⟩
    rw [hO] at hrz
    have hOs : O.size = G * 4 := by
      rw [← hO]
      simp [Array.size_append, size_zeroCells, Value.cells]
      omega
    have hown : (w.drew.alloc (.cells O 26)).ownsRow w.heap.size 26 4 (.slice (some ⟨w.heap.size, 0, none⟩) 0 G) 0 [] :=
      ⟨by simp, .inr ⟨_, G, O, rfl, Nat.le_refl _, heap_alloc_new w.drew _, Nat.zero_le _, hG, by simp [hOs], by simp⟩⟩
    have HOWN := Lib.hid hown
    have hn1 : (0 : Int) < (n : Int) := by omega
    have hg1 : (0 : Int) ≤ (G : Int) := by omega
    have hm : G ≤ 9223372036854775807 := by unfold maxLen at hG; exact hG
    clear hown hO hOs hG hGG h0
    go_enter Try.func85, Try.ntmps85
    go_wp2_with (at_builtin; refine Lib.wpList_append_run _ rfl _ _ _ _ rfl _ _ rfl rfl _ _ (hrz _) ?_)
    go_ret
    exact ⟨_, rfl, HOWN.out, rfl, rfl, rfl, by simp, fun k hk => Below.heap_alloc w.drew _ k hk⟩
/-- A slice value that reads as these versions, below block B. -/
def LsAt (w : World) (B : Nat) (v : Value) (l : List Ent) : Prop := ∃ A n c, v = .slice A n c ∧ Rd w B 4 A n (entv l)
theorem LsAt.below {w w' : World} {B : Nat} {v : Value} {l : List Ent} (h : LsAt w B v l) (hb : Below B w w') : LsAt w' B v l := by
  obtain ⟨A, n, c, rfl, hr⟩ := h
  exact ⟨A, n, c, rfl, hr.below hb⟩
/-- A slice of such slices. -/
structure LsRd (w : World) (B : Nat) (A : Option Addr) (n : Nat) (vs : List Value) (Ls : List (List Ent)) : Prop where
  rd : Rd w B 1 A n vs
  len : vs.length = Ls.length
  each : ∀ i (h : i < vs.length) (h' : i < Ls.length), LsAt w B vs[i] Ls[i]
theorem LsRd.below {w w' : World} {B n : Nat} {A : Option Addr} {vs : List Value} {Ls : List (List Ent)} (h : LsRd w B A n vs Ls) (hb : Below B w w') : LsRd w' B A n vs Ls :=
  ⟨h.rd.below hb, h.len, fun i h1 h2 => (h.each i h1 h2).below hb⟩
theorem flat_take (Ls : List (List Ent)) (k : Nat) (h : k < Ls.length) : (Ls.take (k + 1)).flatten = (Ls.take k).flatten ++ Ls[k] := by
  rw [List.take_succ_eq_append_getElem h]; simp only [List.flatten_append, List.flatten_cons, List.flatten_nil, List.append_nil]
theorem flat_take_le (Ls : List (List Ent)) (k : Nat) : (Ls.take k).flatten.length ≤ Ls.flatten.length := by
  conv => rhs; rw [← List.take_append_drop k Ls, List.flatten_append, List.length_append]
  omega
set_option maxHeartbeats 4000000 in
set_option maxRecDepth 20000 in
theorem concat_any (w : World) (A : Option Addr) (n c : Nat) (vs : List Value) (Ls : List (List Ent)) (hr : LsRd w w.heap.size A n vs Ls) (hn : n ≤ 1048576) (ht : Ls.flatten.length ≤ 1073741824) :
    Calls Try.prog 46 #[.slice A n c] w fun e w' => ∃ v, e = .returned v ∧ w'.ownsRow w.heap.size 26 4 v Ls.flatten.length (entv Ls.flatten) ∧ Below w.heap.size w w' := by
  obtain ⟨i0, hi0, hz0, hz1, hz2⟩ := info_parts ent_info2
  have HR := Lib.hid hr
  have HVN := Lib.hid (show vs.length = n by have := hr.rd.len; omega)
  have HLN := Lib.hid (show Ls.length = n by have := hr.rd.len; have := hr.len; omega)
  have HT := Lib.hid ht
  clear hr ht
  go_enter Try.func46, Try.ntmps46
  go_wp2
  go_loop [3, 11] (fun sv iv => ∃ k : Nat, k ≤ n ∧ iv = .int .i64 k ∧ ∃ s : Nat, sv = .int .i64 s ∧ Hid (s = (Ls.take k).flatten.length)) (fun _ iv => n - (intOf iv).toNat)
  case atStart => exact ⟨0, Nat.zero_le _, rfl, 0, rfl, Lib.hid (by simp)⟩
  case round =>
    obtain ⟨k, hk, rfl, s, rfl, HS⟩ := hrel
    by_cases hlt : k < n
    · have hkv : k < vs.length := by rw [HVN.out]; exact hlt
      have hkl : k < Ls.length := by rw [HLN.out]; exact hlt
      obtain ⟨ad, u, rfl, hb, hu, hc⟩ := HR.out.rd.get hlt
      obtain ⟨A', n', c', hv, hrd⟩ := HR.out.each k hkv hkl
      rw [List.getElem?_eq_getElem hkv] at hu
      obtain rfl : vs[k] = u := by simpa using hu
      rw [hv] at hc
      have hfl := congrArg List.length (flat_take Ls k hkl)
      rw [List.length_append, ← rd_entlen hrd, ← HS.out] at hfl
      have hle := flat_take_le Ls (k + 1)
      have htt := HT.out
      have hs2 : s + n' ≤ 1073741824 := by omega
      have HS2 := Lib.hid hfl
      clear hu hv hrd hfl hle htt
      go_wp2
      exact ⟨⟨k + 1, by omega, by go_num, s + n', by go_num, Lib.hid HS2.out.symm⟩, by simp [intOf]; omega⟩
    · obtain rfl : k = n := by omega
      have hsn : s ≤ 1073741824 := by
        have h1 := HS.out
        have h2 := HT.out
        rw [List.take_of_length_le (by rw [HLN.out]; exact Nat.le_refl _)] at h1
        omega
      clear HS
      go_wp2_with fail
      refine (grow_any w s hsn).mono ?_
      rintro e w2 ⟨v, rfl, ho, hb⟩
      have HO := Lib.hid ho
      have HB := Lib.hid hb
      clear ho hb
      go_wp2
      go_loopw [6, 27] (fun v iv wx => ∃ q : Nat, q ≤ k ∧ iv = .int .i64 q ∧ Hid (wx.ownsRow w.heap.size 26 4 v (Ls.take q).flatten.length (entv (Ls.take q).flatten)) ∧ Hid (Below w.heap.size w wx)) (fun _ iv _ => k - (intOf iv).toNat)
      case atStart => exact ⟨0, Nat.zero_le _, rfl, Lib.hid (by simpa [entv] using HO.out), HB⟩
      case round =>
        clear HO HB
        obtain ⟨q, hq, rfl, HO, HB⟩ := hrel
        by_cases hlt2 : q < k
        · have hkv : q < vs.length := by rw [HVN.out]; exact hlt2
          have hkl : q < Ls.length := by rw [HLN.out]; exact hlt2
          have hRB := HR.out.below HB.out
          obtain ⟨ad, u, rfl, hb, hu, hc⟩ := hRB.rd.get hlt2
          obtain ⟨A', n', c', hv, hrd⟩ := hRB.each q hkv hkl
          rw [List.getElem?_eq_getElem hkv] at hu
          obtain rfl : vs[q] = u := by simpa using hu
          rw [hv] at hc
          have hfl := congrArg List.length (flat_take Ls q hkl)
          have hle := flat_take_le Ls (q + 1)
          have hFT := Lib.hid (flat_take Ls q hkl)
          have hnl := rd_entlen hrd
          rw [List.length_append, ← hnl] at hfl
          have htt := HT.out
          obtain ⟨L1, hL1⟩ : ∃ L1, (Ls.take q).flatten = L1 := ⟨_, rfl⟩
          obtain ⟨L2, hL2⟩ : ∃ L2, Ls[q] = L2 := ⟨_, rfl⟩
          rw [hL1] at HO hfl hFT
          rw [hL2] at hrd hFT hnl
          have HNL := Lib.hid hnl
          have hll : L1.length + n' ≤ 1073741824 := by omega
          have hbs := HB.out.size
          have t6 := entv_cell L2
          clear hu hv hfl hle htt hL1 hL2 hRB hnl
          go_wp2_with (at_builtin; refine wpList_app rfl (.tmp 31) (.tmp 32) 22 rfl w.heap.size 26 i0 _ 4 48 Try.underlying22 hi0 hz0 hz1 hz2 rfl (by omega) _ L1.length (entv L1) w.heap.size A' n' c' (entv L2) rfl (by exact HO.out) rfl hrd t6 ?e1 ?e2 ?e3 ?_)
          case e1 => omega
          case e2 => unfold maxLen; omega
          case e3 => exact hbs
          intro v4 w4 ho4 hu4 _
          have HO4 : Hid (w4.ownsRow w.heap.size 26 4 v4 (Ls.take (q + 1)).flatten.length (entv (Ls.take (q + 1)).flatten)) := Lib.hid (by
            rw [hFT.out, List.length_append, entv_append, ← HNL.out]; exact ho4)
          have HB4 := Lib.hid (below_row HB.out hbs HO.out (Nat.le_refl _) hu4)
          clear ho4 hu4 t6
          go_wp2
          go_roundw
          case rel => exact ⟨q + 1, by omega, by go_num, HO4, HB4⟩
          case measure => simp [intOf]; omega
        · obtain rfl : q = k := by omega
          have HF : Hid (wr.ownsRow w.heap.size 26 4 u6 Ls.flatten.length (entv Ls.flatten)) := Lib.hid (by
            have h1 := HO.out
            rwa [List.take_of_length_le (by rw [HLN.out]; exact Nat.le_refl _)] at h1)
          clear HO
          go_wp2
          go_ret
          exact ⟨_, rfl, HF.out, HB.out⟩
end Go.Proofs.Ytcfgmkiohmbdlaa
