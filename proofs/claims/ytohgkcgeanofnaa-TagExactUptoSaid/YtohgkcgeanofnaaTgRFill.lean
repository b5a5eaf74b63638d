/- Digests: the reference's filled, walked. -/
import Derived.Test.YtohgkcgeanofnaaTgRStep
namespace Go.Proofs.Ytohgkcgeanofnaa
open Go.RowKit
theorem zer_at (n z : Nat) (h : (n + 1 + z) % 64 = 56) (hz : z ≤ zer n) : z = zer n := by unfold zer at hz ⊢; omega
theorem zer_not (n z : Nat) (h : (n + 1 + z) % 64 ≠ 56) (hz : z ≤ zer n) : z < zer n := by
  rcases Nat.lt_or_ge z (zer n) with h' | h'
  · exact h'
  · exact absurd (by unfold zer at *; omega) h
/-- Block g is just the bytes l, of the type T. -/
def RowT (w : World) (g : Nat) (T : TypeId) (l : List UInt8) : Prop := w.heap[g]? = some (.cells (bytv l).toArray T (0, 0))
section
variable {w w' : World} {g : Nat} {T : TypeId} {l : List UInt8}
theorem RowT.lt (h : RowT w g T l) : g < w.heap.size := (Array.getElem?_eq_some_iff.1 h).1
theorem RowT.cell (h : RowT w g T l) (k : Nat) (hk : k < l.length) : w.cell? ⟨g, k, none⟩ = some (.int .u8 (((l[k]'hk).toNat : Nat) : Int)) := by
  rw [cell_of_row w g k _ _ _ h, List.getElem?_toArray, bytv_get l k hk]
theorem RowT.free (h : RowT w g T l) (k : Nat) : w.frozen? ⟨g, k, none⟩ = false := frozen_of_row w g k _ _ h
theorem RowT.set (h : RowT w g T l) (k : Nat) (x : UInt8) : RowT (w.setCell ⟨g, k, none⟩ (.int .u8 (x.toNat : Int))) g T (l.set k x) := by
  have := heap_setCell_same w g k _ _ (.int .u8 (x.toNat : Int)) h
  unfold RowT
  rw [this, List.setIfInBounds_toArray]
  simp [bytv, List.map_set]
theorem RowT.rd (h : RowT w g T l) : Rd w w.heap.size 1 (some ⟨g, 0, none⟩) l.length (bytv l) :=
  ⟨by rw [bytv_length]; omega, fun _ => ⟨_, rfl, h.lt, fun j u hu => by rw [add_flat0, Nat.zero_add, cell_of_row w g j _ _ _ h, List.getElem?_toArray, hu]⟩⟩
end
def lenOf : Value → Nat
  | .slice _ n _ => n
  | _ => 0
/-- What has been written of the eight bytes, from the last one on. -/
def eig (v j : Nat) : List UInt8 := List.replicate (8 - j) 0 ++ (be8 v).drop (8 - j)
theorem eig_length (v j : Nat) (hj : j ≤ 8) : (eig v j).length = 8 := by
  unfold eig
  rw [List.length_append, List.length_replicate, List.length_drop, be8_length]; omega
theorem eig_all (v : Nat) : eig v 8 = be8 v := rfl
theorem eig_set (v j : Nat) (hj : j < 8) : (eig v j).set (7 - j) (UInt8.ofNat (v / 256 ^ j)) = eig v (j + 1) := by
  obtain rfl | rfl | rfl | rfl | rfl | rfl | rfl | rfl : j = 0 ∨ j = 1 ∨ j = 2 ∨ j = 3 ∨ j = 4 ∨ j = 5 ∨ j = 6 ∨ j = 7 := by omega
  all_goals rfl
set_option maxHeartbeats 4000000 in
set_option maxRecDepth 20000 in
theorem rfill_any (w : World) (s : ByteArray) (hs : s.size ≤ 35184372088832) :
    Calls Try.prog 16 #[.string s] w fun e w' => ∃ v, e = .returned v ∧ OwnB w' w.heap.size 5 v (s.data.toList ++ tailB s.size (8 * s.size % 18446744073709551616)) ∧ Below w.heap.size w w' := by
  obtain ⟨i0, hi0, hz0, hz1, hz2⟩ := info_parts u8_info
  have hpl : s.data.toList.length = s.size := by simp
  have hcv := fun w s => run_bytes_of_string (P := Try.prog) w 9 29 5 s Try.underlying9 Try.underlying29 Try.underlying5
  go_enter Try.func16, Try.ntmps16
  have hO := OwnB.made w s 5 (by unfold maxLen; omega)
  change OwnB (w.alloc (.cells (bytesRow s (grownCap w s.size 0 5)) 5 ((bytesRow s (grownCap w s.size 0 5)).size, (bytesRow s (grownCap w s.size 0 5)).size + 1))).drew _ _ _ _ at hO
  have hB : Below w.heap.size w (w.alloc (.cells (bytesRow s (grownCap w s.size 0 5)) 5 ((bytesRow s (grownCap w s.size 0 5)).size, (bytesRow s (grownCap w s.size 0 5)).size + 1))) := (Below.refl _ _).alloc (Nat.le_refl _) _
  have hsz : (w.alloc (.cells (bytesRow s (grownCap w s.size 0 5)) 5 ((bytesRow s (grownCap w s.size 0 5)).size, (bytesRow s (grownCap w s.size 0 5)).size + 1))).heap.size = w.heap.size + 1 := by simp
  generalize hcap : grownCap w s.size 0 5 = cap at *
  obtain ⟨WA, hWA⟩ : ∃ WA, WA = (w.alloc (.cells (bytesRow s cap) 5 ((bytesRow s cap).size, (bytesRow s cap).size + 1))) := ⟨_, rfl⟩
  rw [← hWA] at hO hB hsz
  have hO2 : OwnB (WA.alloc (.cells #[.int .u8 128] 5)).drew w.heap.size 5 (.slice (some ⟨w.heap.size, 0, none⟩) s.size cap) s.data.toList :=
    OwnB.below (w := WA) hO (below_drew1 ((Below.refl WA.heap.size WA).alloc (Nat.le_refl _) _))
  have hR2 : Rd (WA.alloc (.cells #[.int .u8 128] 5)).drew (w.heap.size + 2) 1 (some ⟨w.heap.size + 1, 0, none⟩) 1 (bytv [128]) := by
    have h1 := one_rd WA 128
    rw [hsz] at h1
    exact h1.drewN 1
  have hB2 : Below w.heap.size w (WA.alloc (.cells #[.int .u8 128] 5)).drew := below_drew1 (hB.alloc hB.size _)
  have hBs : w.heap.size ≤ (WA.alloc (.cells #[.int .u8 128] 5)).drew.heap.size := hB2.size
  subst hWA
  go_wp2_with (at_builtin; refine wpList_bapp _ rfl (.tmp 8) (.tmp 9) 29 rfl w.heap.size 5 i0 Try.underlying29 hi0 hz0 hz1 hz2 _ s.data.toList _ 1 1 _ [128] rfl (by exact hO2) rfl (by exact hR2) ?c1 ?c2 ?_)
  case c1 => omega
  case c2 => exact hBs
  intro v1 w1 ho1 hu1 _
  have hb1 := below_ownB hB2 hBs hO2 (Nat.le_refl _) hu1
  clear hO hO2 hR2 hB hB2 hBs hu1 hcv hcap hsz
  go_wp2
  go_loopw [3] (fun v wx => ∃ z : Nat, z ≤ zer s.size ∧ OwnB wx w.heap.size 5 v (s.data.toList ++ [128] ++ List.replicate z 0) ∧ Below w.heap.size w wx) (fun v _ => zer s.size + s.size + 1 - lenOf v)
  case atStart => exact ⟨0, Nat.zero_le _, by rw [List.replicate_zero, List.append_nil]; exact ho1, hb1⟩
  case round =>
    clear ho1 hb1
    obtain ⟨z, hz, ho, hb⟩ := hrel
    obtain ⟨L, hL⟩ : ∃ L, L = s.data.toList ++ [128] ++ List.replicate z 0 := ⟨_, rfl⟩
    rw [← hL] at ho
    have hLl : L.length = s.size + 1 + z := by rw [hL, List.length_append, List.length_append, List.length_replicate, hpl]; rfl
    obtain ⟨A3, c3, rfl⟩ := ho.shape
    have HL := Lib.hid hL
    have HLL := Lib.hid hLl
    have HO := Lib.hid ho
    have HB := Lib.hid hb
    have hbs := hb.size
    by_cases h56 : L.length % 64 = 56
    · have hzz : z = zer s.size := zer_at _ _ (by rw [← hLl]; exact h56) hz
      subst hzz
      have hi56 : ((L.length : Int).tmod 64 = 56) := by rw [Int.tmod_eq_emod_of_nonneg (by omega)]; omega
      clear hL hLl ho hb hz
      obtain ⟨v, hv⟩ : ∃ v, v = 8 * s.size % 18446744073709551616 := ⟨_, rfl⟩
      have hw8 : IntKind.u64.wrap ((s.size : Int) * 8) = (v : Int) := by rw [IntKind.wrap_u64, hv]; omega
      have HV := Lib.hid hv
      clear hv
      go_wp2
      generalize wr = wS at *
      have hr8 : RowT (wS.alloc (.cells (List.replicate 8 (Value.int .u8 0)).toArray 57)) wS.heap.size 57 (eig v 0) := heap_alloc_new wS _
      have hu8 : Upd (fun k => k = wS.heap.size) wS (wS.alloc (.cells (List.replicate 8 (Value.int .u8 0)).toArray 57)) := (Upd.refl _ wS).alloc _
      have hb8 : Below w.heap.size w (wS.alloc (.cells (List.replicate 8 (Value.int .u8 0)).toArray 57)) := HB.out.alloc hbs _
      go_loopw [4, 6] (fun nv iv wx => ∃ j : Nat, j ≤ 8 ∧ iv = .int .i64 (7 - (j : Int)) ∧ nv = .int .u64 ((v / 256 ^ j : Nat) : Int) ∧ RowT wx wS.heap.size 57 (eig v j) ∧ Upd (fun k => k = wS.heap.size) wS wx ∧ Below w.heap.size w wx) (fun _ iv _ => (intOf iv + 1).toNat)
      case atStart => exact ⟨0, Nat.zero_le _, rfl, by rw [Nat.pow_zero, Nat.div_one], hr8, hu8, hb8⟩
      case round =>
        clear hr8 hu8 hb8
        obtain ⟨j, hj, rfl, rfl, hr8, hu8, hb8⟩ := hrel
        by_cases hlt : j < 8
        · obtain ⟨q, hq⟩ : ∃ q, q = v / 256 ^ j := ⟨_, rfl⟩
          have hq2 : v / 256 ^ (j + 1) = q / 256 := by rw [hq, Nat.pow_succ, Nat.div_div_eq_div_mul]
          have hc8 := hr8.cell (7 - j) (by rw [eig_length v j hj]; omega)
          have hf8 := hr8.free (7 - j)
          have n1 : (7 - (j : Int)).toNat = 7 - j := by omega
          have l1 : 0 ≤ 7 - (j : Int) := by omega
          have m1 : 7 - (j : Int) < 8 := by omega
          have o1 : IntKind.i64.wrap (7 - (j : Int) - 1) = 7 - ((j + 1 : Nat) : Int) := by rw [IntWalk.i64_in _ (by omega)]; omega
          have H8 := Lib.hid hr8
          have HQ := Lib.hid hq
          have HQ2 := Lib.hid hq2
          rw [← hq]
          clear hr8 hq hq2
          go_wp2
          have hql : q < 18446744073709551616 := by
            rw [HQ.out]
            refine Nat.lt_of_le_of_lt (Nat.div_le_self _ _) ?_
            rw [HV.out]
            exact Nat.mod_lt _ (by decide)
          have e1 : (q : Int) % 256 = (((UInt8.ofNat q).toNat : Nat) : Int) := by rw [UInt8.toNat_ofNat']; omega
          have e2 : IntKind.u64.wrap ((q : Int) / 256) = ((q / 256 : Nat) : Int) := by rw [IntKind.wrap_u64]; omega
          rw [e1, e2, ← HQ2.out]
          have hr9 : RowT (wr.setCell ⟨wS.heap.size, 7 - j, none⟩ (.int .u8 (((UInt8.ofNat q).toNat : Nat) : Int))) wS.heap.size 57 (eig v (j + 1)) := by
            have h1 := H8.out.set (7 - j) (UInt8.ofNat q)
            rw [HQ.out, eig_set v j hlt, ← HQ.out] at h1
            exact h1
          refine ⟨⟨j + 1, by omega, by rw [show 7 - ((j : Int) + 1) = 7 - ((j + 1 : Nat) : Int) by omega], rfl, hr9, hu8.setCell ⟨wS.heap.size, 7 - j, none⟩ rfl _, hb8.setCell (p := ⟨wS.heap.size, 7 - j, none⟩) hbs _⟩, ?_⟩
          simp [intOf]; omega
        · obtain rfl : j = 8 := by omega
          rw [eig_all] at hr8
          have hO8 : OwnB wr w.heap.size 5 (.slice A3 L.length c3) L := HO.out.upd hu8 (fun k hk e => by have := (HO.out.lt k hk).2; omega)
          have hR8 : Rd wr wr.heap.size 1 (some ⟨wS.heap.size, 0, none⟩) 8 (bytv (be8 v)) := hr8.rd
          have hLs : L.length + 8 ≤ 140737488355328 := by rw [HLL.out]; unfold zer; omega
          go_wp2_with (at_builtin; refine wpList_bapp wr rfl (.tmp 33) (.tmp 34) 29 rfl w.heap.size 5 i0 Try.underlying29 hi0 hz0 hz1 hz2 _ L _ 8 8 wr.heap.size (be8 v) rfl (by exact hO8) rfl (by exact hR8) ?c1 ?c2 ?_)
          case c1 => exact hLs
          case c2 => exact hb8.size
          intro v5 w5 ho5 hu5 _
          have hb5 := below_ownB hb8 hb8.size hO8 (Nat.le_refl _) hu5
          go_wp2
          go_ret
          refine ⟨_, rfl, ?_, hb5⟩
          have e9 : s.data.toList ++ tailB s.size (8 * s.size % 18446744073709551616) = L ++ be8 v := by
            rw [HL.out, HV.out]
            unfold tailB
            simp only [List.append_assoc]
          rw [e9]
          exact ho5
    · have hzz := zer_not _ _ (by rw [← hLl]; exact h56) hz
      have hi56 : ¬ ((L.length : Int).tmod 64 = 56) := by rw [Int.tmod_eq_emod_of_nonneg (by omega)]; omega
      have hll : L.length + 1 ≤ 140737488355328 := by unfold zer at hz; omega
      clear hL hLl ho hb hz
      go_wp2_with (at_builtin; refine wpList_bpush wr rfl (.tmp 15) (.tmp 16) 29 rfl w.heap.size 5 i0 Try.underlying29 hi0 hz0 hz1 hz2 _ L [0] _ 1 1 rfl rfl rfl (by exact HO.out) rfl ?c2 ?c3 ?_)
      case c2 => exact hll
      case c3 => exact hbs
      intro v' w3 ho3 hu3 _
      have ho4 : OwnB w3 w.heap.size 5 v' (s.data.toList ++ [128] ++ List.replicate (z + 1) 0) := by
        rw [List.replicate_succ', ← List.append_assoc, ← HL.out]
        exact ho3
      have hB4 := below_ownB HB.out hbs HO.out (Nat.le_refl _) hu3
      obtain ⟨A4, c4, rfl⟩ := ho3.shape
      clear ho3 hu3
      go_wp2
      refine ⟨⟨z + 1, hzz, ho4, hB4⟩, ?_⟩
      have h1 := HLL.out
      simp [lenOf]
      omega
end Go.Proofs.Ytohgkcgeanofnaa
