/- Frames: the law FrameSums, walked. -/
import Derived.Test.YtlhcokpkjbjgpaaFrLives
import Derived.Deep.RegionHeld3
import Derived.Deep.RegionWith
namespace Go.Proofs.Ytlhcokpkjbjgpaa
open Go.RowKit

theorem catB_take (l : List ByteArray) (k : Nat) (h : k < l.length) : catB (l.take (k + 1)) = catB (l.take k) ++ l[k].data.toList := by
  rw [List.take_succ_eq_append_getElem h]; unfold catB; rw [List.flatMap_append, List.flatMap_cons, List.flatMap_nil, List.append_nil]
theorem catB_take_len (l : List ByteArray) (k : Nat) : (catB (l.take k)).length ≤ (catB l).length := by
  have : catB l = catB (l.take k) ++ catB (l.drop k) := by unfold catB; rw [← List.flatMap_append, List.take_append_drop]
  rw [this, List.length_append]; omega
theorem catB_len (l : List ByteArray) : (catB l).length ≤ (l.map fun s => s.size + 1).sum := by
  induction l with
  | nil => simp [catB]
  | cons s l ih =>
    have h1 : catB (s :: l) = s.data.toList ++ catB l := by simp [catB]
    have h2 : s.data.toList.length = s.size := by simp
    rw [h1, List.length_append, List.map_cons, List.sum_cons]
    omega
theorem fsum_q (w W : World) (A : Option Addr) (n c : Nat) (l : List ByteArray) (hr : Rd w w.heap.size 1 A n (strv l)) (hb : Below w.heap.size w W) (hn : n ≤ 17592186044416) (hls : ∀ s ∈ l, s.size ≤ 140737488351232) :
    Calls Try.prog 10 #[.slice A n c] W fun e w' => e = .returned (.int .u32 (sumB (catB l) : Int)) ∧ w' = W :=
  fsum_any W A n c l ((hr.below hb).mono hb.size) hn hls
theorem fsum_held (w W : World) (A : Option Addr) (n c : Nat) (l : List ByteArray) (hr : Rd w w.heap.size 1 A n (strv l)) {X : Prop} (hb : Below w.heap.size w W ∧ X) (hn : n ≤ 17592186044416) (hls : ∀ s ∈ l, s.size ≤ 140737488351232) :
    Calls Try.prog 10 #[.slice A n c] W fun e w' => e = .returned (.int .u32 (sumB (catB l) : Int)) ∧ w' = W :=
  fsum_q w W A n c l hr hb.1 hn hls
theorem fsum_new (W : World) (a : ByteArray) (ha : a.size ≤ 140737488351232) :
    Calls Try.prog 10 #[.slice (some ⟨W.heap.size, 0, none⟩) 1 1] (W.alloc (.cells #[.string a] 9)).drew fun e w' => e = .returned (.int .u32 (sumB a.data.toList : Int)) ∧ w' = (W.alloc (.cells #[.string a] 9)).drew := by
  have hr : Rd (W.alloc (.cells #[.string a] 9)) (W.heap.size + 1) 1 (some ⟨W.heap.size, 0, none⟩) 1 (strv [a]) := by simpa [strv] using Rd.new (w := W) (size := 1) (n := 1) #[.string a] 9 rfl
  have h := fsum_any (W.alloc (.cells #[.string a] 9)).drew (some ⟨W.heap.size, 0, none⟩) 1 1 [a] ((show Rd (W.alloc (.cells #[.string a] 9)).drew _ _ _ _ _ from ⟨hr.len, hr.at_⟩).mono (by simp)) (by omega) (by intro s hs; rw [List.mem_singleton.1 hs]; exact ha)
  simpa [catB] using h
section
variable {w W : World} {v : Value} {l : List UInt8} {B : Nat}
theorem sums_start (hb : Below w.heap.size w W) (ho : W.ownsRow B 5 1 v l.length (bytv l)) :
    Below w.heap.size w W ∧ W.ownsRow B 5 1 v l.length (bytv l) ∧ (convert 24 9 v).run Try.prog W = .ok (.string ⟨l.toArray⟩) W :=
  ⟨hb, ho, conv_own (P := Try.prog) Try.underlying24 Try.underlying5 Try.underlying9 ho⟩
theorem sums_drew {X : Prop} (h : Below w.heap.size w W ∧ W.ownsRow B 5 1 v l.length (bytv l) ∧ X) :
    Below w.heap.size w W.drew ∧ W.drew.ownsRow B 5 1 v l.length (bytv l) ∧ (convert 24 9 v).run Try.prog W.drew = .ok (.string ⟨l.toArray⟩) W.drew :=
  sums_start ⟨h.1.os, h.1.tape, h.1.output, h.1.size, h.1.block⟩ (show W.drew.ownsRow _ _ _ _ _ _ from h.2.1)
theorem sums_alloc (o : Obj) {X : Prop} (h : Below w.heap.size w W ∧ W.ownsRow B 5 1 v l.length (bytv l) ∧ X) :
    Below w.heap.size w (W.alloc o) ∧ (W.alloc o).ownsRow B 5 1 v l.length (bytv l) ∧ (convert 24 9 v).run Try.prog (W.alloc o) = .ok (.string ⟨l.toArray⟩) (W.alloc o) :=
  sums_start (h.1.alloc h.1.size o) (h.2.1.alloc _)
end
set_option maxHeartbeats 8000000 in
set_option maxRecDepth 20000 in
theorem sums_any (w : World) (A : Option Addr) (n c : Nat) (l : List ByteArray) (hr : Rd w w.heap.size 1 A n (strv l)) (hl : (catB l).length ≤ 140737488351232) (hn : n ≤ 17592186044416) (hls : ∀ s ∈ l, s.size ≤ 140737488351232) :
    Calls Try.prog 3 #[.slice A n c] w fun e w' => e = .returned (.bool true) ∧ Below w.heap.size w w' := by
  obtain ⟨i0, hi0, hz0, hz1, hz2⟩ := info_parts u8_info
  have hlen := Lib.hid (show l.length = n by have := hr.len; rw [strv_length] at this; omega)
  go_enter Try.func3, Try.ntmps3
  go_wp2_with fail
  refine (flives_any _).mono ?_
  rintro e w1 ⟨rfl, hb1⟩
  go_wp2
  go_loopw [3, 10] (fun v i wx => ∃ k : Nat, k ≤ n ∧ i = .int .i64 k ∧ wx.ownsRow w.heap.size 5 1 v (catB (l.take k)).length (bytv (catB (l.take k))) ∧ Below w.heap.size w wx) (fun _ i _ => n - (intOf i).toNat)
  case atStart => exact ⟨0, Nat.zero_le _, rfl, World.ownsRow_nil _ _ _ _, hb1⟩
  case round =>
    obtain ⟨k, hk, rfl, hown, hbx⟩ := hrel
    by_cases hlt : k < n
    · obtain ⟨ad, rfl, hab, hs, hc⟩ := hr.str hlt
      have HT := Lib.hid (catB_take l k hs)
      have hsz := catB_take_len l (k + 1)
      have hcr : wr.cell? (ad.add k) = some (.string l[k]) := by rw [hbx.cell (by rw [block_add]; exact hab)]; exact hc
      obtain ⟨y, hy⟩ : ∃ y, y = l[k] := ⟨_, rfl⟩
      rw [← hy] at HT hcr
      have hyl : y.data.toList.length = y.size := by simp
      have hlx : (catB (l.take k)).length + y.size ≤ 140737488355328 := by
        rw [HT.out, List.length_append] at hsz; omega
      clear hy hc hsz
      go_wp2_with (at_builtin; refine wpList_apps rfl (.tmp 14) (.tmp 15) 24 9 rfl w.heap.size 5 i0 Try.underlying24 Try.underlying9 hi0 hz0 hz1 hz2 _ _ (catB (l.take k)) y rfl (by exact hown) rfl ?c1 ?c2 ?_)
      case c1 => exact hlx
      case c2 => exact hbx.size
      intro v3 w3 hown3 hu3 hat3
      have hown3' : w3.ownsRow w.heap.size 5 1 v3 (catB (l.take (k + 1))).length (bytv (catB (l.take (k + 1)))) := by
        rw [HT.out, List.length_append, hyl]; exact hown3
      have hb3 := below_row hbx hbx.size hown (Nat.le_refl _) hu3
      clear hown3 hown hu3 hat3 hbx
      go_wp2
      go_roundw
      case rel => exact ⟨k + 1, by omega, by go_num, hown3', hb3⟩
      case measure => simp [intOf]; omega
    · obtain rfl : k = n := by omega
      rw [← hlen.out, List.take_length] at hown
      have hl' : (catB l).length ≤ 140737488355328 := by omega
      have hl1 : (⟨(catB l).toArray⟩ : ByteArray).size ≤ 140737488351232 := by show (catB l).toArray.size ≤ _; simpa using hl
      obtain ⟨Ao, co, rfl⟩ := own_shape hown
      have hS0 := sums_start hbx hown
      clear hlen hb1
      go_wp2
      go_region_held3 (fun w' => Below w.heap.size w w' ∧ w'.ownsRow w.heap.size 5 1 (.slice Ao (catB l).length co) (catB l).length (bytv (catB l)) ∧ (convert 24 9 (.slice Ao (catB l).length co)).run Try.prog w' = .ok (.string ⟨(catB l).toArray⟩) w') (first | assumption | exact sums_drew (by assumption) | exact sums_alloc _ (by assumption)) (first
        | (go_at_call 11; refine (rsum_lit _ (catB l) hl').mono ?_; rintro e w2 ⟨rfl, rfl⟩)
        | (go_at_call_of 10 (Value.slice A k c); refine (fsum_held w _ A k c l hr (by assumption) hn hls).mono ?_; rintro e w2 ⟨rfl, rfl⟩)
        | (go_at_call 10; refine (fsum_new wr ⟨(catB l).toArray⟩ hl1).mono ?_; rintro e w2 ⟨rfl, rfl⟩))
      all_goals go_wp2
      all_goals go_ret
      all_goals exact ⟨rfl, And.left (by assumption)⟩
end Go.Proofs.Ytlhcokpkjbjgpaa
