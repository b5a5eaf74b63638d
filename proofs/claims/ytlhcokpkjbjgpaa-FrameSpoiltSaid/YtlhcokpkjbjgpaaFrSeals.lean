/- Frames: the law FrameSeals, walked. -/
import Derived.Test.YtlhcokpkjbjgpaaFrSums
import Derived.Test.YtlhcokpkjbjgpaaSame
namespace Go.Proofs.Ytlhcokpkjbjgpaa
open Go.RowKit


theorem sealB_len (l : List ByteArray) : (sealB l).length ≤ 8 * (l.map fun s => s.size + 1).sum := by
  induction l with
  | nil => simp [sealB]
  | cons s l ih =>
    have h1 : sealB (s :: l) = frameB s.data.toList ++ sealB l := by simp [sealB]
    have h2 : s.data.toList.length = s.size := by simp
    rw [h1, List.length_append, frameB_len, List.map_cons, List.sum_cons]
    omega
theorem strs_len (l : List ByteArray) : l.length ≤ (l.map fun s => s.size + 1).sum := by
  induction l with
  | nil => simp
  | cons s l ih => rw [List.map_cons, List.sum_cons, List.length_cons]; omega
theorem rd_len {w : World} {B n : Nat} {A : Option Addr} {l : List ByteArray} (h : Rd w B 1 A n (strv l)) : n = l.length := by have := h.len; rw [strv_length] at this; omega
set_option maxHeartbeats 4000000 in
set_option maxRecDepth 20000 in
theorem seals_any (w : World) (A : Option Addr) (n c : Nat) (l : List ByteArray) (hr : Rd w w.heap.size 1 A n (strv l)) (hl : (sealB l).length ≤ 140737488355328) (hn : n ≤ 1099511627776) (hls : ∀ s ∈ l, s.size ≤ 140737488351232) :
    Calls Try.prog 4 #[.slice A n c] w fun e w' => e = .returned (.bool true) ∧ Below w.heap.size w w' := by
  obtain ⟨i0, hi0, hz0, hz1, hz2⟩ := info_parts str_info
  have hlen := Lib.hid (show l.length = n by have := hr.len; rw [strv_length] at this; omega)
  go_enter Try.func4, Try.ntmps4
  go_wp2_with fail
  refine (flives_any _).mono ?_
  rintro e w1 ⟨rfl, hb1⟩
  have hown0 := World.ownsRow_made (base := w.heap.size) (e := 9) (size := 1) w1 #[] 0 hb1.size (by unfold maxLen; omega) rfl
  have hb1a : Below w.heap.size w (w1.alloc (.cells #[] 9)) := hb1.alloc hb1.size _
  have hr1 := hr.below hb1a
  go_wp2_with (at_builtin; refine wpList_app rfl (.tmp 10) (.tmp 11) 22 rfl w.heap.size 9 i0 _ 1 16 Try.underlying22 hi0 hz0 hz1 hz2 rfl (by omega) _ 0 [] w.heap.size A n c (strv l) rfl (by exact hown0) rfl (by exact hr1) (strv_one l) ?c1 ?c2 ?c3 ?_)
  case c1 => omega
  case c2 => unfold maxLen; omega
  case c3 => exact hb1a.size
  intro v2 w2 hown2 hu2 hat2
  have hb2 := below_row hb1a hb1a.size hown0 (Nat.le_refl _) hu2
  clear hown0 hu2 hat2 hr1 hb1 hb1a
  go_wp2_with (at_builtin; refine wpList_push rfl (.tmp 12) (.tmp 13) 22 rfl w.heap.size 9 i0 _ 1 16 Try.underlying22 hi0 hz0 hz1 hz2 rfl (by omega) _ n (strv l) #[.string ⟨#[115, 112, 97, 114, 101]⟩] rfl (by exact hown2) rfl rfl (by simp [Value.oneCell']) ?c1 ?c2 ?c3 ?_)
  case c1 => omega
  case c2 => unfold maxLen; omega
  case c3 => exact hb2.size
  intro v3 w3 hown3 hu3 hat3
  have hb3 := below_row hb2 hb2.size hown2 (Nat.le_refl _) hu3
  clear hown2 hu3 hat3 hb2
  obtain ⟨g, cap, rfl, hbg, hgl, hnc, hcm⟩ := own_form hown3 (by omega)
  have hcap : cap ≤ 9223372036854775807 := by unfold maxLen at hcm; omega
  have k1 : (n : Int) ≤ (cap : Int) := by omega
  have k2 : (0 : Int) ≤ (n : Int) := by omega
  have hro : Rd w3 w3.heap.size 1 (some ⟨g, 0, none⟩) n (strv l) := by
    have := (Rd.own hown3).take n (by omega)
    have hl2 := hlen.out
    rw [Nat.mul_one, List.take_append_of_le_length (by rw [strv_length]; omega), List.take_of_length_le (by rw [strv_length]; omega)] at this
    exact this
  have hsp : ∀ W, Below w3.heap.size w3 W → W.cell? ⟨g, n, none⟩ = some (.string ⟨#[115, 112, 97, 114, 101]⟩) := fun W hW => by
    rw [hW.cell (p := ⟨g, n, none⟩) hgl, hown3.cellAt n (by omega), List.getElem?_append_right (by rw [strv_length]; have := hlen.out; omega)]
    rw [strv_length, hlen.out, Nat.sub_self]
    rfl
  go_wp2_with fail
  refine (fseal_any _ _ n _ l hro hl (by omega) hls).mono ?_
  rintro e w4 ⟨rfl, hb4⟩
  have hb4' := bel hb3 hb4
  go_wp2_with fail
  refine (rseal_any _ A n c l ((hr.below hb4').mono hb4'.size) hl (by omega) hls).mono ?_
  rintro e w5 ⟨rfl, hb5⟩
  have hb5' := bel hb4' hb5
  have hb35 := bel hb4 hb5
  have hro5 := (hro.below hb35).mono hb35.size
  have hr5 := (hr.below hb5').mono hb5'.size
  have hc5 := hsp _ hb35
  have hc6 : ∀ m, (w5.drewN m).cell? ⟨g, n, none⟩ = some (.string ⟨#[115, 112, 97, 114, 101]⟩) := fun m => hc5
  have k3 : (n : Int) < (n : Int) + 1 := by omega
  have k4 : n < n + 1 := by omega
  clear hsp hown3 hro hr hb35 hb4
  go_wp2_with fail
  refine (same_yes _ _ n _ _ _ l _ (by unfold maxLen; omega) hro5 hr5).mono ?_
  rintro e w6 ⟨rfl, m, rfl⟩
  have hc7 := hc6 m
  clear hc6
  go_wp2
  go_ret
  exact ⟨rfl, ⟨hb5'.os, hb5'.tape, hb5'.output, hb5'.size, hb5'.block⟩⟩
end Go.Proofs.Ytlhcokpkjbjgpaa
