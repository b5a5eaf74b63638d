/- Bloom: the law BloomExact, walked. -/
import Derived.Test.YtmjkebokedaldaaBlKeeps
import Derived.Test.YtmjkebokedaldaaSame
namespace Go.Proofs.Ytmjkebokedaldaa
open Go.RowKit

theorem rbuild_f (f : ByteArray) (A : Option Addr) (n c : Nat) (ks : List ByteArray) (w : World) (hf : f = ⟨(bld ks).toArray⟩) (hn : n * 16 ≤ 140737488351232) (hr : Rd w w.heap.size 1 A n (strv ks)) (hks : ∀ k ∈ ks, k.size ≤ maxLen) :
    Calls Try.prog 14 #[.slice A n c] w fun e w' => e = .returned (.string f) ∧ Below w.heap.size w w' := by
  subst hf; rw [← rbld_eq]; exact rbuild_any A n c ks w hn hr hks

set_option maxHeartbeats 1000000 in
theorem exact_any (A : Option Addr) (n c : Nat) (ks : List ByteArray) (g key : ByteArray) (w : World) (hn : n * 16 ≤ 140737488351232) (hr : Rd w w.heap.size 1 A n (strv ks)) (hks : ∀ k ∈ ks, k.size ≤ maxLen) (hg : g.size ≤ 140737488351232) (hk : key.size ≤ maxLen) :
    Calls Try.prog 3 #[.slice A n c, .string g, .string key] w fun e w' => e = .returned (.bool true) ∧ Below w.heap.size w w' := by
  obtain ⟨i0, hi0, hz0, hz1, hz2⟩ := info_parts str_info
  have hlen := Lib.hid (show ks.length = n by have := hr.len; rw [strv_length] at this; omega)
  obtain ⟨f, hf⟩ : ∃ f : ByteArray, f = ⟨(bld ks).toArray⟩ := ⟨_, rfl⟩
  have hfs : f.size ≤ 140737488351232 := by
    have h1 : f.size = (bld ks).length := by rw [hf]; rfl
    rw [h1, bld_length]
    have := hlen.out
    split
    · omega
    · unfold blen; omega
  have HF := Lib.hid hf
  clear hf
  go_enter Try.func3, Try.ntmps3
  go_wp2_with fail
  refine (lives_any _).mono ?_
  rintro e w1 ⟨rfl, hb1⟩
  have hr1 := (hr.below hb1).mono hb1.size
  have hown0 : (w1.alloc (.cells #[] 9)).ownsRow w.heap.size 9 1 (.slice (some ⟨w1.heap.size, 0, none⟩) 0 0) 0 [] := World.ownsRow_made w1 #[] 0 hb1.size (by unfold maxLen; omega) (by simp)
  have hr2 := (hr1.below ((Below.refl _ _).alloc (Nat.le_refl _) (.cells #[] 9))).mono (Below.refl w1.heap.size w1 |>.alloc (Nat.le_refl _) (.cells #[] 9)).size
  have hb1' : Below w.heap.size w (w1.alloc (.cells #[] 9)) := hb1.alloc hb1.size _
  go_wp2_with (at_builtin; refine wpList_append_rd rfl (.tmp 11) (.tmp 12) 22 rfl w.heap.size 9 i0 (.string ByteArray.empty) 1 16 Try.underlying22 hi0 hz0 hz1 hz2 rfl (by decide) _ _ _ _ A n c (strv ks) rfl (by exact hown0) rfl (by exact hr2) (strv_one ks) ?c1 ?c2 ?c3 ?_)
  case c1 => omega
  case c2 => unfold maxLen; omega
  case c3 => exact hb1'.size
  intro v w2 hown2 hg2
  have hb2 := below_app hb1' hb1'.size hown0 (Nat.le_refl _) hg2
  have hown2 : w2.ownsRow w.heap.size 9 1 v n (strv ks) := by simpa using hown2
  go_wp2_with (at_builtin; refine wpList_append_new rfl (.tmp 13) (.tmp 14) 22 rfl w.heap.size 9 i0 (.string ByteArray.empty) 1 16 Try.underlying22 hi0 hz0 hz1 hz2 rfl (by decide) _ _ _ #[.string ⟨#[115, 112, 97, 114, 101]⟩] rfl (by exact hown2) rfl rfl ?c4 ?c5 ?c6 ?c7 ?_)
  case c4 => first | rfl | (intro u hu; simp at hu; subst hu; rfl)
  case c5 => omega
  case c6 => unfold maxLen; omega
  case c7 => exact hb2.size
  intro v3 w3 hown3 hg3
  have hb3 := below_app hb2 hb2.size hown2 (Nat.le_refl _) hg3
  obtain ⟨g3, cap, hv3, hbg, hlt3, hcap, hcm⟩ := own_form hown3 (by omega)
  rw [hv3] at hown3
  rw [hv3]
  unfold maxLen at hcm
  have hrd3 : Rd w3 w3.heap.size 1 (some ⟨g3, 0, none⟩) n (strv ks) := by
    have h := (Rd.own hown3).take n (by omega)
    rw [Nat.mul_one, List.take_append_of_le_length (by rw [strv_length, hlen.out]; omega), List.take_of_length_le (by rw [strv_length, hlen.out]; omega)] at h
    exact h
  have hr3 : Rd w3 w3.heap.size 1 A n (strv ks) := (hr.below hb3).mono hb3.size
  have hsp : w3.cell? ⟨g3, n, none⟩ = some (.string ⟨#[115, 112, 97, 114, 101]⟩) := by
    rw [hown3.cellAt n (by omega), List.getElem?_append_right (by rw [strv_length, hlen.out]; omega), strv_length, hlen.out, Nat.sub_self]; rfl
  clear hown3 hown2 hown0 hg3 hg2 hv3 hr2 hr1 hb1' hb1 hb2
  go_wp2_with fail
  refine (build_f f _ n _ ks _ HF.out hn hrd3 hks).mono ?_
  rintro e w4 ⟨rfl, hb4⟩
  go_wp2_with fail
  refine (rbuild_f f A n c ks _ HF.out hn ((hr3.below hb4).mono hb4.size) hks).mono ?_
  rintro e w5 ⟨rfl, hb5⟩
  have hb35 : Below w3.heap.size w3 w5 := hb4.trans (hb5.mono hb4.size)
  have hbf5 : Below w.heap.size w w5 := hb3.trans (hb35.mono hb3.size)
  have hsp5 : w5.cell? ⟨g3, n, none⟩ = some (.string ⟨#[115, 112, 97, 114, 101]⟩) := (hb35.cell (p := ⟨g3, n, none⟩) hlt3).trans hsp
  have hrA := hr3.below hb35
  have hrB := hrd3.below hb35
  clear hb4 hb5 hb35 hsp hr3 hrd3 hb3
  go_wp2_with fail
  refine (same_yes _ _ n _ _ _ ks _ (by unfold maxLen; omega) hrB hrA).mono ?_
  rintro e w6 ⟨rfl, m6, rfl⟩
  go_wp2_with fail
  refine (hash_any key _ hk).mono ?_
  rintro e w' ⟨rfl, rfl⟩
  go_wp2_with fail
  refine (rhash_any key _ hk).mono ?_
  rintro e w' ⟨rfl, rfl⟩
  go_wp2_with fail
  refine (may_any g key _ hg hk).mono ?_
  rintro e w7 ⟨rfl, hb7⟩
  go_wp2_with fail
  refine (rmay_any g key _ hg hk).mono ?_
  rintro e w' ⟨rfl, rfl⟩
  go_wp2_with fail
  refine (may_any f key _ hfs hk).mono ?_
  rintro e w8 ⟨rfl, hb8⟩
  go_wp2_with fail
  refine (rmay_any f key _ hfs hk).mono ?_
  rintro e w' ⟨rfl, rfl⟩
  go_wp2
  go_ret
  have hb5 : Below w.heap.size w (w5.drewN m6) := ⟨hbf5.os, hbf5.tape, hbf5.output, hbf5.size, hbf5.block⟩
  have hb57 := hb5.trans (hb7.mono hb5.size)
  exact ⟨rfl, hb57.trans (hb8.mono hb57.size)⟩
end Go.Proofs.Ytmjkebokedaldaa
