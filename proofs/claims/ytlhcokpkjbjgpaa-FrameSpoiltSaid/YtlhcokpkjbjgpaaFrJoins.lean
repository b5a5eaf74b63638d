/- Frames: the law FrameJoins, walked. -/
import Derived.Test.YtlhcokpkjbjgpaaFrBack
namespace Go.Proofs.Ytlhcokpkjbjgpaa
open Go.RowKit

theorem strv_append (a b : List ByteArray) : strv (a ++ b) = strv a ++ strv b := by simp [strv]
theorem add_of {x y z : ByteArray} {a b : List UInt8} (hx : x.data.toList = a) (hy : y.data.toList = b) (hz : z.data.toList = a ++ b) : x ++ y = z := by
  apply ByteArray.ext
  apply Array.toList_inj.1
  rw [ByteArray.data_append, Array.toList_append, hx, hy, hz]
set_option maxHeartbeats 4000000 in
set_option maxRecDepth 20000 in
theorem joins_any (w : World) (A : Option Addr) (n c : Nat) (la : List ByteArray) (A' : Option Addr) (n' c' : Nat) (lb : List ByteArray) (hr : Rd w w.heap.size 1 A n (strv la)) (hr' : Rd w w.heap.size 1 A' n' (strv lb))
    (hl : (sealB la).length ≤ 8388608) (hl' : (sealB lb).length ≤ 8388608) (hls : ∀ s ∈ la, s.size ≤ 140737488351232) (hls' : ∀ s ∈ lb, s.size ≤ 140737488351232) :
    Calls Try.prog 8 #[.slice A n c, .slice A' n' c'] w fun e w' => e = .returned (.bool true) ∧ Below w.heap.size w w' := by
  obtain ⟨i0, hi0, hz0, hz1, hz2⟩ := info_parts str_info
  have hnl := rd_len hr
  have hnl' := rd_len hr'
  have hn : n ≤ 8388608 := by have := seal_len la; omega
  have hn' : n' ≤ 8388608 := by have := seal_len lb; omega
  have hlab : (sealB (la ++ lb)).length ≤ 16777216 := by rw [sealB_append, List.length_append]; omega
  have HNL := Lib.hid (show n + n' = (la ++ lb).length by rw [List.length_append]; omega)
  have hlsab : ∀ s ∈ la ++ lb, s.size ≤ 140737488351232 := fun s hs => (List.mem_append.1 hs).elim (hls s) (hls' s)
  -- the two lists sealed, whatever they hold
  have seal_one : ∀ (A : Option Addr) (n c : Nat) (l : List ByteArray) (W : World), Rd W W.heap.size 1 A n (strv l) → (sealB l).length ≤ 8388608 → (∀ s ∈ l, s.size ≤ 140737488351232) → n ≤ 8388608 →
      Calls Try.prog 12 #[.slice A n c] W fun e w' => (fits l ∧ ∃ x : ByteArray, x.data.toList = sealB l ∧ e = .returned (.tuple #[.string x, .int .i64 0]) ∧ Below W.heap.size W w') ∨ (¬ fits l ∧ e = .returned (.tuple #[.string ⟨#[]⟩, .int .i64 2]) ∧ Below W.heap.size W w') := by
    intro A n c l W h1 h2 h3 h4
    by_cases hf : fits l
    · exact (fseal_x W A n c l ⟨(sealB l).toArray⟩ (by simp) hf h1 (by show (sealB l).toArray.size ≤ _; rw [List.size_toArray]; omega) (by omega)).mono fun e w' ⟨he, hb⟩ => .inl ⟨hf, _, by simp, he, hb⟩
    · exact (fseal_bad W A n c l hf h1 (by omega) (by omega) h3).mono fun e w' ⟨he, hb⟩ => .inr ⟨hf, he, hb⟩
  have SO := Lib.hid seal_one
  clear seal_one hnl hnl'
  go_enter Try.func8, Try.ntmps8
  go_wp2_with fail
  refine (flives_any _).mono ?_
  rintro e w1 ⟨rfl, hb1⟩
  go_wp2_with fail
  refine (SO.out A n c la _ ((hr.below hb1).mono hb1.size) hl hls hn).mono ?_
  intro e w2 hw2
  obtain ⟨vx, ex, hfx, rfl, hb2⟩ : ∃ (vx : ByteArray) (ex : Nat), Hid ((fits la ∧ vx.data.toList = sealB la ∧ ex = 0) ∨ (¬ fits la ∧ ex = 2)) ∧ e = .returned (.tuple #[.string vx, .int .i64 (ex : Int)]) ∧ Below w1.heap.size w1 w2 := by
    rcases hw2 with ⟨h1, x, h2, h3, h4⟩ | ⟨h1, h3, h4⟩
    · exact ⟨x, 0, Lib.hid (.inl ⟨h1, h2, rfl⟩), h3, h4⟩
    · exact ⟨_, 2, Lib.hid (.inr ⟨h1, rfl⟩), h3, h4⟩
  clear hw2
  have hb2' := bel hb1 hb2
  go_wp2_with fail
  refine (SO.out A' n' c' lb _ ((hr'.below hb2').mono hb2'.size) hl' hls' hn').mono ?_
  intro e w3 hw3
  obtain ⟨vy, ey, hfy, rfl, hb3⟩ : ∃ (vy : ByteArray) (ey : Nat), Hid ((fits lb ∧ vy.data.toList = sealB lb ∧ ey = 0) ∨ (¬ fits lb ∧ ey = 2)) ∧ e = .returned (.tuple #[.string vy, .int .i64 (ey : Int)]) ∧ Below w2.heap.size w2 w3 := by
    rcases hw3 with ⟨h1, x, h2, h3, h4⟩ | ⟨h1, h3, h4⟩
    · exact ⟨x, 0, Lib.hid (.inl ⟨h1, h2, rfl⟩), h3, h4⟩
    · exact ⟨_, 2, Lib.hid (.inr ⟨h1, rfl⟩), h3, h4⟩
  clear hw3
  have hb3' := bel hb2' hb3
  have hown0 := World.ownsRow_made (base := w.heap.size) (e := 9) (size := 1) w3 #[] 0 hb3'.size (by unfold maxLen; omega) rfl
  have hb3a : Below w.heap.size w (w3.alloc (.cells #[] 9)) := hb3'.alloc hb3'.size _
  have hr3 := hr.below hb3a
  clear hb1 hb2 hb3
  go_wp2_with (at_builtin; refine wpList_app rfl (.tmp 26) (.tmp 27) 22 rfl w.heap.size 9 i0 _ 1 16 Try.underlying22 hi0 hz0 hz1 hz2 rfl (by omega) _ 0 [] w.heap.size A n c (strv la) rfl (by exact hown0) rfl (by exact hr3) (strv_one la) ?c1 ?c2 ?c3 ?_)
  case c1 => omega
  case c2 => unfold maxLen; omega
  case c3 => exact hb3a.size
  intro v4 w4 hown4 hu4 hat4
  have hb4 := below_row hb3a hb3a.size hown0 (Nat.le_refl _) hu4
  have hr4 := hr'.below hb4
  clear hown0 hu4 hat4 hr3 hb3a
  go_wp2_with (at_builtin; refine wpList_app rfl (.tmp 28) (.tmp 29) 22 rfl w.heap.size 9 i0 _ 1 16 Try.underlying22 hi0 hz0 hz1 hz2 rfl (by omega) _ n (strv la) w.heap.size A' n' c' (strv lb) rfl (by exact hown4) rfl (by exact hr4) (strv_one lb) ?c1 ?c2 ?c3 ?_)
  case c1 => omega
  case c2 => unfold maxLen; omega
  case c3 => exact hb4.size
  intro v5 w5 hown5 hu5 hat5
  have hb5 := below_row hb4 hb4.size hown4 (Nat.le_refl _) hu5
  clear hown4 hu5 hat5 hr4 hb4
  rw [← strv_append] at hown5
  obtain ⟨A5, c5, rfl⟩ := own_shape hown5
  have hr5 := Rd.own hown5
  by_cases hfit : fits (la ++ lb)
  · obtain ⟨fa, fb⟩ := fits_append.1 hfit
    obtain ⟨hxx, rfl⟩ : Hid (vx.data.toList = sealB la) ∧ ex = 0 := by
      rcases hfx.out with ⟨_, h, h'⟩ | ⟨h, _⟩
      · exact ⟨Lib.hid h, h'⟩
      · exact absurd fa h
    obtain ⟨hyy, rfl⟩ : Hid (vy.data.toList = sealB lb) ∧ ey = 0 := by
      rcases hfy.out with ⟨_, h, h'⟩ | ⟨h, _⟩
      · exact ⟨Lib.hid h, h'⟩
      · exact absurd fb h
    obtain ⟨z, hz⟩ : ∃ z : ByteArray, z.data.toList = sealB (la ++ lb) := ⟨⟨(sealB (la ++ lb)).toArray⟩, by simp⟩
    have hzz : vx ++ vy = z := add_of hxx.out hyy.out (by rw [hz, sealB_append])
    have hzs : z.size = (sealB (la ++ lb)).length := by rw [← hz]; simp
    have hzl : z.size ≤ 16777216 := by omega
    have hxy : vx.size + vy.size ≤ 16777216 := by rw [← ByteArray.size_append, hzz]; exact hzl
    have HZ := Lib.hid hz
    have HZS := Lib.hid hzs
    clear hz hzs hlab
    go_wp2_with fail
    refine (fseal_x _ _ _ _ (la ++ lb) z HZ.out hfit hr5 (by omega) (by omega)).mono ?_
    rintro e w6 ⟨rfl, hb6⟩
    have hb6' := bel hb5 hb6
    have hown6 := own_below hown5 hb6
    clear hown5 hr5 hb5
    go_wp2_with fail
    refine (fscan_x _ z (la ++ lb) (by rw [HZ.out]; exact scan_seal _ hfit) z.size HZS.out (by omega)).mono ?_
    rintro e w7 ⟨v7, rfl, hown7, hb7⟩
    have hb7' := bel hb6' hb7
    have hr7' := Rd.own (own_below hown6 hb7)
    rw [← HNL.out] at hown7
    obtain ⟨A7, c7, rfl⟩ := own_shape hown7
    have hr7 := Rd.own hown7
    clear hown6 hown7
    go_wp2_with fail
    refine (same_yes _ _ _ _ _ _ (la ++ lb) _ (by unfold maxLen; omega) hr7 hr7').mono ?_
    rintro e w8 ⟨rfl, m8, rfl⟩
    go_wp2
    go_ret
    exact ⟨rfl, ⟨hb7'.os, hb7'.tape, hb7'.output, hb7'.size, hb7'.block⟩⟩
  · go_wp2_with fail
    refine (fseal_bad _ _ _ _ (la ++ lb) hfit hr5 (by omega) (by omega) hlsab).mono ?_
    rintro e w6 ⟨rfl, hb6⟩
    have hb6' := bel hb5 hb6
    have hnf : ¬ (fits la ∧ fits lb) := fun h => hfit (fits_append.2 h)
    rcases hfx.out with ⟨f1, _, rfl⟩ | ⟨_, rfl⟩
    · rcases hfy.out with ⟨f2, _, rfl⟩ | ⟨_, rfl⟩
      · exact absurd ⟨f1, f2⟩ hnf
      · go_wp2
        go_ret
        exact ⟨rfl, hb6'⟩
    · go_wp2
      go_ret
      exact ⟨rfl, hb6'⟩
end Go.Proofs.Ytlhcokpkjbjgpaa
