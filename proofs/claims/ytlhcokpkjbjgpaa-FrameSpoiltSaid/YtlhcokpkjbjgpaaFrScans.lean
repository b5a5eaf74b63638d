/- Frames: the law FrameScans, walked. -/
import Derived.Test.YtlhcokpkjbjgpaaFrSeals
namespace Go.Proofs.Ytlhcokpkjbjgpaa
open Go.RowKit

theorem scan_len (l : List UInt8) : ∀ f k, (scanFrom l f k).1.length ≤ f
  | 0, k => by simp [scanFrom]
  | f + 1, k => by
    unfold scanFrom
    split
    · have := scan_len l f (firstR l (k : Int)).2.1.toNat
      simp only [List.length_cons]; omega
    · simp
theorem own_at {w : World} {base n c : Nat} {e : TypeId} {A : Option Addr} {xs : List Value} (h : w.ownsRow base e 1 (.slice A n c) n xs) (hn : 0 < n) : ∃ g, A = some ⟨g, 0, none⟩ ∧ base ≤ g ∧ g < w.heap.size := by
  obtain ⟨g, cap, hv, h1, h2, _⟩ := own_form h hn
  injection hv with hA _ _
  exact ⟨g, hA, h1, h2⟩
def markB : ByteArray := ⟨#[109, 97, 114, 107]⟩
def moreB : ByteArray := ⟨#[109, 111, 114, 101]⟩
set_option maxHeartbeats 4000000 in
set_option maxRecDepth 20000 in
theorem scans_any (w : World) (s : ByteArray) (a : Int) (hs : s.size ≤ 1048576) (ha0 : -9223372036854775808 ≤ a) (ha1 : a ≤ 9223372036854775807) :
    Calls Try.prog 5 #[.string s, .int .i64 a] w fun e w' => e = .returned (.bool true) ∧ Below w.heap.size w w' := by
  obtain ⟨i0, hi0, hz0, hz1, hz2⟩ := info_parts str_info
  have hsl : s.data.toList.length = s.size := by simp
  have hNl : (scanR s.data.toList).1.length ≤ s.size + 1 := by have := scan_len s.data.toList (s.data.toList.length + 1) 0; rw [← hsl]; exact this
  obtain ⟨ps, m, hsc⟩ : ∃ ps m, scanR s.data.toList = (ps, m) := ⟨_, _, rfl⟩
  obtain ⟨p, i, c, hfr⟩ : ∃ p i c, firstR s.data.toList a = (p, i, c) := ⟨_, _, _, rfl⟩
  rw [hsc] at hNl
  simp only at hNl
  have hA : ∀ W, _ := fun W => scan_any W s (by omega)
  have hC : ∀ W, _ := fun W => rscan_any W s (by omega)
  have hF : ∀ W, _ := fun W => first_any W s a (by omega) ha0 ha1
  have hG : ∀ W, _ := fun W => rfirst_any W s a (by omega) ha0 ha1
  rw [hsc] at hA hC
  rw [hfr] at hF hG
  simp only at hA hC hF hG
  have HA := Lib.hid hA
  have HC := Lib.hid hC
  have HF := Lib.hid hF
  have HG := Lib.hid hG
  clear hA hC hF hG hsc hfr hsl
  obtain ⟨N, hN⟩ : ∃ N, N = ps.length := ⟨_, rfl⟩
  rw [← hN] at hNl
  have HN := Lib.hid hN
  clear hN
  go_enter Try.func5, Try.ntmps5
  go_wp2_with fail
  refine (flives_any _).mono ?_
  rintro e w1 ⟨rfl, hb1⟩
  go_wp2_with fail
  refine (HA.out _).mono ?_
  rintro e w2 ⟨va, rfl, howa, hb2⟩
  have hb2' := bel hb1 hb2
  have hga : ∀ k, va.ownBlock = some k → w1.heap.size ≤ k ∧ k < w2.heap.size := howa.lt
  go_wp2_with fail
  refine (HA.out _).mono ?_
  rintro e w3 ⟨vb, rfl, howb, hb3⟩
  have hb3' := bel hb2' hb3
  have howa3 := own_below howa hb3
  go_wp2_with fail
  refine (HC.out _).mono ?_
  rintro e w4 ⟨vc, rfl, howc, hb4⟩
  have hb4' := bel hb3' hb4
  have howa4 := own_below howa3 hb4
  have howb4 := own_below howb hb4
  go_wp2_with fail
  refine (HF.out _).mono ?_
  rintro e w5 ⟨rfl, hb5⟩
  have hb5' := bel hb4' hb5
  have howa5 := own_below howa4 hb5
  have howb5 := own_below howb4 hb5
  have howc5 := own_below howc hb5
  go_wp2_with fail
  refine (HG.out _).mono ?_
  rintro e w6 ⟨rfl, hb6⟩
  have hb6' := bel hb5' hb6
  have howa6 := own_below howa5 hb6
  have howb6 := own_below howb5 hb6
  have howc6 := own_below howc5 hb6
  obtain ⟨Aa, ca, rfl⟩ := own_shape howa6
  obtain ⟨Ab, cb, rfl⟩ := own_shape howb6
  obtain ⟨Ac, cc, rfl⟩ := own_shape howc6
  rw [← HN.out] at howa6 howb6 howc6 hga ⊢
  have hsz2 : w2.heap.size ≤ w6.heap.size := Nat.le_trans hb3.size (Nat.le_trans hb4.size (Nat.le_trans hb5.size hb6.size))
  clear howa howb howc howa3 howa4 howb4 howa5 howb5 howc5 HA HC HF HG
  have hra := Rd.own howa6
  have hrb := Rd.own howb6
  have hrc := Rd.own howc6
  go_wp2_with fail
  refine (same_yes _ _ N _ _ _ (strsOf ps) _ (by unfold maxLen; omega) hra hrc).mono ?_
  rintro e w7 ⟨rfl, m7, rfl⟩
  go_wp2_with fail
  refine (same_yes _ _ N _ _ _ (strsOf ps) _ (by unfold maxLen; omega) (hrb.drewN m7) (hrc.drewN m7)).mono ?_
  rintro e w8 ⟨rfl, m8, rfl⟩
  clear hra hrb hrc
  have hSb : ∀ k, (Value.slice Ab N cb).ownBlock = some k → ¬ ((Value.slice Aa N ca).ownBlock = some k) := fun k hk hk' => by
    have h1 := (howb6.lt k hk).1
    have h2 := (hga k hk').2
    omega
  have hSc : ∀ k, (Value.slice Ac N cc).ownBlock = some k → ¬ ((Value.slice Aa N ca).ownBlock = some k) := fun k hk hk' => by
    have h1 := (howc6.lt k hk).1
    have h2 := (hga k hk').2
    have := hb3.size
    omega
  have hSw : ∀ k, k < w.heap.size → ¬ ((Value.slice Aa N ca).ownBlock = some k) := fun k hk hk' => by
    have h2 := (hga k hk').1
    have := hb1.size
    omega
  have HSb := Lib.hid hSb
  have HSc := Lib.hid hSc
  have HSw := Lib.hid hSw
  clear hSb hSc hSw hga
  have hNi : (N : Int) ≤ 1048577 := by omega
  go_wp2
  go_loopw [86] (fun i wx => ∃ k : Nat, k ≤ N ∧ i = .int .i64 k ∧ (∃ xs, wx.ownsRow w1.heap.size 9 1 (.slice Aa N ca) N xs) ∧ Upd (fun q => (Value.slice Aa N ca).ownBlock = some q) w6 wx) (fun i _ => N - (intOf i).toNat)
  case atStart => exact ⟨0, Nat.zero_le _, rfl, ⟨_, howa6⟩, (Upd.refl _ _).drewN (m7 + m8)⟩
  case round =>
    obtain ⟨k, hk, rfl, ⟨xs, hown⟩, hu⟩ := hrel
    by_cases hlt : k < N
    · obtain ⟨g, rfl, hg1, hg2⟩ := own_at hown (by omega)
      have hfz := hown.frozenAt k
      have hce := hown.cellAt k (by omega)
      rw [List.getElem?_eq_getElem (by have := hown.1; omega)] at hce
      generalize xs[k]'(by have := hown.1; omega) = y at hce
      have hi1 : (k : Int) < (N : Int) := by omega
      have hi2 : (0 : Int) ≤ (k : Int) := by omega
      have hst := hown.stored k (.string ⟨#[109, 97, 114, 107]⟩)
      go_wp2
      go_roundw
      case rel => exact ⟨k + 1, by omega, by go_num, ⟨_, hst.1⟩, hu.setCell ⟨g, k, none⟩ rfl _⟩
      case measure => simp [intOf]; omega
    · obtain rfl : k = N := by omega
      go_wp2_with (at_builtin; refine wpList_push rfl (.tmp 93) (.tmp 94) 22 rfl w1.heap.size 9 i0 _ 1 16 Try.underlying22 hi0 hz0 hz1 hz2 rfl (by omega) _ k xs #[.string ⟨#[109, 111, 114, 101]⟩] rfl (by exact hown) rfl rfl (by simp [Value.oneCell']) ?c1 ?c2 ?c3 ?_)
      case c1 => omega
      case c2 => unfold maxLen; omega
      case c3 => exact Nat.le_trans (Nat.le_trans hb2.size hsz2) hu.size
      intro v3 w9 hown3 hu3 hat3
      have hu9 := hu.trans hu3 (fun _ _ h => h)
      have howb9 := own_upd howb6 hu9 HSb.out
      have howc9 := own_upd howc6 hu9 HSc.out
      have hb9 := hb6'.trans (hu9.below (fun k hk => HSw.out k hk) hb6'.size)
      obtain ⟨A3, c3, rfl⟩ := own_shape hown3
      have hrb := Rd.own howb9
      have hrc := Rd.own howc9
      clear hown hown3 hu hu3 hat3 howb6 howc6 howa6 hu9
      go_wp2_with fail
      refine (same_yes _ _ k _ _ _ (strsOf ps) _ (by unfold maxLen; omega) hrb hrc).mono ?_
      rintro e w10 ⟨rfl, m10, rfl⟩
      go_wp2
      go_ret
      exact ⟨rfl, ⟨hb9.os, hb9.tape, hb9.output, hb9.size, hb9.block⟩⟩
end Go.Proofs.Ytlhcokpkjbjgpaa
