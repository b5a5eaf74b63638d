/- Matchings: what the laws' own helpers say. -/
import Derived.Test.YtkhboengcbgooaaMtCover
import Derived.Test.YtkhboengcbgooaaMtRight
import Derived.Test.YtkhboengcbgooaaMtRSize
import Derived.Test.YtkhboengcbgooaaIMap
import Derived.DeepKeys4
import Derived.Lib.SmallJoins
namespace Go.Proofs.Ytkhboengcbgooaa
open Go.RowKit
open Go.Maps (Keyed)
theorem OwnQ.rd {w : World} {base n c : Nat} {A : Option Addr} {T : List Nat} (h : OwnQ w base (.slice A n c) T) : n = T.length ∧ Rd w w.heap.size 1 A T.length (natv T) := by
  obtain ⟨A', c', e⟩ := h.shape
  injection e with e1 e2 e3
  refine ⟨e2, by rw [natv_length]; simp, fun hn => ?_⟩
  subst e1; subst e2; subst e3
  rcases h with ⟨hv, hT⟩ | ⟨g, off, cap, cur, hv, hb, hg, h1, h2, h3, h4⟩
  · rw [hT] at hn; simp at hn
  · injection hv with hv1 hv2 hv3
    subst hv1; subst hv3
    refine ⟨_, rfl, (Array.getElem?_eq_some_iff.1 hg).1, fun j u hu => ?_⟩
    have := OwnQ.holds (w := w) (base := base) (g := g) (off := off) (n := T.length) (c := c) (T := T) (.inr ⟨g, off, c, cur, rfl, hb, hg, h1, h2, h3, h4⟩) j u hu
    rw [add_flat]
    exact this
theorem Rd.nat {w : World} {B n k : Nat} {A : Option Addr} {T : List Nat} (h : Rd w B 1 A n (natv T)) (hk : k < n) :
    ∃ b off, A = some ⟨b, off, none⟩ ∧ b < B ∧ ∃ hs : k < T.length, w.cell? ⟨b, off + k, none⟩ = some (.int .i64 (T[k] : Int)) := by
  have hs : k < T.length := by have := h.len; rw [natv_length] at this; omega
  obtain ⟨ad, u, e, hb, hu, hc⟩ := h.get hk
  rw [natv_get T k hs] at hu
  injection hu with hu
  subst hu
  obtain ⟨b, off, spot⟩ := ad
  obtain ⟨ad', e', hb', hc'⟩ := h.at_ (by omega)
  rw [e] at e'
  injection e' with e'
  subst e'
  have h0 := hc' 0 _ (natv_get T 0 (by omega))
  have hspot : spot = none := by simpa [Addr.add] using World.cell?_spot h0
  subst hspot
  rw [add_flat] at hc
  exact ⟨b, off, e, hb, hs, hc⟩
attribute [local go_sem] undef in
set_option maxHeartbeats 4000000 in
theorem rising_yes (w : World) (A : Option Addr) (c k n : Nat) (T : List Nat) (hr : Rd w w.heap.size 1 A k (natv T)) (hT : k ≤ 1048576) (hlt : ∀ x ∈ T, x < n) (hp : T.Pairwise (· < ·)) :
    Calls Try.prog 13 #[.slice A k c, .int .i64 n] w fun e w' => e = .returned (.bool true) ∧ w' = w := by
  have HK : Hid (k = T.length) := Lib.hid (by have := hr.len; rw [natv_length] at this; omega)
  have HR := Lib.hid hr
  have HLT := Lib.hid hlt
  have HP := Lib.hid hp
  clear hr hlt hp
  go_enter Try.func13, Try.ntmps13
  go_wp2
  go_loopw [9] (fun i wx => ∃ j : Nat, j ≤ k ∧ i = .int .i64 j ∧ wx = w) (fun i _ => k - (intOf i).toNat)
  case atStart => exact ⟨0, Nat.zero_le _, rfl, rfl⟩
  case round =>
    obtain ⟨j, hj, rfl, rfl⟩ := hrel
    by_cases hlt : j < k
    · obtain ⟨b, off, rfl, hb, hjT, c0⟩ := HR.out.nat hlt
      obtain ⟨x, hx⟩ : ∃ x, T[j] = x := ⟨_, rfl⟩
      have hxn : x < n := HLT.out x (by rw [← hx]; exact List.getElem_mem hjT)
      rw [hx] at c0
      have b1 : decide ((x : Int) < 0) = false := decide_eq_false (by omega)
      have b2 : decide ((x : Int) ≥ (n : Int)) = false := decide_eq_false (by omega)
      have b6 : decide (n ≤ x) = false := decide_eq_false (by omega)
      rcases Nat.eq_zero_or_pos j with rfl | hj0
      · rw [Nat.add_zero] at c0
        clear hx
        go_wp2
        go_roundw
        case rel => exact ⟨1, by omega, rfl, trivial⟩
        case measure => simp [intOf]; omega
      · obtain ⟨i, rfl⟩ : ∃ i, j = i + 1 := ⟨j - 1, by omega⟩
        obtain ⟨b', off', e, _, hiT, c1⟩ := HR.out.nat (k := i) (by omega)
        injection e with e
        injection e with e1 e2
        subst e1; subst e2
        have hlt2 : T[i] < x := by
          rw [← hx]
          exact List.pairwise_iff_getElem.1 HP.out i (i + 1) (by omega) hjT (by omega)
        obtain ⟨y, hy⟩ : ∃ y, T[i] = y := ⟨_, rfl⟩
        rw [hy] at c1 hlt2
        have b3 : decide (((i + 1 : Nat) : Int) > 0) = true := decide_eq_true (by omega)
        have b4 : IntKind.i64.wrap (((i + 1 : Nat) : Int) - 1) = (i : Int) := by rw [IntWalk.i64_in _ (by omega)]; omega
        have b5 : decide ((y : Int) ≥ (x : Int)) = false := decide_eq_false (by omega)
        clear hx hy
        go_wp2
        go_roundw
        case rel => exact ⟨i + 2, by omega, by go_num, trivial⟩
        case measure => simp [intOf]; omega
    · obtain rfl : j = k := by omega
      go_wp2
      go_ret
      exact ⟨rfl, rfl⟩
end Go.Proofs.Ytkhboengcbgooaa
