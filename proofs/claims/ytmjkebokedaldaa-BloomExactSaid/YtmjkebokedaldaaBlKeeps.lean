/- Bloom: the law BloomKeeps, walked. -/
import Derived.Test.YtmjkebokedaldaaBlLives
namespace Go.Proofs.Ytmjkebokedaldaa
open Go.RowKit

theorem str_info : (Try.prog.info? 9).map (fun i => (i.zero, i.size, i.bytes)) = some (some (.string ByteArray.empty), 1, 16) := by kernel_rfl
theorem build_f (f : ByteArray) (A : Option Addr) (n c : Nat) (ks : List ByteArray) (w : World) (hf : f = ⟨(bld ks).toArray⟩) (hn : n * 16 ≤ 140737488351232) (hr : Rd w w.heap.size 1 A n (strv ks)) (hks : ∀ k ∈ ks, k.size ≤ maxLen) :
    Calls Try.prog 13 #[.slice A n c] w fun e w' => e = .returned (.string f) ∧ Below w.heap.size w w' := by
  subst hf; exact build_any A n c ks w hn hr hks
theorem may_f (f key : ByteArray) (w : World) (ks : List ByteArray) (hf : f = ⟨(bld ks).toArray⟩) (hfs : f.size ≤ 140737488351232) (hk : key ∈ ks) (hks : ∀ k ∈ ks, k.size ≤ maxLen) :
    Calls Try.prog 18 #[.string f, .string key] w fun e w' => e = .returned (.bool true) ∧ Below w.heap.size w w' :=
  (may_any f key w hfs (hks _ hk)).mono fun e w' ⟨he, hb⟩ => ⟨by
    rw [he, show f.data.toList = bld ks by rw [hf], may_bld ks key hk], hb⟩
theorem rev_get (ks : List ByteArray) (k n : Nat) (hn : ks.length = n) (hk : k < n) : ks.reverse.take (k + 1) = ks.reverse.take k ++ [ks[n - 1 - k]'(by omega)] := by
  rw [List.take_succ_eq_append_getElem (by simpa [hn] using hk), List.getElem_reverse]
  simp only [hn]

theorem empty_test {ks : List ByteArray} {n : Nat} {f : ByteArray} (hn : ks.length = n) (hf : f = ⟨(bld ks).toArray⟩) : (!(f.toList.isEmpty == ((n : Int) == 0))) = false := by
  have h1 : f.toList = bld ks := by rw [hf, ByteArray.toList_mk]
  rw [h1]
  by_cases h : ks = []
  · subst h; simp at hn; subst hn; rfl
  · have h2 : (bld ks).isEmpty = false := by
      cases hb : bld ks with
      | nil => exact absurd ((bld_nil_iff ks).1 hb) h
      | cons a l => rfl
    have h3 : ((n : Int) == 0) = false := by rw [beq_eq_false_iff_ne]; have := length_pos_of h; omega
    rw [h2, h3]; rfl

set_option maxHeartbeats 1000000 in
theorem keeps_any (A : Option Addr) (n c : Nat) (ks : List ByteArray) (w : World) (hn : n * 16 ≤ 140737488351232) (hr : Rd w w.heap.size 1 A n (strv ks)) (hks : ∀ k ∈ ks, k.size ≤ maxLen) :
    Calls Try.prog 4 #[.slice A n c] w fun e w' => e = .returned (.bool true) ∧ Below w.heap.size w w' := by
  have hlen := Lib.hid (show ks.length = n by have := hr.len; rw [strv_length] at this; omega)
  obtain ⟨i0, hi0, hz0, hz1, hz2⟩ := info_parts str_info
  obtain ⟨f, hf⟩ : ∃ f : ByteArray, f = ⟨(bld ks).toArray⟩ := ⟨_, rfl⟩
  have hfs : f.size ≤ 140737488351232 := by
    have h1 : f.size = (bld ks).length := by rw [hf]; rfl
    rw [h1, bld_length]
    have := hlen.out
    split
    · omega
    · unfold blen; omega
  have hback := Lib.hid (show f = ⟨(bld (ks.reverse.take n)).toArray⟩ by rw [hf, List.take_of_length_le (by simp [hlen.out]), bld_reverse])
  have HF := Lib.hid hf
  clear hf
  go_enter Try.func4, Try.ntmps4
  go_wp2_with fail
  refine (lives_any _).mono ?_
  rintro e w1 ⟨rfl, hb1⟩
  go_wp2
  go_loopw [3, 4] (fun v i wx => ∃ k : Nat, k ≤ n ∧ i = .int .i64 ((n : Int) - 1 - (k : Int)) ∧ wx.ownsRow w.heap.size 9 1 v k (strv (ks.reverse.take k)) ∧ Below w.heap.size w wx) (fun _ i _ => (intOf i + 1).toNat)
  case atStart => exact ⟨0, Nat.zero_le _, by go_num, World.ownsRow_nil _ _ _ _, hb1⟩
  case round =>
    obtain ⟨k, hk, rfl, hown, hbx⟩ := hrel
    by_cases hlt : k < n
    · obtain ⟨ad, rfl, hab, hs, hc⟩ := hr.str (k := n - 1 - k) (by omega)
      have hcr : wr.cell? (ad.add (n - 1 - k)) = some (.string ks[n - 1 - k]) := by rw [hbx.cell (by rw [block_add]; exact hab)]; exact hc
      have HR := Lib.hid (rev_get ks k n hlen.out hlt)
      go_wp2_with (at_builtin; refine wpList_append_new rfl _ _ 22 rfl w.heap.size 9 i0 (.string ByteArray.empty) 1 16 Try.underlying22 hi0 hz0 hz1 hz2 rfl (by decide) _ _ _ #[.string ks[n - 1 - k]] rfl (by exact hown) rfl rfl ?c1 ?c2 ?c3 ?c4 ?_)
      case c1 => first | rfl | (intro u hu; simp at hu; subst hu; rfl)
      case c2 => omega
      case c3 => unfold maxLen; omega
      case c4 => exact hbx.size
      intro v' w2 hown2 hg2
      have hb2 := below_app hbx hbx.size hown (Nat.le_refl _) hg2
      have hown3 : w2.ownsRow w.heap.size 9 1 v' (k + 1) (strv (ks.reverse.take (k + 1))) := by rw [HR.out, strv, List.map_append]; exact hown2
      clear hown hown2 hg2 hbx hcr hc
      go_wp2
      go_roundw
      case rel => exact ⟨k + 1, by omega, by go_num, hown3, hb2⟩
      case measure => simp [intOf]; omega
    · obtain rfl : k = n := by omega
      obtain ⟨A', c', hv⟩ := own_shape hown
      have hrd := Rd.own (hv ▸ hown)
      have hr2 := (hr.below hbx).mono hbx.size
      have hks' : ∀ q ∈ ks.reverse.take k, q.size ≤ maxLen := fun q hq => hks q (by simpa using List.mem_of_mem_take hq)
      go_wp2_with fail
      refine (build_f f A k c ks _ HF.out hn hr2 hks).mono ?_
      rintro e w2 ⟨rfl, hb2⟩
      have hrd2 := (hrd.below hb2).mono hb2.size
      go_wp2_with fail
      refine (build_f f A' k c' (ks.reverse.take k) _ hback.out hn hrd2 hks').mono ?_
      rintro e w3 ⟨rfl, hb3⟩
      have ht : (!(f.toList.isEmpty == ((k : Int) == 0))) = false := empty_test hlen.out HF.out
      have hbf : Below w.heap.size w w3 := (hbx.trans (hb2.mono hbx.size)).trans (hb3.mono (Nat.le_trans hbx.size hb2.size))
      clear hb1 hbx hb2 hb3 hrd hrd2 hr2 hback hown hks'
      go_wp2
      go_loopw [7, 40] (fun u i wx => ∃ q : Nat, q ≤ k ∧ i = .int .i64 q ∧ Below w.heap.size w wx) (fun _ i _ => k - (intOf i).toNat)
      case atStart => exact ⟨0, Nat.zero_le _, rfl, hbf⟩
      case round =>
        obtain ⟨q, hq, rfl, hbq⟩ := hrel
        by_cases hlq : q < k
        · obtain ⟨ad, rfl, hab, hs, hc⟩ := hr.str hlq
          have hcr : wr.cell? (ad.add q) = some (.string ks[q]) := by rw [hbq.cell (by rw [block_add]; exact hab)]; exact hc
          go_wp2_with (go_at_call 18; refine (may_f f _ _ ks HF.out hfs (List.getElem_mem hs) hks).mono ?_; rintro e w4 ⟨rfl, hb4⟩)
          go_roundw
          case rel => exact ⟨q + 1, by omega, by go_num, hbq.trans (hb4.mono hbq.size)⟩
          case measure => simp [intOf]; omega
        · go_wp2
          go_ret
          exact ⟨rfl, hbq⟩
end Go.Proofs.Ytmjkebokedaldaa
