/- Bloom: the law BloomGrows, walked. -/
import Derived.Test.YtmjkebokedaldaaBlLives
namespace Go.Proofs.Ytmjkebokedaldaa
open Go.RowKit

theorem orb_get (f m : ByteArray) (k : Nat) (hk : k < f.size) : (orb f.data.toList m.data.toList).take (k + 1) = (orb f.data.toList m.data.toList).take k ++
    [if h : k < m.size then UInt8.ofNat (f[k].toNat ||| m[k].toNat) else f[k]] := by
  rw [List.take_succ_eq_append_getElem (by rw [orb_length]; simpa using hk)]
  congr 2
  unfold orb
  simp only [List.getElem_map, List.getElem_range]
  rw [getD_data f k hk]
  by_cases h : k < m.size
  · rw [dif_pos h, if_pos (by simpa using h), getD_data m k h]
  · rw [dif_neg h, if_neg (by simpa using h)]
theorem or_bytes (a b : UInt8) : bits BinOp.or IntKind.u8 (a.toNat : Int) (b.toNat : Int) = (((UInt8.ofNat (a.toNat ||| b.toNat)).toNat : Nat) : Int) := by
  rw [u8_or_nat _ _ a.toNat_lt b.toNat_lt]
  have h3 : a.toNat ||| b.toNat < 2 ^ 8 := Nat.or_lt_two_pow a.toNat_lt b.toNat_lt
  rw [UInt8.toNat_ofNat', Nat.mod_eq_of_lt (by omega)]
theorem bytv_one_eq (b : UInt8) : bytv [b] = [Value.int .u8 (b.toNat : Int)] := rfl
theorem may_g (g key : ByteArray) (w : World) (f m : ByteArray) (hg : g = ⟨(orb f.data.toList m.data.toList).toArray⟩) (hgs : g.size ≤ 140737488351232) (hk : key.size ≤ maxLen) (h : may f.data.toList key.data.toList = true) :
    Calls Try.prog 18 #[.string g, .string key] w fun e w' => e = .returned (.bool true) ∧ Below w.heap.size w w' :=
  (may_any g key w hgs hk).mono fun e w' ⟨he, hb⟩ => ⟨by
    rw [he, show g.data.toList = orb f.data.toList m.data.toList by rw [hg], may_orb _ _ _ h], hb⟩
theorem may_two (f key : ByteArray) (w : World) (b : Bool) (hb : may f.data.toList key.data.toList = b) (hf : f.size ≤ 140737488351232) (hk : key.size ≤ maxLen) :
    Calls Try.prog 18 #[.string f, .string key] w fun e w' => e = .returned (.bool b) ∧ Below w.heap.size w w' := by
  subst hb; exact may_any f key w hf hk

set_option maxHeartbeats 1000000 in
theorem grows_any (f m : ByteArray) (A : Option Addr) (n c : Nat) (ks : List ByteArray) (w : World) (hf : f.size ≤ 140737488351232) (hn : n * 16 ≤ 140737488351232) (hr : Rd w w.heap.size 1 A n (strv ks)) (hks : ∀ k ∈ ks, k.size ≤ maxLen) :
    Calls Try.prog 5 #[.string f, .string m, .slice A n c] w fun e w' => e = .returned (.bool true) ∧ Below w.heap.size w w' := by
  obtain ⟨i0, hi0, hz0, hz1, hz2⟩ := info_parts u8_info
  go_enter Try.func5, Try.ntmps5
  go_wp2_with fail
  refine (lives_any _).mono ?_
  rintro e w1 ⟨rfl, hb1⟩
  go_wp2
  go_loopw [7, 8] (fun v i wx => ∃ k : Nat, k ≤ f.size ∧ i = .int .i64 k ∧ wx.ownsRow w.heap.size 5 1 v k (bytv ((orb f.data.toList m.data.toList).take k)) ∧ Below w.heap.size w wx) (fun _ i _ => f.size - (intOf i).toNat)
  case atStart => exact ⟨0, Nat.zero_le _, rfl, World.ownsRow_nil _ _ _ _, hb1⟩
  case round =>
    obtain ⟨k, hk, rfl, hown, hbx⟩ := hrel
    by_cases hlt : k < f.size
    · have HR := Lib.hid (orb_get f m k hlt)
      by_cases hm2 : k < m.size
      · have HO := Lib.hid (or_bytes f[k] m[k])
        go_wp2_with (at_builtin; refine wpList_append_new rfl _ _ 32 rfl w.heap.size 5 i0 (.int .u8 0) 1 1 Try.underlying32 hi0 hz0 hz1 hz2 rfl (by decide) _ _ _ #[.int .u8 (bits BinOp.or IntKind.u8 (f[k].toNat : Int) (m[k].toNat : Int))] rfl (by exact hown) rfl rfl ?c1 ?c2 ?c3 ?c4 ?_)
        case c1 => first | rfl | (intro u hu; simp at hu; subst hu; rfl)
        case c2 => omega
        case c3 => unfold maxLen; omega
        case c4 => exact hbx.size
        intro v' w2 hown2 hg2
        have hb2 := below_app hbx hbx.size hown (Nat.le_refl _) hg2
        have hown3 : w2.ownsRow w.heap.size 5 1 v' (k + 1) (bytv ((orb f.data.toList m.data.toList).take (k + 1))) := by
          rw [HR.out, dif_pos hm2, bytv_append, bytv_one_eq, ← HO.out]; exact hown2
        clear hown hown2 hg2 hbx
        go_wp2
        go_roundw
        case rel => exact ⟨k + 1, by omega, by go_num, hown3, hb2⟩
        case measure => simp [intOf]; omega
      · go_wp2_with (at_builtin; refine wpList_append_new rfl _ _ 32 rfl w.heap.size 5 i0 (.int .u8 0) 1 1 Try.underlying32 hi0 hz0 hz1 hz2 rfl (by decide) _ _ _ #[.int .u8 (f[k].toNat : Int)] rfl (by exact hown) rfl rfl ?c5 ?c6 ?c7 ?c8 ?_)
        case c5 => first | rfl | (intro u hu; simp at hu; subst hu; rfl)
        case c6 => omega
        case c7 => unfold maxLen; omega
        case c8 => exact hbx.size
        intro v' w2 hown2 hg2
        have hb2 := below_app hbx hbx.size hown (Nat.le_refl _) hg2
        have hown3 : w2.ownsRow w.heap.size 5 1 v' (k + 1) (bytv ((orb f.data.toList m.data.toList).take (k + 1))) := by
          rw [HR.out, dif_neg hm2, bytv_append, bytv_one_eq]; exact hown2
        clear hown hown2 hg2 hbx
        go_wp2
        go_roundw
        case rel => exact ⟨k + 1, by omega, by go_num, hown3, hb2⟩
        case measure => simp [intOf]; omega
    · obtain rfl : k = f.size := by omega
      rw [List.take_of_length_le (by rw [orb_length]; simp)] at hown
      obtain ⟨g, hg⟩ : ∃ g : ByteArray, g = ⟨(orb f.data.toList m.data.toList).toArray⟩ := ⟨_, rfl⟩
      have hgs : g.size ≤ 140737488351232 := by
        have h1 : g.size = (orb f.data.toList m.data.toList).length := by rw [hg]; rfl
        rw [h1, orb_length]; simpa using hf
      have HG := Lib.hid hg
      clear hg
      go_wp2
      go_loopw [11, 38] (fun u i wx => ∃ q : Nat, q ≤ n ∧ i = .int .i64 q ∧ wx.ownsRow w.heap.size 5 1 u7 f.size (bytv (orb f.data.toList m.data.toList)) ∧ Below w.heap.size w wx) (fun _ i _ => n - (intOf i).toNat)
      case atStart => exact ⟨0, Nat.zero_le _, rfl, hown, hbx⟩
      case round =>
        obtain ⟨q, hq, rfl, hownq, hbq⟩ := hrel
        by_cases hlq : q < n
        · obtain ⟨ad, rfl, hab, hs, hc⟩ := hr.str hlq
          have hcr : wr.cell? (ad.add q) = some (.string ks[q]) := by rw [hbq.cell (by rw [block_add]; exact hab)]; exact hc
          cases hmy : may f.data.toList ks[q].data.toList
          all_goals have HM := Lib.hid hmy; clear hmy
          · go_wp2_with (go_at_call 18; refine (may_two f _ _ false HM.out hf (hks _ (List.getElem_mem hs))).mono ?_; rintro e w4 ⟨rfl, hb4⟩)
            go_roundw
            case rel => exact ⟨q + 1, by omega, by go_num, own_below hownq hb4, hbq.trans (hb4.mono hbq.size)⟩
            case measure => simp [intOf]; omega
          · go_wp2_with fail
            refine (may_two f _ _ true HM.out hf (hks _ (List.getElem_mem hs))).mono ?_
            rintro e w4 ⟨rfl, hb4⟩
            have hcv := conv_own (P := Try.prog) (src := 32) (dst := 9) Try.underlying32 Try.underlying5 Try.underlying9 (own_below hownq hb4)
            rw [← HG.out] at hcv
            go_wp2_with fail
            refine (may_g g _ _ f m HG.out hgs (hks _ (List.getElem_mem hs)) HM.out).mono ?_
            rintro e w5 ⟨rfl, hb5⟩
            go_wp2
            go_roundw
            case rel => exact ⟨q + 1, by omega, by go_num, own_below (own_below hownq hb4) hb5, (hbq.trans (hb4.mono hbq.size)).trans (hb5.mono (Nat.le_trans hbq.size hb4.size))⟩
            case measure => simp [intOf]; omega
        · go_wp2
          go_ret
          exact ⟨rfl, hbq⟩
end Go.Proofs.Ytmjkebokedaldaa
