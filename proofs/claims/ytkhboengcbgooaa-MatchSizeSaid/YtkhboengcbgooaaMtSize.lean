/- Matchings: MatchSize, walked. -/
import Derived.Test.YtkhboengcbgooaaMtMore
namespace Go.Proofs.Ytkhboengcbgooaa
open Go.RowKit
theorem good_same {n m : Int} {l l' : List Eg} (h : GoodG n m l) (hl : l'.length ≤ 4000) (hs : ∀ e ∈ l', e ∈ l) : GoodG n m l' := ⟨h.1, h.2.1, hl, fun e he => h.2.2.2 e (hs e he)⟩
theorem nu_same {l l' : List Eg} {k : Nat} (h : NuIs (natE l) k) (hs : ∀ e, e ∈ l ↔ e ∈ l') : NuIs (natE l') k :=
  h.same fun p => by
    unfold natE
    rw [List.mem_map, List.mem_map]
    exact ⟨fun ⟨e, he, h⟩ => ⟨e, (hs e).1 he, h⟩, fun ⟨e, he, h⟩ => ⟨e, (hs e).2 he, h⟩⟩
set_option maxHeartbeats 8000000 in
set_option maxRecDepth 20000 in
theorem msize_any (w : World) (N M : Int) (A : Option Addr) (k c : Nat) (l : List Eg) (hr : Rd w w.heap.size 2 A k (edgv l)) (hk16 : k * 16 ≤ 140737488351232) :
    Calls Try.prog 5 #[.agg #[.int .i64 N, .int .i64 M, .slice A k c]] w fun e w' => e = .returned (.bool true) ∧ Below w.heap.size w w' := by
  obtain ⟨i0, hi0, hz0, hz1, hz2⟩ := info_parts edge_info
  have HKL := Lib.hid (rd_edglen hr)
  have HR := Lib.hid hr
  clear hr
  have hG := GBox.made w N M A k c
  have HG := Lib.hid hG
  clear hG
  go_enter Try.func5, Try.ntmps5
  go_wp2_with fail
  refine (mlives_any _).mono ?_
  rintro e w2 ⟨rfl, hb2⟩
  have HG2 := Lib.hid (HG.out.below hb2)
  have c2 := HG2.out.c2
  have x1 : IntKind.i64.wrap ((k : Int) - 1) = (k : Int) - 1 := IntWalk.i64_in _ (by omega)
  clear hb2 HG
  go_wp2
  go_loopw [4, 3] (fun iv bv wx => ∃ j : Nat, j ≤ k ∧ iv = .int .i64 ((j : Int) - 1) ∧ Hid (wx.ownsRow (w.heap.size + 1) 26 2 bv (k - j) (edgv (l.drop j).reverse)) ∧ Hid (GBox w wx N M A k c)) (fun iv _ _ => (intOf iv + 1).toNat)
  case atStart => exact ⟨k, Nat.le_refl _, rfl, Lib.hid (by rw [Nat.sub_self, List.drop_of_length_le (by have := HKL.out; omega)]; exact World.ownsRow_nil _ _ _ _), HG2⟩
  case round =>
    clear HG2 c2 x1
    obtain ⟨j, hj, rfl, ho, hG⟩ := hrel
    have hB := hG.out.lt
    have c2 := hG.out.c2
    by_cases hj0 : 0 < j
    · obtain ⟨i, rfl⟩ : ∃ i, j = i + 1 := ⟨j - 1, by omega⟩
      rw [show ((i + 1 : Nat) : Int) - 1 = (i : Int) by omega]
      obtain ⟨b, off, rfl, hbB, hsl, e0, e1⟩ := ((HR.out.below hG.out.bel)).edge (k := i) (by omega)
      have hdr : (l.drop i).reverse = (l.drop (i + 1)).reverse ++ [l[i]] := by rw [List.drop_eq_getElem_cons hsl, List.reverse_cons]
      obtain ⟨⟨ea, eb⟩, he⟩ : ∃ e, l[i] = e := ⟨_, rfl⟩
      rw [he] at e0 e1 hdr
      simp only at e0 e1
      have HDR := Lib.hid hdr
      have HO := ho
      have i1 : (0 : Int) ≤ (i : Int) := by omega
      have i2 : (i : Int) < (k : Int) := by omega
      have x2 : IntKind.i64.wrap ((i : Int) - 1) = (i : Int) - 1 := IntWalk.i64_in _ (by omega)
      obtain ⟨A7, c7, rfl⟩ := own_shape ho.out
      obtain ⟨q, hq⟩ : ∃ q, k - (i + 1) = q := ⟨_, rfl⟩
      rw [hq] at HO ⊢
      have HQ := Lib.hid hq
      clear he hdr ho hq
      go_wp2_with (at_builtin; refine wpList_push rfl (.tmp 19) (.tmp 25) 22 rfl (w.heap.size + 1) 26 i0 _ 2 16 Try.underlying22 hi0 hz0 hz1 hz2 rfl (by omega) _ q _ #[.int .i64 ea, .int .i64 eb] rfl (by exact HO.out) rfl rfl (by simp [Value.oneCell']) ?c1 ?c2 ?c3 ?_)
      case c1 => have := HQ.out; omega
      case c2 => unfold maxLen; have := HQ.out; omega
      case c3 => exact hB
      intro v8 w8 ho8 hu8 _
      have HO8 : Hid (w8.ownsRow (w.heap.size + 1) 26 2 v8 (k - i) (edgv (l.drop i).reverse)) := Lib.hid (by rw [HDR.out, edgv_append, edgv_one, show k - i = q + 1 by have := HQ.out; omega]; exact ho8)
      have HG8 := Lib.hid (hG.out.upd hu8 (fun i hi e => by have := (HO.out.lt i e).1; omega))
      clear ho8 hu8 HO hG e0 e1 c2
      go_wp2
      go_roundw
      case rel => exact ⟨i, by omega, by go_num, HO8, HG8⟩
      case measure => simp [intOf]
    · obtain rfl : j = 0 := by omega
      rw [show ((0 : Nat) : Int) - 1 = -1 by omega]
      have ho2 := ho.out
      rw [List.drop_zero, Nat.sub_zero] at ho2
      obtain ⟨A7, c7, rfl⟩ := own_shape ho2
      have HOW := Lib.hid ho2
      have c0 := hG.out.c0
      have c1 := hG.out.c1
      clear ho ho2
      go_wp2_with fail
      refine (size_any _ N M A k c l (hG.out.rd HR.out)).mono ?_
      rintro e w5 ⟨(⟨hgood, nu, hnu, hnl, rfl⟩ | ⟨hbad, rfl⟩), hb5⟩
      · have HG5 := Lib.hid (hG.out.below hb5)
        have HO5 := Lib.hid (own_below HOW.out hb5)
        have HNU := Lib.hid hnu
        have HGD := Lib.hid hgood
        have HGR : Hid (GoodG N M l.reverse) := Lib.hid (good_same hgood (by rw [List.length_reverse]; exact hgood.2.2.1) fun e he => by simpa using he)
        have c0 := HG5.out.c0
        have c1 := HG5.out.c1
        have hk : k ≤ 4000 := by have := hgood.2.2.1; have := HKL.out; omega
        clear hnu hgood hb5 hG HOW c2
        go_wp2_with fail
        refine (size_any _ N M A7 k c7 l.reverse (Rd.own HO5.out)).mono ?_
        rintro e w6 ⟨(⟨_, mu, hmu, hml, rfl⟩ | ⟨h, _⟩), hb6⟩
        rotate_left
        · exact absurd HGR.out h
        obtain rfl : mu = nu := hmu.uniq (nu_same HNU.out fun e => by simp)
        have HG6 := Lib.hid (HG5.out.below hb6)
        have HO6 := Lib.hid (own_below HO5.out hb6)
        have c0 := HG6.out.c0
        have c1 := HG6.out.c1
        have c2 := HG6.out.c2
        clear hmu hb6 HG5 HO5
        go_wp2_with fail
        refine (rright_any w6 N M A k c l (HG6.out.rd HR.out)).mono ?_
        rintro e w7 ⟨r, rfl, hri, hb7⟩
        obtain rfl : r = true := hri.2 HGD.out
        have HG7 := Lib.hid (HG6.out.below hb7)
        have HO7 := Lib.hid (own_below HO6.out hb7)
        obtain ⟨n0, rfl⟩ : ∃ n0 : Nat, N = n0 := ⟨N.toNat, by have := HGD.out.1; omega⟩
        obtain ⟨m0, rfl⟩ : ∃ m0 : Nat, M = m0 := ⟨M.toNat, by have := HGD.out.2.1; omega⟩
        have hn : n0 ≤ 200 := by have := HGD.out.1; omega
        have hm : m0 ≤ 200 := by have := HGD.out.2.1; omega
        have HALL : Hid (∀ e ∈ l, inE n0 m0 e) := Lib.hid ((good_iff hn hm HGD.out.2.2.1).1 HGD.out)
        have c0 := HG7.out.c0
        have c1 := HG7.out.c1
        have c2 := HG7.out.c2
        clear hri hb7 HG6 HO6
        go_wp2_with fail
        refine (rsize_any w7 n0 m0 A k c l (HG7.out.rd HR.out) hk hn hm HALL.out).mono ?_
        rintro e w8 ⟨⟨nu', hnu5, hnl5, rfl⟩, hb8⟩
        obtain rfl : nu' = mu := hnu5.uniq HNU.out
        have HG8 := Lib.hid (HG7.out.below hb8)
        have HO8 := Lib.hid (own_below HO7.out hb8)
        have x5 : IntKind.i64.wrap (2 * (k : Int)) = 2 * (k : Int) := IntWalk.i64_in _ (by omega)
        have c0 := HG8.out.c0
        have c1 := HG8.out.c1
        have c2 := HG8.out.c2
        clear hnu5 hb8 HG7 HO7
        by_cases hbig : 2 * (k : Int) > 4000
        · go_wp2
          go_ret
          exact ⟨rfl, HG8.out.bel⟩
        · have HGA : Hid (GoodG n0 m0 (l.reverse ++ l)) := Lib.hid (good_same HGD.out (by have := HKL.out; simp; omega) fun e he => by simpa using he)
          go_upto_region 16 with (fail)
          have hbd : Below w8.heap.size w8 w8.drew := ⟨rfl, rfl, rfl, Nat.le_refl _, fun _ _ => rfl⟩
          obtain ⟨v9, w9, happ, ho9, hu9, _⟩ := app_run (P := Try.prog) w8.drew 22 22 (w.heap.size + 1) 26 i0 _ 2 16 Try.underlying22 hi0 hz0 hz1 hz2 rfl (by omega) (.slice A7 k c7) k (edgv l.reverse) w.heap.size A k c (edgv l) HO8.out (HR.out.below (HG8.out.below hbd).bel) (edgv_cell l) (by omega) (by unfold maxLen; omega) (by have := HG8.out.lt; show _ ≤ w8.heap.size; omega)
          rw [← edgv_append] at ho9
          obtain ⟨A9, c9, rfl⟩ := own_shape ho9
          have hG9 : GBox w w9 n0 m0 A k c := (HG8.out.below hbd).upd hu9 (fun i hi e => by have := (HO8.out.lt i e).1; omega)
          have MK : Hid (∀ V, V = w8.drew ∨ V = w9 → V.cell? ⟨w.heap.size, 0, none⟩ = some (.int .i64 n0) ∧ V.cell? ⟨w.heap.size, 1, none⟩ = some (.int .i64 m0) ∧ V.cell? ⟨w.heap.size, 2, none⟩ = some (.slice A k c)) := Lib.hid fun V hV => by
            rcases hV with rfl | rfl
            · exact ⟨(HG8.out.below hbd).c0, (HG8.out.below hbd).c1, (HG8.out.below hbd).c2⟩
            · exact ⟨hG9.c0, hG9.c1, hG9.c2⟩
          have HR9 := Lib.hid (Rd.own ho9)
          have HG9 := Lib.hid hG9
          have HAPP := Lib.hid happ
          clear ho9 hu9 hG9 happ
          go_region_held3 (fun V => V.cell? ⟨w.heap.size, 0, none⟩ = some (.int .i64 n0) ∧ V.cell? ⟨w.heap.size, 1, none⟩ = some (.int .i64 m0) ∧ V.cell? ⟨w.heap.size, 2, none⟩ = some (.slice A k c))
            (first | exact MK.out _ (.inl rfl) | exact MK.out _ (.inr rfl) | exact ⟨HG10.out.c0, HG10.out.c1, HG10.out.c2⟩)
            (first
              | (refine step_append_run (by rfl) (.tmp 92) (.tmp 94) 22 (by rfl) (.slice A7 k c7) (.slice A k c) (by rfl) (by rfl) _ w9 (by exact HAPP.out) ?_)
              | (go_at_call 10; refine (size_any w9 n0 m0 A9 (k + k) c9 (l.reverse ++ l) HR9.out).mono ?_; rintro e w10 ⟨(⟨_, ku, hku, hkl, rfl⟩ | ⟨h, _⟩), hb10⟩; rotate_left; exact absurd HGA.out h; have HG10 := Lib.hid (HG9.out.below hb10))
              | fail)
          obtain rfl : ku = nu' := hku.uniq (nu_same HNU.out fun e => by simp)
          clear hku hb10 MK HR9 HG9 HAPP
          go_wp2
          go_ret
          exact ⟨rfl, HG10.out.bel⟩
      · have HG5 := Lib.hid (hG.out.below hb5)
        have HO5 := Lib.hid (own_below HOW.out hb5)
        have HBAD := Lib.hid hbad
        have HBR : Hid (¬ GoodG N M l.reverse) := Lib.hid fun h => hbad (good_same h (by have := h.2.2.1; rwa [List.length_reverse] at this) fun e he => by simpa using he)
        have c0 := HG5.out.c0
        have c1 := HG5.out.c1
        clear hbad hb5 hG HOW c2
        go_wp2_with fail
        refine (size_any _ N M A7 k c7 l.reverse (Rd.own HO5.out)).mono ?_
        rintro e w6 ⟨(⟨h, _⟩ | ⟨_, rfl⟩), hb6⟩
        · exact absurd h HBR.out
        have HG6 := Lib.hid (HG5.out.below hb6)
        have c0 := HG6.out.c0
        have c1 := HG6.out.c1
        have c2 := HG6.out.c2
        clear hb6 HG5 HO5
        go_wp2_with fail
        refine (rright_any w6 N M A k c l (HG6.out.rd HR.out)).mono ?_
        rintro e w7 ⟨r, rfl, hri, hb7⟩
        have hr : r = false := by
          cases r with
          | false => rfl
          | true => exact absurd (hri.1 rfl) HBAD.out
        subst hr
        have HG7 := Lib.hid (HG6.out.below hb7)
        clear hri hb7 HG6
        go_wp2
        go_ret
        exact ⟨rfl, HG7.out.bel⟩
end Go.Proofs.Ytkhboengcbgooaa
