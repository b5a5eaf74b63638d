/- Pack: the law PackLists, walked. -/
import Derived.Test.YtmjkebokedaldaaPkLives
import Derived.Test.YtmjkebokedaldaaSame
import Derived.Test.YtmjkebokedaldaaSameInts
import Derived.Deep.RegionHeld3
namespace Go.Proofs.Ytmjkebokedaldaa
open Go.RowKit

theorem u64_info : (Try.prog.info? 27).map (fun i => (i.zero, i.size, i.bytes)) = some (some (.int .u64 0), 1, 8) := by kernel_rfl
theorem int_info : (Try.prog.info? 3).map (fun i => (i.zero, i.size, i.bytes)) = some (some (.int .i64 0), 1, 8) := by kernel_rfl
theorem str_info : (Try.prog.info? 9).map (fun i => (i.zero, i.size, i.bytes)) = some (some (.string ByteArray.empty), 1, 16) := by kernel_rfl
theorem numsB_take (l : List Nat) (k : Nat) (h : k < l.length) : numsB (l.take (k + 1)) = numsB (l.take k) ++ numB l[k] := by
  rw [List.take_succ_eq_append_getElem h, numsB_snoc]
theorem intsB_take (l : List Int) (k : Nat) (h : k < l.length) : intsB (l.take (k + 1)) = intsB (l.take k) ++ intB l[k] := by
  rw [List.take_succ_eq_append_getElem h, intsB_snoc]
theorem numsB_take_len (l : List Nat) (k : Nat) : (numsB (l.take k)).length ≤ (numsB l).length := by
  have : numsB l = numsB (l.take k) ++ numsB (l.drop k) := by unfold numsB; rw [← List.flatMap_append, List.take_append_drop]
  rw [this, List.length_append]; omega
theorem intsB_take_len (l : List Int) (k : Nat) : (intsB (l.take k)).length ≤ (intsB l).length := by
  have : intsB l = intsB (l.take k) ++ intsB (l.drop k) := by unfold intsB; rw [← List.flatMap_append, List.take_append_drop]
  rw [this, List.length_append]; omega
/-- A row of n elements and one behind them: what its first n read as, and the one. -/
theorem own_copy {w W : World} {base e n : Nat} {v x : Value} {xs : List Value} (h : w.ownsRow base e 1 v (n + 1) (xs ++ [x])) (hn : xs.length = n) (hb : Below w.heap.size w W) :
    ∃ g cap, v = .slice (some ⟨g, 0, none⟩) (n + 1) cap ∧ base ≤ g ∧ g < w.heap.size ∧ n + 1 ≤ cap ∧ cap ≤ maxLen ∧ Rd W w.heap.size 1 (some ⟨g, 0, none⟩) n xs ∧ W.cell? ⟨g, n, none⟩ = some x := by
  obtain ⟨g, cap, rfl, h1, h2, h3, h4⟩ := own_form h (by omega)
  refine ⟨g, cap, rfl, h1, h2, h3, h4, ?_, ?_⟩
  · have := ((Rd.own h).take n (by omega)).below hb
    rw [Nat.mul_one, List.take_append_of_le_length (by omega), List.take_of_length_le (by omega)] at this
    exact this
  · rw [hb.cell (p := ⟨g, n, none⟩) h2, h.cellAt n (by omega), List.getElem?_append_right (by omega), hn, Nat.sub_self]
    rfl
theorem hid_drew {w W : World} (h : Hid (∃ m, W = w.drewN m)) : Hid (∃ m, W.drew = w.drewN m) := by
  obtain ⟨m, rfl⟩ := h
  exact ⟨m + 1, rfl⟩
theorem below_hid {w w2 w3 : World} (h : Below w.heap.size w w2) (e : Hid (∃ m, w3 = w2.drewN m)) : Below w.heap.size w w3 := by
  obtain ⟨m, rfl⟩ := e
  exact ⟨h.os, h.tape, h.output, h.size, h.block⟩
theorem intsB_len (l : List Int) (h : ∀ x ∈ l, -9223372036854775808 ≤ x ∧ x ≤ 9223372036854775807) : (intsB l).length ≤ 10 * l.length := by
  induction l with
  | nil => simp [intsB]
  | cons x l ih =>
    have h1 : intsB (x :: l) = intB x ++ intsB l := by simp [intsB]
    have hx := h x List.mem_cons_self
    have h2 := intB_len x hx.1 hx.2
    have h3 := ih fun y hy => h y (List.mem_cons_of_mem _ hy)
    rw [h1, List.length_append, List.length_cons]; omega
theorem textsB_len (l : List ByteArray) (h : ∀ s ∈ l, s.size ≤ 140737488351232) : (textsB l).length ≤ 10 * (l.map fun s => s.size + 1).sum := by
  induction l with
  | nil => simp [textsB]
  | cons s l ih =>
    have h1 : textsB (s :: l) = textB s.data.toList ++ textsB l := by simp [textsB]
    have hs : s.data.toList.length = s.size := by simp
    have hz := h s List.mem_cons_self
    have h2 := numB_len10 s.data.toList.length (by omega)
    have h3 := ih fun y hy => h y (List.mem_cons_of_mem _ hy)
    rw [h1, List.length_append, textB, List.length_append, List.map_cons, List.sum_cons]; omega
theorem strs_len (l : List ByteArray) : l.length ≤ (l.map fun s => s.size + 1).sum := by
  induction l with
  | nil => simp
  | cons s l ih => rw [List.map_cons, List.sum_cons, List.length_cons]; omega
set_option maxHeartbeats 16000000 in
set_option maxRecDepth 100000 in
theorem lists_any (w : World) (A : Option Addr) (n c : Nat) (l : List Nat) (A' : Option Addr) (n' c' : Nat) (l' : List Int) (A'' : Option Addr) (n'' c'' : Nat) (l'' : List ByteArray)
    (hr : Rd w w.heap.size 1 A n (u64v l)) (hr' : Rd w w.heap.size 1 A' n' (i64v l')) (hr'' : Rd w w.heap.size 1 A'' n'' (strv l''))
    (h64 : ∀ x ∈ l, x < 18446744073709551616) (h64' : ∀ x ∈ l', -9223372036854775808 ≤ x ∧ x ≤ 9223372036854775807) (hls : ∀ s ∈ l'', s.size ≤ 140737488351232)
    (hn0 : l.length ≤ 1048576) (hn0' : l'.length ≤ 1048576) (hn0'' : l''.length ≤ 1048576) (hl : (numsB l).length ≤ 10485760) (hl' : (intsB l').length ≤ 10485760) (hl'' : (textsB l'').length ≤ 10485760) :
    Calls Try.prog 6 #[.slice A n c, .slice A' n' c', .slice A'' n'' c''] w fun e w' => e = .returned (.bool true) ∧ Below w.heap.size w w' := by
  obtain ⟨i0, hi0, hz0, hz1, hz2⟩ := info_parts u8_info
  obtain ⟨iu, hiu, hu0, hu1, hu2⟩ := info_parts u64_info
  obtain ⟨ii, hii, hj0, hj1, hj2⟩ := info_parts int_info
  obtain ⟨is, his, hs0, hs1, hs2⟩ := info_parts str_info
  have hn : n ≤ 1048576 := by have := hr.len; rw [u64v_length] at this; omega
  have hn' : n' ≤ 1048576 := by have := hr'.len; rw [i64v_length] at this; omega
  have hn'' : n'' ≤ 1048576 := by have := hr''.len; rw [strv_length] at this; omega
  clear hn0 hn0' hn0''
  have HL := Lib.hid (show l.length = n by have := hr.len; rw [u64v_length] at this; omega)
  have HL' := Lib.hid (show l'.length = n' by have := hr'.len; rw [i64v_length] at this; omega)
  have HL'' := Lib.hid (show l''.length = n'' by have := hr''.len; rw [strv_length] at this; omega)
  go_enter Try.func6, Try.ntmps6
  go_wp2_with fail
  refine (plives_any _).mono ?_
  rintro e w1 ⟨rfl, hb1⟩
  -- a
  have own0 := World.ownsRow_made (base := w.heap.size) (e := 27) (size := 1) w1 #[] 0 hb1.size (by unfold maxLen; omega) rfl
  have hb1a : Below w.heap.size w (w1.alloc (.cells #[] 27)) := hb1.alloc hb1.size _
  have hra := hr.below hb1a
  go_wp2_with (at_builtin; refine wpList_app rfl (.tmp 22) (.tmp 23) 34 rfl w.heap.size 27 iu _ 1 8 Try.underlying34 hiu hu0 hu1 hu2 rfl (by omega) _ 0 [] w.heap.size A n c (u64v l) rfl (by exact own0) rfl (by exact hra) (u64v_one l) ?c1 ?c2 ?c3 ?_)
  case c1 => omega
  case c2 => unfold maxLen; omega
  case c3 => exact hb1a.size
  intro v2 w2 own2 hu2' hat2
  have hb2 := below_row hb1a hb1a.size own0 (Nat.le_refl _) hu2'
  clear own0 hu2' hat2 hra hb1 hb1a
  go_wp2_with (at_builtin; refine wpList_push rfl (.tmp 24) (.tmp 25) 34 rfl w.heap.size 27 iu _ 1 8 Try.underlying34 hiu hu0 hu1 hu2 rfl (by omega) _ n (u64v l) #[.int .u64 77] rfl (by exact own2) rfl rfl (by simp [Value.oneCell']) ?c1 ?c2 ?c3 ?_)
  case c1 => omega
  case c2 => unfold maxLen; omega
  case c3 => exact hb2.size
  intro va w3 owna hu3 hat3
  have hb3 := below_row hb2 hb2.size own2 (Nat.le_refl _) hu3
  clear own2 hu3 hat3 hb2
  -- b
  have own0 := World.ownsRow_made (base := w3.heap.size) (e := 3) (size := 1) w3 #[] 0 (Nat.le_refl _) (by unfold maxLen; omega) rfl
  have hb3b : Below w3.heap.size w3 (w3.alloc (.cells #[] 3)) := (Below.refl _ _).alloc (Nat.le_refl _) _
  have hrb := hr'.below (bel hb3 hb3b)
  go_wp2_with (at_builtin; refine wpList_app rfl (.tmp 27) (.tmp 28) 35 rfl w3.heap.size 3 ii _ 1 8 Try.underlying35 hii hj0 hj1 hj2 rfl (by omega) _ 0 [] w.heap.size A' n' c' (i64v l') rfl (by exact own0) rfl (by exact hrb) (i64v_one l') ?c1 ?c2 ?c3 ?_)
  case c1 => omega
  case c2 => unfold maxLen; omega
  case c3 => exact hb3b.size
  intro v4 w4 own4 hu4 hat4
  have hb4 := below_row hb3b hb3b.size own0 (Nat.le_refl _) hu4
  clear own0 hu4 hat4 hrb hb3b
  go_wp2_with (at_builtin; refine wpList_push rfl (.tmp 29) (.tmp 30) 35 rfl w3.heap.size 3 ii _ 1 8 Try.underlying35 hii hj0 hj1 hj2 rfl (by omega) _ n' (i64v l') #[.int .i64 78] rfl (by exact own4) rfl rfl (by simp [Value.oneCell']) ?c1 ?c2 ?c3 ?_)
  case c1 => omega
  case c2 => unfold maxLen; omega
  case c3 => exact hb4.size
  intro vb w5 ownb hu5 hat5
  have hb5 := below_row hb4 hb4.size own4 (Nat.le_refl _) hu5
  have owna5 := own_below owna hb5
  have hb5' := bel hb3 hb5
  clear own4 hu5 hat5 hb4 owna hb3 hb5
  -- c
  have own0 := World.ownsRow_made (base := w5.heap.size) (e := 9) (size := 1) w5 #[] 0 (Nat.le_refl _) (by unfold maxLen; omega) rfl
  have hb5c : Below w5.heap.size w5 (w5.alloc (.cells #[] 9)) := (Below.refl _ _).alloc (Nat.le_refl _) _
  have hrc := hr''.below (bel hb5' hb5c)
  go_wp2_with (at_builtin; refine wpList_app rfl (.tmp 32) (.tmp 33) 22 rfl w5.heap.size 9 is _ 1 16 Try.underlying22 his hs0 hs1 hs2 rfl (by omega) _ 0 [] w.heap.size A'' n'' c'' (strv l'') rfl (by exact own0) rfl (by exact hrc) (strv_one l'') ?c1 ?c2 ?c3 ?_)
  case c1 => omega
  case c2 => unfold maxLen; omega
  case c3 => exact hb5c.size
  intro v6 w6 own6 hu6 hat6
  have hb6 := below_row hb5c hb5c.size own0 (Nat.le_refl _) hu6
  clear own0 hu6 hat6 hrc hb5c
  go_wp2_with (at_builtin; refine wpList_push rfl (.tmp 34) (.tmp 35) 22 rfl w5.heap.size 9 is _ 1 16 Try.underlying22 his hs0 hs1 hs2 rfl (by omega) _ n'' (strv l'') #[.string ⟨#[115, 112, 97, 114, 101]⟩] rfl (by exact own6) rfl rfl (by simp [Value.oneCell']) ?c1 ?c2 ?c3 ?_)
  case c1 => omega
  case c2 => unfold maxLen; omega
  case c3 => exact hb6.size
  intro vc w7 ownc hu7 hat7
  have hb7 := below_row hb6 hb6.size own6 (Nat.le_refl _) hu7
  have owna7 := own_below owna5 hb7
  have ownb7 := own_below ownb hb7
  have hb7' := bel hb5' hb7
  clear own6 hu7 hat7 hb6 ownb owna5 hb5' hb7
  -- from here on w7 stays below its size
  obtain ⟨ga, ka, rfl, _, hga, hka1, hka2, hra, hca⟩ := own_copy owna7 (by rw [u64v_length]; exact HL.out) (Below.refl _ _)
  obtain ⟨gb, kb, rfl, _, hgb, hkb1, hkb2, hrb, hcb⟩ := own_copy ownb7 (by rw [i64v_length]; exact HL'.out) (Below.refl _ _)
  obtain ⟨gc, kc, rfl, _, hgc, hkc1, hkc2, hrc, hcc⟩ := own_copy ownc (by rw [strv_length]; exact HL''.out) (Below.refl _ _)
  clear owna7 ownb7 ownc
  have hr7 := (hr.below hb7').mono hb7'.size
  have hr7' := (hr'.below hb7').mono hb7'.size
  have hr7'' := (hr''.below hb7').mono hb7'.size
  have hka3 : ka ≤ 9223372036854775807 := by unfold maxLen at hka2; omega
  have hkb3 : kb ≤ 9223372036854775807 := by unfold maxLen at hkb2; omega
  have hkc3 : kc ≤ 9223372036854775807 := by unfold maxLen at hkc2; omega
  clear hka2 hkb2 hkc2
  have hb7w := Lib.hid hb7'
  clear hb7' hr hr' hr''
  go_wp2
  go_loopw [10, 39] (fun v i wx => ∃ k : Nat, k ≤ n ∧ i = .int .i64 k ∧ wx.ownsRow w7.heap.size 5 1 v (numsB (l.take k)).length (bytv (numsB (l.take k))) ∧ Below w7.heap.size w7 wx) (fun _ i _ => n - (intOf i).toNat)
  case atStart => exact ⟨0, Nat.zero_le _, rfl, World.ownsRow_nil _ _ _ _, Below.refl _ _⟩
  case round =>
    obtain ⟨k, hk, rfl, hown, hbx⟩ := hrel
    by_cases hlt : k < n
    · obtain ⟨ad, rfl, hab, hsk, hc0⟩ := hr7.u64 hlt
      have HT := Lib.hid (numsB_take l k hsk)
      have hsz := numsB_take_len l (k + 1)
      have hx64 := h64 _ (List.getElem_mem hsk)
      have hcr : wr.cell? (ad.add k) = some (.int .u64 (l[k] : Int)) := by rw [hbx.cell (by rw [block_add]; exact hab)]; exact hc0
      obtain ⟨y, hy⟩ : ∃ y, y = l[k] := ⟨_, rfl⟩
      rw [← hy] at HT hcr hx64
      have hlx : (numsB (l.take k)).length + (numB y).length ≤ 140737488355328 := by
        rw [HT.out, List.length_append] at hsz; omega
      clear hy hc0 hsz
      go_wp2_with fail
      refine (rnum_any _ y hx64).mono ?_
      rintro e wn ⟨rfl, hbn⟩
      have hown2 := own_below hown hbn
      have hbx2 := bel hbx hbn
      obtain ⟨z, hz⟩ : ∃ z : ByteArray, z = ⟨(numB y).toArray⟩ := ⟨_, rfl⟩
      rw [← hz]
      have hzl : z.data.toList = numB y := by rw [hz]
      have hzs : z.size = (numB y).length := by rw [hz]; rfl
      rw [← hzs] at hlx
      have HZ := Lib.hid hzl
      have HZS := Lib.hid hzs
      clear hz hzl hzs hown hbx hbn hcr
      go_wp2_with (at_builtin; refine wpList_apps rfl (.tmp 43) (.tmp 45) 32 9 rfl w7.heap.size 5 i0 Try.underlying32 Try.underlying9 hi0 hz0 hz1 hz2 _ _ (numsB (l.take k)) z rfl (by exact hown2) rfl ?c1 ?c2 ?_)
      case c1 => exact hlx
      case c2 => exact hbx2.size
      intro v3 w3 hown3 hu3 hat3
      have hown3' : w3.ownsRow w7.heap.size 5 1 v3 (numsB (l.take (k + 1))).length (bytv (numsB (l.take (k + 1)))) := by
        rw [HT.out, List.length_append, ← HZS.out, ← HZ.out]; exact hown3
      have hb3 := below_row hbx2 hbx2.size hown2 (Nat.le_refl _) hu3
      clear hown3 hown2 hu3 hat3 hbx2
      go_wp2
      go_roundw
      case rel => exact ⟨k + 1, by omega, by go_num, hown3', hb3⟩
      case measure => simp [intOf]; omega
    · obtain rfl : n = k := by omega
      rw [← HL.out, List.take_length] at hown
      obtain ⟨Ax, cx, rfl⟩ := own_shape hown
      generalize HX0 : wr = w8 at *
      clear HX0
      have hr8' := hr7'.below hbx
      have hb8 := Lib.hid hbx
      clear hbx hlt
      go_wp2
      go_loopw [11, 50] (fun v i wx => ∃ j : Nat, j ≤ n' ∧ i = .int .i64 j ∧ wx.ownsRow w8.heap.size 5 1 v (intsB (l'.take j)).length (bytv (intsB (l'.take j))) ∧ Below w8.heap.size w8 wx) (fun _ i _ => n' - (intOf i).toNat)
      case atStart => exact ⟨0, Nat.zero_le _, rfl, World.ownsRow_nil _ _ _ _, Below.refl _ _⟩
      case round =>
        obtain ⟨j, hj, rfl, howy, hby⟩ := hrel
        by_cases hjlt : j < n'
        · obtain ⟨ad, rfl, hab, hsk, hc0⟩ := hr8'.i64 hjlt
          have HT := Lib.hid (intsB_take l' j hsk)
          have hsz := intsB_take_len l' (j + 1)
          have hx64 := h64' _ (List.getElem_mem hsk)
          have hcr : wr.cell? (ad.add j) = some (.int .i64 l'[j]) := by rw [hby.cell (by rw [block_add]; have := hb8.out.size; omega)]; exact hc0
          obtain ⟨y, hy⟩ : ∃ y, y = l'[j] := ⟨_, rfl⟩
          rw [← hy] at HT hcr hx64
          have hlx : (intsB (l'.take j)).length + (intB y).length ≤ 140737488355328 := by
            rw [HT.out, List.length_append] at hsz; omega
          obtain ⟨hx0, hx1⟩ := hx64
          clear hy hc0 hsz
          go_wp2_with fail
          refine (rint_any _ y hx0 hx1).mono ?_
          rintro e wn ⟨rfl, hbn⟩
          have hown2 := own_below howy hbn
          have hbx2 := bel hby hbn
          obtain ⟨z, hz⟩ : ∃ z : ByteArray, z = ⟨(intB y).toArray⟩ := ⟨_, rfl⟩
          rw [← hz]
          have hzl : z.data.toList = intB y := by rw [hz]
          have hzs : z.size = (intB y).length := by rw [hz]; rfl
          rw [← hzs] at hlx
          have HZ := Lib.hid hzl
          have HZS := Lib.hid hzs
          clear hz hzl hzs howy hby hbn hcr
          go_wp2_with (at_builtin; refine wpList_apps rfl (.tmp 54) (.tmp 56) 32 9 rfl w8.heap.size 5 i0 Try.underlying32 Try.underlying9 hi0 hz0 hz1 hz2 _ _ (intsB (l'.take j)) z rfl (by exact hown2) rfl ?c1 ?c2 ?_)
          case c1 => exact hlx
          case c2 => exact hbx2.size
          intro v3 w3 hown3 hu3 hat3
          have hown3' : w3.ownsRow w8.heap.size 5 1 v3 (intsB (l'.take (j + 1))).length (bytv (intsB (l'.take (j + 1)))) := by
            rw [HT.out, List.length_append, ← HZS.out, ← HZ.out]; exact hown3
          have hb3 := below_row hbx2 hbx2.size hown2 (Nat.le_refl _) hu3
          clear hown3 hown2 hu3 hat3 hbx2
          go_wp2
          go_roundw
          case rel => exact ⟨j + 1, by omega, by go_num, hown3', hb3⟩
          case measure => simp [intOf]; omega
        · obtain rfl : n' = j := by omega
          rw [← HL'.out, List.take_length] at howy
          obtain ⟨Ay, cy, rfl⟩ := own_shape howy
          have ownx := own_below hown hby
          have hb9 := bel hb8.out hby
          clear hown hr8' hjlt hby hb8
          have hr9'' := (hr7''.below hb9).mono hb9.size
          go_wp2_with fail
          refine (rtexts_any _ A'' n'' c'' l'' hr9'' (by omega) (by omega) hls).mono ?_
          rintro e w10 ⟨rfl, hb10⟩
          have hb10' := bel hb9 hb10
          have ownx10 := own_below ownx hb10
          have owny10 := own_below howy hb10
          clear ownx howy hb9 hb10 hr9''
          go_wp2_with fail
          refine (new_any _).mono ?_
          rintro e w11 ⟨rfl, rfl⟩
          have hwr := Wr.new w10 w10.heap.size
          have hb11 : Below w10.heap.size w10 (w10.alloc (.cells #[.int .i64 0, .slice none 0 0] 57)) := (Below.refl _ _).alloc (Nat.le_refl _) _
          have hb711 := bel hb10' hb11
          have hra11 := hra.below hb711
          have hrb10 := hrb.below hb10'
          have hrc10 := hrc.below hb10'
          have k1 : (n : Int) ≤ (ka : Int) := by omega
          have k2 : (0 : Int) ≤ (n : Int) := by omega
          have k3 : (n' : Int) ≤ (kb : Int) := by omega
          have k4 : (0 : Int) ≤ (n' : Int) := by omega
          have k5 : (n'' : Int) ≤ (kc : Int) := by omega
          have k6 : (0 : Int) ≤ (n'' : Int) := by omega
          go_wp2_with fail
          refine (num_any _ w10.heap.size w10.heap.size (.slice none 0 0) [] _ n ka l hwr hb11.size (hra11.mono hb711.size) (sep_of hra11 hb10'.size (fun k hk => by simp [Value.ownBlock] at hk)) (by rw [List.length_nil]; omega) h64 (by omega)).mono ?_
          rintro e w12 ⟨rfl, v1, hw12, _, hu12⟩
          have hb12 := below_wr rfl hb11 hu12 (Nat.le_refl _) (fun k hk => by simp [Value.ownBlock] at hk)
          have hv12 : ∀ k, v1.ownBlock = some k → w10.heap.size ≤ k := fun k hk => (hw12.own.lt k hk).1
          have hb712 := bel hb10' hb12
          have hrb12 := hrb.below hb712
          rw [List.nil_append] at hw12
          clear hwr hb11 hb711 hra11 hu12
          go_wp2_with fail
          refine (int_any _ w10.heap.size w10.heap.size v1 (numsB l) _ n' kb l' hw12 hb12.size (hrb12.mono hb712.size) (sep_of hrb12 hb10'.size (fun k hk => Nat.le_trans hb10'.size (hv12 k hk))) (by omega) h64' (by omega)).mono ?_
          rintro e w13 ⟨rfl, v2', hw13, _, hu13⟩
          have hb13 := below_wr rfl hb12 hu13 (Nat.le_refl _) hv12
          have hv13 : ∀ k, v2'.ownBlock = some k → w10.heap.size ≤ k := fun k hk => (hw13.own.lt k hk).1
          have hb713 := bel hb10' hb13
          have hrc13 := hrc.below hb713
          clear hw12 hb12 hv12 hb712 hrb12 hu13
          go_wp2_with fail
          refine (text_any _ w10.heap.size w10.heap.size v2' (numsB l ++ intsB l') _ n'' kc l'' hw13 hb13.size (hrc13.mono hb713.size) (sep_of hrc13 hb10'.size (fun k hk => Nat.le_trans hb10'.size (hv13 k hk))) (by rw [List.length_append]; omega) (by omega)).mono ?_
          rintro e w14 ⟨rfl, v3', hw14, _, hu14⟩
          have hb14 := below_wr rfl hb13 hu14 (Nat.le_refl _) hv13
          have hb714 := bel hb10' hb14
          have ownx := own_below ownx10 hb14
          have owny := own_below owny10 hb14
          clear hw13 hb13 hv13 hb713 hrc13 hu14 hb14 ownx10 owny10 hrb10 hrc10
          obtain ⟨zx, hzx⟩ : ∃ z : ByteArray, z = ⟨(numsB l).toArray⟩ := ⟨_, rfl⟩
          obtain ⟨zy, hzy⟩ : ∃ z : ByteArray, z = ⟨(intsB l').toArray⟩ := ⟨_, rfl⟩
          obtain ⟨zz, hzz⟩ : ∃ z : ByteArray, z = ⟨(textsB l'').toArray⟩ := ⟨_, rfl⟩
          have hall : (⟨(numsB l ++ intsB l' ++ textsB l'').toArray⟩ : ByteArray) = zx ++ zy ++ zz := by
            rw [hzx, hzy, hzz]
            apply ByteArray.ext
            simp [ByteArray.data_append]
          have hzxs : zx.size ≤ 10485760 := by rw [hzx]; show (numsB l).toArray.size ≤ _; rw [List.size_toArray]; exact hl
          have hzys : zy.size ≤ 10485760 := by rw [hzy]; show (intsB l').toArray.size ≤ _; rw [List.size_toArray]; exact hl'
          have hzzs : zz.size ≤ 10485760 := by rw [hzz]; show (textsB l'').toArray.size ≤ _; rw [List.size_toArray]; exact hl''
          have HC : Hid (∀ W, Below w14.heap.size w14 W → (convert 32 9 (.slice Ax (numsB l).length cx)).run Try.prog W = .ok (.string zx) W ∧ (convert 32 9 (.slice Ay (intsB l').length cy)).run Try.prog W = .ok (.string zy) W) := Lib.hid (fun W hW => by
            rw [hzx, hzy]
            exact ⟨conv_own (P := Try.prog) Try.underlying32 Try.underlying5 Try.underlying9 (own_below ownx hW), conv_own (P := Try.prog) Try.underlying32 Try.underlying5 Try.underlying9 (own_below owny hW)⟩)
          have HN : Hid (∀ W, Below w14.heap.size w14 W → Calls Try.prog 28 #[.slice (some ⟨ga, 0, none⟩) n ka] W fun e w' => e = .returned (.string zx) ∧ Below w14.heap.size w14 w') := Lib.hid (fun W hW => by
            have hb := bel hb714 hW
            rw [hzx]
            exact (nums_any W _ n ka l ((hra.below hb).mono hb.size) (by omega) h64 (by omega)).mono fun e w' ⟨h1, h2⟩ => ⟨h1, bel hW h2⟩)
          have HI : Hid (∀ W, Below w14.heap.size w14 W → Calls Try.prog 29 #[.slice (some ⟨gb, 0, none⟩) n' kb] W fun e w' => e = .returned (.string zy) ∧ Below w14.heap.size w14 w') := Lib.hid (fun W hW => by
            have hb := bel hb714 hW
            rw [hzy]
            exact (ints_any W _ n' kb l' ((hrb.below hb).mono hb.size) (by omega) h64' (by omega)).mono fun e w' ⟨h1, h2⟩ => ⟨h1, bel hW h2⟩)
          have HTx : Hid (∀ W, Below w14.heap.size w14 W → Calls Try.prog 30 #[.slice (some ⟨gc, 0, none⟩) n'' kc] W fun e w' => e = .returned (.string zz) ∧ Below w14.heap.size w14 w') := Lib.hid (fun W hW => by
            have hb := bel hb714 hW
            rw [hzz]
            exact (texts_any W _ n'' kc l'' ((hrc.below hb).mono hb.size) (by omega) (by omega)).mono fun e w' ⟨h1, h2⟩ => ⟨h1, bel hW h2⟩)
          have HS : Hid (∀ W, Below w14.heap.size w14 W → Below w14.heap.size w14 W ∧ (convert 32 9 (.slice Ax (numsB l).length cx)).run Try.prog W = .ok (.string zx) W ∧ (convert 32 9 (.slice Ay (intsB l').length cy)).run Try.prog W = .ok (.string zy) W) := Lib.hid fun W hW => ⟨hW, HC.out W hW⟩
          have HALL := Lib.hid hall
          have HW := Lib.hid hw14
          rw [← hzz]
          have OWX := Lib.hid ownx
          have OWY := Lib.hid owny
          have HZX := Lib.hid hzx
          have HZY := Lib.hid hzy
          clear hzx hzy hzz hall hw14 ownx owny
          go_wp2
          go_region_held3 (fun w' => Below w14.heap.size w14 w' ∧ (convert 32 9 (.slice Ax (numsB l).length cx)).run Try.prog w' = .ok (.string zx) w' ∧ (convert 32 9 (.slice Ay (intsB l').length cy)).run Try.prog w' = .ok (.string zy) w') (first | exact HS.out _ (by assumption) | exact HS.out _ ⟨rfl, rfl, rfl, Nat.le_refl _, fun _ _ => rfl⟩) (first
            | (go_at_call 28; refine (HN.out _ (And.left (by assumption))).mono ?_; rintro e w2 ⟨rfl, hS2⟩)
            | (go_at_call 29; refine (HI.out _ (And.left (by assumption))).mono ?_; rintro e w2 ⟨rfl, hS2⟩)
            | (go_at_call 30; refine (HTx.out _ (And.left (by assumption))).mono ?_; rintro e w2 ⟨rfl, hS2⟩))
          have hb72 := bel hb714 hS2
          have hra2 := hra.below hb72
          have hr72 := hr7.below hb72
          have hcaS := (hb72.cell (p := ⟨ga, n, none⟩) hga).trans hca
          have hcbS := (hb72.cell (p := ⟨gb, n', none⟩) hgb).trans hcb
          have hccS := (hb72.cell (p := ⟨gc, n'', none⟩) hgc).trans hcc
          have hrbS := hrb.below hb72
          have hrcS := hrc.below hb72
          have hr7S' := hr7'.below hb72
          have hr7S'' := hr7''.below hb72
          have hwrS := HW.out.upd (Upd.of_below (S := fun _ => False) hS2) (fun _ _ h => h)
          have hfin := bel hb7w.out hb72
          have ownxS := own_below OWX.out hS2
          have ownyS := own_below OWY.out hS2
          have OX : Hid (∀ m, (convert 32 9 (.slice Ax (numsB l).length cx)).run Try.prog (w2.drewN m) = .ok (.string zx) (w2.drewN m)) := Lib.hid fun m => by
            rw [HZX.out]
            exact conv_own (P := Try.prog) Try.underlying32 Try.underlying5 Try.underlying9 (show (w2.drewN m).ownsRow _ _ _ _ _ _ from ownxS)
          have OY : Hid (∀ m, (convert 32 9 (.slice Ay (intsB l').length cy)).run Try.prog (w2.drewN m) = .ok (.string zy) (w2.drewN m)) := Lib.hid fun m => by
            rw [HZY.out]
            exact conv_own (P := Try.prog) Try.underlying32 Try.underlying5 Try.underlying9 (show (w2.drewN m).ownsRow _ _ _ _ _ _ from ownyS)
          clear hra hr7 hca hcb hcc hrb hrc hr7' hr7'' HC HN HI HTx HS hb714 hb72 hS2 ownxS ownyS OWX OWY HZX HZY
          go_wp2
          go_loop [109] (fun i => ∃ q : Nat, q ≤ n ∧ i = .int .i64 q) (fun i => n - (intOf i).toNat)
          case atStart => exact ⟨0, Nat.zero_le _, rfl⟩
          case round =>
            obtain ⟨q, hq, rfl⟩ := hrel
            by_cases hqlt : q < n
            · obtain ⟨ad, hA, hab, hsk, hc0⟩ := hr72.u64 hqlt
              obtain ⟨ad2, hA2, hab2, hsk2, hc2⟩ := hra2.u64 hqlt
              injection hA2 with hA2
              subst hA2
              subst hA
              rw [add_zero_off] at hc2
              generalize l[q] = y at *
              have q1 : (q : Int) < (n : Int) + 1 := by omega
              have q2 : (0 : Int) ≤ (q : Int) := by omega
              clear hwrS hcaS hcbS hccS
              go_wp2
              go_round
              case rel => exact ⟨q + 1, by omega, by go_num⟩
              case measure => simp [intOf]; omega
            · clear hra2 hr72
              have MK : Hid (∀ W, Hid (∃ m, W = w2.drewN m) → Hid (∃ m, W = w2.drewN m) ∧ (convert 32 9 (.slice Ax (numsB l).length cx)).run Try.prog W = .ok (.string zx) W ∧ (convert 32 9 (.slice Ay (intsB l').length cy)).run Try.prog W = .ok (.string zy) W ∧ W.cell? ⟨ga, n, none⟩ = some (.int .u64 77) ∧ W.cell? ⟨gb, n', none⟩ = some (.int .i64 78) ∧ W.cell? ⟨gc, n'', none⟩ = some (.string ⟨#[115, 112, 97, 114, 101]⟩)) := Lib.hid (by
                rintro W ⟨m, rfl⟩
                exact ⟨⟨m, rfl⟩, OX.out m, OY.out m, hcaS, hcbS, hccS⟩)
              have HB : Hid (∀ W, Hid (∃ m, W = w2.drewN m) → Calls Try.prog 31 #[.pointer (some ⟨w10.heap.size, 0, none⟩)] W fun e w' => e = .returned (.string (zx ++ zy ++ zz)) ∧ W = w') := Lib.hid (by
                rintro W ⟨m, rfl⟩
                have := bytes_any (w2.drewN m) w10.heap.size w10.heap.size v3' (numsB l ++ intsB l' ++ textsB l'') ⟨hwrS.blk, hwrS.own⟩
                rw [HALL.out] at this
                exact this)
              have HSI : Hid (∀ W, Hid (∃ m, W = w2.drewN m) → Calls Try.prog 32 #[.slice (some ⟨gb, 0, none⟩) n' kb, .slice A' n' c'] W fun e w' => e = .returned (.bool true) ∧ Hid (∃ m, w' = w2.drewN m)) := Lib.hid (by
                rintro W ⟨m, rfl⟩
                refine (sameInts_yes _ _ n' _ _ _ l' _ (by unfold maxLen; omega) (hrbS.drewN m) (hr7S'.drewN m)).mono ?_
                rintro e w' ⟨h1, m2, h2⟩
                exact ⟨h1, m + m2, by rw [h2, World.drewN_drewN]⟩)
              have HSS : Hid (∀ W, Hid (∃ m, W = w2.drewN m) → Calls Try.prog 15 #[.slice (some ⟨gc, 0, none⟩) n'' kc, .slice A'' n'' c''] W fun e w' => e = .returned (.bool true) ∧ Hid (∃ m, w' = w2.drewN m)) := Lib.hid (by
                rintro W ⟨m, rfl⟩
                refine (same_yes _ _ n'' _ _ _ l'' _ (by unfold maxLen; omega) (hrcS.drewN m) (hr7S''.drewN m)).mono ?_
                rintro e w' ⟨h1, m2, h2⟩
                exact ⟨h1, m + m2, by rw [h2, World.drewN_drewN]⟩)
              have z1 : ¬ 9223372036854775807 < zx.size + zy.size := by omega
              have z2 : ¬ 9223372036854775807 < zx.size + zy.size + zz.size := by omega
              have y1 : (n : Int) < (n : Int) + 1 := by omega
              have y2 : (n' : Int) < (n' : Int) + 1 := by omega
              have y3 : (n'' : Int) < (n'' : Int) + 1 := by omega
              have HF := Lib.hid hfin
              have st0 : Hid (∃ m, w2 = w2.drewN m) := ⟨0, rfl⟩
              clear hwrS hcaS hcbS hccS hrbS hrcS hr7S' hr7S'' OX OY hfin
              go_wp2
              go_region_held3 (fun w' => Hid (∃ m, w' = w2.drewN m) ∧ (convert 32 9 (.slice Ax (numsB l).length cx)).run Try.prog w' = .ok (.string zx) w' ∧ (convert 32 9 (.slice Ay (intsB l').length cy)).run Try.prog w' = .ok (.string zy) w' ∧ w'.cell? ⟨ga, n, none⟩ = some (.int .u64 77) ∧ w'.cell? ⟨gb, n', none⟩ = some (.int .i64 78) ∧ w'.cell? ⟨gc, n'', none⟩ = some (.string ⟨#[115, 112, 97, 114, 101]⟩)) (first | exact MK.out _ (by assumption) | exact MK.out _ (hid_drew (by assumption))) (first
                | (go_at_call 31; refine (HB.out _ (And.left (by assumption))).mono ?_; rintro e w3 ⟨rfl, rfl⟩)
                | (go_at_call 32; refine (HSI.out _ (And.left (by assumption))).mono ?_; rintro e w3 ⟨rfl, hS3⟩)
                | (go_at_call 15; refine (HSS.out _ (And.left (by assumption))).mono ?_; rintro e w3 ⟨rfl, hS3⟩))
              go_wp2
              go_ret
              exact ⟨rfl, below_hid HF.out (by assumption)⟩
end Go.Proofs.Ytmjkebokedaldaa
