/- Tables in memory: MemApart, walked. -/
import Derived.Test.YthaobfdocnaneaaMmFinds
namespace Go.Proofs.Ythaobfdocnaneaa
open Go.RowKit
/-- A row of the call's own, whatever stands in it. -/
def OwnAny (w : World) (base : Nat) (e : TypeId) (size : Nat) (v : Value) (n : Nat) : Prop := ∃ xs, w.ownsRow base e size v n xs
theorem OwnAny.row {w : World} {base g cap n size : Nat} {e : TypeId} (h : OwnAny w base e size (.slice (some ⟨g, 0, none⟩) n cap) n) : ∃ cur, w.heap[g]? = some (.cells cur e (0, 0)) ∧ cur.size = cap * size ∧ n ≤ cap ∧ base ≤ g := by
  obtain ⟨xs, _, h⟩ := h
  rcases h with ⟨h, _⟩ | ⟨g', cap', cur, hv, hb, hg, hn, _, hc, _⟩
  · injection h with h; cases h
  · injection hv with h1 h2 h3
    injection h1 with h1
    injection h1 with h1
    subst h1; subst h3
    exact ⟨cur, hg, hc, hn, hb⟩
theorem OwnAny.cell {w : World} {base g cap n size : Nat} {e : TypeId} (h : OwnAny w base e size (.slice (some ⟨g, 0, none⟩) n cap) n) (j : Nat) (hj : j < n * size) : ∃ u, w.cell? ⟨g, j, none⟩ = some u := by
  obtain ⟨cur, hg, hc, hn, _⟩ := h.row
  have : n * size ≤ cap * size := Nat.mul_le_mul_right _ hn
  exact ⟨_, (cell_of_row w g j _ _ _ hg).trans (Array.getElem?_eq_getElem (by omega))⟩
theorem OwnAny.frozen {w : World} {base g cap n size : Nat} {e : TypeId} (h : OwnAny w base e size (.slice (some ⟨g, 0, none⟩) n cap) n) (j : Nat) : w.frozen? ⟨g, j, none⟩ = false := by
  obtain ⟨cur, hg, _⟩ := h.row
  exact frozen_of_row _ _ _ _ _ hg
theorem OwnAny.set {w : World} {base g cap n size : Nat} {e : TypeId} (h : OwnAny w base e size (.slice (some ⟨g, 0, none⟩) n cap) n) (j : Nat) (u : Value) : OwnAny (w.setCell ⟨g, j, none⟩ u) base e size (.slice (some ⟨g, 0, none⟩) n cap) n := by
  obtain ⟨xs, hl, h⟩ := h
  rcases h with ⟨h, _⟩ | ⟨g', cap', cur, hv, hb, hg, hn, hm, hc, hx⟩
  · injection h with h; cases h
  · injection hv with h1 h2 h3
    injection h1 with h1
    injection h1 with h1
    subst h1; subst h3
    have hle : n * size ≤ cap * size := Nat.mul_le_mul_right _ hn
    exact ⟨(cur.setIfInBounds j u).toList.take (n * size), by rw [List.length_take, Array.length_toList, Array.size_setIfInBounds, hc]; omega, .inr ⟨g, cap, _, rfl, hb, heap_setCell_same w g j _ _ u hg, hn, hm, by simpa using hc, rfl⟩⟩
theorem OwnAny.upd {S : Nat → Prop} {w w' : World} {base size n : Nat} {e : TypeId} {v : Value} (h : OwnAny w base e size v n) (hu : Upd S w w') (hs : ∀ k, v.ownBlock = some k → ¬ S k) : OwnAny w' base e size v n := by
  obtain ⟨xs, h⟩ := h
  exact ⟨xs, own_upd h hu hs⟩
theorem own_nothing (w : World) (e : TypeId) (size : Nat) : (w.alloc (.cells #[] e)).ownsRow w.heap.size e size (.slice (some ⟨w.heap.size, 0, none⟩) 0 0) 0 [] :=
  ⟨by simp, .inr ⟨_, 0, #[], rfl, Nat.le_refl _, heap_alloc_new w _, Nat.le_refl _, Nat.zero_le _, by simp, by simp⟩⟩
theorem intv_cell (a : List Int) : ∀ u ∈ a.map (Value.int .i64), u.oneCell' = true := by
  intro u hu
  obtain ⟨x, _, rfl⟩ := List.mem_map.1 hu
  rfl
def spareE : Ent := ⟨⟨#[115, 112, 97, 114, 101]⟩, 0, false, ⟨#[]⟩⟩
theorem rd_snoc {w : World} {B size n : Nat} {A : Option Addr} {xs ys : List Value} (h : Rd w B size A (n + 1) (xs ++ ys)) (hx : xs.length = n * size) : Rd w B size A n xs := by
  have := h.take n (Nat.le_succ _)
  rwa [← hx, List.take_left] at this
theorem Skip.updF {S : Nat → Prop} {w w' : World} {B t : Nat} {ns : List Nd} {n bytes turn : Int} {hv : Value} {hs : List Int} (h : Skip w B t ns n bytes hv hs turn) (hu : Upd S w w') (h1 : ∀ k, foot t ns k → ¬ S k) (h2 : ∀ k, hv.ownBlock = some k → ¬ S k) : Skip w' B t ns n bytes hv hs turn where
  tab := (hu.block t h.tlt (h1 t (.inl rfl))).trans h.tab
  chain := Chain.of fun i hi => (hu.block _ (h.nlt i hi) (h1 _ (.inr ⟨_, List.getElem_mem hi, rfl⟩))).trans (h.chain.at i hi)
  tbase := h.tbase
  nbase := h.nbase
  nodup := h.nodup
  high := h.high
  rise := h.rise
  hown := own_upd h.hown hu h2
  hne := h.hne
  hsOk := h.hsOk
theorem fromE_nil (l : List Ent) : fromE l ⟨#[]⟩ = 0 := by
  unfold fromE
  cases l with
  | nil => rfl
  | cons x l =>
    rw [List.takeWhile_cons, if_neg]
    · rfl
    · rw [ByteArray.toList_eq, ByteArray.toList_eq]
      show ¬ Op.bytesLess x.key.data.toList [] = true
      cases x.key.data.toList <;> simp [Op.bytesLess]
set_option maxHeartbeats 8000000 in
set_option maxRecDepth 20000 in
theorem apart_any (w : World) (A0 : Option Addr) (n0 c0 : Nat) (a : List Int) (hr0 : Rd w w.heap.size 1 A0 n0 (a.map (Value.int .i64))) (hn0 : n0 ≤ 1048576) (A : Option Addr) (n c : Nat) (l : List Ent) (hr : Rd w w.heap.size 4 A n (entv l)) (hn : n ≤ 1048576)
    (hok : ∀ x ∈ l, -9223372036854775808 ≤ x.seq ∧ x.seq ≤ 9223372036854775807) (hz : sizE l ≤ 2097152) :
    Calls Try.prog 6 #[.slice A0 n0 c0, .slice A n c] w fun e w' => e = .returned (.bool true) ∧ Below w.heap.size w w' := by
  obtain ⟨ii, hii, hj0, hj1, hj2⟩ := info_parts int_info
  obtain ⟨i0, hi0, hz0, hz1, hz2⟩ := info_parts ent_info
  have HR0 := Lib.hid hr0
  have HR := Lib.hid hr
  have HML := Lib.hid (rd_entlen hr)
  have HNA : Hid (a.length = n0) := Lib.hid (by have := hr0.len; simpa using this)
  have HZ := Lib.hid hz
  have HOK := Lib.hid hok
  clear hr0 hr hz hok
  go_enter Try.func6, Try.ntmps6
  go_wp2_with fail
  refine (mlives_any _).mono ?_
  rintro e w1 ⟨rfl, hb1⟩
  have HB1 := Lib.hid hb1
  have hB1 := hb1.size
  clear hb1
  have t1 := own_nothing w1 3 1
  have t2 := (HR0.out.below HB1.out).below ((below_alloc w1 (.cells #[] 3)).mono hB1)
  have t3 := intv_cell a
  go_wp2_with (at_builtin; refine wpList_app rfl (.tmp 20) (.tmp 21) 22 rfl w1.heap.size 3 ii _ 1 8 Try.underlying22 hii hj0 hj1 hj2 rfl (by omega) _ 0 [] w.heap.size A0 n0 c0 (a.map (Value.int .i64)) rfl t1 rfl t2 t3 ?c1 ?c2 ?c3 ?_)
  case c1 => omega
  case c2 => unfold maxLen; omega
  case c3 => simp
  intro v2 w2 ho2 hu2 _
  clear t1 t2 t3
  have hb2 : Below w1.heap.size w1 w2 := (below_alloc w1 (.cells #[] 3)).trans (hu2.below (fun k hk e => by simp [Value.ownBlock] at e; omega) (by simp))
  have HO2 := Lib.hid ho2
  have HB2 := Lib.hid (HB1.out.trans (hb2.mono hB1))
  have hB2 : w1.heap.size ≤ w2.heap.size := hb2.size
  clear ho2 hu2 hb2
  go_wp2_with (at_builtin; refine wpList_push rfl (.tmp 22) (.tmp 23) 22 rfl w1.heap.size 3 ii _ 1 8 Try.underlying22 hii hj0 hj1 hj2 rfl (by omega) _ n0 (a.map (Value.int .i64)) #[.int .i64 (-77)] rfl (by exact HO2.out) rfl rfl (by simp [Value.oneCell']) ?d1 ?d2 ?d3 ?_)
  case d1 => omega
  case d2 => unfold maxLen; omega
  all_goals try (exact hB2)
  intro v3 w3 ho3 hu3 _
  obtain ⟨gh, ch, rfl, hgb, hgl, hnc, _⟩ := own_form ho3 (by omega)
  have hb3 : Below w1.heap.size w2 w3 := hu3.below (fun k hk e => by have := (HO2.out.lt k e).1; omega) hB2
  have HB3 := Lib.hid (HB2.out.trans (hb3.mono hB1))
  have hB3 : w2.heap.size ≤ w3.heap.size := hb3.size
  have HRH := Lib.hid (Rd.own ho3)
  have HOH : Hid (OwnAny w3 w1.heap.size 3 1 (.slice (some ⟨gh, 0, none⟩) (n0 + 1) ch) (n0 + 1)) := Lib.hid ⟨_, ho3⟩
  clear ho3 hu3 hb3 HO2 HB2
  have t4 := own_nothing w3 27 4
  have t5 := (HR.out.below HB3.out).below ((below_alloc w3 (.cells #[] 27)).mono HB3.out.size)
  have t6 := entv_cell l
  go_wp2_with (at_builtin; refine wpList_app rfl (.tmp 25) (.tmp 26) 23 rfl w3.heap.size 27 i0 _ 4 48 Try.underlying23 hi0 hz0 hz1 hz2 rfl (by omega) _ 0 [] w.heap.size A n c (entv l) rfl t4 rfl t5 t6 ?e1 ?e2 ?e3 ?_)
  case e1 => omega
  case e2 => unfold maxLen; omega
  case e3 => simp
  intro v4 w4 ho4 hu4 _
  clear t4 t5 t6
  have hb4 : Below w3.heap.size w3 w4 := (below_alloc w3 (.cells #[] 27)).trans (hu4.below (fun k hk e => by simp [Value.ownBlock] at e; omega) (by simp))
  have HO4 := Lib.hid ho4
  have HB4 := Lib.hid hb4
  have hB4 : w3.heap.size ≤ w4.heap.size := hb4.size
  clear ho4 hu4 hb4
  go_wp2_with (at_builtin; refine wpList_push rfl (.tmp 27) (.tmp 29) 23 rfl w3.heap.size 27 i0 _ 4 48 Try.underlying23 hi0 hz0 hz1 hz2 rfl (by omega) _ n (entv l) #[.string ⟨#[115, 112, 97, 114, 101]⟩, .int .i64 0, .bool false, .string ⟨#[]⟩] rfl (by exact HO4.out) rfl rfl (by simp [Value.oneCell']) ?f1 ?f2 ?f3 ?_)
  case f1 => omega
  case f2 => unfold maxLen; omega
  all_goals try (exact hB4)
  intro v5 w5 ho5 hu5 _
  obtain ⟨go, co, rfl, hob, hol, hoc, _⟩ := own_form ho5 (by omega)
  have hb5 : Below w3.heap.size w3 w5 := HB4.out.trans (hu5.below (fun k hk e => by have := (HO4.out.lt k e).1; omega) hB4)
  have HB5 := Lib.hid hb5
  have HBW5 := Lib.hid (HB3.out.trans (hb5.mono HB3.out.size))
  have hB5 : w3.heap.size ≤ w5.heap.size := hb5.size
  have HRO := Lib.hid (Rd.own ho5)
  have HOO : Hid (OwnAny w5 w3.heap.size 27 4 (.slice (some ⟨go, 0, none⟩) (n + 1) co) (n + 1)) := Lib.hid ⟨_, ho5⟩
  clear ho5 hu5 hb5 HO4 HB4
  have hal : (a.map (Value.int .i64)).length = n0 * 1 := by rw [List.length_map, HNA.out, Nat.mul_one]
  have hell : (entv l).length = n * 4 := by rw [entv_length, ← HML.out]
  have HRN := Lib.hid (rd_snoc ((HRH.out.below HB5.out).mono hB5) hal)
  go_wp2_with fail
  refine (new_any _ _ n0 ch a HRN.out (by omega)).mono ?_
  rintro e w6 ⟨t, hv, rfl, hsk, hb6⟩
  have HSK := Lib.hid hsk
  have HB6 := Lib.hid hb6
  have hB6 : w5.heap.size ≤ w6.heap.size := hb6.size
  clear hsk hb6 HRN
  go_wp2_with fail
  refine (new_any _ none 0 0 [] Rd.nil (by omega)).mono ?_
  rintro e w7 ⟨t2, hv2, rfl, hsk2, hb7⟩
  have htl := HSK.out.tlt
  have HSK7 := Lib.hid (HSK.out.below hb7)
  have HB7 := Lib.hid (HB6.out.trans (hb7.mono hB6))
  have HS2 := Lib.hid hsk2
  have hB7 : w6.heap.size ≤ w7.heap.size := hb7.size
  clear hsk2 hb7 HB6
  have hhl : (highs a).length ≤ 17592186044416 := by rw [highs_len, HNA.out]; omega
  have HRO7 := Lib.hid ((HRO.out.below HB7.out).mono HB7.out.size)
  go_wp2_with fail
  refine (add_any _ HSK7.out (some ⟨go, 0, none⟩) n co l (rd_snoc HRO7.out hell) (fun h0 ad e => by injection e with e; subst e; exact foot_old HSK7.out hol) (by omega) (by omega) hhl (by simp; omega) (by have h1 := HZ.out; have h2 : sizE (ents ([] : List Nd)) = 0 := rfl; omega)).mono ?_
  rintro e w8 ⟨nk, tk, rfl, had⟩
  have hb8 := had.below HSK7.out (Nat.le_refl _) HB7.out.size
  have HB8 := Lib.hid (HB7.out.trans hb8)
  have HAD := Lib.hid had.skip
  have HLS : Hid (ents nk = l.foldl insE []) := Lib.hid had.list
  have HT1 := Lib.hid had.turn0
  have HT2 := Lib.hid had.turn1
  have HNK := Lib.hid had.len
  have HSZ := Lib.hid had.size
  have HS28 := Lib.hid (HS2.out.upd had.upd (fun k hk _ hf => by
    rcases hf with rfl | ⟨d, hd, _⟩
    · omega
    · cases hd))
  have hnew := had.new
  clear had HSK HSK7
  have hB8 : w7.heap.size ≤ w8.heap.size := hb8.size
  have HFT : Hid (∀ b, foot t nk b → (b = t ∨ w7.heap.size ≤ b) ∧ b < w8.heap.size) := Lib.hid fun b hf => ⟨by
    rcases hf with h | ⟨d, hd, rfl⟩
    · exact .inl h
    · rcases hnew d hd with ⟨d0, h0, _⟩ | h
      · cases h0
      · exact .inr h, (foot_base HAD.out b hf).2⟩
  have H2T : Hid ((w6.heap.size ≤ t2 ∧ t2 < w7.heap.size) ∧ ∀ b, hv2.ownBlock = some b → w6.heap.size ≤ b ∧ b < w7.heap.size) := Lib.hid ⟨⟨HS2.out.tbase, HS2.out.tlt⟩, fun b e => HS2.out.hown.lt b e⟩
  clear hnew
  have HRO8 := Lib.hid (((HRO.out.below HB8.out).mono HB8.out.size))
  clear hb8
  have HRH8 := Lib.hid ((HRH.out.below (HB5.out.trans (HB8.out.mono hB5))).mono (Nat.le_trans hB5 HB8.out.size))
  have HBW8 := Lib.hid (HBW5.out.trans (HB8.out.mono HBW5.out.size))
  have HRS := Lib.hid (rd_snoc HRO8.out hell)
  clear HRO HRH HRO7 HS2
  go_wp2_with fail
  refine (same6_yes (some ⟨go, 0, none⟩) A n co c _ l w8 (by unfold maxLen; omega) HRS.out ((HR.out.below HBW8.out).mono HBW8.out.size)).mono ?_
  rintro e w9 ⟨rfl, m9, hw9⟩
  have d0 : w9.cell? ⟨go, n * 4, none⟩ = some (.string ⟨#[115, 112, 97, 114, 101]⟩) := by
    obtain ⟨ad, e, _, hc⟩ := HRO8.out.at_ (by omega)
    injection e with e
    have := hc (n * 4) (.string ⟨#[115, 112, 97, 114, 101]⟩) (by rw [List.getElem?_append_right (by omega), hell, Nat.sub_self]; rfl)
    rw [hw9, ← add_zero_off go (n * 4), e]
    exact this
  have d1 : w9.cell? ⟨gh, n0, none⟩ = some (.int .i64 (-77)) := by
    obtain ⟨ad, e, _, hc⟩ := HRH8.out.at_ (by omega)
    injection e with e
    have := hc n0 (.int .i64 (-77)) (by rw [List.getElem?_append_right (by omega), hal, Nat.mul_one, Nat.sub_self]; rfl)
    rw [hw9, ← add_zero_off gh n0, e]
    exact this
  have i1 : (n : Int) < (n : Int) + 1 := by omega
  have i2 : (n0 : Int) < (n0 : Int) + 1 := by omega
  have HB9 : Hid (Below w8.heap.size w8 w9) := Lib.hid (by rw [hw9]; exact below_drewNs (Below.refl _ _) m9)
  have hB9 := HB9.out.size
  have HBW9 := Lib.hid (HBW8.out.trans (HB9.out.mono HBW8.out.size))
  have HAD9 := Lib.hid (HAD.out.below HB9.out)
  have HS29 := Lib.hid (HS28.out.below HB9.out)
  have HOO9 := Lib.hid (HOO.out.upd (Upd.of_below (S := fun _ => False) (HB8.out.trans (HB9.out.mono HB8.out.size))) (fun _ _ h => h))
  have HOH9 := Lib.hid (HOH.out.upd (Upd.of_below (S := fun _ => False) (HB5.out.trans ((HB8.out.trans (HB9.out.mono HB8.out.size)).mono hB5))) (fun _ _ h => h))
  clear hw9 hal hell HAD HS28 HRO8 HRH8 HRS HBW8 HB9 HOO HOH
  have hwb9 : w5.heap.size ≤ w9.heap.size := by have := HB8.out.size; omega
  clear HB8 HB7 HB5
  go_wp2
  go_loopw [9, 69] (fun mv i wx => ∃ (k : Nat) (M : List Ent), k ≤ n ∧ i = .int .i64 (k : Int) ∧ Hid (M = (l.take k).foldl insE []) ∧ Hid (wx.ownsRow w9.heap.size 27 4 mv M.length (entv M)) ∧ M.length ≤ k ∧ Hid (Below w9.heap.size w9 wx)) (fun _ i _ => n - (intOf i).toNat)
  case atStart => exact ⟨0, [], Nat.zero_le _, rfl, Lib.hid rfl, Lib.hid (World.ownsRow_nil _ _ _ _), Nat.le_refl _, Lib.hid (Below.refl _ _)⟩
  case round =>
    obtain ⟨k, M, hkn, rfl, hM, hmv, hlen, hb⟩ := hrel
    obtain ⟨A2, c2, rfl, hnc2, hrm⟩ := own_full hmv.out
    have hbz := hb.out.size
    by_cases hlt : k < n
    · have hbw := HBW9.out.trans (hb.out.mono HBW9.out.size)
      have hrx := HR.out.below hbw
      obtain ⟨b, off, rfl, hB, hs, c0, c1, c2', c3⟩ := hrx.ent hlt
      obtain ⟨q, hq⟩ : ∃ q, l[k] = q := ⟨_, rfl⟩
      have hst : (l.take (k + 1)).foldl insE [] = insE M q := by rw [List.take_succ_eq_append_getElem hs, hq, foldl_snoc, hM.out]
      have HST := Lib.hid hst
      rw [hq] at c0 c1 c2' c3
      obtain ⟨qk, qs, qd, qv⟩ := q
      change wr.cell? ⟨b, off + k * 4, none⟩ = some (.string qk) at c0
      change wr.cell? ⟨b, off + k * 4 + 1, none⟩ = some (.int .i64 qs) at c1
      change wr.cell? ⟨b, off + k * 4 + 2, none⟩ = some (.bool qd) at c2'
      change wr.cell? ⟨b, off + k * 4 + 3, none⟩ = some (.string qv) at c3
      have j1 : (0 : Int) ≤ (k : Int) := by omega
      have j2 : (k : Int) < (n : Int) := by omega
      have hbX := below_alloc wr (.cells #[.string qk, .int .i64 qs, .bool qd, .string qv] 27)
      have HRA := Lib.hid (radd_any (wr.alloc (.cells #[.string qk, .int .i64 qs, .bool qd, .string qv] 27)) A2 M.length c2 M ⟨qk, qs, qd, qv⟩ ((hrm.below hbX).mono hbX.size) (by omega) hnc2)
      have HBX := Lib.hid (hb.out.trans (hbX.mono hbz))
      have HIL := Lib.hid (Nat.le_trans (insE_len M ⟨qk, qs, qd, qv⟩) (Nat.succ_le_succ hlen))
      clear hq hrx hbw hst hM hrm hmv hlen hbX
      go_wp2_with fail
      refine HRA.out.mono ?_
      rintro e w10 ⟨v10, rfl, ho10, hb10⟩
      have HM10 : Hid (insE M ⟨qk, qs, qd, qv⟩ = (l.take (k + 1)).foldl insE []) := Lib.hid HST.out.symm
      have HO10 := Lib.hid (own_mono ho10 HBX.out.size)
      have hl10 := HIL.out
      have HB10 := Lib.hid (HBX.out.trans (hb10.mono HBX.out.size))
      clear ho10 hb10 HST HIL
      go_wp2
      go_roundw
      case rel => exact ⟨k + 1, _, hlt, by go_num, HM10, HO10, hl10, HB10⟩
      case measure => simp [intOf]; omega
    · obtain rfl : k = n := by omega
      have htk : l.take k = l := List.take_of_length_le (by have := HML.out; omega)
      rw [htk] at hM
      rw [← hM.out] at HLS
      have HLF := hM
      clear hM htk hrm
      have HADm := Lib.hid (HAD9.out.below hb.out)
      have HS2m := Lib.hid (HS29.out.below hb.out)
      have HOOm := Lib.hid (HOO9.out.upd (Upd.of_below (S := fun _ => False) hb.out) (fun _ _ h => h))
      have HOHm := Lib.hid (HOH9.out.upd (Upd.of_below (S := fun _ => False) hb.out) (fun _ _ h => h))
      have HBWm := Lib.hid (HBW9.out.trans (hb.out.mono HBW9.out.size))
      clear HAD9 HS29 HOO9 HOH9 HBW9
      rename World => wm
      have hgh5 : gh < w5.heap.size := by omega
      have hm9 : w5.heap.size ≤ wm.heap.size := by omega
      have hgw : w.heap.size ≤ gh := by omega
      have hgo : w.heap.size ≤ go := by omega
      have hmg : Hid (∀ b, (Value.slice A2 M.length c2).ownBlock = some b → w5.heap.size ≤ b) := Lib.hid fun b e => by have := (hmv.out.lt b e).1; omega
      clear d0 d1
      go_wp2
      go_loopw [79] (fun i wx => ∃ j : Nat, j ≤ n0 + 1 ∧ i = .int .i64 (j : Int) ∧ Hid (OwnAny wx w1.heap.size 3 1 (.slice (some ⟨gh, 0, none⟩) (n0 + 1) ch) (n0 + 1)) ∧ Hid (Upd (fun b => b = gh) wm wx)) (fun i _ => n0 + 1 - (intOf i).toNat)
      case atStart => exact ⟨0, Nat.zero_le _, rfl, HOHm, Lib.hid (Upd.refl _ _)⟩
      case round =>
        obtain ⟨j, hjn, rfl, hoa, hua⟩ := hrel
        by_cases hj : j < n0 + 1
        · obtain ⟨u, hu⟩ := hoa.out.cell j (by omega)
          have fz := hoa.out.frozen j
          have j1 : (0 : Int) ≤ (j : Int) := by omega
          have j2 : (j : Int) < (n0 : Int) + 1 := by omega
          go_wp2
          go_roundw
          case rel => exact ⟨j + 1, hj, by go_num, Lib.hid (hoa.out.set j _), Lib.hid (hua.out.setCell ⟨gh, j, none⟩ rfl _)⟩
          case measure => simp [intOf]; omega
        · obtain rfl : j = n0 + 1 := by omega
          have HADh := Lib.hid (HADm.out.upd hua.out (fun b h1 _ e => by omega))
          have HS2h := Lib.hid (HS2m.out.upd hua.out (fun b h1 _ e => by omega))
          have HOOh := Lib.hid (HOOm.out.upd hua.out (fun b e h => by simp [Value.ownBlock] at e; omega))
          have hmh := Lib.hid (own_upd hmv.out hua.out (fun b e h => by have := hmg.out b e; omega))
          have HBWh := Lib.hid (HBWm.out.trans (hua.out.below (fun b h1 e => by omega) HBWm.out.size))
          have hhz := hua.out.size
          clear HADm HS2m HOOm hmv HBWm hoa hua HOHm
          rename World => wh
          go_wp2
          go_loopw [88] (fun i wx => ∃ j : Nat, j ≤ k + 1 ∧ i = .int .i64 (j : Int) ∧ Hid (OwnAny wx w3.heap.size 27 4 (.slice (some ⟨go, 0, none⟩) (k + 1) co) (k + 1)) ∧ Hid (Upd (fun b => b = go) wh wx)) (fun i _ => k + 1 - (intOf i).toNat)
          case atStart => exact ⟨0, Nat.zero_le _, rfl, HOOh, Lib.hid (Upd.refl _ _)⟩
          case round =>
            obtain ⟨j, hjn, rfl, hoa, hua⟩ := hrel
            by_cases hj : j < k + 1
            · obtain ⟨u0, hu0⟩ := hoa.out.cell (j * 4) (by omega)
              obtain ⟨u1, hu1⟩ := hoa.out.cell (j * 4 + 1) (by omega)
              obtain ⟨u2, hu2⟩ := hoa.out.cell (j * 4 + 2) (by omega)
              obtain ⟨u3, hu3⟩ := hoa.out.cell (j * 4 + 3) (by omega)
              have fz0 := hoa.out.frozen (j * 4)
              have fz1 := hoa.out.frozen (j * 4 + 1)
              have fz2 := hoa.out.frozen (j * 4 + 2)
              have fz3 := hoa.out.frozen (j * 4 + 3)
              have j1 : (0 : Int) ≤ (j : Int) := by omega
              have j2 : (j : Int) < (k : Int) + 1 := by omega
              go_wp2
              go_roundw
              case rel => exact ⟨j + 1, hj, by go_num, Lib.hid ((((hoa.out.set (j * 4) _).set (j * 4 + 1) _).set (j * 4 + 2) _).set (j * 4 + 3) _), Lib.hid ((((hua.out.setCell ⟨go, j * 4, none⟩ rfl _).setCell ⟨go, j * 4 + 1, none⟩ rfl _).setCell ⟨go, j * 4 + 2, none⟩ rfl _).setCell ⟨go, j * 4 + 3, none⟩ rfl _)⟩
              case measure => simp [intOf]; omega
            · obtain rfl : j = k + 1 := by omega
              have HAD := Lib.hid (HADh.out.upd hua.out (fun b h1 _ e => by omega))
              have HS2 := Lib.hid (HS2h.out.upd hua.out (fun b h1 _ e => by omega))
              have hmo := Lib.hid (own_upd hmh.out hua.out (fun b e h => by have := hmg.out b e; omega))
              have HBW := Lib.hid (HBWh.out.trans (hua.out.below (fun b h1 e => by omega) HBWh.out.size))
              have hoz := hua.out.size
              clear HADh HS2h hmh HBWh hoa hua HOOh
              rename World => wo
              have hml : nk.length = M.length := by rw [← HLS.out]; simp [ents]
              have hall := all_any wo HAD.out (by omega)
              rw [hml, show nk.map (·.x) = M from HLS.out] at hall
              have HALL := Lib.hid hall
              have hf0 : fromAt nk ⟨#[]⟩ = 0 := (fromAt_fromE nk ⟨#[]⟩ (fun d hd => by
                have h1 : d.x ∈ l.foldl insE [] := by
                  rw [← HLF.out, ← HLS.out]
                  exact List.mem_map.2 ⟨d, hd, rfl⟩
                rcases foldE_mem h1 with h2 | ⟨x, hx, e⟩
                · cases h2
                · rw [e, clean_seq]
                  exact (HOK.out x hx).2)).trans (fromE_nil _)
              have hfr := fun W (hW : Below wo.heap.size wo W) => fromk_any W ⟨#[]⟩ (HAD.out.below hW) (by omega)
              rw [hf0, hml, List.drop_zero, show nk.map (·.x) = M from HLS.out, Nat.sub_zero] at hfr
              have HF := Lib.hid hfr
              clear hall hfr hf0
              go_wp2_with fail
              refine HALL.out.mono ?_
              rintro e w13 ⟨v13, rfl, ho13, hb13⟩
              obtain ⟨A13, c13, rfl, hnc13, _⟩ := own_full ho13
              have HL13 : Hid (∀ b, (Value.slice A13 M.length c13).ownBlock = some b → wo.heap.size ≤ b ∧ b < w13.heap.size) := Lib.hid fun b e => ho13.lt b e
              have HO13 : Hid (OwnAny w13 wo.heap.size 27 4 (.slice A13 M.length c13) M.length) := Lib.hid ⟨_, ho13⟩
              have HB13 := Lib.hid hb13
              have hz13 := hb13.size
              clear ho13 hb13
              go_wp2_with fail
              refine (HF.out _ HB13.out).mono ?_
              rintro e w14 ⟨v14, rfl, ho14, hb14⟩
              obtain ⟨A14, c14, rfl, hnc14, _⟩ := own_full ho14
              have HO14 := Lib.hid ho14
              have HO13b := Lib.hid (HO13.out.upd (Upd.of_below (S := fun _ => False) hb14) (fun _ _ h => h))
              have HB14 := Lib.hid (HB13.out.trans (hb14.mono hz13))
              have hz14 : w13.heap.size ≤ w14.heap.size := hb14.size
              clear ho14 hb14 HO13 HB13 HF HALL
              go_wp2
              go_loopw [102] (fun i wx => ∃ j : Nat, j ≤ M.length ∧ i = .int .i64 (j : Int) ∧ Hid (OwnAny wx wo.heap.size 27 4 (.slice A13 M.length c13) M.length) ∧ Hid (Upd (fun b => (Value.slice A13 M.length c13).ownBlock = some b) w14 wx)) (fun i _ => M.length - (intOf i).toNat)
              case atStart => exact ⟨0, Nat.zero_le _, rfl, HO13b, Lib.hid (Upd.refl _ _)⟩
              case round =>
                obtain ⟨j, hjn, rfl, hoa, hua⟩ := hrel
                by_cases hj : j < M.length
                · obtain ⟨ga, rfl⟩ : ∃ ga, A13 = some ⟨ga, 0, none⟩ := by
                    obtain ⟨xs, hx⟩ := hoa.out
                    obtain ⟨ga, ca, e, _⟩ := own_form hx (by omega)
                    injection e with e
                    exact ⟨ga, e⟩
                  obtain ⟨u0, hu0⟩ := hoa.out.cell (j * 4) (by omega)
                  obtain ⟨u1, hu1⟩ := hoa.out.cell (j * 4 + 1) (by omega)
                  obtain ⟨u2, hu2⟩ := hoa.out.cell (j * 4 + 2) (by omega)
                  obtain ⟨u3, hu3⟩ := hoa.out.cell (j * 4 + 3) (by omega)
                  have fz0 := hoa.out.frozen (j * 4)
                  have fz1 := hoa.out.frozen (j * 4 + 1)
                  have fz2 := hoa.out.frozen (j * 4 + 2)
                  have fz3 := hoa.out.frozen (j * 4 + 3)
                  have j1 : (0 : Int) ≤ (j : Int) := by omega
                  have j2 : (j : Int) < (M.length : Int) := by omega
                  go_wp2
                  go_roundw
                  case rel => exact ⟨j + 1, hj, by go_num, Lib.hid ((((hoa.out.set (j * 4) _).set (j * 4 + 1) _).set (j * 4 + 2) _).set (j * 4 + 3) _), Lib.hid ((((hua.out.setCell ⟨ga, j * 4, none⟩ rfl _).setCell ⟨ga, j * 4 + 1, none⟩ rfl _).setCell ⟨ga, j * 4 + 2, none⟩ rfl _).setCell ⟨ga, j * 4 + 3, none⟩ rfl _)⟩
                  case measure => simp [intOf]; omega
                · obtain rfl : j = M.length := by omega
                  have hbx : Below wo.heap.size wo wr := HB14.out.trans (hua.out.below (fun b h1 e => by have := HL13.out b e; omega) (Nat.le_trans hz13 hz14))
                  have HBX := Lib.hid hbx
                  have hm15 := Lib.hid (own_below hmo.out hbx)
                  have hb15 := Lib.hid (own_upd HO14.out hua.out (fun b e h => by have h1 := (HO14.out.lt b e).1; have h2 := (HL13.out b h).2; omega))
                  have HL14 : Hid (∀ b, (Value.slice A14 M.length c14).ownBlock = some b → w13.heap.size ≤ b) := Lib.hid fun b e => (HO14.out.lt b e).1
                  have HLM : Hid (∀ b, (Value.slice A2 M.length c2).ownBlock = some b → w9.heap.size ≤ b ∧ b < wo.heap.size) := Lib.hid fun b e => hmo.out.lt b e
                  have hz15 := hua.out.size
                  obtain ⟨xs15, hx15⟩ := hoa.out
                  have HX15 := Lib.hid hx15
                  clear hmo HO14 hua hoa hbx HO13b HB14 hx15
                  rename World => w15
                  go_wp2_with (at_builtin; refine wpList_push rfl (.tmp 110) (.tmp 112) 23 rfl wo.heap.size 27 i0 _ 4 48 Try.underlying23 hi0 hz0 hz1 hz2 rfl (by omega) _ M.length xs15 #[.string ⟨#[]⟩, .int .i64 0, .bool false, .string ⟨#[]⟩] rfl (by exact HX15.out) rfl rfl (by simp [Value.oneCell']) ?p1 ?p2 ?p3 ?_)
                  case p1 => omega
                  case p2 => unfold maxLen; omega
                  case p3 => omega
                  intro v16 w16 ho16 hu16 _
                  obtain ⟨A16, c16, rfl⟩ := own_shape ho16
                  have hub : Below wo.heap.size w15 w16 := hu16.below (fun b h1 e => by have := (HL13.out b e).1; omega) (by omega)
                  have HBX16 := Lib.hid (HBX.out.trans hub)
                  have hm16 := Lib.hid (own_upd hm15.out hu16 (fun b e h => by have h1 := (HLM.out b e).2; have h2 := (HL13.out b h).1; omega))
                  have hb16 := Lib.hid (own_upd hb15.out hu16 (fun b e h => by have h1 := HL14.out b e; have h2 := (HL13.out b h).2; omega))
                  have hz16 : w15.heap.size ≤ w16.heap.size := hu16.size
                  clear HBX ho16 hu16 hub hm15 hb15 HX15
                  obtain ⟨X1, hX1⟩ : ∃ X1 : Ent, X1 = ⟨⟨#[255, 255]⟩, 1, false, ⟨#[]⟩⟩ := ⟨_, rfl⟩
                  have hz1 : sizE [X1] = 2 := by rw [hX1]; rfl
                  have HX1 := Lib.hid hX1
                  have HADP := Lib.hid (HAD.out.below (HBX16.out.alloc (by omega) (.cells #[.string ⟨#[255, 255]⟩, .int .i64 1, .bool false, .string ⟨#[]⟩] 27)))
                  have hrX : Rd (w16.alloc (.cells #[.string ⟨#[255, 255]⟩, .int .i64 1, .bool false, .string ⟨#[]⟩] 27)) (w16.alloc (.cells #[.string ⟨#[255, 255]⟩, .int .i64 1, .bool false, .string ⟨#[]⟩] 27)).heap.size 4 (some ⟨w16.heap.size, 0, none⟩) 1 (entv [X1]) := rd_new _ 4 1 _ _ _ rfl (by rw [hX1]; rfl)
                  have HRX := Lib.hid hrX
                  clear hX1 hrX
                  go_wp2_with fail
                  refine (add_any _ HADP.out (some ⟨w16.heap.size, 0, none⟩) 1 1 [X1] HRX.out (fun _ ad e => by injection e with e; subst e; intro hf; have : w16.heap.size < w8.heap.size := (HFT.out _ hf).2; omega) HT1.out (by have h1 := HT2.out; have h2 := HML.out; omega) hhl (by omega) (by have h1 := HZ.out; have h2 : sizE (ents ([] : List Nd)) = 0 := rfl; have h3 := HSZ.out; omega)).mono ?_
                  rintro e w17 ⟨nk2, tk2, rfl, had2⟩
                  have hu17 : Upd (foot t nk) w16 w17 := ((Upd.refl (foot t nk) w16).alloc _).trans had2.upd (fun _ _ h => h)
                  have HL2 : Hid (ents nk2 = insE M X1) := Lib.hid (by have := had2.list; rw [HLS.out] at this; exact this)
                  have HAD17 := Lib.hid had2.skip
                  have hln2 : nk2.length ≤ M.length + 1 := by have := had2.len; simp at this; omega
                  have hm17 := Lib.hid (own_upd hm16.out hu17 (fun b e h => by have h1 := (HLM.out b e).1; have h2 := (HFT.out b h).2; omega))
                  have hb17 := Lib.hid (own_upd hb16.out hu17 (fun b e h => by have h1 := HL14.out b e; have h2 := (HFT.out b h).2; omega))
                  have HS17 := Lib.hid ((HS2.out.below HBX16.out).updF hu17 (fun b h1 h2 => by
                    have h3 := (HFT.out b h2).1
                    have h4 := H2T.out.1
                    rcases h1 with rfl | ⟨d, hd, _⟩
                    · omega
                    · cases hd) (fun b h1 h2 => by have h3 := (HFT.out b h2).1; have h4 := H2T.out.2 b h1; omega))
                  have HBW17 := Lib.hid (HBW.out.trans ((HBX16.out.mono HBW.out.size).trans (hu17.below (fun b h1 h2 => by have h3 := (HFT.out b h2).1; have h4 := HBW5.out.size; have h5 := HADP.out.tbase; rcases h3 with h3 | h3 <;> omega) (by have h6 := HBW.out.size; have h7 := HBX16.out.size; omega))))
                  have hz17 : w16.heap.size ≤ w17.heap.size := hu17.size
                  clear had2 hu17 hm16 hb16 HAD HS2 HBW HBX16 HADP HRX
                  have hrm17 := Lib.hid (Rd.own hm17.out)
                  go_wp2_with fail
                  have hra := radd_any w17 A2 M.length c2 M X1 hrm17.out (by omega) hnc2
                  have hag : X1.agg = .agg #[.string ⟨#[255, 255]⟩, .int .i64 1, .bool false, .string ⟨#[]⟩] := by rw [HX1.out]; rfl
                  rw [hag] at hra
                  refine hra.mono ?_
                  rintro e w18 ⟨v18, rfl, ho18, hb18⟩
                  obtain ⟨A18, c18, rfl, hnc18, hr18⟩ := own_full ho18
                  have hl18 : (insE M X1).length = nk2.length := by rw [← HL2.out]; simp [ents]
                  rw [hl18] at hr18 hnc18
                  have HR18 := Lib.hid hr18
                  have HB18 := Lib.hid hb18
                  have HRM18 := Lib.hid ((hrm17.out.below hb18).mono hb18.size)
                  have HRB18 := Lib.hid (((Rd.own hb17.out).below hb18).mono hb18.size)
                  have hz18 : w17.heap.size ≤ w18.heap.size := hb18.size
                  clear ho18 hr18 hb18 hra hag hm17 hb17 hrm17
                  rw [hl18]
                  go_wp2_with fail
                  refine (same6_yes A14 A2 M.length c14 c2 _ M w18 (by unfold maxLen; omega) HRB18.out HRM18.out).mono ?_
                  rintro e w19 ⟨rfl, m19, hw19⟩
                  have HB19 : Hid (Below w18.heap.size w18 w19) := Lib.hid (by rw [hw19]; exact below_drewNs (Below.refl _ _) m19)
                  have HB1719 := Lib.hid (HB18.out.trans (HB19.out.mono hz18))
                  clear hw19
                  have hall2 := all_any w19 (HAD17.out.below HB1719.out) (by omega)
                  rw [show nk2.map (·.x) = insE M X1 from HL2.out] at hall2
                  have HALL2 := Lib.hid hall2
                  clear hall2
                  go_wp2_with fail
                  refine HALL2.out.mono ?_
                  rintro e w20 ⟨v20, rfl, ho20, hb20⟩
                  obtain ⟨A20, c20, rfl, hnc20, hr20⟩ := own_full ho20
                  have HR20 := Lib.hid hr20
                  have HB20 := Lib.hid (HB1719.out.trans (hb20.mono HB1719.out.size))
                  have HR18' := Lib.hid (((HR18.out.below HB19.out).mono HB19.out.size).below hb20)
                  have hz20 := hb20.size
                  clear ho20 hr20 hb20 HALL2
                  go_wp2_with fail
                  refine (same6_yes A20 A18 nk2.length c20 c18 _ (insE M X1) w20 (by unfold maxLen; omega) HR20.out (HR18'.out.mono hz20)).mono ?_
                  rintro e w21 ⟨rfl, m21, hw21⟩
                  have HB21 : Hid (Below w17.heap.size w17 w21) := Lib.hid (by rw [hw21]; exact below_drewNs HB20.out m21)
                  clear hw21
                  go_wp2_with fail
                  refine (len_any _ (HS17.out.below HB21.out)).mono ?_
                  rintro e w22 ⟨rfl, hw22⟩
                  subst hw22
                  go_wp2
                  go_ret
                  exact ⟨rfl, HBW17.out.trans (HB21.out.mono HBW17.out.size)⟩
end Go.Proofs.Ythaobfdocnaneaa
