/- Digests: the digits, walked. -/
import Derived.Test.YtohgkcgeanofnaaTgBuild
namespace Go.Proofs.Ytohgkcgeanofnaa
open Go.RowKit
def digs : List UInt8 := [48, 49, 50, 51, 52, 53, 54, 55, 56, 57, 97, 98, 99, 100, 101, 102]
def dig (k : Nat) : UInt8 := digs.getD k 0
def hexB (l : List UInt8) : List UInt8 := l.flatMap fun x => [dig (x.toNat / 16), dig (x.toNat % 16)]
theorem hexB_snoc (l : List UInt8) (x : UInt8) : hexB (l ++ [x]) = hexB l ++ [dig (x.toNat / 16)] ++ [dig (x.toNat % 16)] := by
  unfold hexB
  rw [List.flatMap_append, List.flatMap_cons, List.flatMap_nil, List.append_nil, List.append_assoc]
  rfl
theorem hexB_length (l : List UInt8) : (hexB l).length = 2 * l.length := by
  induction l with
  | nil => rfl
  | cons x l ih =>
    unfold hexB at ih ⊢
    rw [List.flatMap_cons, List.length_append, ih, List.length_cons]
    show 2 + 2 * l.length = 2 * (l.length + 1)
    omega
theorem and15 (x : UInt8) : bits BinOp.and IntKind.u8 (x.toNat : Int) 15 = ((x.toNat % 16 : Nat) : Int) := by
  have h := (bits_nat .u8 8 (by decide) (fun z h0 h1 => by rw [IntKind.wrap_u8]; omega) x.toNat 15 x.toNat_lt (by decide)).1
  have e : x.toNat &&& 15 = x.toNat % 16 := Nat.and_two_pow_sub_one_eq_mod x.toNat 4
  rw [e] at h
  exact h
theorem dig_at (w : World) (k : Nat) (hk : k < 16) : (Instr.index 9 (.string ⟨#[48, 49, 50, 51, 52, 53, 54, 55, 56, 57, 97, 98, 99, 100, 101, 102]⟩) (.int .u8 (k : Int))).run Try.prog w = .ok (.int .u8 ((dig k).toNat : Int)) w := by
  obtain rfl | rfl | rfl | rfl | rfl | rfl | rfl | rfl | rfl | rfl | rfl | rfl | rfl | rfl | rfl | rfl : k = 0 ∨ k = 1 ∨ k = 2 ∨ k = 3 ∨ k = 4 ∨ k = 5 ∨ k = 6 ∨ k = 7 ∨ k = 8 ∨ k = 9 ∨ k = 10 ∨ k = 11 ∨ k = 12 ∨ k = 13 ∨ k = 14 ∨ k = 15 := by omega
  all_goals rfl
/-- A builder in block b whose buffer lies from Bo on. -/
def Bld (w : World) (b Bo : Nat) (l : List UInt8) : Prop :=
  b < Bo ∧ ∃ p v, (p = .pointer none ∨ p = .pointer (some ⟨b, 0, none⟩)) ∧ w.heap[b]? = some (.cells #[p, v] 46 (0, 0)) ∧ w.ownsRow Bo 5 1 v l.length (bytv l)
theorem Bld.lt {w : World} {b Bo : Nat} {l : List UInt8} (h : Bld w b Bo l) : b < w.heap.size := by
  obtain ⟨_, p, v, _, hb, _⟩ := h
  exact (Array.getElem?_eq_some_iff.1 hb).1
theorem Bld.is {w : World} {b Bo : Nat} {l : List UInt8} (h : Bld w b Bo l) : Lib.IsBuilder 46 5 b b (bytv l) w := by
  obtain ⟨hB, p, v, hp, hb, hown⟩ := h
  have hne : v.ownBlock ≠ some b := fun e => by have := (hown.lt b e).1; omega
  have h2 : w.ownsRow b 5 1 v (bytv l).length (bytv l) := by rw [bytv_length]; exact own_mono hown (Nat.le_of_lt hB)
  rcases hp with rfl | rfl
  · exact .inl ⟨Nat.le_refl _, v, hb, h2, hne⟩
  · exact .inr ⟨Nat.le_refl _, v, hb, h2, hne⟩
theorem check2 (b Bo : Nat) (l : List UInt8) (w : World) (h : Bld w b Bo l) :
    Calls Try.prog 27 #[.pointer (some ⟨b, 0, none⟩)] w fun e w' => e = .returned (.tuple #[]) ∧ (∃ v, w'.heap[b]? = some (.cells #[.pointer (some ⟨b, 0, none⟩), v] 46 (0, 0)) ∧ w'.ownsRow Bo 5 1 v l.length (bytv l)) ∧ Upd (fun k => k = b ∨ Bo ≤ k) w w' := by
  obtain ⟨hB, p, v, hp, hb, hown⟩ := h
  rcases hp with rfl | rfl
  · refine (check_fresh b w (by rw [Lib.cell_of_heap hb]; rfl) (by simp [World.shape?, hb]) (by simp [World.frozen?, hb])).mono ?_
    rintro e w' ⟨rfl, rfl⟩
    refine ⟨rfl, ⟨v, heap_setCell_same w b 0 _ _ _ hb, ?_⟩, (Upd.refl _ w).setCell ⟨b, 0, none⟩ (.inl rfl) _⟩
    exact own_upd hown ((Upd.refl (fun k => k = b) w).setCell ⟨b, 0, none⟩ rfl _) (fun k hk e => by have := (hown.lt k hk).1; omega)
  · refine (check_used b w (by rw [Lib.cell_of_heap hb]; rfl)).mono ?_
    rintro e w' ⟨rfl, rfl⟩
    exact ⟨rfl, ⟨v, hb, hown⟩, Upd.refl _ _⟩
set_option maxHeartbeats 1000000 in
theorem bbyte2 (b Bo : Nat) (l : List UInt8) (x : UInt8) (w : World) (h : Bld w b Bo l) (hlen : l.length + 1 ≤ 140737488355328) (hBw : Bo ≤ w.heap.size) :
    Calls Try.prog 20 #[.pointer (some ⟨b, 0, none⟩), .int .u8 (x.toNat : Int)] w fun e w' => e = .returned .nilIface ∧ Bld w' b Bo (l ++ [x]) ∧ Upd (fun k => k = b ∨ Bo ≤ k) w w' := by
  obtain ⟨i0, hi, hz0, hz1, hz2⟩ := info_parts u8_info
  have hB := h.1
  have hlt0 := h.lt
  go_enter Try.func20, Try.ntmps20
  go_wp2_with fail
  refine (check2 b Bo l _ h).mono ?_
  rintro e w1 ⟨rfl, ⟨v, hbk, hown⟩, hu1⟩
  have c0 : w1.cell? ⟨b, 0, none⟩ = some (.pointer (some ⟨b, 0, none⟩)) := by rw [Lib.cell_of_heap hbk]; rfl
  have c1 : w1.cell? ⟨b, 1, none⟩ = some v := by rw [Lib.cell_of_heap hbk]; rfl
  have hBw1 : Bo ≤ w1.heap.size := by have := hu1.size; omega
  go_wp2_with (at_builtin; refine wpList_push rfl (.tmp 11) (.tmp 13) 29 rfl Bo 5 i0 (.int .u8 0) 1 1 Try.underlying29 hi hz0 hz1 hz2 rfl (by decide) _ _ _ #[.int .u8 (x.toNat : Int)] rfl (by exact hown) rfl rfl ?c2 ?c3 ?c4 ?c5 ?_)
  case c2 => simp [Value.oneCell']
  case c3 => omega
  case c4 => unfold maxLen; omega
  case c5 => exact hBw1
  intro v' w2 hown' hgrow _
  have hnb : ¬ v.ownBlock = some b := fun e => by have := (hown.lt b e).1; omega
  have hb2 : w2.heap[b]? = some (.cells #[.pointer (some ⟨b, 0, none⟩), v] 46 (0, 0)) :=
    (hgrow.block b (Array.getElem?_eq_some_iff.1 hbk).1 hnb).trans hbk
  have d1 : w2.cell? ⟨b, 1, none⟩ = some v := by rw [Lib.cell_of_heap hb2]; rfl
  have f1 : w2.frozen? ⟨b, 1, none⟩ = false := Lib.frozen_of_heap hb2 1
  obtain ⟨ao, cap, rfl⟩ := own_shape hown'
  go_wp2
  go_ret
  have hu2 : Upd (fun k => k = b ∨ Bo ≤ k) w1 (w2.setCell ⟨b, 1, none⟩ (.slice ao (l.length + 1) cap)) := (hgrow.mono (fun k _ e => .inr (hown.lt k e).1)).setCell ⟨b, 1, none⟩ (.inl rfl) _
  refine ⟨rfl, ⟨hB, _, _, .inr rfl, heap_setCell_same w2 b 1 _ _ _ hb2, ?_⟩, hu1.trans hu2 (fun _ _ h => h)⟩
  have e9 : (l ++ [x]).length = l.length + 1 := by rw [List.length_append]; rfl
  rw [e9, bytv_append]
  exact own_upd hown' ((Upd.refl (fun k => k = b) w2).setCell ⟨b, 1, none⟩ rfl _) (fun k hk e => by have := (hown'.lt k hk).1; omega)
set_option maxHeartbeats 4000000 in
set_option maxRecDepth 20000 in
theorem hex_any (w : World) (s : ByteArray) (hs : s.size ≤ 35184372088832) :
    Calls Try.prog 11 #[.string s] w fun e w' => e = .returned (.string ⟨(hexB s.data.toList).toArray⟩) ∧ Below w.heap.size w w' := by
  have hcv := fun w s => run_bytes_of_string (P := Try.prog) w 9 29 5 s Try.underlying9 Try.underlying29 Try.underlying5
  go_enter Try.func11, Try.ntmps11
  have hpl : s.data.toList.length = s.size := by simp
  generalize hcap : grownCap (w.alloc (.cells #[.pointer none, .slice none 0 0] 46)) s.size 0 5 = cap at *
  go_wp2
  have hrd : Rd ((w.alloc (.cells #[.pointer none, .slice none 0 0] 46)).alloc (.cells (bytesRow s cap) 5 ((bytesRow s cap).size, (bytesRow s cap).size + 1))).drew (w.heap.size + 2) 1 (some ⟨w.heap.size + 1, 0, none⟩) s.size (bytv s.data.toList) := by
    have h1 := rd_bytes (w.alloc (.cells #[.pointer none, .slice none 0 0] 46)) s cap 5 ((bytesRow s cap).size, (bytesRow s cap).size + 1)
    rw [hpl] at h1
    simpa using h1
  have hbd : Bld ((w.alloc (.cells #[.pointer none, .slice none 0 0] 46)).alloc (.cells (bytesRow s cap) 5 ((bytesRow s cap).size, (bytesRow s cap).size + 1))).drew w.heap.size (w.heap.size + 2) [] := by
    refine ⟨by omega, .pointer none, .slice none 0 0, .inl rfl, ?_, World.ownsRow_nil _ _ _ _⟩
    show ((w.alloc _).alloc _).heap[w.heap.size]? = _
    rw [heap_alloc_old _ _ (by simp)]
    exact heap_alloc_new w _
  have hbl : Below w.heap.size w ((w.alloc (.cells #[.pointer none, .slice none 0 0] 46)).alloc (.cells (bytesRow s cap) 5 ((bytesRow s cap).size, (bytesRow s cap).size + 1))).drew :=
    below_drew1 (((Below.refl _ _).alloc (Nat.le_refl _) _).alloc (by simp) _)
  have hsz : w.heap.size + 2 ≤ ((w.alloc (.cells #[.pointer none, .slice none 0 0] 46)).alloc (.cells (bytesRow s cap) 5 ((bytesRow s cap).size, (bytesRow s cap).size + 1))).drew.heap.size := by simp [World.drew]
  clear hcv hcap
  generalize ((w.alloc (.cells #[.pointer none, .slice none 0 0] 46)).alloc (.cells (bytesRow s cap) 5 ((bytesRow s cap).size, (bytesRow s cap).size + 1))).drew = w1 at hrd hbd hbl hsz ⊢
  go_loopw [5, 9] (fun _ i wx => ∃ k : Nat, k ≤ s.size ∧ i = .int .i64 k ∧ Bld wx w.heap.size (w.heap.size + 2) (hexB (s.data.toList.take k)) ∧ Upd (fun k => k = w.heap.size ∨ w.heap.size + 2 ≤ k) w1 wx ∧ w.heap.size + 2 ≤ wx.heap.size) (fun _ i _ => s.size - (intOf i).toNat)
  case atStart => exact ⟨0, Nat.zero_le _, rfl, hbd, Upd.refl _ _, hsz⟩
  case round =>
    clear hbd
    obtain ⟨k, hk, rfl, hbd, hux, hsx⟩ := hrel
    by_cases hlt : k < s.size
    · have hr2 := hrd.upd hux hsz (fun _ ad e => by injection e with e; subst e; show ¬ (w.heap.size + 1 = w.heap.size ∨ w.heap.size + 2 ≤ w.heap.size + 1); omega)
      obtain ⟨ad, hA, _, hc⟩ := hr2.at_ (by omega)
      injection hA with hA
      subst hA
      have c0 := hc k _ (bytv_get s.data.toList k (by omega))
      obtain ⟨x, hx⟩ : ∃ x, x = s.data.toList[k]'(by omega) := ⟨_, rfl⟩
      rw [add_flat0, Nat.zero_add, ← hx] at c0
      have hsn : hexB (s.data.toList.take (k + 1)) = hexB (s.data.toList.take k) ++ [dig (x.toNat / 16)] ++ [dig (x.toNat % 16)] := by
        rw [List.take_add_one, List.getElem?_eq_getElem (by omega), ← hx]
        exact hexB_snoc _ _
      have hln : (hexB (s.data.toList.take k)).length ≤ 2 * s.size := by rw [hexB_length, List.length_take]; omega
      have HSN := Lib.hid hsn
      have HX := Lib.hid hx
      clear hsn hx hc hr2
      have m4 : (k : Int) < s.size := by omega
      obtain ⟨q, hq⟩ : ∃ q, q = x.toNat / 16 := ⟨_, rfl⟩
      obtain ⟨r, hr⟩ : ∃ r, r = x.toNat % 16 := ⟨_, rfl⟩
      have d0 := fun w => dig_at w q (by have := x.toNat_lt; omega)
      have d1 := fun w => dig_at w r (by omega)
      have a1 : bits BinOp.and IntKind.u8 (x.toNat : Int) 15 = (r : Int) := by rw [hr]; exact and15 x
      have a0 : (x.toNat : Int) / 16 = (q : Int) := by omega
      have HQ := Lib.hid hq
      have HRR := Lib.hid hr
      clear hq hr
      go_wp2_with fail
      refine (bbyte2 w.heap.size (w.heap.size + 2) _ (dig q) wr hbd (by omega) hsx).mono ?_
      rintro e w2 ⟨rfl, hbd2, hu2⟩
      go_wp2_with fail
      refine (bbyte2 w.heap.size (w.heap.size + 2) _ (dig r) w2 hbd2 (by rw [List.length_append]; show _ + 1 + 1 ≤ _; omega) (Nat.le_trans hsx hu2.size)).mono ?_
      rintro e w3 ⟨rfl, hbd3, hu3⟩
      rw [HQ.out, HRR.out, ← HSN.out] at hbd3
      go_wp2
      refine ⟨⟨k + 1, by omega, by go_num, hbd3, (hux.trans hu2 (fun _ _ h => h)).trans hu3 (fun _ _ h => h), Nat.le_trans (Nat.le_trans hsx hu2.size) hu3.size⟩, ?_⟩
      simp [intOf]; omega
    · obtain rfl : k = s.size := by omega
      rw [List.take_of_length_le (by omega)] at hbd
      have hblw : Below w.heap.size w wr := hbl.trans (hux.below (fun k hk e => by omega) (by omega))
      go_wp2_with fail
      refine (bstring_any w.heap.size w.heap.size _ wr hbd.is hblw.size).mono ?_
      rintro e w2 ⟨rfl, hb2⟩
      go_wp2
      go_ret
      exact ⟨rfl, hblw.trans hb2⟩
end Go.Proofs.Ytohgkcgeanofnaa
