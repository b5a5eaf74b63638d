/- Tables: lives, walked. -/
import Derived.Test.YtanieolnaiihmaaJTbGet
namespace Go.Proofs.Ytanieolnaiihmaa
open Go.RowKit
def kB : ByteArray := ⟨#[107]⟩
def vB : ByteArray := ⟨#[118]⟩
def liveL (j : Nat) : List Ent := (List.range j).map fun i : Nat => ⟨⟨#[107]⟩, 9 - (i : Int), false, ⟨#[118]⟩⟩
theorem liveL_succ (j : Nat) : liveL (j + 1) = liveL j ++ [⟨⟨#[107]⟩, 9 - (j : Int), false, ⟨#[118]⟩⟩] := by unfold liveL; rw [List.range_succ, List.map_append]; rfl
theorem liveL_len (j : Nat) : (liveL j).length = j := by simp [liveL]
theorem live_okE {j : Nat} (hj : j ≤ 9) : okE 1 (liveL j) := by
  refine ⟨fun x hx => ?_, ?_⟩
  · obtain ⟨i, hi, rfl⟩ := List.mem_map.1 hx
    rw [List.mem_range] at hi
    exact ⟨⟨by simp only; omega, by simp only; omega⟩, by show 1 ≤ 1; omega, by show 1 ≤ 1; omega⟩
  · rw [liveL_len]
    have : j * (50 + 2 * 1) ≤ 9 * (50 + 2 * 1) := Nat.mul_le_mul_right _ hj
    omega
theorem less_one (a b : Int) : lessK ⟨#[107]⟩ a ⟨#[107]⟩ b = decide (b < a) := by
  unfold lessK
  rw [less_irr]; simp
theorem rises_snoc : ∀ (l : List Ent) (p : Option Ent) (x : Ent), risesE p l → (∀ q, (l.getLast?.or p) = some q → lessE q x = true) → risesE p (l ++ [x]) := by
  intro l
  induction l with
  | nil => intro p x _ h; exact ⟨fun q hq => h q (by simpa using hq), trivial⟩
  | cons y l ih =>
    intro p x h hx
    refine ⟨h.1, ih (some y) x h.2 fun q hq => hx q ?_⟩
    cases l with
    | nil => simpa using hq
    | cons z l =>
      rw [List.getLast?_cons_cons]
      rw [List.getLast?_cons] at hq ⊢
      simpa using hq
theorem live_right (j : Nat) : rightE (liveL j) := by
  induction j with
  | zero => exact ⟨fun x h => by simp [liveL] at h, trivial⟩
  | succ j ih =>
    rw [liveL_succ]
    refine ⟨fun x hx => ?_, rises_snoc _ _ _ ih.2 fun q hq => ?_⟩
    · rcases List.mem_append.1 hx with h | h
      · exact ih.1 x h
      · simp at h; subst h; intro h; cases h
    · cases j with
      | zero => simp [liveL] at hq
      | succ j =>
        rw [liveL_succ] at hq
        simp at hq
        subst hq
        show lessK _ _ _ _ = true
        rw [less_one]
        simp only [decide_eq_true_eq]
        omega
theorem live_bld : (bldT (liveL 9)).2 = 0 := by
  unfold bldT
  rw [if_pos (live_right 9)]
  unfold sealR
  rw [if_pos]
  intro s hs
  have hok := live_okE (j := 9) (by omega)
  have hp : partN (liveL 9) = 2 := by unfold partN; rw [liveL_len]
  have hn := bldN_le (liveL 9)
  rw [liveL_len] at hn
  have hf := footE_le (S := 1) (by omega) hok
  have hi := idxE_le (S := 1) (by omega) hok 2 (by omega)
  unfold allP at hs
  rw [hp] at hs
  rcases List.mem_append.1 hs with h | h
  · obtain ⟨k, hk, rfl⟩ := List.mem_map.1 h
    have hb := block_le (S := 1) (by omega) (p := partE (liveL 9) k) (fun x hx => hok.1 x (partE_mem hx)) (by rw [partE_len]; omega)
    have h8 : (partE (liveL 9) k).length ≤ 8 := by rw [partE_len]; omega
    unfold payE
    rw [toB_size]
    omega
  · simp only [List.mem_cons, List.not_mem_nil, or_false] at h
    rcases h with rfl | rfl | rfl <;> rw [toB_size] <;> omega
theorem live_size : (bldT (liveL 9)).1.length ≤ 268435456 := by
  have hok := live_okE (j := 9) (by omega)
  have hp : partN (liveL 9) = 2 := by unfold partN; rw [liveL_len]
  have hn := bldN_le (liveL 9)
  rw [liveL_len] at hn
  have hf := footE_le (S := 1) (by omega) hok
  have hi := idxE_le (S := 1) (by omega) hok 2 (by omega)
  have ha := atE_le (S := 1) (by omega) hok 2
  have ht : ((liveL 9).take (8 * 2)).length * (50 + 2 * 1) ≤ 9 * (50 + 2 * 1) := Nat.mul_le_mul_right _ (by rw [List.length_take, liveL_len]; omega)
  rw [(bldT_ok live_bld).2.2]
  unfold allP
  rw [sealT_append, List.length_append, pays_len, hp]
  simp only [sealB, List.flatMap_cons, List.flatMap_nil, List.append_nil, List.length_append, frameB_len, toB_data]
  omega
theorem live_hit (i : Nat) (hi : i < 9) : hitE (liveL 9) kB 4 i = decide (5 ≤ i) := by
  unfold hitE
  have : (liveL 9)[i]? = some ⟨⟨#[107]⟩, 9 - (i : Int), false, ⟨#[118]⟩⟩ := by
    unfold liveL
    rw [List.getElem?_map, List.getElem?_range hi]; rfl
  rw [this]
  show (!lessK ⟨#[107]⟩ (9 - (i : Int)) ⟨#[107]⟩ 4) = _
  rw [less_one]
  by_cases h : 5 ≤ i
  · rw [decide_eq_true h, decide_eq_false (by omega)]; rfl
  · rw [decide_eq_false h, decide_eq_true (by omega)]; rfl
theorem live_get {r : Nat} (h1 : r ≤ 9) (h2 : ∀ j, j < r → hitE (liveL 9) kB 4 j = false) (h3 : r < 9 → hitE (liveL 9) kB 4 r = true) : getT (liveL 9) kB r = some ⟨⟨#[107]⟩, 4, false, ⟨#[118]⟩⟩ := by
  have hr : r = 5 := by
    by_cases h : r ≤ 5
    · have := h3 (by omega)
      rw [live_hit r (by omega), decide_eq_true_eq] at this
      omega
    · have := h2 5 (by omega)
      rw [live_hit 5 (by omega)] at this
      simp at this
  subst hr
  have hx : (liveL 9)[5]? = some ⟨⟨#[107]⟩, 4, false, ⟨#[118]⟩⟩ := by
    unfold liveL
    rw [List.getElem?_map, List.getElem?_range (show 5 < 9 by omega)]; rfl
  have hm : may (bld (namesE (liveL 9))) kB.data.toList = true := may_bld _ _ (mem_names (x := ⟨⟨#[107]⟩, 4, false, ⟨#[118]⟩⟩) (List.mem_of_getElem? hx))
  unfold getT
  rw [if_pos hm, hx]
  simp [Option.filter, kB]
set_option maxHeartbeats 4000000 in
set_option maxRecDepth 20000 in
theorem tlives_any (w : World) : Calls Try.prog 16 #[] w fun e w' => e = .returned (.bool true) ∧ Below w.heap.size w w' := by
  obtain ⟨i0, hi0, hz0, hz1, hz2⟩ := info_parts ent_info
  go_enter Try.func16, Try.ntmps16
  go_wp2
  go_loopw [1, 2] (fun v iv wx => ∃ j : Nat, j ≤ 9 ∧ iv = .int .i64 (j : Int) ∧ Hid (wx.ownsRow w.heap.size 41 4 v (liveL j).length (entv (liveL j))) ∧ Hid (Below w.heap.size w wx)) (fun _ iv _ => 9 - (intOf iv).toNat)
  case atStart => exact ⟨0, by omega, rfl, Lib.hid (World.ownsRow_nil _ _ _ _), Lib.hid (Below.refl _ _)⟩
  case round =>
    obtain ⟨j, hj, rfl, hO, hB⟩ := hrel
    by_cases hlt : j < 9
    · have hz : (j : Int) < 9 := by omega
      have hw9 : IntKind.i64.wrap (9 - (j : Int)) = 9 - (j : Int) := IntWalk.i64_in _ (by omega)
      have hbs := hB.out.size
      go_wp2_with (at_builtin; refine wpList_push rfl (.tmp 13) (.tmp 17) 31 rfl w.heap.size 41 i0 _ 4 48 Try.underlying31 hi0 hz0 hz1 hz2 rfl (by omega) _ (liveL j).length (entv (liveL j)) #[.string ⟨#[107]⟩, .int .i64 (9 - (j : Int)), .bool false, .string ⟨#[118]⟩] rfl (by exact hO.out) rfl rfl (by simp [Value.oneCell']) ?c1 ?c2 ?c3 ?_)
      case c1 => rw [liveL_len]; omega
      case c2 => rw [liveL_len]; unfold maxLen; omega
      case c3 => exact hbs
      intro v3 w3 ho3 hu3 hat3
      have ho3' : w3.ownsRow w.heap.size 41 4 v3 (liveL (j + 1)).length (entv (liveL (j + 1))) := by
        rw [liveL_succ, entv_append, List.length_append]
        exact ho3
      have hb3 := below_row hB.out hbs hO.out (Nat.le_refl _) hu3
      have HO3 := Lib.hid ho3'
      have HB3 := Lib.hid hb3
      clear ho3 hu3 hat3 ho3' hb3 hO hB
      go_wp2
      go_roundw
      case rel => exact ⟨j + 1, by omega, by simp, HO3, HB3⟩
      case measure => simp [intOf]; omega
    · obtain rfl : j = 9 := by omega
      obtain ⟨A, c, rfl⟩ := own_shape hO.out
      have hokl := live_okE (j := 9) (by omega)
      have HTB := Lib.hid (tbuild_any wr A (liveL 9).length c (liveL 9) (S := 1) (by omega) hokl (Rd.own hO.out) (own_capT hO.out))
      rw [live_bld, liveL_len] at HTB
      have HSZ := Lib.hid live_size
      have HOP := Lib.hid (open_bld (S := 1) (by omega) hokl live_bld)
      obtain ⟨T, hT⟩ : ∃ T : ByteArray, (⟨(bldT (liveL 9)).1.toArray⟩ : ByteArray) = T := ⟨_, rfl⟩
      have hTd : (bldT (liveL 9)).1 = T.data.toList := by rw [← hT]
      rw [hT] at HTB
      rw [hTd] at HSZ HOP
      rw [liveL_len]
      clear hTd hT hokl hlt hO
      have HO2 := Lib.hid (fun W : World => open_any W T (by have := HSZ.out; simpa using this))
      go_wp2_with fail
      refine HTB.out.mono ?_
      rintro e w1 ⟨rfl, hb1⟩
      have HB1 := Lib.hid (bel hB.out hb1)
      clear hb1 HTB hB
      go_wp2_with fail
      refine (HO2.out w1).mono ?_
      rintro e w2 ⟨hb2, hop⟩
      rw [HOP.out] at hop
      obtain ⟨TB, rfl, hT2⟩ := hop
      have HB2 := Lib.hid (bel HB1.out hb2)
      have HG := Lib.hid (tget_any w2 _ TB (liveL 9) kB 4 hT2 (by rw [liveL_len]; omega) (by unfold maxLen; decide) (fun a b hab hb h => by
        rw [liveL_len] at hb
        rw [live_hit a (by omega), decide_eq_true_eq] at h
        rw [live_hit b hb, decide_eq_true_eq]
        omega))
      have HT2 := Lib.hid hT2
      clear hb2 hT2 HO2 HOP HSZ
      go_wp2_with fail
      refine HG.out.mono ?_
      rintro e w3 ⟨hb3, r, h1, h2, h3, rfl⟩
      rw [liveL_len] at h1 h3
      rw [live_get h1 h2 h3]
      have HB3 := Lib.hid (bel HB2.out hb3)
      have HT3 := Lib.hid (HT2.out.below hb3)
      have HT4 := Lib.hid (HT3.out.below ((Below.refl _ w3).alloc (Nat.le_refl _) (.cells #[.string ⟨#[107]⟩, .int .i64 4, .bool false, .string ⟨#[118]⟩] 41)))
      have HB4 := Lib.hid (bel HB3.out ((Below.refl _ w3).alloc (Nat.le_refl _) (.cells #[.string ⟨#[107]⟩, .int .i64 4, .bool false, .string ⟨#[118]⟩] 41)))
      have HLN := Lib.hid (tlen_any _ _ TB (liveL 9) HT4.out)
      have HBK := Lib.hid (tblocks_any _ _ TB (liveL 9) HT4.out)
      rw [liveL_len] at HLN
      rw [show partN (liveL 9) = 2 by unfold partN; rw [liveL_len]] at HBK
      simp only [Option.getD_some, Option.isSome_some, aggE]
      clear hb3 h1 h2 h3 HG
      go_wp2_with (first
        | (go_at_call 24; refine HLN.out.mono ?_; rintro e w4 ⟨rfl, rfl⟩)
        | (go_at_call 25; refine HBK.out.mono ?_; rintro e w4 ⟨rfl, rfl⟩))
      go_ret
      exact ⟨rfl, HB4.out⟩
end Go.Proofs.Ytanieolnaiihmaa
