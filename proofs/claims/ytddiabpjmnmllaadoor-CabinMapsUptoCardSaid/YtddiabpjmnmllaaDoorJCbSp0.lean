/- Cabins: cabin.Check, walked. -/
import Derived.Test.YtddiabpjmnmllaaDoorJFtOne
import Derived.Test.YtddiabpjmnmllaaDoorJRgMarks
namespace Go.Proofs.YtddiabpjmnmllaaDoor
open Go.RowKit Go.Lib
set_option maxHeartbeats 4000000 in
set_option maxRecDepth 20000 in
theorem check_any (w : World) (m : Int) (A : Option Addr) (n c : Nat) (l : List MRow) (hr : Rd w w.heap.size 5 A n (catv rowC l)) (hf : ∀ r ∈ l, r.fits) (hLib : LibAt w m) :
    Calls Tryd.prog 25 #[.slice A n c] w fun e w' => e = .returned (.int .i64 (errC l)) ∧ Below w.heap.size w w' := by
  have HL := Lib.hid (rd_catlen rowC_len (by decide) hr)
  have HR := Lib.hid hr
  have HF := Lib.hid hf
  have HLB := Lib.hid hLib
  obtain ⟨E, hE⟩ : ∃ E, errC l = E := ⟨_, rfl⟩
  have HE := Lib.hid hE
  rw [hE]
  have HBT := Lib.hid (fun W n lo hi r h => btw_any W n lo hi r h)
  clear hr hf hE hLib
  go_enter Tryd.func25, Tryd.ntmps25
  have bad : checkL l = false → E = 13 := fun h => by rw [← HE.out]; unfold errC; rw [h]; rfl
  have HBAD := Lib.hid bad
  clear bad
  obtain ⟨b0, hb0⟩ : ∃ b0, (decide ((1 : Int) ≤ (n : Int)) && decide ((n : Int) ≤ 6)) = b0 := ⟨_, rfl⟩
  have hb0' : decide (1 ≤ l.length ∧ l.length ≤ 6) = b0 := by
    rw [← hb0, Bool.eq_iff_iff, Bool.and_eq_true, decide_eq_true_eq, decide_eq_true_eq, decide_eq_true_eq, ← HL.out]
    omega
  have HB0 := Lib.hid hb0
  have hcl0 : checkL l = (b0 && checkGo 0 l) := by unfold checkL; rw [hb0']
  have HCL0 := Lib.hid hcl0
  clear hb0 hb0' hcl0
  go_wp2_with fail
  refine (HBT.out w _ _ _ b0 HB0.out).mono ?_
  rintro e w1 ⟨rfl, hw1⟩
  subst hw1
  cases b0 with
  | false =>
    have HX : Hid (E = 13) := Lib.hid (HBAD.out (by rw [HCL0.out]; rfl))
    go_wp2
    go_ret
    exact ⟨ret_int HX.out.symm, Below.refl _ _⟩
  | true =>
  have HCL : Hid (checkL l = checkGo 0 l) := Lib.hid (by rw [HCL0.out]; rfl)
  have HNB : Hid (1 ≤ n ∧ n ≤ 6) := Lib.hid (by have h := HB0.out; simp only [Bool.and_eq_true, decide_eq_true_eq] at h; omega)
  have hn6 := HNB.out.2
  clear HCL0 HB0
  go_wp2
  go_loopw [3, 12] (fun lv i wx => ∃ k : Nat, k ≤ n ∧ i = .int .i64 (k : Int) ∧ lv = .int .i64 (lastNum l k) ∧ Hid (0 ≤ lastNum l k ∧ lastNum l k ≤ 99) ∧ Hid (checkL l = checkGo (lastNum l k) (l.drop k)) ∧ Hid (Below w1.heap.size w1 wx)) (fun _ i _ => n - (intOf i).toNat)
  case atStart => exact ⟨0, Nat.zero_le _, rfl, by unfold lastNum; rw [if_pos rfl], Lib.hid (by unfold lastNum; rw [if_pos rfl]; omega), Lib.hid (by unfold lastNum; rw [if_pos rfl]; exact HCL.out), Lib.hid (Below.refl _ _)⟩
  case round =>
    obtain ⟨k, hk, rfl, rfl, hla0, hG, hW⟩ := hrel
    by_cases hlt : k < n
    · obtain ⟨b, off, rfl, hb, hs, hcc⟩ := (HR.out.below hW.out).elem rowC_len (by decide) hlt
      have hG2 := hG.out
      rw [List.drop_eq_getElem_cons hs, checkGo] at hG2
      have hln := lastNum_succ hs
      have hfit := HF.out l[k] (List.getElem_mem hs)
      obtain ⟨r, hr⟩ : ∃ r, l[k] = r := ⟨_, rfl⟩
      rw [hr] at hcc hG2 hln hfit
      obtain ⟨r1, r2, r3, r4, r5⟩ := r
      have c0 := hcc 0 _ rfl
      have c1 := hcc 1 _ rfl
      have c2 := hcc 2 _ rfl
      have c3 := hcc 3 _ rfl
      have c4 := hcc 4 _ rfl
      rw [Nat.add_zero] at c0
      rw [rowOk_iff] at hG2
      simp only at hG2 hln
      have hseat := letters_any r5
      obtain ⟨sb, hsb⟩ : ∃ sb, seatsOk r5 = sb := ⟨_, rfl⟩
      obtain ⟨last, hla⟩ : ∃ last, lastNum l k = last := ⟨_, rfl⟩
      rw [hsb, hla] at hG2
      rw [hsb] at hseat
      rw [hla] at hla0
      rw [hla]
      have hl0 := hla0.out
      obtain ⟨x1, hx1⟩ : ∃ x1, (decide (last + 1 ≤ r1) && decide (r1 ≤ 99)) = x1 := ⟨_, rfl⟩
      obtain ⟨x2, hx2⟩ : ∃ x2, (decide (1 ≤ r2) && decide (r2 ≤ 3)) = x2 := ⟨_, rfl⟩
      obtain ⟨x3, hx3⟩ : ∃ x3, (decide (0 ≤ r3) && decide (r3 ≤ 3)) = x3 := ⟨_, rfl⟩
      have e1 : decide (last < r1 ∧ r1 ≤ 99) = x1 := by
        rw [← hx1, Bool.eq_iff_iff, Bool.and_eq_true, decide_eq_true_eq, decide_eq_true_eq, decide_eq_true_eq]; omega
      have e2 : decide (1 ≤ r2 ∧ r2 ≤ 3) = x2 := by
        rw [← hx2, Bool.eq_iff_iff, Bool.and_eq_true, decide_eq_true_eq, decide_eq_true_eq, decide_eq_true_eq]
      have e3 : decide (0 ≤ r3 ∧ r3 ≤ 3) = x3 := by
        rw [← hx3, Bool.eq_iff_iff, Bool.and_eq_true, decide_eq_true_eq, decide_eq_true_eq, decide_eq_true_eq]
      rw [e1, e2, e3] at hG2
      have HG2 := Lib.hid hG2
      have HLN := Lib.hid hln
      have HX1 := Lib.hid hx1
      have HX2 := Lib.hid hx2
      have HX3 := Lib.hid hx3
      have hws := hW.out.size
      have hb2 : Below wr.heap.size wr (wr.alloc (.cells #[.int .i64 r1, .int .i64 r2, .int .i64 r3, .bool r4, .string r5] 41)) := (Below.refl _ _).alloc (Nat.le_refl _) _
      have hbw2 := hW.out.trans (hb2.mono hws)
      have HW2 := Lib.hid hbw2
      obtain ⟨w2, hw2⟩ : ∃ w2, w2 = wr.alloc (.cells #[.int .i64 r1, .int .i64 r2, .int .i64 r3, .bool r4, .string r5] 41) := ⟨_, rfl⟩
      rw [← hw2] at HW2 hbw2
      have HST := Lib.hid (hseat w2 m (HLB.out.below hbw2) hfit.2)
      have hy : w2.heap[wr.heap.size]? = some (.cells (rowC ⟨r1, r2, r3, r4, r5⟩).toArray 41 (0, 0)) := by rw [hw2]; exact heap_alloc_new wr _
      have HY := Lib.hid hy
      have y0 : w2.cell? ⟨wr.heap.size, 0, none⟩ = some (.int .i64 r1) := by rw [cell_of_row _ _ 0 _ _ _ hy]; rfl
      have y1 : w2.cell? ⟨wr.heap.size, 1, none⟩ = some (.int .i64 r2) := by rw [cell_of_row _ _ 1 _ _ _ hy]; rfl
      have y2 : w2.cell? ⟨wr.heap.size, 2, none⟩ = some (.int .i64 r3) := by rw [cell_of_row _ _ 2 _ _ _ hy]; rfl
      have y4 : w2.cell? ⟨wr.heap.size, 4, none⟩ = some (.string r5) := by rw [cell_of_row _ _ 4 _ _ _ hy]; rfl
      have hwl : IntKind.i64.wrap (last + 1) = last + 1 := IntWalk.i64_in _ (by omega)
      clear hcc hG2 hln hfit hr hsb hla hseat hb2 hG hW hla0 hx1 hx2 hx3 e1 e2 e3 hy hbw2
      go_upto_region 7 with (fail)
      rw [← hw2]
      clear hw2 c0 c1 c2 c3 c4
      go_wp2_with fail
      refine (HBT.out w2 _ _ _ x1 HX1.out).mono ?_
      rintro e w3 ⟨rfl, hw3⟩
      subst hw3
      cases x1 with
      | false =>
        have HX : Hid (E = 13) := Lib.hid (HBAD.out (by rw [HG2.out]; simp))
        go_wp2
        go_ret
        exact ⟨ret_int HX.out.symm, HW2.out⟩
      | true =>
      go_wp2_with fail
      refine (HBT.out w3 _ _ _ x2 HX2.out).mono ?_
      rintro e w4 ⟨rfl, hw4⟩
      subst hw4
      cases x2 with
      | false =>
        have HX : Hid (E = 13) := Lib.hid (HBAD.out (by rw [HG2.out]; simp))
        go_wp2
        go_ret
        exact ⟨ret_int HX.out.symm, HW2.out⟩
      | true =>
      go_wp2_with fail
      refine (HBT.out w4 _ _ _ x3 HX3.out).mono ?_
      rintro e w5 ⟨rfl, hw5⟩
      subst hw5
      cases x3 with
      | false =>
        have HX : Hid (E = 13) := Lib.hid (HBAD.out (by rw [HG2.out]; simp))
        go_wp2
        go_ret
        exact ⟨ret_int HX.out.symm, HW2.out⟩
      | true =>
      go_wp2_with fail
      refine HST.out.mono ?_
      rintro e w6 ⟨rfl, hb6⟩
      have HW6 := Lib.hid (HW2.out.trans (hb6.mono HW2.out.size))
      have z0 := (hb6.cell (p := ⟨wr.heap.size, 0, none⟩) (Array.getElem?_eq_some_iff.1 HY.out).1).trans y0
      have HX1' := HX1.out
      clear hb6 y0 y1 y2 y4
      cases sb with
      | false =>
        have HX : Hid (E = 13) := Lib.hid (HBAD.out (by rw [HG2.out]; simp))
        go_wp2
        go_ret
        exact ⟨ret_int HX.out.symm, HW6.out⟩
      | true =>
        have HG3 : Hid (checkL l = checkGo (lastNum l (k + 1)) (l.drop (k + 1))) := Lib.hid (by rw [HG2.out, HLN.out]; rfl)
        have HLN2 : Hid (r1 = lastNum l (k + 1)) := Lib.hid HLN.out.symm
        have hrng : 0 ≤ r1 ∧ r1 ≤ 99 := by
          simp only [Bool.and_eq_true, decide_eq_true_eq] at HX1'
          omega
        have HRG : Hid (0 ≤ lastNum l (k + 1) ∧ lastNum l (k + 1) ≤ 99) := Lib.hid (by rw [HLN.out]; exact hrng)
        clear HG2 HLN HST HX1' HX1 HX2 HX3 hrng
        go_wp2
        go_roundw
        case rel => exact ⟨k + 1, by omega, by go_num, by rw [HLN2.out], HRG, HG3, HW6⟩
        case measure => simp [intOf]; omega
    · have hG2 := hG.out
      rw [List.drop_eq_nil_of_le (by rw [← HL.out]; omega), checkGo] at hG2
      have HX : Hid (E = 0) := Lib.hid (by rw [← HE.out]; unfold errC; rw [hG2]; rfl)
      have hz : ¬ (k : Int) < (n : Int) := by omega
      clear hG2 hG
      go_wp2
      go_ret
      exact ⟨ret_int HX.out.symm, hW.out⟩
end Go.Proofs.YtddiabpjmnmllaaDoor
/- Cabins: SplitSeq's value; a row's spots piece by piece. -/
namespace Go.Proofs.YtddiabpjmnmllaaDoor
open Go.RowKit Go.Lib
theorem splitSeq_any (w : World) (s : ByteArray) :
    Calls Tryd.prog 46 #[.string s, .string ⟨#[46]⟩] w fun e w' => e = .returned (.func (.func 71) #[] #[.pointer (some ⟨w.heap.size + 1, 0, none⟩), .pointer (some ⟨w.heap.size, 0, none⟩), .pointer (some ⟨w.heap.size + 2, 0, none⟩)]) ∧
      w' = ((w.alloc (.cells #[.string s] 9)).alloc (.cells #[.string ⟨#[46]⟩] 9)).alloc (.cells #[.int .i64 0] 3) := by
  go_enter Tryd.func46, Tryd.ntmps46
  go_wp2
  go_ret
  exact ⟨rfl, rfl⟩
/-- A row's spots, block by block. -/
def spotsP (r : MRow) : List (List UInt8) → Int → List MSpot
  | [], _ => []
  | z :: zs, b => z.map (fun c => spotOf r c b) ++ spotsP r zs (b + 1)
theorem spots_pieces (r : MRow) : ∀ (l : List UInt8) (b : Int), spotsP r (piecesL l) b = spotsB r l b := by
  intro l
  induction l with
  | nil => intro b; simp [piecesL, spotsP, spotsB]
  | cons c t ih =>
    intro b
    by_cases hc : c = 46
    · subst hc
      simp only [piecesL, spotsB, if_true, spotsP, List.map_nil, List.nil_append]
      exact ih (b + 1)
    · obtain ⟨p, ps, hp⟩ : ∃ p ps, piecesL t = p :: ps := by
        cases h : piecesL t with
        | nil => exact absurd h (pieces_ne t)
        | cons p ps => exact ⟨p, ps, rfl⟩
      have h2 := ih b
      rw [hp] at h2
      simp only [piecesL, spotsB, if_neg hc, hp, spotsP, List.map_cons, List.cons_append]
      rw [← h2]; rfl
theorem pieces_count : ∀ l : List UInt8, (piecesL l).length = dotsN l + 1 := by
  intro l
  induction l with
  | nil => rfl
  | cons c t ih =>
    by_cases hc : c = 46
    · subst hc; simp [piecesL, dotsN, ih]
    · obtain ⟨p, ps, hp⟩ : ∃ p ps, piecesL t = p :: ps := by
        cases h : piecesL t with
        | nil => exact absurd h (pieces_ne t)
        | cons p ps => exact ⟨p, ps, rfl⟩
      rw [hp] at ih
      simp only [piecesL, dotsN, if_neg hc, hp, List.length_cons] at ih ⊢
      exact ih
theorem pieces_letters : ∀ (l : List UInt8), ∀ z ∈ piecesL l, ∀ c ∈ z, c ∈ l ∧ c ≠ 46 := by
  intro l
  induction l with
  | nil => intro z hz c hc; simp [piecesL] at hz; subst hz; cases hc
  | cons d t ih =>
    intro z hz c hc
    by_cases hd : d = 46
    · subst hd
      simp only [piecesL, if_true] at hz
      rcases List.mem_cons.1 hz with rfl | hz
      · cases hc
      · obtain ⟨h1, h2⟩ := ih z hz c hc
        exact ⟨List.mem_cons_of_mem _ h1, h2⟩
    · obtain ⟨p, ps, hp⟩ : ∃ p ps, piecesL t = p :: ps := by
        cases h : piecesL t with
        | nil => exact absurd h (pieces_ne t)
        | cons p ps => exact ⟨p, ps, rfl⟩
      rw [hp] at ih
      simp only [piecesL, if_neg hd, hp] at hz
      rcases List.mem_cons.1 hz with rfl | hz
      · rcases List.mem_cons.1 hc with rfl | hc
        · exact ⟨by simp, hd⟩
        · obtain ⟨h1, h2⟩ := ih p (by simp) c hc
          exact ⟨List.mem_cons_of_mem _ h1, h2⟩
      · obtain ⟨h1, h2⟩ := ih z (by simp [hz]) c hc
        exact ⟨List.mem_cons_of_mem _ h1, h2⟩
/-- The pieces as the library makes them. -/
theorem pieces_of (s : ByteArray) : (splitB ⟨#[46]⟩ 0 (countB s ⟨#[46]⟩) s).map (·.data.toList) = piecesL s.data.toList := by
  have hd := splitB_data ⟨#[46]⟩ 0 (countB s ⟨#[46]⟩) s
  exact hd.trans (splitK_pieces _)
theorem great_up {c : UInt8} (h : greatB c ≠ 0) : (97 ≤ c.toNat → greatB c = c - 32 ∧ (c - 32).toNat = c.toNat - 32 ∧ greatB c ≠ c) ∧ (¬ 97 ≤ c.toNat → greatB c = c) := by
  unfold greatB at h ⊢
  have hl := c.toNat_lt
  by_cases h1 : 97 ≤ c.toNat ∧ c.toNat ≤ 122
  · rw [if_pos h1]
    have e : (c - 32).toNat = c.toNat - 32 := by
      rw [UInt8.toNat_sub_of_le]
      · rfl
      · rw [UInt8.le_iff_toNat_le]; show 32 ≤ c.toNat; omega
    refine ⟨fun _ => ⟨rfl, e, fun h2 => ?_⟩, fun h2 => absurd h1.1 h2⟩
    have := congrArg UInt8.toNat h2
    omega
  · rw [if_neg h1] at h ⊢
    by_cases h2 : 65 ≤ c.toNat ∧ c.toNat ≤ 90
    · rw [if_pos h2]
      exact ⟨fun h3 => by omega, fun _ => rfl⟩
    · rw [if_neg h2] at h
      exact absurd rfl h
theorem spotsP_append (r : MRow) : ∀ (a b : List (List UInt8)) (k : Int), spotsP r (a ++ b) k = spotsP r a k ++ spotsP r b (k + a.length) := by
  intro a
  induction a with
  | nil => intro b k; simp [spotsP]
  | cons z a ih =>
    intro b k
    simp only [List.cons_append, spotsP, ih, List.append_assoc, List.length_cons]
    rw [show k + 1 + (a.length : Int) = k + ((a.length + 1 : Nat) : Int) by omega]
theorem spotsAll_len : ∀ (l : List MRow) (b : Int), (∀ r ∈ l, r.seats.data.toList.length ≤ 11) → (spotsAll l b).length ≤ 11 * l.length := by
  intro l
  induction l with
  | nil => intro b _; simp [spotsAll]
  | cons r t ih =>
    intro b h
    have h1 := h r (by simp)
    have h2 := ih (b + dotsN r.seats.data.toList + 1) fun x hx => h x (by simp [hx])
    have h3 := spotsB_len r r.seats.data.toList b
    simp only [spotsAll, List.length_append, List.length_cons]; omega
end Go.Proofs.YtddiabpjmnmllaaDoor
