/- Bytes in a block of the call's own that may be written: what '[]byte(s)' makes. -/
import Derived.Test.YtddiabpjmnmllaaDoorRow
import Derived.Laws.IdiomStrings
import Derived.Test.YtddiabpjmnmllaaDoorJCbPc
import Derived.Test.YtddiabpjmnmllaaDoorCbShelf
namespace Go.Proofs.YtddiabpjmnmllaaDoor
open Go.RowKit

/-- Block g holds the bytes l from its head on, and they may be written. -/
structure Bts (w : World) (g : Nat) (l : List UInt8) : Prop where
  lt : g < w.heap.size
  cell : ∀ j (h : j < l.length), w.cell? ⟨g, j, none⟩ = some (.int .u8 (l[j].toNat : Int))
  free : ∀ j, j < l.length → w.frozen? ⟨g, j, none⟩ = false
theorem rd_bytes0 (w : World) (s : ByteArray) (cap : Nat) (e : TypeId) (fr : Nat × Nat) (j : Nat) (h : j < s.data.toList.length) : (w.alloc (.cells (bytesRow s cap) e fr)).cell? ⟨w.heap.size, j, none⟩ = some (.int .u8 (s.data.toList[j].toNat : Int)) := by
  rw [World.cell?_alloc_mark]
  unfold bytesRow
  rw [Array.getElem?_append_left (by simpa using h)]
  simp at h
  simp [h]
section
variable {w w' : World} {g : Nat} {l : List UInt8}
theorem Bts.made (w : World) (s : ByteArray) (cap : Nat) (e : TypeId) : Bts (w.alloc (.cells (bytesRow s cap) e ((bytesRow s cap).size, (bytesRow s cap).size + 1))) w.heap.size s.data.toList := by
  have hsz : s.data.toList.length ≤ (bytesRow s cap).size := by simp [bytesRow]
  refine ⟨by simp, fun j h => ?_, fun j h => ?_⟩
  · have hr := rd_bytes0 w s cap e ((bytesRow s cap).size, (bytesRow s cap).size + 1)
    exact hr j h
  · rw [World.frozen?_alloc_mark]
    simp; omega
theorem Bts.drewN (h : Bts w g l) (n : Nat) : Bts (w.drewN n) g l := ⟨h.lt, h.cell, h.free⟩
theorem Bts.drew (h : Bts w g l) : Bts w.drew g l := ⟨h.lt, h.cell, h.free⟩
theorem Bts.below {B : Nat} (h : Bts w g l) (hb : Below B w w') (hg : g < B) : Bts w' g l :=
  ⟨Nat.lt_of_lt_of_le h.lt hb.size, fun j hj => (hb.cell (p := ⟨g, j, none⟩) hg).trans (h.cell j hj), fun j hj => (hb.frozen (p := ⟨g, j, none⟩) hg).trans (h.free j hj)⟩
theorem Bts.set (h : Bts w g l) (k : Nat) (hk : k < l.length) (b : UInt8) : Bts (w.setCell ⟨g, k, none⟩ (.int .u8 (b.toNat : Int))) g (l.set k b) := by
  refine ⟨by simpa using h.lt, fun j hj => ?_, fun j hj => ?_⟩
  · have hj' : j < l.length := by simpa using hj
    by_cases e : k = j
    · subst e
      rw [World.cell?_setCell_same _ _ _ (h.cell k hk)]
      simp
    · rw [World.cell?_setCell_other _ _ _ _ (by simp), h.cell j hj']
      simp [List.getElem_set_ne e]
  · rw [World.frozen?_setCell]
    exact h.free j (by simpa using hj)
theorem Bts.take (h : Bts w g l) (n : Nat) : Bts w g (l.take n) :=
  ⟨h.lt, fun j hj => by rw [h.cell j (by rw [List.length_take] at hj; omega)]; simp, fun j hj => h.free j (by rw [List.length_take] at hj; omega)⟩
theorem Bts.conv {P : Program} {src dst e : TypeId} (h : Bts w g l) (hs : P.underlying src = some (.slice e)) (he : P.underlying e = some (.int .u8)) (hd : P.underlying dst = some .string) (n cap : Nat) (hn : n = l.length) :
    (convert src dst (.slice (some ⟨g, 0, none⟩) n cap)).run P w = .ok (.string ⟨l.toArray⟩) w := by
  subst hn
  exact run_convert_bytes_back (P := P) w src dst e ⟨g, 0, none⟩ cap l hs he hd (fun j hj => by rw [add_zero_off]; exact h.cell j hj)
end
end Go.Proofs.YtddiabpjmnmllaaDoor
/- Cabins: cabin.letters, walked: a row's letters are judged as they are one by one. -/
namespace Go.Proofs.YtddiabpjmnmllaaDoor
open Go.RowKit Go.Lib
/-- The library's variables that this program reads hold what start-up code lays. -/
def LibAt (w : World) (m : Int) : Prop := CaseVar 2 caseA w ∧ Lib.Utf8Tabs 3 4 w ∧ w.cell? ⟨5, 0, none⟩ = some (.int .i64 m)
theorem LibAt.below {w w' : World} {m : Int} (h : LibAt w m) (hb : Below w.heap.size w w') : LibAt w' m :=
  ⟨CaseVar_below h.1 hb, Utf8Tabs_below h.2.1 hb, (hb.cell (World.block_lt_of_cell? w _ h.2.2)).trans h.2.2⟩
theorem btw_any (w : World) (n lo hi : Int) (r : Bool) (h : (decide (lo ≤ n) && decide (n ≤ hi)) = r) :
    Calls Tryd.prog 44 #[.int .i64 n, .int .i64 lo, .int .i64 hi] w fun e w' => e = .returned (.bool r) ∧ w' = w := by
  subst h
  go_enter Tryd.func44, Tryd.ntmps44
  by_cases h1 : lo ≤ n
  · have s1 : decide (lo ≤ n) = true := decide_eq_true h1
    by_cases h2 : n ≤ hi
    · have s2 : decide (n ≤ hi) = true := decide_eq_true h2
      clear h1 h2
      go_wp2
      go_ret
      exact ⟨ret_bool (by rw [s1, s2]; rfl), rfl⟩
    · have s2 : decide (n ≤ hi) = false := decide_eq_false h2
      clear h1 h2
      go_wp2
      go_ret
      exact ⟨ret_bool (by rw [s1, s2]; rfl), rfl⟩
  · have s1 : decide (lo ≤ n) = false := decide_eq_false h1
    clear h1
    go_wp2
    go_ret
    exact ⟨ret_bool (by rw [s1]; rfl), rfl⟩
theorem upper_len4 : ∀ (n : Nat) (l : List UInt8), l.length ≤ n → (toUpperD l).length ≤ 4 * l.length := by
  intro n
  induction n with
  | zero =>
    intro l hl
    obtain rfl := List.eq_nil_of_length_eq_zero (by omega : l.length = 0)
    simp [toUpperD, mapD_nil]
  | succ n ih =>
    intro l hl
    cases l with
    | nil => simp [toUpperD, mapD_nil]
    | cons b t =>
      have hne : (b :: t) ≠ [] := by simp
      have hstep : toUpperD (b :: t) = (if 0 ≤ toUpperU (decodeL (b :: t)).1 then encodeRune (toUpperU (decodeL (b :: t)).1) else []) ++ toUpperD ((b :: t).drop (decodeL (b :: t)).2) := mapD_step toUpperU (b :: t) hne
      have hw1 := decodeL_width (b :: t)
      have hw2 := decodeL_le (b :: t) hne
      have he : (if 0 ≤ toUpperU (decodeL (b :: t)).1 then encodeRune (toUpperU (decodeL (b :: t)).1) else []).length ≤ 4 := by
        split
        · have := (encodeRuneZ_length (toUpperU (decodeL (b :: t)).1)).2
          simpa [encodeRune] using this
        · simp
      have hi := ih ((b :: t).drop (decodeL (b :: t)).2) (by rw [List.length_drop]; simp only [List.length_cons] at hl ⊢; omega)
      rw [List.length_drop] at hi
      rw [hstep, List.length_append]
      omega
theorem below_drewL {B : Nat} {w w1 : World} (h : Below B w w1) : Below B w w1.drew := ⟨h.os, h.tape, h.output, h.size, h.block⟩
/-- The letter ahead. -/
def prevB (A : List UInt8) (k : Nat) : UInt8 := if k = 0 then 0 else A.getD (k - 1) 0
theorem rises_at {A : List UInt8} {k : Nat} (hk : k < A.length) : risesGo (prevB A k) (A.drop k) = (decide (65 ≤ A[k].toNat ∧ A[k].toNat ≤ 90 ∧ (prevB A k).toNat < A[k].toNat) && risesGo (prevB A (k + 1)) (A.drop (k + 1))) := by
  rw [List.drop_eq_getElem_cons hk, risesGo]
  have : prevB A (k + 1) = A[k] := by
    unfold prevB
    rw [if_neg (by omega), Nat.add_sub_cancel, List.getD_eq_getElem?_getD, List.getElem?_eq_getElem hk]
    rfl
  rw [this]
set_option maxHeartbeats 4000000 in
set_option maxRecDepth 20000 in
theorem letters_any (s : ByteArray) (w : World) (m : Int) (hL : LibAt w m) (hs : s.size ≤ 1048576) :
    Calls Tryd.prog 45 #[.string s] w fun e w' => e = .returned (.bool (seatsOk s)) ∧ Below w.heap.size w w' := by
  have hsl : s.data.toList.length = s.size := by simp
  have hok := letters_ok s
  have hul := upper_len4 _ s.data.toList (Nat.le_refl _)
  rw [hsl] at hul hok
  obtain ⟨U, hU⟩ : ∃ U, toUpperD s.data.toList = U := ⟨_, rfl⟩
  have hup := Tryd.strings_ToUpper_any s w (by omega) hL.1 hL.2.1
  rw [hU] at hok hul hup
  obtain ⟨R, hR⟩ : ∃ R, seatsOk s = R := ⟨_, rfl⟩
  rw [hR] at hok ⊢
  have HL := Lib.hid hL
  have HUP := Lib.hid hup
  have HOK := Lib.hid hok
  have hnd := noDots_le U
  have hUs : (⟨U.toArray⟩ : ByteArray).size = U.length := rfl
  have hcb := countB_le ⟨#[46]⟩ (by decide) _ (⟨U.toArray⟩ : ByteArray) (Nat.le_refl _)
  have hcv := fun w s => run_bytes_of_string (P := Tryd.prog) w 9 85 5 s Tryd.underlying9 Tryd.underlying85 Tryd.underlying5
  have HRP := Lib.hid (fun (W : World) (hW : LibAt W m) => Tryd.strings_ReplaceAll ⟨U.toArray⟩ ⟨#[46]⟩ ⟨#[]⟩ m W (by omega) hW.2.2 (by decide) (by
    show (⟨U.toArray⟩ : ByteArray).size + Lib.countB (⟨U.toArray⟩ : ByteArray) ⟨#[46]⟩ * 0 ≤ _
    omega))
  have hrd : (⟨U.toArray⟩ : ByteArray).data.toList = U := rfl
  simp only [show (⟨#[46]⟩ : ByteArray).data.toList = [46] from rfl, show (⟨#[]⟩ : ByteArray).data.toList = [] from rfl, hrd, replace_dots] at HRP
  obtain ⟨A, hA⟩ : ∃ A, noDots U = A := ⟨_, rfl⟩
  rw [hA] at hok hnd HRP HOK
  have hAs : (⟨A.toArray⟩ : ByteArray).size = A.length := rfl
  clear hL hU hok hup hcb hrd hA hR
  go_enter Tryd.func45, Tryd.ntmps45
  go_wp2_with fail
  refine HUP.out.mono ?_
  rintro e w1 ⟨rfl, hb1⟩
  have HL1 := Lib.hid (HL.out.below hb1)
  have HB1 := Lib.hid hb1
  clear hb1 HUP HL
  go_wp2_with fail
  refine (HRP.out _ HL1.out).mono ?_
  rintro e w2 ⟨rfl, hb2⟩
  have HL2 := Lib.hid (HL1.out.below hb2)
  have HB2 := Lib.hid (HB1.out.trans (hb2.mono HB1.out.size))
  clear hb2 HRP HL1 HB1
  obtain ⟨T, hT⟩ : ∃ T : ByteArray, (⟨A.toArray⟩ : ByteArray) = T := ⟨_, rfl⟩
  have HTA : Hid (T.data.toList = A) := Lib.hid (by rw [← hT])
  rw [hT] at hAs ⊢
  have hTs : T.size ≤ 4194304 := by omega
  have HAS := Lib.hid hAs
  clear hAs
  have HB := Lib.hid (Bts.made w2 T (grownCap w2 T.size 0 5) 5).drew
  have HW := Lib.hid (below_drewL ((Below.refl w2.heap.size w2).alloc (Nat.le_refl _) (.cells (bytesRow T (grownCap w2 T.size 0 5)) 5 ((bytesRow T (grownCap w2 T.size 0 5)).size, (bytesRow T (grownCap w2 T.size 0 5)).size + 1))))
  clear hT
  go_wp2
  generalize hc1 : grownCap w2 T.size 0 5 = cap at *
  clear hc1 hcv
  generalize (w2.alloc (.cells (bytesRow T cap) 5 ((bytesRow T cap).size, (bytesRow T cap).size + 1))).drew = w3 at HB HW ⊢
  have HL3 := Lib.hid (HL2.out.below HW.out)
  have HB3 := Lib.hid (HB2.out.trans (HW.out.mono HB2.out.size))
  go_loop [14] (fun i => ∃ k : Nat, k ≤ T.size ∧ i = .int .i64 (k : Int) ∧ Hid (risesGo 0 A = risesGo (prevB A k) (A.drop k))) (fun i => T.size - (intOf i).toNat)
  case atStart => exact ⟨0, Nat.zero_le _, rfl, Lib.hid (by unfold prevB; rw [if_pos rfl]; rfl)⟩
  case round =>
    obtain ⟨k, hk, rfl, hG⟩ := hrel
    by_cases hlt : k < T.size
    · have hkA : k < A.length := by rw [← HAS.out]; exact hlt
      have hkT : k < T.data.toList.length := by rw [HTA.out]; exact hkA
      have c0 := HB.out.cell k hkT
      have hra := rises_at hkA
      have hce : T.data.toList[k] = A[k] := by simp only [HTA.out]
      rw [hce] at c0
      obtain ⟨c, hc⟩ : ∃ c, A[k] = c := ⟨_, rfl⟩
      rw [hc] at c0 hra
      have hG2 := hG.out
      rw [hra] at hG2
      have HG2 := Lib.hid hG2
      clear hG2 hra hce hkT hG
      by_cases h1 : c.toNat < 65
      · have s1 : decide ((c.toNat : Int) < 65) = true := decide_eq_true (by omega)
        have HF : Hid (R = false) := Lib.hid (by
          rw [HOK.out, HG2.out, decide_eq_false (by omega)]; simp)
        clear HG2 HOK hc h1
        go_wp2
        go_ret
        exact ⟨ret_bool HF.out.symm, HB3.out⟩
      · have s1 : decide ((c.toNat : Int) < 65) = false := decide_eq_false (by omega)
        by_cases h2 : 90 < c.toNat
        · have s2 : decide ((c.toNat : Int) > 90) = true := decide_eq_true (by omega)
          have HF : Hid (R = false) := Lib.hid (by
            rw [HOK.out, HG2.out, decide_eq_false (by omega)]; simp)
          clear HG2 HOK hc h1 h2
          go_wp2
          go_ret
          exact ⟨ret_bool HF.out.symm, HB3.out⟩
        · have s2 : decide ((c.toNat : Int) > 90) = false := decide_eq_false (by omega)
          cases k with
          | zero =>
            have HG3 : Hid (risesGo 0 A = risesGo (prevB A (0 + 1)) (A.drop (0 + 1))) := Lib.hid (by
              rw [HG2.out, decide_eq_true (⟨by omega, by omega, by unfold prevB; rw [if_pos rfl]; show 0 < c.toNat; omega⟩ : 65 ≤ c.toNat ∧ c.toNat ≤ 90 ∧ (prevB A 0).toNat < c.toNat), Bool.true_and])
            clear HG2 hc h1 h2
            go_wp2
            go_round
            case rel => exact ⟨0 + 1, by omega, by go_num, HG3⟩
            case measure => simp [intOf]; omega
          | succ k =>
            have hpk : prevB A (k + 1) = A[k] := by
              unfold prevB
              rw [if_neg (by omega), Nat.add_sub_cancel, List.getD_eq_getElem?_getD, List.getElem?_eq_getElem (by omega)]
              rfl
            rw [hpk] at HG2
            have hkT : k < T.size := by omega
            have hTk : T[k] = A[k] := by
              have h9 : T[k] = T.data.toList[k]'(by rw [HTA.out]; omega) := rfl
              rw [h9]; simp only [HTA.out]
            obtain ⟨d, hd⟩ : ∃ d, A[k] = d := ⟨_, rfl⟩
            rw [hd] at HG2 hTk
            clear hpk hd hc
            have hwk : IntKind.i64.wrap (k : Int) = (k : Int) := IntWalk.i64_in _ (by omega)
            have i1 : (0 : Int) ≤ (k : Int) := by omega
            have i2 : (k : Int) < (T.size : Int) := by omega
            by_cases h3 : c.toNat ≤ d.toNat
            · have s4 : decide (c.toNat ≤ d.toNat) = true := decide_eq_true h3
              have HF : Hid (R = false) := Lib.hid (by
                rw [HOK.out, HG2.out, decide_eq_false (by omega)]; simp)
              clear HG2 HOK h1 h2
              go_wp2
              go_ret
              exact ⟨ret_bool HF.out.symm, HB3.out⟩
            · have s4 : decide (c.toNat ≤ d.toNat) = false := decide_eq_false h3
              have HG3 : Hid (risesGo 0 A = risesGo (prevB A (k + 1 + 1)) (A.drop (k + 1 + 1))) := Lib.hid (by
                rw [HG2.out, decide_eq_true (⟨by omega, by omega, by omega⟩ : 65 ≤ c.toNat ∧ c.toNat ≤ 90 ∧ d.toNat < c.toNat), Bool.true_and])
              clear HG2 h1 h2
              go_wp2
              go_round
              case rel => exact ⟨k + 1 + 1, by omega, by go_num, HG3⟩
              case measure => simp [intOf]; omega
    · have hkk : k = A.length := by rw [← HAS.out]; omega
      have hG2 := hG.out
      rw [hkk, List.drop_eq_nil_of_le (Nat.le_refl _)] at hG2
      have hR := HOK.out
      rw [hG2] at hR
      simp only [risesGo, Bool.true_and] at hR
      obtain ⟨r1, hr1⟩ : ∃ r1, (decide ((1 : Int) ≤ (T.size : Int)) && decide ((T.size : Int) ≤ 6)) = r1 := ⟨_, rfl⟩
      have hr1' : decide (1 ≤ A.length ∧ A.length ≤ 6) = r1 := by
        rw [← hr1, Bool.eq_iff_iff, Bool.and_eq_true, decide_eq_true_eq, decide_eq_true_eq, decide_eq_true_eq, HAS.out]
        omega
      obtain ⟨r2, hr2⟩ : ∃ r2, ((U.length : Int) == (s.size : Int)) = r2 := ⟨_, rfl⟩
      have hr2' : decide (U.length = s.size) = r2 := by
        rw [← hr2, Bool.eq_iff_iff, decide_eq_true_eq, beq_iff_eq]
        omega
      rw [hr1', hr2'] at hR
      have HR := Lib.hid hR
      have HBT := Lib.hid (fun W => btw_any W (T.size : Int) 1 6 r1 hr1)
      have hz : ¬ (k : Int) < (T.size : Int) := by omega
      clear hG hG2 hR hkk hr1 hr1' hr2' HOK
      go_wp2_with fail
      refine (HBT.out _).mono ?_
      rintro e w4 ⟨rfl, rfl⟩
      clear HBT
      cases r1 with
      | false =>
        have HF : Hid (R = false) := Lib.hid (by rw [HR.out]; simp)
        clear HR
        go_wp2
        go_ret
        exact ⟨ret_bool HF.out.symm, HB3.out⟩
      | true =>
        cases r2 with
        | false =>
          have HF : Hid (R = false) := Lib.hid (by rw [HR.out]; simp)
          clear HR
          go_wp2
          go_ret
          exact ⟨ret_bool HF.out.symm, HB3.out⟩
        | true =>
          have HF : Hid (R = dotsOk true s.data.toList) := Lib.hid (by rw [HR.out]; simp)
          clear HR
          have HSP := Lib.hid (Tryd.strings_Split s ⟨#[46]⟩ m w4 (by omega) HL3.out.2.2 (by decide))
          have hsl2 : (splitB ⟨#[46]⟩ 0 (countB s ⟨#[46]⟩) s).length = countB s ⟨#[46]⟩ + 1 := splitB_all ⟨#[46]⟩ (by decide) 0 _ s rfl
          have hcp := contains_pieces s
          have hcs := countB_le ⟨#[46]⟩ (by decide) _ s (Nat.le_refl _)
          obtain ⟨Z, hZ⟩ : ∃ Z, splitB ⟨#[46]⟩ 0 (countB s ⟨#[46]⟩) s = Z := ⟨_, rfl⟩
          obtain ⟨q, hq⟩ : ∃ q, countB s ⟨#[46]⟩ = q := ⟨_, rfl⟩
          rw [hZ, hq] at HSP
          rw [hZ] at hsl2 hcp
          rw [hq] at hsl2 hcs
          have HCP := Lib.hid hcp
          have HCT := Lib.hid (Tryd.slices_Contains_string w4.heap.size 0 (q + 1) (q + 1) Z ⟨#[]⟩ (w4.alloc (.cells (Z.map Value.string).toArray 9)) (by omega) (by omega) (fun j hj => by
            rw [Nat.zero_add, cell_of_row _ w4.heap.size j _ _ _ (heap_alloc_new w4 _)]
            simp [hj, List.getD_eq_getElem?_getD]))
          rw [← hsl2, List.take_length] at HCT
          rw [HCP.out] at HCT
          have HB4 := Lib.hid (HB3.out.trans ((Below.refl w4.heap.size w4).alloc (Nat.le_refl _) (.cells (Z.map Value.string).toArray 9) |>.mono HB3.out.size))
          rw [← hsl2] at HSP
          clear hZ hq hcp hcs hsl2
          go_wp2_with fail
          refine HSP.out.mono ?_
          rintro e w5 ⟨rfl, rfl⟩
          go_wp2_with fail
          refine HCT.out.mono ?_
          rintro e w6 ⟨rfl, rfl⟩
          go_wp2
          go_ret
          exact ⟨ret_bool (by rw [HF.out]), HB4.out⟩
end Go.Proofs.YtddiabpjmnmllaaDoor
