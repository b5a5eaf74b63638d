/- Frames: frame.number, walked; four bytes as a number. -/
import Derived.Test.YtanieolnaiihmaaJFrSealF
namespace Go.Proofs.Ytanieolnaiihmaa
open Go.RowKit

def be4 (l : List UInt8) : Nat := (l.take 4).foldl (fun n b => 256 * n + b.toNat) 0
theorem be4_four (a b c d : UInt8) (r : List UInt8) : be4 (a :: b :: c :: d :: r) = ((a.toNat * 256 + b.toNat) * 256 + c.toNat) * 256 + d.toNat := by
  simp [be4]; omega
theorem four_be4 (a b c d : UInt8) : fourB (((a.toNat * 256 + b.toNat) * 256 + c.toNat) * 256 + d.toNat) = [a, b, c, d] := by
  have ha := a.toNat_lt; have hb := b.toNat_lt; have hc := c.toNat_lt; have hd := d.toNat_lt
  unfold fourB
  rw [show (((a.toNat * 256 + b.toNat) * 256 + c.toNat) * 256 + d.toNat) / 16777216 = a.toNat by omega,
    show (((a.toNat * 256 + b.toNat) * 256 + c.toNat) * 256 + d.toNat) / 65536 % 256 = b.toNat by omega,
    show (((a.toNat * 256 + b.toNat) * 256 + c.toNat) * 256 + d.toNat) / 256 % 256 = c.toNat by omega,
    show (((a.toNat * 256 + b.toNat) * 256 + c.toNat) * 256 + d.toNat) % 256 = d.toNat by omega]
  simp
theorem be4_fourB (n : Nat) (h : n < 4294967296) (r : List UInt8) : be4 (fourB n ++ r) = n := by
  unfold fourB
  simp only [List.cons_append, List.nil_append]
  rw [be4_four]
  simp only [UInt8.toNat_ofNat']
  omega
theorem be4_lt (l : List UInt8) : be4 l < 4294967296 := by
  have key : ∀ (l : List UInt8) (k n : Nat), l.length ≤ k → l.foldl (fun n b => 256 * n + b.toNat) n < 256 ^ k * (n + 1) := by
    intro l
    induction l with
    | nil => intro k n _; have := Nat.one_le_pow k 256 (by omega); simp only [List.foldl_nil]; calc n < n + 1 := by omega
        _ = 1 * (n + 1) := by omega
        _ ≤ _ := Nat.mul_le_mul_right _ this
    | cons b l ih =>
      intro k n hk
      obtain ⟨k, rfl⟩ : ∃ k', k = k' + 1 := ⟨k - 1, by simp at hk; omega⟩
      have hb := b.toNat_lt
      have h1 := ih k (256 * n + b.toNat) (by simp at hk; omega)
      simp only [List.foldl_cons]
      refine Nat.lt_of_lt_of_le h1 ?_
      rw [Nat.pow_succ, Nat.mul_assoc]
      exact Nat.mul_le_mul_left _ (by omega)
  have := key (l.take 4) 4 0 (by rw [List.length_take]; omega)
  unfold be4
  omega
theorem list4 (l : List UInt8) (h : 4 ≤ l.length) : ∃ a b c d r, l = a :: b :: c :: d :: r := by
  match l, h with
  | a :: b :: c :: d :: r, _ => exact ⟨a, b, c, d, r, rfl⟩
theorem four_take (l : List UInt8) (h : 4 ≤ l.length) : fourB (be4 l) = l.take 4 := by
  obtain ⟨a, b, c, d, r, rfl⟩ := list4 l h
  rw [be4_four, four_be4]; rfl
theorem be4_get (s : ByteArray) (h : 4 ≤ s.size) : be4 s.data.toList = ((s[0].toNat * 256 + s[1].toNat) * 256 + s[2].toNat) * 256 + s[3].toNat := by
  have h4 : 4 ≤ s.data.toList.length := by simpa using h
  obtain ⟨a, b, c, d, r, e⟩ := list4 s.data.toList h4
  have g : ∀ i (hi : i < s.size), some s[i] = s.data.toList[i]? := fun i hi => by
    rw [List.getElem?_eq_getElem (by simpa using hi)]; rfl
  rw [e, be4_four]
  have e0 := g 0 (by omega); have e1 := g 1 (by omega); have e2 := g 2 (by omega); have e3 := g 3 (by omega)
  rw [e] at e0 e1 e2 e3
  simp at e0 e1 e2 e3
  rw [e0, e1, e2, e3]
theorem or_join (q i y : Nat) (hy : y < 2 ^ i) : (q * 2 ^ i) ||| y = q * 2 ^ i + y := by
  rw [Nat.mul_comm, ← Nat.two_pow_add_eq_or_of_lt hy]
theorem or4 (a b c d : Nat) (ha : a < 256) (hb : b < 256) (hc : c < 256) (hd : d < 256) :
    bits BinOp.or IntKind.u32 (bits BinOp.or IntKind.u32 (bits BinOp.or IntKind.u32 ((a : Int) % 4294967296 * 16777216 % 4294967296) ((b : Int) % 4294967296 * 65536 % 4294967296)) ((c : Int) % 4294967296 * 256 % 4294967296)) ((d : Int) % 4294967296) = ((((a * 256 + b) * 256 + c) * 256 + d : Nat) : Int) := by
  rw [show ((a : Int) % 4294967296 * 16777216 % 4294967296) = ((a * 2 ^ 24 : Nat) : Int) by omega, show ((b : Int) % 4294967296 * 65536 % 4294967296) = ((b * 65536 : Nat) : Int) by omega,
    show ((c : Int) % 4294967296 * 256 % 4294967296) = ((c * 256 : Nat) : Int) by omega, show ((d : Int) % 4294967296) = ((d : Nat) : Int) by omega]
  rw [bits_or_u32_nat _ _ (by omega) (by omega), or_join a 24 (b * 65536) (by omega), show a * 2 ^ 24 + b * 65536 = (a * 256 + b) * 2 ^ 16 by omega,
    bits_or_u32_nat _ _ (by omega) (by omega), or_join (a * 256 + b) 16 (c * 256) (by omega), show (a * 256 + b) * 2 ^ 16 + c * 256 = ((a * 256 + b) * 256 + c) * 2 ^ 8 by omega,
    bits_or_u32_nat _ _ (by omega) (by omega), or_join ((a * 256 + b) * 256 + c) 8 d (by omega)]
set_option maxRecDepth 20000 in
set_option maxHeartbeats 400000 in
theorem number_any (w : World) (s : ByteArray) (h : 4 ≤ s.size) :
    Calls Try.prog 97 #[.string s] w fun e w' => e = .returned (.int .u32 (be4 s.data.toList : Int)) ∧ ∃ m, w' = w.drewN m := by
  have k0 : 0 < s.size := by omega
  have k1 : 1 < s.size := by omega
  have k2 : 2 < s.size := by omega
  have k3 : 3 < s.size := by omega
  have h0 : (0 : Int) < (s.size : Int) := by omega
  have h1 : (1 : Int) < (s.size : Int) := by omega
  have h2 : (2 : Int) < (s.size : Int) := by omega
  have h3 : (3 : Int) < (s.size : Int) := by omega
  have hv := or4 s[0].toNat s[1].toNat s[2].toNat s[3].toNat s[0].toNat_lt s[1].toNat_lt s[2].toNat_lt s[3].toNat_lt
  rw [← be4_get s h] at hv
  have HV := Lib.hid hv
  clear hv
  go_enter Try.func97, Try.ntmps97
  go_wp2
  go_quiet (fail)
  go_wp2
  go_ret
  exact ⟨congrArg (fun z => Ending.returned (Value.int .u32 z)) HV.out, _, rfl⟩
end Go.Proofs.Ytanieolnaiihmaa
/- Frames: frame.First, walked. -/
namespace Go.Proofs.Ytanieolnaiihmaa
open Go.RowKit

def firstAt (l : List UInt8) (k : Nat) : List UInt8 × Int × Nat :=
  if 65536 < be4 (l.drop k) ∨ (l.drop k).length < be4 (l.drop k) + 8 then ([], 0, 1)
  else if sumB ((l.drop k).take 4 ++ ((l.drop k).drop 8).take (be4 (l.drop k))) = be4 ((l.drop k).drop 4) then (((l.drop k).drop 8).take (be4 (l.drop k)), ((k + 8 + be4 (l.drop k) : Nat) : Int), 0)
  else ([], 0, 1)
def firstR (l : List UInt8) (a : Int) : List UInt8 × Int × Nat := if a < 0 ∨ (l.length : Int) - 8 < a then ([], 0, 1) else firstAt l a.toNat
theorem first_out {l : List UInt8} {a : Int} (h : a < 0 ∨ (l.length : Int) - 8 < a) : firstR l a = ([], 0, 1) := if_pos h
theorem first_in {l : List UInt8} {k : Nat} (h : k + 8 ≤ l.length) : firstR l (k : Int) = firstAt l k := by
  unfold firstR; rw [if_neg (by omega)]; rfl
theorem at_big {l r : List UInt8} {k : Nat} (hr : l.drop k = r) (h : 65536 < be4 r ∨ r.length < be4 r + 8) : firstAt l k = ([], 0, 1) := by unfold firstAt; rw [hr, if_pos h]
theorem at_bad {l r : List UInt8} {k : Nat} (hr : l.drop k = r) (h : ¬ sumB (r.take 4 ++ (r.drop 8).take (be4 r)) = be4 (r.drop 4)) : firstAt l k = ([], 0, 1) := by
  unfold firstAt; rw [hr, if_neg h]; split <;> rfl
theorem at_ok {l r : List UInt8} {k : Nat} (hr : l.drop k = r) (h1 : ¬ (65536 < be4 r ∨ r.length < be4 r + 8)) (h : sumB (r.take 4 ++ (r.drop 8).take (be4 r)) = be4 (r.drop 4)) : firstAt l k = ((r.drop 8).take (be4 r), ((k + 8 + be4 r : Nat) : Int), 0) := by
  unfold firstAt; rw [hr, if_neg h1, if_pos h]
theorem ext_list (s : ByteArray) (i j : Nat) : (s.extract i j).data.toList = (s.data.toList.drop i).take (j - i) := by
  rw [ByteArray.data_extract, Array.toList_extract, List.extract_eq_take_drop]
theorem ext_end (s : ByteArray) (k : Nat) : (s.extract k s.size).data.toList = s.data.toList.drop k := by
  rw [ext_list, List.take_of_length_le]; simp
set_option maxRecDepth 20000 in
theorem number_below (w : World) (s : ByteArray) (h : 4 ≤ s.size) :
    Calls Try.prog 97 #[.string s] w fun e w' => e = .returned (.int .u32 (be4 s.data.toList : Int)) ∧ Below w.heap.size w w' :=
  (number_any w s h).mono fun e w' ⟨he, m, hm⟩ => ⟨he, by rw [hm]; exact ⟨rfl, rfl, rfl, Nat.le_refl _, fun _ _ => rfl⟩⟩
set_option maxRecDepth 20000 in
theorem fsum_at (W : World) (g : Nat) (a b : ByteArray) (hg : W.heap[g]? = some (.cells #[.string a, .string b] 9 (0, 0))) (ha : a.size ≤ 140737488351232) (hb : b.size ≤ 140737488351232) :
    Calls Try.prog 74 #[.slice (some ⟨g, 0, none⟩) 2 2] W fun e w' => e = .returned (.int .u32 (sumB (a.data.toList ++ b.data.toList) : Int)) ∧ w' = W := by
  have hlt : g < W.heap.size := (Array.getElem?_eq_some_iff.1 hg).1
  have h := fsum_any W (some ⟨g, 0, none⟩) 2 2 [a, b] ⟨rfl, fun _ => ⟨_, rfl, hlt, fun j u hu => by
    rw [addr_add, cell_of_row W g _ _ _ _ hg]
    have hj : j < 2 := (List.getElem?_eq_some_iff.1 hu).1
    rcases (show j = 0 ∨ j = 1 by omega) with rfl | rfl
    · simpa [strv] using hu
    · simpa [strv] using hu⟩⟩ (by omega) (by simp; exact ⟨ha, hb⟩)
  simpa [catB] using h
theorem first_ret {l : List UInt8} {a : Int} {k n : Nat} {p : ByteArray} {q : List UInt8} (h1 : firstR l a = firstAt l k) (h2 : firstAt l k = (q, ((k + 8 + n : Nat) : Int), 0)) (hp : p.data.toList = q) :
    Ending.returned (.tuple #[.string p, .int .i64 ((k : Int) + 8 + (n : Int)), .int .i64 0]) = .returned (.tuple #[.string ⟨(firstR l a).1.toArray⟩, .int .i64 (firstR l a).2.1, .int .i64 ((firstR l a).2.2 : Int)]) := by
  rw [h1, h2, ← hp]
  rfl
set_option maxRecDepth 20000 in
set_option maxHeartbeats 1000000 in
theorem first_any (w : World) (s : ByteArray) (a : Int) (hs : s.size ≤ 140737488355328) (ha0 : -9223372036854775808 ≤ a) (ha1 : a ≤ 9223372036854775807) :
    Calls Try.prog 76 #[.string s, .int .i64 a] w fun e w' => e = .returned (.tuple #[.string ⟨(firstR s.data.toList a).1.toArray⟩, .int .i64 (firstR s.data.toList a).2.1, .int .i64 ((firstR s.data.toList a).2.2 : Int)]) ∧ Below w.heap.size w w' := by
  have hsl : s.data.toList.length = s.size := by simp
  go_enter Try.func76, Try.ntmps76
  by_cases hn : a < 0
  · have hno := first_out (l := s.data.toList) (.inl hn)
    have b0 : decide (a < 0) = true := decide_eq_true hn
    go_wp2
    go_ret3
    exact ⟨by rw [hno]; rfl, Below.refl _ _⟩
  · by_cases hg : (s.size : Int) - 8 < a
    · have hno := first_out (l := s.data.toList) (a := a) (.inr (by omega))
      have b0 : decide (a < 0) = false := decide_eq_false hn
      have b1 : decide ((s.size : Int) - 8 < a) = true := decide_eq_true hg
      go_wp2
      go_ret3
      exact ⟨rfl, Below.refl _ _⟩
    · obtain ⟨k, rfl⟩ : ∃ k : Nat, a = (k : Int) := ⟨a.toNat, by omega⟩
      have hk : k + 8 ≤ s.size := by omega
      have hF := Lib.hid (first_in (l := s.data.toList) (k := k) (by omega))
      have b0 : decide ((k : Int) < 0) = false := decide_eq_false hn
      have b1 : decide ((s.size : Int) - 8 < (k : Int)) = false := decide_eq_false hg
      have hrs : (s.extract k s.size).size + k = s.size := by
        have : (s.extract k s.size).size = s.size - k := by simp
        omega
      have HR := Lib.hid (ext_end s k)
      obtain ⟨r, hr⟩ : ∃ r, r = s.extract k s.size := ⟨_, rfl⟩
      rw [← hr] at hrs HR
      go_wp2_with fail
      rw [← hr]
      clear hr
      refine (number_below _ r (by omega)).mono ?_
      rintro e w1 ⟨rfl, hb1⟩
      have hn32 := be4_lt r.data.toList
      have HRK : Hid (s.data.toList.drop k = r.data.toList) := HR.out.symm
      have hrl : r.data.toList.length = r.size := by simp
      by_cases hbig : 65536 < be4 r.data.toList ∨ r.size < be4 r.data.toList + 8
      · have hno := Lib.hid (at_big HRK.out (by rw [hrl]; exact hbig))
        generalize be4 r.data.toList = n at *
        by_cases hb6 : 65536 < n
        · have b2 : decide ((65536 : Int) < (n : Int)) = true := decide_eq_true (by omega)
          go_wp2
          go_ret3
          exact ⟨by rw [hF.out, hno.out]; rfl, hb1⟩
        · have b2 : decide ((65536 : Int) < (n : Int)) = false := decide_eq_false (by omega)
          have b3 : decide ((r.size : Int) - 8 < (n : Int)) = true := decide_eq_true (by omega)
          go_wp2
          go_ret3
          exact ⟨by rw [hF.out, hno.out]; rfl, hb1⟩
      · have HX := ext_list r 8 (8 + be4 r.data.toList)
        rw [Nat.add_sub_cancel_left] at HX
        have HP := Lib.hid HX
        have HOK := Lib.hid (at_ok HRK.out (by rw [hrl]; exact hbig))
        have HBAD := Lib.hid (at_bad (l := s.data.toList) (k := k) HRK.out)
        have H4 := Lib.hid (ext_list r 0 4)
        have H5 := Lib.hid (ext_end r 4)
        have hps : (r.extract 8 (8 + be4 r.data.toList)).size = be4 r.data.toList := by simp; omega
        have h4s : (r.extract 0 4).size = 4 := by simp; omega
        have h5s' : 4 ≤ (r.extract 4 r.size).size := by have : (r.extract 4 r.size).size = r.size - 4 := by simp
                                                        omega
        generalize be4 r.data.toList = n at *
        have b2 : decide ((65536 : Int) < (n : Int)) = false := decide_eq_false (by omega)
        have b3 : decide ((r.size : Int) - 8 < (n : Int)) = false := decide_eq_false (by omega)
        have hps' : (r.extract 8 (8 + n)).size ≤ 140737488351232 := by omega
        have h4s' : (r.extract 0 4).size ≤ 140737488351232 := by omega
        have hD : List.take (r.size - 4) (List.drop 4 r.data.toList) = List.drop 4 r.data.toList := List.take_of_length_le (by simp)
        have hA := bel hb1 ((Below.refl w1.heap.size w1).alloc (Nat.le_refl _) (.cells #[Value.string (r.extract 0 4), Value.string (r.extract 8 (8 + n))] 9))
        clear hps h4s
        go_wp2
        go_region_with (first | (go_at_call 74; refine (fsum_at _ _ (r.extract 0 4) (r.extract 8 (8 + n)) (by exact heap_alloc_new _ _) h4s' hps').mono ?_; rintro e w2 ⟨rfl, rfl⟩) | (go_at_call 97; refine (number_any _ (r.extract 4 r.size) h5s').mono ?_; rintro e w2 ⟨rfl, m, rfl⟩))
        all_goals go_wp2
        all_goals rename_i hcmp
        all_goals go_ret3
        all_goals first | exact ⟨by rw [hF.out, HBAD.out (fun e => (bne_iff_ne.1 hcmp) (by rw [e]))]; rfl, hA.os, hA.tape, hA.output, hA.size, hA.block⟩ | exact ⟨first_ret hF.out (HOK.out (Int.ofNat.inj (bne_eq_false_iff_eq.1 hcmp))) HP.out, hA.os, hA.tape, hA.output, hA.size, hA.block⟩
end Go.Proofs.Ytanieolnaiihmaa
