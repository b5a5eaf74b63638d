/- Pack's reader, second part. -/
import Derived.Test.YtanieolnaiihmaaBkRd
import Derived.Lib.Zigzag
namespace Go.Proofs.Ytanieolnaiihmaa
open Go.RowKit

def unfold_ (u : Nat) : Int := if u % 2 = 0 then (u / 2 : Nat) else -((u / 2 : Nat) : Int) - 1
def rdInt (l : List UInt8) : Int × Nat × List UInt8 := (unfold_ (rdNum l).1, (rdNum l).2)
def rdText (l : List UInt8) : List UInt8 × Nat × List UInt8 :=
  if (rdNum l).2.1 ≠ 0 ∨ (rdNum l).2.2.length < (rdNum l).1 then ([], 1, l) else ((rdNum l).2.2.take (rdNum l).1, 0, (rdNum l).2.2.drop (rdNum l).1)
theorem rdNum_lt (l : List UInt8) : (rdNum l).1 < 18446744073709551616 := by
  unfold rdNum
  split
  · rename_i n r h; exact (numR0_some h).2
  · omega
theorem rdNum_len (l : List UInt8) : (rdNum l).2.2.length ≤ l.length := by
  unfold rdNum
  split
  · rename_i n r h; have := (numR0_some h).1; rw [this]; simp
  · exact Nat.le_refl _
set_option maxHeartbeats 400000 in
theorem read_any (w : World) (s : ByteArray) : Calls Try.prog 77 #[.string s] w fun e w' => e = .returned (.pointer (some ⟨w.heap.size, 0, none⟩)) ∧ w' = w.alloc (.cells #[.string s] 155) := by
  go_enter Try.func77, Try.ntmps77
  go_wp2
  go_ret
  exact ⟨rfl, rfl⟩
set_option maxHeartbeats 400000 in
theorem done_any (w : World) (g : Nat) (s : ByteArray) (h : Rdr w 155 g s) : Calls Try.prog 80 #[.pointer (some ⟨g, 0, none⟩)] w fun e w' => e = .returned (.bool (s.size == 0)) ∧ w = w' := by
  have c0 := h.cell
  have h1 : s.toList.isEmpty = (s.size == 0) := by
    by_cases h : s.size = 0
    · rw [empty_of_size h, h]; rfl
    · rw [isEmpty_of_size h, beq_eq_false_iff_ne.2 h]
  go_enter Try.func80, Try.ntmps80
  go_wp2
  go_ret
  exact ⟨rfl, rfl⟩
set_option maxHeartbeats 400000 in
theorem unfold_any (w : World) (u : Nat) (hu : u < 18446744073709551616) : Calls Try.prog 104 #[.int .u64 (u : Int)] w fun e w' => e = .returned (.int .i64 (unfold_ u)) ∧ w = w' := by
  go_enter Try.func104, Try.ntmps104
  go_wp2
  · go_ret
    exact ⟨ret_int (by unfold unfold_; rw [if_pos (by have h : ((u : Int) % 2 == 0) = true := by assumption
                                                      rw [beq_iff_eq] at h; omega)]; omega), rfl⟩
  · go_ret
    exact ⟨ret_int (by unfold unfold_; rw [if_neg (by have h : ((u : Int) % 2 == 0) = false := by assumption
                                                      rw [beq_eq_false_iff_ne] at h; omega)]; omega), rfl⟩
theorem rdnum_f (w : World) (g : Nat) (s : ByteArray) (n e : Nat) (r : List UInt8) (hrd : rdNum s.data.toList = (n, e, r)) (h : Rdr w 155 g s) (hs : s.size ≤ 140737488351232) :
    Calls Try.prog 98 #[.pointer (some ⟨g, 0, none⟩)] w fun e' w' => e' = .returned (.tuple #[.int .u64 (n : Int), .int .i64 (e : Int)]) ∧ Took w 155 g r w' := by
  have := rdnum_any w g s h hs
  rw [hrd] at this
  exact this
theorem ret_st {t : ByteArray} {k : IntKind} {b b' : Int} (h : b = b') : Ending.returned (.tuple #[.string t, .int k b]) = .returned (.tuple #[.string t, .int k b']) := by rw [h]
theorem rdNum_err {l : List UInt8} {n e : Nat} {r : List UInt8} (h : rdNum l = (n, e, r)) : (e = 0 ∧ n < 18446744073709551616 ∧ r.length ≤ l.length) ∨ (e = 1 ∧ n = 0 ∧ r = l) := by
  have h1 := rdNum_lt l
  have h2 := rdNum_len l
  unfold rdNum at h h1 h2
  split at h
  · rename_i m q hq
    injection h with a b
    injection b with b c
    subst a; subst b; subst c
    rw [hq] at h1 h2
    exact .inl ⟨rfl, h1, h2⟩
  · injection h with a b
    injection b with b c
    exact .inr ⟨b.symm, a.symm, c.symm⟩
/-- The walk's own words for a whole number out of a number. -/
theorem unzig (u : Nat) (hu : u < 18446744073709551616) : bits BinOp.xor IntKind.i64 ((u : Int) / 2) (-((u % 2 : Nat) : Int)) = unfold_ u := by
  unfold unfold_
  rw [show (u : Int) / 2 = ((u / 2 : Nat) : Int) by omega]
  have hb : (BitVec.ofInt 64 ((u / 2 : Nat) : Int)).toNat = u / 2 := by rw [BitVec.ofInt_natCast, BitVec.toNat_ofNat]; exact Nat.mod_eq_of_lt (by omega)
  by_cases h : u % 2 = 0
  · rw [if_pos h, h]
    show IntKind.i64.wrap ((BitVec.ofInt 64 ((u / 2 : Nat) : Int) ^^^ BitVec.ofInt 64 (-((0 : Nat) : Int))).toNat : Int) = _
    rw [show BitVec.ofInt 64 (-((0 : Nat) : Int)) = 0#64 from rfl, BitVec.xor_zero, hb]
    exact IntWalk.i64_in _ (by omega)
  · rw [if_neg h, show u % 2 = 1 by omega]
    have := Lib.i64_not (u / 2) (by omega)
    rw [← this]
    show IntKind.i64.wrap ((BitVec.ofInt 64 ((u / 2 : Nat) : Int) ^^^ BitVec.ofInt 64 (-((1 : Nat) : Int))).toNat : Int) = IntKind.i64.wrap ((BitVec.ofInt 64 (-1) ^^^ BitVec.ofInt 64 ((u / 2 : Nat) : Int)).toNat : Int)
    rw [BitVec.xor_comm]
    rfl
set_option maxHeartbeats 400000 in
theorem rdint_any (w : World) (g : Nat) (s : ByteArray) (h : Rdr w 155 g s) (hs : s.size ≤ 140737488351232) :
    Calls Try.prog 100 #[.pointer (some ⟨g, 0, none⟩)] w fun e w' => e = .returned (.tuple #[.int .i64 (rdInt s.data.toList).1, .int .i64 ((rdInt s.data.toList).2.1 : Int)]) ∧ Took w 155 g (rdInt s.data.toList).2.2 w' := by
  obtain ⟨n, e, r, hrd⟩ : ∃ n e r, rdNum s.data.toList = (n, e, r) := ⟨_, _, _, rfl⟩
  have hlt : n < 18446744073709551616 := by have := rdNum_lt s.data.toList; rw [hrd] at this; exact this
  have hi : rdInt s.data.toList = (unfold_ n, e, r) := by unfold rdInt; rw [hrd]
  rw [hi]
  have HRD := Lib.hid hrd
  have hu := unzig n hlt
  have ha : bits BinOp.and IntKind.u64 (n : Int) 1 = ((n % 2 : Nat) : Int) := by
    have := bits_and_u64_nat n 1 hlt (by omega)
    rw [nat_mask1, show ((1 : Nat) : Int) = 1 from rfl] at this
    exact this
  obtain ⟨m, hm⟩ : ∃ m, m = n % 2 := ⟨_, rfl⟩
  rw [← hm] at hu ha
  have hm2 : m ≤ 1 := by omega
  have HU := Lib.hid hu
  clear hrd hi hm hu
  go_enter Try.func100, Try.ntmps100
  go_wp2_with fail
  refine (rdnum_f _ g s n e r HRD.out h hs).mono ?_
  rintro e w' ⟨rfl, hw⟩
  go_wp2
  go_ret2
  exact ⟨ret_two HU.out rfl, hw⟩
set_option maxHeartbeats 400000 in
theorem rdtext_any (w : World) (g : Nat) (s : ByteArray) (h : Rdr w 155 g s) (hs : s.size ≤ 140737488351232) :
    Calls Try.prog 108 #[.pointer (some ⟨g, 0, none⟩)] w fun e w' => (∃ t : ByteArray, t.data.toList = (rdText s.data.toList).1 ∧ e = .returned (.tuple #[.string t, .int .i64 ((rdText s.data.toList).2.1 : Int)])) ∧ Took w 155 g (rdText s.data.toList).2.2 w' := by
  obtain ⟨n, e, r, hrd⟩ : ∃ n e r, rdNum s.data.toList = (n, e, r) := ⟨_, _, _, rfl⟩
  have c0 := h.cell
  have HRD := Lib.hid hrd
  rcases rdNum_err hrd with ⟨rfl, hn, hr⟩ | ⟨rfl, rfl, rfl⟩
  · by_cases hlen : r.length < n
    · have hi := Lib.hid (show rdText s.data.toList = ([], 1, s.data.toList) by unfold rdText; rw [hrd, if_pos (.inr hlen)])
      clear hrd
      go_enter Try.func108, Try.ntmps108
      go_wp2_with fail
      refine (rdnum_f _ g s n 0 r HRD.out h hs).mono ?_
      rintro e w' ⟨rfl, s', hs', hw', hu⟩
      have c1 := hw'.cell
      have f1 := hw'.free
      have hsz : s'.size = r.length := by rw [← hs']; simp
      have hsl : s'.size ≤ 140737488351232 := by simp at hr; omega
      have hgt : (s'.size : Int) < (n : Int) := by omega
      have HU : Hid (Took w 155 g s.data.toList (w'.setCell ⟨g, 0, none⟩ (.string s))) := ⟨s, rfl, hw'.set s, hu.trans (upd_set w' g _) (fun _ _ h => h)⟩
      clear hsz hs'
      go_wp2
      go_ret2
      exact ⟨⟨⟨#[]⟩, by rw [hi.out], ret_st (by rw [hi.out]; rfl)⟩, by rw [hi.out]; exact HU.out⟩
    · have hi := Lib.hid (show rdText s.data.toList = (r.take n, 0, r.drop n) by unfold rdText; rw [hrd, if_neg (by simp; omega)])
      clear hrd
      go_enter Try.func108, Try.ntmps108
      go_wp2_with fail
      refine (rdnum_f _ g s n 0 r HRD.out h hs).mono ?_
      rintro e w' ⟨rfl, s', hs', hw', hu⟩
      have c1 := hw'.cell
      have f1 := hw'.free
      have hsz : s'.size = r.length := by rw [← hs']; simp
      have hsl : s'.size ≤ 140737488351232 := by simp at hr; omega
      have hgt : (n : Int) ≤ (s'.size : Int) := by omega
      have hgn : n ≤ s'.size := by omega
      have HU : Hid (Took w 155 g (r.drop n) (w'.setCell ⟨g, 0, none⟩ (.string (s'.extract n s'.size)))) := ⟨_, by rw [extract_end, hs'], hw'.set _, hu.trans (upd_set w' g _) (fun _ _ h => h)⟩
      have HX := Lib.hid (show (s'.extract 0 n).data.toList = r.take n by rw [← hs']; simp [ByteArray.data_extract])
      clear hsz hs'
      go_wp2
      go_ret2
      exact ⟨⟨_, by rw [hi.out]; exact HX.out, ret_st (by rw [hi.out]; rfl)⟩, by rw [hi.out]; exact HU.out⟩
  · have hi := Lib.hid (show rdText s.data.toList = ([], 1, s.data.toList) by unfold rdText; rw [hrd, if_pos (.inl (by simp))])
    clear hrd
    go_enter Try.func108, Try.ntmps108
    go_wp2_with fail
    refine (rdnum_f _ g s 0 1 _ HRD.out h hs).mono ?_
    rintro e w' ⟨rfl, s', hs', hw', hu⟩
    have c1 := hw'.cell
    have f1 := hw'.free
    have HU : Hid (Took w 155 g s.data.toList (w'.setCell ⟨g, 0, none⟩ (.string s))) := ⟨s, rfl, hw'.set s, hu.trans (upd_set w' g _) (fun _ _ h => h)⟩
    clear hs'
    go_wp2
    go_ret2
    exact ⟨⟨⟨#[]⟩, by rw [hi.out], ret_st (by rw [hi.out]; rfl)⟩, by rw [hi.out]; exact HU.out⟩
end Go.Proofs.Ytanieolnaiihmaa
