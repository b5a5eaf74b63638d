/- Pack: the reference's reader, its Int and Text. -/
import Derived.Test.YtanieolnaiihmaaBkRRd
namespace Go.Proofs.Ytanieolnaiihmaa
open Go.RowKit

theorem rrdnum_f (w : World) (g : Nat) (s : ByteArray) (n e : Nat) (r : List UInt8) (hrd : rdNum s.data.toList = (n, e, r)) (h : Rdr w 141 g s) (hs : s.size ≤ 140737488351232) :
    Calls Try.prog 85 #[.pointer (some ⟨g, 0, none⟩)] w fun e' w' => e' = .returned (.tuple #[.int .u64 (n : Int), .int .i64 (e : Int)]) ∧ Took w 141 g r w' := by
  have := rrdnum_any w g s h hs
  rw [hrd] at this
  exact this
set_option maxHeartbeats 400000 in
theorem rrdint_any (w : World) (g : Nat) (s : ByteArray) (h : Rdr w 141 g s) (hs : s.size ≤ 140737488351232) :
    Calls Try.prog 87 #[.pointer (some ⟨g, 0, none⟩)] w fun e w' => e = .returned (.tuple #[.int .i64 (rdInt s.data.toList).1, .int .i64 ((rdInt s.data.toList).2.1 : Int)]) ∧ Took w 141 g (rdInt s.data.toList).2.2 w' := by
  obtain ⟨n, e, r, hrd⟩ : ∃ n e r, rdNum s.data.toList = (n, e, r) := ⟨_, _, _, rfl⟩
  have hlt : n < 18446744073709551616 := by have := rdNum_lt s.data.toList; rw [hrd] at this; exact this
  have hi : rdInt s.data.toList = (unfold_ n, e, r) := by unfold rdInt; rw [hrd]
  rw [hi]
  have HRD := Lib.hid hrd
  rcases rdNum_err hrd with ⟨rfl, _, _⟩ | ⟨rfl, rfl, rfl⟩
  · clear hrd hi
    go_enter Try.func87, Try.ntmps87
    go_wp2_with fail
    refine (rrdnum_f _ g s n 0 r HRD.out h hs).mono ?_
    rintro e w' ⟨rfl, hw⟩
    go_wp2_with fail
    refine (unfold_any _ n hlt).mono ?_
    rintro e w2 ⟨rfl, rfl⟩
    go_wp2
    go_ret2
    exact ⟨ret_two rfl rfl, hw⟩
  · clear hrd hi
    go_enter Try.func87, Try.ntmps87
    go_wp2_with fail
    refine (rrdnum_f _ g s 0 1 _ HRD.out h hs).mono ?_
    rintro e w' ⟨rfl, hw⟩
    go_wp2
    go_ret2
    exact ⟨ret_two rfl rfl, hw⟩
set_option maxHeartbeats 400000 in
theorem rrdtext_any (w : World) (g : Nat) (s : ByteArray) (h : Rdr w 141 g s) (hs : s.size ≤ 140737488351232) :
    Calls Try.prog 86 #[.pointer (some ⟨g, 0, none⟩)] w fun e w' => (∃ t : ByteArray, t.data.toList = (rdText s.data.toList).1 ∧ e = .returned (.tuple #[.string t, .int .i64 ((rdText s.data.toList).2.1 : Int)])) ∧ Took w 141 g (rdText s.data.toList).2.2 w' := by
  obtain ⟨n, e, r, hrd⟩ : ∃ n e r, rdNum s.data.toList = (n, e, r) := ⟨_, _, _, rfl⟩
  have c0 := h.cell
  have HRD := Lib.hid hrd
  rcases rdNum_err hrd with ⟨rfl, hn, hr⟩ | ⟨rfl, rfl, rfl⟩
  · by_cases hlen : r.length < n
    · have hi := Lib.hid (show rdText s.data.toList = ([], 1, s.data.toList) by unfold rdText; rw [hrd, if_pos (.inr hlen)])
      clear hrd
      go_enter Try.func86, Try.ntmps86
      go_wp2_with fail
      refine (rrdnum_f _ g s n 0 r HRD.out h hs).mono ?_
      rintro e w' ⟨rfl, s', hs', hw', hu⟩
      have c1 := hw'.cell
      have f1 := hw'.free
      have hsz : s'.size = r.length := by rw [← hs']; simp
      have hsl : s'.size ≤ 140737488351232 := by simp at hr; omega
      have hgt : (s'.size : Int) < (n : Int) := by omega
      have HU : Hid (Took w 141 g s.data.toList (w'.setCell ⟨g, 0, none⟩ (.string s))) := ⟨s, rfl, hw'.set s, hu.trans (upd_set w' g _) (fun _ _ h => h)⟩
      clear hsz hs'
      go_wp2
      go_ret2
      exact ⟨⟨⟨#[]⟩, by rw [hi.out], ret_st (by rw [hi.out]; rfl)⟩, by rw [hi.out]; exact HU.out⟩
    · have hi := Lib.hid (show rdText s.data.toList = (r.take n, 0, r.drop n) by unfold rdText; rw [hrd, if_neg (by simp; omega)])
      clear hrd
      go_enter Try.func86, Try.ntmps86
      go_wp2_with fail
      refine (rrdnum_f _ g s n 0 r HRD.out h hs).mono ?_
      rintro e w' ⟨rfl, s', hs', hw', hu⟩
      have c1 := hw'.cell
      have f1 := hw'.free
      have hsz : s'.size = r.length := by rw [← hs']; simp
      have hsl : s'.size ≤ 140737488351232 := by simp at hr; omega
      have hgt : (n : Int) ≤ (s'.size : Int) := by omega
      have hgn : n ≤ s'.size := by omega
      have HU : Hid (Took w 141 g (r.drop n) (w'.setCell ⟨g, 0, none⟩ (.string (s'.extract n s'.size)))) := ⟨_, by rw [extract_end, hs'], hw'.set _, hu.trans (upd_set w' g _) (fun _ _ h => h)⟩
      have HX := Lib.hid (show (s'.extract 0 n).data.toList = r.take n by rw [← hs']; simp [ByteArray.data_extract])
      clear hsz hs'
      go_wp2
      go_ret2
      exact ⟨⟨_, by rw [hi.out]; exact HX.out, ret_st (by rw [hi.out]; rfl)⟩, by rw [hi.out]; exact HU.out⟩
  · have hi := Lib.hid (show rdText s.data.toList = ([], 1, s.data.toList) by unfold rdText; rw [hrd, if_pos (.inl (by simp))])
    clear hrd
    go_enter Try.func86, Try.ntmps86
    go_wp2_with fail
    refine (rrdnum_f _ g s 0 1 _ HRD.out h hs).mono ?_
    rintro e w' ⟨rfl, s', hs', hw', hu⟩
    have c1 := hw'.cell
    have f1 := hw'.free
    have HU : Hid (Took w 141 g s.data.toList (w'.setCell ⟨g, 0, none⟩ (.string s))) := ⟨s, rfl, hw'.set s, hu.trans (upd_set w' g _) (fun _ _ h => h)⟩
    clear hs'
    go_wp2
    go_ret2
    exact ⟨⟨⟨#[]⟩, by rw [hi.out], ret_st (by rw [hi.out]; rfl)⟩, by rw [hi.out]; exact HU.out⟩
end Go.Proofs.Ytanieolnaiihmaa
