/- Stable sorting: slices.SortStableFunc, walked. -/
import Derived.Test.YtcfgmkiohmbdlaaStSym
import Derived.Test.YtcfgmkiohmbdlaaStIns
import Derived.Test.YtcfgmkiohmbdlaaStChP
namespace Go.Proofs.Ytcfgmkiohmbdlaa
open Go.RowKit
/-- What sorting leaves. -/
def SortPost (w0 : World) (g : Nat) (l : List Ent) (e : Ending) (w' : World) : Prop := e = .returned (.tuple #[]) ∧ ∃ S, Srt ltE S ∧ Stab ltE l S ∧ ERow w0 w' g S
set_option maxHeartbeats 8000000 in
set_option maxRecDepth 20000 in
theorem stable_any (w0 W : World) (g c n : Nat) (l : List Ent) (h : ERow w0 W g l) (hn : n = l.length) (hbig : n ≤ 1099511627776) :
    Calls Try.prog 86 #[.slice (some ⟨g, 0, none⟩) n c, .int .i64 n, .func (.func 48) #[] #[]] W (SortPost w0 g l) := by
  have HN := Lib.hid hn
  have H0 := Lib.hid h
  clear hn h
  go_enter Try.func86, Try.ntmps86
  go_wp2
  go_loopw [7, 8] (fun av bv wx => ∃ (a b : Nat) (A R : List Ent), av = .int .i64 a ∧ bv = .int .i64 b ∧ b = a + 20 ∧ a ≤ n ∧ Hid (a = A.length ∧ Full ltE 20 A ∧ Stab ltE l (A ++ R) ∧ ERow w0 wx g (A ++ R))) (fun av _ _ => n - (intOf av).toNat)
  case atStart => exact ⟨0, 20, [], l, rfl, rfl, rfl, Nat.zero_le _, Lib.hid ⟨rfl, .nil, Stab.refl _, H0.out⟩⟩
  case round =>
    obtain ⟨a, b, A, R, rfl, rfl, hab, han, HQ⟩ := hrel
    have hl := HQ.out.2.2.1.length
    rw [List.length_append, ← HN.out, ← HQ.out.1] at hl
    have HL := Lib.hid hl
    have HAB := Lib.hid hab
    by_cases hbn : b ≤ n
    · have hc := ins_any w0 wr g c n a b A (R.take 20) (R.drop 20) (by rw [List.append_assoc, List.take_append_drop]; exact HQ.out.2.2.2) (by rw [List.append_assoc, List.take_append_drop, List.length_append, ← HQ.out.1, hl]) HQ.out.1 (by rw [List.length_take]; omega) hbig
      have HC := Lib.hid hc
      have h2 : a + 20 ≤ n := by omega
      clear hc hl hab
      go_wp2_with fail
      refine HC.out.mono ?_
      rintro e w2 ⟨rfl, S, s1, s2, s3⟩
      have HS : Hid (b = (A ++ S).length ∧ Full ltE 20 (A ++ S) ∧ Stab ltE l ((A ++ S) ++ R.drop 20) ∧ ERow w0 w2 g ((A ++ S) ++ R.drop 20)) := Lib.hid (by
        have h3 := HL.out
        have h4 := s2.length
        have h5 := HQ.out.1
        have h6 := HAB.out
        rw [List.length_take] at h4
        refine ⟨by rw [List.length_append]; omega, .snoc HQ.out.2.1 (by omega) s1, ?_, s3⟩
        refine HQ.out.2.2.1.trans ?_
        have h7 := (Stab.refl (lt := ltE) A).append (s2.append (Stab.refl (lt := ltE) (R.drop 20)))
        rw [List.take_append_drop] at h7
        rwa [← List.append_assoc] at h7)
      have h8 : a < b := by have := HAB.out; omega
      clear s1 s2 s3 HC HQ
      go_wp2
      go_roundw
      case rel => exact ⟨b, b + 20, A ++ S, R.drop 20, rfl, by go_num, rfl, hbn, HS⟩
      case measure => simp [intOf]; omega
    · have hc := ins_any w0 wr g c n a n A R [] (by rw [List.append_nil]; exact HQ.out.2.2.2) (by rw [List.append_nil, List.length_append, ← HQ.out.1, hl]) HQ.out.1 (by omega) hbig
      have HC := Lib.hid hc
      clear hc hl hab
      go_wp2_with fail
      refine HC.out.mono ?_
      rintro e w2 ⟨rfl, S, s1, s2, s3⟩
      have HS : Hid (∃ l', Chop ltE 20 l' ∧ Stab ltE l l' ∧ ERow w0 w2 g l') := Lib.hid (by
        have h3 := HL.out
        have h4 := s2.length
        have h6 := HAB.out
        refine ⟨A ++ S, HQ.out.2.1.chop (.last (by omega) s1), HQ.out.2.2.1.trans ((Stab.refl A).append s2), by simpa using s3⟩)
      clear s1 s2 s3 HC HQ HL HAB
      go_wp2
      go_loopw [6] (fun kv wx => ∃ k : Nat, kv = .int .i64 k ∧ 20 ≤ k ∧ k ≤ 2199023255572 ∧ Hid (∃ l', Chop ltE k l' ∧ Stab ltE l l' ∧ ERow w0 wx g l')) (fun kv _ => n - (intOf kv).toNat)
      case atStart => exact ⟨20, rfl, by omega, by omega, HS⟩
      case round =>
        clear HS
        obtain ⟨k, rfl, k1, k2, HQ⟩ := hrel
        by_cases hkn : k < n
        · have hkz : (k : Int) < (n : Int) := by omega
          have e0 : IntKind.i64.wrap (2 * (k : Int)) = ((k + k : Nat) : Int) := by rw [IntKind.wrap_i64]; omega
          obtain ⟨l0, hch, hst, hrow⟩ := HQ.out
          have HI : Hid (Full ltE (k + k) [] ∧ Chop ltE k l0 ∧ Stab ltE l l0 ∧ ERow w0 wr g l0) := Lib.hid ⟨.nil, hch, hst, hrow⟩
          clear hch hst hrow HQ
          go_wp2
          go_loopw [7, 8] (fun av bv wx => ∃ (a b : Nat) (A R : List Ent), av = .int .i64 a ∧ bv = .int .i64 b ∧ b = a + k + k ∧ a ≤ n ∧ Hid (a = A.length ∧ Full ltE (k + k) A ∧ Chop ltE k R ∧ Stab ltE l (A ++ R) ∧ ERow w0 wx g (A ++ R))) (fun av _ _ => n - (intOf av).toNat)
          case atStart => exact ⟨0, k + k, [], l0, rfl, by go_num, by omega, Nat.zero_le _, Lib.hid ⟨rfl, HI.out⟩⟩
          case round =>
            clear HI
            obtain ⟨a, b, A, R, rfl, rfl, hab, han, HQ⟩ := hrel
            have hl := HQ.out.2.2.2.1.length
            rw [List.length_append, ← HN.out, ← HQ.out.1] at hl
            have HL := Lib.hid hl
            have HAB := Lib.hid hab
            obtain ⟨m, hm⟩ : ∃ m, a + k = m := ⟨_, rfl⟩
            have em : (a : Int) + (k : Int) = (m : Int) := by omega
            have HM := Lib.hid hm
            by_cases hbn : b ≤ n
            · obtain ⟨B1, B2, R', hR, b1, b2, s1, s2, hR'⟩ := HQ.out.2.2.1.two (by omega)
              have hrow := HQ.out.2.2.2.2
              rw [hR] at hrow
              have hc := sym_all (b - a) w0 wr g c n a m b A B1 B2 R' (Nat.le_refl _) (by simpa only [List.append_assoc] using hrow) (by rw [hR] at hl; simp only [List.length_append] at hl ⊢; have := HQ.out.1; omega) HQ.out.1 (by omega) (by omega) (by omega) (by omega) s1 s2 hbig
              have HC := Lib.hid hc
              have HB := Lib.hid (And.intro hR (And.intro b1 (And.intro b2 hR')))
              have hz1 : (b : Int) ≤ (n : Int) := by omega
              have hz2 : m ≤ n := by omega
              have e2 : (b : Int) + ((k : Int) + (k : Int)) = ((b + k + k : Nat) : Int) := by omega
              clear hR b1 b2 s1 s2 hR' hrow hc hl hab hm
              go_wp2_with fail
              refine HC.out.mono ?_
              rintro e w2 ⟨rfl, S, hmg, hr2⟩
              have HS : Hid (b = (A ++ S).length ∧ Full ltE (k + k) (A ++ S) ∧ Chop ltE k R' ∧ Stab ltE l ((A ++ S) ++ R') ∧ ERow w0 w2 g ((A ++ S) ++ R')) := Lib.hid (by
                have h3 := hmg.2.length
                have h5 := HQ.out.1
                have h6 := HAB.out
                obtain ⟨g1, g2, g3, g4⟩ := HB.out
                rw [List.length_append] at h3
                refine ⟨by rw [List.length_append]; omega, .snoc HQ.out.2.1 (by omega) hmg.1, g4, ?_, hr2⟩
                refine HQ.out.2.2.2.1.trans ?_
                rw [g1]
                have h7 := (Stab.refl (lt := ltE) A).append (hmg.2.append (Stab.refl (lt := ltE) R'))
                simpa only [List.append_assoc] using h7)
              have h8 : a < b := by have := HAB.out; omega
              clear hmg hr2 HC HQ HB
              go_wp2
              go_roundw
              case rel => exact ⟨b, b + k + k, A ++ S, R', rfl, by first | rfl | go_num | (congr 1; omega), rfl, hbn, HS⟩
              case measure => simp [intOf]; omega
            · have hz1 : ¬ (b : Int) ≤ (n : Int) := by omega
              by_cases hmn : m < n
              · obtain ⟨B1, B2, hR, b1, s1, s2⟩ := HQ.out.2.2.1.one (by omega) (by omega)
                have hrow := HQ.out.2.2.2.2
                rw [hR] at hrow
                have hb2 : n = m + B2.length := by rw [hR, List.length_append] at hl; omega
                have hc := sym_all (n - a) w0 wr g c n a m n A B1 B2 [] (Nat.le_refl _) (by simpa only [List.append_assoc, List.append_nil] using hrow) (by rw [hR] at hl; simp only [List.length_append, List.length_nil] at hl ⊢; have := HQ.out.1; omega) HQ.out.1 (by omega) hb2 (by omega) (by omega) s1 s2 hbig
                have HC := Lib.hid hc
                have HB := Lib.hid (And.intro hR b1)
                have hz2 : (m : Int) < (n : Int) := by omega
                clear hR b1 s1 s2 hrow hc hl hab hm hb2
                go_wp2_with fail
                refine HC.out.mono ?_
                rintro e w2 ⟨rfl, S, hmg, hr2⟩
                have HS : Hid (∃ l', Chop ltE (k + k) l' ∧ Stab ltE l l' ∧ ERow w0 w2 g l') := Lib.hid (by
                  have h3 := hmg.2.length
                  have h5 := HQ.out.1
                  have h6 := HAB.out
                  have h7 := HL.out
                  obtain ⟨g1, g2⟩ := HB.out
                  rw [g1, List.length_append] at h7
                  rw [List.length_append] at h3
                  refine ⟨A ++ S, HQ.out.2.1.chop (.last (by omega) hmg.1), ?_, by simpa using hr2⟩
                  refine HQ.out.2.2.2.1.trans ?_
                  rw [g1]
                  exact (Stab.refl (lt := ltE) A).append hmg.2)
                clear hmg hr2 HC HQ HB em
                go_wp2
                go_roundw
                case rel => exact ⟨k + k, by first | rfl | go_num | (congr 1; omega), by omega, by omega, HS⟩
                case measure => simp [intOf]; omega
              · have hz2 : ¬ (m : Int) < (n : Int) := by omega
                have HS : Hid (∃ l', Chop ltE (k + k) l' ∧ Stab ltE l l' ∧ ERow w0 wr g l') := Lib.hid ⟨A ++ R, HQ.out.2.1.chop (.last (by omega) (HQ.out.2.2.1.srt (by omega))), HQ.out.2.2.2.1, HQ.out.2.2.2.2⟩
                clear HQ hl hab hm
                go_wp2
                go_roundw
                case rel => exact ⟨k + k, by first | rfl | go_num | (congr 1; omega), by omega, by omega, HS⟩
                case measure => simp [intOf]; omega
        · have hkz : ¬ (k : Int) < (n : Int) := by omega
          have HF : Hid (∃ S, Srt ltE S ∧ Stab ltE l S ∧ ERow w0 wr g S) := Lib.hid (by
            obtain ⟨l', h1, h2, h3⟩ := HQ.out
            exact ⟨l', h1.srt (by rw [h2.length, ← HN.out]; omega), h2, h3⟩)
          clear HQ
          go_wp2
          refine bodyPost_end (results_none rfl _ _ _) rfl ?_
          exact ⟨rfl, HF.out⟩
set_option maxHeartbeats 1000000 in
theorem sort_any (w0 W : World) (g c n : Nat) (l : List Ent) (h : ERow w0 W g l) (hn : n = l.length) (hbig : n ≤ 1099511627776) :
    Calls Try.prog 47 #[.slice (some ⟨g, 0, none⟩) n c, .func (.func 48) #[] #[]] W (SortPost w0 g l) := by
  have HC := Lib.hid (stable_any w0 W g c n l h hn hbig)
  clear h hn
  go_enter Try.func47, Try.ntmps47
  go_wp2_with fail
  refine HC.out.mono ?_
  rintro e w2 ⟨rfl, hq⟩
  have HQ := Lib.hid hq
  clear hq HC
  go_wp2
  refine bodyPost_end (results_none rfl _ _ _) rfl ?_
  exact ⟨rfl, HQ.out⟩
end Go.Proofs.Ytcfgmkiohmbdlaa
