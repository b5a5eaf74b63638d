/- Tables: TableBytes, walked. -/
import Derived.Test.YtanieolnaiihmaaJTbROpen
import Derived.Test.YtanieolnaiihmaaJTbAll
import Derived.Test.YtanieolnaiihmaaJTbLives
import Derived.Test.YtanieolnaiihmaaJOwnAny
namespace Go.Proofs.Ytanieolnaiihmaa
open Go.RowKit
theorem open_len {s : List UInt8} {l : List Ent} (hs : s.length ≤ 268435456) (h : openT s = some l) : l.length ≤ s.length := by
  unfold openT at h
  split at h
  · cases h
  · cases hd : decAll ((framesT s).take ((framesT s).length - 3)) with
    | none => rw [hd] at h; cases h
    | some m =>
      rw [hd] at h
      simp only [Option.bind_some] at h
      split at h
      · injection h with h
        subst h
        exact (open_okE hs hd).2
      · cases h
set_option maxHeartbeats 8000000 in
set_option maxRecDepth 20000 in
theorem tbytes_any (w : World) (A : Option Addr) (n c : Nat) (l : List Ent) (s : ByteArray) {S : Nat} (hS : S ≤ 1048576) (hok : okE S l) (hr : Rd w w.heap.size 4 A n (entv l)) (hnc : n ≤ c) (hs : s.size ≤ 268435456) :
    Calls Try.prog 5 #[.slice A n c, .string s] w fun e w' => e = .returned (.bool true) ∧ Below w.heap.size w w' := by
  obtain ⟨i0, hi0, hz0, hz1, hz2⟩ := info_parts ent_info
  have hlen := okE_len hok
  have HNL := Lib.hid (rd_entlen hr)
  have hn : n ≤ 1000000000000 := by have := rd_entlen hr; omega
  have HR := Lib.hid hr
  have HOK := Lib.hid hok
  clear hr hok hlen
  go_enter Try.func5, Try.ntmps5
  go_wp2_with fail
  refine (tlives_any _).mono ?_
  rintro e w3 ⟨rfl, hb3⟩
  have HB3 := Lib.hid hb3
  clear hb3
  have t4 := own_nothing w3 41 4
  have t5 := (HR.out.below HB3.out).below ((bel_new w3 (.cells #[] 41)).mono HB3.out.size)
  have t6 := entv_cell l
  go_wp2_with (at_builtin; refine wpList_app rfl (.tmp 14) (.tmp 15) 31 rfl w3.heap.size 41 i0 _ 4 48 Try.underlying31 hi0 hz0 hz1 hz2 rfl (by omega) _ 0 [] w.heap.size A n c (entv l) rfl t4 rfl t5 t6 ?e1 ?e2 ?e3 ?_)
  case e1 => omega
  case e2 => unfold maxLen; omega
  case e3 => simp
  intro v4 w4 ho4 hu4 _
  clear t4 t5 t6
  have hb4 : Below w3.heap.size w3 w4 := (bel_new w3 (.cells #[] 41)).trans (hu4.below (fun k hk e => by simp [Value.ownBlock] at e; omega) (by simp))
  have HO4 := Lib.hid ho4
  have HB4 := Lib.hid hb4
  have hB4 : w3.heap.size ≤ w4.heap.size := hb4.size
  clear ho4 hu4 hb4
  go_wp2_with (at_builtin; refine wpList_push rfl (.tmp 16) (.tmp 18) 31 rfl w3.heap.size 41 i0 _ 4 48 Try.underlying31 hi0 hz0 hz1 hz2 rfl (by omega) _ n (entv l) #[.string ⟨#[115, 112, 97, 114, 101]⟩, .int .i64 0, .bool false, .string ⟨#[]⟩] rfl (by exact HO4.out) rfl rfl (by simp [Value.oneCell']) ?f1 ?f2 ?f3 ?_)
  case f1 => omega
  case f2 => unfold maxLen; omega
  all_goals try (exact hB4)
  intro v5 w5 ho5 hu5 _
  obtain ⟨go, co, rfl, hob, hol, hoc, _⟩ := own_form ho5 (by omega)
  have hb5 : Below w3.heap.size w3 w5 := HB4.out.trans (hu5.below (fun k hk e => by have := (HO4.out.lt k e).1; omega) hB4)
  have HB5 := Lib.hid (HB3.out.trans (hb5.mono HB3.out.size))
  have hell : (entv l).length = n * 4 := by rw [entv_length, ← HNL.out]
  have HRO := Lib.hid (Rd.own ho5)
  have HRN := Lib.hid (rd_snoc HRO.out hell)
  have hsp : w5.cell? ⟨go, n * 4, none⟩ = some (.string ⟨#[115, 112, 97, 114, 101]⟩) := by
    obtain ⟨ad, e1, _, hc⟩ := HRO.out.at_ (by omega)
    injection e1 with e1
    subst e1
    have := hc (n * 4) (.string ⟨#[115, 112, 97, 114, 101]⟩) (by rw [List.getElem?_append_right (by omega), hell, Nat.sub_self]; rfl)
    rwa [add_zero_off] at this
  have HSP := Lib.hid hsp
  have HR5 := Lib.hid ((HR.out.below HB5.out).mono HB5.out.size)
  have hnI : (n : Int) ≤ (n : Int) + 1 := by omega
  have hnI2 : (n : Int) < (n : Int) + 1 := by omega
  have hn1 : n ≤ n + 1 := by omega
  have hn2 : n < n + 1 := by omega
  obtain ⟨T, hT⟩ : ∃ T : ByteArray, (⟨(bldT l).1.toArray⟩ : ByteArray) = T := ⟨_, rfl⟩
  obtain ⟨q, hq⟩ : ∃ q, (bldT l).2 = q := ⟨_, rfl⟩
  have HTB := Lib.hid (tbuild_any w5 (some ⟨go, 0, none⟩) n co l hS HOK.out HRN.out (by omega))
  have HRB := Lib.hid (fun W (hW : Below w5.heap.size w5 W) => rtbuild_any W A n c l hS HOK.out ((HR5.out.below hW).mono hW.size) hnc)
  rw [hT, hq] at HTB HRB
  clear ho5 hu5 hb5 HO4 HB4 HB3 hsp HRO hell hT hq
  go_wp2_with fail
  refine HTB.out.mono ?_
  rintro e w6 ⟨rfl, hb6⟩
  have HB6 := Lib.hid (HB5.out.trans (hb6.mono HB5.out.size))
  have HRN6 := Lib.hid ((HRN.out.below hb6).mono hb6.size)
  have hg6 : go < w6.heap.size := by have := hb6.size; omega
  have HSP6 := Lib.hid ((hb6.cell (p := ⟨go, n * 4, none⟩) hol).trans HSP.out)
  have HX6 := Lib.hid (HRB.out w6 hb6)
  clear hb6 HB5 HRN HSP HTB HRB HR5
  go_wp2_with fail
  refine HX6.out.mono ?_
  rintro e w7 ⟨rfl, hb7⟩
  have HB7 := Lib.hid (HB6.out.trans (hb7.mono HB6.out.size))
  have HRN7 := Lib.hid ((HRN6.out.below hb7).mono hb7.size)
  have HR7 := Lib.hid ((HR.out.below HB7.out).mono HB7.out.size)
  have hsp7 := (hb7.cell (p := ⟨go, n * 4, none⟩) hg6).trans HSP6.out
  have hg7 : go < w7.heap.size := by have := hb7.size; omega
  have HSP7 := Lib.hid hsp7
  clear hb7 HB6 HRN6 HSP6 hsp7 HX6
  go_wp2_with fail
  refine (same6_yes _ A n co c w7.heap.size l w7 (by unfold maxLen; omega) HRN7.out HR7.out).mono ?_
  rintro e w8 ⟨rfl, dm, rfl⟩
  have hsp8 : (w7.drewN dm).cell? ⟨go, n * 4, none⟩ = some (.string ⟨#[115, 112, 97, 114, 101]⟩) := HSP7.out
  have hbd : Below w7.heap.size w7 (w7.drewN dm) := ⟨rfl, rfl, rfl, Nat.le_refl _, fun _ _ => rfl⟩
  have HB8 := Lib.hid (HB7.out.trans (hbd.mono HB7.out.size))
  generalize w7.drewN dm = w8 at hsp8 HB8 ⊢
  clear HRN7 HR7 HSP7 hbd HB7
  have hsl : s.data.toList.length = s.size := by simp
  cases hop : openT s.data.toList with
  | none =>
    have HOP := Lib.hid hop
    clear hop
    go_wp2_with fail
    refine (open_any w8 s hs).mono ?_
    rintro e w9 ⟨hb9, hpo⟩
    rw [HOP.out] at hpo
    obtain rfl : e = _ := hpo
    have HB9 := Lib.hid (HB8.out.trans (hb9.mono HB8.out.size))
    clear hb9 hsp8 HB8
    go_wp2_with fail
    refine (rtopen_any w9 s hs).mono ?_
    rintro e w10 ⟨hb10, hpo⟩
    rw [HOP.out] at hpo
    obtain rfl : e = _ := hpo
    have HB10 := Lib.hid (HB9.out.trans (hb10.mono HB9.out.size))
    clear hb10 HB9
    go_wp2
    go_ret
    exact ⟨rfl, HB10.out⟩
  | some es =>
    have hel := open_len (by omega) hop
    have HOP := Lib.hid hop
    clear hop
    go_wp2_with fail
    refine (open_any w8 s hs).mono ?_
    rintro e w9 ⟨hb9, hpo⟩
    rw [HOP.out] at hpo
    obtain ⟨TB, rfl, hta⟩ := hpo
    have HTA := Lib.hid hta
    have HB9 := Lib.hid (HB8.out.trans (hb9.mono HB8.out.size))
    clear hb9 hta hsp8 HB8
    go_wp2_with fail
    refine (rtopen_any w9 s hs).mono ?_
    rintro e w10 ⟨hb10, hpo⟩
    rw [HOP.out] at hpo
    obtain ⟨v10, rfl, ho10⟩ := hpo
    obtain ⟨A10, c10, rfl⟩ := own_shape ho10
    have HR10 := Lib.hid (Rd.own ho10)
    have HTA10 := Lib.hid (HTA.out.below hb10)
    have HB10 := Lib.hid (HB9.out.trans (hb10.mono HB9.out.size))
    clear hb10 ho10 HB9 HTA
    go_wp2_with fail
    refine (tall_any w10 _ TB es HTA10.out (by omega)).mono ?_
    rintro e w11 ⟨v11, rfl, ho11, hb11⟩
    obtain ⟨A11, c11, rfl⟩ := own_shape ho11
    have HR11 := Lib.hid (Rd.own ho11)
    have HQ11 := Lib.hid ((HR10.out.below hb11).mono hb11.size)
    have HB11 := Lib.hid (HB10.out.trans (hb11.mono HB10.out.size))
    clear ho11 hb11 HB10 HR10 HTA10
    go_wp2_with fail
    refine (same6_yes A11 A10 es.length c11 c10 _ es w11 (by unfold maxLen; omega) HR11.out HQ11.out).mono ?_
    rintro e w12 ⟨rfl, m12, hw12⟩
    have hbd : Below w11.heap.size w11 w12 := by rw [hw12]; exact ⟨rfl, rfl, rfl, Nat.le_refl _, fun _ _ => rfl⟩
    have HB12 := Lib.hid (HB11.out.trans (hbd.mono HB11.out.size))
    clear hw12 hbd HB11
    go_wp2
    go_ret
    exact ⟨rfl, HB12.out⟩
end Go.Proofs.Ytanieolnaiihmaa
