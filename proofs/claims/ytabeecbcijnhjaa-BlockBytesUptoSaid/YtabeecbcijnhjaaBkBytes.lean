/- Blocks: BlockBytes, walked. -/
import Derived.Test.YtabeecbcijnhjaaBkRDec
import Derived.Test.YtabeecbcijnhjaaBkLives
import Derived.Test.YtabeecbcijnhjaaSame6
namespace Go.Proofs.Ytabeecbcijnhjaa
open Go.RowKit
theorem own_nothing (w : World) (e : TypeId) (size : Nat) : (w.alloc (.cells #[] e)).ownsRow w.heap.size e size (.slice (some ⟨w.heap.size, 0, none⟩) 0 0) 0 [] :=
  ⟨by simp, .inr ⟨_, 0, #[], rfl, Nat.le_refl _, heap_alloc_new w _, Nat.le_refl _, Nat.zero_le _, by simp, by simp⟩⟩
def spareE : Ent := ⟨⟨#[115, 112, 97, 114, 101]⟩, 0, false, ⟨#[]⟩⟩
theorem rd_snoc {w : World} {B size n : Nat} {A : Option Addr} {xs ys : List Value} (h : Rd w B size A (n + 1) (xs ++ ys)) (hx : xs.length = n * size) : Rd w B size A n xs := by
  have := h.take n (Nat.le_succ _)
  rwa [← hx, List.take_left] at this
theorem below_alloc1 (w : World) (o : Obj) : Below w.heap.size w (w.alloc o) := (Below.refl _ _).alloc (Nat.le_refl _) _
theorem own_max {w : World} {base size n : Nat} {e : TypeId} {v : Value} {xs : List Value} (h : w.ownsRow base e size v n xs) : n ≤ maxLen := by
  by_cases h0 : 0 < n
  · obtain ⟨g, cap, _, _, _, h1, h2⟩ := own_form h h0
    omega
  · omega
set_option maxHeartbeats 8000000 in
set_option maxRecDepth 20000 in
theorem bkbytes_any (w : World) (A : Option Addr) (n c : Nat) (l : List Ent) (s z : ByteArray) (hr : Rd w w.heap.size 4 A n (entv l)) (hn : n ≤ 1048576) (hok : ∀ x ∈ l, (-9223372036854775808 ≤ x.seq ∧ x.seq ≤ 9223372036854775807) ∧ x.key.size ≤ 1048576 ∧ x.val.size ≤ 1048576)
    (hl : (blockB l).length ≤ 1099511627775) (hs : s.size ≤ 1048576) (hz : z.size ≤ 1048576) :
    Calls Try.prog 3 #[.slice A n c, .string s, .string z] w fun e w' => e = .returned (.bool true) ∧ Below w.heap.size w w' := by
  obtain ⟨i0, hi0, hz0, hz1, hz2⟩ := info_parts ent_info
  have HNL := Lib.hid (rd_entlen hr)
  have HR := Lib.hid hr
  have HOK : Hid (∀ x ∈ l, (-9223372036854775808 ≤ x.seq ∧ x.seq ≤ 9223372036854775807) ∧ x.key.size ≤ 1099511627776 ∧ x.val.size ≤ 1099511627776) := Lib.hid fun x hx => ⟨(hok x hx).1, by have := (hok x hx).2; omega, by have := (hok x hx).2; omega⟩
  have HL := Lib.hid hl
  clear hr hok hl
  go_enter Try.func3, Try.ntmps3
  go_wp2_with fail
  refine (blives_any _).mono ?_
  rintro e w3 ⟨rfl, hb3⟩
  have HB3 := Lib.hid hb3
  clear hb3
  have t4 := own_nothing w3 25 4
  have t5 := (HR.out.below HB3.out).below ((below_alloc1 w3 (.cells #[] 25)).mono HB3.out.size)
  have t6 := entv_cell l
  go_wp2_with (at_builtin; refine wpList_app rfl (.tmp 16) (.tmp 17) 22 rfl w3.heap.size 25 i0 _ 4 48 Try.underlying22 hi0 hz0 hz1 hz2 rfl (by omega) _ 0 [] w.heap.size A n c (entv l) rfl t4 rfl t5 t6 ?e1 ?e2 ?e3 ?_)
  case e1 => omega
  case e2 => unfold maxLen; omega
  case e3 => simp
  intro v4 w4 ho4 hu4 _
  clear t4 t5 t6
  have hb4 : Below w3.heap.size w3 w4 := (below_alloc1 w3 (.cells #[] 25)).trans (hu4.below (fun k hk e => by simp [Value.ownBlock] at e; omega) (by simp))
  have HO4 := Lib.hid ho4
  have HB4 := Lib.hid hb4
  have hB4 : w3.heap.size ≤ w4.heap.size := hb4.size
  clear ho4 hu4 hb4
  go_wp2_with (at_builtin; refine wpList_push rfl (.tmp 18) (.tmp 20) 22 rfl w3.heap.size 25 i0 _ 4 48 Try.underlying22 hi0 hz0 hz1 hz2 rfl (by omega) _ n (entv l) #[.string ⟨#[115, 112, 97, 114, 101]⟩, .int .i64 0, .bool false, .string ⟨#[]⟩] rfl (by exact HO4.out) rfl rfl (by simp [Value.oneCell']) ?f1 ?f2 ?f3 ?_)
  case f1 => omega
  case f2 => unfold maxLen; omega
  all_goals try (exact hB4)
  intro v5 w5 ho5 hu5 _
  obtain ⟨go, co, rfl, hob, hol, hoc, _⟩ := own_form ho5 (by omega)
  have hb5 : Below w3.heap.size w3 w5 := HB4.out.trans (hu5.below (fun k hk e => by have := (HO4.out.lt k e).1; omega) hB4)
  have HB5 := Lib.hid (HB3.out.trans (hb5.mono HB3.out.size))
  have hell : (entv l).length = n * 4 := by rw [entv_length, ← HNL.out]
  have HRO := Lib.hid (Rd.own ho5)
  have HRN := Lib.hid (rd_snoc HRO.out hell)
  have hsp : w5.cell? ⟨go, n * 4, none⟩ = some (.string ⟨#[115, 112, 97, 114, 101]⟩) := by
    obtain ⟨ad, e1, _, hc⟩ := HRO.out.at_ (by omega)
    injection e1 with e1
    subst e1
    have := hc (n * 4) (.string ⟨#[115, 112, 97, 114, 101]⟩) (by rw [List.getElem?_append_right (by omega), hell, Nat.sub_self]; rfl)
    rwa [add_zero_off] at this
  have HSP := Lib.hid hsp
  have HR5 := Lib.hid ((HR.out.below HB5.out).mono HB5.out.size)
  have hnI : (n : Int) ≤ (n : Int) + 1 := by omega
  have hnI2 : (n : Int) < (n : Int) + 1 := by omega
  have hn1 : n ≤ n + 1 := by omega
  have hn2 : n < n + 1 := by omega
  clear ho5 hu5 hb5 HO4 HB4 HB3 hsp HRO hell
  go_wp2_with fail
  refine (enc_any w5 _ n co l HRN.out (by omega) HOK.out (by have := HL.out; omega)).mono ?_
  rintro e w6 ⟨rfl, hb6⟩
  have HB6 := Lib.hid (HB5.out.trans (hb6.mono HB5.out.size))
  have HRN6 := Lib.hid ((HRN.out.below hb6).mono hb6.size)
  have HR6 := Lib.hid ((HR5.out.below hb6).mono hb6.size)
  have hg6 : go < w6.heap.size := by have := hb6.size; omega
  have HSP6 := Lib.hid ((hb6.cell (p := ⟨go, n * 4, none⟩) hol).trans HSP.out)
  clear hb6 HB5 HRN HR5 HSP
  go_wp2_with fail
  refine (renc_any w6 A n c l HR6.out (by omega) HOK.out (by have := HL.out; omega)).mono ?_
  rintro e w7 ⟨rfl, hb7⟩
  have HB7 := Lib.hid (HB6.out.trans (hb7.mono HB6.out.size))
  have HRN7 := Lib.hid ((HRN6.out.below hb7).mono hb7.size)
  have HR7 := Lib.hid ((HR6.out.below hb7).mono hb7.size)
  have hsp7 := (hb7.cell (p := ⟨go, n * 4, none⟩) hg6).trans HSP6.out
  have hg7 : go < w7.heap.size := by have := hb7.size; omega
  have HSP7 := Lib.hid hsp7
  clear hb7 HB6 HRN6 HR6 HSP6 hsp7
  go_wp2_with fail
  refine (same6_yes _ A n co c w7.heap.size l w7 (by unfold maxLen; omega) HRN7.out HR7.out).mono ?_
  rintro e w8 ⟨rfl, dm, rfl⟩
  have hsp8 : (w7.drewN dm).cell? ⟨go, n * 4, none⟩ = some (.string ⟨#[115, 112, 97, 114, 101]⟩) := HSP7.out
  have hbd : Below w7.heap.size w7 (w7.drewN dm) := ⟨rfl, rfl, rfl, Nat.le_refl _, fun _ _ => rfl⟩
  have HB8 := Lib.hid (HB7.out.trans (hbd.mono HB7.out.size))
  generalize w7.drewN dm = w8 at hsp8 HB8 ⊢
  clear HRN7 HR7 HSP7 hbd HB7
  go_wp2_with fail
  refine (dec_any w8 s (by omega)).mono ?_
  rintro e w9 ⟨v9, rfl, ho9, hb9⟩
  obtain ⟨A9, c9, rfl⟩ := own_shape ho9
  have HM9 := Lib.hid (own_max ho9)
  have HR9 := Lib.hid (Rd.own ho9)
  have HB9 := Lib.hid (HB8.out.trans (hb9.mono HB8.out.size))
  clear ho9 hb9 hsp8 HB8
  go_wp2_with fail
  refine (rdec_any w9 s hs).mono ?_
  rintro e w10 ⟨v10, rfl, ho10, hb10⟩
  obtain ⟨A10, c10, rfl⟩ := own_shape ho10
  have HR10 := Lib.hid ((HR9.out.below hb10).mono hb10.size)
  have HQ10 := Lib.hid (Rd.own ho10)
  have HB10 := Lib.hid (HB9.out.trans (hb10.mono HB9.out.size))
  obtain ⟨es, hes⟩ : ∃ es, (decR s.data.toList).1 = es := ⟨_, rfl⟩
  rw [hes] at HR10 HQ10 HM9 ⊢
  generalize (decR s.data.toList).2 = er
  clear ho10 hb10 HR9 HB9 hes
  go_wp2_with fail
  refine (same6_yes A9 A10 es.length c9 c10 w10.heap.size es w10 HM9.out HR10.out HQ10.out).mono ?_
  rintro e w11 ⟨rfl, dn, rfl⟩
  have hbd : Below w10.heap.size w10 (w10.drewN dn) := ⟨rfl, rfl, rfl, Nat.le_refl _, fun _ _ => rfl⟩
  have HB11 := Lib.hid (HB10.out.trans (hbd.mono HB10.out.size))
  generalize w10.drewN dn = w11 at HB11 ⊢
  clear HR10 HQ10 HM9 hbd HB10
  go_wp2_with fail
  refine (shared_any w11 s z (by omega) (by omega)).mono ?_
  rintro e w12 ⟨rfl, hd12⟩
  obtain ⟨d12, rfl⟩ := hd12.out
  have hbd : Below w11.heap.size w11 (w11.drewN d12) := ⟨rfl, rfl, rfl, Nat.le_refl _, fun _ _ => rfl⟩
  have HB12 := Lib.hid (HB11.out.trans (hbd.mono HB11.out.size))
  generalize w11.drewN d12 = w12 at HB12 ⊢
  clear hbd HB11 hd12
  go_wp2_with fail
  refine (rshared_any w12 s z (by omega) (by omega)).mono ?_
  rintro e w13 ⟨rfl, hd13⟩
  obtain ⟨d13, rfl⟩ := hd13.out
  have hbd : Below w12.heap.size w12 (w12.drewN d13) := ⟨rfl, rfl, rfl, Nat.le_refl _, fun _ _ => rfl⟩
  have HB13 := Lib.hid (HB12.out.trans (hbd.mono HB12.out.size))
  clear hbd HB12 hd13
  go_wp2
  go_ret
  exact ⟨rfl, HB13.out⟩
end Go.Proofs.Ytabeecbcijnhjaa
