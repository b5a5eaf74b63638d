/- Tables: the reference's Build, walked. -/
import Derived.Test.YtanieolnaiihmaaJTbBld
import Derived.Test.YtanieolnaiihmaaJTbKeys
import Derived.Test.YtanieolnaiihmaaJBkREnc
import Derived.Test.YtanieolnaiihmaaJBlPlain
namespace Go.Proofs.Ytanieolnaiihmaa
open Go.RowKit
theorem blksV_get (g off c : Nat) (l : List Ent) {k n : Nat} (h : k < n) : (blksV g off c l n)[k]? = some (blkV g off c l k) := by
  unfold blksV
  rw [List.getElem?_map, List.getElem?_range h]; rfl
theorem toB_add (a b : List UInt8) : toB a ++ toB b = toB (a ++ b) := append_lit a b
theorem rd_newT (w : World) (size n : Nat) (cs : Array Value) (t : TypeId) (xs : List Value) (hn : cs.size = n * size) (hx : cs.toList = xs) : Rd (w.alloc (.cells cs t)) (w.alloc (.cells cs t)).heap.size size (some ⟨w.heap.size, 0, none⟩) n xs := by
  have := Rd.new (w := w) (size := size) (n := n) cs t hn
  rw [hx] at this
  simpa using this
theorem strv_cell (l : List ByteArray) : ∀ u ∈ strv l, u.oneCell' = true := by
  intro u hu
  unfold strv at hu
  obtain ⟨x, _, rfl⟩ := List.mem_map.1 hu
  rfl
set_option maxHeartbeats 8000000 in
set_option maxRecDepth 20000 in
theorem rtbuild_any (w : World) (A : Option Addr) (n c : Nat) (l : List Ent) {S : Nat} (hS : S ≤ 1048576) (hok : okE S l) (hr : Rd w w.heap.size 4 A n (entv l)) (hnc : n ≤ c) :
    Calls Try.prog 19 #[.slice A n c] w fun e w' => e = .returned (.tuple #[.string ⟨(bldT l).1.toArray⟩, .int .i64 ((bldT l).2 : Int)]) ∧ Below w.heap.size w w' := by
  obtain ⟨i0, hi0, hz0, hz1, hz2⟩ := info_parts str_info
  have hlen := okE_len hok
  obtain rfl := rd_entlen hr
  have HR := Lib.hid hr
  have HOK := Lib.hid hok
  clear hr hok
  obtain ⟨g, off, hAg⟩ : ∃ g off, 0 < l.length → A = some ⟨g, off, none⟩ := by
    by_cases h0 : 0 < l.length
    · obtain ⟨b, off, e, _⟩ := HR.out.ent h0
      exact ⟨b, off, fun _ => e⟩
    · exact ⟨0, 0, fun h => absurd h h0⟩
  have HAG := Lib.hid hAg
  clear hAg
  go_enter Try.func19, Try.ntmps19
  go_wp2_with fail
  refine (right_any _ A l.length c l HR.out (by omega)).mono ?_
  rintro e w1 ⟨r, rfl, hri, hb1⟩
  cases r with
  | false =>
    have hR : ¬ rightE l := fun h => by have := hri.2 h; cases this
    have HE : Hid (bldT l = ([], 9)) := Lib.hid (if_neg hR)
    clear hri hR
    go_wp2
    go_ret2
    rw [HE.out]
    exact ⟨rfl, hb1⟩
  | true =>
    have hRt : rightE l := hri.1 rfl
    have HRT := Lib.hid hRt
    have HB1 := Lib.hid hb1
    have HR1 := Lib.hid ((HR.out.below hb1).mono hb1.size)
    clear hri hRt hb1
    go_wp2_with fail
    refine (rblocks_any w1 g off c A l HAG.out hnc hlen).mono ?_
    rintro e w2 ⟨v2, rfl, ho2, hb2⟩
    obtain ⟨A2, c2, rfl⟩ := own_shape ho2
    have hp64 : partN l < 18446744073709551616 := by unfold partN; omega
    have hpn : partN l ≤ 200000000000 := by unfold partN; omega
    have HRB2 := Lib.hid (Rd.own ho2)
    have HR2 := Lib.hid ((HR1.out.below hb2).mono hb2.size)
    have HB2 := Lib.hid (HB1.out.trans (hb2.mono HB1.out.size))
    have hwp : IntKind.u64.wrap ((partN l : Nat) : Int) = ((partN l : Nat) : Int) := by rw [IntKind.wrap_u64]; omega
    clear ho2 hb2 HR1 HB1
    go_wp2_with fail
    refine (rnum_any w2 (partN l) hp64).mono ?_
    rintro e w3 ⟨rfl, hb3⟩
    have HRB := Lib.hid ((HRB2.out.below hb3).mono hb3.size)
    have HR3 := Lib.hid ((HR2.out.below hb3).mono hb3.size)
    have HB3 := Lib.hid (HB2.out.trans (hb3.mono HB2.out.size))
    clear hb3 HRB2 HR2 HB2 hwp
    go_wp2
    go_loopw [26, 5, 6, 7] (fun iv pv xv av wx => ∃ k : Nat, k ≤ partN l ∧ iv = .int .i64 (k : Int) ∧ xv = .string (toB (idxE l k)) ∧ av = .int .i64 (atE l k : Int) ∧ Hid (wx.ownsRow w3.heap.size 9 1 pv (paysE l k).length (strv (paysE l k))) ∧ Hid (Below w3.heap.size w3 wx)) (fun iv _ _ _ _ => partN l - (intOf iv).toNat)
    case atStart => exact ⟨0, Nat.zero_le _, rfl, rfl, rfl, Lib.hid (World.ownsRow_nil _ _ _ _), Lib.hid (Below.refl _ _)⟩
    case round =>
      obtain ⟨k, hk, rfl, rfl, rfl, hO, hB⟩ := hrel
      by_cases hlt : k < partN l
      · have hki : (k : Int) < ((partN l : Nat) : Int) := by omega
        have hk0 : (0 : Int) ≤ (k : Int) := by omega
        obtain ⟨ad, e2, hab, hc2⟩ := (HRB.out.below hB.out).at_ (by omega)
        subst e2
        have hcell := hc2 k _ (blksV_get g off c l hlt)
        obtain rfl := HAG.out (by unfold partN at hlt; omega)
        have hrP := rd_part (HR3.out.below hB.out) k
        obtain ⟨P, hP⟩ : ∃ P, partE l k = P := ⟨_, rfl⟩
        have hP8 := partE_len l k
        have hPp := partE_pos hlt
        obtain ⟨o, ho⟩ : ∃ o, off + 8 * k * 4 = o := ⟨_, rfl⟩
        have hch : blkV g off c l k = .slice (some ⟨g, o, none⟩) P.length (c - 8 * k) := by unfold blkV; rw [hP, ho]
        rw [hch] at hcell
        rw [hP] at hP8 hPp hrP
        rw [ho] at hrP
        have hPok : okE S P := by rw [← hP]; exact okE_part HOK.out k
        have hPrt : rightE P := by rw [← hP]; exact part_right HRT.out k
        obtain ⟨d, hd⟩ : ∃ d, P.length = d + 1 := ⟨P.length - 1, by omega⟩
        obtain ⟨hdl, hdk⟩ := last_at hP hd
        obtain ⟨KY, hK⟩ : ∃ KY, lastE l k = KY := ⟨_, rfl⟩
        rw [hK] at hdk
        have hKS : KY.size ≤ S := by rw [← hK]; exact lastE_le HOK.out k
        have hbl := block_le hS (p := P) hPok.1 (by omega)
        have hb8 : P.length * (50 + 2 * S) ≤ 8 * (50 + 2 * 1048576) := Nat.mul_le_mul (by omega) (by omega)
        have henc := renc_any wr (some ⟨g, o, none⟩) P.length (c - 8 * k) P (hrP.mono hB.out.size) (by omega) (fun x hx => ⟨(hPok.1 x hx).1, by have := (hPok.1 x hx).2; omega, by have := (hPok.1 x hx).2; omega⟩) (by omega)
        rw [encR_ok hPrt] at henc
        obtain ⟨Z, hZ⟩ : ∃ Z, toB (blockB P) = Z := ⟨_, rfl⟩
        have hZs : Z.size = (blockB P).length := by rw [← hZ, toB_size]
        change Calls _ _ _ _ (fun e w' => e = .returned (.tuple #[.string (toB (blockB P)), .int .i64 0]) ∧ Below wr.heap.size wr w') at henc
        rw [hZ] at henc
        have HENC := Lib.hid henc
        have HPE := Lib.hid (And.intro hP (And.intro hZ (And.intro ho hK)))
        have HRP := Lib.hid hrP
        have HDK := Lib.hid hdk
        have hZb : Z.size ≤ 100000000 := by omega
        have HZS := Lib.hid hZs
        have hd9 : d ≤ 8 := by omega
        have HD := Lib.hid hd
        have hdi : (P.length : Int) = (d : Int) + 1 := by omega
        have hwd : IntKind.i64.wrap ((P.length : Int) - 1) = (d : Int) := by rw [IntWalk.i64_in _ (by omega)]; omega
        have hd0 : (0 : Int) ≤ (d : Int) := by omega
        have hdz : (d : Int) < (P.length : Int) := by omega
        clear hc2 hP hP8 hPp hch hrP hPok hPrt hdk hK hbl hb8 henc hZ hZs ho hd hdi
        go_wp2_with fail
        refine HENC.out.mono ?_
        rintro e w4 ⟨rfl, hb4⟩
        have hO4 := own_below hO.out hb4
        have HB4 := Lib.hid (hB.out.trans (hb4.mono hB.out.size))
        have hpl := paysE_len l k
        have HRP4 := Lib.hid ((HRP.out.mono hB.out.size).below hb4)
        have HO4 := Lib.hid hO4
        clear hb4 hO hB HENC hcell HRP hO4
        go_wp2_with (at_builtin; refine wpList_push rfl (.tmp 35) (.tmp 37) 22 rfl w3.heap.size 9 i0 _ 1 16 Try.underlying22 hi0 hz0 hz1 hz2 rfl (by omega) _ (paysE l k).length (strv (paysE l k)) #[.string Z] rfl (by exact HO4.out) rfl rfl (by simp [Value.oneCell']) ?k1 ?k2 ?k3 ?_)
        case k1 => omega
        case k2 => unfold maxLen; omega
        case k3 => exact HB4.out.size
        intro v5 w5 ho5 hu5 _
        have HO5 : Hid (w5.ownsRow w3.heap.size 9 1 v5 (paysE l (k + 1)).length (strv (paysE l (k + 1)))) := Lib.hid (by
          have e1 : paysE l (k + 1) = paysE l k ++ [Z] := by rw [paysE_succ]; unfold payE; rw [HPE.out.1, HPE.out.2.1]
          rw [e1, List.length_append, show strv (paysE l k ++ [Z]) = strv (paysE l k) ++ [Value.string Z] by simp [strv], hpl]
          exact ho5)
        have HB5 := Lib.hid (HB4.out.trans (hu5.below (fun q hq e => by have := (HO4.out.lt q e).1; omega) HB4.out.size))
        clear ho5 hu5 HO4 HB4
        have HRP5 : Hid (Rd w5 w3.heap.size 4 (some ⟨g, o, none⟩) P.length (entv P)) := Lib.hid (by
          have := rd_part (HR3.out.below HB5.out) k
          rwa [HPE.out.1, HPE.out.2.2.1] at this)
        have c5 : w5.cell? ⟨g, o + d * 4, none⟩ = some (.string KY) := by
          obtain ⟨_, _, e, _, hs, c0, -, -, -⟩ := HRP5.out.ent (show d < P.length by have := HD.out; omega)
          simp only [Option.some.injEq, Addr.mk.injEq, and_true] at e
          obtain ⟨rfl, rfl⟩ := e
          rw [c0, HDK.out]
        have htx := textB_le KY.data.toList (by show KY.size < _; omega)
        have hkl : KY.data.toList.length = KY.size := rfl
        have hat := atE_max hS HOK.out (Nat.le_of_lt hlt)
        have hat64 : atE l k < 18446744073709551616 := by omega
        have h10 := numB_len10 (atE l k) hat64
        have hix := idxE_max hS HOK.out (Nat.le_of_lt hlt)
        have hwa : IntKind.u64.wrap ((atE l k : Nat) : Int) = ((atE l k : Nat) : Int) := by rw [IntKind.wrap_u64]; omega
        obtain ⟨T1, hT1⟩ : ∃ T, toB (textB KY.data.toList) = T := ⟨_, rfl⟩
        obtain ⟨N1, hN1⟩ : ∃ T, toB (numB (atE l k)) = T := ⟨_, rfl⟩
        obtain ⟨X1, hX1⟩ : ∃ T, toB (idxE l k) = T := ⟨_, rfl⟩
        have hT1s : T1.size = (textB KY.data.toList).length := by rw [← hT1, toB_size]
        have hN1s : N1.size = (numB (atE l k)).length := by rw [← hN1, toB_size]
        have hX1s : X1.size = (idxE l k).length := by rw [← hX1, toB_size]
        have hsm1 : ¬ 9223372036854775807 < T1.size + N1.size := by omega
        have hsm2 : ¬ 9223372036854775807 < X1.size + (T1.size + N1.size) := by omega
        have hsm3 : ¬ 9223372036854775807 < X1.size + T1.size + N1.size := by omega
        have HX : Hid (X1 ++ (T1 ++ N1) = toB (idxE l (k + 1))) := Lib.hid (by
          rw [← hT1, ← hN1, ← hX1, toB_add, toB_add]
          simp only [idxE]
          rw [HPE.out.2.2.2])
        have HTX : Hid (∀ W, Calls Try.prog 56 #[.string KY] W fun e w' => e = .returned (.string T1) ∧ Below W.heap.size W w') := Lib.hid (fun W => by
          rw [← hT1]
          exact rtext_any W KY (by omega))
        have HNX : Hid (∀ W, Calls Try.prog 54 #[.int .u64 (atE l k : Int)] W fun e w' => e = .returned (.string N1) ∧ Below W.heap.size W w') := Lib.hid (fun W => by
          rw [← hN1]
          exact rnum_any W (atE l k) hat64)
        have hw8 : IntKind.i64.wrap (8 + (Z.size : Int)) = 8 + (Z.size : Int) := IntWalk.i64_in _ (by omega)
        have hw9 : IntKind.i64.wrap ((atE l k : Int) + (8 + (Z.size : Int))) = ((atE l (k + 1) : Nat) : Int) := by
          have : atE l (k + 1) = atE l k + (8 + Z.size) := by simp only [atE]; rw [HPE.out.1, HZS.out]
          rw [IntWalk.i64_in _ (by omega)]; omega
        rw [hX1]
        clear htx hkl hat hat64 h10 hix hT1 hN1 hX1 hT1s hN1s hX1s
        go_wp2_with fail
        refine (HTX.out _).mono ?_
        rintro e w6 ⟨rfl, hb6⟩
        go_wp2_with fail
        refine (HNX.out _).mono ?_
        rintro e w7 ⟨rfl, hb7⟩
        have HB7 := Lib.hid (HB5.out.trans (hb6.mono HB5.out.size |>.trans (hb7.mono (Nat.le_trans HB5.out.size hb6.size))))
        have HO7 := Lib.hid (own_below HO5.out (bel hb6 hb7))
        clear hb6 hb7 HB5 HO5 c5
        go_wp2
        go_roundw
        case rel => exact ⟨k + 1, hlt, by go_num, congrArg Value.string HX.out, rfl, HO7, HB7⟩
        case measure => simp [intOf]; omega
      · obtain rfl : k = partN l := by omega
        have hki : ¬ ((partN l : Nat) : Int) < ((partN l : Nat) : Int) := by omega
        have hat := atE_max hS HOK.out (Nat.le_refl (partN l))
        have hix := idxE_max hS HOK.out (Nat.le_refl (partN l))
        have hbn := bldN_le l
        have hft := footE_le hS HOK.out
        have hpl := paysE_len l (partN l)
        have hnm := namesE_len l
        have hat64 : atE l (partN l) < 18446744073709551616 := by omega
        have hwa : IntKind.u64.wrap ((atE l (partN l) : Nat) : Int) = ((atE l (partN l) : Nat) : Int) := by rw [IntKind.wrap_u64]; omega
        have hwl : IntKind.u64.wrap ((l.length : Nat) : Int) = ((l.length : Nat) : Int) := by rw [IntKind.wrap_u64]; omega
        have h10 := numB_len10 (atE l (partN l)) hat64
        have h11 := numB_len10 l.length (by omega)
        have HRW := Lib.hid (HR3.out.below hB.out)
        obtain ⟨N1, hN1⟩ : ∃ T, toB (numB (atE l (partN l))) = T := ⟨_, rfl⟩
        obtain ⟨N2, hN2⟩ : ∃ T, toB (numB l.length) = T := ⟨_, rfl⟩
        have hN1s : N1.size = (numB (atE l (partN l))).length := by rw [← hN1, toB_size]
        have hN2s : N2.size = (numB l.length).length := by rw [← hN2, toB_size]
        have HNX : Hid (∀ W, Calls Try.prog 54 #[.int .u64 (atE l (partN l) : Int)] W fun e w' => e = .returned (.string N1) ∧ Below W.heap.size W w') := Lib.hid (fun W => by
          rw [← hN1]
          exact rnum_any W _ hat64)
        have HNY : Hid (∀ W, Calls Try.prog 54 #[.int .u64 (l.length : Int)] W fun e w' => e = .returned (.string N2) ∧ Below W.heap.size W w') := Lib.hid (fun W => by
          rw [← hN2]
          exact rnum_any W _ (by omega))
        have HF : Hid ((⟨#[84, 82, 77, 49]⟩ : ByteArray) ++ N1 ++ N2 = toB (footE l)) := Lib.hid (by
          rw [← hN1, ← hN2, show (⟨#[84, 82, 77, 49]⟩ : ByteArray) = toB magicB from rfl, toB_add, toB_add]
          unfold footE
          rw [List.append_assoc])
        have hm4 : (⟨#[84, 82, 77, 49]⟩ : ByteArray).size = 4 := rfl
        have hsm1 : ¬ 9223372036854775807 < 4 + N1.size := by omega
        have hsm2 : ¬ 9223372036854775807 < 4 + N1.size + N2.size := by omega
        clear hN1 hN2 hN1s hN2s h10 h11 hat64 hat
        go_wp2_with fail
        refine (HNX.out _).mono ?_
        rintro e w6 ⟨rfl, hb6⟩
        go_wp2_with fail
        refine (HNY.out _).mono ?_
        rintro e w7 ⟨rfl, hb7⟩
        have hb37 := hB.out.trans (hb6.mono hB.out.size |>.trans (hb7.mono (Nat.le_trans hB.out.size hb6.size)))
        have HO7 := Lib.hid (own_below hO.out (bel hb6 hb7))
        have HR7 := Lib.hid ((HR3.out.below hb37).mono hb37.size)
        have HB7 := Lib.hid hb37
        clear hb6 hb7 hO hB HNX HNY hb37 hwa hwl HRW
        go_wp2_with fail
        refine (rkeys_any w7 A l.length c l HR7.out (by omega)).mono ?_
        rintro e w8 ⟨v8, rfl, ho8, hb8⟩
        obtain ⟨A8, c8, rfl⟩ := own_shape ho8
        have HR8 := Lib.hid (Rd.own ho8)
        have HO8 := Lib.hid (own_below HO7.out hb8)
        have HB8 := Lib.hid (HB7.out.trans (hb8.mono HB7.out.size))
        have HNS : Hid (∀ q ∈ namesE l, q.size ≤ maxLen) := Lib.hid (fun q hq => by
          obtain ⟨x, hx, rfl⟩ := namesE_mem q hq
          have := (HOK.out.1 x hx).2.1
          unfold maxLen; omega)
        have HBL := Lib.hid (rbuild_any A8 (namesE l).length c8 (namesE l) w8 (by omega) HR8.out HNS.out)
        rw [rbld_eq] at HBL
        clear ho8 hb8 HO7 HB7 HR8
        go_wp2_with fail
        refine HBL.out.mono ?_
        rintro e w9 ⟨rfl, hb9⟩
        have HO9 := Lib.hid (own_below HO8.out hb9)
        have HB9 := Lib.hid (HB8.out.trans (hb9.mono HB8.out.size))
        have HNN := Lib.hid hnm
        obtain ⟨FT, hFT⟩ : ∃ F, (⟨#[84, 82, 77, 49]⟩ : ByteArray) ++ N1 ++ N2 = F := ⟨_, rfl⟩
        obtain ⟨BL, hBL⟩ : ∃ F, toB (bld (namesE l)) = F := ⟨_, rfl⟩
        obtain ⟨IX, hIX⟩ : ∃ F, toB (idxE l (partN l)) = F := ⟨_, rfl⟩
        have HALL : Hid (paysE l (partN l) ++ [IX, BL, FT] = allP l) := Lib.hid (by
          unfold allP
          rw [← hFT, HF.out, ← hBL, ← hIX])
        change _ = _ at hBL
        rw [hFT, show (⟨(bld (namesE l)).toArray⟩ : ByteArray) = BL from hBL, hIX]
        clear hFT hBL hIX HF hb9 HO8 HB8 HBL hnm hix hbn hft hsm1 hsm2 hm4
        go_wp2_with (at_builtin; refine wpList_app rfl (.tmp 68) (.tmp 74) 22 rfl w3.heap.size 9 i0 _ 1 16 Try.underlying22 hi0 hz0 hz1 hz2 rfl (by omega) _ (paysE l (partN l)).length (strv (paysE l (partN l))) (w9.heap.size + 1) (some ⟨w9.heap.size, 0, none⟩) 3 3 (strv [IX, BL, FT]) rfl (by exact own_below HO9.out ((Below.refl _ _).alloc (Nat.le_refl _) _)) rfl ?p0 (strv_cell _) ?p1 ?p2 ?p3 ?_)
        case p0 => exact (rd_newT _ 1 3 _ _ _ rfl rfl).mono (by simp)
        case p1 => omega
        case p2 => unfold maxLen; omega
        case p3 => have := HB9.out.size; simp; omega
        intro v10 w10 ho10 hu10 _
        have hba := (Below.refl w9.heap.size w9).alloc (Nat.le_refl _) (.cells #[.string IX, .string BL, .string FT] 9)
        have HO10 : Hid (w10.ownsRow w3.heap.size 9 1 v10 (allP l).length (strv (allP l))) := Lib.hid (by
          rw [← HALL.out, List.length_append, show strv (paysE l (partN l) ++ [IX, BL, FT]) = strv (paysE l (partN l)) ++ strv [IX, BL, FT] by simp [strv], hpl]
          exact ho10)
        have HB10 := Lib.hid ((HB9.out.trans (hba.mono HB9.out.size)).trans (hu10.below (fun q hq e => by have := (HO9.out.lt q e).1; omega) (Nat.le_trans HB9.out.size hba.size)))
        obtain ⟨Az, cz, rfl⟩ := own_shape HO10.out
        have HSL := Lib.hid (rseal_any w10 Az (allP l).length cz (allP l) (Rd.own HO10.out) (allP_seal hS HOK.out) (by rw [allP_len]; omega) (allP_size hS HOK.out))
        have HRES : Hid (sealR (allP l) = bldT l) := Lib.hid (by unfold bldT; rw [if_pos HRT.out])
        clear ho10 hu10 hba HO9 HB9 HALL
        go_wp2_with fail
        refine HSL.out.mono ?_
        rintro e wz ⟨rfl, hbz⟩
        rw [HRES.out]
        go_wp2
        go_ret2
        exact ⟨rfl, HB3.out.trans ((HB10.out.trans (hbz.mono HB10.out.size)).mono HB3.out.size)⟩
end Go.Proofs.Ytanieolnaiihmaa
