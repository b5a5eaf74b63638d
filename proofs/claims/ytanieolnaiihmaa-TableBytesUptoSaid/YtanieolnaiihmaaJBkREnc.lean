/- Blocks: the reference's Encode, walked. -/
import Derived.Test.YtanieolnaiihmaaBkRight
import Derived.Test.YtanieolnaiihmaaBkRef
import Derived.Test.YtanieolnaiihmaaBkShared
import Derived.Test.YtanieolnaiihmaaJBytS
import Derived.Test.YtanieolnaiihmaaBkEnc
import Derived.Deep.RegionHeld3
namespace Go.Proofs.Ytanieolnaiihmaa
open Go.RowKit
/-- The bytes so far, and the version that is written. -/
structure Est (w : World) (base X : Nat) (v : Value) (bs : List UInt8) (x : Ent) : Prop where
  ow : OwnB w base 5 v bs
  xb : w.heap[X]? = some (.cells #[.string x.key, .int .i64 x.seq, .bool x.dead, .string x.val] 41 (0, 0))
section
variable {w w' : World} {base X : Nat} {v v' : Value} {bs bs' : List UInt8} {x : Ent}
theorem Est.lt (h : Est w base X v bs x) : X < w.heap.size := (Array.getElem?_eq_some_iff.1 h.xb).1
theorem Est.apart (h : Est w base X v bs x) : v.ownBlock ≠ some X := by
  rcases h.ow with ⟨rfl, _⟩ | ⟨g, off, cap, cur, fz, rfl, _, hg, _⟩
  · simp [Value.ownBlock]
  · intro e
    simp only [Value.ownBlock, Option.some.injEq] at e
    subst e
    exact cells_ne hg h.xb (by decide) rfl
theorem Est.below (h : Est w base X v bs x) (hb : Below w.heap.size w w') : Est w' base X v bs x :=
  ⟨h.ow.below hb, (hb.block _ h.lt).trans h.xb⟩
theorem Est.step (h : Est w base X v bs x) (ho : OwnB w' base 5 v' bs') (hu : Upd (fun k => v.ownBlock = some k) w w') : Est w' base X v' bs' x :=
  ⟨ho, (hu.block _ h.lt h.apart).trans h.xb⟩
theorem Est.x0 (h : Est w base X v bs x) : w.cell? ⟨X, 0, none⟩ = some (.string x.key) := by rw [cell_of_row w X 0 _ _ _ h.xb]; rfl
theorem Est.x1 (h : Est w base X v bs x) : w.cell? ⟨X, 1, none⟩ = some (.int .i64 x.seq) := by rw [cell_of_row w X 1 _ _ _ h.xb]; rfl
theorem Est.x2 (h : Est w base X v bs x) : w.cell? ⟨X, 2, none⟩ = some (.bool x.dead) := by rw [cell_of_row w X 2 _ _ _ h.xb]; rfl
theorem Est.x3 (h : Est w base X v bs x) : w.cell? ⟨X, 3, none⟩ = some (.string x.val) := by rw [cell_of_row w X 3 _ _ _ h.xb]; rfl
end
theorem below_drew1 {B : Nat} {w w1 : World} (h : Below B w w1) : Below B w w1.drew := ⟨h.os, h.tape, h.output, h.size, h.block⟩
set_option maxHeartbeats 8000000 in
set_option maxRecDepth 20000 in
theorem renc_any (w : World) (A : Option Addr) (n c : Nat) (l : List Ent) (hr : Rd w w.heap.size 4 A n (entv l)) (hn : n ≤ 1099511627776) (hok : ∀ x ∈ l, (-9223372036854775808 ≤ x.seq ∧ x.seq ≤ 9223372036854775807) ∧ x.key.size ≤ 1099511627776 ∧ x.val.size ≤ 1099511627776)
    (hl : (blockB l).length ≤ 140737488355328) :
    Calls Try.prog 55 #[.slice A n c] w fun e w' => e = .returned (.tuple #[.string ⟨(encR l).1.toArray⟩, .int .i64 ((encR l).2 : Int)]) ∧ Below w.heap.size w w' := by
  obtain ⟨i0, hi0, hz0, hz1, hz2⟩ := info_parts u8_info
  have hnl := rd_entlen hr
  have HNL := Lib.hid hnl
  have HR := Lib.hid hr
  have HOK := Lib.hid hok
  have HL := Lib.hid hl
  have i1 : IntKind.u64.wrap (n : Int) = (n : Int) := by rw [IntKind.wrap_u64]; omega
  clear hr hok hl hnl
  go_enter Try.func55, Try.ntmps55
  go_wp2_with fail
  refine (right_any _ A n c l HR.out hn).mono ?_
  rintro e w1 ⟨r, rfl, hri, hb1⟩
  cases r with
  | false =>
    have hR : ¬ rightE l := fun h => by have := hri.2 h; cases this
    have HE := Lib.hid (encR_no hR)
    clear hri hR
    go_wp2
    go_ret2
    rw [HE.out]
    exact ⟨rfl, hb1⟩
  | true =>
    have hRt : rightE l := hri.1 rfl
    have HE := Lib.hid (encR_ok hRt)
    clear hri hRt
    have HB1 := Lib.hid hb1
    clear hb1
    go_wp2_with fail
    refine (rnum_any _ n (by omega)).mono ?_
    rintro e w2 ⟨rfl, hb2⟩
    have hcv := fun w s => run_bytes_of_string (P := Try.prog) w 9 38 5 s Try.underlying9 Try.underlying38 Try.underlying5
    obtain ⟨S, hS⟩ : ∃ S : ByteArray, (⟨(numB n).toArray⟩ : ByteArray) = S := ⟨_, rfl⟩
    rw [hS]
    have hSd : S.data.toList = numB n := by rw [← hS]
    have hSs : S.size ≤ 10 := by
      have h1 : S.data.toList.length = S.size := by simp
      have h2 := numB_len10 n (by omega)
      rw [hSd] at h1
      omega
    have hb2' : Below w.heap.size w w2 := HB1.out.trans (hb2.mono HB1.out.size)
    have hO := OwnB.made w2 S 5 (by unfold maxLen; omega)
    have hB := below_drew1 (hb2'.alloc hb2'.size (.cells (bytesRow S (grownCap w2 S.size 0 5)) 5 ((bytesRow S (grownCap w2 S.size 0 5)).size, (bytesRow S (grownCap w2 S.size 0 5)).size + 1)))
    rw [hSd] at hO
    have HO := Lib.hid (hO.mono hb2'.size)
    have HB := Lib.hid hB
    clear hO hB hS hb2 HB1 hb2' hSd
    go_wp2
    generalize hc1 : grownCap w2 S.size 0 5 = cap at *
    clear hc1 hcv
    change Hid (OwnB (w2.alloc (.cells (bytesRow S cap) 5 ((bytesRow S cap).size, (bytesRow S cap).size + 1))).drew w.heap.size 5 (.slice (some ⟨w2.heap.size, 0, none⟩) S.size cap) (numB n)) at HO
    generalize (w2.alloc (.cells (bytesRow S cap) 5 ((bytesRow S cap).size, (bytesRow S cap).size + 1))).drew = w3 at HO HB ⊢
    go_loopw [19, 4, 5] (fun i v lv wx => ∃ (j : Nat) (last : ByteArray), j ≤ n ∧ i = .int .i64 j ∧ lv = .string last ∧ last.size ≤ 1099511627776 ∧ Hid (last.data.toList = lastK [] (l.take j)) ∧ Hid (OwnB wx w.heap.size 5 v (numB n ++ entsB [] (l.take j))) ∧ Hid (Below w.heap.size w wx)) (fun i _ _ _ => n - (intOf i).toNat)
    case atStart => exact ⟨0, ⟨#[]⟩, Nat.zero_le _, rfl, rfl, by decide, Lib.hid (by simp [lastK]), Lib.hid (by simpa [entsB] using HO.out), HB⟩
    case round =>
      clear HO HB
      obtain ⟨j, last, hj, rfl, rfl, hls, hlk, ho, hb⟩ := hrel
      by_cases hlt : j < n
      · have hsl : j < l.length := by rw [← HNL.out]; exact hlt
        obtain ⟨b, off, rfl, hbB, _, e0, e1, e2, e3⟩ := (HR.out.below hb.out).ent hlt
        have HT := Lib.hid (entsB_take l j hsl)
        have HK := Lib.hid (lastK_take l j hsl)
        have hokx := HOK.out l[j] (List.getElem_mem hsl)
        have hpre := blockB_take_len l (j + 1)
        have hbl := HL.out
        unfold blockB at hbl
        rw [List.length_append, ← HNL.out] at hbl
        rw [entsB_take l j hsl, List.length_append] at hpre
        obtain ⟨x, hx⟩ : ∃ x, l[j] = x := ⟨_, rfl⟩
        rw [hx] at e0 e1 e2 e3 hokx hpre
        simp only [hx] at HT HK
        obtain ⟨⟨hs0, hs1⟩, hks, hvs⟩ := hokx
        have hkl : x.kl.length = x.key.size := by simp [Ent.kl]
        have hvl : x.vl.length = x.val.size := by simp [Ent.vl]
        have hlen := (entB_len (lastK [] (l.take j)) x hs0 hs1 (by omega) (by omega)).2
        have hlc := lcp_le (lastK [] (l.take j)) x.kl
        have hlll : last.data.toList.length = last.size := by simp
        have hlk2 := hlk.out
        rw [← hlk2] at hlen hlc hpre
        simp only [← hlk2] at HT
        obtain ⟨bs, hbs⟩ : ∃ bs, numB n ++ entsB [] (l.take j) = bs := ⟨_, rfl⟩
        have hbsl : bs.length = (numB n).length + (entsB [] (l.take j)).length := by rw [← hbs, List.length_append]
        have HT2 : Hid (numB n ++ entsB [] (l.take (j + 1)) = bs ++ entB last.data.toList x) := Lib.hid (by rw [HT.out, ← List.append_assoc, hbs])
        rw [hbs] at ho
        obtain ⟨m, hm⟩ : ∃ m, lcp last.data.toList x.kl = m := ⟨_, rfl⟩
        rw [hm] at hlen hlc
        have hmk : m ≤ x.key.size := by omega
        have HM := Lib.hid hm
        have hEst : Est (wr.alloc (.cells #[.string x.key, .int .i64 x.seq, .bool x.dead, .string x.val] 41)) w.heap.size wr.heap.size u4 bs x := ⟨ho.out.below ((Below.refl _ _).alloc (Nat.le_refl _) _), heap_alloc_new wr _⟩
        have HE1 := Lib.hid hEst
        have HB1 := Lib.hid (hb.out.alloc hb.out.size (.cells #[.string x.key, .int .i64 x.seq, .bool x.dead, .string x.val] 41))
        have hrs : (x.key.extract m x.key.size).data.toList = x.kl.drop m := ext_drop _ _
        have hrl : (x.key.extract m x.key.size).size = x.key.size - m := by
          have h1 : (x.key.extract m x.key.size).data.toList.length = (x.key.extract m x.key.size).size := by simp
          rw [hrs, List.length_drop] at h1
          omega
        have HRS := Lib.hid hrs
        have HLEN := Lib.hid hlen
        have hE0 : bs.length + (entB last.data.toList x).length ≤ 140737488355328 := by omega
        have HE0 := Lib.hid hE0
        clear hx hpre hbl hlen hlk2 hbs hm hEst ho hb hE0 hrs HT hbsl hlk
        go_upto_region 8 with (fail)
        obtain ⟨X, hX⟩ : ∃ X, wr.heap.size = X := ⟨_, rfl⟩
        rw [hX] at HE1 ⊢
        generalize wr.alloc (.cells #[.string x.key, .int .i64 x.seq, .bool x.dead, .string x.val] 41) = wA at HE1 HB1 ⊢
        clear hX e0 e1 e2 e3
        have x0 := HE1.out.x0
        go_wp2_with fail
        refine (rshared_any wA last x.key (by omega) (by omega)).mono ?_
        rintro e w4 ⟨rfl, hdw⟩
        obtain ⟨dm, rfl⟩ := hdw.out
        clear hdw
        rw [show lcp last.data.toList x.key.data.toList = m from HM.out]
        have hbdr : Below wA.heap.size wA (wA.drewN dm) := ⟨rfl, rfl, rfl, Nat.le_refl _, fun _ _ => rfl⟩
        have HE2 := Lib.hid (HE1.out.below hbdr)
        have HB2 := Lib.hid (HB1.out.trans (hbdr.mono HB1.out.size))
        generalize wA.drewN dm = wB at HE2 HB2 ⊢
        clear HE1 HB1 hbdr x0
        have i2 : IntKind.u64.wrap (m : Int) = (m : Int) := by rw [IntKind.wrap_u64]; omega
        go_wp2_with fail
        refine (rnum_any wB m (by omega)).mono ?_
        rintro e w5 ⟨rfl, hb5⟩
        have HE5 := Lib.hid (HE2.out.below hb5)
        have HB5 := Lib.hid (HB2.out.trans (hb5.mono HB2.out.size))
        have hz5 := HB5.out.size
        have hn1 : (⟨(numB m).toArray⟩ : ByteArray).size = (numB m).length := by show (numB m).toArray.size = _; simp
        have hlen := HLEN.out
        have hE0 := HE0.out
        clear HE2 HB2 hb5
        go_wp2_with (at_builtin; refine wpList_bapps w5 rfl (.tmp 27) (.tmp 30) 38 9 rfl w.heap.size 5 i0 Try.underlying38 Try.underlying9 hi0 hz0 hz1 hz2 _ bs _ rfl (by exact HE5.out.ow) rfl ?c1 ?c2 ?_)
        case c1 => rw [hn1]; omega
        case c2 => exact hz5
        intro v6 w6 ho6 hu6 _
        have ho6 : OwnB w6 w.heap.size 5 v6 (bs ++ numB m) := ho6
        have HE6 := Lib.hid (HE5.out.step ho6 hu6)
        have HB6 := Lib.hid (below_ownB HB5.out hz5 HE5.out.ow (Nat.le_refl _) hu6)
        have x0 := HE6.out.x0
        clear ho6 hu6 HE5 HB5 hz5 hn1 i2
        have hmI : (m : Int) ≤ (x.key.size : Int) := by omega
        go_wp2_with fail
        refine (rtext_any w6 (x.key.extract m x.key.size) (by omega)).mono ?_
        rintro e w7 ⟨rfl, hb7⟩
        rw [HRS.out]
        have HE7 := Lib.hid (HE6.out.below hb7)
        have HB7 := Lib.hid (HB6.out.trans (hb7.mono HB6.out.size))
        have hz7 := HB7.out.size
        have hn2 : (⟨(textB (x.kl.drop m)).toArray⟩ : ByteArray).size = (textB (x.kl.drop m)).length := by show (textB (x.kl.drop m)).toArray.size = _; simp
        clear HE6 HB6 hb7 x0
        go_wp2_with (at_builtin; refine wpList_bapps w7 rfl (.tmp 32) (.tmp 37) 38 9 rfl w.heap.size 5 i0 Try.underlying38 Try.underlying9 hi0 hz0 hz1 hz2 _ (bs ++ numB m) _ rfl (by exact HE7.out.ow) rfl ?d1 ?d2 ?_)
        case d1 => rw [hn2, List.length_append]; omega
        case d2 => exact hz7
        intro v8 w8 ho8 hu8 _
        have ho8 : OwnB w8 w.heap.size 5 v8 (bs ++ numB m ++ textB (x.kl.drop m)) := by simpa only [List.append_assoc] using ho8
        have HE8 := Lib.hid (HE7.out.step ho8 hu8)
        have HB8 := Lib.hid (below_ownB HB7.out hz7 HE7.out.ow (Nat.le_refl _) hu8)
        have x1 := HE8.out.x1
        clear ho8 hu8 HE7 HB7 hz7 hn2
        go_wp2_with fail
        refine (rint_any w8 x.seq hs0 hs1).mono ?_
        rintro e w9 ⟨rfl, hb9⟩
        have HE9 := Lib.hid (HE8.out.below hb9)
        have HB9 := Lib.hid (HB8.out.trans (hb9.mono HB8.out.size))
        have hz9 := HB9.out.size
        have hn3 : (⟨(intB x.seq).toArray⟩ : ByteArray).size = (intB x.seq).length := by show (intB x.seq).toArray.size = _; simp
        clear HE8 HB8 hb9 x1
        go_wp2_with (at_builtin; refine wpList_bapps w9 rfl (.tmp 39) (.tmp 42) 38 9 rfl w.heap.size 5 i0 Try.underlying38 Try.underlying9 hi0 hz0 hz1 hz2 _ (bs ++ numB m ++ textB (x.kl.drop m)) _ rfl (by exact HE9.out.ow) rfl ?f1 ?f2 ?_)
        case f1 => rw [hn3, List.length_append, List.length_append]; omega
        case f2 => exact hz9
        intro v10 w10 ho10 hu10 _
        have ho10 : OwnB w10 w.heap.size 5 v10 (bs ++ numB m ++ textB (x.kl.drop m) ++ intB x.seq) := by simpa only [List.append_assoc] using ho10
        have HE10 := Lib.hid (HE9.out.step ho10 hu10)
        have HB10 := Lib.hid (below_ownB HB9.out hz9 HE9.out.ow (Nat.le_refl _) hu10)
        have x2 := HE10.out.x2
        have hz10 := HB10.out.size
        obtain ⟨L, hL⟩ : ∃ L, bs ++ numB m ++ textB (x.kl.drop m) ++ intB x.seq = L := ⟨_, rfl⟩
        have hLl : L.length = bs.length + (numB m).length + (textB (x.kl.drop m)).length + (intB x.seq).length := by rw [← hL]; simp only [List.length_append]
        have HBS : Hid (bs ++ entB last.data.toList x = L ++ (if x.dead then numB 1 else numB 0 ++ textB x.vl)) := Lib.hid (by
          unfold entB
          rw [HM.out, ← hL]
          simp only [List.append_assoc])
        rw [hL] at HE10
        clear ho10 hu10 HE9 HB9 hz9 hn3 hL
        cases hd : x.dead with
        | true =>
          rw [hd] at x2 hlen HBS
          simp only [if_true] at hlen HBS
          have h1 : numB 1 = [1] := by unfold numB; rfl
          have h1l : (numB 1).length = 1 := by rw [h1]; rfl
          rw [h1] at HBS
          have hE11 := HE10.out.ow
          go_upto_region 13 with (fail)
          go_wp2_with (at_builtin; refine wpList_bpush w10 rfl (.tmp 46) (.tmp 47) 38 rfl w.heap.size 5 i0 Try.underlying38 hi0 hz0 hz1 hz2 _ L [1] #[.int .u8 1] 1 1 rfl rfl rfl (by exact HE10.out.ow) rfl ?g1 ?g2 ?_)
          case g1 => omega
          case g2 => exact hz10
          intro v12 w12 ho12 hu12 _
          have HO12 : Hid (OwnB w12 w.heap.size 5 v12 (numB n ++ entsB [] (l.take (j + 1)))) := Lib.hid (by rw [HT2.out, HBS.out]; exact ho12)
          have HE12 := Lib.hid (HE10.out.step ho12 hu12)
          have HB12 := Lib.hid (below_ownB HB10.out hz10 HE10.out.ow (Nat.le_refl _) hu12)
          have x0 := HE12.out.x0
          clear ho12 hu12 HE10 HB10 hE11 x2
          go_wp2
          go_roundw
          case rel => exact ⟨j + 1, x.key, by omega, by go_num, rfl, hks, Lib.hid (by rw [HK.out]; rfl), HO12, HB12⟩
          case measure => simp [intOf]; omega
        | false =>
          rw [hd] at x2 hlen HBS
          simp only [Bool.false_eq_true, if_false] at hlen HBS
          have h0 : numB 0 = [0] := by unfold numB; rfl
          have h0l : (numB 0).length = 1 := by rw [h0]; rfl
          rw [h0] at HBS
          rw [List.length_append, h0l] at hlen
          have Ed : Est w10.drew w.heap.size X v10 L x := HE10.out.below (w' := w10.drew) ⟨rfl, rfl, rfl, Nat.le_refl _, fun _ _ => rfl⟩
          have Bd : Below w.heap.size w w10.drew := below_drew1 HB10.out
          have Ea : Est (w10.drew.alloc (.cells #[.int .u8 0] 5)) w.heap.size X v10 L x := Ed.below ((Below.refl _ _).alloc (Nat.le_refl _) _)
          have Ba : Below w.heap.size w (w10.drew.alloc (.cells #[.int .u8 0] 5)) := Bd.alloc Bd.size _
          have zd : w10.drew.heap.size = w10.heap.size := rfl
          have Ra : Rd (w10.drew.alloc (.cells #[.int .u8 0] 5)) (w10.drew.alloc (.cells #[.int .u8 0] 5)).heap.size 1 (some ⟨w10.heap.size, 0, none⟩) 1 (bytv [0]) := by
            have h := Rd.new (w := w10.drew) (size := 1) (n := 1) #[.int .u8 0] 5 rfl
            have e : (w10.drew.alloc (.cells #[.int .u8 0] 5)).heap.size = w10.drew.heap.size + 1 := by simp
            rw [e]
            exact h
          have HT : Hid (∀ V, Calls Try.prog 56 #[.string x.val] V fun e w' => e = .returned (.string ⟨(textB x.val.data.toList).toArray⟩) ∧ Below V.heap.size V w') := Lib.hid fun V => rtext_any V x.val (by omega)
          have htv : textB x.val.data.toList = textB x.vl := rfl
          have hn4 : (⟨(textB x.val.data.toList).toArray⟩ : ByteArray).size = (textB x.vl).length := by show (textB x.vl).toArray.size = _; simp
          have HN4 := Lib.hid hn4
          have HLL : Hid (L.length + 1 + (textB x.vl).length ≤ 140737488355328) := Lib.hid (by omega)
          have HBa := Lib.hid Ba
          have HBd := Lib.hid Bd
          clear hn4 hlen hE0 Ba Bd zd HB10 HE10 htv
          go_upto_region 14 with (fail)
          go_region_held3 (fun V => V.cell? ⟨X, 3, none⟩ = some (.string x.val))
            (exact Est.x3 (by first | exact Ed | exact Ea | exact E12 | exact E13 | exact E14 | exact Est.below E12 ((Below.refl _ _).alloc (Nat.le_refl _) _)))
            (first
              | (go_at_call 56
                 refine (HT.out _).mono ?_
                 rintro e w12 ⟨rfl, hb12⟩
                 have E12 := Ed.below hb12
                 have B12 := Lib.hid (HBd.out.trans (hb12.mono HBd.out.size)))
              | (go_at_call 56
                 refine (HT.out _).mono ?_
                 rintro e w12 ⟨rfl, hb12⟩
                 have E12 := Ea.below hb12
                 have R12 := (Ra.below hb12).mono hb12.size
                 have B12 := Lib.hid (HBa.out.trans (hb12.mono HBa.out.size)))
              | (go_at_call 56
                 refine (HT.out _).mono ?_
                 rintro e w12 ⟨rfl, hb12⟩
                 have E12 := E13.below hb12
                 have B12 := Lib.hid (B13.out.trans (hb12.mono B13.out.size)))
              | (refine step_bapp (by rfl) (.tmp 49) (.tmp 50) 38 (by rfl) w.heap.size 5 i0 Try.underlying38 hi0 hz0 hz1 hz2 v10 L (some ⟨w10.heap.size, 0, none⟩) 1 1 _ [0] (by rfl) (by exact Ea.ow) (by rfl) (by exact Ra) (by have := HLL.out; omega) (by exact HBa.out.size) ?_
                 intro v13 w13 ho13 hu13 _
                 have E13 := Ea.step ho13 hu13
                 have B13 := Lib.hid (below_ownB HBa.out HBa.out.size Ea.ow (Nat.le_refl _) hu13))
              | (refine step_bapp (by rfl) (.tmp 49) (.tmp 50) 38 (by rfl) w.heap.size 5 i0 Try.underlying38 hi0 hz0 hz1 hz2 v10 L (some ⟨w10.heap.size, 0, none⟩) 1 1 _ [0] (by rfl) (by exact E12.ow) (by rfl) (by exact R12) (by have := HLL.out; omega) (by exact B12.out.size) ?_
                 intro v13 w13 ho13 hu13 _
                 have E13 := E12.step ho13 hu13
                 have B13 := Lib.hid (below_ownB B12.out B12.out.size E12.ow (Nat.le_refl _) hu13))
              | (refine step_bapp (by rfl) (.tmp 49) (.tmp 50) 38 (by rfl) w.heap.size 5 i0 Try.underlying38 hi0 hz0 hz1 hz2 v10 L (some ⟨w12.heap.size, 0, none⟩) 1 1 _ [0] (by rfl) (by exact (Est.below E12 ((Below.refl _ _).alloc (Nat.le_refl _) _)).ow) (by rfl) (by exact rd_block (heap_alloc_new w12 (.cells #[.int .u8 0] 5)) rfl) (by have := HLL.out; omega) (by exact (Below.alloc B12.out B12.out.size _).size) ?_
                 intro v13 w13 ho13 hu13 _
                 have E13 := (Est.below E12 ((Below.refl _ _).alloc (Nat.le_refl _) _)).step ho13 hu13
                 have B13 := Lib.hid (below_ownB (Below.alloc B12.out B12.out.size _) (Below.alloc B12.out B12.out.size _).size (Est.below E12 ((Below.refl _ _).alloc (Nat.le_refl _) _)).ow (Nat.le_refl _) hu13))
              | (refine step_bapps (by rfl) (.tmp 51) (.tmp 54) 38 9 (by rfl) w.heap.size 5 i0 Try.underlying38 Try.underlying9 hi0 hz0 hz1 hz2 v13 (L ++ [0]) ⟨(textB x.val.data.toList).toArray⟩ (by rfl) (by exact E12.ow) (by rfl) (by rw [HN4.out, List.length_append]; exact HLL.out) (by exact B12.out.size) ?_
                 intro v14 w14 ho14 hu14 _
                 have E14 := E12.step ho14 hu14
                 have B14 := Lib.hid (below_ownB B12.out B12.out.size E12.ow (Nat.le_refl _) hu14))
              | (refine step_bapps (by rfl) (.tmp 51) (.tmp 54) 38 9 (by rfl) w.heap.size 5 i0 Try.underlying38 Try.underlying9 hi0 hz0 hz1 hz2 v13 (L ++ [0]) ⟨(textB x.val.data.toList).toArray⟩ (by rfl) (by exact E13.ow) (by rfl) (by rw [HN4.out, List.length_append]; exact HLL.out) (by exact B13.out.size) ?_
                 intro v14 w14 ho14 hu14 _
                 have E14 := E13.step ho14 hu14
                 have B14 := Lib.hid (below_ownB B13.out B13.out.size E13.ow (Nat.le_refl _) hu14))
              | fail)
          have HO14 : Hid (OwnB w14 w.heap.size 5 v14 (numB n ++ entsB [] (l.take (j + 1)))) := Lib.hid (by
            rw [HT2.out, HBS.out, ← List.append_assoc]
            exact E14.ow)
          have x0 := E14.x0
          clear Ed Ea Ra E13 E12 E14 B13 B12 hu14 ho14 hu13 ho13 hb12 HBa HBd x2
          go_wp2
          go_roundw
          case rel => exact ⟨j + 1, x.key, by omega, by go_num, rfl, hks, Lib.hid (by rw [HK.out]; rfl), HO14, B14⟩
          case measure => simp [intOf]; omega
      · obtain rfl : j = n := by omega
        have hfull : numB j ++ entsB [] (l.take j) = blockB l := by
          rw [List.take_of_length_le (by have := HNL.out; omega)]
          unfold blockB
          rw [← HNL.out]
        rw [hfull] at ho
        have hcs := ho.out.str (P := Try.prog) (src := 38) (dst := 9) Try.underlying38 Try.underlying5 Try.underlying9
        have hlt' : decide ((j : Int) < (j : Int)) = false := decide_eq_false (by omega)
        clear ho hfull
        go_wp2
        go_ret2
        rw [HE.out]
        exact ⟨rfl, hb.out⟩
end Go.Proofs.Ytanieolnaiihmaa
