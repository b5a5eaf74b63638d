/- Matchings: MatchSides, walked. -/
import Derived.Test.YtkhboengcbgooaaMtBox
namespace Go.Proofs.Ytkhboengcbgooaa
open Go.RowKit
theorem edge_info : (Try.prog.info? 26).map (fun i => (i.zero, i.size, i.bytes)) = some (some (.agg #[.int .i64 0, .int .i64 0]), 2, 16) := by kernel_rfl
def turnG (l : List Eg) : List Eg := l.map fun e => (e.2, e.1)
theorem turnG_snoc (l : List Eg) (e : Eg) : turnG (l ++ [e]) = turnG l ++ [(e.2, e.1)] := by simp [turnG]
theorem natE_turn (l : List Eg) : natE (turnG l) = turnE (natE l) := by simp [natE, turnG, turnE, Function.comp_def]
theorem good_turn {n m : Int} {l : List Eg} (h : GoodG n m l) : GoodG m n (turnG l) :=
  ⟨h.2.1, h.1, by have := h.2.2.1; unfold turnG; rw [List.length_map]; exact this, fun e he => by
    obtain ⟨x, hx, rfl⟩ := List.mem_map.1 he
    exact (h.2.2.2 x hx).symm⟩
set_option maxHeartbeats 8000000 in
set_option maxRecDepth 20000 in
theorem msides_any (w : World) (N M : Int) (A : Option Addr) (k c : Nat) (l : List Eg) (hr : Rd w w.heap.size 2 A k (edgv l)) :
    Calls Try.prog 4 #[.agg #[.int .i64 N, .int .i64 M, .slice A k c]] w fun e w' => e = .returned (.bool true) ∧ Below w.heap.size w w' := by
  obtain ⟨i0, hi0, hz0, hz1, hz2⟩ := info_parts edge_info
  have HKL := Lib.hid (rd_edglen hr)
  have HR := Lib.hid hr
  clear hr
  have hG := GBox.made w N M A k c
  have HG := Lib.hid hG
  clear hG
  go_enter Try.func4, Try.ntmps4
  go_wp2_with fail
  refine (mlives_any _).mono ?_
  rintro e w2 ⟨rfl, hb2⟩
  have HG2 := Lib.hid (HG.out.below hb2)
  have c0 := HG2.out.c0
  have c1 := HG2.out.c1
  have c2 := HG2.out.c2
  clear hb2 HG
  go_wp2_with fail
  refine (rright_any w2 N M A k c l (HG2.out.rd HR.out)).mono ?_
  rintro e w3 ⟨r, rfl, hri, hb3⟩
  have HG3 := Lib.hid (HG2.out.below hb3)
  clear hb3 HG2 c0 c1 c2
  cases r with
  | false =>
    clear hri
    go_wp2_with fail
    refine (mlives_any _).mono ?_
    rintro e w4 ⟨rfl, hb4⟩
    have HB := Lib.hid (HG3.out.below hb4).bel
    clear hb4
    go_wp2
    go_ret
    exact ⟨rfl, HB.out⟩
  | true =>
    have hgood := hri.1 rfl
    have hk : k ≤ 4000 := by have := hgood.2.2.1; have := HKL.out; omega
    have HGD := Lib.hid hgood
    have c2 := HG3.out.c2
    have hB := HG3.out.lt
    clear hri hgood
    go_wp2
    go_loopw [26, 3] (fun i tv wx => ∃ j : Nat, j ≤ k ∧ i = .int .i64 j ∧ Hid (wx.ownsRow (w.heap.size + 1) 26 2 tv j (edgv (turnG (l.take j)))) ∧ Hid (GBox w wx N M A k c)) (fun i _ _ => k - (intOf i).toNat)
    case atStart => exact ⟨0, Nat.zero_le _, rfl, Lib.hid (by rw [List.take_zero]; exact World.ownsRow_nil _ _ _ _), HG3⟩
    case round =>
      clear HG3 c2 hB
      obtain ⟨j, hj, rfl, ho, hG⟩ := hrel
      have hB := hG.out.lt
      by_cases hlt : j < k
      · obtain ⟨b, off, rfl, hbB, hsl, e0, e1⟩ := ((HR.out.below hG.out.bel)).edge hlt
        have htk : turnG (l.take (j + 1)) = turnG (l.take j) ++ [(l[j].2, l[j].1)] := by rw [List.take_succ_eq_append_getElem hsl, turnG_snoc]
        obtain ⟨⟨ea, eb⟩, he⟩ : ∃ e, l[j] = e := ⟨_, rfl⟩
        rw [he] at e0 e1 htk
        simp only at e0 e1 htk
        have HTK := Lib.hid htk
        have HG1 := Lib.hid (hG.out.alloc (.cells #[.int .i64 ea, .int .i64 eb] 26))
        have HO1 := Lib.hid (ho.out.alloc (.cells #[.int .i64 ea, .int .i64 eb] 26))
        have hB1 := HG1.out.lt
        have hxr := heap_alloc_new wr (.cells #[.int .i64 ea, .int .i64 eb] 26)
        obtain ⟨A7, c7, rfl⟩ := own_shape ho.out
        clear he htk hG ho
        go_upto_region 7 with (fail)
        generalize wr.alloc (.cells #[.int .i64 ea, .int .i64 eb] 26) = wA at HG1 HO1 hB1 hxr ⊢
        have x0 : wA.cell? ⟨wr.heap.size, 0, none⟩ = some (.int .i64 ea) := by rw [cell_of_row _ _ 0 _ _ _ hxr]; rfl
        have x1 : wA.cell? ⟨wr.heap.size, 1, none⟩ = some (.int .i64 eb) := by rw [cell_of_row _ _ 1 _ _ _ hxr]; rfl
        clear hxr
        go_wp2_with (at_builtin; refine wpList_push rfl (.tmp 30) (.tmp 36) 22 rfl (w.heap.size + 1) 26 i0 _ 2 16 Try.underlying22 hi0 hz0 hz1 hz2 rfl (by omega) _ j _ #[.int .i64 eb, .int .i64 ea] rfl (by exact HO1.out) rfl rfl (by simp [Value.oneCell']) ?c1 ?c2 ?c3 ?_)
        case c1 => omega
        case c2 => unfold maxLen; omega
        case c3 => exact hB1
        intro v8 w8 ho8 hu8 _
        have HO8 : Hid (w8.ownsRow (w.heap.size + 1) 26 2 v8 (j + 1) (edgv (turnG (l.take (j + 1))))) := Lib.hid (by rw [HTK.out, edgv_append, edgv_one]; exact ho8)
        have HG8 := Lib.hid (HG1.out.upd hu8 (fun i hi e => by have := (HO1.out.lt i e).1; omega))
        clear ho8 hu8 HO1 HG1 x0 x1 e0 e1
        go_wp2
        go_roundw
        case rel => exact ⟨j + 1, by omega, by go_num, HO8, HG8⟩
        case measure => simp [intOf]; omega
      · obtain rfl : j = k := by omega
        have ho2 := ho.out
        rw [List.take_of_length_le (by have := HKL.out; omega)] at ho2
        obtain ⟨A7, c7, rfl⟩ := own_shape ho2
        have HRT := Lib.hid (Rd.own ho2)
        have c0 := hG.out.c0
        have c1 := hG.out.c1
        have c2 := hG.out.c2
        clear ho ho2
        go_wp2_with fail
        refine (size_any _ N M A j c l (hG.out.rd HR.out)).mono ?_
        rintro e w5 ⟨(⟨_, nu, hnu, hnl, rfl⟩ | ⟨h, _⟩), hb5⟩
        rotate_left
        · exact absurd HGD.out h
        have HG5 := Lib.hid (hG.out.below hb5)
        have HRT5 := Lib.hid ((HRT.out.below hb5).mono hb5.size)
        have HNU := Lib.hid hnu
        have c0 := HG5.out.c0
        have c1 := HG5.out.c1
        have c2 := HG5.out.c2
        clear hnu hb5 hG HRT
        go_wp2_with fail
        refine (size_any _ M N A7 j c7 (turnG l) HRT5.out).mono ?_
        rintro e w6 ⟨(⟨_, mu, hmu, hml, rfl⟩ | ⟨h, _⟩), hb6⟩
        rotate_left
        · exact absurd (good_turn HGD.out) h
        rw [natE_turn] at hmu
        obtain rfl : mu = nu := hmu.uniq HNU.out.turn
        have HB6 := Lib.hid (HG5.out.below hb6).bel
        clear hmu hb6
        go_wp2
        go_ret
        exact ⟨rfl, HB6.out⟩
end Go.Proofs.Ytkhboengcbgooaa
