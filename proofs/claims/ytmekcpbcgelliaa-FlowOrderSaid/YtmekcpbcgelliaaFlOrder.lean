/- Flows: FlowOrder, walked. -/
import Derived.Test.YtmekcpbcgelliaaFlRCheap
namespace Go.Proofs.Ytmekcpbcgelliaa
open Go.RowKit
theorem rev_at {l : List Ar} {i : Nat} (hi : i < (nwOf l).rev.m) : (nwOf l.reverse).fr i = (nwOf l).rev.fr i ∧ (nwOf l.reverse).to i = (nwOf l).rev.to i ∧ (nwOf l.reverse).cap i = (nwOf l).rev.cap i ∧ (nwOf l.reverse).cost i = (nwOf l).rev.cost i := by
  have hl : i < l.length := hi
  have g : l.reverse.getD i (0, 0, 0, 0) = l.getD (l.length - 1 - i) (0, 0, 0, 0) := by
    rw [List.getD_eq_getElem?_getD, List.getD_eq_getElem?_getD, List.getElem?_reverse hl]
  unfold nwOf Nw.rev
  simp only [g]
  exact ⟨trivial, trivial, trivial, trivial⟩
/-- The same network, up to what lies beyond its arcs. -/
theorem MaxIs.same {N M : Nw} {nodes s t : Nat} {v : Int} (h : MaxIs N nodes s t v) (hm : M.m = N.m) (hfr : ∀ i, i < N.m → M.fr i = N.fr i) (hto : ∀ i, i < N.m → M.to i = N.to i) (hcap : ∀ i, i < N.m → M.cap i = N.cap i) : MaxIs M nodes s t v := by
  obtain ⟨⟨f, hf, e⟩, Z, z1, z2, z3⟩ := h
  have hex : ∀ v, ex M f v = ex N f v := fun v => by
    unfold ex
    rw [hm]
    exact sm_congr fun i hi => by rw [hfr i hi, hto i hi]
  refine ⟨⟨f, ⟨by rw [hm]; exact hf.lo, by rw [hm]; exact fun i hi => by rw [hcap i hi]; exact hf.hi i hi, fun v h1 h2 h3 => by rw [hex]; exact hf.even v h1 h2 h3⟩, by rw [hex]; exact e⟩, Z, z1, z2, ?_⟩
  have : cutCap M Z = cutCap N Z := by
    unfold cutCap
    rw [hm]
    exact sm_congr fun i hi => by rw [hfr i hi, hto i hi, hcap i hi]
  rw [this]
  exact z3
theorem CheapIs.same {N M : Nw} {nodes s t : Nat} {v c : Int} (h : CheapIs N nodes s t v c) (hm : M.m = N.m) (hfr : ∀ i, i < N.m → M.fr i = N.fr i) (hto : ∀ i, i < N.m → M.to i = N.to i) (hcap : ∀ i, i < N.m → M.cap i = N.cap i) (hco : ∀ i, i < N.m → M.cost i = N.cost i) : CheapIs M nodes s t v c := by
  obtain ⟨h1, f, π, hf, e, e2, hp⟩ := h
  have hex : ∀ v, ex M f v = ex N f v := fun v => by
    unfold ex
    rw [hm]
    exact sm_congr fun i hi => by rw [hfr i hi, hto i hi]
  refine ⟨h1.same hm hfr hto hcap, f, π, ⟨by rw [hm]; exact hf.lo, by rw [hm]; exact fun i hi => by rw [hcap i hi]; exact hf.hi i hi, fun v h1 h2 h3 => by rw [hex]; exact hf.even v h1 h2 h3⟩, by rw [hex]; exact e, ?_, ?_⟩
  · rw [← e2]
    unfold costOf
    rw [hm]
    exact sm_congr fun i hi => by rw [hco i hi]
  · unfold Feas
    rw [hm]
    exact fun i hi => by rw [hcap i hi, hco i hi, hfr i hi, hto i hi]; exact hp i hi
theorem max_rev {l : List Ar} {nodes s t : Nat} {v : Int} (h : MaxIs (nwOf l) nodes s t v) : MaxIs (nwOf l.reverse) nodes s t v :=
  h.rev.same (by simp [nwOf, Nw.rev]) (fun _ hi => (rev_at hi).1) (fun _ hi => (rev_at hi).2.1) (fun _ hi => (rev_at hi).2.2.1)
theorem cheap_rev {l : List Ar} {nodes s t : Nat} {v c : Int} (h : CheapIs (nwOf l) nodes s t v c) : CheapIs (nwOf l.reverse) nodes s t v c :=
  h.rev.same (by simp [nwOf, Nw.rev]) (fun _ hi => (rev_at hi).1) (fun _ hi => (rev_at hi).2.1) (fun _ hi => (rev_at hi).2.2.1) (fun _ hi => (rev_at hi).2.2.2)
theorem good_rev {N S T : Int} {l : List Ar} (h : GoodN N S T l) : GoodN N S T l.reverse := by
  obtain ⟨h1, h2, h3, h4, h5, h6, h7⟩ := h
  refine ⟨h1, h2, h3, h4, by simpa using h5, fun a ha => h6 a (by simpa using ha), ?_⟩
  have : outTo l.reverse S.toNat l.reverse.length = outTo l S.toNat l.length := by
    unfold outTo
    rw [List.length_reverse]
    refine (sm_congr fun i hi => ?_).trans (sm_rev l.length fun i => if (nwOf l).fr i = S.toNat then (nwOf l).cap i else 0)
    obtain ⟨r1, r2, r3, r4⟩ := rev_at (l := l) (i := i) hi
    rw [r1, r3]
    rfl
  rw [this]
  exact h7
set_option maxHeartbeats 8000000 in
set_option maxRecDepth 20000 in
theorem forder_any (w : World) (N S T : Int) (A : Option Addr) (k c : Nat) (l : List Ar) (hr : Rd w w.heap.size 4 A k (arv l)) :
    Calls Try.prog 7 #[.agg #[.int .i64 N, .int .i64 S, .int .i64 T, .slice A k c]] w fun e w' => e = .returned (.bool true) ∧ Below w.heap.size w w' := by
  obtain ⟨i0, hi0, hz0, hz1, hz2⟩ := info_parts arc_info
  have HKL := Lib.hid (rd_arlen hr)
  have HR := Lib.hid hr
  clear hr
  have HG := Lib.hid (NBox.made w N S T A k c)
  go_enter Try.func7, Try.ntmps7
  go_wp2_with fail
  refine (flives_any _).mono ?_
  rintro e w2 ⟨rfl, hb2⟩
  have HG2 := Lib.hid (HG.out.below hb2)
  have c0 := HG2.out.c0
  have c1 := HG2.out.c1
  have c2 := HG2.out.c2
  have c3 := HG2.out.c3
  clear hb2 HG
  go_wp2_with fail
  refine (nright_any w2 N S T A k c l (HG2.out.rd HR.out)).mono ?_
  rintro e w3 ⟨r, rfl, hri, hb3⟩
  have HG3 := Lib.hid (HG2.out.below hb3)
  clear hb3 HG2 c0 c1 c2 c3
  cases r with
  | false =>
    clear hri
    go_wp2_with fail
    refine (flives_any _).mono ?_
    rintro e w4 ⟨rfl, hb4⟩
    have HB := Lib.hid (HG3.out.below hb4).bel
    clear hb4
    go_wp2
    go_ret
    exact ⟨rfl, HB.out⟩
  | true =>
    have hgood := hri.1 rfl
    have hk4 : k ≤ 4000 := by have := hgood.2.2.2.2.1; have := HKL.out; omega
    obtain ⟨n, rfl⟩ : ∃ n : Nat, N = n := ⟨N.toNat, by have := hgood.1; omega⟩
    obtain ⟨s, rfl⟩ : ∃ n : Nat, S = n := ⟨S.toNat, by have := hgood.2.1; omega⟩
    obtain ⟨t, rfl⟩ : ∃ n : Nat, T = n := ⟨T.toNat, by have := hgood.2.2.1; omega⟩
    have HGD := Lib.hid hgood
    have c3 := HG3.out.c3
    have hB := HG3.out.lt
    have hws : IntKind.i64.wrap ((k : Int) - 1) = (k : Int) - 1 := IntWalk.i64_in _ (by omega)
    clear hri hgood
    go_wp2
    go_loopw [4, 3] (fun i tv wx => ∃ j : Nat, j ≤ k ∧ i = .int .i64 ((k : Int) - 1 - j) ∧ Hid (wx.ownsRow (w.heap.size + 1) 28 4 tv j (arv (l.reverse.take j))) ∧ Hid (NBox w wx n s t A k c)) (fun i _ _ => (intOf i + 1).toNat)
    case atStart => exact ⟨0, Nat.zero_le _, by simp, Lib.hid (by rw [List.take_zero]; exact World.ownsRow_nil _ _ _ _), HG3⟩
    case round =>
      clear HG3 c3 hB hws
      obtain ⟨j, hj, rfl, ho, hG⟩ := hrel
      have hB := hG.out.lt
      by_cases hlt : j < k
      · obtain ⟨p, hp⟩ : ∃ p : Nat, (k : Int) - 1 - j = p := ⟨k - 1 - j, by omega⟩
        have hpk : p < k := by omega
        obtain ⟨b, off, rfl, hbB, hsl, e0, e1, e2, e3⟩ := ((HR.out.below hG.out.bel)).arc hpk
        have hrl : j < l.reverse.length := by rw [List.length_reverse, ← HKL.out]; exact hlt
        have htk : l.reverse.take (j + 1) = l.reverse.take j ++ [l[p]] := by
          rw [List.take_succ_eq_append_getElem hrl, List.getElem_reverse]
          congr 3
          have := HKL.out
          omega
        obtain ⟨⟨ef, et, ec, ek⟩, he⟩ : ∃ e, l[p] = e := ⟨_, rfl⟩
        rw [he] at e0 e1 e2 e3 htk
        simp only at e0 e1 e2 e3
        have HTK := Lib.hid htk
        have HP := Lib.hid hp
        have c3 := hG.out.c3
        have hpI : (p : Int) < (k : Int) := by omega
        have hwp : IntKind.i64.wrap ((p : Int) - 1) = (k : Int) - 1 - ((j + 1 : Nat) : Int) := by rw [IntWalk.i64_in _ (by omega)]; omega
        rw [hp]
        have HO := Lib.hid ho.out
        obtain ⟨A7, c7, rfl⟩ := own_shape ho.out
        clear he htk ho hp
        go_wp2_with (at_builtin; refine wpList_push rfl (.tmp 41) (.tmp 47) 22 rfl (w.heap.size + 1) 28 i0 _ 4 32 Try.underlying22 hi0 hz0 hz1 hz2 rfl (by omega) _ j _ #[.int .i64 ef, .int .i64 et, .int .i64 ec, .int .i64 ek] rfl (by exact HO.out) rfl rfl (by simp [Value.oneCell']) ?c1 ?c2 ?c3 ?_)
        case c1 => omega
        case c2 => unfold maxLen; omega
        case c3 => exact hB
        intro v8 w8 ho8 hu8 _
        have HO8 : Hid (w8.ownsRow (w.heap.size + 1) 28 4 v8 (j + 1) (arv (l.reverse.take (j + 1)))) := Lib.hid (by rw [HTK.out, arv_append, arv_one]; exact ho8)
        have HG8 := Lib.hid (hG.out.upd hu8 (fun i hi e => by have := (HO.out.lt i e).1; omega))
        clear ho8 hu8 HO hG e0 e1 e2 e3 c3
        go_wp2
        go_roundw
        case rel => exact ⟨j + 1, by omega, rfl, HO8, HG8⟩
        case measure =>
          have := HP.out
          simp only [intOf]
          omega
      · obtain rfl : j = k := by omega
        have ho2 := ho.out
        rw [List.take_of_length_le (by rw [List.length_reverse]; have := HKL.out; omega)] at ho2
        obtain ⟨A7, c7, rfl⟩ := own_shape ho2
        have HRT := Lib.hid (Rd.own ho2)
        have c0 := hG.out.c0
        have c1 := hG.out.c1
        have c2 := hG.out.c2
        have c3 := hG.out.c3
        have hneg : decide ((j : Int) - 1 - (j : Int) ≥ 0) = false := decide_eq_false (by omega)
        clear ho ho2
        go_wp2_with fail
        refine (value_any wr n s t A j c l (hG.out.rd HR.out)).mono ?_
        rintro e w5 ⟨a, er, rfl, hb5, (⟨_, rfl, hma, ha0, ha1⟩ | ⟨h, _⟩)⟩
        rotate_left
        · exact absurd HGD.out h
        simp only [Int.toNat_natCast] at hma
        have HG5 := Lib.hid (hG.out.below hb5)
        have HRT5 := Lib.hid ((HRT.out.below hb5).mono hb5.size)
        have HMA := Lib.hid hma
        have c0 := HG5.out.c0
        have c1 := HG5.out.c1
        have c2 := HG5.out.c2
        clear hma hb5 hG HRT c3 hneg
        go_wp2_with fail
        refine (value_any w5 n s t A7 j c7 l.reverse HRT5.out).mono ?_
        rintro e w6 ⟨b, er, rfl, hb6, (⟨_, rfl, hmb, hb0, hb1⟩ | ⟨h, _⟩)⟩
        rotate_left
        · exact absurd (good_rev HGD.out) h
        have hok2 := (good_rev HGD.out).ok
        simp only [Int.toNat_natCast] at hmb
        obtain rfl : b = a := hmb.uniq hok2.ends hok2.sn hok2.tn hok2.st (max_rev HMA.out)
        have HG6 := Lib.hid (HG5.out.below hb6)
        have HRT6 := Lib.hid ((HRT5.out.below hb6).mono hb6.size)
        have c0 := HG6.out.c0
        have c1 := HG6.out.c1
        have c2 := HG6.out.c2
        have c3 := HG6.out.c3
        have HOK2 := Lib.hid hok2
        clear hmb hb6 HG5 HRT5 hok2
        go_wp2_with fail
        refine (cheap_any w6 n s t A j c l (HG6.out.rd HR.out)).mono ?_
        rintro e w7 ⟨v7, x, er, rfl, hb7, (⟨va, ra, hfa, rfl, hoa⟩ | ⟨h, _⟩)⟩
        rotate_left
        · exact absurd HGD.out h
        obtain ⟨B7, d7, rfl⟩ := own_shape hoa
        have hca := hfa.cheap rfl
        simp only [Int.toNat_natCast] at hca
        have HG7 := Lib.hid (HG6.out.below hb7)
        have HRT7 := Lib.hid ((HRT6.out.below hb7).mono hb7.size)
        have HCA := Lib.hid hca
        have c0 := HG7.out.c0
        have c1 := HG7.out.c1
        have c2 := HG7.out.c2
        clear hfa hoa hb7 HG6 HRT6 c3 hca
        go_wp2_with fail
        refine (cheap_any w7 n s t A7 j c7 l.reverse HRT7.out).mono ?_
        rintro e w8 ⟨v8, y, er, rfl, hb8, (⟨vb, rb, hfb, rfl, hob⟩ | ⟨h, _⟩)⟩
        rotate_left
        · exact absurd (good_rev HGD.out) h
        obtain ⟨B8, d8, rfl⟩ := own_shape hob
        have hcb := hfb.cheap rfl
        simp only [Int.toNat_natCast] at hcb
        obtain ⟨_, rfl⟩ := hcb.uniq HOK2.out.ends HOK2.out.sn HOK2.out.tn HOK2.out.st (cheap_rev HCA.out)
        have HG8 := Lib.hid (HG7.out.below hb8)
        have c0 := HG8.out.c0
        have c1 := HG8.out.c1
        have c2 := HG8.out.c2
        have c3 := HG8.out.c3
        clear hfb hob hb8 HG7 hcb
        go_wp2_with fail
        refine (rcheap_any w8 n s t A j c l (HG8.out.rd HR.out) HGD.out).mono ?_
        rintro e w9 ⟨A9, c9, vr, cr, rfl, hcr, hb9⟩
        have hok := HGD.out.ok
        obtain ⟨rfl, rfl⟩ := hcr.uniq hok.ends hok.sn hok.tn hok.st HCA.out
        obtain rfl : vr = b := hcr.1.uniq hok.ends hok.sn hok.tn hok.st HMA.out
        have HG9 := Lib.hid (HG8.out.below hb9)
        clear hcr hb9 HG8 hok c0 c1 c2 c3
        go_wp2
        all_goals go_ret
        all_goals exact ⟨rfl, HG9.out.bel⟩
end Go.Proofs.Ytmekcpbcgelliaa
