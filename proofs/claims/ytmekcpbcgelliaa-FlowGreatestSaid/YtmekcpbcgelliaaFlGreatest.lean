/- Flows: FlowGreatest, walked. -/
import Derived.Test.YtmekcpbcgelliaaFlCheapest
import Derived.Test.YtmekcpbcgelliaaFlCut
import Derived.Test.YtmekcpbcgelliaaIMap
namespace Go.Proofs.Ytmekcpbcgelliaa
open Go.RowKit
theorem Rd.nat {w : World} {B n k : Nat} {A : Option Addr} {T : List Nat} (h : Rd w B 1 A n (natv T)) (hk : k < n) :
    ∃ b off, A = some ⟨b, off, none⟩ ∧ b < B ∧ ∃ hs : k < T.length, w.cell? ⟨b, off + k, none⟩ = some (.int .i64 (T[k] : Int)) := by
  have hs : k < T.length := by have := h.len; rw [natv_length] at this; omega
  obtain ⟨ad, u, e, hb, hu, hc⟩ := h.get hk
  rw [natv_get T k hs] at hu
  injection hu with hu
  subst hu
  obtain ⟨b, off, spot⟩ := ad
  obtain ⟨ad', e', hb', hc'⟩ := h.at_ (by omega)
  rw [e] at e'
  injection e' with e'
  subst e'
  have h0 := hc' 0 _ (natv_get T 0 (by omega))
  have hspot : spot = none := by simpa [Addr.add] using World.cell?_spot h0
  subst hspot
  rw [add_flat] at hc
  exact ⟨b, off, e, hb, hs, hc⟩
attribute [local go_sem] undef in
set_option maxHeartbeats 4000000 in
/-- The map marks just the numbers of T. -/
def InSet (f : Int → Int) (T : List Nat) : Prop := ∀ x : Int, f x = if 0 ≤ x ∧ x.toNat ∈ T then 1 else 0
theorem InSet.nil : InSet (fun _ => 0) [] := fun x => by simp
theorem InSet.put {f : Int → Int} {T : List Nat} (h : InSet f T) (t : Nat) : InSet (fun x => if x = (t : Int) then 1 else f x) (T ++ [t]) := by
  intro x
  show (if x = (t : Int) then (1 : Int) else f x) = _
  rw [h x]
  by_cases e : x = (t : Int)
  · subst e
    simp
  · rw [if_neg e]
    have : (0 ≤ x ∧ x.toNat ∈ T ++ [t]) ↔ (0 ≤ x ∧ x.toNat ∈ T) := by
      rw [List.mem_append, List.mem_singleton]
      constructor
      · rintro ⟨h1, h2 | h2⟩
        · exact ⟨h1, h2⟩
        · omega
      · rintro ⟨h1, h2⟩
        exact ⟨h1, .inl h2⟩
    simp only [this]
theorem InSet.nat {f : Int → Int} {T : List Nat} (h : InSet f T) (x : Nat) : f (x : Int) = if x ∈ T then 1 else 0 := by
  rw [h]
  simp
/-- What crosses, up to the arc number k. -/
def csTo (N : Nw) (T : List Nat) (k : Nat) : Int := sm k fun i => if decide (N.fr i ∈ T) = true ∧ decide (N.to i ∈ T) = false then N.cap i else 0
theorem csTo_bound {N : Nw} {nodes s t : Nat} (hok : NwOk N nodes s t) (T : List Nat) {k : Nat} (hk : k ≤ N.m) : 0 ≤ csTo N T k ∧ csTo N T k ≤ 200 * k := by
  induction k with
  | zero => exact ⟨by simp [csTo, sm], by simp [csTo, sm]⟩
  | succ k ih =>
    have h := ih (by omega)
    have h2 := hok.cap k (by omega)
    unfold csTo at h ⊢
    rw [sm]
    split <;> omega
theorem flow_facts {n s t : Nat} {l : List Ar} {b : Bool} {value cost : Int} {room : List Int} (h : FlowOut n s t l b value cost room) :
    IsFlow (nwOf l) n s t (gi (flL (nwOf l) room)) ∧ - ex (nwOf l) (gi (flL (nwOf l) room)) s = value ∧ MaxIs (nwOf l) n s t value := by
  have hF := h.flow
  have hm := h.max
  simp only [Int.toNat_natCast] at hF hm
  have hc : ∀ i, i < (nwOf l).m → gi (flL (nwOf l) room) i = fl room i := fun i hi => gi_flL hi
  exact ⟨hF.isFlow.congr hc, by rw [ex_congr hc]; exact hF.val.symm, hm⟩
set_option maxHeartbeats 8000000 in
set_option maxRecDepth 20000 in
theorem fgreatest_bad (w : World) (N S T : Int) (A : Option Addr) (k c : Nat) (l : List Ar) (hr : Rd w w.heap.size 4 A k (arv l)) (hbad : ¬ GoodN N S T l) :
    Calls Try.prog 8 #[.agg #[.int .i64 N, .int .i64 S, .int .i64 T, .slice A k c]] w fun e w' => e = .returned (.bool true) ∧ Below w.heap.size w w' := by
  have HR := Lib.hid hr
  have HBD := Lib.hid hbad
  clear hr hbad
  have HG := Lib.hid (NBox.made w N S T A k c)
  go_enter Try.func8, Try.ntmps8
  go_wp2_with fail
  refine (flives_any _).mono ?_
  rintro e w2 ⟨rfl, hb2⟩
  have HG2 := Lib.hid (HG.out.below hb2)
  have c0 := HG2.out.c0
  have c1 := HG2.out.c1
  have c2 := HG2.out.c2
  have c3 := HG2.out.c3
  clear hb2 HG
  go_wp2_with fail
  refine (max_any w2 N S T A k c l (HG2.out.rd HR.out)).mono ?_
  rintro e w3 ⟨v3, er, rfl, hb3, (⟨_, _, _, h, _⟩ | ⟨_, rfl, rfl⟩)⟩
  · exact absurd h.good HBD.out
  have HG3 := Lib.hid (HG2.out.below hb3)
  have c0 := HG3.out.c0
  have c1 := HG3.out.c1
  have c2 := HG3.out.c2
  have c3 := HG3.out.c3
  clear hb3 HG2
  go_wp2_with fail
  refine (value_any w3 N S T A k c l (HG3.out.rd HR.out)).mono ?_
  rintro e w4 ⟨v, er, rfl, hb4, (⟨h, _⟩ | ⟨_, rfl, rfl⟩)⟩
  · exact absurd h HBD.out
  have HG4 := Lib.hid (HG3.out.below hb4)
  have c0 := HG4.out.c0
  have c1 := HG4.out.c1
  have c2 := HG4.out.c2
  have c3 := HG4.out.c3
  clear hb4 HG3
  go_wp2_with fail
  refine (cut_any w4 N S T A k c l (HG4.out.rd HR.out)).mono ?_
  rintro e w5 ⟨v5, er, rfl, hb5, (⟨_, _, h, _⟩ | ⟨_, rfl, rfl⟩)⟩
  · exact absurd h HBD.out
  have HG5 := Lib.hid (HG4.out.below hb5)
  have c0 := HG5.out.c0
  have c1 := HG5.out.c1
  have c2 := HG5.out.c2
  have c3 := HG5.out.c3
  clear hb5 HG4
  go_wp2_with fail
  refine (cheap_any w5 N S T A k c l (HG5.out.rd HR.out)).mono ?_
  rintro e w6 ⟨v6, cost, er, rfl, hb6, (⟨_, _, h, _⟩ | ⟨_, rfl, rfl, rfl⟩)⟩
  · exact absurd h.good HBD.out
  have HG6 := Lib.hid (HG5.out.below hb6)
  have c0 := HG6.out.c0
  have c1 := HG6.out.c1
  have c2 := HG6.out.c2
  have c3 := HG6.out.c3
  clear hb6 HG5
  go_wp2_with fail
  refine (nright_any w6 N S T A k c l (HG6.out.rd HR.out)).mono ?_
  rintro e w7 ⟨r, rfl, hri, hb7⟩
  obtain rfl : r = false := by
    cases r
    · rfl
    · exact absurd (hri.1 rfl) HBD.out
  have HG7 := Lib.hid (HG6.out.below hb7)
  clear hb7 HG6 hri c0 c1 c2 c3
  go_wp2
  go_ret
  exact ⟨rfl, HG7.out.bel⟩
set_option maxHeartbeats 16000000 in
set_option maxRecDepth 20000 in
theorem fgreatest_good (w : World) (n s t : Nat) (A : Option Addr) (k c : Nat) (l : List Ar) (hr : Rd w w.heap.size 4 A k (arv l)) (hg : GoodN n s t l) :
    Calls Try.prog 8 #[.agg #[.int .i64 n, .int .i64 s, .int .i64 t, .slice A k c]] w fun e w' => e = .returned (.bool true) ∧ Below w.heap.size w w' := by
  have hmm := @run_makeMap Try.prog
  have HK := Lib.hid (rd_arlen hr).symm
  have HR := Lib.hid hr
  have HGD := Lib.hid hg
  have hnn := hg.ok.nn
  have hk4 : k ≤ 4000 := by have := hg.2.2.2.2.1; have := HK.out; omega
  clear hr hg
  have HG := Lib.hid (NBox.made w n s t A k c)
  go_enter Try.func8, Try.ntmps8
  go_wp2_with fail
  refine (flives_any _).mono ?_
  rintro e w2 ⟨rfl, hb2⟩
  have HG2 := Lib.hid (HG.out.below hb2)
  have c0 := HG2.out.c0
  have c1 := HG2.out.c1
  have c2 := HG2.out.c2
  have c3 := HG2.out.c3
  clear hb2 HG
  go_wp2_with fail
  refine (max_any w2 n s t A k c l (HG2.out.rd HR.out)).mono ?_
  rintro e w3 ⟨v3, er, rfl, hb3, (⟨value, paid, room, hfo, rfl, hof⟩ | ⟨h, _⟩)⟩
  rotate_left
  · exact absurd HGD.out h
  rw [HK.out] at hof
  obtain ⟨Af, cf, rfl⟩ := own_shape hof
  obtain ⟨f1, f2, f3⟩ := flow_facts hfo
  have HVB := Lib.hid hfo.vb
  have HF1 := Lib.hid f1
  have HF2 := Lib.hid f2
  have HF3 := Lib.hid f3
  have HRF := Lib.hid (Rd.own hof)
  have HG3 := Lib.hid (HG2.out.below hb3)
  have c0 := HG3.out.c0
  have c1 := HG3.out.c1
  have c2 := HG3.out.c2
  have c3 := HG3.out.c3
  clear hb3 HG2 hof hfo f1 f2 f3
  go_wp2_with fail
  refine (value_any w3 n s t A k c l (HG3.out.rd HR.out)).mono ?_
  rintro e w4 ⟨v, er, rfl, hb4, (⟨_, rfl, hmv, hv0, hv1⟩ | ⟨h, _⟩)⟩
  rotate_left
  · exact absurd HGD.out h
  have hok := HGD.out.ok
  simp only [Int.toNat_natCast] at hmv
  obtain rfl : v = value := hmv.uniq hok.ends hok.sn hok.tn hok.st HF3.out
  have HG4 := Lib.hid (HG3.out.below hb4)
  have HRF4 := Lib.hid ((HRF.out.below hb4).mono hb4.size)
  have c0 := HG4.out.c0
  have c1 := HG4.out.c1
  have c2 := HG4.out.c2
  have c3 := HG4.out.c3
  clear hmv hok hb4 HG3 HRF
  go_wp2_with fail
  refine (cut_any w4 n s t A k c l (HG4.out.rd HR.out)).mono ?_
  rintro e w5 ⟨v5, er, rfl, hb5, (⟨vc, T, _, hcut, rfl, hoc⟩ | ⟨h, _⟩)⟩
  rotate_left
  · exact absurd HGD.out h
  simp only [Int.toNat_natCast] at hcut
  have hok := HGD.out.ok
  obtain rfl : v = vc := HF3.out.uniq hok.ends hok.sn hok.tn hok.st hcut.max
  obtain ⟨Ac, cc, rfl⟩ := own_shape hoc
  obtain ⟨p, hp⟩ : ∃ p, T.length = p := ⟨_, rfl⟩
  have hpn : p ≤ n := by
    have h1 := nodup_sub_len (a := T) (b := List.range n) (hcut.rise.imp fun h => Nat.ne_of_lt h) (fun x hx => List.mem_range.2 (hcut.lt x hx))
    rw [List.length_range, hp] at h1
    exact h1
  rw [hp] at hoc ⊢
  have HP := Lib.hid hp
  have HRC := Lib.hid (Rd.own hoc)
  have HCUT := Lib.hid hcut
  have HG5 := Lib.hid (HG4.out.below hb5)
  have HRF5 := Lib.hid ((HRF4.out.below hb5).mono hb5.size)
  have c0 := HG5.out.c0
  have c1 := HG5.out.c1
  have c2 := HG5.out.c2
  have c3 := HG5.out.c3
  clear hcut hok hb5 HG4 HRF4 hoc hp
  go_wp2_with fail
  refine (cheap_any w5 n s t A k c l (HG5.out.rd HR.out)).mono ?_
  rintro e w6 ⟨v6, cost, er, rfl, hb6, (⟨_, _, _, rfl, hoh⟩ | ⟨h, _⟩)⟩
  rotate_left
  · exact absurd HGD.out h
  obtain ⟨Ah, ch, rfl⟩ := own_shape hoh
  have HG6 := Lib.hid (HG5.out.below hb6)
  have HRF6 := Lib.hid ((HRF5.out.below hb6).mono hb6.size)
  have HRC6 := Lib.hid ((HRC.out.below hb6).mono hb6.size)
  have c0 := HG6.out.c0
  have c1 := HG6.out.c1
  have c2 := HG6.out.c2
  have c3 := HG6.out.c3
  clear hb6 HG5 HRF5 HRC hoh
  go_wp2_with fail
  refine (nright_any w6 n s t A k c l (HG6.out.rd HR.out)).mono ?_
  rintro e w7 ⟨r, rfl, hri, hb7⟩
  obtain rfl : r = true := hri.2 HGD.out
  have HG7 := Lib.hid (HG6.out.below hb7)
  have HRF7 := Lib.hid ((HRF6.out.below hb7).mono hb7.size)
  have HRC7 := Lib.hid ((HRC6.out.below hb7).mono hb7.size)
  have c0 := HG7.out.c0
  have c1 := HG7.out.c1
  have c2 := HG7.out.c2
  have c3 := HG7.out.c3
  clear hb7 HG6 hri HRF6 HRC6
  go_wp2_with fail
  refine (rflow_any w7 n s t A k c l Af cf _ (HG7.out.rd HR.out) HRF7.out HGD.out HF1.out).mono ?_
  rintro e w8 ⟨rfl, hb8⟩
  rw [HF2.out]
  have HG8 := Lib.hid (HG7.out.below hb8)
  have HRC8 := Lib.hid ((HRC7.out.below hb8).mono hb8.size)
  have c0 := HG8.out.c0
  have c3 := HG8.out.c3
  clear hb8 HG7 HRF7 HRC7 c1 c2
  have m1 := IMap.made w8
  have ua : Upd (fun _ => False) w8 (w8.alloc (.map #[] 0)) := (Upd.refl _ _).alloc _
  have HM1 := Lib.hid m1
  have HG9 := Lib.hid (HG8.out.alloc (.map #[] 0))
  have HRC9 := Lib.hid (HRC8.out.upd ua (Nat.le_refl _) (fun _ _ _ h => h))
  have hU := HG8.out.lt
  clear m1 ua HRC8
  go_wp2
  generalize w8.alloc (.map #[] 0) = w9 at HM1 HG9 HRC9 ⊢
  generalize w8.heap.size = U at HM1 HRC9 hU ⊢
  clear c0 c3 HG8
  go_loopw [147] (fun i wx => ∃ (j : Nat) (f : Int → Int) (Ks : List Int), j ≤ p ∧ i = .int .i64 j ∧ Hid (IMap wx U j f Ks) ∧ Hid (InSet f (T.take j)) ∧ Hid (NBox w wx n s t A k c) ∧ Hid (Rd wx U 1 Ac p (natv T))) (fun i _ => p - (intOf i).toNat)
  case atStart => exact ⟨0, _, _, Nat.zero_le _, rfl, HM1, Lib.hid InSet.nil, HG9, HRC9⟩
  case round =>
    clear HM1 HG9 HRC9
    obtain ⟨j, f, Ks, hj, rfl, hM1, hin, hG, hRD⟩ := hrel
    have l1 := hM1.out.lt
    by_cases hlt : j < p
    · have c0 := hG.out.c0
      obtain ⟨b, off, rfl, hbU, hjT, d0⟩ := hRD.out.nat hlt
      have htk : T.take (j + 1) = T.take j ++ [T[j]] := List.take_succ_eq_append_getElem hjT
      have hxn := HCUT.out.lt _ (List.getElem_mem hjT)
      obtain ⟨x, hx⟩ : ∃ x, T[j] = x := ⟨_, rfl⟩
      rw [hx] at d0 htk hxn
      have HTK := Lib.hid htk
      have hmap := hM1.out
      have hx1 : decide ((x : Int) < 0) = false := decide_eq_false (by omega)
      have hx2 : decide ((x : Int) ≥ (n : Int)) = false := decide_eq_false (by omega)
      have after : ∀ w8, IMap w8 U (j + 1) (fun y => if y = (x : Int) then 1 else f y) (addK Ks (x : Int)) → Upd (fun k => k = U) wr w8 → Hid (IMap w8 U (j + 1) (fun y => if y = (x : Int) then 1 else f y) (addK Ks (x : Int))) ∧ Hid (InSet (fun y => if y = (x : Int) then 1 else f y) (T.take (j + 1))) ∧ Hid (NBox w w8 n s t A k c) ∧ Hid (Rd w8 U 1 (some ⟨b, off, none⟩) p (natv T)) := by
        intro w8 hm8 hu8
        exact ⟨Lib.hid hm8, Lib.hid (by rw [HTK.out]; exact hin.out.put x), Lib.hid (hG.out.upd hu8 (fun i hi e => by omega)), Lib.hid (hRD.out.upd hu8 (Nat.le_of_lt l1) (fun _ ad e h => by
          injection e with e
          subst e
          simp only at h
          omega))⟩
      have AF := Lib.hid after
      cases j with
      | zero =>
        rw [Nat.add_zero] at d0
        clear htk hx hM1 hG hRD hin after
        go_wp2_with (at_mapUpdate; refine wpList_putI rfl _ _ _ rfl rfl hmap (by unfold maxLen; omega) (q := (x : Int)) (u := 1) rfl rfl (by omega) (by omega) ?_)
        intro w8 hm8 hu8
        obtain ⟨k1, k2, k3, k4⟩ := AF.out w8 hm8 hu8
        clear hm8 hu8 hmap d0 AF
        go_wp2
        go_roundw
        case rel => exact ⟨0 + 1, _, _, by omega, by go_num, k1, k2, k3, k4⟩
        case measure => simp [intOf]; omega
      | succ j =>
        obtain ⟨b', off', hbe, _, hjT', d1⟩ := hRD.out.nat (show j < p by omega)
        injection hbe with hbe
        injection hbe with hb1 hb2
        subst hb1
        subst hb2
        have hrise := List.pairwise_iff_getElem.1 HCUT.out.rise j (j + 1) hjT' hjT (by omega)
        rw [hx] at hrise
        obtain ⟨y, hy⟩ : ∃ y, T[j] = y := ⟨_, rfl⟩
        rw [hy] at hrise d1
        have hyx : decide ((y : Int) ≥ (x : Int)) = false := decide_eq_false (by omega)
        have hgt : decide (((j + 1 : Nat) : Int) > 0) = true := decide_eq_true (by omega)
        have hws : IntKind.i64.wrap (((j + 1 : Nat) : Int) - 1) = (j : Int) := by rw [IntWalk.i64_in _ (by omega)]; omega
        have hjI : (j : Int) < (p : Int) := by omega
        have hn1 : ¬ n ≤ x := by omega
        have hn2 : ¬ x ≤ y := by omega
        have hjp : j < p := by omega
        clear htk hx hy hM1 hG hRD hin after hrise
        go_wp2_with (at_mapUpdate; refine wpList_putI rfl _ _ _ rfl rfl hmap (by unfold maxLen; omega) (q := (x : Int)) (u := 1) rfl rfl (by omega) (by omega) ?_)
        intro w8 hm8 hu8
        obtain ⟨k1, k2, k3, k4⟩ := AF.out w8 hm8 hu8
        clear hm8 hu8 hmap d0 d1 AF
        go_wp2
        go_roundw
        case rel => exact ⟨j + 1 + 1, _, _, by omega, by go_num, k1, k2, k3, k4⟩
        case measure => simp [intOf]; omega
    · obtain rfl : j = p := by omega
      have HIN : Hid (InSet f T) := Lib.hid (by have := hin.out; rwa [List.take_of_length_le (by have := HP.out; omega)] at this)
      have c3 := hG.out.c3
      clear hin hRD
      go_wp2
      go_loopw [179, 18] (fun i sv wx => ∃ q : Nat, q ≤ k ∧ i = .int .i64 q ∧ sv = .int .i64 (csTo (nwOf l) T q) ∧ Hid (IMap wx U j f Ks) ∧ Hid (NBox w wx n s t A k c)) (fun i _ _ => k - (intOf i).toNat)
      case atStart => exact ⟨0, Nat.zero_le _, rfl, rfl, hM1, hG⟩
      case round =>
        clear hM1 hG c3 l1
        obtain ⟨q, hq, rfl, rfl, hM1, hG⟩ := hrel
        by_cases hlt : q < k
        · obtain ⟨b, off, rfl, hbB, hsl, e0, e1, e2, e3⟩ := (HR.out.below hG.out.bel).arc hlt
          obtain ⟨n1, n2, n3, n4⟩ := nw_at hsl
          have hok := HGD.out.ok
          have hqm : q < (nwOf l).m := hsl
          obtain ⟨m1, m2⟩ := hok.ends q hqm
          have hcap := hok.cap q hqm
          have hal := HGD.out.2.2.2.2.2.1 (l[q]'hsl) (List.getElem_mem hsl)
          have a0 : (l[q]'hsl).1 = ((nwOf l).fr q : Int) := by rw [n1]; have := hal.1.1; omega
          have a1 : (l[q]'hsl).2.1 = ((nwOf l).to q : Int) := by rw [n2]; have := hal.2.1.1; omega
          have a2 : (l[q]'hsl).2.2.1 = (nwOf l).cap q := n3.symm
          have a3 : (l[q]'hsl).2.2.2 = (nwOf l).cost q := n4.symm
          have hcs : csTo (nwOf l) T (q + 1) = csTo (nwOf l) T q + (if decide ((nwOf l).fr q ∈ T) = true ∧ decide ((nwOf l).to q ∈ T) = false then (nwOf l).cap q else 0) := rfl
          have hcb := csTo_bound hok T (k := q) (by omega)
          have hfx := HIN.out.nat ((nwOf l).fr q)
          have htx := HIN.out.nat ((nwOf l).to q)
          rw [a0] at e0
          rw [a1] at e1
          rw [a2] at e2
          rw [a3] at e3
          clear hal a0 a1 a2 a3 n1 n2 n3 n4 hok
          generalize (nwOf l).fr q = fr at e0 m1 hcs hfx
          generalize (nwOf l).to q = tv at e1 m2 hcs htx
          generalize (nwOf l).cap q = cap at e2 hcap hcs
          generalize (nwOf l).cost q = co at e3
          obtain ⟨sv, hsv⟩ : ∃ c, csTo (nwOf l) T (q + 1) = c := ⟨_, rfl⟩
          rw [hsv] at hcs
          have HSV := Lib.hid hsv
          clear hsv
          generalize csTo (nwOf l) T q = cv at hcs hcb ⊢
          have ux : Upd (fun _ => False) wr (wr.alloc (.cells #[.int .i64 (fr : Int), .int .i64 (tv : Int), .int .i64 cap, .int .i64 co] 28)) := (Upd.refl _ _).alloc _
          have HM1 := Lib.hid (hM1.out.upd ux (fun h => h))
          have HG1 := Lib.hid (hG.out.alloc (.cells #[.int .i64 (fr : Int), .int .i64 (tv : Int), .int .i64 cap, .int .i64 co] 28))
          have lk := HM1.out.look (q := (fr : Int)) (by omega)
          have lk2 := HM1.out.look (q := (tv : Int)) (by omega)
          have hwc : IntKind.i64.wrap (cv + cap) = cv + cap := IntWalk.i64_in _ (by omega)
          have HCS := Lib.hid hcs
          clear ux hM1 hG hcs
          by_cases a1 : fr ∈ T
          · rw [if_pos a1] at hfx
            rw [hfx] at lk
            by_cases a2 : tv ∈ T
            · rw [if_pos a2] at htx
              rw [htx] at lk2
              have HE : Hid (cv = sv) := Lib.hid (by rw [HCS.out]; simp [a1, a2])
              clear hfx htx a1 a2 hwc
              go_wp2
              go_roundw
              case rel => exact ⟨q + 1, by omega, by go_num, by rw [HSV.out, HE.out], HM1, HG1⟩
              case measure => simp [intOf]; omega
            · rw [if_neg a2] at htx
              rw [htx] at lk2
              have HE : Hid (cv + cap = sv) := Lib.hid (by rw [HCS.out]; simp [a1, a2])
              clear hfx htx a1 a2
              go_wp2
              go_roundw
              case rel => exact ⟨q + 1, by omega, by go_num, by rw [HSV.out, HE.out], HM1, HG1⟩
              case measure => simp [intOf]; omega
          · rw [if_neg a1] at hfx
            rw [hfx] at lk
            have HE : Hid (cv = sv) := Lib.hid (by rw [HCS.out]; simp [a1])
            clear hfx htx a1 hwc lk2
            go_wp2
            go_roundw
            case rel => exact ⟨q + 1, by omega, by go_num, by rw [HSV.out, HE.out], HM1, HG1⟩
            case measure => simp [intOf]; omega
        · obtain rfl : q = k := by omega
          have hcs : csTo (nwOf l) T q = v := by
            rw [← HCUT.out.cut, ← HK.out]
            rfl
          have hok := HGD.out.ok
          have hsn := hok.sn
          have htn := hok.tn
          have lk := hM1.out.look (q := (s : Int)) (by omega)
          have lk2 := hM1.out.look (q := (t : Int)) (by omega)
          rw [HIN.out.nat, if_pos HCUT.out.sin] at lk
          rw [HIN.out.nat, if_neg HCUT.out.tout] at lk2
          rw [hcs]
          have c1 := hG.out.c1
          have c2 := hG.out.c2
          have HBB := Lib.hid hG.out.bel
          clear hM1 hG hcs hok
          go_wp2
          go_ret
          exact ⟨rfl, HBB.out⟩
theorem fgreatest_any (w : World) (N S T : Int) (A : Option Addr) (k c : Nat) (l : List Ar) (hr : Rd w w.heap.size 4 A k (arv l)) :
    Calls Try.prog 8 #[.agg #[.int .i64 N, .int .i64 S, .int .i64 T, .slice A k c]] w fun e w' => e = .returned (.bool true) ∧ Below w.heap.size w w' := by
  by_cases hgood : GoodN N S T l
  · obtain ⟨n, rfl⟩ : ∃ n : Nat, N = n := ⟨N.toNat, by have := hgood.1; omega⟩
    obtain ⟨s, rfl⟩ : ∃ n : Nat, S = n := ⟨S.toNat, by have := hgood.2.1; omega⟩
    obtain ⟨t, rfl⟩ : ∃ n : Nat, T = n := ⟨T.toNat, by have := hgood.2.2.1; omega⟩
    exact fgreatest_good w n s t A k c l hr hgood
  · exact fgreatest_bad w N S T A k c l hr hgood
end Go.Proofs.Ytmekcpbcgelliaa
