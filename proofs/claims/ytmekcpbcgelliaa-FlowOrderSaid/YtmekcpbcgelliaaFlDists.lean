/- Flows: the reference's dists, walked. -/
import Derived.Test.YtmekcpbcgelliaaFlRound
namespace Go.Proofs.Ytmekcpbcgelliaa
open Go.RowKit
/-- A distance, and by which arc, as dists keeps them. -/
def cvd (x : Int) : Int := if x < FAR then x else 1000000000
def cvb (x : Int) : Int := if x < 0 then 0 else if x % 2 = 0 then x / 2 else -1 - x / 2
theorem cvb_even (j : Nat) : cvb ((2 * j : Nat) : Int) = (j : Int) := by
  unfold cvb
  rw [if_neg (by omega), if_pos (by omega)]
  omega
theorem cvb_odd (j : Nat) : cvb ((2 * j + 1 : Nat) : Int) = -1 - (j : Int) := by
  unfold cvb
  rw [if_neg (by omega), if_neg (by omega)]
  omega
theorem gi_map {f : Int → Int} {l : List Int} {v : Nat} (h : v < l.length) : gi (l.map f) v = f (gi l v) := by
  rw [gi_get (by simpa using h), gi_get h]
  simp
theorem map_set (f : Int → Int) (l : List Int) (i : Nat) (a : Int) : (l.set i a).map f = (l.map f).set i (f a) := by rw [List.map_set]
section
variable {N : Nw} {room : List Int} {s nodes : Nat} {π : Nat → Int} {by_ di : List Int}
/-- What can stand in d. -/
theorem DInv.cv (hf : WFix N true room s nodes π) (h : DInv N room s nodes π by_ di) {v : Nat} (hv : v < nodes) : gi (di.map cvd) v = cvd (gi di v) ∧ ((gi di v < FAR ∧ cvd (gi di v) = gi di v ∧ 0 ≤ gi di v ∧ gi di v ≤ 199000) ∨ (¬ gi di v < FAR ∧ gi di v = FAR ∧ cvd (gi di v) = 1000000000)) := by
  refine ⟨gi_map (by have := h.ld; show v < di.length; have h' : di.length = nodes := h.ld; omega), ?_⟩
  by_cases e : gi di v < FAR
  · have h1 : π v ≤ gi di v := h.pot v hv e
    have h2 : gi di v ≤ 1000 * ((metc di nodes : Int) - 1) := h.up v hv e
    have := hf.p0 v hv
    have := metc_le di nodes
    have := hf.nn
    exact .inl ⟨e, if_pos e, by omega, by omega⟩
  · have h1 : gi di v = FAR ∧ _ := h.unm v hv e
    exact .inr ⟨e, h1.1, if_neg e⟩
end
/-- Nothing was lowered so far. -/
def NoCh (X : Rlx) (D : List Int) (b : Bool) (q : Nat) (d : List Int) : Prop := b = false → d = D ∧ ∀ i, i < q → ¬ X.can D i
theorem NoCh.start (X : Rlx) (D : List Int) (b : Bool) : NoCh X D b 0 D := fun _ => ⟨rfl, fun i hi => by omega⟩
theorem NoCh.skip {X : Rlx} {D d : List Int} {b : Bool} {q : Nat} (h : NoCh X D b q d) (hn : ¬ X.can d q) : NoCh X D b (q + 1) d := fun hb => by
  obtain ⟨h1, h2⟩ := h hb
  refine ⟨h1, fun i hi => ?_⟩
  by_cases e : i = q
  · rw [e, ← h1]; exact hn
  · exact h2 i (by omega)
/-- Two rows of numbers, and an arc in its box. -/
structure DBx (w V : World) (O B E : Nat) (ov bv : List Int) (fr tv cap cost : Int) : Prop where
  d : FBx w V O E ov fr tv cap cost
  b : FBx w V B E bv fr tv cap cost
  ne : O ≠ B
section
variable {w V V' : World} {O B E : Nat} {ov bv : List Int} {fr tv cap cost : Int}
theorem DBx.drew (h : DBx w V O B E ov bv fr tv cap cost) : DBx w V.drew O B E ov bv fr tv cap cost := ⟨h.d.drew, h.b.drew, h.ne⟩
theorem DBx.drewN (h : DBx w V O B E ov bv fr tv cap cost) (n : Nat) : DBx w (V.drewN n) O B E ov bv fr tv cap cost := ⟨h.d.drewN n, h.b.drewN n, h.ne⟩
theorem DBx.setD (h : DBx w V O B E ov bv fr tv cap cost) (k : Nat) (v : Int) : DBx w (V.setCell ⟨O, k, none⟩ (.int .i64 v)) O B E (ov.set k v) bv fr tv cap cost := by
  have hu : Upd (fun b => b = O) V (V.setCell ⟨O, k, none⟩ (.int .i64 v)) := (Upd.refl (fun b => b = O) V).setCell ⟨O, k, none⟩ rfl _
  have h1 := h.d.set k v
  exact ⟨h1, ⟨h.b.ints.upd hu (fun e => h.ne e.symm), h1.box, h1.bel, h.b.ne, h.b.lo⟩, h.ne⟩
theorem DBx.setB (h : DBx w V O B E ov bv fr tv cap cost) (k : Nat) (v : Int) : DBx w (V.setCell ⟨B, k, none⟩ (.int .i64 v)) O B E ov (bv.set k v) fr tv cap cost := by
  have hu : Upd (fun b => b = B) V (V.setCell ⟨B, k, none⟩ (.int .i64 v)) := (Upd.refl (fun b => b = B) V).setCell ⟨B, k, none⟩ rfl _
  have h1 := h.b.set k v
  exact ⟨⟨h.d.ints.upd hu (fun e => h.ne e), h1.box, h1.bel, h.d.ne, h.d.lo⟩, h1, h.ne⟩
theorem DBx.made (hI : Ints V O ov) (hJ : Ints V B bv) (hb : Below w.heap.size w V) (hlo : w.heap.size ≤ O) (hlb : w.heap.size ≤ B) (hne : O ≠ B) (fr tv cap cost : Int) : DBx w (V.alloc (.cells #[.int .i64 fr, .int .i64 tv, .int .i64 cap, .int .i64 cost] 28)) O B V.heap.size ov bv fr tv cap cost :=
  ⟨FBx.made hI hb hlo fr tv cap cost, FBx.made hJ hb hlb fr tv cap cost, hne⟩
end
/-- What dists leaves. -/
structure DistOk (w w' : World) (l : List Ar) (nodes s : Nat) (room : List Int) (O B : Nat) (di by_ : List Int) : Prop where
  imd : Ints w' O (di.map cvd)
  imb : Ints w' B (by_.map cvb)
  lo : w.heap.size ≤ O ∧ w.heap.size ≤ B
  end_ : WEnd (nwOf l) true room s nodes ⟨by_, di, List.replicate nodes 0, []⟩
  cv : ∀ v, v < nodes → gi (di.map cvd) v = cvd (gi di v) ∧ ((gi di v < FAR ∧ cvd (gi di v) = gi di v ∧ 0 ≤ gi di v ∧ gi di v ≤ 199000) ∨ (¬ gi di v < FAR ∧ gi di v = FAR ∧ cvd (gi di v) = 1000000000))
  ld : di.length = nodes
  bel : Below w.heap.size w w'
set_option maxHeartbeats 16000000 in
set_option maxRecDepth 20000 in
theorem rdists_any (w : World) (nodes s t : Nat) (A : Option Addr) (k c : Nat) (l : List Ar) (Af : Option Addr) (cf : Nat) (fv room : List Int) (π : Nat → Int) (hr : Rd w w.heap.size 4 A k (arv l)) (hrf : Rd w w.heap.size 1 Af k (fv.map (Value.int .i64)))
    (hg : GoodN nodes s t l) (hrm : RoomOk (nwOf l) room) (hfv : ∀ i, i < k → gi fv i = fl room i) (hf : WFix (nwOf l) true room s nodes π) :
    Calls Try.prog 24 #[.int .i64 nodes, .int .i64 s, .slice A k c, .slice Af k cf] w fun e w' => ∃ O B di by_, e = .returned (.tuple #[.slice (some ⟨O, 0, none⟩) nodes nodes, .slice (some ⟨B, 0, none⟩) nodes nodes]) ∧ DistOk w w' l nodes s room O B di by_ := by
  have hok := hg.ok
  have hkl := rd_arlen hr
  have hnn := hok.nn
  have hsn := hok.sn
  have hmm : (nwOf l).m = k := hkl.symm
  have hk4 : k ≤ 4000 := by have := hok.mm; omega
  have hmk := fun w => mkints w nodes (by omega)
  have HALL : Hid (∀ a ∈ l, okA nodes a) := Lib.hid hg.2.2.2.2.2.1
  have HKL := Lib.hid hkl
  have HMM := Lib.hid hmm
  have HOK := Lib.hid hok
  have HR := Lib.hid hr
  have HRF := Lib.hid hrf
  have HRM := Lib.hid hrm
  have HFV := Lib.hid hfv
  have HF := Lib.hid hf
  obtain ⟨X, hX⟩ : ∃ X, rlxOf (nwOf l) room = X := ⟨_, rfl⟩
  have HJ : Hid (X.J = 2 * k) := Lib.hid (by rw [← hX]; show 2 * (nwOf l).m = _; rw [hmm])
  obtain ⟨d0, hd0⟩ : ∃ d0, (List.replicate nodes FAR).set s 0 = d0 := ⟨_, rfl⟩
  have hd0l : d0.length = nodes := by rw [← hd0]; simp
  have hDS : DInv (nwOf l) room s nodes π (List.replicate nodes (-1)) d0 := hd0 ▸ DInv.start hf
  have HDONE : Hid (X.fix (X.rnd d0 nodes)) := Lib.hid (by
    rw [← hX]
    refine rlxOf_done hok.ends hf.feas hf.p0 hd0l (fun v hv => ?_)
    rcases (hDS.cv hf hv).2 with h | h
    · exact h.2.2.1
    · rw [h.2.1]; decide)
  have HDS := Lib.hid hDS
  have hI0 := made_ints w nodes
  have hB0 : Below w.heap.size w (w.alloc (.cells (Array.replicate nodes (Value.int .i64 0)) 3)) := (Below.refl w.heap.size w).alloc (Nat.le_refl _) _
  have hz : (w.alloc (.cells (Array.replicate nodes (Value.int .i64 0)) 3)).heap.size = w.heap.size + 1 := by simp
  have hI1 := made_ints (w.alloc (.cells (Array.replicate nodes (Value.int .i64 0)) 3)) nodes
  rw [hz] at hI1
  have hu1 : Upd (fun _ => False) (w.alloc (.cells (Array.replicate nodes (Value.int .i64 0)) 3)) ((w.alloc (.cells (Array.replicate nodes (Value.int .i64 0)) 3)).alloc (.cells (Array.replicate nodes (Value.int .i64 0)) 3)) := (Upd.refl _ _).alloc _
  have HI0 := Lib.hid (hI0.upd hu1 (fun h => h))
  have HI1 := Lib.hid hI1
  have HB0 := Lib.hid (hB0.alloc hB0.size (.cells (Array.replicate nodes (Value.int .i64 0)) 3))
  have HX := Lib.hid hX
  have HD0 := Lib.hid hd0
  clear hg hok hkl hmm hr hrf hI0 hI1 hB0 hrm hfv hX hd0 hd0l hf hDS hu1
  go_enter Try.func24, Try.ntmps24
  go_wp2
  generalize (w.alloc (.cells (Array.replicate nodes (Value.int .i64 0)) 3)).alloc (.cells (Array.replicate nodes (Value.int .i64 0)) 3) = w0 at HI0 HI1 HB0 ⊢
  obtain ⟨O, hO⟩ : ∃ O, w.heap.size = O := ⟨_, rfl⟩
  have HO := Lib.hid hO
  rw [hO] at HI0 HI1 ⊢
  clear hO hmk hz
  go_loopw [23] (fun i wx => ∃ (j : Nat) (ov : List Int), j ≤ nodes ∧ i = .int .i64 j ∧ Hid (ov.length = nodes ∧ ∀ v, v < j → gi ov v = 1000000000) ∧ Hid (Ints wx O ov) ∧ Hid (Ints wx (O + 1) (List.replicate nodes 0)) ∧ Hid (Below w.heap.size w wx)) (fun i _ => nodes - (intOf i).toNat)
  case atStart => exact ⟨0, _, Nat.zero_le _, rfl, Lib.hid ⟨by simp, fun v hv => by omega⟩, HI0, HI1, HB0⟩
  case round =>
    clear HI0 HI1 HB0
    obtain ⟨j, ov, hj, rfl, hov, hI, hJ, hb⟩ := hrel
    by_cases hlt : j < nodes
    · have o0 := hI.out.cell (k := j) (by rw [hov.out.1]; exact hlt)
      have f0 := hI.out.free j
      have hjI : (j : Int) < (nodes : Int) := by omega
      have hu : Upd (fun b => b = O) wr (wr.setCell ⟨O, j, none⟩ (.int .i64 1000000000)) := (Upd.refl (fun b => b = O) wr).setCell ⟨O, j, none⟩ rfl _
      have hI2 := Lib.hid (hI.out.set j 1000000000)
      have hJ2 := Lib.hid (hJ.out.upd hu (by omega))
      have hb2 := Lib.hid (hb.out.trans (hu.below (fun i hi e => by have := HO.out; omega) hb.out.size))
      have hov2 : Hid ((ov.set j 1000000000).length = nodes ∧ ∀ v, v < j + 1 → gi (ov.set j 1000000000) v = 1000000000) := Lib.hid ⟨by rw [List.length_set]; exact hov.out.1, fun v hv => by
        rw [gi_set (by rw [hov.out.1]; exact hlt)]
        split
        · rfl
        · exact hov.out.2 v (by omega)⟩
      clear hI hJ hb hu hov
      go_wp2
      go_roundw
      case rel => exact ⟨j + 1, _, by omega, by go_num, hov2, hI2, hJ2, hb2⟩
      case measure => simp [intOf]; omega
    · obtain rfl : j = nodes := by omega
      have hovE : ov.set s 0 = d0.map cvd := by
        rw [← HD0.out, map_set]
        have e1 : ov = (List.replicate j FAR).map cvd := by
          refine List.ext_getElem (by simp [hov.out.1]) fun v h1 h2 => ?_
          have := hov.out.2 v (by rw [hov.out.1] at h1; exact h1)
          rw [gi_get h1] at this
          rw [this]
          simp
          decide
        rw [← e1]
        rfl
      have hbvE : (List.replicate j (0 : Int)) = (List.replicate j (-1 : Int)).map cvb := by rw [List.map_replicate]; rfl
      have hu : Upd (fun b => b = O) wr (wr.setCell ⟨O, s, none⟩ (.int .i64 0)) := (Upd.refl (fun b => b = O) wr).setCell ⟨O, s, none⟩ rfl _
      have hI2 : Hid (Ints (wr.setCell ⟨O, s, none⟩ (.int .i64 0)) O (d0.map cvd)) := Lib.hid (by rw [← hovE]; exact hI.out.set s 0)
      have hJ2 : Hid (Ints (wr.setCell ⟨O, s, none⟩ (.int .i64 0)) (O + 1) ((List.replicate j (-1 : Int)).map cvb)) := Lib.hid (by rw [← hbvE]; exact hJ.out.upd hu (by omega))
      have hb2 := Lib.hid (hb.out.trans (hu.below (fun i hi e => by have := HO.out; omega) hb.out.size))
      have o0 := hI.out.cell (k := s) (by rw [hov.out.1]; exact hsn)
      have f0 := hI.out.free s
      have hsI : (s : Int) < (j : Int) := by omega
      clear hI hJ hb hu hov hovE hbvE
      go_wp2
      generalize wr.setCell ⟨O, s, none⟩ (.int .i64 0) = w1 at hI2 hJ2 hb2 ⊢
      clear o0 f0
      go_loopw [14, 13] (fun rv mv wx => ∃ (r : Nat) (b : Bool) (by_ : List Int), r ≤ j ∧ rv = .int .i64 r ∧ mv = .bool b ∧ Hid (b = false → X.fix (X.rnd d0 r)) ∧ Hid (DInv (nwOf l) room s j π by_ (X.rnd d0 r)) ∧ Hid (Ints wx O ((X.rnd d0 r).map cvd)) ∧ Hid (Ints wx (O + 1) (by_.map cvb)) ∧ Hid (Below w.heap.size w wx)) (fun rv _ _ => j - (intOf rv).toNat)
      case atStart => exact ⟨0, true, _, Nat.zero_le _, rfl, rfl, Lib.hid (fun h => by cases h), HDS, hI2, hJ2, hb2⟩
      case round =>
        clear hI2 hJ2 hb2
        obtain ⟨r, b, by_, hr, rfl, rfl, hfx, hDI, hI, hJ, hb⟩ := hrel
        by_cases hgo : r < j ∧ b = true
        · obtain ⟨hrj, rfl⟩ := hgo
          have hrI : (r : Int) < (j : Int) := by omega
          obtain ⟨D, hD⟩ : ∃ D, X.rnd d0 r = D := ⟨_, rfl⟩
          have HD := Lib.hid hD
          rw [hD] at hI hDI
          clear hD hfx
          go_wp2
          go_loopw [43, 13] (fun i mv wx => ∃ (q : Nat) (b : Bool) (by_ : List Int), q ≤ k ∧ i = .int .i64 q ∧ mv = .bool b ∧ Hid (NoCh X D b (2 * q) (X.to D (2 * q))) ∧ Hid (DInv (nwOf l) room s j π by_ (X.to D (2 * q))) ∧ Hid (Ints wx O ((X.to D (2 * q)).map cvd)) ∧ Hid (Ints wx (O + 1) (by_.map cvb)) ∧ Hid (Below w.heap.size w wx)) (fun i _ _ => k - (intOf i).toNat)
          case atStart => exact ⟨0, false, by_, Nat.zero_le _, rfl, rfl, Lib.hid (NoCh.start _ _ _), hDI, hI, hJ, hb⟩
          case round =>
            clear hI hJ hb hDI
            clear by_
            obtain ⟨q, b, by_, hq, rfl, rfl, hm, hDI, hI, hJ, hb⟩ := hrel
            by_cases hlt : q < k
            · obtain ⟨bq, off, rfl, hbB, hsl, e0, e1, e2, e3⟩ := (HR.out.below hb.out).arc hlt
              obtain ⟨bf, of, rfl, hbF, hsf, x0⟩ := HRF.out.int hlt
              obtain ⟨n1, n2, n3, n4⟩ := nw_at hsl
              obtain ⟨m1, m2⟩ := HOK.out.ends q (by rw [HMM.out]; exact hlt)
              have hne := HOK.out.self q (by rw [HMM.out]; exact hlt)
              have hcap := HOK.out.cap q (by rw [HMM.out]; exact hlt)
              have hco := HOK.out.cost q (by rw [HMM.out]; exact hlt)
              have hrt := HRM.out.two q (by rw [HMM.out]; exact hlt)
              have hfx := HFV.out q hlt
              unfold fl at hfx
              have hal := HALL.out l[q] (List.getElem_mem hsl)
              have a0 : l[q].1 = ((nwOf l).fr q : Int) := by rw [n1]; have := hal.1.1; omega
              have a1 : l[q].2.1 = ((nwOf l).to q : Int) := by rw [n2]; have := hal.2.1.1; omega
              have a2 : l[q].2.2.1 = (nwOf l).cap q := n3.symm
              have a3 : l[q].2.2.2 = (nwOf l).cost q := n4.symm
              rw [a0] at e0
              rw [a1] at e1
              rw [a2] at e2
              rw [a3] at e3
              have V1 := (hDI.out.cv HF.out m1)
              have V2 := (hDI.out.cv HF.out m2)
              have hdl : (X.to D (2 * q)).length = j := hDI.out.ld
              have hbl : by_.length = j := hDI.out.lb
              have e20 : (2 * q) % 2 = 0 := by omega
              have e21 : 2 * q / 2 = q := by omega
              have o20 : ¬ (2 * q + 1) % 2 = 0 := by omega
              have o21 : (2 * q + 1) / 2 = q := by omega
              have can1 : X.can (X.to D (2 * q)) (2 * q) ↔ gi fv q < (nwOf l).cap q ∧ gi (X.to D (2 * q)) ((nwOf l).fr q) < FAR ∧ gi (X.to D (2 * q)) ((nwOf l).fr q) + (nwOf l).cost q < gi (X.to D (2 * q)) ((nwOf l).to q) := by
                rw [← HX.out]
                unfold Rlx.can rlxOf rfr rto rc
                simp only [if_pos e20, e21, decide_eq_true_eq]
                rw [show (0 < gi room (2 * q)) ↔ gi fv q < (nwOf l).cap q by omega]
              have T1 : X.can (X.to D (2 * q)) (2 * q) → X.to D (2 * q + 1) = (X.to D (2 * q)).set ((nwOf l).to q) (gi (X.to D (2 * q)) ((nwOf l).fr q) + (nwOf l).cost q) ∧ DInv (nwOf l) room s j π (by_.set ((nwOf l).to q) ((2 * q : Nat) : Int)) ((X.to D (2 * q)).set ((nwOf l).to q) (gi (X.to D (2 * q)) ((nwOf l).fr q) + (nwOf l).cost q)) := fun h => by
                refine ⟨?_, ?_⟩
                · rw [← HX.out] at h ⊢
                  exact rlx_step_even h
                · rw [← HX.out] at h
                  have := hDI.out.step HF.out (j := 2 * q) (by rw [HMM.out]; omega) (by rw [HX.out] at h ⊢; exact h)
                  unfold rto rfr rc at this
                  simp only [if_pos e20, e21] at this
                  exact this
              have K1 : ¬ X.can (X.to D (2 * q)) (2 * q) → X.to D (2 * q + 1) = X.to D (2 * q) ∧ NoCh X D b (2 * q + 1) (X.to D (2 * q)) := fun h => ⟨if_neg h, hm.out.skip h⟩
              have can2 : ∀ by2, DInv (nwOf l) room s j π by2 (X.to D (2 * q + 1)) → (X.can (X.to D (2 * q + 1)) (2 * q + 1) ↔ 0 < gi fv q ∧ gi (X.to D (2 * q + 1)) ((nwOf l).to q) < FAR ∧ gi (X.to D (2 * q + 1)) ((nwOf l).to q) - (nwOf l).cost q < gi (X.to D (2 * q + 1)) ((nwOf l).fr q)) ∧
                  (X.can (X.to D (2 * q + 1)) (2 * q + 1) → X.to D (2 * (q + 1)) = (X.to D (2 * q + 1)).set ((nwOf l).fr q) (gi (X.to D (2 * q + 1)) ((nwOf l).to q) - (nwOf l).cost q) ∧ DInv (nwOf l) room s j π (by2.set ((nwOf l).fr q) ((2 * q + 1 : Nat) : Int)) ((X.to D (2 * q + 1)).set ((nwOf l).fr q) (gi (X.to D (2 * q + 1)) ((nwOf l).to q) - (nwOf l).cost q))) := fun by2 h2 => by
                refine ⟨?_, fun h => ⟨?_, ?_⟩⟩
                · rw [← HX.out]
                  unfold Rlx.can rlxOf rfr rto rc
                  simp only [if_neg o20, o21, decide_eq_true_eq]
                  rw [← hfx]
                  exact Iff.rfl
                · rw [← HX.out] at h ⊢
                  exact rlx_step_odd h
                · rw [← HX.out] at h h2
                  have := h2.step HF.out (j := 2 * q + 1) (by rw [HMM.out]; omega) h
                  unfold rto rfr rc at this
                  simp only [if_neg o20, o21] at this
                  rw [HX.out] at this
                  exact this
              have K2 : ∀ b2, NoCh X D b2 (2 * q + 1) (X.to D (2 * q + 1)) → ¬ X.can (X.to D (2 * q + 1)) (2 * q + 1) → X.to D (2 * (q + 1)) = X.to D (2 * q + 1) ∧ NoCh X D b2 (2 * (q + 1)) (X.to D (2 * q + 1)) := fun b2 h2 h => ⟨if_neg h, h2.skip h⟩
              have hno1 := V1.1
              have hno2 := V2.1
              obtain ⟨D1, hD1⟩ : ∃ d, X.to D (2 * q) = d := ⟨_, rfl⟩
              obtain ⟨D2, hD2⟩ : ∃ d, X.to D (2 * q + 1) = d := ⟨_, rfl⟩
              obtain ⟨D3, hD3⟩ : ∃ d, X.to D (2 * (q + 1)) = d := ⟨_, rfl⟩
              rw [hD1] at V1 V2 hno1 hno2 hdl hDI hI hm can1 T1 K1
              rw [hD2] at T1 K1 can2 K2
              simp only [hD3] at can2 K2
              have HD3 := Lib.hid hD3
              clear hD1 hD2 hD3 e20 e21 o20 o21 hal a0 a1 a2 a3 n1 n2 n3 n4 hrt hfx
              generalize X.can D1 (2 * q) = C1 at can1 T1 K1
              generalize X.can D2 (2 * q + 1) = C2 at can2 K2
              generalize (nwOf l).fr q = fr at e0 hne m1 can1 can2 T1 V1 hno1
              generalize (nwOf l).to q = tv at e1 hne m2 can1 can2 T1 V2 hno2
              generalize (nwOf l).cap q = cap at e2 can1 hcap
              generalize (nwOf l).cost q = co at e3 hco can1 can2 T1
              generalize gi fv q = x at x0 can1 can2
              obtain ⟨y1, hy1⟩ : ∃ y, cvd (gi D1 fr) = y := ⟨_, rfl⟩
              obtain ⟨y2, hy2⟩ : ∃ y, cvd (gi D1 tv) = y := ⟨_, rfl⟩
              rw [hy1] at V1 hno1
              rw [hy2] at V2 hno2
              have HC1 : Hid (C1 ↔ (x < cap ∧ y1 < 1000000000 ∧ y1 + co < y2)) := Lib.hid (by
                rw [can1]
                have v1 := V1.2
                have v2 := V2.2
                unfold FAR at v1 v2 ⊢
                rcases v1 with v1 | v1 <;> rcases v2 with v2 | v2 <;> constructor <;> intro h <;> refine ⟨h.1, ?_, ?_⟩ <;> omega)
              have HT1 : Hid (C1 → ∃ by2, (D1.map cvd).set tv (y1 + co) = D2.map cvd ∧ (by_.map cvb).set tv (q : Int) = by2.map cvb ∧ DInv (nwOf l) room s j π by2 D2) := Lib.hid (fun h => by
                obtain ⟨t1, t2⟩ := T1 h
                have hF := (can1.1 h).2.1
                have v1 := V1.2.resolve_right (fun h' => h'.1 hF)
                refine ⟨by_.set tv ((2 * q : Nat) : Int), ?_, ?_, by rw [t1]; exact t2⟩
                · rw [t1, map_set]
                  congr 1
                  rw [v1.2.1]
                  unfold cvd
                  rw [if_pos (by have := v1.2.2; unfold FAR; omega)]
                · rw [map_set, cvb_even])
              have HK1 : Hid (¬ C1 → D2 = D1 ∧ NoCh X D b (2 * q + 1) D1) := Lib.hid K1
              have HY1 : Hid (y1 < 1000000000 → 0 ≤ y1 ∧ y1 ≤ 199000) := Lib.hid (fun h => by
                rcases V1.2 with v | v
                · omega
                · omega)
              have HCAN2 := Lib.hid can2
              have HK2 := Lib.hid K2
              have hdl2 : (D1.map cvd).length = j := by rw [List.length_map]; exact hdl
              have hbl2 : (by_.map cvb).length = j := by rw [List.length_map]; exact hbl
              have HN := Lib.hid (And.intro hno1 hno2)
              clear can1 can2 T1 K1 K2 V1 V2 hy1 hy2 hno1 hno2
              have HB := Lib.hid (DBx.made hI.out hJ.out hb.out (by have := HO.out; omega) (by have := HO.out; omega) (by omega) fr tv cap co)
              have X0 : Hid (w.cell? ⟨bf, of + q, none⟩ = some (.int .i64 x)) := Lib.hid x0
              clear hI hJ hb x0
              go_upto_region 17 with (fail)
              obtain ⟨E, hE⟩ : ∃ E, wr.heap.size = E := ⟨_, rfl⟩
              rw [hE] at HB ⊢
              generalize wr.alloc (.cells #[.int .i64 (fr : Int), .int .i64 (tv : Int), .int .i64 cap, .int .i64 co] 28) = w1 at HB ⊢
              clear hE e0 e1 e2 e3
              have hfrI : (fr : Int) < (j : Int) := by omega
              have htvI : (tv : Int) < (j : Int) := by omega
              have hqI : (q : Int) < (k : Int) := by omega
              obtain ⟨q1, hq1⟩ : ∃ z : Bool, (z = true ↔ C1) := by
                by_cases h : C1
                · exact ⟨true, fun _ => h, fun _ => rfl⟩
                · exact ⟨false, (fun h' => by cases h'), fun h' => absurd h' h⟩
              have HQ1 := Lib.hid hq1
              clear hq1
              go_cut [78] (fun v wc => v = .bool q1 ∧ Hid (DBx w wc O (O + 1) E (D1.map cvd) (by_.map cvb) fr tv cap co))
              case first =>
                have c2 := HB.out.d.c2
                have d0 := HB.out.d.arg hbF X0.out
                have no1 : ¬ (x < cap ∧ y1 < 1000000000 ∧ y1 + co < y2) → q1 = false := fun h => by
                  cases hq : q1
                  · rfl
                  · exact absurd (HC1.out.1 (HQ1.out.1 hq)) h
                have NO1 := Lib.hid no1
                clear no1
                by_cases p1 : x < cap
                · have g1 : decide (x < cap) = true := decide_eq_true p1
                  have c0 := HB.out.d.c0
                  have d1 := HB.out.d.ints.cell (k := fr) (by omega)
                  rw [HN.out.1] at d1
                  by_cases p2 : y1 < 1000000000
                  · have g2 : decide (y1 < 1000000000) = true := decide_eq_true p2
                    have c1 := HB.out.d.c1
                    have c3 := HB.out.d.c3
                    have d2 := HB.out.d.ints.cell (k := tv) (by omega)
                    rw [HN.out.2] at d2
                    have hw1 : IntKind.i64.wrap (y1 + co) = y1 + co := IntWalk.i64_in _ (by have := HY1.out p2; omega)
                    by_cases p3 : y1 + co < y2
                    · have g3 : decide (y1 + co < y2) = true := decide_eq_true p3
                      obtain rfl : q1 = true := HQ1.out.2 (HC1.out.2 ⟨p1, p2, p3⟩)
                      go_quiet (fail)
                      go_wp2
                      go_meet
                      case rel => exact ⟨rfl, Lib.hid (HB.out.drewN _)⟩
                    · have g3 : decide (y1 + co < y2) = false := decide_eq_false p3
                      obtain rfl : q1 = false := NO1.out (fun h => p3 h.2.2)
                      go_quiet (fail)
                      go_wp2
                      go_meet
                      case rel => exact ⟨rfl, Lib.hid (HB.out.drewN _)⟩
                  · have g2 : decide (y1 < 1000000000) = false := decide_eq_false p2
                    obtain rfl : q1 = false := NO1.out (fun h => p2 h.2.1)
                    go_quiet (fail)
                    go_wp2
                    go_meet
                    case rel => exact ⟨rfl, Lib.hid (HB.out.drewN _)⟩
                · have g1 : decide (x < cap) = false := decide_eq_false p1
                  obtain rfl : q1 = false := NO1.out (fun h => p1 h.1)
                  go_quiet (fail)
                  go_wp2
                  go_meet
                  case rel => exact ⟨rfl, Lib.hid (HB.out.drewN _)⟩
              case rest =>
                obtain ⟨rfl, HBc⟩ := hcut
                clear HB
                go_step
                go_cut [13] (fun mv wc => ∃ (b' : Bool) (by2 : List Int), mv = .bool b' ∧ Hid (NoCh X D b' (2 * q + 1) D2) ∧ Hid (DInv (nwOf l) room s j π by2 D2) ∧ Hid (DBx w wc O (O + 1) E (D2.map cvd) (by2.map cvb) fr tv cap co))
                case first =>
                  cases q1 with
                  | true =>
                    have hcan := HQ1.out.1 rfl
                    obtain ⟨by2, t1, t2, t3⟩ := HT1.out hcan
                    have hy := HY1.out (HC1.out.1 hcan).2.1
                    have hw1 : IntKind.i64.wrap (y1 + co) = y1 + co := IntWalk.i64_in _ (by omega)
                    have c0 := HBc.out.d.c0
                    have c1 := HBc.out.d.c1
                    have c3 := HBc.out.d.c3
                    have d1 := HBc.out.d.ints.cell (k := fr) (by omega)
                    rw [HN.out.1] at d1
                    have HT1' := Lib.hid t1
                    have HT2' := Lib.hid t2
                    have HT3' := Lib.hid t3
                    clear hcan t1 t2 t3
                    go_upto_region 18 with (fail)
                    go_still_tail 12, (by kernel_rfl)
                    change wpList _ _ _ _ _ wc.drew
                    have HX3 := Lib.hid HBc.out.drew
                    clear HBc c0 c1 c3 d1 hw1
                    generalize wc.drew = w3 at HX3 ⊢
                    have f0 := HX3.out.d.ints.free tv
                    have o0 := HX3.out.d.ints.cell (k := tv) (by omega)
                    have HX4 : Hid (DBx w (w3.setCell ⟨O, tv, none⟩ (.int .i64 (y1 + co))) O (O + 1) E (D2.map cvd) (by_.map cvb) fr tv cap co) := Lib.hid (by rw [← HT1'.out]; exact HX3.out.setD tv (y1 + co))
                    clear HX3
                    go_upto_region 19 with (fail)
                    generalize w3.setCell ⟨O, tv, none⟩ (.int .i64 (y1 + co)) = w4 at HX4 ⊢
                    clear f0 o0
                    have c1 := HX4.out.d.c1
                    have f0 := HX4.out.b.ints.free tv
                    have o0 := HX4.out.b.ints.cell (k := tv) (by omega)
                    have HX5 : Hid (DBx w (w4.setCell ⟨O + 1, tv, none⟩ (.int .i64 (q : Int))) O (O + 1) E (D2.map cvd) (by2.map cvb) fr tv cap co) := Lib.hid (by rw [← HT2'.out]; exact HX4.out.setB tv (q : Int))
                    clear HX4
                    go_wp2
                    go_meet
                    case rel => exact ⟨true, by2, rfl, Lib.hid (fun h => by cases h), HT3', HX5⟩
                  | false =>
                    have hk := HK1.out (fun h => by have := HQ1.out.2 h; cases this)
                    obtain ⟨rfl, hk2⟩ := hk
                    have HK2' := Lib.hid hk2
                    clear hk2
                    go_wp2
                    go_meet
                    case rel => exact ⟨b, by_, rfl, HK2', hDI, HBc⟩
                case rest =>
                  obtain ⟨b', by2, rfl, hm', hDI2, HBd⟩ := hcut
                  clear HBc hm hDI
                  obtain ⟨can2, T2⟩ := HCAN2.out by2 hDI2.out
                  have K2 := HK2.out b' hm'.out
                  have V1 := hDI2.out.cv HF.out m1
                  have V2 := hDI2.out.cv HF.out m2
                  have hdl3 : (D2.map cvd).length = j := by rw [List.length_map]; exact hDI2.out.ld
                  have hbl3 : (by2.map cvb).length = j := by rw [List.length_map]; exact hDI2.out.lb
                  have hno1 := V1.1
                  have hno2 := V2.1
                  clear HCAN2 HK2 HN HY1 HC1 HT1 HK1 HQ1
                  obtain ⟨z1, hz1⟩ : ∃ y, cvd (gi D2 fr) = y := ⟨_, rfl⟩
                  obtain ⟨z2, hz2⟩ : ∃ y, cvd (gi D2 tv) = y := ⟨_, rfl⟩
                  rw [hz1] at V1 hno1
                  rw [hz2] at V2 hno2
                  have HC2 : Hid (C2 ↔ (0 < x ∧ z2 < 1000000000 ∧ z2 - co < z1)) := Lib.hid (by
                    rw [can2]
                    have v1 := V1.2
                    have v2 := V2.2
                    unfold FAR at v1 v2 ⊢
                    rcases v1 with v1 | v1 <;> rcases v2 with v2 | v2 <;> constructor <;> intro h <;> refine ⟨h.1, ?_, ?_⟩ <;> omega)
                  have HT2 : Hid (C2 → ∃ by3, (D2.map cvd).set fr (z2 - co) = D3.map cvd ∧ (by2.map cvb).set fr (-1 - (q : Int)) = by3.map cvb ∧ DInv (nwOf l) room s j π by3 D3) := Lib.hid (fun h => by
                    obtain ⟨t1, t2⟩ := T2 h
                    have hF := (can2.1 h).2.1
                    have v2 := V2.2.resolve_right (fun h' => h'.1 hF)
                    refine ⟨by2.set fr ((2 * q + 1 : Nat) : Int), ?_, ?_, by rw [t1]; exact t2⟩
                    · rw [t1, map_set]
                      congr 1
                      rw [v2.2.1]
                      unfold cvd
                      rw [if_pos (by have := v2.2.2; unfold FAR; omega)]
                    · rw [map_set, cvb_odd])
                  have HK2 : Hid (¬ C2 → D3 = D2 ∧ NoCh X D b' (2 * (q + 1)) D2) := Lib.hid K2
                  have HY2 : Hid (z2 < 1000000000 → 0 ≤ z2 ∧ z2 ≤ 199000) := Lib.hid (fun h => by
                    rcases V2.2 with v | v
                    · omega
                    · omega)
                  have HN := Lib.hid (And.intro hno1 hno2)
                  clear can2 T2 K2 V1 V2 hz1 hz2 hno1 hno2
                  obtain ⟨q2, hq2⟩ : ∃ z : Bool, (z = true ↔ C2) := by
                    by_cases h : C2
                    · exact ⟨true, fun _ => h, fun _ => rfl⟩
                    · exact ⟨false, (fun h' => by cases h'), fun h' => absurd h' h⟩
                  have HQ2 := Lib.hid hq2
                  clear hq2
                  go_upto_region 21 with (fail)
                  go_cut [124] (fun v wc => v = .bool q2 ∧ Hid (DBx w wc O (O + 1) E (D2.map cvd) (by2.map cvb) fr tv cap co))
                  case first =>
                    have d0 := HBd.out.d.arg hbF X0.out
                    have no1 : ¬ (0 < x ∧ z2 < 1000000000 ∧ z2 - co < z1) → q2 = false := fun h => by
                      cases hq : q2
                      · rfl
                      · exact absurd (HC2.out.1 (HQ2.out.1 hq)) h
                    have NO1 := Lib.hid no1
                    clear no1
                    by_cases p1 : 0 < x
                    · have g1 : decide (x > 0) = true := decide_eq_true p1
                      have c1 := HBd.out.d.c1
                      have d1 := HBd.out.d.ints.cell (k := tv) (by omega)
                      rw [HN.out.2] at d1
                      by_cases p2 : z2 < 1000000000
                      · have g2 : decide (z2 < 1000000000) = true := decide_eq_true p2
                        have c0 := HBd.out.d.c0
                        have c3 := HBd.out.d.c3
                        have d2 := HBd.out.d.ints.cell (k := fr) (by omega)
                        rw [HN.out.1] at d2
                        have hw1 : IntKind.i64.wrap (z2 - co) = z2 - co := IntWalk.i64_in _ (by have := HY2.out p2; omega)
                        by_cases p3 : z2 - co < z1
                        · have g3 : decide (z2 - co < z1) = true := decide_eq_true p3
                          obtain rfl : q2 = true := HQ2.out.2 (HC2.out.2 ⟨p1, p2, p3⟩)
                          go_quiet (fail)
                          go_wp2
                          go_meet
                          case rel => exact ⟨rfl, Lib.hid (HBd.out.drewN _)⟩
                        · have g3 : decide (z2 - co < z1) = false := decide_eq_false p3
                          obtain rfl : q2 = false := NO1.out (fun h => p3 h.2.2)
                          go_quiet (fail)
                          go_wp2
                          go_meet
                          case rel => exact ⟨rfl, Lib.hid (HBd.out.drewN _)⟩
                      · have g2 : decide (z2 < 1000000000) = false := decide_eq_false p2
                        obtain rfl : q2 = false := NO1.out (fun h => p2 h.2.1)
                        go_quiet (fail)
                        go_wp2
                        go_meet
                        case rel => exact ⟨rfl, Lib.hid (HBd.out.drewN _)⟩
                    · have g1 : decide (x > 0) = false := decide_eq_false p1
                      obtain rfl : q2 = false := NO1.out (fun h => p1 h.1)
                      go_quiet (fail)
                      go_wp2
                      go_meet
                      case rel => exact ⟨rfl, Lib.hid (HBd.out.drewN _)⟩
                  case rest =>
                    obtain ⟨rfl, HBe⟩ := hcut
                    clear HBd
                    cases q2 with
                    | true =>
                      have hcan := HQ2.out.1 rfl
                      obtain ⟨by3, t1, t2, t3⟩ := HT2.out hcan
                      have hy := HY2.out (HC2.out.1 hcan).2.1
                      have hw1 : IntKind.i64.wrap (z2 - co) = z2 - co := IntWalk.i64_in _ (by omega)
                      have c0 := HBe.out.d.c0
                      have c1 := HBe.out.d.c1
                      have c3 := HBe.out.d.c3
                      have d1 := HBe.out.d.ints.cell (k := tv) (by omega)
                      rw [HN.out.2] at d1
                      have HT1' := Lib.hid t1
                      have HT2' := Lib.hid t2
                      have HT3' := Lib.hid t3
                      clear hcan t1 t2 t3 hm'
                      go_upto_region 22 with (fail)
                      go_still_tail 12, (by kernel_rfl)
                      change wpList _ _ _ _ _ wc.drew
                      have HX3 := Lib.hid HBe.out.drew
                      clear HBe c0 c1 c3 d1 hw1
                      generalize wc.drew = w3 at HX3 ⊢
                      have f0 := HX3.out.d.ints.free fr
                      have o0 := HX3.out.d.ints.cell (k := fr) (by omega)
                      have HX4 : Hid (DBx w (w3.setCell ⟨O, fr, none⟩ (.int .i64 (z2 - co))) O (O + 1) E (D3.map cvd) (by2.map cvb) fr tv cap co) := Lib.hid (by rw [← HT1'.out]; exact HX3.out.setD fr (z2 - co))
                      clear HX3
                      go_upto_region 23 with (fail)
                      generalize w3.setCell ⟨O, fr, none⟩ (.int .i64 (z2 - co)) = w4 at HX4 ⊢
                      clear f0 o0
                      have c0 := HX4.out.d.c0
                      have f0 := HX4.out.b.ints.free fr
                      have o0 := HX4.out.b.ints.cell (k := fr) (by omega)
                      have hw1 : IntKind.i64.wrap (-1 - (q : Int)) = -1 - (q : Int) := IntWalk.i64_in _ (by omega)
                      have HX5 : Hid (DBx w (w4.setCell ⟨O + 1, fr, none⟩ (.int .i64 (-1 - (q : Int)))) O (O + 1) E (D3.map cvd) (by3.map cvb) fr tv cap co) := Lib.hid (by rw [← HT2'.out]; exact HX4.out.setB fr (-1 - (q : Int)))
                      clear HX4
                      go_wp2
                      go_roundw
                      case rel => exact ⟨q + 1, true, by3, by omega, by go_num, rfl, Lib.hid (fun h => by cases h), Lib.hid (by rw [HD3.out]; exact HT3'.out), Lib.hid (by rw [HD3.out]; exact HX5.out.d.ints), Lib.hid HX5.out.b.ints, Lib.hid HX5.out.d.bel⟩
                      case measure => simp [intOf]; omega
                    | false =>
                      have hk := HK2.out (fun h => by have := HQ2.out.2 h; cases this)
                      obtain ⟨rfl, hk2⟩ := hk
                      have HK2' := Lib.hid hk2
                      clear hk2 hm'
                      go_wp2
                      go_roundw
                      case rel => exact ⟨q + 1, b', by2, by omega, by go_num, rfl, Lib.hid (by rw [HD3.out]; exact HK2'.out), Lib.hid (by rw [HD3.out]; exact hDI2.out), Lib.hid (by rw [HD3.out]; exact HBe.out.d.ints), Lib.hid HBe.out.b.ints, Lib.hid HBe.out.d.bel⟩
                      case measure => simp [intOf]; omega
            · obtain rfl : q = k := by omega
              have hrn : X.to D (2 * q) = X.rnd d0 (r + 1) := by rw [Rlx.rnd, HD.out, HJ.out]
              have hfx : Hid (b = false → X.fix (X.rnd d0 (r + 1))) := Lib.hid (fun hb => by
                obtain ⟨h1, h2⟩ := hm.out hb
                rw [← hrn, h1]
                exact fun i hi => h2 i (by rw [HJ.out] at hi; exact hi))
              rw [hrn] at hDI hI
              clear hm hrn
              go_wp2
              go_roundw
              case rel => exact ⟨r + 1, b, by_, by omega, by go_num, rfl, hfx, hDI, hI, hJ, hb⟩
              case measure => simp [intOf]; omega
        · have hfix : X.fix (X.rnd d0 r) := by
            by_cases hrj : r < j
            · cases b with
              | true => exact absurd ⟨hrj, rfl⟩ hgo
              | false => exact hfx.out rfl
            · obtain rfl : r = j := by omega
              exact HDONE.out
          have hE : WEnd (nwOf l) true room s j ⟨by_, X.rnd d0 r, List.replicate j 0, []⟩ := hDI.out.end_ HF.out (by rw [HX.out]; exact hfix)
          have HRES : Hid (DistOk w wr l j s room O (O + 1) (X.rnd d0 r) by_) := Lib.hid ⟨hI.out, hJ.out, ⟨by have := HO.out; omega, by have := HO.out; omega⟩, hE, fun v hv => hDI.out.cv HF.out hv, hDI.out.ld, hb.out⟩
          clear hfix hE hI hJ hb hDI hfx
          by_cases hrj : r < j
          · have hrI : decide ((r : Int) < (j : Int)) = true := decide_eq_true (by omega)
            cases b with
            | true => exact absurd ⟨hrj, rfl⟩ hgo
            | false =>
              clear hgo
              go_wp2
              go_ret2
              exact ⟨_, _, _, _, rfl, HRES.out⟩
          · have hrI : decide ((r : Int) < (j : Int)) = false := decide_eq_false (by omega)
            clear hgo
            go_wp2
            go_ret2
            exact ⟨_, _, _, _, rfl, HRES.out⟩
end Go.Proofs.Ytmekcpbcgelliaa
