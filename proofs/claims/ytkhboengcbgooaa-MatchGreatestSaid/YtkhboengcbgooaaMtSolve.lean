/- Matchings: solve, walked. -/
import Derived.Test.YtkhboengcbgooaaMtGrow
import Derived.Test.YtkhboengcbgooaaMtLevW
namespace Go.Proofs.Ytkhboengcbgooaa
open Go.RowKit
theorem okE_all {n m : Nat} {l : List Eg} (h : okE n m l l.length) : ∀ e ∈ l, inE n m e := by
  intro e he
  obtain ⟨i, hi, rfl⟩ := List.getElem_of_mem he
  exact h i hi hi
theorem natE_ok {n m : Nat} {l : List Eg} (h : ∀ e ∈ l, inE n m e) : ∀ p ∈ natE l, p.1 < n ∧ p.2 < m := by
  intro p hp
  obtain ⟨e, he, rfl⟩ := List.mem_map.1 hp
  obtain ⟨h1, h2, h3, h4⟩ := h e he
  constructor
  · show e.1.toNat < n; omega
  · show e.2.toNat < m; omega
/-- What the search leaves behind. -/
def SolveRet (w : World) (n m : Nat) (l : List Eg) (e : Ending) (w' : World) : Prop :=
  ∃ B P G N O W D s, e = .returned (.tuple #[.pointer (some ⟨P, 0, none⟩), .int .i64 0]) ∧ w.heap.size ≤ B ∧ PairA w' B P G N O W (.slice (some ⟨D, 0, none⟩) n n) n m (rowsOf n l) s.of s.wi ∧ SolveOut (natE l) n m s ∧ (∀ e ∈ l, inE n m e) ∧ Below w.heap.size w w'
def SolveAns (w : World) (n m : Nat) (l : List Eg) (e : Ending) (w' : World) : Prop :=
  SolveRet w n m l e w' ∨ (e = .returned (.tuple #[.pointer none, .int .i64 19]) ∧ (∃ x ∈ l, ¬ inE n m x) ∧ Below w.heap.size w w')
theorem solve_size (w : World) (n m : Int) (A : Option Addr) (k c : Nat) (hs : ¬ ((0 ≤ n ∧ n ≤ 200) ∧ (0 ≤ m ∧ m ≤ 200) ∧ k ≤ 4000)) :
    Calls Try.prog 17 #[.int .i64 n, .int .i64 m, .slice A k c] w fun e w' => e = .returned (.tuple #[.pointer none, .int .i64 19]) ∧ w' = w := by
  go_enter Try.func17, Try.ntmps17
  go_wp2_with fail
  refine (newg_size _ n m A k c hs).mono ?_
  rintro e w1 ⟨rfl, rfl⟩
  go_wp2
  go_ret2
  exact ⟨rfl, rfl⟩
theorem drop_range {n j : Nat} (h : j < n) : (List.range n).drop j = j :: (List.range n).drop (j + 1) := by
  rw [List.drop_eq_getElem_cons (by simpa using h)]
  simp
/-- A round of the search, as it stands. -/
structure SolveSt (l : List Eg) (n m : Nat) (gk : Nat) (s : PSt) : Prop where
  pairs : Pairs (natE l) n m (gi s.of) (gi s.wi)
  lowo : ∀ x, -1 ≤ gi s.of x
  left : n < gk + matched n (gi s.of)
set_option maxHeartbeats 8000000 in
set_option maxRecDepth 20000 in
theorem solve_any (w : World) (n m : Nat) (A : Option Addr) (k c : Nat) (l : List Eg) (hr : Rd w w.heap.size 2 A k (edgv l)) (hk : k ≤ 4000) (hn : n ≤ 200) (hm : m ≤ 200) :
    Calls Try.prog 17 #[.int .i64 n, .int .i64 m, .slice A k c] w (SolveAns w n m l) := by
  have hkl := rd_edglen hr
  have HLENS : Hid (∀ a, (nearOf (rowsOf n l) a).length ≤ 1048576) := Lib.hid fun a => by have := near_len n a l.length l rfl; omega
  clear hkl
  go_enter Try.func17, Try.ntmps17
  go_wp2_with fail
  refine (newg_any _ n m A k c l hr hk hn hm).mono ?_
  rintro e w1 (⟨N, G, vs, rfl, hNz, hGz, hN, hG, hok, hb1⟩ | ⟨rfl, hbad, hb1⟩)
  · have hall := okE_all hok
    have hE := natE_ok hall
    have hbE := mem_near n m l.length l rfl hall
    have hNR := hN.read
    have hNlt := hN.lt
    have hGlt := hG.lt
    have hlr := rowsOf_len n l
    have HALL := Lib.hid hall
    have HE := Lib.hid hE
    have HBE := Lib.hid hbE
    have HLR := Lib.hid hlr
    clear hr hN hok hall hE hbE hlr
    go_wp2_with fail
    refine (none_any _ n hn).mono ?_
    rintro e w2 ⟨O, rfl, hOz, hO, hb2⟩
    go_wp2_with fail
    refine (none_any _ m hm).mono ?_
    rintro e w3 ⟨W, rfl, hWz, hW, hb3⟩
    have hOlt := hO.lt
    have hWlt := hW.lt
    have u2 : Upd (fun _ => False) w1 w2 := Upd.of_below hb2
    have u3 : Upd (fun _ => False) w2 w3 := Upd.of_below hb3
    have u4 : Upd (fun _ => False) w3 (w3.alloc (.cells #[.pointer (some ⟨G, 0, none⟩), .slice (some ⟨O, 0, none⟩) n n, .slice (some ⟨W, 0, none⟩) m m, .slice none 0 0] 50)) := (Upd.refl _ w3).alloc _
    have u14 := (u2.trans u3 (fun _ _ h => h)).trans u4 (fun _ _ h => h)
    have hA : PairA (w3.alloc (.cells #[.pointer (some ⟨G, 0, none⟩), .slice (some ⟨O, 0, none⟩) n n, .slice (some ⟨W, 0, none⟩) m m, .slice none 0 0] 50)) w1.heap.size w3.heap.size G N O W (.slice none 0 0) n m (rowsOf n l) (List.replicate n (-1)) (List.replicate m (-1)) :=
      ⟨heap_alloc_new w3 _, hG.upd u14 (fun h => h), hNR.keep fun p hp => u14.cell hp (fun h => h), (hO.upd u3 (fun h => h)).upd u4 (fun h => h), hW.upd u4 (fun h => h), hGlt, by have := u2.size; have := u3.size; omega, hOz, by have := u2.size; omega, by omega, by have := u3.size; omega, by omega, by simp, by simp, HLR.out,
        fun a b h => (HE.out _ ((HBE.out a b).1 h)).2, fun b h => by rw [gi_rep] at h; omega⟩
    have hbel : Below w.heap.size w (w3.alloc (.cells #[.pointer (some ⟨G, 0, none⟩), .slice (some ⟨O, 0, none⟩) n n, .slice (some ⟨W, 0, none⟩) m m, .slice none 0 0] 50)) := hb1.trans (u14.below (fun _ _ h => h) hb1.size)
    have hwB : w.heap.size ≤ w1.heap.size := hb1.size
    have HA := Lib.hid hA
    clear hb1 hb2 hb3 u2 u3 u4 u14 hO hW hG hNR hA hNz hGz hNlt hGlt hOz hWz hOlt hWlt
    generalize w1.heap.size = B at HA hwB
    go_wp2
    generalize w3.alloc (.cells #[.pointer (some ⟨G, 0, none⟩), .slice (some ⟨O, 0, none⟩) n n, .slice (some ⟨W, 0, none⟩) m m, .slice none 0 0] 50) = w4 at HA hbel ⊢
    generalize w3.heap.size = P at HA ⊢
    go_loopg [] (n + 1) (fun gk wx => ∃ (s : PSt) (dv : Value), PairA wx B P G N O W dv n m (rowsOf n l) s.of s.wi ∧ SolveSt l n m gk s ∧ Below w.heap.size w wx)
    case atStart => exact ⟨⟨_, _, []⟩, _, HA.out, ⟨pairs_none, fun x => by rw [gi_rep]; omega, by omega⟩, hbel⟩
    case round =>
      obtain ⟨s, dv, hA, hS, hb⟩ := hrel
      clear hbel HA
      go_wp2_with fail
      refine (levels_any _ B P G N O W n m dv (rowsOf n l) s.of s.wi hn hm hA HLENS.out).mono ?_
      rintro e w5 ⟨D, di, fo, rfl, hA5, hI5, hlev, hDz, hu5⟩
      have hPB := hA.pB
      have hplt := hA.plt
      have holt := hA.iof.lt
      have hwlt := hA.iwi.lt
      have hBlt := hA.Blt
      have hOB := hA.oB
      have hWB := hA.wB
      have hb5 : Below w.heap.size w w5 := hb.trans (hu5.below (fun j hj e => by omega) hb.size)
      clear hA hu5 hb
      cases fo with
      | false =>
        have hret : SolveOut (natE l) n m ⟨s.of, s.wi, di⟩ := ⟨hS.pairs, hA5.lo, hA5.lw, hlev.len, hS.lowo, fun a ha hu => by
          show 0 ≤ gi di a
          rw [hlev.root a ha hu]; exact Int.le_refl _, fun p hp hz => hlev.no rfl p.1 p.2 ((HBE.out _ _).2 hp) hz⟩
        have HR : Hid (SolveAns w n m l (.returned (.tuple #[.pointer (some ⟨P, 0, none⟩), .int .i64 0])) w5) := Lib.hid (.inl ⟨B, P, G, N, O, W, D, ⟨s.of, s.wi, di⟩, rfl, hwB, hA5, hret, HALL.out, hb5⟩)
        clear hret hS hlev hA5 hI5 hb5
        go_wp2
        go_ret2
        exact HR.out
      | true =>
        obtain ⟨a0, ha0, hu0, hgood⟩ := hlev.yes rfl
        have hg : Gin (natE l) (nearOf (rowsOf n l)) n m n ⟨s.of, s.wi, di⟩ := ⟨hS.pairs, hA5.lo, hA5.lw, hlev.len, fun x => by have := hlev.lo x; show -2 ≤ gi di x; omega, hlev.hi⟩
        obtain ⟨s9, hph, hg9, hlo9, hm9⟩ := phase_more (fun a b h => (HBE.out a b).1 h) HE.out hg hS.lowo hlev.root a0 hu0 hgood (List.range n) ⟨s.of, s.wi, di⟩ List.nodup_range (by simpa using ha0) (fun a h => by simpa using h) (Dead.refl _ _) (fun _ _ _ => rfl)
        have hm9' : matched n (gi s.of) + 1 ≤ matched n (gi s9.of) := hm9
        have hS9 : SolveSt l n m (gk - 1) s9 ∧ gk - 1 < gk := by
          have hmn : matched n (gi s9.of) ≤ n := by
            have := List.length_filter_le (fun a => decide (0 ≤ gi s9.of a)) (List.range n)
            rw [List.length_range] at this
            exact this
          have := hS.left
          exact ⟨⟨hg9.pairs, hlo9, by omega⟩, by omega⟩
        have hD : PairD w5 B P O W D n di := ⟨hI5, by omega, by omega, by omega, by omega, hlev.len, fun x => by have := hlev.lo x; have := hlev.hi x; omega⟩
        have HS9 := Lib.hid hS9
        have HPH := Lib.hid hph
        have hDw : w.heap.size ≤ D := by omega
        have c1 := hA5.c1
        have HA5 := Lib.hid hA5
        have HD := Lib.hid hD
        have HB5 := Lib.hid hb5
        clear hS9 hph hg9 hlo9 hm9 hm9' hg hgood hu0 ha0 hS hlev hI5 hA5 hD hb5
        go_wp2
        go_loopw [36] (fun i wx => ∃ (j : Nat) (s' : PSt), j ≤ n ∧ i = .int .i64 j ∧ Hid (phaseF (nearOf (rowsOf n l)) (n + 2) ((List.range n).drop j) s' = some s9) ∧ PairA wx B P G N O W (.slice (some ⟨D, 0, none⟩) n n) n m (rowsOf n l) s'.of s'.wi ∧ PairD wx B P O W D n s'.di ∧ Below w.heap.size w wx) (fun i _ => n - (intOf i).toNat)
        case atStart => exact ⟨0, ⟨s.of, s.wi, di⟩, Nat.zero_le _, rfl, Lib.hid (by rw [List.drop_zero]; exact HPH.out), HA5.out, HD.out, HB5.out⟩
        case round =>
          clear HA5 HD HB5 HPH c1
          obtain ⟨j, s', hj, rfl, hph, hA, hD, hb⟩ := hrel
          by_cases hlt : j < n
          · have hph' := hph.out
            rw [drop_range hlt, phaseF] at hph'
            have c1 := hA.c1
            have o0 := hA.iof.cell (k := j) (by rw [hA.lo]; exact hlt)
            obtain ⟨x, hx⟩ : ∃ x, gi s'.of j = x := ⟨_, rfl⟩
            rw [hx] at o0 hph'
            by_cases hneg : x < 0
            · rw [if_pos hneg] at hph'
              obtain ⟨rr, hgr, hnext⟩ : ∃ rr, growF (nearOf (rowsOf n l)) (n + 2) j s' = some rr ∧ phaseF (nearOf (rowsOf n l)) (n + 2) ((List.range n).drop (j + 1)) rr.2 = some s9 := by
                cases hq : growF (nearOf (rowsOf n l)) (n + 2) j s' with
                | none => rw [hq] at hph'; cases hph'
                | some rr => rw [hq] at hph'; exact ⟨rr, rfl, hph'⟩
              have HC := Lib.hid (grow_any B P G N O W D n m (rowsOf n l) hn hm (n + 2) wr j s' rr hgr hlt (HLENS.out j) hA hD HLENS.out)
              have HN := Lib.hid hnext
              have hDB := hD.dB
              have b1 : decide (x < 0) = true := decide_eq_true hneg
              clear hph hph' hA hD hx hgr hnext
              go_wp2_with fail
              refine HC.out.mono ?_
              rintro e w6 ⟨rfl, hA6, hD6, hu6⟩
              have hb6 : Below w.heap.size w w6 := hb.trans (hu6.below (fun j hj e => by rcases e with e | e | e <;> omega) hb.size)
              clear hb hu6 HC c1 o0
              go_wp2
              go_roundw
              case rel => exact ⟨j + 1, rr.2, by omega, by go_num, HN, hA6, hD6, hb6⟩
              case measure => simp [intOf]; omega
            · rw [if_neg hneg] at hph'
              have HN := Lib.hid hph'
              have b1 : decide (x < 0) = false := decide_eq_false hneg
              clear hph hph' hx
              go_wp2
              go_roundw
              case rel => exact ⟨j + 1, s', by omega, by go_num, HN, hA, hD, hb⟩
              case measure => simp [intOf]; omega
          · have hjn : j = n := by omega
            have hph' := hph.out
            rw [hjn, List.drop_of_length_le (by simp), phaseF] at hph'
            injection hph' with hph'
            subst hph'
            clear hph
            go_wp2
            go_roundg (gk - 1)
            case measure => exact HS9.out.2
            case rel => exact ⟨s', _, hA, HS9.out.1, hb⟩
  · clear hr
    have HB := Lib.hid hbad
    clear hbad
    go_wp2
    go_ret2
    exact .inr ⟨rfl, HB.out, hb1⟩
end Go.Proofs.Ytkhboengcbgooaa
