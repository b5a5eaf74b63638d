/- Tables in memory: the nodes ahead of a version, walked. -/
import Derived.Test.YtcfgmkiohmbdlaaMmSkip
import Derived.Deep.RegionHeld3
import Derived.Great.BuildSlice
import Derived.Laws.CopyOwn
namespace Go.Proofs.Ytcfgmkiohmbdlaa
open Go.RowKit
def pptr (q : Nat × Nat) : Value := .pointer (some ⟨q.1, q.2, none⟩)
/-- p is the last place ahead of c whose node is higher than L. -/
def IsLp (ns : List Nd) (c L p : Nat) : Prop := p ≤ c ∧ (p = 0 ∨ ∃ hq : p - 1 < ns.length, L < ns[p - 1].h) ∧ ∀ j (hj : j < ns.length), p ≤ j → j < c → ¬ L < ns[j].h
/-- What stands in the list of nodes at the height 8 - k and above. -/
def Outs (t : Nat) (ns : List Nd) (c k : Nat) (O : List Value) : Prop := O.length = 8 ∧ ∀ L, 8 - k ≤ L → L < 8 → ∃ q, IsLp ns c L q ∧ O[L]? = some (pptr (pb t ns q))
/-- A place that the walk may stand at. -/
def At (ns : List Nd) (c L p : Nat) : Prop := p ≤ c ∧ (p = 0 ∨ ∃ hq : p - 1 < ns.length, L < ns[p - 1].h)
theorem outs_next {t : Nat} {ns : List Nd} {c k p : Nat} {O : List Value} (h : Outs t ns c k O) (hk : k < 8) (hp : IsLp ns c (7 - k) p) : Outs t ns c (k + 1) (O.set (7 - k) (pptr (pb t ns p))) := by
  refine ⟨by rw [List.length_set]; exact h.1, fun L h1 h2 => ?_⟩
  by_cases e : L = 7 - k
  · subst e
    exact ⟨p, hp, by rw [List.getElem?_set_self (by rw [h.1]; omega)]⟩
  · obtain ⟨q, h3, h4⟩ := h.2 L (by omega) h2
    exact ⟨q, h3, by rw [List.getElem?_set_ne (by omega)]; exact h4⟩
theorem below_drewNs {B : Nat} {w w' : World} (h : Below B w w') (n : Nat) : Below B w (w'.drewN n) := ⟨h.os, h.tape, h.output, h.size, h.block⟩
/-- The place of an address. -/
def posOf (t : Nat) (ns : List Nd) : Value → Nat
  | .pointer (some a) => (List.range (ns.length + 1)).findIdx (fun p => pb t ns p = (a.block, a.off))
  | _ => 0
theorem pb_inj {w : World} {B t : Nat} {ns : List Nd} {n bytes turn : Int} {hv : Value} {hs : List Int} (h : Skip w B t ns n bytes hv hs turn) {p p' : Nat} (hp : p ≤ ns.length) (hp' : p' ≤ ns.length) (e : pb t ns p = pb t ns p') : p = p' := by
  cases p with
  | zero =>
    cases p' with
    | zero => rfl
    | succ q =>
      have := congrArg Prod.snd e
      simp [pb] at this
  | succ q =>
    cases p' with
    | zero =>
      have := congrArg Prod.snd e
      simp [pb] at this
    | succ q' =>
      rw [pb_succ t ns q (by omega), pb_succ t ns q' (by omega)] at e
      have e1 : ns[q].b = ns[q'].b := congrArg Prod.fst e
      have h1 := (List.getElem_inj (i := q) (j := q') (h₀ := by rw [List.length_map]; omega) (h₁ := by rw [List.length_map]; omega) h.nodup).1 (by simpa using e1)
      rw [h1]
theorem posOf_pb {w : World} {B t : Nat} {ns : List Nd} {n bytes turn : Int} {hv : Value} {hs : List Int} (h : Skip w B t ns n bytes hv hs turn) (p : Nat) (hp : p ≤ ns.length) : posOf t ns (.pointer (some ⟨(pb t ns p).1, (pb t ns p).2, none⟩)) = p := by
  show (List.range (ns.length + 1)).findIdx (fun q => decide (pb t ns q = ((pb t ns p).1, (pb t ns p).2))) = p
  rw [List.findIdx_eq (by rw [List.length_range]; omega)]
  refine ⟨by simp, fun j hj => ?_⟩
  rw [List.getElem_range, decide_eq_false_iff_not]
  intro e
  have := pb_inj h (by omega) hp e
  omega
theorem World.cell?_lt {w : World} {a : Addr} {v : Value} (h : w.cell? a = some v) : a.block < w.heap.size := by
  rcases Nat.lt_or_ge a.block w.heap.size with h1 | h1
  · exact h1
  · unfold World.cell? at h
    rw [Array.getElem?_eq_none h1] at h
    simp at h
set_option maxHeartbeats 8000000 in
set_option maxRecDepth 20000 in
theorem ahead_any (w : World) (B t : Nat) (ns : List Nd) (n bytes : Int) (hv : Value) (hs : List Int) (turn : Int) (x : Ent) (c : Nat) (h : Skip w B t ns n bytes hv hs turn) (hc : c ≤ ns.length)
    (hlt : ∀ j (hj : j < ns.length), j < c → cmpE ns[j].x x < 0) (hge : ∀ j (hj : j < ns.length), c ≤ j → ¬ cmpE ns[j].x x < 0) :
    Calls Try.prog 57 #[.pointer (some ⟨t, 0, none⟩), x.agg] w fun e w' => (∃ O, e = .returned (.agg O.toArray) ∧ Outs t ns c 8 O) ∧ Below w.heap.size w w' := by
  obtain ⟨K, S, D, V⟩ := x
  have HLT := Lib.hid hlt
  have HGE := Lib.hid hge
  have HSK := Lib.hid h
  clear hlt hge h
  show Calls Try.prog 57 #[.pointer (some ⟨t, 0, none⟩), .agg #[.string K, .int .i64 S, .bool D, .string V]] w _
  go_enter Try.func57, Try.ntmps57
  have s1 : (w.alloc (.cells #[.string K, .int .i64 S, .bool D, .string V] 26)).heap.size = w.heap.size + 1 := by simp
  have s2 : ((w.alloc (.cells #[.string K, .int .i64 S, .bool D, .string V] 26)).alloc (.cells (List.replicate 8 (Value.pointer none)).toArray 76)).heap.size = w.heap.size + 2 := by simp
  have rx : (((w.alloc (.cells #[.string K, .int .i64 S, .bool D, .string V] 26)).alloc (.cells (List.replicate 8 (Value.pointer none)).toArray 76)).alloc (.cells (List.replicate 8 (Value.pointer none)).toArray 76)).heap[w.heap.size]? = some (.cells #[.string K, .int .i64 S, .bool D, .string V] 26) := by
    rw [heap_alloc_old _ _ (by rw [s2]; omega), heap_alloc_old _ _ (by rw [s1]; omega)]
    exact heap_alloc_new w _
  have rr : (((w.alloc (.cells #[.string K, .int .i64 S, .bool D, .string V] 26)).alloc (.cells (List.replicate 8 (Value.pointer none)).toArray 76)).alloc (.cells (List.replicate 8 (Value.pointer none)).toArray 76)).heap[w.heap.size + 1]? = some (.cells (List.replicate 8 (Value.pointer none)).toArray 76) := by
    rw [heap_alloc_old _ _ (by rw [s2]; omega), ← s1]
    exact heap_alloc_new _ _
  have ro : (((w.alloc (.cells #[.string K, .int .i64 S, .bool D, .string V] 26)).alloc (.cells (List.replicate 8 (Value.pointer none)).toArray 76)).alloc (.cells (List.replicate 8 (Value.pointer none)).toArray 76)).heap[w.heap.size + 2]? = some (.cells (List.replicate 8 (Value.pointer none)).toArray 76) := by
    rw [← s2]
    exact heap_alloc_new _ _
  have hb : Below w.heap.size w (((w.alloc (.cells #[.string K, .int .i64 S, .bool D, .string V] 26)).alloc (.cells (List.replicate 8 (Value.pointer none)).toArray 76)).alloc (.cells (List.replicate 8 (Value.pointer none)).toArray 76)) := (((Below.refl _ _).alloc (Nat.le_refl _) _).alloc (by rw [s1]; omega) _).alloc (by rw [s2]; omega) _
  clear s1 s2
  go_wp2
  go_loopw [6, 7] (fun av lv wx => ∃ (k p : Nat) (O : List Value), k ≤ 8 ∧ lv = .int .i64 (7 - (k : Int)) ∧ av = pptr (pb t ns p) ∧ p ≤ c ∧ (p = 0 ∨ ∃ hq : p - 1 < ns.length, 8 - k < ns[p - 1].h) ∧ Outs t ns c k O ∧
    wx.heap[w.heap.size + 2]? = some (.cells O.toArray 76 (0, 0)) ∧ wx.heap[w.heap.size]? = some (.cells #[.string K, .int .i64 S, .bool D, .string V] 26) ∧ wx.heap[w.heap.size + 1]? = some (.cells (List.replicate 8 (Value.pointer none)).toArray 76) ∧ Below w.heap.size w wx) (fun _ lv _ => (intOf lv + 1).toNat)
  case atStart => exact ⟨0, 0, List.replicate 8 (Value.pointer none), Nat.zero_le _, rfl, rfl, Nat.zero_le _, .inl rfl, ⟨rfl, fun L h1 h2 => by omega⟩, ro, rx, rr, hb⟩
  case round =>
    clear rx rr ro hb
    obtain ⟨k, p, O, hk, rfl, rfl, hpc, hph, hO, ro, rx, rr, hb⟩ := hrel
    by_cases hlt8 : k < 8
    · have hph2 : p = 0 ∨ ∃ hq : p - 1 < ns.length, 7 - k < ns[p - 1].h := by
        rcases hph with e | ⟨hq, e⟩
        · exact .inl e
        · exact .inr ⟨hq, by omega⟩
      clear hph
      have l1 : 0 ≤ 7 - (k : Int) := by omega
      go_wp2
      try simp only [show decide ((k : Int) ≤ 7) = true from decide_eq_true (by omega)]
      try simp only [show decide (0 ≤ 7 - (k : Int)) = true from decide_eq_true l1]
      go_loopw [6] (fun av wx => ∃ p : Nat, av = pptr (pb t ns p) ∧ At ns c (7 - k) p ∧ wx.heap[w.heap.size + 2]? = some (.cells O.toArray 76 (0, 0)) ∧ wx.heap[w.heap.size]? = some (.cells #[.string K, .int .i64 S, .bool D, .string V] 26) ∧ wx.heap[w.heap.size + 1]? = some (.cells (List.replicate 8 (Value.pointer none)).toArray 76) ∧ Below w.heap.size w wx) (fun av _ => c - posOf t ns av)
      case atStart => exact ⟨p, rfl, ⟨hpc, hph2⟩, ro, rx, rr, hb⟩
      case round =>
        clear hpc hph2 ro rx rr hb
        obtain ⟨p, rfl, ⟨hpc, hph⟩, ro, rx, rr, hb⟩ := hrel
        have skr := HSK.out.below hb
        have cn := skr.next p (7 - k) (by omega) (by omega) hph
        obtain ⟨ab, ao, hpb⟩ : ∃ ab ao, pb t ns p = (ab, ao) := ⟨_, _, rfl⟩
        have hpp : pptr (pb t ns p) = .pointer (some ⟨ab, ao, none⟩) := by rw [hpb]; rfl
        rw [hpb] at cn
        rw [hpp]
        have c0 : wr.cell? ⟨w.heap.size, 0, none⟩ = some (.string K) := by rw [cell_of_row _ _ 0 _ _ _ rx]; rfl
        have c1 : wr.cell? ⟨w.heap.size, 1, none⟩ = some (.int .i64 S) := by rw [cell_of_row _ _ 1 _ _ _ rx]; rfl
        have c2 : wr.cell? ⟨w.heap.size, 2, none⟩ = some (.bool D) := by rw [cell_of_row _ _ 2 _ _ _ rx]; rfl
        have c3 : wr.cell? ⟨w.heap.size, 3, none⟩ = some (.string V) := by rw [cell_of_row _ _ 3 _ _ _ rx]; rfl
        have n1 : (7 - (k : Int)).toNat = 7 - k := by omega
        have m1 : 7 - (k : Int) < 8 := by omega
        obtain ⟨u, hu⟩ : ∃ u, O[7 - k]? = some u := ⟨O[7 - k]'(by rw [hO.1]; omega), List.getElem?_eq_getElem _⟩
        have cS : ∀ W, Below wr.heap.size wr W → W.cell? ⟨w.heap.size + 2, 7 - k, none⟩ = some u := fun W hW => by
          rw [cell_of_row _ _ _ _ _ _ ((hW.block _ (Array.getElem?_eq_some_iff.1 ro).1).trans ro), List.getElem?_toArray]; exact hu
        have fS : ∀ W, Below wr.heap.size wr W → W.frozen? ⟨w.heap.size + 2, 7 - k, none⟩ = false := fun W hW => frozen_of_row _ _ _ _ _ ((hW.block _ (Array.getElem?_eq_some_iff.1 ro).1).trans ro)
        have HEX : Hid (IsLp ns c (7 - k) p → ∀ W, Below wr.heap.size wr W → ∃ (k_1 p_1 : Nat) (O_1 : List Value), k_1 ≤ 8 ∧ Value.int .i64 (7 - (k : Int) - 1) = .int .i64 (7 - (k_1 : Int)) ∧ Value.pointer (some ⟨ab, ao, none⟩) = pptr (pb t ns p_1) ∧ p_1 ≤ c ∧
            (p_1 = 0 ∨ ∃ hq : p_1 - 1 < ns.length, 8 - k_1 < ns[p_1 - 1].h) ∧ Outs t ns c k_1 O_1 ∧
            (W.setCell ⟨w.heap.size + 1 + 1, 7 - k, none⟩ (.pointer (some ⟨ab, ao, none⟩))).heap[w.heap.size + 2]? = some (.cells O_1.toArray 76 (0, 0)) ∧
            (W.setCell ⟨w.heap.size + 1 + 1, 7 - k, none⟩ (.pointer (some ⟨ab, ao, none⟩))).heap[w.heap.size]? = some (.cells #[.string K, .int .i64 S, .bool D, .string V] 26) ∧
            (W.setCell ⟨w.heap.size + 1 + 1, 7 - k, none⟩ (.pointer (some ⟨ab, ao, none⟩))).heap[w.heap.size + 1]? = some (.cells (List.replicate 8 (Value.pointer none)).toArray 76) ∧
            Below w.heap.size w (W.setCell ⟨w.heap.size + 1 + 1, 7 - k, none⟩ (.pointer (some ⟨ab, ao, none⟩)))) := Lib.hid fun hlp W hW => by
          have g1 := (hW.block _ (Array.getElem?_eq_some_iff.1 ro).1).trans ro
          have g2 := (hW.block _ (Array.getElem?_eq_some_iff.1 rx).1).trans rx
          have g3 := (hW.block _ (Array.getElem?_eq_some_iff.1 rr).1).trans rr
          refine ⟨k + 1, p, O.set (7 - k) (pptr (pb t ns p)), by omega, by congr 1; omega, hpp.symm, hpc, ?_, outs_next hO hlt8 hlp, ?_, ?_, ?_, ?_⟩
          · rcases hph with e | ⟨hq, e⟩
            · exact .inl e
            · exact .inr ⟨hq, by omega⟩
          · have h1 := heap_setCell_same W (w.heap.size + 2) (7 - k) _ _ (.pointer (some ⟨ab, ao, none⟩)) g1
            rw [List.setIfInBounds_toArray, ← hpp] at h1
            rw [← hpp]
            exact h1
          · rw [heap_setCell_other _ _ _ _ (by show w.heap.size ≠ w.heap.size + 1 + 1; omega)]; exact g2
          · rw [heap_setCell_other _ _ _ _ (by show w.heap.size + 1 ≠ w.heap.size + 1 + 1; omega)]; exact g3
          · exact (hb.trans (hW.mono hb.size)).setCell (p := ⟨w.heap.size + 1 + 1, 7 - k, none⟩) (by show w.heap.size ≤ w.heap.size + 1 + 1; omega) _
        have CS := Lib.hid cS
        have FS := Lib.hid fS
        clear cS fS hu
        cases hnx : nx (7 - k) (ns.drop p) with
        | none =>
          rw [hnx] at cn
          change wr.cell? ⟨ab, ao + 4 + (7 - k), none⟩ = some (.pointer none) at cn
          have hlp : IsLp ns c (7 - k) p := ⟨hpc, hph, fun j hj h1 _ => by
            have := nx_none hnx ns[j] (by rw [List.mem_drop_iff_getElem]; exact ⟨j - p, by omega, by congr 1; omega⟩)
            exact this⟩
          have HLP := Lib.hid hlp
          have cS := CS.out wr (Below.refl _ _)
          have fS := FS.out wr (Below.refl _ _)
          clear hlp hO hpp ro rx rr skr hnx hpb hb hph
          go_wp2
          first
            | go_quiet (fail)
            | fail
          go_wp2
          refine ⟨HEX.out HLP.out (wr.drewN nq) (below_drewNs (Below.refl _ _) _), ?_⟩
          simp [intOf]; omega
        | some b =>
          rw [hnx] at cn
          change wr.cell? ⟨ab, ao + 4 + (7 - k), none⟩ = some (.pointer (some ⟨b, 0, none⟩)) at cn
          obtain ⟨q, hq, hqb, hqh, hqj⟩ := nx_some hnx
          have hpq : p + q < ns.length := by rw [List.length_drop] at hq; omega
          rw [List.getElem_drop] at hqb hqh
          obtain ⟨y, hy⟩ : ∃ y, y = ns[p + q].x := ⟨_, rfl⟩
          have he := skr.ent (p + q) hpq
          rw [hqb, ← hy] at he
          obtain ⟨e0, e1, e2, e3⟩ := he
          obtain ⟨K', S', D', V'⟩ := y
          change wr.cell? ⟨b, 0, none⟩ = some (.string K') at e0
          change wr.cell? ⟨b, 1, none⟩ = some (.int .i64 S') at e1
          change wr.cell? ⟨b, 2, none⟩ = some (.bool D') at e2
          change wr.cell? ⟨b, 3, none⟩ = some (.string V') at e3
          obtain ⟨z, hz⟩ : ∃ z, z = cmpE ⟨K', S', D', V'⟩ ⟨K, S, D, V⟩ := ⟨_, rfl⟩
          have hbl : b < wr.heap.size := by rw [← hqb]; exact skr.nlt _ hpq
          have hal : ab < wr.heap.size := World.cell?_lt cn
          have hxl : w.heap.size < wr.heap.size := (Array.getElem?_eq_some_iff.1 rx).1
          have HS : Hid (∀ W', Below wr.heap.size wr W' → Below wr.heap.size wr W' ∧ W'.cell? ⟨ab, ao + 4 + (7 - k), none⟩ = some (.pointer (some ⟨b, 0, none⟩)) ∧ W'.cell? ⟨b, 0, none⟩ = some (.string K') ∧ W'.cell? ⟨b, 1, none⟩ = some (.int .i64 S') ∧ W'.cell? ⟨b, 2, none⟩ = some (.bool D') ∧ W'.cell? ⟨b, 3, none⟩ = some (.string V') ∧ W'.cell? ⟨w.heap.size, 0, none⟩ = some (.string K) ∧ W'.cell? ⟨w.heap.size, 1, none⟩ = some (.int .i64 S) ∧ W'.cell? ⟨w.heap.size, 2, none⟩ = some (.bool D) ∧ W'.cell? ⟨w.heap.size, 3, none⟩ = some (.string V)) := Lib.hid fun W' hW => ⟨hW, (hW.cell (p := ⟨ab, ao + 4 + (7 - k), none⟩) hal).trans cn, (hW.cell (p := ⟨b, 0, none⟩) hbl).trans e0, (hW.cell (p := ⟨b, 1, none⟩) hbl).trans e1, (hW.cell (p := ⟨b, 2, none⟩) hbl).trans e2, (hW.cell (p := ⟨b, 3, none⟩) hbl).trans e3,
            (hW.cell (p := ⟨w.heap.size, 0, none⟩) hxl).trans c0, (hW.cell (p := ⟨w.heap.size, 1, none⟩) hxl).trans c1, (hW.cell (p := ⟨w.heap.size, 2, none⟩) hxl).trans c2, (hW.cell (p := ⟨w.heap.size, 3, none⟩) hxl).trans c3⟩
          have HCM : Hid (∀ W', Below wr.heap.size wr W' → Calls Try.prog 58 #[.agg #[.string K', .int .i64 S', .bool D', .string V'], .agg #[.string K, .int .i64 S, .bool D, .string V]] W' (fun e w' => e = .returned (.int .i64 z) ∧ Below wr.heap.size wr w')) := Lib.hid fun W' hW =>
            (cmp_any W' ⟨K', S', D', V'⟩ ⟨K, S, D, V⟩).mono fun e w' h => ⟨by rw [hz]; exact h.1, hW.trans (h.2.mono hW.size)⟩
          have hbW0 : Below wr.heap.size wr wr := Below.refl _ _
          have hbW1 : Below wr.heap.size wr wr.drew := ⟨rfl, rfl, rfl, Nat.le_refl _, fun _ _ => rfl⟩
          have hzc : z < 0 ↔ p + q < c := by
            rw [hz, hy]
            constructor
            · intro h
              rcases Nat.lt_or_ge (p + q) c with h' | h'
              · exact h'
              · exact absurd h (Int.not_lt.2 (HGE.out _ hpq h'))
            · intro h
              exact HLT.out _ hpq h
          have hnp : pb t ns (p + q + 1) = (b, 0) := by rw [pb_succ t ns (p + q) hpq, hqb]
          have hps := posOf_pb skr p (by omega)
          have hps2 := posOf_pb skr (p + q + 1) (by omega)
          rw [hnp] at hps2
          rw [hpb] at hps
          have HRO := Lib.hid ro
          have HRX := Lib.hid rx
          have HRR := Lib.hid rr
          have HBB := Lib.hid hb
          have HQ1 := Lib.hid hqh
          have HQ2 := Lib.hid hqj
          have HNP := Lib.hid hnp
          have HPS := Lib.hid hps
          have HPS2 := Lib.hid hps2
          have HPH := Lib.hid hph
          by_cases hic : p + q < c
          · have hz0 : z < 0 := hzc.2 hic
            clear hO hpp ro rx rr skr hnx hpb hb hph hqh hqj hnp hps hps2 hy hz hzc
            go_wp2
            first
              | go_region_held3 (fun W' => Below wr.heap.size wr W' ∧ W'.cell? ⟨ab, ao + 4 + (7 - k), none⟩ = some (.pointer (some ⟨b, 0, none⟩)) ∧ W'.cell? ⟨b, 0, none⟩ = some (.string K') ∧ W'.cell? ⟨b, 1, none⟩ = some (.int .i64 S') ∧ W'.cell? ⟨b, 2, none⟩ = some (.bool D') ∧ W'.cell? ⟨b, 3, none⟩ = some (.string V') ∧ W'.cell? ⟨w.heap.size, 0, none⟩ = some (.string K) ∧ W'.cell? ⟨w.heap.size, 1, none⟩ = some (.int .i64 S) ∧ W'.cell? ⟨w.heap.size, 2, none⟩ = some (.bool D) ∧ W'.cell? ⟨w.heap.size, 3, none⟩ = some (.string V)) (first | exact HS.out _ (by assumption) | assumption | fail) (first
                | (go_at_call 58; refine (HCM.out _ (by first | assumption | exact And.left (by assumption))).mono ?_; rintro e w2 ⟨rfl, hb2⟩)
                | fail)
              | fail
            obtain ⟨_, cn2, _⟩ := HS.out _ hb2
            go_wp2
            refine ⟨⟨p + q + 1, ?_, ⟨by omega, .inr ⟨by simpa using hpq, by simpa using HQ1.out⟩⟩, (hb2.block _ (Array.getElem?_eq_some_iff.1 HRO.out).1).trans HRO.out, (hb2.block _ hxl).trans HRX.out, (hb2.block _ (Array.getElem?_eq_some_iff.1 HRR.out).1).trans HRR.out, HBB.out.trans (hb2.mono HBB.out.size)⟩, ?_⟩
            · rw [HNP.out]; rfl
            · rw [HPS.out, HPS2.out]; omega
          · have hz0 : ¬ z < 0 := fun h => hic (hzc.1 h)
            have hlp : IsLp ns c (7 - k) p := ⟨hpc, hph, fun j hj h1 h2 => by
              have := hqj (j - p) (by omega)
              rw [List.getElem_drop] at this
              simpa [show p + (j - p) = j by omega] using this⟩
            have HLP := Lib.hid hlp
            clear hlp hO hpp ro rx rr skr hnx hpb hb hph hqh hqj hnp hps hps2 hy hz hzc
            go_wp2
            first
              | go_region_held3 (fun W' => Below wr.heap.size wr W' ∧ W'.cell? ⟨ab, ao + 4 + (7 - k), none⟩ = some (.pointer (some ⟨b, 0, none⟩)) ∧ W'.cell? ⟨b, 0, none⟩ = some (.string K') ∧ W'.cell? ⟨b, 1, none⟩ = some (.int .i64 S') ∧ W'.cell? ⟨b, 2, none⟩ = some (.bool D') ∧ W'.cell? ⟨b, 3, none⟩ = some (.string V') ∧ W'.cell? ⟨w.heap.size, 0, none⟩ = some (.string K) ∧ W'.cell? ⟨w.heap.size, 1, none⟩ = some (.int .i64 S) ∧ W'.cell? ⟨w.heap.size, 2, none⟩ = some (.bool D) ∧ W'.cell? ⟨w.heap.size, 3, none⟩ = some (.string V)) (first | exact HS.out _ (by assumption) | assumption | fail) (first
                | (go_at_call 58; refine (HCM.out _ (by first | assumption | exact And.left (by assumption))).mono ?_; rintro e w2 ⟨rfl, hb2⟩)
                | fail)
              | fail
            have cS := CS.out _ hb2
            have fS := FS.out _ hb2
            go_wp2
            refine ⟨HEX.out HLP.out w2 hb2, ?_⟩
            simp [intOf]; omega
    · obtain rfl : k = 8 := by omega
      obtain ⟨C, hC⟩ : ∃ C, C = O.toArray := ⟨_, rfl⟩
      have hCs : C.size = 8 := by rw [hC, List.size_toArray]; exact hO.1
      have h1c : C.all (·.oneCell') = true := by
        rw [hC, Array.all_eq_true_iff_forall_mem]
        intro v hv
        rw [List.mem_toArray, List.mem_iff_getElem?] at hv
        obtain ⟨L, hL⟩ := hv
        have hl : L < 8 := by have := (List.getElem?_eq_some_iff.1 hL).1; rw [hO.1] at this; exact this
        obtain ⟨q, _, h2⟩ := hO.2 L (by omega) hl
        rw [hL] at h2
        injection h2 with h2
        rw [h2]; rfl
      rw [← hC] at ro
      have HC := Lib.hid hC
      have HO := Lib.hid hO
      clear hC hO hph
      go_wp2_with (first
        | refine wpList_load_row rfl 76 (.tmp 5) rfl (w.heap.size + 2) rfl 76 C (0, 0) _ (by exact ro) rfl rfl (by rw [hCs]; rfl) ?_
        | refine wpList_store_rowTo rfl 76 (.tmp 4) (.tmp 45) rfl rfl (w.heap.size + 1) C rfl rfl 76 _ (by exact rr) (by rw [hCs]; rfl) (by rw [hCs]; rfl) h1c ?_)
      refine bodyPost_ret (results_cell_row rfl _ _ (w.heap.size + 1) 76 C (0, 0) _ rfl (setRow_heap _ _ _ _ _ _ rr) rfl rfl (by rw [hCs]; rfl)) rfl ?_
      exact ⟨⟨O, by rw [HC.out], HO.out⟩, below_setRow hb (by omega) _⟩
end Go.Proofs.Ytcfgmkiohmbdlaa
