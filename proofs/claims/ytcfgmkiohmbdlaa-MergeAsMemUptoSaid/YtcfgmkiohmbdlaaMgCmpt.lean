/- Merging versions: slices.CompactFunc, walked. -/
import Derived.Test.YtcfgmkiohmbdlaaStable
import Derived.Lib.SliceRun
namespace Go.Proofs.Ytcfgmkiohmbdlaa
open Go.RowKit
theorem ddp_snoc : ∀ (l : List Ent) (p x : Ent), ddp p (l ++ [x]) = ddp p l ++ (if cmpE x ((p :: l).getLast (by simp)) = 0 then [] else [x]) := by
  intro l
  induction l with
  | nil => intro p x; show (if cmpE x p = 0 then ddp x [] else x :: ddp x []) = [] ++ _; simp only [ddp, List.nil_append]; rfl
  | cons y l ih =>
    intro p x
    have h := ih y x
    rw [List.cons_append, ddp, ddp, h, List.getLast_cons (List.cons_ne_nil y l)]
    split
    · rfl
    · rfl
theorem dd_take (l : List Ent) (t : Nat) (h1 : 1 ≤ t) (h : t < l.length) : dd (l.take (t + 1)) = dd (l.take t) ++ (if cmpE l[t] (l[t - 1]'(by omega)) = 0 then [] else [l[t]]) := by
  rw [List.take_succ_eq_append_getElem h]
  cases hl : l.take t with
  | nil => have h0 := congrArg List.length hl; rw [List.length_take, List.length_nil] at h0; omega
  | cons p r =>
    have hlast : (p :: r).getLast (by simp) = l[t - 1]'(by omega) := by
      have e : (p :: r).length = t := by rw [← hl, List.length_take]; omega
      rw [List.getLast_eq_getElem]
      have : ∀ (m : List Ent) (hm : m = l.take t) (hlt : m.length - 1 < m.length), m[m.length - 1]'hlt = l[t - 1]'(by omega) := by
        intro m hm hlt
        subst hm
        rw [List.getElem_take]
        congr 1
        rw [List.length_take]; omega
      exact this (p :: r) hl.symm _
    rw [List.cons_append, dd, dd, ddp_snoc, hlast]
    rfl
theorem dd_len (l : List Ent) : (dd l).length ≤ l.length := by
  cases l with
  | nil => simp [dd]
  | cons x l => have := (ddp_sub x l).length_le; simp [dd]; omega
theorem look_past {K M : List Ent} {m0 x : Ent} {j : Nat} (h : K.length < j) : (K ++ [x] ++ M)[j]? = (K ++ m0 :: M)[j]? := by
  rw [List.append_assoc, List.getElem?_append_right (l₁ := K) (l₂ := [x] ++ M) (by omega), List.getElem?_append_right (l₁ := K) (l₂ := m0 :: M) (by omega)]
  obtain ⟨t, ht⟩ : ∃ t, j - K.length = t + 1 := ⟨j - K.length - 1, by omega⟩
  rw [ht]; rfl
section
variable {w0 W : World} {g : Nat}
theorem setCells_row (T : TypeId) : ∀ (vs : List Value) (o : Nat) (W : World) (cur : Array Value), W.heap[g]? = some (.cells cur T (0, 0)) →
    ∃ cur', (W.setCells g o vs).heap[g]? = some (.cells cur' T (0, 0)) ∧ (∀ i, i < o → cur'[i]? = cur[i]?) ∧ Upd (fun k => k = g) W (W.setCells g o vs) ∧ cur'.size = cur.size := by
  intro vs
  induction vs with
  | nil => intro o W cur h; exact ⟨cur, h, fun _ _ => rfl, Upd.refl _ _, rfl⟩
  | cons v vs ih =>
    intro o W cur h
    have h1 := heap_setCell_same W g o _ _ v h
    obtain ⟨cur', h2, h3, h4, h5⟩ := ih (o + 1) _ _ h1
    refine ⟨cur', h2, fun i hi => ?_, ((Upd.refl (fun k => k = g) W).setCell ⟨g, o, none⟩ rfl v).trans h4 (fun _ _ h => h), by rw [h5]; simp⟩
    rw [h3 i (by omega), Array.getElem?_setIfInBounds_ne (by omega)]
theorem ERow.clear {K M : List Ent} (h : ERow w0 W g (K ++ M)) (vs : List Value) : ERow w0 (W.setCells g (K.length * 4) vs) g K := by
  obtain ⟨cur, hrow, r, hr⟩ := h.row
  obtain ⟨cur', h2, h3, h4, h5⟩ := setCells_row (g := g) _ vs (K.length * 4) W cur hrow
  refine ⟨h.lt, h.up.trans h4 (fun _ _ h => h), ⟨cur', h2, ?_⟩, erow_sz h.sz hrow h2 h5⟩
  rw [List.prefix_iff_getElem?]
  intro i hi
  have hl := entv_length K
  rw [Array.getElem?_toList, h3 i (by omega), ← Array.getElem?_toList, ← hr, entv_append, List.append_assoc, List.getElem?_append_left hi, List.getElem?_eq_getElem hi]
theorem ERow.there {l : List Ent} (h : ERow w0 W g l) (j : Nat) (hj : j < l.length * 4) : (W.cell? ⟨g, j, none⟩).isSome = true := by
  obtain ⟨cur, hrow, r, hr⟩ := h.row
  rw [cell_of_row W g j _ _ _ hrow, ← Array.getElem?_toList, ← hr, List.getElem?_append_left (by rw [entv_length]; exact hj)]
  rw [List.getElem?_eq_getElem (by rw [entv_length]; exact hj)]; rfl
/-- 'clear(s[k:])' of a row of versions. -/
theorem run_clear_ents {K M : List Ent} (h : ERow w0 W g (K ++ M)) (hM : 0 < M.length) (c : Nat) : ∃ vs, ∀ ty, (Builtin.clear_ #[22] ty #[.slice (some ⟨g, K.length * 4, none⟩) M.length c]).run Try.prog W = .ok (.tuple #[]) (W.setCells g (K.length * 4) vs) := by
  obtain ⟨z, hz⟩ : ∃ z, z = (Builtin.zeroCells (Value.agg #[.string ⟨#[]⟩, .int .i64 0, .bool false, .string ⟨#[]⟩]).cells M.length).toList := ⟨_, rfl⟩
  have hzl : z.length = M.length * 4 := by rw [hz]; simp [size_zeroCells, Value.cells]
  have h1 : ∀ v ∈ z, v.oneCell' = true := by
    intro v hv
    rw [hz] at hv
    simp [Builtin.zeroCells, Value.cells] at hv
    obtain ⟨i, _, rfl⟩ := hv
    have : i % 4 < 4 := Nat.mod_lt _ (by decide)
    obtain h | h | h | h : i % 4 = 0 ∨ i % 4 = 1 ∨ i % 4 = 2 ∨ i % 4 = 3 := by omega
    all_goals (simp only [h]; rfl)
  have hst := run_storeCells_cells (P := Try.prog) g (K.length * 4) z 0 W (fun j hj => h.there _ (by rw [List.length_append]; omega)) (fun j _ => h.free _) h1
  simp only [Nat.add_zero] at hst
  refine ⟨z, fun ty => ?_⟩
  obtain ⟨m, hm⟩ : ∃ m, M.length = m + 1 := ⟨M.length - 1, by omega⟩
  rw [hm] at hz ⊢
  simp [Builtin.clear_, run_underlying Try.underlying22, Try.zeroValue26, ← hz, hst]
end
set_option maxHeartbeats 1000000 in
theorem mcl_any (w : World) (x1 : ByteArray) (x2 : Int) (x3 : Bool) (x4 y1 : ByteArray) (y2 : Int) (y3 : Bool) (y4 : ByteArray) (r : Bool) (h : (cmpE ⟨x1, x2, x3, x4⟩ ⟨y1, y2, y3, y4⟩ == 0) = r) :
    Calls Try.prog 50 #[.agg #[.string x1, .int .i64 x2, .bool x3, .string x4], .agg #[.string y1, .int .i64 y2, .bool y3, .string y4]] w fun e w' => e = .returned (.bool r) ∧ Below w.heap.size w w' := by
  have HC := Lib.hid (fun W => mcmp_any W ⟨x1, x2, x3, x4⟩ ⟨y1, y2, y3, y4⟩)
  obtain ⟨z, hz⟩ : ∃ z, cmpE ⟨x1, x2, x3, x4⟩ ⟨y1, y2, y3, y4⟩ = z := ⟨_, rfl⟩
  rw [hz] at HC h
  subst h
  clear hz
  go_enter Try.func50, Try.ntmps50
  go_wp2_with fail
  refine (HC.out _).mono ?_
  rintro e w2 ⟨rfl, hb⟩
  have HB := Lib.hid ((((Below.refl w.heap.size w).alloc (Nat.le_refl _) _).alloc (by simp) _).trans (hb.mono (by simp; omega)))
  clear hb
  go_wp2
  go_ret
  exact ⟨rfl, HB.out⟩
set_option maxHeartbeats 8000000 in
set_option maxRecDepth 20000 in
theorem compact_any (w0 W : World) (g c n : Nat) (l : List Ent) (h : ERow w0 W g l) (hn : n = l.length) (hc : n ≤ c) (hbig : n ≤ 1099511627776) (hcm : c ≤ 9223372036854775807) :
    Calls Try.prog 49 #[.slice (some ⟨g, 0, none⟩) n c, .func (.func 50) #[] #[]] W fun e w' => e = .returned (.slice (some ⟨g, 0, none⟩) (dd l).length c) ∧ ERow w0 w' g (dd l) := by
  have HN := Lib.hid hn
  have H0 := Lib.hid h
  clear h hn
  by_cases h2 : n < 2
  · have hd : dd l = l := by
      have := HN.out
      cases l with
      | nil => rfl
      | cons x l => cases l with
        | nil => rfl
        | cons y l => simp at this; omega
    have HD := Lib.hid hd
    clear hd
    go_enter Try.func49, Try.ntmps49
    go_wp2
    go_ret
    rw [HD.out, ← HN.out]
    exact ⟨rfl, H0.out⟩
  · have h2' : ¬ (n : Int) < 2 := by omega
    go_enter Try.func49, Try.ntmps49
    go_wp2
    go_loopw [5] (fun kv wx => ∃ k : Nat, kv = .int .i64 k ∧ 1 ≤ k ∧ k ≤ n ∧ Hid (dd (l.take k) = l.take k) ∧ Hid (ERow w0 wx g l)) (fun kv _ => n - (intOf kv).toNat)
    case atStart =>
      refine ⟨1, rfl, Nat.le_refl _, by omega, Lib.hid ?_, H0⟩
      cases l with
      | nil => rfl
      | cons x l => simp [dd, ddp]
    case round =>
      obtain ⟨k, rfl, k1, k2, HK, HR⟩ := hrel
      by_cases hkn : k < n
      · have hkl : k < l.length := by rw [← HN.out]; exact hkn
        have HT := Lib.hid (dd_take l k k1 hkl)
        obtain ⟨q, rfl⟩ : ∃ q, k = q + 1 := ⟨k - 1, by omega⟩
        have hx : l[q + 1]? = some l[q + 1] := List.getElem?_eq_getElem hkl
        have hy : l[q]? = some (l[q]'(by omega)) := List.getElem?_eq_getElem (by omega)
        have hci := HR.out.look hx
        have hcj := HR.out.look hy
        have HE := Lib.hid (List.take_succ_eq_append_getElem hkl)
        simp only [Nat.add_sub_cancel] at HT
        obtain ⟨x, hxx⟩ : ∃ x, l[q + 1] = x := ⟨_, rfl⟩
        obtain ⟨y, hyy⟩ : ∃ y, (l[q]'(by omega)) = y := ⟨_, rfl⟩
        rw [hxx] at hci HE
        rw [hyy] at hcj
        simp only [hxx, hyy] at HT
        have hwp : IntKind.i64.wrap (q : Int) = (q : Int) := by rw [IntKind.wrap_i64]; omega
        have o1 : ((q : Int) + 1).toNat = q + 1 := by omega
        have pz : (q : Int) + 1 < (n : Int) := by omega
        have pz1 : (q : Int) < (n : Int) := by omega
        have p0 : (0 : Int) ≤ (q : Int) + 1 := by omega
        clear hx hy hxx hyy hkl
        obtain ⟨x1, x2, x3, x4⟩ := x
        obtain ⟨y1, y2, y3, y4⟩ := y
        obtain ⟨p1, p2, p3, p4⟩ := hci
        obtain ⟨r1, r2, r3, r4⟩ := hcj
        obtain ⟨rb, hrb⟩ : ∃ rb, (cmpE ⟨x1, x2, x3, x4⟩ ⟨y1, y2, y3, y4⟩ == 0) = rb := ⟨_, rfl⟩
        have HCmp := Lib.hid (fun W => mcl_any W x1 x2 x3 x4 y1 y2 y3 y4 rb hrb)
        have HZ := Lib.hid hrb
        have HD := Lib.hid HR.out.drew
        clear hrb
        go_wp2
        go_still_tail 10, (by kernel_rfl)
        repeat still_step
        try refine wpStill_nil ?_
        change wpList _ _ _ _ _ wr.drew
        clear p1 p2 p3 p4 r1 r2 r3 r4
        go_wp2_with fail
        refine (HCmp.out _).mono ?_
        rintro e w2 ⟨rfl, hb2⟩
        have HR2 := Lib.hid (HD.out.below hb2)
        clear hb2 HCmp HD
        cases rb with
        | false =>
          have hne : ¬ cmpE ⟨x1, x2, x3, x4⟩ ⟨y1, y2, y3, y4⟩ = 0 := by simpa using HZ.out
          have HK2 : Hid (dd (l.take (q + 1 + 1)) = l.take (q + 1 + 1)) := Lib.hid (by rw [HT.out, if_neg hne, HK.out, HE.out])
          clear hne
          go_wp2
          go_roundw
          case rel => exact ⟨q + 1 + 1, by go_num, by omega, by omega, HK2, HR2⟩
          case measure => simp [intOf]; omega
        | true =>
          have heq : cmpE ⟨x1, x2, x3, x4⟩ ⟨y1, y2, y3, y4⟩ = 0 := by simpa using HZ.out
          have hdd : dd (l.take (q + 1 + 1)) = l.take (q + 1) := by rw [HT.out, if_pos heq, HK.out, List.append_nil]
          have HST : Hid (∃ M, q + 1 = (dd (l.take (q + 1 + 1))).length ∧ ERow w0 w2 g (dd (l.take (q + 1 + 1)) ++ M) ∧ q + 1 + M.length = n ∧ ∀ j, q + 1 ≤ j → (dd (l.take (q + 1 + 1)) ++ M)[j]? = l[j]?) := Lib.hid (by
            have hn := HN.out
            refine ⟨l.drop (q + 1), by rw [hdd, List.length_take]; omega, ?_, by rw [List.length_drop]; omega, fun j _ => ?_⟩
            · rw [hdd, List.take_append_drop]; exact HR2.out
            · rw [hdd, List.take_append_drop])
          have kc : q + 1 ≤ c := by omega
          have kc2 : ¬ c = q + 1 := by omega
          have kcz : (q : Int) + 1 ≤ (c : Int) := by omega
          clear heq hdd HR HR2 HT HE HK HZ hwp
          go_wp2
          go_loopw [5, 7] (fun kv jv wx => ∃ kk p : Nat, kv = .int .i64 kk ∧ jv = .int .i64 ((p : Int) + 1) ∧ q + 1 + (p + 1) ≤ n ∧ kk ≤ q + 1 + p ∧ Hid (∃ M, kk = (dd (l.take (q + 1 + (p + 1)))).length ∧ ERow w0 wx g (dd (l.take (q + 1 + (p + 1))) ++ M) ∧ kk + M.length = n ∧ ∀ j, q + 1 + p ≤ j → (dd (l.take (q + 1 + (p + 1))) ++ M)[j]? = l[j]?)) (fun _ jv _ => n - (intOf jv).toNat)
          case atStart => exact ⟨q + 1, 0, by go_num, rfl, by omega, by omega, HST⟩
          case round =>
            clear HST
            obtain ⟨kk, p, rfl, rfl, h3, h4, HST⟩ := hrel
            by_cases hlt : q + 1 + (p + 1) < n
            · obtain ⟨M, m1, m2, m3, m4⟩ := HST.out
              have htl : q + 1 + (p + 1) < l.length := by rw [← HN.out]; exact hlt
              have HT := Lib.hid (dd_take l (q + 1 + (p + 1)) (by omega) htl)
              have hx : l[q + 1 + (p + 1)]? = some l[q + 1 + (p + 1)] := List.getElem?_eq_getElem htl
              have hy : l[q + 1 + p]? = some (l[q + 1 + p]'(by omega)) := List.getElem?_eq_getElem (by omega)
              simp only [show q + 1 + (p + 1) - 1 = q + 1 + p by omega] at HT
              obtain ⟨x, hxx⟩ : ∃ x, l[q + 1 + (p + 1)] = x := ⟨_, rfl⟩
              obtain ⟨y, hyy⟩ : ∃ y, (l[q + 1 + p]'(by omega)) = y := ⟨_, rfl⟩
              rw [hxx] at hx
              rw [hyy] at hy
              simp only [hxx, hyy] at HT
              have hci := m2.look (k := q + 1 + (p + 1)) (by rw [m4 _ (by omega)]; exact hx)
              have hcj := m2.look (k := q + 1 + p) (by rw [m4 _ (by omega)]; exact hy)
              obtain ⟨K, hK⟩ : ∃ K, dd (l.take (q + 1 + (p + 1))) = K := ⟨_, rfl⟩
              rw [hK] at m1 m2 m4 HT
              have HR := Lib.hid m2
              have HM := Lib.hid (And.intro m1 (And.intro m3 m4))
              have HKK := Lib.hid hK
              rw [show (q + 1 + (p + 1)) * 4 = (q + 1) * 4 + (p + 1) * 4 by omega] at hci
              rw [show (q + 1 + p) * 4 = (q + 1) * 4 + p * 4 by omega] at hcj
              have hwp : IntKind.i64.wrap (p : Int) = (p : Int) := by rw [IntKind.wrap_i64]; omega
              have o1 : ((p : Int) + 1).toNat = p + 1 := by omega
              have nz : (p : Int) + 1 < ((n - (q + 1) : Nat) : Int) := by omega
              have nz1 : (p : Int) < ((n - (q + 1) : Nat) : Int) := by omega
              have p0 : (0 : Int) ≤ (p : Int) + 1 := by omega
              have HX := Lib.hid hx
              clear m1 m2 m3 m4 hK hx hy hxx hyy htl HST
              obtain ⟨x1, x2, x3, x4⟩ := x
              obtain ⟨y1, y2, y3, y4⟩ := y
              obtain ⟨p1, p2, p3, p4⟩ := hci
              obtain ⟨r1, r2, r3, r4⟩ := hcj
              obtain ⟨rb, hrb⟩ : ∃ rb, (cmpE ⟨x1, x2, x3, x4⟩ ⟨y1, y2, y3, y4⟩ == 0) = rb := ⟨_, rfl⟩
              have HCmp := Lib.hid (fun W => mcl_any W x1 x2 x3 x4 y1 y2 y3 y4 rb hrb)
              have HZ := Lib.hid hrb
              have HD := Lib.hid HR.out.drew
              clear hrb
              go_wp2
              go_still_tail 10, (by kernel_rfl)
              repeat still_step
              try refine wpStill_nil ?_
              change wpList _ _ _ _ _ wr.drew
              clear p1 p2 p3 p4 r1 r2 r3 r4
              go_wp2_with fail
              refine (HCmp.out _).mono ?_
              rintro e w2 ⟨rfl, hb2⟩
              have HR2 := Lib.hid (HD.out.below hb2)
              clear hb2 HCmp HD
              cases rb with
              | true =>
                have heq : cmpE ⟨x1, x2, x3, x4⟩ ⟨y1, y2, y3, y4⟩ = 0 := by simpa using HZ.out
                have HST : Hid (∃ M, kk = (dd (l.take (q + 1 + (p + 1 + 1)))).length ∧ ERow w0 w2 g (dd (l.take (q + 1 + (p + 1 + 1))) ++ M) ∧ kk + M.length = n ∧ ∀ j, q + 1 + (p + 1) ≤ j → (dd (l.take (q + 1 + (p + 1 + 1))) ++ M)[j]? = l[j]?) := Lib.hid (by
                  obtain ⟨m1, m3, m4⟩ := HM.out
                  have e : dd (l.take (q + 1 + (p + 1 + 1))) = K := by rw [show q + 1 + (p + 1 + 1) = q + 1 + (p + 1) + 1 by omega, HT.out, if_pos heq, List.append_nil]
                  rw [e]
                  exact ⟨M, m1, HR2.out, m3, fun j hj => m4 j (by omega)⟩)
                clear heq HM HR HR2 HT
                go_wp2
                go_roundw
                case rel => exact ⟨kk, p + 1, rfl, by go_num, by omega, by omega, HST⟩
                case measure => simp [intOf]; omega
              | false =>
                have hne : ¬ cmpE ⟨x1, x2, x3, x4⟩ ⟨y1, y2, y3, y4⟩ = 0 := by simpa using HZ.out
                obtain ⟨m1, m3, m4⟩ := HM.out
                obtain ⟨m0, M', rfl⟩ : ∃ m0 M', M = m0 :: M' := by
                  cases M with
                  | nil => simp at m3; omega
                  | cons m0 M' => exact ⟨m0, M', rfl⟩
                have hput := HR2.out.put kk (by rw [List.length_append, ← m1, m3]; omega) ⟨x1, x2, x3, x4⟩
                rw [List.set_append_right _ _ (by omega), ← m1, Nat.sub_self, List.set_cons_zero] at hput
                have hci := HR2.out.look (k := q + 1 + (p + 1)) (x := ⟨x1, x2, x3, x4⟩) (by rw [m4 _ (by omega)]; exact HX.out)
                rw [show (q + 1 + (p + 1)) * 4 = (q + 1) * 4 + (p + 1) * 4 by omega] at hci
                obtain ⟨p1, p2, p3, p4⟩ := hci
                have hfr := HR2.out.free
                have f1 := hfr (kk * 4)
                have f2 := hfr (kk * 4 + 1)
                have f3 := hfr (kk * 4 + 2)
                have f4 := hfr (kk * 4 + 3)
                have t1 : (w2.cell? ⟨g, kk * 4, none⟩).isSome = true := HR2.out.there _ (by rw [List.length_append, ← m1, m3]; omega)
                have t2 : (w2.cell? ⟨g, kk * 4 + 1, none⟩).isSome = true := HR2.out.there _ (by rw [List.length_append, ← m1, m3]; omega)
                have t3 : (w2.cell? ⟨g, kk * 4 + 2, none⟩).isSome = true := HR2.out.there _ (by rw [List.length_append, ← m1, m3]; omega)
                have t4 : (w2.cell? ⟨g, kk * 4 + 3, none⟩).isSome = true := HR2.out.there _ (by rw [List.length_append, ← m1, m3]; omega)
                obtain ⟨z1, hz1⟩ := Option.isSome_iff_exists.1 t1
                obtain ⟨z2, hz2⟩ := Option.isSome_iff_exists.1 t2
                obtain ⟨z3, hz3⟩ := Option.isSome_iff_exists.1 t3
                obtain ⟨z4, hz4⟩ := Option.isSome_iff_exists.1 t4
                have kn : kk < n := by omega
                have HST : Hid (∃ M, kk + 1 = (dd (l.take (q + 1 + (p + 1 + 1)))).length ∧ ERow w0 (put4 w2 g kk ⟨x1, x2, x3, x4⟩) g (dd (l.take (q + 1 + (p + 1 + 1))) ++ M) ∧ kk + 1 + M.length = n ∧ ∀ j, q + 1 + (p + 1) ≤ j → (dd (l.take (q + 1 + (p + 1 + 1))) ++ M)[j]? = l[j]?) := Lib.hid (by
                  have e : dd (l.take (q + 1 + (p + 1 + 1))) = K ++ [⟨x1, x2, x3, x4⟩] := by rw [show q + 1 + (p + 1 + 1) = q + 1 + (p + 1) + 1 by omega, HT.out, if_neg hne]
                  rw [e]
                  refine ⟨M', by rw [List.length_append, ← m1]; rfl, by simpa using hput, by simp at m3; omega, fun j hj => ?_⟩
                  rw [← m4 j (by omega)]
                  exact look_past (by omega))
                clear hne HM HR HR2 HT m1 m3 m4 hput hfr t1 t2 t3 t4
                go_wp2
                go_roundw
                case rel => exact ⟨kk + 1, p + 1, by go_num, by go_num, by omega, by omega, HST⟩
                case measure => simp [intOf]; omega
            · obtain ⟨M, m1, m2, m3, m4⟩ := HST.out
              have hn := HN.out
              rw [List.take_of_length_le (by omega)] at m1 m2
              have hml : M.length = n - kk := by omega
              obtain ⟨vs, hcl⟩ := run_clear_ents m2 (by omega) (c - kk)
              have HE := Lib.hid (m2.clear vs)
              rw [← m1, hml] at hcl
              rw [← m1] at HE
              have HM1 := Lib.hid m1
              have kcz2 : kk ≤ c := by omega
              have kc3 : ¬ c = kk := by omega
              have nz : ¬ (p : Int) + 1 < ((n - (q + 1) : Nat) : Int) := by omega
              clear m1 m2 m3 m4 hn hml HST
              go_wp2
              go_ret
              rw [← HM1.out]
              exact ⟨rfl, HE.out⟩
      · have hdd : dd l = l := by
          have h := HK.out
          rwa [List.take_of_length_le (by rw [← HN.out]; omega)] at h
        have HD := Lib.hid hdd
        have hkz : ¬ (k : Int) < (n : Int) := by omega
        clear hdd HK
        go_wp2
        go_ret
        rw [HD.out, ← HN.out]
        exact ⟨rfl, HR.out⟩
end Go.Proofs.Ytcfgmkiohmbdlaa
