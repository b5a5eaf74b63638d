/- Tables in memory: Add, walked. -/
import Derived.Test.YtcfgmkiohmbdlaaMmAddP
import Derived.Deep.CutBlock
import Derived.Deep.DeepCutAuto
namespace Go.Proofs.Ytcfgmkiohmbdlaa
open Go.RowKit
theorem upd_setRow (w : World) (g : Nat) (cs : Array Value) : Upd (fun k => k = g) w (w.setRow g cs) := ⟨rfl, rfl, rfl, by simp [World.setRow], fun k _ hk => setRow_other w g k cs hk⟩
/-- An array is laid into its block: the world behind it by a name. -/
theorem wpList_store_rowAt {P : Program} {ops : Array Oper} {rest : List Oper} {o : Oper} {a : Act} {w : World} {Q : Exit → Act → World → Prop} (hgd : o.guard = none) (ty : TypeId) (x y : Operand) (ho : o.op = .store ty x y)
    (hd : o.dst = none) (g : Nat) (cells : Array Value) (hx : a.eval x = .pointer (some ⟨g, 0, none⟩)) (hy : a.eval y = .agg cells)
    (t : TypeId) (old : Array Value) (hg : w.heap[g]? = some (.cells old t (0, 0))) (hi : (P.info? ty).map (·.size) = some cells.size)
    (hold : old.size = cells.size) (h1 : cells.all (·.oneCell') = true)
    (h : ∀ W, W.heap[g]? = some (.cells cells t (0, 0)) → Upd (fun k => k = g) w W → wpList P ops Q rest a W) : wpList P ops Q (o :: rest) a w :=
  wpList_store_rowTo hgd ty x y ho hd g cells hx hy t old hg hi hold h1 (h _ (setRow_heap _ _ _ _ _ _ hg) (upd_setRow _ _ _))
theorem sizE_take (l : List Ent) (k : Nat) : sizE (l.take k) ≤ sizE l := by
  have : sizE l = sizE (l.take k) + sizE (l.drop k) := by rw [← sizE_append, List.take_append_drop]
  omega
section
variable {w w' : World} {B t : Nat} {ns : List Nd} {turn : Int} {hv : Value} {hs : List Int}
theorem Skip.cell0 {n bytes : Int} (h : Skip w B t ns n bytes hv hs turn) : w.cell? ⟨t, 0, none⟩ = some (.int .i64 n) := by rw [cell_of_row w t 0 _ _ _ h.tab]; rfl
theorem Skip.cell1 {n bytes : Int} (h : Skip w B t ns n bytes hv hs turn) : w.cell? ⟨t, 1, none⟩ = some (.int .i64 bytes) := by rw [cell_of_row w t 1 _ _ _ h.tab]; rfl
theorem foot_base {n bytes : Int} (h : Skip w B t ns n bytes hv hs turn) (k : Nat) (hk : foot t ns k) : B ≤ k ∧ k < w.heap.size := by
  rcases hk with rfl | ⟨d, hd, rfl⟩
  · exact ⟨h.tbase, h.tlt⟩
  · obtain ⟨i, hi, rfl⟩ := List.mem_iff_getElem.1 hd
    exact ⟨(h.nbase _ hd).1, h.nlt i hi⟩
theorem added_old (h : Skip w B t ns ns.length (sizE (ents ns)) hv hs turn) (x y : Ent) (hx : x = clean y) (c : Nat) (hcc : c = cutOf ns x) (hc : c < ns.length) (hz : cmpE ns[c].x x = 0) (hu : Upd (fun k => k = t ∨ k = ns[c].b) w w')
    (ht : w'.heap[t]? = some (.cells (tabC ns.length ((sizE (ents ns) : Int) + ((x.val.size : Int) - ns[c].x.val.size)) ns hv turn).toArray 80 (0, 0)))
    (hn : w'.heap[ns[c].b]? = some (.cells (nodeF x (own ns[c] (ns.drop (c + 1)))).toArray 78 (0, 0))) :
    Added w w' B t ns (putN ns c x ns[c]) hv hs turn turn [y] := by
  obtain ⟨hk, hq⟩ := cmpE_zero hz
  have h1 := h.put c hc x hk.symm hq.symm hu ht hn
  have hlen : (putN ns c x ns[c]).length = ns.length := by unfold putN; rw [List.length_append, List.length_cons, List.length_take, List.length_drop]; omega
  have hs1 := siz_old (x := x) hc hk.symm
  have hcy : cutOf ns x = cutOf ns y := by unfold cutOf; simp only [hx, cmpE_clean]
  have hzy : cmpE ns[c].x y = 0 := by rw [hx, cmpE_clean] at hz; exact hz
  have hlist : ents (putN ns c x ns[c]) = insE (ents ns) y := by
    have e : c = cutOf ns y := by rw [hcc, hcy]
    subst e
    rw [hx]
    exact ins_old hc hzy
  have hvy : x.val.size ≤ y.val.size := by rw [hx]; exact clean_val y
  refine ⟨?_, hlist, Int.le_refl _, by show turn ≤ turn + ((1 : Nat) : Int); omega, by rw [hlen]; simp, ?_, ?_, ?_⟩
  · rw [hlen]
    have e : (sizE (ents (putN ns c x ns[c])) : Int) = (sizE (ents ns) : Int) + ((x.val.size : Int) - ns[c].x.val.size) := by omega
    rw [e]
    exact h1
  · rw [sizE_cons]; omega
  · exact hu.mono fun k _ hk => by
      rcases hk with rfl | rfl
      · exact .inl rfl
      · exact .inr ⟨_, List.getElem_mem hc, rfl⟩
  · intro d hd
    unfold putN at hd
    rw [List.mem_append, List.mem_cons] at hd
    rcases hd with hd | rfl | hd
    · exact .inl ⟨d, List.mem_of_mem_take hd, rfl⟩
    · exact .inl ⟨_, List.getElem_mem hc, rfl⟩
    · exact .inl ⟨d, List.mem_of_mem_drop hd, rfl⟩
theorem wrap64_small {a : Int} (h0 : -4611686018427387904 ≤ a) (h1 : a ≤ 4611686018427387904) : wrap64 a = a := by unfold wrap64; omega
theorem sizE_mem {l : List Ent} {x : Ent} (h : x ∈ l) : x.key.size + x.val.size ≤ sizE l := by
  obtain ⟨a, b, rfl⟩ := List.append_of_mem h
  rw [sizE_append, sizE_cons]
  omega
theorem heap_drew (w : World) : w.drew.heap = w.heap := rfl
theorem nodeF_put (x y : Ent) (f : Nat → Option Nat) : ((((nodeF y f).toArray.setIfInBounds 0 (.string x.key)).setIfInBounds 1 (.int .i64 x.seq)).setIfInBounds 2 (.bool x.dead)).setIfInBounds 3 (.string x.val) = (nodeF x f).toArray := rfl
theorem set_old {n bz turn : Int} (W : World) (bd : Nat) (hne : bd ≠ t) (y x : Ent) (f : Nat → Option Nat) (htab : W.heap[t]? = some (.cells (tabC n bz ns hv turn).toArray 80 (0, 0))) (hnode : W.heap[bd]? = some (.cells (nodeF y f).toArray 78 (0, 0))) (B' : Int) :
    (((((W.setCell ⟨t, 1, none⟩ (.int .i64 B')).setCell ⟨bd, 0, none⟩ (.string x.key)).setCell ⟨bd, 1, none⟩ (.int .i64 x.seq)).setCell ⟨bd, 2, none⟩ (.bool x.dead)).setCell ⟨bd, 3, none⟩ (.string x.val)).drew.heap[t]? = some (.cells (tabC n B' ns hv turn).toArray 80 (0, 0)) ∧
    (((((W.setCell ⟨t, 1, none⟩ (.int .i64 B')).setCell ⟨bd, 0, none⟩ (.string x.key)).setCell ⟨bd, 1, none⟩ (.int .i64 x.seq)).setCell ⟨bd, 2, none⟩ (.bool x.dead)).setCell ⟨bd, 3, none⟩ (.string x.val)).drew.heap[bd]? = some (.cells (nodeF x f).toArray 78 (0, 0)) ∧
    Upd (fun k => k = t ∨ k = bd) W (((((W.setCell ⟨t, 1, none⟩ (.int .i64 B')).setCell ⟨bd, 0, none⟩ (.string x.key)).setCell ⟨bd, 1, none⟩ (.int .i64 x.seq)).setCell ⟨bd, 2, none⟩ (.bool x.dead)).setCell ⟨bd, 3, none⟩ (.string x.val)).drew := by
  have a1 := heap_setCell_same W t 1 _ _ (.int .i64 B') htab
  have b1 : (W.setCell ⟨t, 1, none⟩ (.int .i64 B')).heap[bd]? = some (.cells (nodeF y f).toArray 78 (0, 0)) := by rw [heap_setCell_other _ _ _ _ hne]; exact hnode
  have b2 := heap_setCell_same _ bd 0 _ _ (.string x.key) b1
  have b3 := heap_setCell_same _ bd 1 _ _ (.int .i64 x.seq) b2
  have b4 := heap_setCell_same _ bd 2 _ _ (.bool x.dead) b3
  have b5 := heap_setCell_same _ bd 3 _ _ (.string x.val) b4
  rw [nodeF_put] at b5
  rw [heap_drew]
  refine ⟨?_, b5, ?_⟩
  · rw [heap_setCell_other _ _ _ _ (Ne.symm hne), heap_setCell_other _ _ _ _ (Ne.symm hne), heap_setCell_other _ _ _ _ (Ne.symm hne), heap_setCell_other _ _ _ _ (Ne.symm hne)]
    exact a1
  · exact (((((((Upd.refl (fun k => k = t ∨ k = bd) W).setCell ⟨t, 1, none⟩ (.inl rfl) _).setCell ⟨bd, 0, none⟩ (.inr rfl) _).setCell ⟨bd, 1, none⟩ (.inr rfl) _).setCell ⟨bd, 2, none⟩ (.inr rfl) _).setCell ⟨bd, 3, none⟩ (.inr rfl) _).drewN 1)
theorem Mid.count {n bytes turn : Int} {F : Nat → Nat → Option Nat} (h : Mid w t ns n bytes hv turn F) (hne : ∀ d ∈ ns, d.b ≠ t) (n' bytes' : Int) : Mid ((w.setCell ⟨t, 0, none⟩ (.int .i64 n')).setCell ⟨t, 1, none⟩ (.int .i64 bytes')).drew t ns n' bytes' hv turn F where
  tab := by
    have a1 := heap_setCell_same w t 0 _ _ (.int .i64 n') h.tab
    have a2 := heap_setCell_same _ t 1 _ _ (.int .i64 bytes') a1
    rw [heap_drew]
    exact a2
  node := fun i hi => by
    have := hne _ (List.getElem_mem hi)
    rw [heap_drew, heap_setCell_other _ _ _ _ this, heap_setCell_other _ _ _ _ this]
    exact h.node i hi
theorem cut_gt {n bytes turn : Int} (h : Skip w B t ns n bytes hv hs turn) (x : Ent) (c : Nat) (hcc : c = cutOf ns x) (hz : ¬ ∃ h : c < ns.length, cmpE ns[c].x x = 0) : ∀ j (hj : j < ns.length), c ≤ j → cmpE x ns[j].x < 0 := by
  intro j hj hcj
  have h1 : cmpE x (ns[c]'(by omega)).x < 0 := by
    have h2 := cutOf_ge ns x h.rise c (by omega) (by omega)
    have h3 : ¬ cmpE (ns[c]'(by omega)).x x = 0 := fun e => hz ⟨by omega, e⟩
    rw [cmpE_swap]
    omega
  rcases Nat.lt_or_ge c j with h4 | h4
  · exact cmpE_trans h1 (List.pairwise_iff_getElem.1 h.rise c j (by omega) hj h4)
  · have e : j = c := by omega
    subst e
    exact h1
theorem added_new {turn' : Int} (h : Skip w B t ns ns.length (sizE (ents ns)) hv hs turn) (x y : Ent) (hx : x = clean y) (c : Nat) (hcc : c = cutOf ns x) (hz : ¬ ∃ h : c < ns.length, cmpE ns[c].x x = 0) (N q : Nat)
    (hu : Upd (foot t ns) w w') (hN : w.heap.size ≤ N) (ht0 : turn ≤ turn') (ht1 : turn' ≤ turn + 1)
    (hsk : Skip w' B t (ns.take c ++ ⟨N, x, q⟩ :: ns.drop c) ((ns.length : Int) + 1) ((sizE (ents ns) : Int) + ((x.key.size : Int) + x.val.size)) hv hs turn') :
    Added w w' B t ns (ns.take c ++ ⟨N, x, q⟩ :: ns.drop c) hv hs turn turn' [y] := by
  have hcl : c ≤ ns.length := by rw [hcc]; exact cutOf_le _ _
  have hlen : (ns.take c ++ (⟨N, x, q⟩ : Nd) :: ns.drop c).length = ns.length + 1 := by rw [List.length_append, List.length_cons, List.length_take, List.length_drop]; omega
  have hcy : cutOf ns x = cutOf ns y := by unfold cutOf; simp only [hx, cmpE_clean]
  have hlist : ents (ns.take c ++ ⟨N, x, q⟩ :: ns.drop c) = insE (ents ns) y := by
    have e : c = cutOf ns y := by rw [hcc, hcy]
    subst e
    rw [hx] at hz ⊢
    refine ins_new fun hc h0 => hz ⟨hc, by rw [cmpE_clean]; exact h0⟩
  have hvy : x.val.size ≤ y.val.size := by rw [hx]; exact clean_val y
  have hky : x.key = y.key := by rw [hx]; exact clean_key y
  have hs1 := siz_new (ns := ns) (x := x) (N := N) (q := q) (c := c)
  refine ⟨?_, hlist, ht0, by simpa using ht1, by rw [hlen]; simp, ?_, hu, ?_⟩
  · rw [hlen, hs1]
    simpa using hsk
  · rw [hs1, sizE_cons, ← hky]; omega
  · intro d hd
    rw [List.mem_append, List.mem_cons] at hd
    rcases hd with hd | rfl | hd
    · exact .inl ⟨d, List.mem_of_mem_take hd, rfl⟩
    · exact .inr hN
    · exact .inl ⟨d, List.mem_of_mem_drop hd, rfl⟩
theorem add_nums {bz : Int} {E E0 T Lz kz vz yk yv : Nat} (hbz : bz = E) (hb : E ≤ E0 + T) (hyz : T + (yk + yv) ≤ Lz) (hzz : E0 + Lz ≤ 2305843009213693952) (hk : kz = yk) (hv : vz ≤ yv) :
    wrap64 ((kz : Int) + vz) = (kz : Int) + vz ∧ wrap64 (bz + ((kz : Int) + vz)) = bz + ((kz : Int) + vz) :=
  ⟨wrap64_small (by omega) (by omega), wrap64_small (by omega) (by omega)⟩
set_option maxHeartbeats 8000000 in
set_option maxRecDepth 20000 in
theorem add_any (w : World) (h : Skip w B t ns ns.length (sizE (ents ns)) hv hs turn) (A : Option Addr) (m c : Nat) (l : List Ent) (hr : Rd w w.heap.size 4 A m (entv l)) (hA : 0 < m → ∀ ad, A = some ad → ¬ foot t ns ad.block)
    (ht0 : 0 ≤ turn) (ht1 : turn + m ≤ 2305843009213693952) (hl : hs.length ≤ 17592186044416) (hn : ns.length + m ≤ 1099511627776) (hz : sizE (ents ns) + sizE l ≤ 2305843009213693952) :
    Calls Try.prog 21 #[.pointer (some ⟨t, 0, none⟩), .slice A m c] w fun e w' => ∃ ns' turn', e = .returned (.tuple #[]) ∧ Added w w' B t ns ns' hv hs turn turn' l := by
  have hml := rd_entlen hr
  have HSK := Lib.hid h
  have HR := Lib.hid hr
  have HA := Lib.hid hA
  have HZ := Lib.hid hz
  have hwB := h.tlt
  have HML := Lib.hid hml
  clear h hr hA hz hml
  go_enter Try.func21, Try.ntmps21
  go_wp2
  go_loopw [12] (fun kv wx => ∃ (k : Nat) (nk : List Nd) (tk : Int), k ≤ m ∧ kv = .int .i64 (k : Int) ∧ Hid (Added w wx B t ns nk hv hs turn tk (l.take k))) (fun kv _ => ((m : Int) - intOf kv).toNat)
  case atStart => exact ⟨0, ns, turn, Nat.zero_le _, rfl, Lib.hid (Added.refl HSK.out)⟩
  case round =>
    obtain ⟨k, nk, tk, hkm, rfl, HAD⟩ := hrel
    by_cases hlt : k < m
    · have hr2 := HR.out.upd HAD.out.upd (Nat.le_refl _) (fun h0 ad e => HA.out h0 ad e)
      obtain ⟨ab, ao, rfl, hab, hs0, d0, d1, d2, d3⟩ := hr2.ent hlt
      obtain ⟨y, hy⟩ : ∃ y, l[k] = y := ⟨_, rfl⟩
      rw [hy] at d0 d1 d2 d3
      have HY := Lib.hid hy
      have hk1 : 0 ≤ (k : Int) := by omega
      have hk2 : (k : Int) < m := by omega
      have hst : l.take (k + 1) = l.take k ++ [y] := by rw [List.take_succ_eq_append_getElem hs0, hy]
      have HST := Lib.hid hst
      have hyz : sizE (l.take k) + (y.key.size + y.val.size) ≤ sizE l := by
        have := sizE_take l (k + 1)
        rw [hst, sizE_append, sizE_cons] at this
        omega
      have HYZ := Lib.hid hyz
      clear hr2 hy hst hyz
      go_upto_if 17 with (fail)
      go_cut [5] (fun xv wc => xv = .pointer (some ⟨wr.heap.size, 0, none⟩) ∧ wc.heap[wr.heap.size]? = some (.cells (clean y).cells.toArray 26 (0, 0)) ∧ Upd (fun _ => False) wr wc)
      case first =>
        clear d0 d1 d2 d3
        obtain ⟨K, S, D, V⟩ := y
        have n1 := heap_alloc_new wr (.cells #[.string K, .int .i64 S, .bool D, .string V] 26)
        have u1 : Upd (fun _ => False) wr (wr.alloc (.cells #[.string K, .int .i64 S, .bool D, .string V] 26)) := (Upd.refl _ _).alloc _
        cases D with
        | false =>
          have N1 := Lib.hid n1
          clear n1
          go_wp2
          go_meet
          case rel => exact ⟨rfl, N1.out, u1⟩
        | true =>
          have c3 := cell_of_row _ wr.heap.size 3 _ _ _ n1
          have f3 := frozen_of_row _ wr.heap.size 3 _ _ n1
          have N1 := Lib.hid n1
          clear n1
          go_wp2
          go_meet
          case rel => exact ⟨rfl, heap_alloc_new wr (.cells #[.string K, .int .i64 S, .bool true, .string ⟨#[]⟩] 26), (Upd.refl _ _).alloc _⟩
      case rest =>
        obtain ⟨rfl, hx, hux⟩ := hcut
        clear d0 d1 d2 d3
        have hskc := HAD.out.skip.upd hux (fun _ _ _ h => h)
        obtain ⟨x, hxx⟩ : ∃ x, x = clean y := ⟨_, rfl⟩
        rw [← hxx] at hx
        have HXX := Lib.hid hxx
        clear hxx
        obtain ⟨K, S, D, V⟩ := x
        have c0 : wc.cell? ⟨wr.heap.size, 0, none⟩ = some (.string K) := by rw [cell_of_row _ _ 0 _ _ _ hx]; rfl
        have c1 : wc.cell? ⟨wr.heap.size, 1, none⟩ = some (.int .i64 S) := by rw [cell_of_row _ _ 1 _ _ _ hx]; rfl
        have c2 : wc.cell? ⟨wr.heap.size, 2, none⟩ = some (.bool D) := by rw [cell_of_row _ _ 2 _ _ _ hx]; rfl
        have c3 : wc.cell? ⟨wr.heap.size, 3, none⟩ = some (.string V) := by rw [cell_of_row _ _ 3 _ _ _ hx]; rfl
        have HAH := Lib.hid (ahead_any wc B t nk _ _ hv hs tk ⟨K, S, D, V⟩ (cutOf nk ⟨K, S, D, V⟩) hskc (cutOf_le _ _) (cutOf_lt _ _) (cutOf_ge _ _ hskc.rise))
        have HSC := Lib.hid hskc
        have HX := Lib.hid hx
        have HUX := Lib.hid hux
        clear hskc hx hux
        go_wp2_with fail
        refine HAH.out.mono ?_
        rintro e w1 ⟨⟨O, rfl, hO⟩, hb1⟩
        have hOs : O.toArray.size = 8 := by rw [List.size_toArray]; exact hO.1
        have h1c : O.toArray.all (·.oneCell') = true := by
          rw [Array.all_eq_true_iff_forall_mem]
          intro v hv
          rw [List.mem_toArray, List.mem_iff_getElem?] at hv
          obtain ⟨L, hL⟩ := hv
          have hl : L < 8 := by have := (List.getElem?_eq_some_iff.1 hL).1; rw [hO.1] at this; exact this
          obtain ⟨q, _, h2⟩ := hO.2 L (by omega) hl
          rw [hL] at h2
          injection h2 with h2
          rw [h2]; rfl
        have HO := Lib.hid hO
        clear hO c0 c1 c2 c3
        go_wp2_with (refine wpList_store_rowAt rfl 76 (.tmp 6) (.tmp 21) rfl rfl w1.heap.size O.toArray rfl rfl 76 _ (heap_alloc_new _ _) (by rw [hOs]; rfl) (by rw [hOs]; rfl) h1c ?_)
        intro w2 hO2 hu2
        have hq1 : wc.heap.size ≤ w1.heap.size := hb1.size
        have hu3 : Upd (fun _ => False) wc w2 := ((Upd.of_below (S := fun _ => False) hb1).alloc _).trans hu2 fun k hk e => by omega
        obtain ⟨ob, hob⟩ : ∃ ob, ob = w1.heap.size := ⟨_, rfl⟩
        have hobl : wc.heap.size ≤ ob := by omega
        rw [← hob] at hO2
        try rw [← hob]
        have hxl := (Array.getElem?_eq_some_iff.1 HX.out).1
        have hx2 : w2.heap[wr.heap.size]? = some (.cells (Ent.cells ⟨K, S, D, V⟩).toArray 26 (0, 0)) := (hu3.block _ hxl (fun h => h)).trans HX.out
        have sk2 := HSC.out.upd hu3 (fun _ _ _ h => h)
        clear hu2 HAH hb1 hob hq1
        obtain ⟨cc, hcc⟩ : ∃ cc, cc = cutOf nk ⟨K, S, D, V⟩ := ⟨_, rfl⟩
        have hccl : cc ≤ nk.length := by rw [hcc]; exact cutOf_le _ _
        have hO0 : O[0]? = some (pptr (pb t nk cc)) := by
          obtain ⟨q, hq, hq2⟩ := HO.out.2 0 (by decide) (by decide)
          rw [hq2, lp_zero hq (cutOf_le _ _) (fun d hd => (HSC.out.high d hd).1), hcc]
        have cn := sk2.next cc 0 hccl (by decide) (by
          obtain ⟨q, hq, hq2⟩ := HO.out.2 0 (by decide) (by decide)
          rw [lp_zero hq (cutOf_le _ _) (fun d hd => (HSC.out.high d hd).1), ← hcc] at hq
          exact hq.2.1)
        rw [nx0 (fun d hd => (HSC.out.high d (List.mem_of_mem_drop hd)).1), List.head?_drop] at cn
        obtain ⟨pk, po, hpb⟩ : ∃ pk po, pb t nk cc = (pk, po) := ⟨_, _, rfl⟩
        rw [hpb] at cn hO0
        change w2.cell? ⟨pk, po + 4 + 0, none⟩ = _ at cn
        change O[0]? = some (.pointer (some ⟨pk, po, none⟩)) at hO0
        rw [Nat.add_zero] at cn
        have cO : w2.cell? ⟨ob, 0, none⟩ = some (.pointer (some ⟨pk, po, none⟩)) := by rw [cell_of_row _ _ _ _ _ _ hO2, List.getElem?_toArray]; exact hO0
        obtain ⟨r, hr⟩ : ∃ r, r = pv ((nk[cc]?).map (·.b)) := ⟨_, rfl⟩
        rw [← hr] at cn
        have c0 : w2.cell? ⟨wr.heap.size, 0, none⟩ = some (.string K) := by rw [cell_of_row _ _ 0 _ _ _ hx2]; rfl
        have c1 : w2.cell? ⟨wr.heap.size, 1, none⟩ = some (.int .i64 S) := by rw [cell_of_row _ _ 1 _ _ _ hx2]; rfl
        have c2 : w2.cell? ⟨wr.heap.size, 2, none⟩ = some (.bool D) := by rw [cell_of_row _ _ 2 _ _ _ hx2]; rfl
        have c3 : w2.cell? ⟨wr.heap.size, 3, none⟩ = some (.string V) := by rw [cell_of_row _ _ 3 _ _ _ hx2]; rfl
        have HX2 := Lib.hid hx2
        have HSK2 := Lib.hid sk2
        have HU3 := Lib.hid (HUX.out.trans hu3 fun _ _ h => h)
        have hobx : wr.heap.size < ob := by omega
        have HHI := Lib.hid HSC.out.high
        have HCC := Lib.hid hcc
        have HRR := Lib.hid hr
        have HO2 := Lib.hid hO2
        clear hx2 sk2 hu3 hcc hr hpb hO0 hO2 HX
        clear HSC HUX hxl hobl
        go_upto_region 7 with (fail)
        go_cut [38] (fun bv wd => ∃ bb : Bool, bv = .bool bb ∧ Hid (bb = true ↔ ∃ h : cc < nk.length, cmpE nk[cc].x ⟨K, S, D, V⟩ = 0) ∧ Upd (fun _ => False) w2 wd)
        case first =>
          rcases Nat.lt_or_ge cc nk.length with hcl | hcl
          · obtain ⟨d, hd⟩ : ∃ d, d = nk[cc] := ⟨_, rfl⟩
            have hrd : r = .pointer (some ⟨d.b, 0, none⟩) := by rw [HRR.out, List.getElem?_eq_getElem hcl, hd]; rfl
            subst hrd
            have he := HSK2.out.ent cc hcl
            rw [← hd] at he
            obtain ⟨e0, e1, e2, e3⟩ := he
            have hbl : d.b < w2.heap.size := by rw [hd]; exact HSK2.out.nlt cc hcl
            obtain ⟨bd, yd, hh⟩ := d
            obtain ⟨K', S', D', V'⟩ := yd
            change bd < _ at hbl
            change w2.cell? ⟨bd, 0, none⟩ = some (.string K') at e0
            change w2.cell? ⟨bd, 1, none⟩ = some (.int .i64 S') at e1
            change w2.cell? ⟨bd, 2, none⟩ = some (.bool D') at e2
            change w2.cell? ⟨bd, 3, none⟩ = some (.string V') at e3
            obtain ⟨z, hz⟩ : ∃ z, z = cmpE ⟨K', S', D', V'⟩ ⟨K, S, D, V⟩ := ⟨_, rfl⟩
            have HD := Lib.hid hd
            have hX2l := (Array.getElem?_eq_some_iff.1 HX2.out).1
            have HS : Hid (∀ W', Below w2.heap.size w2 W' → Below w2.heap.size w2 W' ∧ W'.cell? ⟨bd, 0, none⟩ = some (.string K') ∧ W'.cell? ⟨bd, 1, none⟩ = some (.int .i64 S') ∧ W'.cell? ⟨bd, 2, none⟩ = some (.bool D') ∧ W'.cell? ⟨bd, 3, none⟩ = some (.string V') ∧ W'.cell? ⟨wr.heap.size, 0, none⟩ = some (.string K) ∧ W'.cell? ⟨wr.heap.size, 1, none⟩ = some (.int .i64 S) ∧ W'.cell? ⟨wr.heap.size, 2, none⟩ = some (.bool D) ∧ W'.cell? ⟨wr.heap.size, 3, none⟩ = some (.string V)) := Lib.hid fun W' hW => ⟨hW, (hW.cell (p := ⟨bd, 0, none⟩) hbl).trans e0, (hW.cell (p := ⟨bd, 1, none⟩) hbl).trans e1, (hW.cell (p := ⟨bd, 2, none⟩) hbl).trans e2, (hW.cell (p := ⟨bd, 3, none⟩) hbl).trans e3,
              (hW.cell (p := ⟨wr.heap.size, 0, none⟩) hX2l).trans c0, (hW.cell (p := ⟨wr.heap.size, 1, none⟩) hX2l).trans c1, (hW.cell (p := ⟨wr.heap.size, 2, none⟩) hX2l).trans c2, (hW.cell (p := ⟨wr.heap.size, 3, none⟩) hX2l).trans c3⟩
            have HCM : Hid (∀ W', Below w2.heap.size w2 W' → Calls Try.prog 58 #[.agg #[.string K', .int .i64 S', .bool D', .string V'], .agg #[.string K, .int .i64 S, .bool D, .string V]] W' (fun e w' => e = .returned (.int .i64 z) ∧ Below w2.heap.size w2 w')) := Lib.hid fun W' hW =>
              (cmp_any W' ⟨K', S', D', V'⟩ ⟨K, S, D, V⟩).mono fun e w' h => ⟨by rw [hz]; exact h.1, hW.trans (h.2.mono hW.size)⟩
            have hbW0 : Below w2.heap.size w2 w2 := Below.refl _ _
            have hbW1 : Below w2.heap.size w2 w2.drew := ⟨rfl, rfl, rfl, Nat.le_refl _, fun _ _ => rfl⟩
            have hzq : Hid (z = 0 ↔ ∃ h : cc < nk.length, cmpE nk[cc].x ⟨K, S, D, V⟩ = 0) := Lib.hid (by
              rw [hz]
              constructor
              · intro h
                exact ⟨hcl, by rw [← HD.out]; exact h⟩
              · rintro ⟨_, h⟩
                rw [← HD.out] at h
                exact h)
            clear hd hz cn cO
            by_cases hz0 : z = 0
            · first
                | go_region_held3 (fun W' => Below w2.heap.size w2 W' ∧ W'.cell? ⟨bd, 0, none⟩ = some (.string K') ∧ W'.cell? ⟨bd, 1, none⟩ = some (.int .i64 S') ∧ W'.cell? ⟨bd, 2, none⟩ = some (.bool D') ∧ W'.cell? ⟨bd, 3, none⟩ = some (.string V') ∧ W'.cell? ⟨wr.heap.size, 0, none⟩ = some (.string K) ∧ W'.cell? ⟨wr.heap.size, 1, none⟩ = some (.int .i64 S) ∧ W'.cell? ⟨wr.heap.size, 2, none⟩ = some (.bool D) ∧ W'.cell? ⟨wr.heap.size, 3, none⟩ = some (.string V)) (first | exact HS.out _ (by assumption) | assumption | fail) (first
                  | (go_at_call 58; refine (HCM.out _ (by first | assumption | exact And.left (by assumption))).mono ?_; rintro e w2 ⟨rfl, hb2⟩)
                  | fail)
                | fail
              go_wp2
              go_meet
              case rel => exact ⟨true, rfl, Lib.hid ⟨fun _ => hzq.out.1 hz0, fun _ => rfl⟩, Upd.of_below hb2⟩
            · first
                | go_region_held3 (fun W' => Below w2.heap.size w2 W' ∧ W'.cell? ⟨bd, 0, none⟩ = some (.string K') ∧ W'.cell? ⟨bd, 1, none⟩ = some (.int .i64 S') ∧ W'.cell? ⟨bd, 2, none⟩ = some (.bool D') ∧ W'.cell? ⟨bd, 3, none⟩ = some (.string V') ∧ W'.cell? ⟨wr.heap.size, 0, none⟩ = some (.string K) ∧ W'.cell? ⟨wr.heap.size, 1, none⟩ = some (.int .i64 S) ∧ W'.cell? ⟨wr.heap.size, 2, none⟩ = some (.bool D) ∧ W'.cell? ⟨wr.heap.size, 3, none⟩ = some (.string V)) (first | exact HS.out _ (by assumption) | assumption | fail) (first
                  | (go_at_call 58; refine (HCM.out _ (by first | assumption | exact And.left (by assumption))).mono ?_; rintro e w2 ⟨rfl, hb2⟩)
                  | fail)
                | fail
              go_wp2
              go_meet
              case rel => exact ⟨false, by rw [show (z == 0) = false from beq_eq_false_iff_ne.2 hz0], Lib.hid ⟨(fun h => by cases h), fun h => absurd (hzq.out.2 h) hz0⟩, Upd.of_below hb2⟩
          · have hrd : r = .pointer none := by rw [HRR.out, List.getElem?_eq_none hcl]; rfl
            subst hrd
            clear cn cO
            first
              | go_quiet (fail)
              | fail
            go_wp2
            go_meet
            case rel => exact ⟨false, rfl, Lib.hid ⟨(fun h => by cases h), fun h => by obtain ⟨h, _⟩ := h; omega⟩, (Upd.refl _ _).drewN _⟩
        case rest =>
          obtain ⟨bb, rfl, HB, hud⟩ := hcut
          clear c0 c1 c2 c3 cn cO
          have sk3 := HSK2.out.upd hud (fun _ _ _ h => h)
          have hU3 : Upd (fun _ => False) wr wc := HU3.out.trans hud fun _ _ h => h
          have hx3 : wc.heap[wr.heap.size]? = some (.cells (Ent.cells ⟨K, S, D, V⟩).toArray 26 (0, 0)) := (hud.block _ (Array.getElem?_eq_some_iff.1 HX2.out).1 (fun h => h)).trans HX2.out
          have hxlt := (Array.getElem?_eq_some_iff.1 hx3).1
          have hO3 : wc.heap[ob]? = some (.cells O.toArray 76 (0, 0)) := (hud.block _ (Array.getElem?_eq_some_iff.1 HO2.out).1 (fun h => h)).trans HO2.out
          have c0 : wc.cell? ⟨wr.heap.size, 0, none⟩ = some (.string K) := by rw [cell_of_row _ _ 0 _ _ _ hx3]; rfl
          have c1 : wc.cell? ⟨wr.heap.size, 1, none⟩ = some (.int .i64 S) := by rw [cell_of_row _ _ 1 _ _ _ hx3]; rfl
          have c2 : wc.cell? ⟨wr.heap.size, 2, none⟩ = some (.bool D) := by rw [cell_of_row _ _ 2 _ _ _ hx3]; rfl
          have c3 : wc.cell? ⟨wr.heap.size, 3, none⟩ = some (.string V) := by rw [cell_of_row _ _ 3 _ _ _ hx3]; rfl
          clear hud HU3 HX2 HO2 HSK2
          cases bb with
          | true =>
            obtain ⟨hcl, hz0⟩ := HB.out.1 rfl
            have hrd : r = .pointer (some ⟨nk[cc].b, 0, none⟩) := by rw [HRR.out, List.getElem?_eq_getElem hcl]; rfl
            obtain ⟨e0, e1, e2, e3⟩ := sk3.ent cc hcl
            have t1 := sk3.cell1
            have ft := sk3.free 1
            have hnl := sk3.nlt cc hcl
            have hnd := sk3.chain.at cc hcl
            obtain ⟨V', hV'⟩ : ∃ V', V' = nk[cc].x.val := ⟨_, rfl⟩
            rw [← hV'] at e3
            obtain ⟨bd, hbd⟩ : ∃ bd, bd = nk[cc].b := ⟨_, rfl⟩
            rw [← hbd] at hrd e0 e1 e2 e3 hnl hnd
            have hbt : bd ≠ t := by rw [hbd]; exact (sk3.nbase _ (List.getElem_mem hcl)).2
            have hbx : bd ≠ wr.heap.size := by
              have := HAD.out.skip.nlt cc hcl
              rw [← hbd] at this
              omega
            have htx : t ≠ wr.heap.size := by have := HAD.out.skip.tlt; omega
            have fd0 := frozen_of_row wc bd 0 _ _ hnd
            have fd1 := frozen_of_row wc bd 1 _ _ hnd
            have fd2 := frozen_of_row wc bd 2 _ _ hnd
            have fd3 := frozen_of_row wc bd 3 _ _ hnd
            subst hrd
            obtain ⟨bz, hbz⟩ : ∃ bz : Int, bz = (sizE (ents nk) : Int) := ⟨_, rfl⟩
            rw [← hbz] at t1
            have HBZ := Lib.hid hbz
            have HSK3 := Lib.hid sk3
            have HU4 := Lib.hid hU3
            have HND := Lib.hid hnd
            have HBD := Lib.hid hbd
            have HVV := Lib.hid hV'
            have HZ0 := Lib.hid hz0
            clear hbz sk3 hU3 hnd hbd hV' hz0 hx3 hO3
            go_wp2
            go_still_tail 19, (by kernel_rfl)
            change wpList _ _ _ _ _ wc.drew
            go_wp2
            refine ⟨⟨k + 1, putN nk cc ⟨K, S, D, V⟩ nk[cc], tk, by omega, rfl, Lib.hid ?_⟩, by simp [intOf]; omega⟩
            have hvz : V'.size ≤ sizE (ents nk) := by
              have := sizE_mem (l := ents nk) (x := nk[cc].x) (List.mem_map.2 ⟨_, List.getElem_mem hcl, rfl⟩)
              rw [HVV.out]; omega
            have hv2 : V.size ≤ y.val.size := by
              have := clean_val y
              rw [← HXX.out] at this
              exact this
            have hbnd := HAD.out.size
            have hyz := HYZ.out
            have hzz := HZ.out
            have hw1 : wrap64 ((V.size : Int) - V'.size) = (V.size : Int) - V'.size := wrap64_small (by omega) (by omega)
            have hw2 : wrap64 (bz + ((V.size : Int) - V'.size)) = bz + ((V.size : Int) - V'.size) := wrap64_small (by have := HBZ.out; omega) (by have := HBZ.out; omega)
            rw [hw1, hw2, HST.out]
            have htt := HSK3.out.tab
            rw [← HBZ.out] at htt
            obtain ⟨s1, s2, s3⟩ := set_old (t := t) (n := nk.length) (ns := nk) (hv := hv) (turn := tk) wc bd hbt nk[cc].x ⟨K, S, D, V⟩ (own nk[cc] (nk.drop (cc + 1))) htt HND.out (bz + ((V.size : Int) - V'.size))
            refine HAD.out.snoc (added_old HAD.out.skip ⟨K, S, D, V⟩ y HXX.out cc HCC.out hcl HZ0.out ?_ ?_ ?_)
            · have := HU4.out.mono (S' := fun k => k = t ∨ k = nk[cc].b) (fun _ _ h => h.elim)
              rw [← HBD.out] at this ⊢
              exact this.trans s3 fun _ _ h => h
            · rw [← HVV.out, ← HBZ.out]
              exact s1
            · rw [← HBD.out]
              exact s2
          | false =>
            have HO3 := Lib.hid hO3
            have HX3 := Lib.hid hx3
            have HSK3 := Lib.hid sk3
            have HU4 := Lib.hid hU3
            clear hO3 hx3 sk3 hU3
            obtain ⟨P, hP⟩ : ∃ P : Nat → Nat, ∀ L, L < 8 → IsLp nk cc L (P L) ∧ O[L]? = some (pptr (pb t nk (P L))) := by
              have h0 : ∀ L, L < 8 → ∃ q, IsLp nk cc L q ∧ O[L]? = some (pptr (pb t nk q)) := fun L hL => by
                rw [HCC.out]
                exact HO.out.2 L (by omega) hL
              exact ⟨fun L => if h : L < 8 then (h0 L h).choose else 0, fun L hL => by simp only [dif_pos hL]; exact (h0 L hL).choose_spec⟩
            have HP := Lib.hid hP
            clear hP HO h1c hOs
            go_wp2_with fail
            have un : Upd (fun _ => False) wc (wc.alloc (.cells #[.string K, .int .i64 S, .bool D, .string V, .pointer none, .pointer none, .pointer none, .pointer none, .pointer none, .pointer none, .pointer none, .pointer none] 78)) := (Upd.refl _ _).alloc _
            have nn : (wc.alloc (.cells #[.string K, .int .i64 S, .bool D, .string V, .pointer none, .pointer none, .pointer none, .pointer none, .pointer none, .pointer none, .pointer none, .pointer none] 78)).heap[wc.heap.size]? = some (.cells (nodeF ⟨K, S, D, V⟩ (fun _ => none)).toArray 78 (0, 0)) := heap_alloc_new wc _
            have htk0 := HAD.out.turn0
            have htk1 := HAD.out.turn1
            rw [List.length_take] at htk1
            refine (height_any _ (HSK3.out.upd un (fun _ _ _ h => h)) (by omega) (by omega) hl).mono ?_
            rintro e w3 ⟨q, tk', rfl, hq1, hq2, sk4, htk2, htk3, hu4⟩
            have hsz4 : wc.heap.size < w3.heap.size := by have := hu4.size; simp at this; omega
            have htn : t < wc.heap.size := HSK3.out.tlt
            have nn4 : w3.heap[wc.heap.size]? = some (.cells (nodeF ⟨K, S, D, V⟩ (fun _ => none)).toArray 78 (0, 0)) := (hu4.block _ (by simp) (by omega)).trans nn
            have ou4 : Upd (fun k => k = t) wc w3 := un.mono (S' := fun k => k = t) (fun _ _ h => h.elim) |>.trans hu4 fun _ _ h => h
            have hot : ob ≠ t := by
              have := HAD.out.skip.tlt
              omega
            have htx : t ≠ wr.heap.size := by have := HAD.out.skip.tlt; omega
            have hobl := (Array.getElem?_eq_some_iff.1 HO3.out).1
            have oo4 : w3.heap[ob]? = some (.cells O.toArray 76 (0, 0)) := (ou4.block _ hobl hot).trans HO3.out
            have xx4 : w3.heap[wr.heap.size]? = some (.cells (Ent.cells ⟨K, S, D, V⟩).toArray 26 (0, 0)) := (ou4.block _ hxlt (Ne.symm htx)).trans HX3.out
            have SK4 := Lib.hid sk4
            have OU4 := Lib.hid ou4
            have m4 : Hid (Mid w3 t nk nk.length (sizE (ents nk)) hv tk' (upF nk P wc.heap.size 0)) := Lib.hid (sk4.mid P _)
            clear nn un hu4 ou4 sk4 c0 c1 c2 c3
            go_wp2
            go_loopw [67] (fun lv wx => ∃ L : Nat, L ≤ q ∧ lv = .int .i64 (L : Int) ∧ Hid (Mid wx t nk nk.length (sizE (ents nk)) hv tk' (upF nk P wc.heap.size L)) ∧ wx.heap[wc.heap.size]? = some (.cells (nodeF ⟨K, S, D, V⟩ (fun K => if K < L then nx K (nk.drop cc) else none)).toArray 78 (0, 0)) ∧
              wx.heap[ob]? = some (.cells O.toArray 76 (0, 0)) ∧ wx.heap[wr.heap.size]? = some (.cells (Ent.cells ⟨K, S, D, V⟩).toArray 26 (0, 0)) ∧ Hid (Upd (fun k => foot t nk k ∨ k = wc.heap.size) w3 wx)) (fun lv _ => ((q : Int) - intOf lv).toNat)
            case atStart =>
              refine ⟨0, Nat.zero_le _, rfl, m4, ?_, oo4, xx4, Lib.hid (Upd.refl _ _)⟩
              rw [nn4]
              have : nodeF ⟨K, S, D, V⟩ (fun K => if K < 0 then nx K (nk.drop cc) else none) = nodeF ⟨K, S, D, V⟩ (fun _ => none) := nodeF_ext fun L _ => if_neg (by omega)
              rw [this]
            case round =>
              clear nn4 oo4 xx4 m4
              rename World => wy
              obtain ⟨L, hLq, rfl, hm, hn2, ho2, hx2, hu2⟩ := hrel
              by_cases hL : L < q
              · have hL8 : L < 8 := by omega
                obtain ⟨hp, hpo⟩ := HP.out L hL8
                obtain ⟨p, hpp⟩ : ∃ p, p = P L := ⟨_, rfl⟩
                rw [← hpp] at hp hpo
                have hpn : p ≤ nk.length := Nat.le_trans hp.1 hccl
                obtain ⟨pk, po, hpb⟩ : ∃ pk po, pb t nk p = (pk, po) := ⟨_, _, rfl⟩
                have cN := hm.out.next p L hpn hL8
                have fN := hm.out.free p L hpn
                have hbase : upF nk P wc.heap.size L p L = nx L (nk.drop cc) := by
                  unfold upF
                  rw [if_neg (by omega)]
                  have h1 : nx L (nk.drop p) = nx L (nk.drop cc) := by
                    have e : nk.drop p = (nk.drop p).take (cc - p) ++ nk.drop cc := by
                      have := List.take_append_drop (cc - p) (nk.drop p)
                      rw [List.drop_drop, show p + (cc - p) = cc by have := hp.1; omega] at this
                      exact this.symm
                    rw [e]
                    refine nx_skip fun d hd => ?_
                    rw [List.mem_take_iff_getElem] at hd
                    obtain ⟨j, hj, rfl⟩ := hd
                    rw [List.length_drop] at hj
                    have := hp.2.2 (p + j) (by omega) (by omega) (by omega)
                    rw [List.getElem_drop]
                    exact this
                  rcases Nat.eq_zero_or_pos p with h0 | h0
                  · subst h0
                    show nx L nk = _
                    rw [← h1, List.drop_zero]
                  · obtain ⟨p', rfl⟩ : ∃ p', p = p' + 1 := ⟨p - 1, by omega⟩
                    rw [baseF_succ nk p' L (by omega), own, if_pos]
                    · exact h1
                    · rcases hp.2.1 with h2 | ⟨h2, h3⟩
                      · omega
                      · simpa using h3
                rw [hbase] at cN
                rw [hpb] at cN fN hpo
                change wy.cell? ⟨pk, po + 4 + L, none⟩ = _ at cN
                change wy.frozen? ⟨pk, po + 4 + L, none⟩ = false at fN
                obtain ⟨nv, hnv⟩ : ∃ nv : Option Addr, .pointer nv = pv (nx L (nk.drop cc)) := ⟨_, rfl⟩
                rw [← hnv] at cN
                have cO : wy.cell? ⟨ob, L, none⟩ = some (.pointer (some ⟨pk, po, none⟩)) := by rw [cell_of_row _ _ _ _ _ _ ho2, List.getElem?_toArray]; exact hpo
                have c4 : wy.cell? ⟨wc.heap.size, 4 + L, none⟩ = some (pv none) := by
                  rw [cell_of_row _ _ _ _ _ _ hn2]
                  have := nodeF_get ⟨K, S, D, V⟩ (fun K => if K < L then nx K (nk.drop cc) else none) L hL8
                  rw [Nat.zero_add] at this
                  rw [this, if_neg (by omega)]
                have f4 : wy.frozen? ⟨wc.heap.size, 4 + L, none⟩ = false := frozen_of_row _ _ _ _ _ hn2
                have hpkN : pk ≠ wc.heap.size := by
                  have : (pb t nk p).1 < wc.heap.size := by
                    rcases Nat.eq_zero_or_pos p with h0 | h0
                    · subst h0
                      exact htn
                    · rw [show p = p - 1 + 1 by omega, pb_succ t nk (p - 1) (by omega)]
                      exact HSK3.out.nlt _ (by omega)
                  rw [hpb] at this
                  exact Nat.ne_of_lt this
                have hoN : ob ≠ wc.heap.size := by omega
                have l1 : (0 : Int) ≤ L := by omega
                have l2 : (L : Int) < 8 := by omega
                have l3 : (L : Int) < q := by omega
                have hpk2 : pk ≠ ob ∧ foot t nk pk := by
                  have h9 : foot t nk (pb t nk p).1 := by
                    rcases Nat.eq_zero_or_pos p with h0 | h0
                    · subst h0
                      exact .inl rfl
                    · rw [show p = p - 1 + 1 by omega, pb_succ t nk (p - 1) (by omega)]
                      exact .inr ⟨_, List.getElem_mem _, rfl⟩
                  rw [hpb] at h9
                  have := (foot_base HAD.out.skip pk h9).2
                  exact ⟨by omega, h9⟩
                have HNV := Lib.hid hnv
                have HPP := Lib.hid hpp
                have HPB := Lib.hid hpb
                have HN2 := Lib.hid hn2
                have HO2 := Lib.hid ho2
                have HX2 := Lib.hid hx2
                have HLP := Lib.hid hp
                clear hnv hpp hpb hn2 ho2 hx2 hp hpo hbase
                go_wp2
                go_still_tail 13, (by kernel_rfl)
                change wpList _ _ _ _ _ wy.drew
                go_wp2
                have hpk3 := foot_base HAD.out.skip pk hpk2.2
                have hNt : wc.heap.size ≠ t := by omega
                have u1 : Upd (fun k => k = wc.heap.size) wy (wy.setCell ⟨wc.heap.size, 4 + L, none⟩ (.pointer nv)) := (Upd.refl (fun k => k = wc.heap.size) wy).setCell ⟨wc.heap.size, 4 + L, none⟩ rfl _
                refine ⟨⟨L + 1, by omega, rfl, Lib.hid ?_, ?_, ?_, ?_, Lib.hid ?_⟩, by simp [intOf]; omega⟩
                · have m1 := hm.out.upd u1 (Ne.symm hNt) (fun d hd => by
                    obtain ⟨j, hj, rfl⟩ := List.mem_iff_getElem.1 hd
                    have := HSK3.out.nlt j hj
                    omega)
                  have m2 := m1.set (F' := upF nk P wc.heap.size (L + 1)) HSK3.out.nodup (fun d hd => (HSK3.out.nbase d hd).2) p L wc.heap.size hpn hL8 (fun p' K _ hK => by
                    unfold upF
                    by_cases e : p' = p ∧ K = L
                    · obtain ⟨rfl, rfl⟩ := e
                      rw [if_pos ⟨by omega, HPP.out.symm⟩, if_pos ⟨rfl, rfl⟩]
                    · rw [if_neg e]
                      by_cases e2 : K < L ∧ P K = p'
                      · rw [if_pos ⟨by omega, e2.2⟩, if_pos e2]
                      · rw [if_neg e2, if_neg]
                        rintro ⟨h1, h2⟩
                        rcases Nat.lt_or_ge K L with h3 | h3
                        · exact e2 ⟨h3, h2⟩
                        · have h4 : K = L := by omega
                          subst h4
                          exact e ⟨by rw [← h2, HPP.out], rfl⟩)
                  rw [HPB.out] at m2
                  exact m2.upd ((Upd.refl (fun _ => False) _).drewN 1) (fun h => h) (fun _ _ h => h)
                · rw [heap_drew, heap_setCell_other _ _ _ _ (Ne.symm hpkN), heap_setCell_same wy _ (4 + L) _ _ (.pointer nv) HN2.out]
                  have h1 := nodeF_set ⟨K, S, D, V⟩ (fun K => if K < L then nx K (nk.drop cc) else none) L (nx L (nk.drop cc)) hL8
                  rw [Nat.zero_add, ← HNV.out] at h1
                  rw [h1]
                  have h2 : nodeF ⟨K, S, D, V⟩ (fun K => if K = L then nx L (nk.drop cc) else if K < L then nx K (nk.drop cc) else none) = nodeF ⟨K, S, D, V⟩ (fun K => if K < L + 1 then nx K (nk.drop cc) else none) := nodeF_ext fun J _ => by
                    by_cases e : J = L
                    · subst e
                      rw [if_pos rfl, if_pos (by omega)]
                    · rw [if_neg e]
                      by_cases e2 : J < L
                      · rw [if_pos e2, if_pos (by omega)]
                      · rw [if_neg e2, if_neg (by omega)]
                  rw [h2]
                · rw [heap_drew, heap_setCell_other _ _ _ _ (Ne.symm hpk2.1), heap_setCell_other _ _ _ _ hoN]
                  exact HO2.out
                · rw [heap_drew, heap_setCell_other _ _ _ _ (by show wr.heap.size ≠ pk; omega), heap_setCell_other _ _ _ _ (by show wr.heap.size ≠ wc.heap.size; omega)]
                  exact HX2.out
                · exact (((hu2.out.setCell ⟨wc.heap.size, 4 + L, none⟩ (.inr rfl) _).setCell ⟨pk, po + 4 + L, none⟩ (.inl hpk2.2) _).drewN 1)
              · obtain rfl : L = q := by omega
                have t0 : wy.cell? ⟨t, 0, none⟩ = some (.int .i64 (nk.length : Int)) := by rw [cell_of_row _ _ 0 _ _ _ hm.out.tab]; rfl
                have t1 : wy.cell? ⟨t, 1, none⟩ = some (.int .i64 (sizE (ents nk) : Int)) := by rw [cell_of_row _ _ 1 _ _ _ hm.out.tab]; rfl
                have ft0 : wy.frozen? ⟨t, 0, none⟩ = false := frozen_of_row _ _ _ _ _ hm.out.tab
                have ft1 : wy.frozen? ⟨t, 1, none⟩ = false := frozen_of_row _ _ _ _ _ hm.out.tab
                have c0 : wy.cell? ⟨wr.heap.size, 0, none⟩ = some (.string K) := by rw [cell_of_row _ _ 0 _ _ _ hx2]; rfl
                have c3 : wy.cell? ⟨wr.heap.size, 3, none⟩ = some (.string V) := by rw [cell_of_row _ _ 3 _ _ _ hx2]; rfl
                have hnk : nk.length ≤ 1099511627776 := by
                  have := HAD.out.len
                  rw [List.length_take] at this
                  omega
                have hnk1 : (nk.length : Int) ≤ 1099511627776 := by omega
                obtain ⟨bz, hbz⟩ : ∃ bz : Int, bz = (sizE (ents nk) : Int) := ⟨_, rfl⟩
                rw [← hbz] at t1
                have HBZ := Lib.hid hbz
                have HN2 := Lib.hid hn2
                have HNK := Lib.hid hnk
                clear hbz hn2 ho2 hx2 hnk
                have b1 : (wy.setCell ⟨t, 0, none⟩ (.int .i64 ((nk.length : Int) + 1))).cell? ⟨t, 1, none⟩ = some (.int .i64 bz) := by rw [cell_of_row _ _ 1 _ _ _ (heap_setCell_same wy t 0 _ _ _ hm.out.tab), HBZ.out]; rfl
                have b2 : (wy.setCell ⟨t, 0, none⟩ (.int .i64 ((nk.length : Int) + 1))).frozen? ⟨t, 1, none⟩ = false := frozen_of_row _ _ _ _ _ (heap_setCell_same wy t 0 _ _ _ hm.out.tab)
                have b3 : (wy.setCell ⟨t, 0, none⟩ (.int .i64 ((nk.length : Int) + 1))).cell? ⟨wr.heap.size, 0, none⟩ = some (.string K) := by
                  rw [((Upd.refl (fun k => k = t) wy).setCell ⟨t, 0, none⟩ rfl _).cell (p := ⟨wr.heap.size, 0, none⟩) (World.cell?_lt c0) (Ne.symm htx)]; exact c0
                have b4 : (wy.setCell ⟨t, 0, none⟩ (.int .i64 ((nk.length : Int) + 1))).cell? ⟨wr.heap.size, 3, none⟩ = some (.string V) := by
                  rw [((Upd.refl (fun k => k = t) wy).setCell ⟨t, 0, none⟩ rfl _).cell (p := ⟨wr.heap.size, 3, none⟩) (World.cell?_lt c3) (Ne.symm htx)]; exact c3
                obtain ⟨w5, hw5⟩ : ∃ w5, w5 = wy.setCell ⟨t, 0, none⟩ (.int .i64 ((nk.length : Int) + 1)) := ⟨_, rfl⟩
                rw [← hw5] at b1 b2 b3 b4
                have HW5 := Lib.hid hw5
                go_wp2
                rw [← hw5]
                clear hw5 t0 t1 ft0 ft1 c0 c3
                go_still_tail 16, (by kernel_rfl)
                change wpList _ _ _ _ _ w5.drew
                go_wp2
                have hz : ¬ ∃ h : cc < nk.length, cmpE nk[cc].x ⟨K, S, D, V⟩ = 0 := fun h => absurd (HB.out.2 h) (by simp)
                have hv2 : V.size ≤ y.val.size := by
                  have := clean_val y
                  rw [← HXX.out] at this
                  exact this
                have hk2 : K.size = y.key.size := by
                  have := clean_key y
                  rw [← HXX.out] at this
                  exact congrArg ByteArray.size this
                obtain ⟨hw1, hw2⟩ := add_nums HBZ.out HAD.out.size HYZ.out HZ.out hk2 hv2
                rw [hw1, hw2, HW5.out]
                have hUF : Upd (fun k => foot t nk k ∨ k = wc.heap.size) wc ((wy.setCell ⟨t, 0, none⟩ (.int .i64 ((nk.length : Int) + 1))).setCell ⟨t, 1, none⟩ (.int .i64 (bz + ((K.size : Int) + V.size)))).drew :=
                  ((((OU4.out.mono (S' := fun k => foot t nk k ∨ k = wc.heap.size) (fun _ _ h => .inl (.inl h))).trans hu2.out fun _ _ h => h).setCell ⟨t, 0, none⟩ (.inl (.inl rfl)) _).setCell ⟨t, 1, none⟩ (.inl (.inl rfl)) _).drewN 1
                refine ⟨⟨k + 1, nk.take cc ++ ⟨wc.heap.size, ⟨K, S, D, V⟩, L⟩ :: nk.drop cc, tk', by omega, rfl, Lib.hid ?_⟩, by simp [intOf]; omega⟩
                rw [HST.out]
                refine HAD.out.snoc (added_new HAD.out.skip ⟨K, S, D, V⟩ y HXX.out cc HCC.out hz wc.heap.size L ?_ (by have := HU4.out.size; exact this) htk2 htk3 ?_)
                · exact (HU4.out.mono (S' := foot t nk) (fun _ _ h => h.elim)).trans hUF fun k hk h => by
                    rcases h with h | h
                    · exact h
                    · have := HU4.out.size
                      omega
                · refine Mid.done HSK3.out P wc.heap.size cc L ⟨K, S, D, V⟩ ?_ hccl (fun J hJ => (HP.out J hJ).1) ?_ (Nat.le_refl _) ⟨by omega, by omega⟩ ?_ ?_ ?_
                  · have := hm.out.count (fun d hd => (HSK3.out.nbase d hd).2) ((nk.length : Int) + 1) (bz + ((K.size : Int) + V.size))
                    rw [HBZ.out] at this ⊢
                    exact this
                  · rw [heap_drew, heap_setCell_other _ _ _ _ (by show wc.heap.size ≠ t; omega), heap_setCell_other _ _ _ _ (by show wc.heap.size ≠ t; omega)]
                    exact HN2.out
                  · refine own_upd HSK3.out.hown hUF fun j hj h => ?_
                    rcases h with (h | ⟨d, hd, h⟩) | h
                    · exact (HSK3.out.hne j hj).1 h
                    · exact (HSK3.out.hne j hj).2 d hd h
                    · have := (HSK3.out.hown.lt j hj).2
                      omega
                  · intro j hj h1
                    rw [HCC.out] at h1
                    exact cutOf_lt _ _ j hj h1
                  · exact cut_gt HSK3.out _ cc HCC.out hz
    · have e1 : l.take k = l := List.take_of_length_le (by have := HML.out; omega)
      have b1 : decide ((k : Int) < m) = false := decide_eq_false (by omega)
      go_wp2
      refine bodyPost_end (results_none rfl _ _ _) rfl ?_
      have := HAD.out
      rw [e1] at this
      exact ⟨nk, tk, rfl, this⟩
end
end Go.Proofs.Ytcfgmkiohmbdlaa
