/- A table in memory: New and Add, walked. (printed by wip/tools/gen_tm.py) -/
import Derived.Test.YtanieolnaiihmaaTmA
import Derived.Deep.CutBlock
import Derived.Deep.DeepCutAuto
namespace Go.Proofs.Ytanieolnaiihmaa.M6
open Go.RowKit
section
variable {w w' : World} {B t : Nat} {ns : List Nd} {n bytes turn : Int} {hv : Value} {hs : List Int}
theorem Skip.c14 (h : Skip w B t ns n bytes hv hs turn) : w.cell? ⟨t, 14, none⟩ = some hv := by rw [cell_of_row w t 14 _ _ _ h.tab]; rfl
theorem Skip.c15 (h : Skip w B t ns n bytes hv hs turn) : w.cell? ⟨t, 15, none⟩ = some (.int .i64 turn) := by rw [cell_of_row w t 15 _ _ _ h.tab]; rfl
theorem Skip.free (h : Skip w B t ns n bytes hv hs turn) (k : Nat) : w.frozen? ⟨t, k, none⟩ = false := frozen_of_row _ _ _ _ _ h.tab
/-- The table's own block may be written: what is asked is its row. -/
theorem Skip.row (h : Skip w B t ns n bytes hv hs turn) (hu : Upd (fun k => k = t) w w') {n' bytes' turn' : Int} (ht : w'.heap[t]? = some (.cells (tabC n' bytes' ns hv turn').toArray 77 (0, 0))) : Skip w' B t ns n' bytes' hv hs turn' where
  tab := ht
  chain := Chain.of fun i hi => (hu.block _ (h.nlt i hi) (h.nbase _ (List.getElem_mem hi)).2).trans (h.chain.at i hi)
  tbase := h.tbase
  nbase := h.nbase
  nodup := h.nodup
  high := h.high
  rise := h.rise
  hown := own_upd h.hown hu fun k hk => (h.hne k hk).1
  hne := h.hne
  hsOk := h.hsOk
theorem tabC_turn (n bytes : Int) (ns : List Nd) (hv : Value) (turn x : Int) : (tabC n bytes ns hv turn).toArray.setIfInBounds 15 (.int .i64 x) = (tabC n bytes ns hv x).toArray := rfl
theorem tabC_n (n bytes : Int) (ns : List Nd) (hv : Value) (turn x : Int) : (tabC n bytes ns hv turn).toArray.setIfInBounds 0 (.int .i64 x) = (tabC x bytes ns hv turn).toArray := rfl
theorem tabC_bytes (n bytes : Int) (ns : List Nd) (hv : Value) (turn x : Int) : (tabC n bytes ns hv turn).toArray.setIfInBounds 1 (.int .i64 x) = (tabC n x ns hv turn).toArray := rfl
set_option maxHeartbeats 2000000 in
set_option maxRecDepth 20000 in
theorem height_any (w : World) (h : Skip w B t ns n bytes hv hs turn) (ht0 : 0 ≤ turn) (ht1 : turn ≤ 4611686018427387904) (hl : hs.length ≤ 17592186044416) :
    Calls Try.prog 65 #[.pointer (some ⟨t, 0, none⟩)] w fun e w' => ∃ (q : Nat) (turn' : Int), e = .returned (.int .i64 (q : Int)) ∧ 1 ≤ q ∧ q ≤ 8 ∧ Skip w' B t ns n bytes hv hs turn' ∧ turn ≤ turn' ∧ turn' ≤ turn + 1 ∧ Upd (fun k => k = t) w w' := by
  have c14 := h.c14
  have c15 := h.c15
  have f15 := h.free 15
  obtain ⟨Ah, ch, hvs⟩ := own_shape h.hown
  subst hvs
  have HSK := Lib.hid h
  have hown := h.hown
  have hok := h.hsOk
  clear h
  by_cases h0 : hs.length = 0
  · go_enter Try.func65, Try.ntmps65
    go_wp2
    go_ret
    exact ⟨1, turn, rfl, by decide, by decide, HSK.out, Int.le_refl _, by omega, Upd.refl _ _⟩
  · obtain ⟨m, hm⟩ : ∃ m : Nat, turn = (m : Int) := ⟨turn.toNat, by omega⟩
    subst hm
    obtain ⟨j, hj⟩ : ∃ j, j = m % hs.length := ⟨_, rfl⟩
    have hjl : j < hs.length := by rw [hj]; exact Nat.mod_lt _ (by omega)
    have hrd := Rd.own hown
    obtain ⟨ad, hA, hAb, hc⟩ := hrd.at_ (by omega)
    subst hA
    have cj := hc j (.int .i64 hs[j]) (by rw [List.getElem?_map, List.getElem?_eq_getElem hjl]; rfl)
    obtain ⟨q, hq⟩ : ∃ q : Nat, hs[j] = (q : Int) := ⟨hs[j].toNat, by have := hok hs[j] (List.getElem_mem _); omega⟩
    have hq2 := hok hs[j] (List.getElem_mem _)
    rw [hq] at cj hq2
    have hrem : ((m : Int).tmod (hs.length : Int)) = (j : Int) := by rw [Int.tmod_eq_emod_of_nonneg (by omega), hj]; omega
    have hl0 : ¬ ((hs.length : Int) = 0) := by omega
    have hj0 : 0 ≤ (j : Int) := by omega
    have hj1 : (j : Int) < hs.length := by omega
    clear hown hok hrd hc hj hq
    go_enter Try.func65, Try.ntmps65
    go_wp2
    go_quiet (fail)
    go_wp2
    go_ret
    have hu : Upd (fun k => k = t) w ((w.drewN nq).setCell ⟨t, 15, none⟩ (.int .i64 ((m : Int) + 1))) := (((Upd.refl (fun k => k = t) w).drewN nq)).setCell ⟨t, 15, none⟩ rfl _
    have htb := heap_setCell_same (w.drewN nq) t 15 _ _ (.int .i64 ((m : Int) + 1)) HSK.out.tab
    exact ⟨q, (m : Int) + 1, rfl, by omega, by omega, HSK.out.row hu (htb.trans (by rw [tabC_turn])), by omega, Int.le_refl _, hu⟩
theorem int_info : (Try.prog.info? 3).map (fun i => (i.zero, i.size, i.bytes)) = some (some (.int .i64 0), 1, 8) := by kernel_rfl
theorem tabC_hv (n bytes : Int) (ns : List Nd) (hv hv' : Value) (turn : Int) : (tabC n bytes ns hv turn).toArray.setIfInBounds 14 hv' = (tabC n bytes ns hv' turn).toArray := rfl
/-- The heights that 'New' takes. -/
def highs (a : List Int) : List Int := a.map fun h => wrap64 (1 + wrap64 ((IntKind.u64.wrap h).tmod 8))
theorem highs_ok (a : List Int) : ∀ h ∈ highs a, 1 ≤ h ∧ h ≤ 8 := by
  intro h hh
  simp only [highs, List.mem_map] at hh
  obtain ⟨x, _, rfl⟩ := hh
  have h0 : 0 ≤ IntKind.u64.wrap x := by unfold IntKind.wrap; simp [IntKind.bits, IntKind.signed]; omega
  have h1 : (IntKind.u64.wrap x).tmod 8 = IntKind.u64.wrap x % 8 := Int.tmod_eq_emod_of_nonneg h0
  have h2 : wrap64 ((IntKind.u64.wrap x).tmod 8) = IntKind.u64.wrap x % 8 := by rw [h1, show wrap64 (IntKind.u64.wrap x % 8) = IntKind.u64.wrap x % 8 from by unfold wrap64; omega]
  rw [h2]
  have h3 : wrap64 (1 + IntKind.u64.wrap x % 8) = 1 + IntKind.u64.wrap x % 8 := by unfold wrap64; omega
  rw [h3]
  omega
theorem highs_len (a : List Int) : (highs a).length = a.length := List.length_map ..
set_option maxHeartbeats 4000000 in
set_option maxRecDepth 20000 in
theorem new_any (w : World) (A : Option Addr) (m c : Nat) (a : List Int) (hr : Rd w w.heap.size 1 A m (a.map (Value.int .i64))) (hm : m ≤ 8796093022200) :
    Calls Try.prog 35 #[.slice A m c] w fun e w' => ∃ t hv, e = .returned (.pointer (some ⟨t, 0, none⟩)) ∧ Skip w' w.heap.size t [] 0 0 hv (highs a) 0 ∧ Below w.heap.size w w' := by
  have HR := Lib.hid hr
  have t0 : (w.alloc (.cells #[.int .i64 0, .int .i64 0, .string ⟨#[]⟩, .int .i64 0, .bool false, .string ⟨#[]⟩, .pointer none, .pointer none, .pointer none, .pointer none, .pointer none, .pointer none, .pointer none, .pointer none, .slice none 0 0, .int .i64 0] 77)).heap[w.heap.size]? = some (.cells (tabC 0 0 [] (.slice none 0 0) 0).toArray 77 (0, 0)) := heap_alloc_new w _
  clear hr
  go_enter Try.func35, Try.ntmps35
  go_wp2
  go_loopw [5, 10] (fun _ kv wx => ∃ (k : Nat) (hv : Value), k ≤ m ∧ kv = .int .i64 (k : Int) ∧ wx.heap[w.heap.size]? = some (.cells (tabC 0 0 [] hv 0).toArray 77 (0, 0)) ∧ wx.ownsRow w.heap.size 3 1 hv k ((highs (a.take k)).map (Value.int .i64)) ∧ hv.ownBlock ≠ some w.heap.size ∧ Below w.heap.size w wx) (fun _ kv _ => ((m : Int) - intOf kv).toNat)
  case atStart => exact ⟨0, .slice none 0 0, Nat.zero_le _, rfl, t0, World.ownsRow_nil _ _ _ _, by simp [Value.ownBlock], (Below.refl _ _).alloc (Nat.le_refl _) _⟩
  case round =>
    obtain ⟨k, hv, hkm, rfl, tb, how, hne, hb⟩ := hrel
    obtain ⟨A3, c3, rfl⟩ := own_shape how
    have hbs := hb.size
    have hral := HR.out.len
    rw [List.length_map, Nat.mul_one] at hral
    by_cases hlt : k < m
    · obtain ⟨ad, hA, hadb, hcs⟩ := HR.out.at_ (by omega)
      subst hA
      obtain ⟨x, hx⟩ : ∃ x, x = a[k]'(by omega) := ⟨_, rfl⟩
      have ck := hcs k (.int .i64 x) (by rw [List.getElem?_map, List.getElem?_eq_getElem (by omega), hx]; rfl)
      have ck' : wr.cell? (ad.add k) = some (.int .i64 x) := (hb.cell (p := ad.add k) (by rw [block_add]; exact hadb)).trans ck
      have c14 : wr.cell? ⟨w.heap.size, 14, none⟩ = some (.slice A3 k c3) := by rw [cell_of_row _ _ 14 _ _ _ tb]; rfl
      have hst : (highs (a.take (k + 1))) = highs (a.take k) ++ [wrap64 (1 + wrap64 ((IntKind.u64.wrap x).tmod 8))] := by
        rw [List.take_succ_eq_append_getElem (by omega), ← hx, highs, List.map_append]; rfl
      have HOW := Lib.hid how
      have HB := Lib.hid hb
      have HTB := Lib.hid tb
      have HST := Lib.hid hst
      have HNE := Lib.hid hne
      obtain ⟨ii, hii, hj0, hj1, hj2⟩ := info_parts int_info
      have hk1 : 0 ≤ (k : Int) := by omega
      have hk2 : (k : Int) < m := by omega
      clear hst hx hcs ck how hb tb hne
      go_wp2_with (at_builtin; refine wpList_push rfl (.tmp 18) (.tmp 24) 66 rfl w.heap.size 3 ii _ 1 8 Try.underlying66 hii hj0 hj1 hj2 rfl (by omega) _ k ((highs (a.take k)).map (Value.int .i64)) #[.int .i64 (wrap64 (1 + wrap64 ((IntKind.u64.wrap x).tmod 8)))] rfl (by exact HOW.out) rfl rfl (by simp [Value.oneCell']) ?c1 ?c2 ?c3 ?_)
      case c1 => omega
      case c2 => unfold maxLen; omega
      all_goals try (exact hbs)
      intro v' w2 ho2 hu2 hra2
      have htl : w.heap.size < wr.heap.size := (Array.getElem?_eq_some_iff.1 HTB.out).1
      have hb2 := below_row HB.out hbs HOW.out (Nat.le_refl _) hu2
      have tb2 : w2.heap[w.heap.size]? = some (.cells (tabC 0 0 [] (.slice A3 k c3) 0).toArray 77 (0, 0)) := (hu2.block _ htl HNE.out).trans HTB.out
      have ho3 : w2.ownsRow w.heap.size 3 1 v' (k + 1) ((highs (a.take (k + 1))).map (Value.int .i64)) := by
        rw [HST.out, List.map_append]; exact ho2
      have hne2 : v'.ownBlock ≠ some w.heap.size := fun e => HNE.out (hra2.old htl e)
      have fz := frozen_of_row w2 w.heap.size 14 _ _ tb2
      have cz : w2.cell? ⟨w.heap.size, 14, none⟩ = some (.slice A3 k c3) := by rw [cell_of_row _ _ 14 _ _ _ tb2]; rfl
      obtain ⟨A4, c4, rfl⟩ := own_shape ho2
      clear ho2 hra2 c14 ck'
      go_wp2
      refine ⟨⟨k + 1, _, by omega, rfl, (heap_setCell_same w2 _ 14 _ _ (.slice A4 (k + 1) c4) tb2).trans (by rw [tabC_hv]), ?_, hne2, hb2.setCell (p := ⟨w.heap.size, 14, none⟩) (Nat.le_refl _) _⟩, ?_⟩
      · exact own_upd ho3 ((Upd.refl (fun k => k = w.heap.size) w2).setCell ⟨w.heap.size, 14, none⟩ rfl _) fun j hj e => hne2 (by rw [hj, e])
      · simp [intOf]; omega
    · obtain rfl : k = m := by omega
      have hrl : (a.take k) = a := List.take_of_length_le (by omega)
      rw [hrl] at how
      have hal : (highs a).length = k := by rw [highs_len]; omega
      rw [← hal] at how
      have hf : Skip wr w.heap.size w.heap.size [] 0 0 (.slice A3 (highs a).length c3) (highs a) 0 := ⟨by rw [hal]; exact tb, trivial, Nat.le_refl _, fun _ h => absurd h List.not_mem_nil, List.nodup_nil, fun _ h => absurd h List.not_mem_nil, List.Pairwise.nil, by rw [hal] at how ⊢; exact how,
        fun j hj => ⟨fun e => hne (by rw [← e]; rw [hal] at hj; exact hj), fun _ h => absurd h List.not_mem_nil⟩, highs_ok a⟩
      have HF := Lib.hid hf
      clear hf how hrl hral tb hne
      go_wp2
      go_ret
      exact ⟨_, _, rfl, HF.out, hb⟩
end
end Go.Proofs.Ytanieolnaiihmaa.M6
namespace Go.Proofs.Ytanieolnaiihmaa.M6
open Go.RowKit
def tabF (n bytes : Int) (f : Nat → Option Nat) (hv : Value) (turn : Int) : List Value := [.int .i64 n, .int .i64 bytes] ++ noEnt.cells ++ links f ++ [hv, .int .i64 turn]
def nodeF (x : Ent) (f : Nat → Option Nat) : List Value := x.cells ++ links f
/-- The links as they stand: of the head (0), of the node i (i + 1). -/
structure Mid (w : World) (t : Nat) (ns : List Nd) (n bytes : Int) (hv : Value) (turn : Int) (F : Nat → Nat → Option Nat) : Prop where
  tab : w.heap[t]? = some (.cells (tabF n bytes (F 0) hv turn).toArray 77 (0, 0))
  node : ∀ (i : Nat) (h : i < ns.length), w.heap[ns[i].b]? = some (.cells (nodeF ns[i].x (F (i + 1))).toArray 75 (0, 0))
def baseF (ns : List Nd) : Nat → Nat → Option Nat
  | 0, K => nx K ns
  | i + 1, K => match ns[i]? with
    | some d => own d (ns.drop (i + 1)) K
    | none => none
theorem baseF_succ (ns : List Nd) (i K : Nat) (h : i < ns.length) : baseF ns (i + 1) K = own ns[i] (ns.drop (i + 1)) K := by
  show (match ns[i]? with | some d => own d (ns.drop (i + 1)) K | none => none) = _
  rw [List.getElem?_eq_getElem h]
def upF (ns : List Nd) (P : Nat → Nat) (N L p K : Nat) : Option Nat := if K < L ∧ P K = p then some N else baseF ns p K
theorem tabF_set (n bytes : Int) (f : Nat → Option Nat) (hv : Value) (turn : Int) (L : Nat) (o : Option Nat) (h : L < 8) :
    (tabF n bytes f hv turn).toArray.setIfInBounds (2 + 4 + L) (pv o) = (tabF n bytes (fun K => if K = L then o else f K) hv turn).toArray := by
  obtain rfl | rfl | rfl | rfl | rfl | rfl | rfl | rfl : L = 0 ∨ L = 1 ∨ L = 2 ∨ L = 3 ∨ L = 4 ∨ L = 5 ∨ L = 6 ∨ L = 7 := by omega
  all_goals rfl
theorem nodeF_set (x : Ent) (f : Nat → Option Nat) (L : Nat) (o : Option Nat) (h : L < 8) :
    (nodeF x f).toArray.setIfInBounds (0 + 4 + L) (pv o) = (nodeF x (fun K => if K = L then o else f K)).toArray := by
  obtain rfl | rfl | rfl | rfl | rfl | rfl | rfl | rfl : L = 0 ∨ L = 1 ∨ L = 2 ∨ L = 3 ∨ L = 4 ∨ L = 5 ∨ L = 6 ∨ L = 7 := by omega
  all_goals rfl
theorem tabF_get (n bytes : Int) (f : Nat → Option Nat) (hv : Value) (turn : Int) (L : Nat) (h : L < 8) : (tabF n bytes f hv turn).toArray[2 + 4 + L]? = some (pv (f L)) := by
  obtain rfl | rfl | rfl | rfl | rfl | rfl | rfl | rfl : L = 0 ∨ L = 1 ∨ L = 2 ∨ L = 3 ∨ L = 4 ∨ L = 5 ∨ L = 6 ∨ L = 7 := by omega
  all_goals rfl
theorem nodeF_get (x : Ent) (f : Nat → Option Nat) (L : Nat) (h : L < 8) : (nodeF x f).toArray[0 + 4 + L]? = some (pv (f L)) := by
  obtain rfl | rfl | rfl | rfl | rfl | rfl | rfl | rfl : L = 0 ∨ L = 1 ∨ L = 2 ∨ L = 3 ∨ L = 4 ∨ L = 5 ∨ L = 6 ∨ L = 7 := by omega
  all_goals rfl
theorem tabF_ext {n bytes : Int} {f g : Nat → Option Nat} {hv : Value} {turn : Int} (h : ∀ L, L < 8 → f L = g L) : tabF n bytes f hv turn = tabF n bytes g hv turn := by
  unfold tabF; rw [links_ext h]
theorem nodeF_ext {x : Ent} {f g : Nat → Option Nat} (h : ∀ L, L < 8 → f L = g L) : nodeF x f = nodeF x g := by
  unfold nodeF; rw [links_ext h]
section
variable {w w' : World} {B t : Nat} {ns : List Nd} {n bytes turn : Int} {hv : Value} {hs : List Int} {F F' : Nat → Nat → Option Nat}
theorem Mid.ext (h : Mid w t ns n bytes hv turn F) (hF : ∀ p K, p ≤ ns.length → K < 8 → F' p K = F p K) : Mid w t ns n bytes hv turn F' where
  tab := by rw [h.tab, tabF_ext fun L hL => (hF 0 L (Nat.zero_le _) hL)]
  node := fun i hi => by rw [h.node i hi, nodeF_ext fun L hL => (hF (i + 1) L (by omega) hL)]
theorem Skip.mid (h : Skip w B t ns n bytes hv hs turn) (P : Nat → Nat) (N : Nat) : Mid w t ns n bytes hv turn (upF ns P N 0) where
  tab := by rw [h.tab]; rfl
  node := fun i hi => by
    rw [h.chain.at i hi]
    have : nodeF ns[i].x (upF ns P N 0 (i + 1)) = nodeC ns[i] (ns.drop (i + 1)) := by
      unfold nodeC
      exact nodeF_ext fun L hL => by unfold upF; rw [if_neg (by omega), baseF_succ ns i L hi]
    rw [this]
theorem Mid.upd {S : Nat → Prop} (h : Mid w t ns n bytes hv turn F) (hu : Upd S w w') (ht : ¬ S t) (hn : ∀ d ∈ ns, ¬ S d.b) : Mid w' t ns n bytes hv turn F where
  tab := (hu.block t (Array.getElem?_eq_some_iff.1 h.tab).1 ht).trans h.tab
  node := fun i hi => (hu.block _ (Array.getElem?_eq_some_iff.1 (h.node i hi)).1 (hn _ (List.getElem_mem hi))).trans (h.node i hi)
theorem Mid.next (h : Mid w t ns n bytes hv turn F) (p L : Nat) (hp : p ≤ ns.length) (hL : L < 8) : w.cell? ⟨(pb t ns p).1, (pb t ns p).2 + 4 + L, none⟩ = some (pv (F p L)) := by
  cases p with
  | zero =>
    show w.cell? ⟨t, 2 + 4 + L, none⟩ = _
    rw [cell_of_row w t _ _ _ _ h.tab, tabF_get _ _ _ _ _ _ hL]
  | succ p =>
    rw [pb_succ t ns p (by omega)]
    show w.cell? ⟨ns[p].b, 0 + 4 + L, none⟩ = _
    rw [cell_of_row w _ _ _ _ _ (h.node p (by omega)), nodeF_get _ _ _ hL]
theorem Mid.free (h : Mid w t ns n bytes hv turn F) (p L : Nat) (hp : p ≤ ns.length) : w.frozen? ⟨(pb t ns p).1, (pb t ns p).2 + 4 + L, none⟩ = false := by
  cases p with
  | zero => exact frozen_of_row _ _ _ _ _ h.tab
  | succ p =>
    rw [pb_succ t ns p (by omega)]
    exact frozen_of_row _ _ _ _ _ (h.node p (by omega))
theorem Mid.set (h : Mid w t ns n bytes hv turn F) (hnd : (ns.map (·.b)).Nodup) (hne : ∀ d ∈ ns, d.b ≠ t) (p L N : Nat) (hp : p ≤ ns.length) (hL : L < 8)
    (hF : ∀ p' K, p' ≤ ns.length → K < 8 → F' p' K = if p' = p ∧ K = L then some N else F p' K) : Mid (w.setCell ⟨(pb t ns p).1, (pb t ns p).2 + 4 + L, none⟩ (pptr (N, 0))) t ns n bytes hv turn F' := by
  cases p with
  | zero =>
    constructor
    · have h1 := heap_setCell_same w t (2 + 4 + L) _ _ (pptr (N, 0)) h.tab
      rw [show pptr (N, 0) = pv (some N) from rfl, tabF_set _ _ _ _ _ _ _ hL] at h1
      rw [tabF_ext (g := F' 0) fun K hK => by rw [hF 0 K (Nat.zero_le _) hK]; simp] at h1
      exact h1
    · intro i hi
      rw [heap_setCell_other _ _ _ _ (by show ns[i].b ≠ t; exact hne _ (List.getElem_mem hi)), h.node i hi, nodeF_ext (g := F' (i + 1)) fun K hK => by rw [hF (i + 1) K (by omega) hK, if_neg (by omega)]]
  | succ p =>
    rw [pb_succ t ns p (by omega)]
    constructor
    · rw [heap_setCell_other _ _ _ _ (by show t ≠ ns[p].b; exact fun e => hne _ (List.getElem_mem (show p < ns.length by omega)) e.symm), h.tab, tabF_ext (g := F' 0) fun K hK => by rw [hF 0 K (by omega) hK, if_neg (by omega)]]
    · intro i hi
      by_cases e : i = p
      · subst e
        have h1 := heap_setCell_same w ns[i].b (0 + 4 + L) _ _ (pptr (N, 0)) (h.node i hi)
        rw [show pptr (N, 0) = pv (some N) from rfl, nodeF_set _ _ _ _ hL] at h1
        rw [nodeF_ext (g := F' (i + 1)) fun K hK => by rw [hF (i + 1) K (by omega) hK]; simp] at h1
        exact h1
      · rw [heap_setCell_other _ _ _ _ (by
          show ns[i].b ≠ ns[p].b
          intro e1
          exact e ((List.getElem_inj (i := i) (j := p) (h₀ := by rw [List.length_map]; omega) (h₁ := by rw [List.length_map]; omega) hnd).1 (by simpa using e1))), h.node i hi, nodeF_ext (g := F' (i + 1)) fun K hK => by rw [hF (i + 1) K (by omega) hK, if_neg (by omega)]]
theorem nx_low {d : Nd} {K : Nat} (hd : ¬ K < d.h) : ∀ {a b : List Nd}, nx K (a ++ d :: b) = nx K (a ++ b)
  | [], b => by rw [List.nil_append, List.nil_append, nx, if_neg hd]
  | e :: a, b => by
    rw [List.cons_append, List.cons_append, nx, nx, nx_low hd]
theorem nx_at {d : Nd} {K : Nat} (hd : K < d.h) {a b : List Nd} (ha : ∀ e ∈ a, ¬ K < e.h) : nx K (a ++ d :: b) = some d.b := by
  rw [nx_skip ha, nx, if_pos hd]
/-- What stands behind the places 0 .. i when the new node is in. -/
theorem nx_ins {d : Nd} {K c p : Nat} (hc : c ≤ ns.length) (hp : IsLp ns c K p) (i : Nat) (hi : i ≤ c) (hip : i = 0 ∨ ∃ h : i - 1 < ns.length, K < ns[i - 1].h) :
    nx K ((ns.take c).drop i ++ d :: ns.drop c) = if K < d.h ∧ p = i then some d.b else nx K (ns.drop i) := by
  have hsplit : ns.drop i = (ns.take c).drop i ++ ns.drop c := by
    conv => lhs; rw [← List.take_append_drop c ns]
    rw [List.drop_append_of_le_length (by rw [List.length_take]; omega)]
  by_cases hd : K < d.h
  · by_cases e : p = i
    · subst e
      rw [if_pos ⟨hd, rfl⟩]
      refine nx_at hd fun e he => ?_
      rw [List.mem_drop_iff_getElem] at he
      obtain ⟨j, hj, rfl⟩ := he
      rw [List.length_take] at hj
      have := hp.2.2 (p + j) (by omega) (by omega) (by omega)
      rw [List.getElem_take]
      exact this
    · rw [if_neg (by omega), hsplit]
      refine nx_front ?_
      rcases Nat.lt_or_ge p i with h1 | h1
      · rcases hip with h2 | ⟨h2, h3⟩
        · omega
        · exact absurd h3 (hp.2.2 (i - 1) h2 (by omega) (by omega))
      · rcases hp.2.1 with h2 | ⟨h2, h3⟩
        · omega
        · refine ⟨ns[p - 1], ?_, h3⟩
          rw [List.mem_drop_iff_getElem]
          have := hp.1
          refine ⟨p - 1 - i, by rw [List.length_take]; omega, ?_⟩
          rw [List.getElem_take]
          congr 1
          omega
  · rw [if_neg (by omega), nx_low hd, hsplit]
theorem Mid.done {w0 : World} {turn0 n0 bytes0 : Int} (h0 : Skip w0 B t ns n0 bytes0 hv hs turn0) (P : Nat → Nat) (N c q : Nat) (x : Ent) (h : Mid w t ns n bytes hv turn (upF ns P N q)) (hc : c ≤ ns.length) (hP : ∀ K, K < 8 → IsLp ns c K (P K))
    (hN : w.heap[N]? = some (.cells (nodeF x (fun K => if K < q then nx K (ns.drop c) else none)).toArray 75 (0, 0)))
    (hNB : w0.heap.size ≤ N) (hq : 1 ≤ q ∧ q ≤ 8) (hown : w.ownsRow B 3 1 hv hs.length (hs.map (Value.int .i64)))
    (hlt : ∀ j (hj : j < ns.length), j < c → cmpE ns[j].x x < 0) (hge : ∀ j (hj : j < ns.length), c ≤ j → cmpE x ns[j].x < 0) :
    Skip w B t (ns.take c ++ ⟨N, x, q⟩ :: ns.drop c) n bytes hv hs turn := by
  have hmem : ∀ d, d ∈ ns.take c ++ ⟨N, x, q⟩ :: ns.drop c → d ∈ ns ∨ d = ⟨N, x, q⟩ := by
    intro d hd
    rw [List.mem_append, List.mem_cons] at hd
    rcases hd with hd | hd | hd
    · exact .inl (List.mem_of_mem_take hd)
    · exact .inr hd
    · exact .inl (List.mem_of_mem_drop hd)
  have hBN : B ≤ N := Nat.le_trans h0.tbase (Nat.le_trans (Nat.le_of_lt h0.tlt) hNB)
  have hnn : ∀ d ∈ ns, d.b < w0.heap.size := fun d hd => by
    obtain ⟨i, hi, rfl⟩ := List.mem_iff_getElem.1 hd
    exact h0.nlt i hi
  constructor
  · rw [h.tab]
    have : tabF n bytes (upF ns P N q 0) hv turn = tabC n bytes (ns.take c ++ ⟨N, x, q⟩ :: ns.drop c) hv turn := by
      show _ = tabF n bytes (fun L => nx L (ns.take c ++ ⟨N, x, q⟩ :: ns.drop c)) hv turn
      refine tabF_ext fun K hK => ?_
      have := nx_ins (d := ⟨N, x, q⟩) hc (hP K hK) 0 (Nat.zero_le _) (.inl rfl)
      rw [List.drop_zero, List.drop_zero] at this
      rw [this]
      rfl
    rw [this]
  · refine Chain.of fun i hi => ?_
    rw [List.length_append, List.length_cons, List.length_take, List.length_drop] at hi
    have htl : (ns.take c).length = c := by rw [List.length_take]; omega
    rcases Nat.lt_trichotomy i c with h1 | h1 | h1
    · have e1 : (ns.take c ++ ⟨N, x, q⟩ :: ns.drop c)[i]'(by rw [List.length_append, List.length_cons, List.length_take, List.length_drop]; omega) = ns[i] := by
        rw [List.getElem_append_left (by omega), List.getElem_take]
      have e2 : (ns.take c ++ ⟨N, x, q⟩ :: ns.drop c).drop (i + 1) = (ns.take c).drop (i + 1) ++ ⟨N, x, q⟩ :: ns.drop c := by
        rw [List.drop_append_of_le_length (by omega)]
      rw [e1, e2, h.node i (by omega)]
      have : nodeF ns[i].x (upF ns P N q (i + 1)) = nodeC ns[i] ((ns.take c).drop (i + 1) ++ ⟨N, x, q⟩ :: ns.drop c) := by
        unfold nodeC
        refine nodeF_ext fun K hK => ?_
        unfold upF
        rw [baseF_succ ns i K (by omega)]
        unfold own
        by_cases h2 : K < ns[i].h
        · rw [if_pos h2, if_pos h2, nx_ins (d := ⟨N, x, q⟩) hc (hP K hK) (i + 1) (by omega) (.inr ⟨by simp; omega, by simpa using h2⟩)]
        · rw [if_neg h2, if_neg h2, if_neg]
          intro h3
          rcases (hP K hK).2.1 with h4 | ⟨h4, h5⟩
          · omega
          · refine h2 ?_
            have e : P K - 1 = i := by omega
            simp only [e] at h5
            exact h5
      rw [this]
    · subst h1
      have e1 : (ns.take i ++ ⟨N, x, q⟩ :: ns.drop i)[i]'(by rw [List.length_append, List.length_cons, List.length_take, List.length_drop]; omega) = ⟨N, x, q⟩ := by
        rw [List.getElem_append_right (by omega)]
        simp only [htl, Nat.sub_self, List.getElem_cons_zero]
      have e2 : (ns.take i ++ ⟨N, x, q⟩ :: ns.drop i).drop (i + 1) = ns.drop i := by
        rw [List.drop_append, htl, List.drop_eq_nil_of_le (by omega), show i + 1 - i = 1 by omega]
        rfl
      rw [e1, e2]
      exact hN
    · have e1 : (ns.take c ++ ⟨N, x, q⟩ :: ns.drop c)[i]'(by rw [List.length_append, List.length_cons, List.length_take, List.length_drop]; omega) = ns[i - 1]'(by omega) := by
        rw [List.getElem_append_right (by omega), List.getElem_cons, dif_neg (by omega), List.getElem_drop]
        congr 1
        omega
      have e2 : (ns.take c ++ ⟨N, x, q⟩ :: ns.drop c).drop (i + 1) = ns.drop (i - 1 + 1) := by
        rw [List.drop_append, htl, List.drop_eq_nil_of_le (by omega), List.nil_append, show i + 1 - c = (i - c) + 1 by omega, List.drop_succ_cons, List.drop_drop]
        congr 1
        omega
      rw [e1, e2, h.node (i - 1) (by omega)]
      have : nodeF (ns[i - 1]'(by omega)).x (upF ns P N q (i - 1 + 1)) = nodeC (ns[i - 1]'(by omega)) (ns.drop (i - 1 + 1)) := by
        unfold nodeC
        refine nodeF_ext fun K hK => ?_
        unfold upF
        rw [baseF_succ ns (i - 1) K (by omega), if_neg]
        have := (hP K hK).1
        omega
      rw [this]
  · exact h0.tbase
  · intro d hd
    rcases hmem d hd with h1 | rfl
    · exact h0.nbase d h1
    · exact ⟨hBN, by have := h0.tlt; show N ≠ t; omega⟩
  · have hperm : (ns.take c ++ ⟨N, x, q⟩ :: ns.drop c).Perm (⟨N, x, q⟩ :: ns) := by
      have := (List.perm_middle (a := (⟨N, x, q⟩ : Nd)) (l₁ := ns.take c) (l₂ := ns.drop c))
      rwa [List.take_append_drop] at this
    rw [(hperm.map (·.b)).nodup_iff, List.map_cons, List.nodup_cons]
    refine ⟨fun hm => ?_, h0.nodup⟩
    rw [List.mem_map] at hm
    obtain ⟨d, hd, e⟩ := hm
    have := hnn d hd
    change d.b = N at e
    omega
  · intro d hd
    rcases hmem d hd with h1 | rfl
    · exact h0.high d h1
    · exact hq
  · have hr := h0.rise
    rw [← List.take_append_drop c ns, List.pairwise_append] at hr
    rw [List.pairwise_append, List.pairwise_cons]
    refine ⟨hr.1, ⟨fun d hd => ?_, hr.2.1⟩, fun d hd e he => ?_⟩
    · rw [List.mem_drop_iff_getElem] at hd
      obtain ⟨j, hj, rfl⟩ := hd
      exact hge (c + j) (by omega) (by omega)
    · rcases List.mem_cons.1 he with rfl | he
      · obtain ⟨j, hj, rfl⟩ := List.mem_iff_getElem.1 hd
        rw [List.length_take] at hj
        rw [List.getElem_take]
        exact hlt j (by omega) (by omega)
      · exact hr.2.2 d hd e he
  · exact hown
  · intro k hk
    refine ⟨(h0.hne k hk).1, fun d hd => ?_⟩
    rcases hmem d hd with h1 | rfl
    · exact (h0.hne k hk).2 d h1
    · have := (h0.hown.lt k hk).2
      show N ≠ k
      omega
  · exact h0.hsOk
end
end Go.Proofs.Ytanieolnaiihmaa.M6
namespace Go.Proofs.Ytanieolnaiihmaa.M6
open Go.RowKit
def ents (ns : List Nd) : List Ent := ns.map (·.x)
def clean (x : Ent) : Ent := if x.dead then ⟨x.key, x.seq, x.dead, ⟨#[]⟩⟩ else x
theorem clean_key (x : Ent) : (clean x).key = x.key := by unfold clean; split <;> rfl
theorem clean_seq (x : Ent) : (clean x).seq = x.seq := by unfold clean; split <;> rfl
theorem clean_val (x : Ent) : (clean x).val.size ≤ x.val.size := by
  unfold clean
  split
  · exact Nat.zero_le _
  · exact Nat.le_refl _
theorem cmpE_cong {x y x' y' : Ent} (h1 : x'.key = x.key) (h2 : x'.seq = x.seq) (h3 : y'.key = y.key) (h4 : y'.seq = y.seq) : cmpE x' y' = cmpE x y := by
  unfold cmpE; rw [h1, h2, h3, h4]
theorem cmpE_clean (y x : Ent) : cmpE y (clean x) = cmpE y x := cmpE_cong rfl rfl (clean_key x) (clean_seq x)
theorem clean_cmpE (y x : Ent) : cmpE (clean x) y = cmpE x y := cmpE_cong (clean_key x) (clean_seq x) rfl rfl
def cutE (l : List Ent) (x : Ent) : Nat := (l.takeWhile fun e => decide (cmpE e x < 0)).length
theorem cutE_ents (ns : List Nd) (x : Ent) : cutE (ents ns) x = cutOf ns x := by
  unfold cutE cutOf ents
  rw [List.takeWhile_map, List.length_map]
  rfl
def sizE (l : List Ent) : Nat := (l.map fun e => e.key.size + e.val.size).sum
theorem sizE_append (a b : List Ent) : sizE (a ++ b) = sizE a + sizE b := by unfold sizE; rw [List.map_append, List.sum_append]
theorem sizE_cons (x : Ent) (b : List Ent) : sizE (x :: b) = x.key.size + x.val.size + sizE b := by unfold sizE; rw [List.map_cons, List.sum_cons]
/-- The list when x is taken in. -/
noncomputable def insE (l : List Ent) (x : Ent) : List Ent :=
  match l[cutE l x]? with
  | some y => if cmpE y x = 0 then l.take (cutE l x) ++ clean x :: l.drop (cutE l x + 1) else l.take (cutE l x) ++ clean x :: l.drop (cutE l x)
  | none => l.take (cutE l x) ++ clean x :: l.drop (cutE l x)
def putN (ns : List Nd) (c : Nat) (x : Ent) (d : Nd) : List Nd := ns.take c ++ ⟨d.b, x, d.h⟩ :: ns.drop (c + 1)
theorem split_at {ns : List Nd} {c : Nat} (hc : c < ns.length) : ns = ns.take c ++ ns[c] :: ns.drop (c + 1) := by
  conv => lhs; rw [← List.take_append_drop c ns]
  rw [List.drop_eq_getElem_cons hc]
theorem nx_put {x : Ent} {d : Nd} {K : Nat} : ∀ {a b : List Nd}, nx K (a ++ ⟨d.b, x, d.h⟩ :: b) = nx K (a ++ d :: b)
  | [], b => rfl
  | e :: a, b => by rw [List.cons_append, List.cons_append, nx, nx, nx_put]
theorem ins_new {ns : List Nd} {x : Ent} {N q : Nat} (h : ∀ hc : cutOf ns x < ns.length, cmpE ns[cutOf ns x].x x ≠ 0) : ents (ns.take (cutOf ns x) ++ ⟨N, clean x, q⟩ :: ns.drop (cutOf ns x)) = insE (ents ns) x := by
  unfold insE
  rw [cutE_ents]
  have e : ents (ns.take (cutOf ns x) ++ ⟨N, clean x, q⟩ :: ns.drop (cutOf ns x)) = (ents ns).take (cutOf ns x) ++ clean x :: (ents ns).drop (cutOf ns x) := by
    simp [ents, List.map_take, List.map_drop]
  rw [e]
  split
  · rename_i y hy
    unfold ents at hy
    rw [List.getElem?_map] at hy
    rcases Nat.lt_or_ge (cutOf ns x) ns.length with hc | hc
    · rw [List.getElem?_eq_getElem hc] at hy
      simp only [Option.map_some] at hy
      injection hy with hy
      have := h hc
      rw [hy] at this
      rw [if_neg this]
    · rw [List.getElem?_eq_none hc] at hy
      cases hy
  · rfl
theorem ins_old {ns : List Nd} {x : Ent} (hc : cutOf ns x < ns.length) (h : cmpE ns[cutOf ns x].x x = 0) : ents (putN ns (cutOf ns x) (clean x) ns[cutOf ns x]) = insE (ents ns) x := by
  unfold insE
  rw [cutE_ents]
  have e : ents (putN ns (cutOf ns x) (clean x) ns[cutOf ns x]) = (ents ns).take (cutOf ns x) ++ clean x :: (ents ns).drop (cutOf ns x + 1) := by
    simp [ents, putN, List.map_take, List.map_drop]
  rw [e, show (ents ns)[cutOf ns x]? = some ns[cutOf ns x].x by unfold ents; rw [List.getElem?_map, List.getElem?_eq_getElem hc]; rfl]
  simp only
  rw [if_pos h]
theorem siz_new {ns : List Nd} {x : Ent} {N q c : Nat} : sizE (ents (ns.take c ++ ⟨N, x, q⟩ :: ns.drop c)) = sizE (ents ns) + (x.key.size + x.val.size) := by
  have h1 : sizE (ents ns) = sizE (ents (ns.take c)) + sizE (ents (ns.drop c)) := by
    rw [← sizE_append]; unfold ents; rw [← List.map_append, List.take_append_drop]
  have h2 : ents (ns.take c ++ ⟨N, x, q⟩ :: ns.drop c) = ents (ns.take c) ++ x :: ents (ns.drop c) := by simp [ents]
  rw [h2, sizE_append, sizE_cons, h1]; omega
theorem siz_old {ns : List Nd} {x : Ent} {c : Nat} (hc : c < ns.length) (hk : x.key = ns[c].x.key) : sizE (ents (putN ns c x ns[c])) + ns[c].x.val.size = sizE (ents ns) + x.val.size := by
  have h1 : sizE (ents ns) = sizE (ents (ns.take c)) + (ns[c].x.key.size + ns[c].x.val.size + sizE (ents (ns.drop (c + 1)))) := by
    have h0 := congrArg (fun l => sizE (ents l)) (split_at hc)
    refine h0.trans ?_
    rw [← sizE_cons, ← sizE_append]
    show sizE (ents (ns.take c ++ ns[c] :: ns.drop (c + 1))) = sizE (ents (ns.take c) ++ ns[c].x :: ents (ns.drop (c + 1)))
    unfold ents
    rw [List.map_append, List.map_cons]
  have h2 : ents (putN ns c x ns[c]) = ents (ns.take c) ++ x :: ents (ns.drop (c + 1)) := by simp [ents, putN]
  rw [h2, sizE_append, sizE_cons, h1, hk]; omega
section
variable {w w' : World} {B t : Nat} {ns : List Nd} {n bytes turn n' bytes' turn' : Int} {hv : Value} {hs : List Int}
/-- A node has a new version. -/
theorem Skip.put (h : Skip w B t ns n bytes hv hs turn) (c : Nat) (hc : c < ns.length) (x : Ent) (hk : x.key = ns[c].x.key) (hq : x.seq = ns[c].x.seq)
    (hu : Upd (fun k => k = t ∨ k = ns[c].b) w w') (ht : w'.heap[t]? = some (.cells (tabC n' bytes' ns hv turn').toArray 77 (0, 0)))
    (hn : w'.heap[ns[c].b]? = some (.cells (nodeF x (own ns[c] (ns.drop (c + 1)))).toArray 75 (0, 0))) :
    Skip w' B t (putN ns c x ns[c]) n' bytes' hv hs turn' := by
  have hlen : (putN ns c x ns[c]).length = ns.length := by unfold putN; rw [List.length_append, List.length_cons, List.length_take, List.length_drop]; omega
  have htl : (ns.take c).length = c := by rw [List.length_take]; omega
  have hget : ∀ i (hi : i < ns.length), ((putN ns c x ns[c])[i]'(by omega)).b = ns[i].b ∧ ((putN ns c x ns[c])[i]'(by omega)).h = ns[i].h ∧ ((putN ns c x ns[c])[i]'(by omega)).x = if i = c then x else ns[i].x := by
    intro i hi
    unfold putN
    rcases Nat.lt_trichotomy i c with h1 | h1 | h1
    · rw [List.getElem_append_left (by omega), List.getElem_take, if_neg (by omega)]
      exact ⟨rfl, rfl, rfl⟩
    · subst h1
      rw [List.getElem_append_right (by omega)]
      simp only [htl, Nat.sub_self, List.getElem_cons_zero]
      simp
    · rw [List.getElem_append_right (by omega), List.getElem_cons, dif_neg (by omega), List.getElem_drop, if_neg (by omega)]
      simp only [htl, show c + 1 + (i - c - 1) = i by omega]
      exact ⟨trivial, trivial, trivial⟩
  have hdr : ∀ (i K : Nat), nx K ((putN ns c x ns[c]).drop i) = nx K (ns.drop i) := by
    intro i K
    rcases Nat.lt_or_ge c i with h1 | h1
    · unfold putN
      rw [List.drop_append, htl, List.drop_eq_nil_of_le (by omega), List.nil_append, show i - c = (i - c - 1) + 1 by omega, List.drop_succ_cons, List.drop_drop]
      congr 2
      omega
    · have e1 : (putN ns c x ns[c]).drop i = (ns.take c).drop i ++ ⟨ns[c].b, x, ns[c].h⟩ :: ns.drop (c + 1) := by
        unfold putN
        rw [List.drop_append_of_le_length (by omega)]
      have e2 : ns.drop i = (ns.take c).drop i ++ ns[c] :: ns.drop (c + 1) := by
        conv => lhs; rw [split_at hc]
        rw [List.drop_append_of_le_length (by omega)]
      rw [e1, e2, nx_put]
  constructor
  · rw [ht]
    have : tabC n' bytes' (putN ns c x ns[c]) hv turn' = tabC n' bytes' ns hv turn' := by
      show tabF n' bytes' (fun L => nx L (putN ns c x ns[c])) hv turn' = tabF n' bytes' (fun L => nx L ns) hv turn'
      exact tabF_ext fun K _ => hdr 0 K
    rw [this]
  · refine Chain.of fun i hi => ?_
    rw [hlen] at hi
    obtain ⟨g1, g2, g3⟩ := hget i hi
    have ho : ∀ K, own ((putN ns c x ns[c])[i]'(by omega)) ((putN ns c x ns[c]).drop (i + 1)) K = own ns[i] (ns.drop (i + 1)) K := by
      intro K
      unfold own
      rw [g2, hdr]
    have hnc : nodeC ((putN ns c x ns[c])[i]'(by omega)) ((putN ns c x ns[c]).drop (i + 1)) = nodeF (if i = c then x else ns[i].x) (own ns[i] (ns.drop (i + 1))) := by
      show nodeF _ _ = _
      rw [g3]
      exact nodeF_ext fun K _ => ho K
    rw [g1, hnc]
    by_cases e : i = c
    · subst e
      rw [if_pos rfl]
      exact hn
    · rw [if_neg e, hu.block _ (h.nlt i hi), h.chain.at i hi]
      · rfl
      · intro h1
        rcases h1 with h1 | h1
        · exact (h.nbase _ (List.getElem_mem hi)).2 h1
        · exact e ((List.getElem_inj (i := i) (j := c) (h₀ := by rw [List.length_map]; omega) (h₁ := by rw [List.length_map]; omega) h.nodup).1 (by simpa using h1))
  · exact h.tbase
  · intro d hd
    obtain ⟨i, hi, rfl⟩ := List.mem_iff_getElem.1 hd
    rw [hlen] at hi
    rw [(hget i hi).1]
    exact h.nbase _ (List.getElem_mem hi)
  · have : (putN ns c x ns[c]).map (·.b) = ns.map (·.b) := by
      have h0 := congrArg (fun l => l.map (fun d : Nd => d.b)) (split_at hc)
      refine Eq.trans ?_ h0.symm
      show (putN ns c x ns[c]).map (fun d : Nd => d.b) = (ns.take c ++ ns[c] :: ns.drop (c + 1)).map (fun d : Nd => d.b)
      unfold putN
      rw [List.map_append, List.map_append, List.map_cons, List.map_cons]
    rw [this]
    exact h.nodup
  · intro d hd
    obtain ⟨i, hi, rfl⟩ := List.mem_iff_getElem.1 hd
    rw [hlen] at hi
    rw [(hget i hi).2.1]
    exact h.high _ (List.getElem_mem hi)
  · rw [List.pairwise_iff_getElem]
    intro i j hi hj hij
    rw [hlen] at hi hj
    have hp := List.pairwise_iff_getElem.1 h.rise i j hi hj hij
    rw [(hget i hi).2.2, (hget j hj).2.2]
    have k1 : ∀ i (hi : i < ns.length), (if i = c then x else ns[i].x).key = ns[i].x.key ∧ (if i = c then x else ns[i].x).seq = ns[i].x.seq := by
      intro i hi
      by_cases e : i = c
      · subst e
        rw [if_pos rfl]
        exact ⟨hk, hq⟩
      · rw [if_neg e]
        exact ⟨rfl, rfl⟩
    rw [cmpE_cong (k1 i hi).1 (k1 i hi).2 (k1 j hj).1 (k1 j hj).2]
    exact hp
  · refine own_upd h.hown hu fun k hk h1 => ?_
    rcases h1 with h1 | h1
    · exact (h.hne k hk).1 h1
    · exact (h.hne k hk).2 _ (List.getElem_mem hc) h1.symm
  · intro k hk
    refine ⟨(h.hne k hk).1, fun d hd => ?_⟩
    obtain ⟨i, hi, rfl⟩ := List.mem_iff_getElem.1 hd
    rw [hlen] at hi
    rw [(hget i hi).1]
    exact (h.hne k hk).2 _ (List.getElem_mem hi)
  · exact h.hsOk
/-- The blocks of a table. -/
def foot (t : Nat) (ns : List Nd) (k : Nat) : Prop := k = t ∨ ∃ d ∈ ns, d.b = k
structure Added (w w' : World) (B t : Nat) (ns ns' : List Nd) (hv : Value) (hs : List Int) (turn turn' : Int) (l : List Ent) : Prop where
  skip : Skip w' B t ns' ns'.length (sizE (ents ns')) hv hs turn'
  list : ents ns' = l.foldl insE (ents ns)
  turn0 : turn ≤ turn'
  turn1 : turn' ≤ turn + l.length
  len : ns'.length ≤ ns.length + l.length
  size : sizE (ents ns') ≤ sizE (ents ns) + sizE l
  upd : Upd (foot t ns) w w'
  new : ∀ d ∈ ns', (∃ d0 ∈ ns, d0.b = d.b) ∨ w.heap.size ≤ d.b
theorem Added.refl {ns : List Nd} (h : Skip w B t ns ns.length (sizE (ents ns)) hv hs turn) : Added w w B t ns ns hv hs turn turn [] :=
  ⟨h, rfl, Int.le_refl _, by simp, by simp, by simp [sizE], Upd.refl _ _, fun d hd => .inl ⟨d, hd, rfl⟩⟩
theorem Added.snoc {w1 w2 : World} {ns1 ns2 : List Nd} {turn1 turn2 : Int} {l : List Ent} {x : Ent} (h : Added w w1 B t ns ns1 hv hs turn turn1 l) (h2 : Added w1 w2 B t ns1 ns2 hv hs turn1 turn2 [x]) : Added w w2 B t ns ns2 hv hs turn turn2 (l ++ [x]) where
  skip := h2.skip
  list := by rw [h2.list, h.list, List.foldl_append]
  turn0 := by have := h.turn0; have := h2.turn0; omega
  turn1 := by have := h.turn1; have := h2.turn1; simp at *; omega
  len := by have := h.len; have := h2.len; simp at *; omega
  size := by have := h.size; have := h2.size; rw [sizE_append]; omega
  upd := h.upd.trans h2.upd fun k hk hf => by
    rcases hf with rfl | ⟨d, hd, rfl⟩
    · exact .inl rfl
    · rcases h.new d hd with ⟨d0, hd0, e⟩ | h3
      · exact .inr ⟨d0, hd0, e⟩
      · omega
  new := fun d hd => by
    rcases h2.new d hd with ⟨d1, hd1, e⟩ | h3
    · rw [← e]
      exact h.new d1 hd1
    · have := h.upd.size
      exact .inr (by omega)
end
end Go.Proofs.Ytanieolnaiihmaa.M6
namespace Go.Proofs.Ytanieolnaiihmaa.M6
open Go.RowKit
theorem upd_setRow (w : World) (g : Nat) (cs : Array Value) : Upd (fun k => k = g) w (w.setRow g cs) := ⟨rfl, rfl, rfl, by simp [World.setRow], fun k _ hk => setRow_other w g k cs hk⟩
/-- An array is laid into its block: the world behind it by a name. -/
theorem wpList_store_rowAt {P : Program} {ops : Array Oper} {rest : List Oper} {o : Oper} {a : Act} {w : World} {Q : Exit → Act → World → Prop} (hgd : o.guard = none) (ty : TypeId) (x y : Operand) (ho : o.op = .store ty x y)
    (hd : o.dst = none) (g : Nat) (cells : Array Value) (hx : a.eval x = .pointer (some ⟨g, 0, none⟩)) (hy : a.eval y = .agg cells)
    (t : TypeId) (old : Array Value) (hg : w.heap[g]? = some (.cells old t (0, 0))) (hi : (P.info? ty).map (·.size) = some cells.size)
    (hold : old.size = cells.size) (h1 : cells.all (·.oneCell') = true)
    (h : ∀ W, W.heap[g]? = some (.cells cells t (0, 0)) → Upd (fun k => k = g) w W → wpList P ops Q rest a W) : wpList P ops Q (o :: rest) a w :=
  wpList_store_rowTo hgd ty x y ho hd g cells hx hy t old hg hi hold h1 (h _ (setRow_heap _ _ _ _ _ _ hg) (upd_setRow _ _ _))
theorem sizE_take (l : List Ent) (k : Nat) : sizE (l.take k) ≤ sizE l := by
  have : sizE l = sizE (l.take k) + sizE (l.drop k) := by rw [← sizE_append, List.take_append_drop]
  omega
section
variable {w w' : World} {B t : Nat} {ns : List Nd} {turn : Int} {hv : Value} {hs : List Int}
theorem Skip.cell0 {n bytes : Int} (h : Skip w B t ns n bytes hv hs turn) : w.cell? ⟨t, 0, none⟩ = some (.int .i64 n) := by rw [cell_of_row w t 0 _ _ _ h.tab]; rfl
theorem Skip.cell1 {n bytes : Int} (h : Skip w B t ns n bytes hv hs turn) : w.cell? ⟨t, 1, none⟩ = some (.int .i64 bytes) := by rw [cell_of_row w t 1 _ _ _ h.tab]; rfl
theorem foot_base {n bytes : Int} (h : Skip w B t ns n bytes hv hs turn) (k : Nat) (hk : foot t ns k) : B ≤ k ∧ k < w.heap.size := by
  rcases hk with rfl | ⟨d, hd, rfl⟩
  · exact ⟨h.tbase, h.tlt⟩
  · obtain ⟨i, hi, rfl⟩ := List.mem_iff_getElem.1 hd
    exact ⟨(h.nbase _ hd).1, h.nlt i hi⟩
theorem added_old (h : Skip w B t ns ns.length (sizE (ents ns)) hv hs turn) (x y : Ent) (hx : x = clean y) (c : Nat) (hcc : c = cutOf ns x) (hc : c < ns.length) (hz : cmpE ns[c].x x = 0) (hu : Upd (fun k => k = t ∨ k = ns[c].b) w w')
    (ht : w'.heap[t]? = some (.cells (tabC ns.length ((sizE (ents ns) : Int) + ((x.val.size : Int) - ns[c].x.val.size)) ns hv turn).toArray 77 (0, 0)))
    (hn : w'.heap[ns[c].b]? = some (.cells (nodeF x (own ns[c] (ns.drop (c + 1)))).toArray 75 (0, 0))) :
    Added w w' B t ns (putN ns c x ns[c]) hv hs turn turn [y] := by
  obtain ⟨hk, hq⟩ := cmpE_zero hz
  have h1 := h.put c hc x hk.symm hq.symm hu ht hn
  have hlen : (putN ns c x ns[c]).length = ns.length := by unfold putN; rw [List.length_append, List.length_cons, List.length_take, List.length_drop]; omega
  have hs1 := siz_old (x := x) hc hk.symm
  have hcy : cutOf ns x = cutOf ns y := by unfold cutOf; simp only [hx, cmpE_clean]
  have hzy : cmpE ns[c].x y = 0 := by rw [hx, cmpE_clean] at hz; exact hz
  have hlist : ents (putN ns c x ns[c]) = insE (ents ns) y := by
    have e : c = cutOf ns y := by rw [hcc, hcy]
    subst e
    rw [hx]
    exact ins_old hc hzy
  have hvy : x.val.size ≤ y.val.size := by rw [hx]; exact clean_val y
  refine ⟨?_, hlist, Int.le_refl _, by show turn ≤ turn + ((1 : Nat) : Int); omega, by rw [hlen]; simp, ?_, ?_, ?_⟩
  · rw [hlen]
    have e : (sizE (ents (putN ns c x ns[c])) : Int) = (sizE (ents ns) : Int) + ((x.val.size : Int) - ns[c].x.val.size) := by omega
    rw [e]
    exact h1
  · rw [sizE_cons]; omega
  · exact hu.mono fun k _ hk => by
      rcases hk with rfl | rfl
      · exact .inl rfl
      · exact .inr ⟨_, List.getElem_mem hc, rfl⟩
  · intro d hd
    unfold putN at hd
    rw [List.mem_append, List.mem_cons] at hd
    rcases hd with hd | rfl | hd
    · exact .inl ⟨d, List.mem_of_mem_take hd, rfl⟩
    · exact .inl ⟨_, List.getElem_mem hc, rfl⟩
    · exact .inl ⟨d, List.mem_of_mem_drop hd, rfl⟩
theorem wrap64_small {a : Int} (h0 : -4611686018427387904 ≤ a) (h1 : a ≤ 4611686018427387904) : wrap64 a = a := by unfold wrap64; omega
theorem sizE_mem {l : List Ent} {x : Ent} (h : x ∈ l) : x.key.size + x.val.size ≤ sizE l := by
  obtain ⟨a, b, rfl⟩ := List.append_of_mem h
  rw [sizE_append, sizE_cons]
  omega
theorem heap_drew (w : World) : w.drew.heap = w.heap := rfl
theorem nodeF_put (x y : Ent) (f : Nat → Option Nat) : ((((nodeF y f).toArray.setIfInBounds 0 (.string x.key)).setIfInBounds 1 (.int .i64 x.seq)).setIfInBounds 2 (.bool x.dead)).setIfInBounds 3 (.string x.val) = (nodeF x f).toArray := rfl
theorem set_old {n bz turn : Int} (W : World) (bd : Nat) (hne : bd ≠ t) (y x : Ent) (f : Nat → Option Nat) (htab : W.heap[t]? = some (.cells (tabC n bz ns hv turn).toArray 77 (0, 0))) (hnode : W.heap[bd]? = some (.cells (nodeF y f).toArray 75 (0, 0))) (B' : Int) :
    (((((W.setCell ⟨t, 1, none⟩ (.int .i64 B')).setCell ⟨bd, 0, none⟩ (.string x.key)).setCell ⟨bd, 1, none⟩ (.int .i64 x.seq)).setCell ⟨bd, 2, none⟩ (.bool x.dead)).setCell ⟨bd, 3, none⟩ (.string x.val)).drew.heap[t]? = some (.cells (tabC n B' ns hv turn).toArray 77 (0, 0)) ∧
    (((((W.setCell ⟨t, 1, none⟩ (.int .i64 B')).setCell ⟨bd, 0, none⟩ (.string x.key)).setCell ⟨bd, 1, none⟩ (.int .i64 x.seq)).setCell ⟨bd, 2, none⟩ (.bool x.dead)).setCell ⟨bd, 3, none⟩ (.string x.val)).drew.heap[bd]? = some (.cells (nodeF x f).toArray 75 (0, 0)) ∧
    Upd (fun k => k = t ∨ k = bd) W (((((W.setCell ⟨t, 1, none⟩ (.int .i64 B')).setCell ⟨bd, 0, none⟩ (.string x.key)).setCell ⟨bd, 1, none⟩ (.int .i64 x.seq)).setCell ⟨bd, 2, none⟩ (.bool x.dead)).setCell ⟨bd, 3, none⟩ (.string x.val)).drew := by
  have a1 := heap_setCell_same W t 1 _ _ (.int .i64 B') htab
  have b1 : (W.setCell ⟨t, 1, none⟩ (.int .i64 B')).heap[bd]? = some (.cells (nodeF y f).toArray 75 (0, 0)) := by rw [heap_setCell_other _ _ _ _ hne]; exact hnode
  have b2 := heap_setCell_same _ bd 0 _ _ (.string x.key) b1
  have b3 := heap_setCell_same _ bd 1 _ _ (.int .i64 x.seq) b2
  have b4 := heap_setCell_same _ bd 2 _ _ (.bool x.dead) b3
  have b5 := heap_setCell_same _ bd 3 _ _ (.string x.val) b4
  rw [nodeF_put] at b5
  rw [heap_drew]
  refine ⟨?_, b5, ?_⟩
  · rw [heap_setCell_other _ _ _ _ (Ne.symm hne), heap_setCell_other _ _ _ _ (Ne.symm hne), heap_setCell_other _ _ _ _ (Ne.symm hne), heap_setCell_other _ _ _ _ (Ne.symm hne)]
    exact a1
  · exact (((((((Upd.refl (fun k => k = t ∨ k = bd) W).setCell ⟨t, 1, none⟩ (.inl rfl) _).setCell ⟨bd, 0, none⟩ (.inr rfl) _).setCell ⟨bd, 1, none⟩ (.inr rfl) _).setCell ⟨bd, 2, none⟩ (.inr rfl) _).setCell ⟨bd, 3, none⟩ (.inr rfl) _).drewN 1)
theorem Mid.count {n bytes turn : Int} {F : Nat → Nat → Option Nat} (h : Mid w t ns n bytes hv turn F) (hne : ∀ d ∈ ns, d.b ≠ t) (n' bytes' : Int) : Mid ((w.setCell ⟨t, 0, none⟩ (.int .i64 n')).setCell ⟨t, 1, none⟩ (.int .i64 bytes')).drew t ns n' bytes' hv turn F where
  tab := by
    have a1 := heap_setCell_same w t 0 _ _ (.int .i64 n') h.tab
    have a2 := heap_setCell_same _ t 1 _ _ (.int .i64 bytes') a1
    rw [heap_drew]
    exact a2
  node := fun i hi => by
    have := hne _ (List.getElem_mem hi)
    rw [heap_drew, heap_setCell_other _ _ _ _ this, heap_setCell_other _ _ _ _ this]
    exact h.node i hi
theorem cut_gt {n bytes turn : Int} (h : Skip w B t ns n bytes hv hs turn) (x : Ent) (c : Nat) (hcc : c = cutOf ns x) (hz : ¬ ∃ h : c < ns.length, cmpE ns[c].x x = 0) : ∀ j (hj : j < ns.length), c ≤ j → cmpE x ns[j].x < 0 := by
  intro j hj hcj
  have h1 : cmpE x (ns[c]'(by omega)).x < 0 := by
    have h2 := cutOf_ge ns x h.rise c (by omega) (by omega)
    have h3 : ¬ cmpE (ns[c]'(by omega)).x x = 0 := fun e => hz ⟨by omega, e⟩
    rw [cmpE_swap]
    omega
  rcases Nat.lt_or_ge c j with h4 | h4
  · exact cmpE_trans h1 (List.pairwise_iff_getElem.1 h.rise c j (by omega) hj h4)
  · have e : j = c := by omega
    subst e
    exact h1
theorem added_new {turn' : Int} (h : Skip w B t ns ns.length (sizE (ents ns)) hv hs turn) (x y : Ent) (hx : x = clean y) (c : Nat) (hcc : c = cutOf ns x) (hz : ¬ ∃ h : c < ns.length, cmpE ns[c].x x = 0) (N q : Nat)
    (hu : Upd (foot t ns) w w') (hN : w.heap.size ≤ N) (ht0 : turn ≤ turn') (ht1 : turn' ≤ turn + 1)
    (hsk : Skip w' B t (ns.take c ++ ⟨N, x, q⟩ :: ns.drop c) ((ns.length : Int) + 1) ((sizE (ents ns) : Int) + ((x.key.size : Int) + x.val.size)) hv hs turn') :
    Added w w' B t ns (ns.take c ++ ⟨N, x, q⟩ :: ns.drop c) hv hs turn turn' [y] := by
  have hcl : c ≤ ns.length := by rw [hcc]; exact cutOf_le _ _
  have hlen : (ns.take c ++ (⟨N, x, q⟩ : Nd) :: ns.drop c).length = ns.length + 1 := by rw [List.length_append, List.length_cons, List.length_take, List.length_drop]; omega
  have hcy : cutOf ns x = cutOf ns y := by unfold cutOf; simp only [hx, cmpE_clean]
  have hlist : ents (ns.take c ++ ⟨N, x, q⟩ :: ns.drop c) = insE (ents ns) y := by
    have e : c = cutOf ns y := by rw [hcc, hcy]
    subst e
    rw [hx] at hz ⊢
    refine ins_new fun hc h0 => hz ⟨hc, by rw [cmpE_clean]; exact h0⟩
  have hvy : x.val.size ≤ y.val.size := by rw [hx]; exact clean_val y
  have hky : x.key = y.key := by rw [hx]; exact clean_key y
  have hs1 := siz_new (ns := ns) (x := x) (N := N) (q := q) (c := c)
  refine ⟨?_, hlist, ht0, by simpa using ht1, by rw [hlen]; simp, ?_, hu, ?_⟩
  · rw [hlen, hs1]
    simpa using hsk
  · rw [hs1, sizE_cons, ← hky]; omega
  · intro d hd
    rw [List.mem_append, List.mem_cons] at hd
    rcases hd with hd | rfl | hd
    · exact .inl ⟨d, List.mem_of_mem_take hd, rfl⟩
    · exact .inr hN
    · exact .inl ⟨d, List.mem_of_mem_drop hd, rfl⟩
theorem add_nums {bz : Int} {E E0 T Lz kz vz yk yv : Nat} (hbz : bz = E) (hb : E ≤ E0 + T) (hyz : T + (yk + yv) ≤ Lz) (hzz : E0 + Lz ≤ 2305843009213693952) (hk : kz = yk) (hv : vz ≤ yv) :
    wrap64 ((kz : Int) + vz) = (kz : Int) + vz ∧ wrap64 (bz + ((kz : Int) + vz)) = bz + ((kz : Int) + vz) :=
  ⟨wrap64_small (by omega) (by omega), wrap64_small (by omega) (by omega)⟩
set_option maxHeartbeats 8000000 in
set_option maxRecDepth 20000 in
theorem add_any (w : World) (h : Skip w B t ns ns.length (sizE (ents ns)) hv hs turn) (A : Option Addr) (m c : Nat) (l : List Ent) (hr : Rd w w.heap.size 4 A m (entv l)) (hA : 0 < m → ∀ ad, A = some ad → ¬ foot t ns ad.block)
    (ht0 : 0 ≤ turn) (ht1 : turn + m ≤ 2305843009213693952) (hl : hs.length ≤ 17592186044416) (hn : ns.length + m ≤ 1099511627776) (hz : sizE (ents ns) + sizE l ≤ 2305843009213693952) :
    Calls Try.prog 36 #[.pointer (some ⟨t, 0, none⟩), .slice A m c] w fun e w' => ∃ ns' turn', e = .returned (.tuple #[]) ∧ Added w w' B t ns ns' hv hs turn turn' l := by
  have hml := rd_entlen hr
  have HSK := Lib.hid h
  have HR := Lib.hid hr
  have HA := Lib.hid hA
  have HZ := Lib.hid hz
  have hwB := h.tlt
  have HML := Lib.hid hml
  clear h hr hA hz hml
  go_enter Try.func36, Try.ntmps36
  go_wp2
  go_loopw [12] (fun kv wx => ∃ (k : Nat) (nk : List Nd) (tk : Int), k ≤ m ∧ kv = .int .i64 (k : Int) ∧ Hid (Added w wx B t ns nk hv hs turn tk (l.take k))) (fun kv _ => ((m : Int) - intOf kv).toNat)
  case atStart => exact ⟨0, ns, turn, Nat.zero_le _, rfl, Lib.hid (Added.refl HSK.out)⟩
  case round =>
    obtain ⟨k, nk, tk, hkm, rfl, HAD⟩ := hrel
    by_cases hlt : k < m
    · have hr2 := HR.out.upd HAD.out.upd (Nat.le_refl _) (fun h0 ad e => HA.out h0 ad e)
      obtain ⟨ab, ao, rfl, hab, hs0, d0, d1, d2, d3⟩ := hr2.ent hlt
      obtain ⟨y, hy⟩ : ∃ y, l[k] = y := ⟨_, rfl⟩
      rw [hy] at d0 d1 d2 d3
      have HY := Lib.hid hy
      have hk1 : 0 ≤ (k : Int) := by omega
      have hk2 : (k : Int) < m := by omega
      have hst : l.take (k + 1) = l.take k ++ [y] := by rw [List.take_succ_eq_append_getElem hs0, hy]
      have HST := Lib.hid hst
      have hyz : sizE (l.take k) + (y.key.size + y.val.size) ≤ sizE l := by
        have := sizE_take l (k + 1)
        rw [hst, sizE_append, sizE_cons] at this
        omega
      have HYZ := Lib.hid hyz
      clear hr2 hy hst hyz
      go_upto_if 17 with (fail)
      go_cut [5] (fun xv wc => xv = .pointer (some ⟨wr.heap.size, 0, none⟩) ∧ wc.heap[wr.heap.size]? = some (.cells (clean y).cells.toArray 41 (0, 0)) ∧ Upd (fun _ => False) wr wc)
      case first =>
        clear d0 d1 d2 d3
        obtain ⟨K, S, D, V⟩ := y
        have n1 := heap_alloc_new wr (.cells #[.string K, .int .i64 S, .bool D, .string V] 41)
        have u1 : Upd (fun _ => False) wr (wr.alloc (.cells #[.string K, .int .i64 S, .bool D, .string V] 41)) := (Upd.refl _ _).alloc _
        cases D with
        | false =>
          have N1 := Lib.hid n1
          clear n1
          go_wp2
          go_meet
          case rel => exact ⟨rfl, N1.out, u1⟩
        | true =>
          have c3 := cell_of_row _ wr.heap.size 3 _ _ _ n1
          have f3 := frozen_of_row _ wr.heap.size 3 _ _ n1
          have N1 := Lib.hid n1
          clear n1
          go_wp2
          go_meet
          case rel => exact ⟨rfl, heap_alloc_new wr (.cells #[.string K, .int .i64 S, .bool true, .string ⟨#[]⟩] 41), (Upd.refl _ _).alloc _⟩
      case rest =>
        obtain ⟨rfl, hx, hux⟩ := hcut
        clear d0 d1 d2 d3
        have hskc := HAD.out.skip.upd hux (fun _ _ _ h => h)
        obtain ⟨x, hxx⟩ : ∃ x, x = clean y := ⟨_, rfl⟩
        rw [← hxx] at hx
        have HXX := Lib.hid hxx
        clear hxx
        obtain ⟨K, S, D, V⟩ := x
        have c0 : wc.cell? ⟨wr.heap.size, 0, none⟩ = some (.string K) := by rw [cell_of_row _ _ 0 _ _ _ hx]; rfl
        have c1 : wc.cell? ⟨wr.heap.size, 1, none⟩ = some (.int .i64 S) := by rw [cell_of_row _ _ 1 _ _ _ hx]; rfl
        have c2 : wc.cell? ⟨wr.heap.size, 2, none⟩ = some (.bool D) := by rw [cell_of_row _ _ 2 _ _ _ hx]; rfl
        have c3 : wc.cell? ⟨wr.heap.size, 3, none⟩ = some (.string V) := by rw [cell_of_row _ _ 3 _ _ _ hx]; rfl
        have HAH := Lib.hid (ahead_any wc B t nk _ _ hv hs tk ⟨K, S, D, V⟩ (cutOf nk ⟨K, S, D, V⟩) hskc (cutOf_le _ _) (cutOf_lt _ _) (cutOf_ge _ _ hskc.rise))
        have HSC := Lib.hid hskc
        have HX := Lib.hid hx
        have HUX := Lib.hid hux
        clear hskc hx hux
        go_wp2_with fail
        refine HAH.out.mono ?_
        rintro e w1 ⟨⟨O, rfl, hO⟩, hb1⟩
        have hOs : O.toArray.size = 8 := by rw [List.size_toArray]; exact hO.1
        have h1c : O.toArray.all (·.oneCell') = true := by
          rw [Array.all_eq_true_iff_forall_mem]
          intro v hv
          rw [List.mem_toArray, List.mem_iff_getElem?] at hv
          obtain ⟨L, hL⟩ := hv
          have hl : L < 8 := by have := (List.getElem?_eq_some_iff.1 hL).1; rw [hO.1] at this; exact this
          obtain ⟨q, _, h2⟩ := hO.2 L (by omega) hl
          rw [hL] at h2
          injection h2 with h2
          rw [h2]; rfl
        have HO := Lib.hid hO
        clear hO c0 c1 c2 c3
        go_wp2_with (refine wpList_store_rowAt rfl 73 (.tmp 6) (.tmp 21) rfl rfl w1.heap.size O.toArray rfl rfl 73 _ (heap_alloc_new _ _) (by rw [hOs]; rfl) (by rw [hOs]; rfl) h1c ?_)
        intro w2 hO2 hu2
        have hq1 : wc.heap.size ≤ w1.heap.size := hb1.size
        have hu3 : Upd (fun _ => False) wc w2 := ((Upd.of_below (S := fun _ => False) hb1).alloc _).trans hu2 fun k hk e => by omega
        obtain ⟨ob, hob⟩ : ∃ ob, ob = w1.heap.size := ⟨_, rfl⟩
        have hobl : wc.heap.size ≤ ob := by omega
        rw [← hob] at hO2
        try rw [← hob]
        have hxl := (Array.getElem?_eq_some_iff.1 HX.out).1
        have hx2 : w2.heap[wr.heap.size]? = some (.cells (Ent.cells ⟨K, S, D, V⟩).toArray 41 (0, 0)) := (hu3.block _ hxl (fun h => h)).trans HX.out
        have sk2 := HSC.out.upd hu3 (fun _ _ _ h => h)
        clear hu2 HAH hb1 hob hq1
        obtain ⟨cc, hcc⟩ : ∃ cc, cc = cutOf nk ⟨K, S, D, V⟩ := ⟨_, rfl⟩
        have hccl : cc ≤ nk.length := by rw [hcc]; exact cutOf_le _ _
        have hO0 : O[0]? = some (pptr (pb t nk cc)) := by
          obtain ⟨q, hq, hq2⟩ := HO.out.2 0 (by decide) (by decide)
          rw [hq2, lp_zero hq (cutOf_le _ _) (fun d hd => (HSC.out.high d hd).1), hcc]
        have cn := sk2.next cc 0 hccl (by decide) (by
          obtain ⟨q, hq, hq2⟩ := HO.out.2 0 (by decide) (by decide)
          rw [lp_zero hq (cutOf_le _ _) (fun d hd => (HSC.out.high d hd).1), ← hcc] at hq
          exact hq.2.1)
        rw [nx0 (fun d hd => (HSC.out.high d (List.mem_of_mem_drop hd)).1), List.head?_drop] at cn
        obtain ⟨pk, po, hpb⟩ : ∃ pk po, pb t nk cc = (pk, po) := ⟨_, _, rfl⟩
        rw [hpb] at cn hO0
        change w2.cell? ⟨pk, po + 4 + 0, none⟩ = _ at cn
        change O[0]? = some (.pointer (some ⟨pk, po, none⟩)) at hO0
        rw [Nat.add_zero] at cn
        have cO : w2.cell? ⟨ob, 0, none⟩ = some (.pointer (some ⟨pk, po, none⟩)) := by rw [cell_of_row _ _ _ _ _ _ hO2, List.getElem?_toArray]; exact hO0
        obtain ⟨r, hr⟩ : ∃ r, r = pv ((nk[cc]?).map (·.b)) := ⟨_, rfl⟩
        rw [← hr] at cn
        have c0 : w2.cell? ⟨wr.heap.size, 0, none⟩ = some (.string K) := by rw [cell_of_row _ _ 0 _ _ _ hx2]; rfl
        have c1 : w2.cell? ⟨wr.heap.size, 1, none⟩ = some (.int .i64 S) := by rw [cell_of_row _ _ 1 _ _ _ hx2]; rfl
        have c2 : w2.cell? ⟨wr.heap.size, 2, none⟩ = some (.bool D) := by rw [cell_of_row _ _ 2 _ _ _ hx2]; rfl
        have c3 : w2.cell? ⟨wr.heap.size, 3, none⟩ = some (.string V) := by rw [cell_of_row _ _ 3 _ _ _ hx2]; rfl
        have HX2 := Lib.hid hx2
        have HSK2 := Lib.hid sk2
        have HU3 := Lib.hid (HUX.out.trans hu3 fun _ _ h => h)
        have hobx : wr.heap.size < ob := by omega
        have HHI := Lib.hid HSC.out.high
        have HCC := Lib.hid hcc
        have HRR := Lib.hid hr
        have HO2 := Lib.hid hO2
        clear hx2 sk2 hu3 hcc hr hpb hO0 hO2 HX
        clear HSC HUX hxl hobl
        go_upto_region 7 with (fail)
        go_cut [38] (fun bv wd => ∃ bb : Bool, bv = .bool bb ∧ Hid (bb = true ↔ ∃ h : cc < nk.length, cmpE nk[cc].x ⟨K, S, D, V⟩ = 0) ∧ Upd (fun _ => False) w2 wd)
        case first =>
          rcases Nat.lt_or_ge cc nk.length with hcl | hcl
          · obtain ⟨d, hd⟩ : ∃ d, d = nk[cc] := ⟨_, rfl⟩
            have hrd : r = .pointer (some ⟨d.b, 0, none⟩) := by rw [HRR.out, List.getElem?_eq_getElem hcl, hd]; rfl
            subst hrd
            have he := HSK2.out.ent cc hcl
            rw [← hd] at he
            obtain ⟨e0, e1, e2, e3⟩ := he
            have hbl : d.b < w2.heap.size := by rw [hd]; exact HSK2.out.nlt cc hcl
            obtain ⟨bd, yd, hh⟩ := d
            obtain ⟨K', S', D', V'⟩ := yd
            change bd < _ at hbl
            change w2.cell? ⟨bd, 0, none⟩ = some (.string K') at e0
            change w2.cell? ⟨bd, 1, none⟩ = some (.int .i64 S') at e1
            change w2.cell? ⟨bd, 2, none⟩ = some (.bool D') at e2
            change w2.cell? ⟨bd, 3, none⟩ = some (.string V') at e3
            obtain ⟨z, hz⟩ : ∃ z, z = cmpE ⟨K', S', D', V'⟩ ⟨K, S, D, V⟩ := ⟨_, rfl⟩
            have HD := Lib.hid hd
            have hX2l := (Array.getElem?_eq_some_iff.1 HX2.out).1
            have HS : Hid (∀ W', Below w2.heap.size w2 W' → Below w2.heap.size w2 W' ∧ W'.cell? ⟨bd, 0, none⟩ = some (.string K') ∧ W'.cell? ⟨bd, 1, none⟩ = some (.int .i64 S') ∧ W'.cell? ⟨bd, 2, none⟩ = some (.bool D') ∧ W'.cell? ⟨bd, 3, none⟩ = some (.string V') ∧ W'.cell? ⟨wr.heap.size, 0, none⟩ = some (.string K) ∧ W'.cell? ⟨wr.heap.size, 1, none⟩ = some (.int .i64 S) ∧ W'.cell? ⟨wr.heap.size, 2, none⟩ = some (.bool D) ∧ W'.cell? ⟨wr.heap.size, 3, none⟩ = some (.string V)) := Lib.hid fun W' hW => ⟨hW, (hW.cell (p := ⟨bd, 0, none⟩) hbl).trans e0, (hW.cell (p := ⟨bd, 1, none⟩) hbl).trans e1, (hW.cell (p := ⟨bd, 2, none⟩) hbl).trans e2, (hW.cell (p := ⟨bd, 3, none⟩) hbl).trans e3,
              (hW.cell (p := ⟨wr.heap.size, 0, none⟩) hX2l).trans c0, (hW.cell (p := ⟨wr.heap.size, 1, none⟩) hX2l).trans c1, (hW.cell (p := ⟨wr.heap.size, 2, none⟩) hX2l).trans c2, (hW.cell (p := ⟨wr.heap.size, 3, none⟩) hX2l).trans c3⟩
            have HCM : Hid (∀ W', Below w2.heap.size w2 W' → Calls Try.prog 64 #[.agg #[.string K', .int .i64 S', .bool D', .string V'], .agg #[.string K, .int .i64 S, .bool D, .string V]] W' (fun e w' => e = .returned (.int .i64 z) ∧ Below w2.heap.size w2 w')) := Lib.hid fun W' hW =>
              (cmp_any W' ⟨K', S', D', V'⟩ ⟨K, S, D, V⟩).mono fun e w' h => ⟨by rw [hz]; exact h.1, hW.trans (h.2.mono hW.size)⟩
            have hbW0 : Below w2.heap.size w2 w2 := Below.refl _ _
            have hbW1 : Below w2.heap.size w2 w2.drew := ⟨rfl, rfl, rfl, Nat.le_refl _, fun _ _ => rfl⟩
            have hzq : Hid (z = 0 ↔ ∃ h : cc < nk.length, cmpE nk[cc].x ⟨K, S, D, V⟩ = 0) := Lib.hid (by
              rw [hz]
              constructor
              · intro h
                exact ⟨hcl, by rw [← HD.out]; exact h⟩
              · rintro ⟨_, h⟩
                rw [← HD.out] at h
                exact h)
            clear hd hz cn cO
            by_cases hz0 : z = 0
            · first
                | go_region_held3 (fun W' => Below w2.heap.size w2 W' ∧ W'.cell? ⟨bd, 0, none⟩ = some (.string K') ∧ W'.cell? ⟨bd, 1, none⟩ = some (.int .i64 S') ∧ W'.cell? ⟨bd, 2, none⟩ = some (.bool D') ∧ W'.cell? ⟨bd, 3, none⟩ = some (.string V') ∧ W'.cell? ⟨wr.heap.size, 0, none⟩ = some (.string K) ∧ W'.cell? ⟨wr.heap.size, 1, none⟩ = some (.int .i64 S) ∧ W'.cell? ⟨wr.heap.size, 2, none⟩ = some (.bool D) ∧ W'.cell? ⟨wr.heap.size, 3, none⟩ = some (.string V)) (first | exact HS.out _ (by assumption) | assumption | fail) (first
                  | (go_at_call 64; refine (HCM.out _ (by first | assumption | exact And.left (by assumption))).mono ?_; rintro e w2 ⟨rfl, hb2⟩)
                  | fail)
                | fail
              go_wp2
              go_meet
              case rel => exact ⟨true, rfl, Lib.hid ⟨fun _ => hzq.out.1 hz0, fun _ => rfl⟩, Upd.of_below hb2⟩
            · first
                | go_region_held3 (fun W' => Below w2.heap.size w2 W' ∧ W'.cell? ⟨bd, 0, none⟩ = some (.string K') ∧ W'.cell? ⟨bd, 1, none⟩ = some (.int .i64 S') ∧ W'.cell? ⟨bd, 2, none⟩ = some (.bool D') ∧ W'.cell? ⟨bd, 3, none⟩ = some (.string V') ∧ W'.cell? ⟨wr.heap.size, 0, none⟩ = some (.string K) ∧ W'.cell? ⟨wr.heap.size, 1, none⟩ = some (.int .i64 S) ∧ W'.cell? ⟨wr.heap.size, 2, none⟩ = some (.bool D) ∧ W'.cell? ⟨wr.heap.size, 3, none⟩ = some (.string V)) (first | exact HS.out _ (by assumption) | assumption | fail) (first
                  | (go_at_call 64; refine (HCM.out _ (by first | assumption | exact And.left (by assumption))).mono ?_; rintro e w2 ⟨rfl, hb2⟩)
                  | fail)
                | fail
              go_wp2
              go_meet
              case rel => exact ⟨false, by rw [show (z == 0) = false from beq_eq_false_iff_ne.2 hz0], Lib.hid ⟨(fun h => by cases h), fun h => absurd (hzq.out.2 h) hz0⟩, Upd.of_below hb2⟩
          · have hrd : r = .pointer none := by rw [HRR.out, List.getElem?_eq_none hcl]; rfl
            subst hrd
            clear cn cO
            first
              | go_quiet (fail)
              | fail
            go_wp2
            go_meet
            case rel => exact ⟨false, rfl, Lib.hid ⟨(fun h => by cases h), fun h => by obtain ⟨h, _⟩ := h; omega⟩, (Upd.refl _ _).drewN _⟩
        case rest =>
          obtain ⟨bb, rfl, HB, hud⟩ := hcut
          clear c0 c1 c2 c3 cn cO
          have sk3 := HSK2.out.upd hud (fun _ _ _ h => h)
          have hU3 : Upd (fun _ => False) wr wc := HU3.out.trans hud fun _ _ h => h
          have hx3 : wc.heap[wr.heap.size]? = some (.cells (Ent.cells ⟨K, S, D, V⟩).toArray 41 (0, 0)) := (hud.block _ (Array.getElem?_eq_some_iff.1 HX2.out).1 (fun h => h)).trans HX2.out
          have hxlt := (Array.getElem?_eq_some_iff.1 hx3).1
          have hO3 : wc.heap[ob]? = some (.cells O.toArray 73 (0, 0)) := (hud.block _ (Array.getElem?_eq_some_iff.1 HO2.out).1 (fun h => h)).trans HO2.out
          have c0 : wc.cell? ⟨wr.heap.size, 0, none⟩ = some (.string K) := by rw [cell_of_row _ _ 0 _ _ _ hx3]; rfl
          have c1 : wc.cell? ⟨wr.heap.size, 1, none⟩ = some (.int .i64 S) := by rw [cell_of_row _ _ 1 _ _ _ hx3]; rfl
          have c2 : wc.cell? ⟨wr.heap.size, 2, none⟩ = some (.bool D) := by rw [cell_of_row _ _ 2 _ _ _ hx3]; rfl
          have c3 : wc.cell? ⟨wr.heap.size, 3, none⟩ = some (.string V) := by rw [cell_of_row _ _ 3 _ _ _ hx3]; rfl
          clear hud HU3 HX2 HO2 HSK2
          cases bb with
          | true =>
            obtain ⟨hcl, hz0⟩ := HB.out.1 rfl
            have hrd : r = .pointer (some ⟨nk[cc].b, 0, none⟩) := by rw [HRR.out, List.getElem?_eq_getElem hcl]; rfl
            obtain ⟨e0, e1, e2, e3⟩ := sk3.ent cc hcl
            have t1 := sk3.cell1
            have ft := sk3.free 1
            have hnl := sk3.nlt cc hcl
            have hnd := sk3.chain.at cc hcl
            obtain ⟨V', hV'⟩ : ∃ V', V' = nk[cc].x.val := ⟨_, rfl⟩
            rw [← hV'] at e3
            obtain ⟨bd, hbd⟩ : ∃ bd, bd = nk[cc].b := ⟨_, rfl⟩
            rw [← hbd] at hrd e0 e1 e2 e3 hnl hnd
            have hbt : bd ≠ t := by rw [hbd]; exact (sk3.nbase _ (List.getElem_mem hcl)).2
            have hbx : bd ≠ wr.heap.size := by
              have := HAD.out.skip.nlt cc hcl
              rw [← hbd] at this
              omega
            have htx : t ≠ wr.heap.size := by have := HAD.out.skip.tlt; omega
            have fd0 := frozen_of_row wc bd 0 _ _ hnd
            have fd1 := frozen_of_row wc bd 1 _ _ hnd
            have fd2 := frozen_of_row wc bd 2 _ _ hnd
            have fd3 := frozen_of_row wc bd 3 _ _ hnd
            subst hrd
            obtain ⟨bz, hbz⟩ : ∃ bz : Int, bz = (sizE (ents nk) : Int) := ⟨_, rfl⟩
            rw [← hbz] at t1
            have HBZ := Lib.hid hbz
            have HSK3 := Lib.hid sk3
            have HU4 := Lib.hid hU3
            have HND := Lib.hid hnd
            have HBD := Lib.hid hbd
            have HVV := Lib.hid hV'
            have HZ0 := Lib.hid hz0
            clear hbz sk3 hU3 hnd hbd hV' hz0 hx3 hO3
            go_wp2
            go_still_tail 19, (by kernel_rfl)
            change wpList _ _ _ _ _ wc.drew
            go_wp2
            refine ⟨⟨k + 1, putN nk cc ⟨K, S, D, V⟩ nk[cc], tk, by omega, rfl, Lib.hid ?_⟩, by simp [intOf]; omega⟩
            have hvz : V'.size ≤ sizE (ents nk) := by
              have := sizE_mem (l := ents nk) (x := nk[cc].x) (List.mem_map.2 ⟨_, List.getElem_mem hcl, rfl⟩)
              rw [HVV.out]; omega
            have hv2 : V.size ≤ y.val.size := by
              have := clean_val y
              rw [← HXX.out] at this
              exact this
            have hbnd := HAD.out.size
            have hyz := HYZ.out
            have hzz := HZ.out
            have hw1 : wrap64 ((V.size : Int) - V'.size) = (V.size : Int) - V'.size := wrap64_small (by omega) (by omega)
            have hw2 : wrap64 (bz + ((V.size : Int) - V'.size)) = bz + ((V.size : Int) - V'.size) := wrap64_small (by have := HBZ.out; omega) (by have := HBZ.out; omega)
            rw [hw1, hw2, HST.out]
            have htt := HSK3.out.tab
            rw [← HBZ.out] at htt
            obtain ⟨s1, s2, s3⟩ := set_old (t := t) (n := nk.length) (ns := nk) (hv := hv) (turn := tk) wc bd hbt nk[cc].x ⟨K, S, D, V⟩ (own nk[cc] (nk.drop (cc + 1))) htt HND.out (bz + ((V.size : Int) - V'.size))
            refine HAD.out.snoc (added_old HAD.out.skip ⟨K, S, D, V⟩ y HXX.out cc HCC.out hcl HZ0.out ?_ ?_ ?_)
            · have := HU4.out.mono (S' := fun k => k = t ∨ k = nk[cc].b) (fun _ _ h => h.elim)
              rw [← HBD.out] at this ⊢
              exact this.trans s3 fun _ _ h => h
            · rw [← HVV.out, ← HBZ.out]
              exact s1
            · rw [← HBD.out]
              exact s2
          | false =>
            have HO3 := Lib.hid hO3
            have HX3 := Lib.hid hx3
            have HSK3 := Lib.hid sk3
            have HU4 := Lib.hid hU3
            clear hO3 hx3 sk3 hU3
            obtain ⟨P, hP⟩ : ∃ P : Nat → Nat, ∀ L, L < 8 → IsLp nk cc L (P L) ∧ O[L]? = some (pptr (pb t nk (P L))) := by
              have h0 : ∀ L, L < 8 → ∃ q, IsLp nk cc L q ∧ O[L]? = some (pptr (pb t nk q)) := fun L hL => by
                rw [HCC.out]
                exact HO.out.2 L (by omega) hL
              exact ⟨fun L => if h : L < 8 then (h0 L h).choose else 0, fun L hL => by simp only [dif_pos hL]; exact (h0 L hL).choose_spec⟩
            have HP := Lib.hid hP
            clear hP HO h1c hOs
            go_wp2_with fail
            have un : Upd (fun _ => False) wc (wc.alloc (.cells #[.string K, .int .i64 S, .bool D, .string V, .pointer none, .pointer none, .pointer none, .pointer none, .pointer none, .pointer none, .pointer none, .pointer none] 75)) := (Upd.refl _ _).alloc _
            have nn : (wc.alloc (.cells #[.string K, .int .i64 S, .bool D, .string V, .pointer none, .pointer none, .pointer none, .pointer none, .pointer none, .pointer none, .pointer none, .pointer none] 75)).heap[wc.heap.size]? = some (.cells (nodeF ⟨K, S, D, V⟩ (fun _ => none)).toArray 75 (0, 0)) := heap_alloc_new wc _
            have htk0 := HAD.out.turn0
            have htk1 := HAD.out.turn1
            rw [List.length_take] at htk1
            refine (height_any _ (HSK3.out.upd un (fun _ _ _ h => h)) (by omega) (by omega) hl).mono ?_
            rintro e w3 ⟨q, tk', rfl, hq1, hq2, sk4, htk2, htk3, hu4⟩
            have hsz4 : wc.heap.size < w3.heap.size := by have := hu4.size; simp at this; omega
            have htn : t < wc.heap.size := HSK3.out.tlt
            have nn4 : w3.heap[wc.heap.size]? = some (.cells (nodeF ⟨K, S, D, V⟩ (fun _ => none)).toArray 75 (0, 0)) := (hu4.block _ (by simp) (by omega)).trans nn
            have ou4 : Upd (fun k => k = t) wc w3 := un.mono (S' := fun k => k = t) (fun _ _ h => h.elim) |>.trans hu4 fun _ _ h => h
            have hot : ob ≠ t := by
              have := HAD.out.skip.tlt
              omega
            have htx : t ≠ wr.heap.size := by have := HAD.out.skip.tlt; omega
            have hobl := (Array.getElem?_eq_some_iff.1 HO3.out).1
            have oo4 : w3.heap[ob]? = some (.cells O.toArray 73 (0, 0)) := (ou4.block _ hobl hot).trans HO3.out
            have xx4 : w3.heap[wr.heap.size]? = some (.cells (Ent.cells ⟨K, S, D, V⟩).toArray 41 (0, 0)) := (ou4.block _ hxlt (Ne.symm htx)).trans HX3.out
            have SK4 := Lib.hid sk4
            have OU4 := Lib.hid ou4
            have m4 : Hid (Mid w3 t nk nk.length (sizE (ents nk)) hv tk' (upF nk P wc.heap.size 0)) := Lib.hid (sk4.mid P _)
            clear nn un hu4 ou4 sk4 c0 c1 c2 c3
            go_wp2
            go_loopw [67] (fun lv wx => ∃ L : Nat, L ≤ q ∧ lv = .int .i64 (L : Int) ∧ Hid (Mid wx t nk nk.length (sizE (ents nk)) hv tk' (upF nk P wc.heap.size L)) ∧ wx.heap[wc.heap.size]? = some (.cells (nodeF ⟨K, S, D, V⟩ (fun K => if K < L then nx K (nk.drop cc) else none)).toArray 75 (0, 0)) ∧
              wx.heap[ob]? = some (.cells O.toArray 73 (0, 0)) ∧ wx.heap[wr.heap.size]? = some (.cells (Ent.cells ⟨K, S, D, V⟩).toArray 41 (0, 0)) ∧ Hid (Upd (fun k => foot t nk k ∨ k = wc.heap.size) w3 wx)) (fun lv _ => ((q : Int) - intOf lv).toNat)
            case atStart =>
              refine ⟨0, Nat.zero_le _, rfl, m4, ?_, oo4, xx4, Lib.hid (Upd.refl _ _)⟩
              rw [nn4]
              have : nodeF ⟨K, S, D, V⟩ (fun K => if K < 0 then nx K (nk.drop cc) else none) = nodeF ⟨K, S, D, V⟩ (fun _ => none) := nodeF_ext fun L _ => if_neg (by omega)
              rw [this]
            case round =>
              clear nn4 oo4 xx4 m4
              rename World => wy
              obtain ⟨L, hLq, rfl, hm, hn2, ho2, hx2, hu2⟩ := hrel
              by_cases hL : L < q
              · have hL8 : L < 8 := by omega
                obtain ⟨hp, hpo⟩ := HP.out L hL8
                obtain ⟨p, hpp⟩ : ∃ p, p = P L := ⟨_, rfl⟩
                rw [← hpp] at hp hpo
                have hpn : p ≤ nk.length := Nat.le_trans hp.1 hccl
                obtain ⟨pk, po, hpb⟩ : ∃ pk po, pb t nk p = (pk, po) := ⟨_, _, rfl⟩
                have cN := hm.out.next p L hpn hL8
                have fN := hm.out.free p L hpn
                have hbase : upF nk P wc.heap.size L p L = nx L (nk.drop cc) := by
                  unfold upF
                  rw [if_neg (by omega)]
                  have h1 : nx L (nk.drop p) = nx L (nk.drop cc) := by
                    have e : nk.drop p = (nk.drop p).take (cc - p) ++ nk.drop cc := by
                      have := List.take_append_drop (cc - p) (nk.drop p)
                      rw [List.drop_drop, show p + (cc - p) = cc by have := hp.1; omega] at this
                      exact this.symm
                    rw [e]
                    refine nx_skip fun d hd => ?_
                    rw [List.mem_take_iff_getElem] at hd
                    obtain ⟨j, hj, rfl⟩ := hd
                    rw [List.length_drop] at hj
                    have := hp.2.2 (p + j) (by omega) (by omega) (by omega)
                    rw [List.getElem_drop]
                    exact this
                  rcases Nat.eq_zero_or_pos p with h0 | h0
                  · subst h0
                    show nx L nk = _
                    rw [← h1, List.drop_zero]
                  · obtain ⟨p', rfl⟩ : ∃ p', p = p' + 1 := ⟨p - 1, by omega⟩
                    rw [baseF_succ nk p' L (by omega), own, if_pos]
                    · exact h1
                    · rcases hp.2.1 with h2 | ⟨h2, h3⟩
                      · omega
                      · simpa using h3
                rw [hbase] at cN
                rw [hpb] at cN fN hpo
                change wy.cell? ⟨pk, po + 4 + L, none⟩ = _ at cN
                change wy.frozen? ⟨pk, po + 4 + L, none⟩ = false at fN
                obtain ⟨nv, hnv⟩ : ∃ nv : Option Addr, .pointer nv = pv (nx L (nk.drop cc)) := ⟨_, rfl⟩
                rw [← hnv] at cN
                have cO : wy.cell? ⟨ob, L, none⟩ = some (.pointer (some ⟨pk, po, none⟩)) := by rw [cell_of_row _ _ _ _ _ _ ho2, List.getElem?_toArray]; exact hpo
                have c4 : wy.cell? ⟨wc.heap.size, 4 + L, none⟩ = some (pv none) := by
                  rw [cell_of_row _ _ _ _ _ _ hn2]
                  have := nodeF_get ⟨K, S, D, V⟩ (fun K => if K < L then nx K (nk.drop cc) else none) L hL8
                  rw [Nat.zero_add] at this
                  rw [this, if_neg (by omega)]
                have f4 : wy.frozen? ⟨wc.heap.size, 4 + L, none⟩ = false := frozen_of_row _ _ _ _ _ hn2
                have hpkN : pk ≠ wc.heap.size := by
                  have : (pb t nk p).1 < wc.heap.size := by
                    rcases Nat.eq_zero_or_pos p with h0 | h0
                    · subst h0
                      exact htn
                    · rw [show p = p - 1 + 1 by omega, pb_succ t nk (p - 1) (by omega)]
                      exact HSK3.out.nlt _ (by omega)
                  rw [hpb] at this
                  exact Nat.ne_of_lt this
                have hoN : ob ≠ wc.heap.size := by omega
                have l1 : (0 : Int) ≤ L := by omega
                have l2 : (L : Int) < 8 := by omega
                have l3 : (L : Int) < q := by omega
                have hpk2 : pk ≠ ob ∧ foot t nk pk := by
                  have h9 : foot t nk (pb t nk p).1 := by
                    rcases Nat.eq_zero_or_pos p with h0 | h0
                    · subst h0
                      exact .inl rfl
                    · rw [show p = p - 1 + 1 by omega, pb_succ t nk (p - 1) (by omega)]
                      exact .inr ⟨_, List.getElem_mem _, rfl⟩
                  rw [hpb] at h9
                  have := (foot_base HAD.out.skip pk h9).2
                  exact ⟨by omega, h9⟩
                have HNV := Lib.hid hnv
                have HPP := Lib.hid hpp
                have HPB := Lib.hid hpb
                have HN2 := Lib.hid hn2
                have HO2 := Lib.hid ho2
                have HX2 := Lib.hid hx2
                have HLP := Lib.hid hp
                clear hnv hpp hpb hn2 ho2 hx2 hp hpo hbase
                go_wp2
                go_still_tail 13, (by kernel_rfl)
                change wpList _ _ _ _ _ wy.drew
                go_wp2
                have hpk3 := foot_base HAD.out.skip pk hpk2.2
                have hNt : wc.heap.size ≠ t := by omega
                have u1 : Upd (fun k => k = wc.heap.size) wy (wy.setCell ⟨wc.heap.size, 4 + L, none⟩ (.pointer nv)) := (Upd.refl (fun k => k = wc.heap.size) wy).setCell ⟨wc.heap.size, 4 + L, none⟩ rfl _
                refine ⟨⟨L + 1, by omega, rfl, Lib.hid ?_, ?_, ?_, ?_, Lib.hid ?_⟩, by simp [intOf]; omega⟩
                · have m1 := hm.out.upd u1 (Ne.symm hNt) (fun d hd => by
                    obtain ⟨j, hj, rfl⟩ := List.mem_iff_getElem.1 hd
                    have := HSK3.out.nlt j hj
                    omega)
                  have m2 := m1.set (F' := upF nk P wc.heap.size (L + 1)) HSK3.out.nodup (fun d hd => (HSK3.out.nbase d hd).2) p L wc.heap.size hpn hL8 (fun p' K _ hK => by
                    unfold upF
                    by_cases e : p' = p ∧ K = L
                    · obtain ⟨rfl, rfl⟩ := e
                      rw [if_pos ⟨by omega, HPP.out.symm⟩, if_pos ⟨rfl, rfl⟩]
                    · rw [if_neg e]
                      by_cases e2 : K < L ∧ P K = p'
                      · rw [if_pos ⟨by omega, e2.2⟩, if_pos e2]
                      · rw [if_neg e2, if_neg]
                        rintro ⟨h1, h2⟩
                        rcases Nat.lt_or_ge K L with h3 | h3
                        · exact e2 ⟨h3, h2⟩
                        · have h4 : K = L := by omega
                          subst h4
                          exact e ⟨by rw [← h2, HPP.out], rfl⟩)
                  rw [HPB.out] at m2
                  exact m2.upd ((Upd.refl (fun _ => False) _).drewN 1) (fun h => h) (fun _ _ h => h)
                · rw [heap_drew, heap_setCell_other _ _ _ _ (Ne.symm hpkN), heap_setCell_same wy _ (4 + L) _ _ (.pointer nv) HN2.out]
                  have h1 := nodeF_set ⟨K, S, D, V⟩ (fun K => if K < L then nx K (nk.drop cc) else none) L (nx L (nk.drop cc)) hL8
                  rw [Nat.zero_add, ← HNV.out] at h1
                  rw [h1]
                  have h2 : nodeF ⟨K, S, D, V⟩ (fun K => if K = L then nx L (nk.drop cc) else if K < L then nx K (nk.drop cc) else none) = nodeF ⟨K, S, D, V⟩ (fun K => if K < L + 1 then nx K (nk.drop cc) else none) := nodeF_ext fun J _ => by
                    by_cases e : J = L
                    · subst e
                      rw [if_pos rfl, if_pos (by omega)]
                    · rw [if_neg e]
                      by_cases e2 : J < L
                      · rw [if_pos e2, if_pos (by omega)]
                      · rw [if_neg e2, if_neg (by omega)]
                  rw [h2]
                · rw [heap_drew, heap_setCell_other _ _ _ _ (Ne.symm hpk2.1), heap_setCell_other _ _ _ _ hoN]
                  exact HO2.out
                · rw [heap_drew, heap_setCell_other _ _ _ _ (by show wr.heap.size ≠ pk; omega), heap_setCell_other _ _ _ _ (by show wr.heap.size ≠ wc.heap.size; omega)]
                  exact HX2.out
                · exact (((hu2.out.setCell ⟨wc.heap.size, 4 + L, none⟩ (.inr rfl) _).setCell ⟨pk, po + 4 + L, none⟩ (.inl hpk2.2) _).drewN 1)
              · obtain rfl : L = q := by omega
                have t0 : wy.cell? ⟨t, 0, none⟩ = some (.int .i64 (nk.length : Int)) := by rw [cell_of_row _ _ 0 _ _ _ hm.out.tab]; rfl
                have t1 : wy.cell? ⟨t, 1, none⟩ = some (.int .i64 (sizE (ents nk) : Int)) := by rw [cell_of_row _ _ 1 _ _ _ hm.out.tab]; rfl
                have ft0 : wy.frozen? ⟨t, 0, none⟩ = false := frozen_of_row _ _ _ _ _ hm.out.tab
                have ft1 : wy.frozen? ⟨t, 1, none⟩ = false := frozen_of_row _ _ _ _ _ hm.out.tab
                have c0 : wy.cell? ⟨wr.heap.size, 0, none⟩ = some (.string K) := by rw [cell_of_row _ _ 0 _ _ _ hx2]; rfl
                have c3 : wy.cell? ⟨wr.heap.size, 3, none⟩ = some (.string V) := by rw [cell_of_row _ _ 3 _ _ _ hx2]; rfl
                have hnk : nk.length ≤ 1099511627776 := by
                  have := HAD.out.len
                  rw [List.length_take] at this
                  omega
                have hnk1 : (nk.length : Int) ≤ 1099511627776 := by omega
                obtain ⟨bz, hbz⟩ : ∃ bz : Int, bz = (sizE (ents nk) : Int) := ⟨_, rfl⟩
                rw [← hbz] at t1
                have HBZ := Lib.hid hbz
                have HN2 := Lib.hid hn2
                have HNK := Lib.hid hnk
                clear hbz hn2 ho2 hx2 hnk
                have b1 : (wy.setCell ⟨t, 0, none⟩ (.int .i64 ((nk.length : Int) + 1))).cell? ⟨t, 1, none⟩ = some (.int .i64 bz) := by rw [cell_of_row _ _ 1 _ _ _ (heap_setCell_same wy t 0 _ _ _ hm.out.tab), HBZ.out]; rfl
                have b2 : (wy.setCell ⟨t, 0, none⟩ (.int .i64 ((nk.length : Int) + 1))).frozen? ⟨t, 1, none⟩ = false := frozen_of_row _ _ _ _ _ (heap_setCell_same wy t 0 _ _ _ hm.out.tab)
                have b3 : (wy.setCell ⟨t, 0, none⟩ (.int .i64 ((nk.length : Int) + 1))).cell? ⟨wr.heap.size, 0, none⟩ = some (.string K) := by
                  rw [((Upd.refl (fun k => k = t) wy).setCell ⟨t, 0, none⟩ rfl _).cell (p := ⟨wr.heap.size, 0, none⟩) (World.cell?_lt c0) (Ne.symm htx)]; exact c0
                have b4 : (wy.setCell ⟨t, 0, none⟩ (.int .i64 ((nk.length : Int) + 1))).cell? ⟨wr.heap.size, 3, none⟩ = some (.string V) := by
                  rw [((Upd.refl (fun k => k = t) wy).setCell ⟨t, 0, none⟩ rfl _).cell (p := ⟨wr.heap.size, 3, none⟩) (World.cell?_lt c3) (Ne.symm htx)]; exact c3
                obtain ⟨w5, hw5⟩ : ∃ w5, w5 = wy.setCell ⟨t, 0, none⟩ (.int .i64 ((nk.length : Int) + 1)) := ⟨_, rfl⟩
                rw [← hw5] at b1 b2 b3 b4
                have HW5 := Lib.hid hw5
                go_wp2
                rw [← hw5]
                clear hw5 t0 t1 ft0 ft1 c0 c3
                go_still_tail 16, (by kernel_rfl)
                change wpList _ _ _ _ _ w5.drew
                go_wp2
                have hz : ¬ ∃ h : cc < nk.length, cmpE nk[cc].x ⟨K, S, D, V⟩ = 0 := fun h => absurd (HB.out.2 h) (by simp)
                have hv2 : V.size ≤ y.val.size := by
                  have := clean_val y
                  rw [← HXX.out] at this
                  exact this
                have hk2 : K.size = y.key.size := by
                  have := clean_key y
                  rw [← HXX.out] at this
                  exact congrArg ByteArray.size this
                obtain ⟨hw1, hw2⟩ := add_nums HBZ.out HAD.out.size HYZ.out HZ.out hk2 hv2
                rw [hw1, hw2, HW5.out]
                have hUF : Upd (fun k => foot t nk k ∨ k = wc.heap.size) wc ((wy.setCell ⟨t, 0, none⟩ (.int .i64 ((nk.length : Int) + 1))).setCell ⟨t, 1, none⟩ (.int .i64 (bz + ((K.size : Int) + V.size)))).drew :=
                  ((((OU4.out.mono (S' := fun k => foot t nk k ∨ k = wc.heap.size) (fun _ _ h => .inl (.inl h))).trans hu2.out fun _ _ h => h).setCell ⟨t, 0, none⟩ (.inl (.inl rfl)) _).setCell ⟨t, 1, none⟩ (.inl (.inl rfl)) _).drewN 1
                refine ⟨⟨k + 1, nk.take cc ++ ⟨wc.heap.size, ⟨K, S, D, V⟩, L⟩ :: nk.drop cc, tk', by omega, rfl, Lib.hid ?_⟩, by simp [intOf]; omega⟩
                rw [HST.out]
                refine HAD.out.snoc (added_new HAD.out.skip ⟨K, S, D, V⟩ y HXX.out cc HCC.out hz wc.heap.size L ?_ (by have := HU4.out.size; exact this) htk2 htk3 ?_)
                · exact (HU4.out.mono (S' := foot t nk) (fun _ _ h => h.elim)).trans hUF fun k hk h => by
                    rcases h with h | h
                    · exact h
                    · have := HU4.out.size
                      omega
                · refine Mid.done HSK3.out P wc.heap.size cc L ⟨K, S, D, V⟩ ?_ hccl (fun J hJ => (HP.out J hJ).1) ?_ (Nat.le_refl _) ⟨by omega, by omega⟩ ?_ ?_ ?_
                  · have := hm.out.count (fun d hd => (HSK3.out.nbase d hd).2) ((nk.length : Int) + 1) (bz + ((K.size : Int) + V.size))
                    rw [HBZ.out] at this ⊢
                    exact this
                  · rw [heap_drew, heap_setCell_other _ _ _ _ (by show wc.heap.size ≠ t; omega), heap_setCell_other _ _ _ _ (by show wc.heap.size ≠ t; omega)]
                    exact HN2.out
                  · refine own_upd HSK3.out.hown hUF fun j hj h => ?_
                    rcases h with (h | ⟨d, hd, h⟩) | h
                    · exact (HSK3.out.hne j hj).1 h
                    · exact (HSK3.out.hne j hj).2 d hd h
                    · have := (HSK3.out.hown.lt j hj).2
                      omega
                  · intro j hj h1
                    rw [HCC.out] at h1
                    exact cutOf_lt _ _ j hj h1
                  · exact cut_gt HSK3.out _ cc HCC.out hz
    · have e1 : l.take k = l := List.take_of_length_le (by have := HML.out; omega)
      have b1 : decide ((k : Int) < m) = false := decide_eq_false (by omega)
      go_wp2
      refine bodyPost_end (results_none rfl _ _ _) rfl ?_
      have := HAD.out
      rw [e1] at this
      exact ⟨nk, tk, rfl, this⟩
end
end Go.Proofs.Ytanieolnaiihmaa.M6
