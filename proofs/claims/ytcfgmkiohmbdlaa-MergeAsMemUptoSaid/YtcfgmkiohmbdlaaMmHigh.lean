/- Tables in memory: the next height, a new table, walked. -/
import Derived.Test.YtcfgmkiohmbdlaaMmGet
namespace Go.Proofs.Ytcfgmkiohmbdlaa
open Go.RowKit
section
variable {w w' : World} {B t : Nat} {ns : List Nd} {n bytes turn : Int} {hv : Value} {hs : List Int}
theorem Skip.c14 (h : Skip w B t ns n bytes hv hs turn) : w.cell? ⟨t, 14, none⟩ = some hv := by rw [cell_of_row w t 14 _ _ _ h.tab]; rfl
theorem Skip.c15 (h : Skip w B t ns n bytes hv hs turn) : w.cell? ⟨t, 15, none⟩ = some (.int .i64 turn) := by rw [cell_of_row w t 15 _ _ _ h.tab]; rfl
theorem Skip.free (h : Skip w B t ns n bytes hv hs turn) (k : Nat) : w.frozen? ⟨t, k, none⟩ = false := frozen_of_row _ _ _ _ _ h.tab
/-- The table's own block may be written: what is asked is its row. -/
theorem Skip.row (h : Skip w B t ns n bytes hv hs turn) (hu : Upd (fun k => k = t) w w') {n' bytes' turn' : Int} (ht : w'.heap[t]? = some (.cells (tabC n' bytes' ns hv turn').toArray 80 (0, 0))) : Skip w' B t ns n' bytes' hv hs turn' where
  tab := ht
  chain := Chain.of fun i hi => (hu.block _ (h.nlt i hi) (h.nbase _ (List.getElem_mem hi)).2).trans (h.chain.at i hi)
  tbase := h.tbase
  nbase := h.nbase
  nodup := h.nodup
  high := h.high
  rise := h.rise
  hown := own_upd h.hown hu fun k hk => (h.hne k hk).1
  hne := h.hne
  hsOk := h.hsOk
theorem tabC_turn (n bytes : Int) (ns : List Nd) (hv : Value) (turn x : Int) : (tabC n bytes ns hv turn).toArray.setIfInBounds 15 (.int .i64 x) = (tabC n bytes ns hv x).toArray := rfl
theorem tabC_n (n bytes : Int) (ns : List Nd) (hv : Value) (turn x : Int) : (tabC n bytes ns hv turn).toArray.setIfInBounds 0 (.int .i64 x) = (tabC x bytes ns hv turn).toArray := rfl
theorem tabC_bytes (n bytes : Int) (ns : List Nd) (hv : Value) (turn x : Int) : (tabC n bytes ns hv turn).toArray.setIfInBounds 1 (.int .i64 x) = (tabC n x ns hv turn).toArray := rfl
set_option maxHeartbeats 2000000 in
set_option maxRecDepth 20000 in
theorem height_any (w : World) (h : Skip w B t ns n bytes hv hs turn) (ht0 : 0 ≤ turn) (ht1 : turn ≤ 4611686018427387904) (hl : hs.length ≤ 17592186044416) :
    Calls Try.prog 59 #[.pointer (some ⟨t, 0, none⟩)] w fun e w' => ∃ (q : Nat) (turn' : Int), e = .returned (.int .i64 (q : Int)) ∧ 1 ≤ q ∧ q ≤ 8 ∧ Skip w' B t ns n bytes hv hs turn' ∧ turn ≤ turn' ∧ turn' ≤ turn + 1 ∧ Upd (fun k => k = t) w w' := by
  have c14 := h.c14
  have c15 := h.c15
  have f15 := h.free 15
  obtain ⟨Ah, ch, hvs⟩ := own_shape h.hown
  subst hvs
  have HSK := Lib.hid h
  have hown := h.hown
  have hok := h.hsOk
  clear h
  by_cases h0 : hs.length = 0
  · go_enter Try.func59, Try.ntmps59
    go_wp2
    go_ret
    exact ⟨1, turn, rfl, by decide, by decide, HSK.out, Int.le_refl _, by omega, Upd.refl _ _⟩
  · obtain ⟨m, hm⟩ : ∃ m : Nat, turn = (m : Int) := ⟨turn.toNat, by omega⟩
    subst hm
    obtain ⟨j, hj⟩ : ∃ j, j = m % hs.length := ⟨_, rfl⟩
    have hjl : j < hs.length := by rw [hj]; exact Nat.mod_lt _ (by omega)
    have hrd := Rd.own hown
    obtain ⟨ad, hA, hAb, hc⟩ := hrd.at_ (by omega)
    subst hA
    have cj := hc j (.int .i64 hs[j]) (by rw [List.getElem?_map, List.getElem?_eq_getElem hjl]; rfl)
    obtain ⟨q, hq⟩ : ∃ q : Nat, hs[j] = (q : Int) := ⟨hs[j].toNat, by have := hok hs[j] (List.getElem_mem _); omega⟩
    have hq2 := hok hs[j] (List.getElem_mem _)
    rw [hq] at cj hq2
    have hrem : ((m : Int).tmod (hs.length : Int)) = (j : Int) := by rw [Int.tmod_eq_emod_of_nonneg (by omega), hj]; omega
    have hl0 : ¬ ((hs.length : Int) = 0) := by omega
    have hj0 : 0 ≤ (j : Int) := by omega
    have hj1 : (j : Int) < hs.length := by omega
    clear hown hok hrd hc hj hq
    go_enter Try.func59, Try.ntmps59
    go_wp2
    go_quiet (fail)
    go_wp2
    go_ret
    have hu : Upd (fun k => k = t) w ((w.drewN nq).setCell ⟨t, 15, none⟩ (.int .i64 ((m : Int) + 1))) := (((Upd.refl (fun k => k = t) w).drewN nq)).setCell ⟨t, 15, none⟩ rfl _
    have htb := heap_setCell_same (w.drewN nq) t 15 _ _ (.int .i64 ((m : Int) + 1)) HSK.out.tab
    exact ⟨q, (m : Int) + 1, rfl, by omega, by omega, HSK.out.row hu (htb.trans (by rw [tabC_turn])), by omega, Int.le_refl _, hu⟩
theorem int_info : (Try.prog.info? 3).map (fun i => (i.zero, i.size, i.bytes)) = some (some (.int .i64 0), 1, 8) := by kernel_rfl
theorem tabC_hv (n bytes : Int) (ns : List Nd) (hv hv' : Value) (turn : Int) : (tabC n bytes ns hv turn).toArray.setIfInBounds 14 hv' = (tabC n bytes ns hv' turn).toArray := rfl
/-- The heights that 'New' takes. -/
def highs (a : List Int) : List Int := a.map fun h => wrap64 (1 + wrap64 ((IntKind.u64.wrap h).tmod 8))
theorem highs_ok (a : List Int) : ∀ h ∈ highs a, 1 ≤ h ∧ h ≤ 8 := by
  intro h hh
  simp only [highs, List.mem_map] at hh
  obtain ⟨x, _, rfl⟩ := hh
  have h0 : 0 ≤ IntKind.u64.wrap x := by unfold IntKind.wrap; simp [IntKind.bits, IntKind.signed]; omega
  have h1 : (IntKind.u64.wrap x).tmod 8 = IntKind.u64.wrap x % 8 := Int.tmod_eq_emod_of_nonneg h0
  have h2 : wrap64 ((IntKind.u64.wrap x).tmod 8) = IntKind.u64.wrap x % 8 := by rw [h1, show wrap64 (IntKind.u64.wrap x % 8) = IntKind.u64.wrap x % 8 from by unfold wrap64; omega]
  rw [h2]
  have h3 : wrap64 (1 + IntKind.u64.wrap x % 8) = 1 + IntKind.u64.wrap x % 8 := by unfold wrap64; omega
  rw [h3]
  omega
theorem highs_len (a : List Int) : (highs a).length = a.length := List.length_map ..
set_option maxHeartbeats 4000000 in
set_option maxRecDepth 20000 in
theorem new_any (w : World) (A : Option Addr) (m c : Nat) (a : List Int) (hr : Rd w w.heap.size 1 A m (a.map (Value.int .i64))) (hm : m ≤ 8796093022200) :
    Calls Try.prog 20 #[.slice A m c] w fun e w' => ∃ t hv, e = .returned (.pointer (some ⟨t, 0, none⟩)) ∧ Skip w' w.heap.size t [] 0 0 hv (highs a) 0 ∧ Below w.heap.size w w' := by
  have HR := Lib.hid hr
  have t0 : (w.alloc (.cells #[.int .i64 0, .int .i64 0, .string ⟨#[]⟩, .int .i64 0, .bool false, .string ⟨#[]⟩, .pointer none, .pointer none, .pointer none, .pointer none, .pointer none, .pointer none, .pointer none, .pointer none, .slice none 0 0, .int .i64 0] 80)).heap[w.heap.size]? = some (.cells (tabC 0 0 [] (.slice none 0 0) 0).toArray 80 (0, 0)) := heap_alloc_new w _
  clear hr
  go_enter Try.func20, Try.ntmps20
  go_wp2
  go_loopw [5, 10] (fun _ kv wx => ∃ (k : Nat) (hv : Value), k ≤ m ∧ kv = .int .i64 (k : Int) ∧ wx.heap[w.heap.size]? = some (.cells (tabC 0 0 [] hv 0).toArray 80 (0, 0)) ∧ wx.ownsRow w.heap.size 3 1 hv k ((highs (a.take k)).map (Value.int .i64)) ∧ hv.ownBlock ≠ some w.heap.size ∧ Below w.heap.size w wx) (fun _ kv _ => ((m : Int) - intOf kv).toNat)
  case atStart => exact ⟨0, .slice none 0 0, Nat.zero_le _, rfl, t0, World.ownsRow_nil _ _ _ _, by simp [Value.ownBlock], (Below.refl _ _).alloc (Nat.le_refl _) _⟩
  case round =>
    obtain ⟨k, hv, hkm, rfl, tb, how, hne, hb⟩ := hrel
    obtain ⟨A3, c3, rfl⟩ := own_shape how
    have hbs := hb.size
    have hral := HR.out.len
    rw [List.length_map, Nat.mul_one] at hral
    by_cases hlt : k < m
    · obtain ⟨ad, hA, hadb, hcs⟩ := HR.out.at_ (by omega)
      subst hA
      obtain ⟨x, hx⟩ : ∃ x, x = a[k]'(by omega) := ⟨_, rfl⟩
      have ck := hcs k (.int .i64 x) (by rw [List.getElem?_map, List.getElem?_eq_getElem (by omega), hx]; rfl)
      have ck' : wr.cell? (ad.add k) = some (.int .i64 x) := (hb.cell (p := ad.add k) (by rw [block_add]; exact hadb)).trans ck
      have c14 : wr.cell? ⟨w.heap.size, 14, none⟩ = some (.slice A3 k c3) := by rw [cell_of_row _ _ 14 _ _ _ tb]; rfl
      have hst : (highs (a.take (k + 1))) = highs (a.take k) ++ [wrap64 (1 + wrap64 ((IntKind.u64.wrap x).tmod 8))] := by
        rw [List.take_succ_eq_append_getElem (by omega), ← hx, highs, List.map_append]; rfl
      have HOW := Lib.hid how
      have HB := Lib.hid hb
      have HTB := Lib.hid tb
      have HST := Lib.hid hst
      have HNE := Lib.hid hne
      obtain ⟨ii, hii, hj0, hj1, hj2⟩ := info_parts int_info
      have hk1 : 0 ≤ (k : Int) := by omega
      have hk2 : (k : Int) < m := by omega
      clear hst hx hcs ck how hb tb hne
      go_wp2_with (at_builtin; refine wpList_push rfl (.tmp 18) (.tmp 24) 23 rfl w.heap.size 3 ii _ 1 8 Try.underlying23 hii hj0 hj1 hj2 rfl (by omega) _ k ((highs (a.take k)).map (Value.int .i64)) #[.int .i64 (wrap64 (1 + wrap64 ((IntKind.u64.wrap x).tmod 8)))] rfl (by exact HOW.out) rfl rfl (by simp [Value.oneCell']) ?c1 ?c2 ?c3 ?_)
      case c1 => omega
      case c2 => unfold maxLen; omega
      all_goals try (exact hbs)
      intro v' w2 ho2 hu2 hra2
      have htl : w.heap.size < wr.heap.size := (Array.getElem?_eq_some_iff.1 HTB.out).1
      have hb2 := below_row HB.out hbs HOW.out (Nat.le_refl _) hu2
      have tb2 : w2.heap[w.heap.size]? = some (.cells (tabC 0 0 [] (.slice A3 k c3) 0).toArray 80 (0, 0)) := (hu2.block _ htl HNE.out).trans HTB.out
      have ho3 : w2.ownsRow w.heap.size 3 1 v' (k + 1) ((highs (a.take (k + 1))).map (Value.int .i64)) := by
        rw [HST.out, List.map_append]; exact ho2
      have hne2 : v'.ownBlock ≠ some w.heap.size := fun e => HNE.out (hra2.old htl e)
      have fz := frozen_of_row w2 w.heap.size 14 _ _ tb2
      have cz : w2.cell? ⟨w.heap.size, 14, none⟩ = some (.slice A3 k c3) := by rw [cell_of_row _ _ 14 _ _ _ tb2]; rfl
      obtain ⟨A4, c4, rfl⟩ := own_shape ho2
      clear ho2 hra2 c14 ck'
      go_wp2
      refine ⟨⟨k + 1, _, by omega, rfl, (heap_setCell_same w2 _ 14 _ _ (.slice A4 (k + 1) c4) tb2).trans (by rw [tabC_hv]), ?_, hne2, hb2.setCell (p := ⟨w.heap.size, 14, none⟩) (Nat.le_refl _) _⟩, ?_⟩
      · exact own_upd ho3 ((Upd.refl (fun k => k = w.heap.size) w2).setCell ⟨w.heap.size, 14, none⟩ rfl _) fun j hj e => hne2 (by rw [hj, e])
      · simp [intOf]; omega
    · obtain rfl : k = m := by omega
      have hrl : (a.take k) = a := List.take_of_length_le (by omega)
      rw [hrl] at how
      have hal : (highs a).length = k := by rw [highs_len]; omega
      rw [← hal] at how
      have hf : Skip wr w.heap.size w.heap.size [] 0 0 (.slice A3 (highs a).length c3) (highs a) 0 := ⟨by rw [hal]; exact tb, trivial, Nat.le_refl _, fun _ h => absurd h List.not_mem_nil, List.nodup_nil, fun _ h => absurd h List.not_mem_nil, List.Pairwise.nil, by rw [hal] at how ⊢; exact how,
        fun j hj => ⟨fun e => hne (by rw [← e]; rw [hal] at hj; exact hj), fun _ h => absurd h List.not_mem_nil⟩, highs_ok a⟩
      have HF := Lib.hid hf
      clear hf how hrl hral tb hne
      go_wp2
      go_ret
      exact ⟨_, _, rfl, HF.out, hb⟩
end
end Go.Proofs.Ytcfgmkiohmbdlaa
