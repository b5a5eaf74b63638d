/- Bytes of the call's own, made by '[]byte(s)' or by 'append': they may be appended to, and become a string. -/
import Derived.Test.YtanieolnaiihmaaRow
import Derived.Laws.IdiomStrings
import Derived.Great.BuildSlice
namespace Go.Proofs.Ytanieolnaiihmaa
open Go.RowKit

/-- The slice value v owns the bytes l, from some place of its row on; behind them nothing of its row is frozen. -/
def OwnB (w : World) (base : Nat) (e : TypeId) (v : Value) (l : List UInt8) : Prop :=
  (v = .slice none 0 0 ∧ l = []) ∨
  ∃ g off cap cur, ∃ fz : Nat × Nat, v = .slice (some ⟨g, off, none⟩) l.length cap ∧ base ≤ g ∧ w.heap[g]? = some (.cells cur e fz) ∧ (fz.2 ≤ off ∨ cur.size ≤ fz.1) ∧ l.length ≤ cap ∧ cap ≤ maxLen ∧ off + cap ≤ cur.size ∧ (cur.toList.drop off).take l.length = bytv l
theorem add_flat0 (b off j : Nat) : (⟨b, off, none⟩ : Addr).add j = ⟨b, off + j, none⟩ := by unfold Addr.add; split <;> simp_all
theorem OwnB.of_own {w : World} {base n : Nat} {e : TypeId} {v : Value} {l : List UInt8} (h : w.ownsRow base e 1 v n (bytv l)) : OwnB w base e v l := by
  have hl : l.length = n := by have := h.1; rw [bytv_length] at this; omega
  rcases h.2 with ⟨rfl, hn⟩ | ⟨g, cap, cur, rfl, h1, h2, h3, h4, h5, h6⟩
  · exact .inl ⟨rfl, List.eq_nil_of_length_eq_zero (by omega)⟩
  · exact .inr ⟨g, 0, cap, cur, (0, 0), by rw [hl], h1, h2, .inl (Nat.zero_le _), by omega, h4, by omega, by rw [hl]; simpa using h6⟩
section
variable {w w' : World} {base : Nat} {e : TypeId} {v : Value} {l : List UInt8}
theorem OwnB.lt (h : OwnB w base e v l) : ∀ k, v.ownBlock = some k → base ≤ k ∧ k < w.heap.size := by
  intro k hk
  rcases h with ⟨rfl, _⟩ | ⟨g, off, cap, cur, fz, rfl, hb, hg, _⟩
  · simp [Value.ownBlock] at hk
  · simp [Value.ownBlock] at hk
    subst hk
    exact ⟨hb, (Array.getElem?_eq_some_iff.1 hg).1⟩
theorem OwnB.upd {S : Nat → Prop} (h : OwnB w base e v l) (hu : Upd S w w') (hs : ∀ k, v.ownBlock = some k → ¬ S k) : OwnB w' base e v l := by
  rcases h with hn | ⟨g, off, cap, cur, fz, rfl, hb, hg, rest⟩
  · exact .inl hn
  · exact .inr ⟨g, off, cap, cur, fz, rfl, hb, (hu.block g (Array.getElem?_eq_some_iff.1 hg).1 (hs g rfl)).trans hg, rest⟩
theorem OwnB.below (h : OwnB w base e v l) (hb : Below w.heap.size w w') : OwnB w' base e v l := h.upd (S := fun _ => False) (Upd.of_below hb) (fun _ _ h => h)
theorem OwnB.mono {base' : Nat} (h : OwnB w base e v l) (hb : base' ≤ base) : OwnB w base' e v l := by
  rcases h with hn | ⟨g, off, cap, cur, fz, rfl, hg, rest⟩
  · exact .inl hn
  · exact .inr ⟨g, off, cap, cur, fz, rfl, Nat.le_trans hb hg, rest⟩
theorem OwnB.shape (h : OwnB w base e v l) : ∃ A c, v = .slice A l.length c := by
  rcases h with ⟨rfl, rfl⟩ | ⟨g, off, cap, cur, fz, rfl, _⟩
  · exact ⟨_, _, rfl⟩
  · exact ⟨_, _, rfl⟩
theorem OwnB.rd {A : Option Addr} {n c : Nat} (h : OwnB w base e (.slice A n c) l) : n = l.length ∧ Rd w w.heap.size 1 A n (bytv l) := by
  rcases h with ⟨hv, rfl⟩ | ⟨g, off, cap, cur, fz, hv, hb, hg, hf, h1, h2, h3, h4⟩
  · injection hv with e1 e2 e3
    subst e1; subst e2
    exact ⟨rfl, Rd.nil⟩
  · injection hv with e1 e2 e3
    subst e1; subst e2
    refine ⟨rfl, by rw [bytv_length]; omega, fun _ => ⟨_, rfl, (Array.getElem?_eq_some_iff.1 hg).1, fun j u hu => ?_⟩⟩
    have hlt : j < (bytv l).length := (List.getElem?_eq_some_iff.1 hu).1
    rw [add_flat0, cell_of_row w g (off + j) cur e fz hg]
    rw [← h4, List.getElem?_take, if_pos (by rw [bytv_length] at hlt; exact hlt), List.getElem?_drop] at hu
    simpa using hu
/-- What '[]byte(s)' makes. -/
theorem OwnB.made (w : World) (s : ByteArray) (e : TypeId) (hs : s.size ≤ maxLen) :
    OwnB (w.drew.alloc (.cells (bytesRow s (grownCap w s.size 0 e)) e ((bytesRow s (grownCap w s.size 0 e)).size, (bytesRow s (grownCap w s.size 0 e)).size + 1))) w.heap.size e (.slice (some ⟨w.heap.size, 0, none⟩) s.size (grownCap w s.size 0 e)) s.data.toList := by
  have h1 := grownCap_ge w s.size 0 e
  have h2 := grownCap_le_maxLen w s.size 0 e hs
  have e1 : s.data.toList.length = s.size := by simp
  have e2 : (bytesRow s (grownCap w s.size 0 e)).size = grownCap w s.size 0 e := by
    have e3 : s.data.size = s.size := rfl
    unfold bytesRow
    simp only [Array.size_append, Array.size_map, Array.size_replicate, e3]
    omega
  refine .inr ⟨w.heap.size, 0, grownCap w s.size 0 e, bytesRow s (grownCap w s.size 0 e), ((bytesRow s (grownCap w s.size 0 e)).size, (bytesRow s (grownCap w s.size 0 e)).size + 1), by rw [e1], Nat.le_refl _, heap_alloc_new w.drew _, .inr (Nat.le_refl _), by omega, h2, by rw [e2]; omega, ?_⟩
  rw [e1, List.drop_zero]
  apply List.ext_getElem?
  intro j
  rw [List.getElem?_take]
  split
  · rename_i hj
    rw [bytv_get _ _ (by omega), Array.getElem?_toList, bytesRow_at s _ j hj]
    simp
  · rw [List.getElem?_eq_none (by rw [bytv_length]; omega)]
/-- The stores, where nothing that is written is frozen. -/
theorem run_storeCells_atG (P : Program) (g o : Nat) (t : TypeId) (fz : Nat × Nat) : ∀ (vs : List Value) (i : Nat) (cur : Array Value) (w : World), w.heap[g]? = some (.cells cur t fz) → (fz.2 ≤ o + i ∨ cur.size ≤ fz.1) → o + i + vs.length ≤ cur.size → (∀ v ∈ vs, v.oneCell' = true) →
    (storeCells ⟨g, o, none⟩ vs i).run P w = .ok () (w.setRow g (cur.toList.take (o + i) ++ vs ++ cur.toList.drop (o + i + vs.length)).toArray)
  | [], i, cur, w, hg, _, _, _ => by
    simp only [storeCells, List.append_nil, List.length_nil, Nat.add_zero, List.take_append_drop, Array.toArray_toList]
    rw [setRow_self w g cur t fz hg]
    rfl
  | v :: rest, i, cur, w, hg, hfz, hl, h1 => by
    have hi : o + i < cur.size := by simp at hl; omega
    have hadd : (⟨g, o, none⟩ : Addr).add i = ⟨g, o + i, none⟩ := by unfold Addr.add; split <;> simp_all
    have hcell : w.cell? ⟨g, o + i, none⟩ = some cur[o + i] := by simp [World.cell?, hg, hi]
    have hfro : w.frozen? ⟨g, o + i, none⟩ = false := by
      obtain ⟨lo, hi'⟩ := fz
      simp only at hfz
      simp only [World.frozen?, hg, Bool.and_eq_false_iff, decide_eq_false_iff_not]
      rcases hfz with hfz | hfz
      · right; omega
      · left; omega
    have hst : (store ((⟨g, o, none⟩ : Addr).add i) v).run P w = .ok () (w.setRow g (cur.setIfInBounds (o + i) v)) := by
      rw [hadd, run_store P w _ v _ (h1 v (by simp)), hcell]
      simp [hfro, setCell_eq_setRow w g (o + i) cur t fz v hg]
    have ih := run_storeCells_atG P g o t fz rest (i + 1) (cur.setIfInBounds (o + i) v) (w.setRow g (cur.setIfInBounds (o + i) v)) (setRow_heap w g cur _ t _ hg) (by simp only [Array.size_setIfInBounds]; omega) (by simp at hl ⊢; omega) (fun x hx => h1 x (by simp [hx]))
    simp only [storeCells, Sem.run_bind, hst, Result.andThen_ok, ih, setRow_setRow]
    congr 3
    have e := list_seg_step cur.toList (o + i) v rest (by simp at hl ⊢; omega)
    simpa [Array.toList_setIfInBounds, Nat.add_assoc] using e
theorem OwnB.holds {a : Addr} {n c : Nat} (h : OwnB w base e (.slice (some a) n c) l) : ∀ j u, (bytv l)[j]? = some u → w.cell? (a.add j) = some u := by
  obtain ⟨hn, hr⟩ := h.rd
  intro j u hu
  have hlt : j < (bytv l).length := (List.getElem?_eq_some_iff.1 hu).1
  obtain ⟨ad, e1, _, hc⟩ := hr.at_ (by rw [hn, ← bytv_length]; omega)
  injection e1 with e1
  subst e1
  exact hc j u hu
end
theorem OwnB.drop {w : World} {base : Nat} {e : TypeId} {l : List UInt8} {a : Addr} {n c : Nat} (h : OwnB w base e (.slice (some a) n c) l) (k : Nat) (hk : k ≤ n) : OwnB w base e (.slice (some (a.add k)) (n - k) (c - k)) (l.drop k) := by
  rcases h with ⟨hv, _⟩ | ⟨g, off, cap, cur, fz, hv, hb, hg, hf, h1, h2, h3, h4⟩
  · cases hv
  · injection hv with e1 e2 e3
    injection e1 with e1
    subst e1; subst e2; subst e3
    refine .inr ⟨g, off + k, c - k, cur, fz, by rw [add_flat0, List.length_drop], hb, hg, by omega, by rw [List.length_drop]; omega, by omega, by omega, ?_⟩
    rw [List.length_drop, ← List.drop_drop, ← List.drop_take, h4]
    simp [bytv]
/-- What 'b[k:]' answers. -/
theorem OwnB.cut {w : World} {base : Nat} {e : TypeId} {l : List UInt8} {A : Option Addr} {n c : Nat} (h : OwnB w base e (.slice A n c) l) (k : Nat) (hk : k ≤ n) : OwnB w base e (.slice (if c = k then A else A.map (·.add k)) (n - k) (c - k)) (l.drop k) := by
  rcases h with ⟨hv, rfl⟩ | ⟨g, off, cap, cur, fz, hv, hb, hg, hf, h1, h2, h3, h4⟩
  · injection hv with e1 e2 e3
    subst e1; subst e2; subst e3
    obtain rfl : k = 0 := by omega
    exact .inl ⟨rfl, rfl⟩
  · injection hv with e1 e2 e3
    subst e1; subst e2; subst e3
    by_cases hc : c = k
    · subst hc
      have hn : l.length = c := by omega
      rw [if_pos rfl, Nat.sub_self, hn, Nat.sub_self, List.drop_of_length_le (by omega)]
      exact .inr ⟨g, off, 0, cur, fz, rfl, hb, hg, hf, Nat.le_refl _, Nat.zero_le _, by omega, by simp [bytv]⟩
    · rw [if_neg hc]
      exact OwnB.drop (.inr ⟨g, off, c, cur, fz, rfl, hb, hg, hf, h1, h2, h3, h4⟩) k hk
theorem row_piece {cur news : List Value} {off n m : Nat} (h : off + n ≤ cur.length) (hm : news.length = m) : (((cur.take (off + n) ++ news ++ cur.drop (off + n + m)).drop off).take (n + m)) = (cur.drop off).take n ++ news := by
  have h1 : (cur.take (off + n)).drop off = (cur.drop off).take n := by rw [List.drop_take, Nat.add_sub_cancel_left]
  have h2 : off ≤ (cur.take (off + n)).length := by rw [List.length_take]; omega
  rw [List.append_assoc, List.drop_append_of_le_length h2, h1, ← List.append_assoc]
  have h3 : ((cur.drop off).take n ++ news).length = n + m := by rw [List.length_append, List.length_take, List.length_drop, hm]; omega
  rw [← h3]
  exact List.take_left
section
variable {P : Program} (w : World)
theorem run_append_ownB_string (base : Nat) (t u ty e : TypeId) (i : TypeInfo) (ht : P.underlying t = some (.slice e)) (hu : P.underlying u = some .string) (hi : P.info? e = some i) (hz : i.zero = some (.int .u8 0))
    (hsize : i.size = 1) (hby : i.bytes = 1) (v : Value) (l : List UInt8) (hown : OwnB w base e v l) (s : ByteArray) (hbytes : l.length + s.size ≤ 140737488355328) (hbase : base ≤ w.heap.size) :
    ∃ v' w', (Builtin.append_ #[t, u] ty #[v, .string s]).run P w = .ok v' w' ∧ OwnB w' base e v' (l ++ s.data.toList) ∧ w.grownBy w' v.ownBlock ∧ RowAt w v v' := by
  have h63 : l.length + s.size ≤ maxLen := by unfold maxLen; omega
  have hsz : s.data.toList.length = s.size := by simp
  have hlen : (l ++ s.data.toList).length = l.length + s.size := by rw [List.length_append, hsz]
  rcases hown with ⟨rfl, rfl⟩ | ⟨g, off, cap, cur, fz, rfl, hbg, hg, hfz, hnc, hcm, hcs, htake⟩
  · have ho : w.ownsRow base e 1 (.slice none 0 0) 0 (bytv []) := World.ownsRow_nil w base e 1
    obtain ⟨v', w', r1, r2, r3, r4⟩ := Lib.run_append_own_string (P := P) w base t u ty e i ht hu hi hz hsize hby (.slice none 0 0) 0 (bytv []) ho s (by simpa using h63) (by simpa using hbytes) hbase
    have r5 := append_string_at base t u ty e i ht hu hi hz hsize hby _ 0 (bytv []) ho s (by simpa using hbytes) r1
    exact ⟨v', w', r1, OwnB.of_own (n := 0 + s.size) (by simpa [strCells_bytv, bytv] using r2), r3, r5⟩
  · have hown : OwnB w base e (.slice (some ⟨g, off, none⟩) l.length cap) l := .inr ⟨g, off, cap, cur, fz, rfl, hbg, hg, hfz, hnc, hcm, hcs, htake⟩
    by_cases hroom : l.length + s.size ≤ cap
    · have hf := Lib.run_firstCells_string (P := P) w 1 s
      have hst := run_storeCells_atG P g (off + l.length) e fz (Lib.strCells s) 0 cur w hg (by omega) (by rw [Lib.strCells_length]; omega) (Lib.strCells_oneCell s)
      simp only [Nat.add_zero, Lib.strCells_length] at hst
      have hr : (Builtin.append_ #[t, u] ty #[.slice (some ⟨g, off, none⟩) l.length cap, .string s]).run P w = .ok (.slice (some ⟨g, off, none⟩) (l.length + s.size) cap) (w.setRow g (cur.toList.take (off + l.length) ++ Lib.strCells s ++ cur.toList.drop (off + l.length + s.size)).toArray) := by
        simp [Builtin.append_, run_underlying ht, run_underlying hu, sizeOf, typeInfo, hi, hsize, Builtin.lenOf, hroom, hf, add_flat0, hst]
      refine ⟨_, _, hr, .inr ⟨g, off, cap, _, fz, by rw [hlen], hbg, setRow_heap w g cur _ e _ hg, ?_, by rw [hlen]; exact hroom, hcm, ?_, ?_⟩, ⟨rfl, rfl, rfl, by simp, fun k _ hk => setRow_other w g k _ (fun e => hk (by simp [Value.ownBlock, e]))⟩, .inl rfl⟩
      · simp only [List.size_toArray, List.length_append, List.length_take, List.length_drop, Array.length_toList, Lib.strCells_length]
        omega
      · simp only [List.size_toArray, List.length_append, List.length_take, List.length_drop, Array.length_toList, Lib.strCells_length]
        omega
      · rw [hlen, bytv_append, ← strCells_bytv, ← htake]
        exact row_piece (by have e9 : cur.toList.length = cur.size := Array.length_toList; omega) (Lib.strCells_length s)
    · have hr := Lib.run_append_grow_string (P := P) w t u ty e i (.int .u8 0) ht hu hi hz ⟨g, off, none⟩ l.length cap (bytv l) (by rw [hsize, bytv_length, Nat.mul_one]) hown.holds s (by omega) (by omega) (by rw [hby]; exact growslice_fits (by omega) (by omega))
      have hge := grownCap_ge w (l.length + s.size) cap e
      have hcm2 : grownCap w (l.length + s.size) cap e ≤ maxLen := grownCap_le_maxLen w (l.length + s.size) cap e h63
      refine ⟨_, _, hr, .inr ⟨w.heap.size, 0, _, _, (0, 0), by rw [hlen], hbase, heap_alloc_new w.drew _, .inl (Nat.zero_le _), by rw [hlen]; exact hge, hcm2, ?_, ?_⟩, ⟨rfl, rfl, rfl, by simp, fun k hk _ => heap_alloc_old w.drew _ hk⟩, .inr ⟨w.heap.size, Nat.le_refl _, rfl⟩⟩
      · have hz1 : (Value.int IntKind.u8 0).cells.size = 1 := rfl
        simp only [Array.size_append, List.size_toArray, size_zeroCells, hz1, bytv_length, Lib.strCells_length]
        omega
      · simp only [Array.toList_append, List.append_assoc, List.drop_zero]
        rw [← List.append_assoc, hlen, bytv_append, ← strCells_bytv]
        have e3 : (bytv l ++ Lib.strCells s).length = l.length + s.size := by rw [List.length_append, bytv_length, Lib.strCells_length]
        rw [← e3]
        exact List.take_left
theorem run_append_ownB (base : Nat) (t ty e : TypeId) (i : TypeInfo) (ht : P.underlying t = some (.slice e)) (hi : P.info? e = some i) (hz : i.zero = some (.int .u8 0))
    (hsize : i.size = 1) (hby : i.bytes = 1) (v : Value) (l : List UInt8) (hown : OwnB w base e v l) (A : Option Addr) (m c B : Nat) (l2 : List UInt8) (hr2 : Rd w B 1 A m (bytv l2)) (hbytes : l.length + m ≤ 140737488355328) (hbase : base ≤ w.heap.size) :
    ∃ v' w', (Builtin.append_ #[t, t] ty #[v, .slice A m c]).run P w = .ok v' w' ∧ OwnB w' base e v' (l ++ l2) ∧ w.grownBy w' v.ownBlock ∧ RowAt w v v' := by
  have h63 : l.length + m ≤ maxLen := by unfold maxLen; omega
  have hbl : (bytv l2).length = m := by have := hr2.len; omega
  have hm2 : l2.length = m := by rw [← bytv_length]; exact hbl
  have hlen : (l ++ l2).length = l.length + m := by rw [List.length_append, hm2]
  have hf : ∀ W : World, (∀ p : Addr, p.block < B → W.cell? p = w.cell? p) → (Builtin.firstCells 1 m (.slice A m c)).run P W = .ok (bytv l2).toArray W := fun W hW => by
    cases A with
    | some ad => exact run_firstCells_some (P := P) W 1 m ad m c (bytv l2) (by rw [hbl]; omega) (fun j u hu => by
        obtain ⟨ad', e1, hb1, hc⟩ := hr2.at_ (by have := (List.getElem?_eq_some_iff.1 hu).1; omega)
        injection e1 with e1
        subst e1
        have : (ad.add j).block = ad.block := block_add ad j
        rw [hW _ (by rw [this]; exact hb1)]
        exact hc j u hu)
    | none =>
      have hm0 : m = 0 := by
        rcases Nat.eq_zero_or_pos m with h | h
        · exact h
        · obtain ⟨_, e1, _⟩ := hr2.at_ h; cases e1
      subst hm0
      have : bytv l2 = [] := List.eq_nil_of_length_eq_zero hbl
      rw [this]
      exact run_firstCells_none W 1 0 0 c
  rcases hown with ⟨rfl, rfl⟩ | ⟨g, off, cap, cur, fz, rfl, hbg, hg, hfz, hnc, hcm, hcs, htake⟩
  · have ho : w.ownsRow base e 1 (.slice none 0 0) 0 (bytv []) := World.ownsRow_nil w base e 1
    cases A with
    | none =>
      have hm0 : m = 0 := by
        rcases Nat.eq_zero_or_pos m with h | h
        · exact h
        · obtain ⟨_, e1, _⟩ := hr2.at_ h; cases e1
      subst hm0
      have hl2 : l2 = [] := List.eq_nil_of_length_eq_zero hm2
      subst hl2
      exact ⟨_, w, run_append_empty (P := P) w base t ty e i 1 c ht hi _ 0 (bytv []) ho, .inl ⟨rfl, rfl⟩, World.grownBy.refl _ _, RowAt.refl _ _⟩
    | some ad =>
      obtain ⟨v', w', r1, r2, r3, _, r5⟩ := run_append_own_at (P := P) w base t ty e i (.int .u8 0) 1 1 ht hi hz hsize hby rfl (by omega) (.slice none 0 0) 0 (bytv []) ho ad m c (bytv l2) (by rw [hbl]; omega) (fun j u hu => by
        obtain ⟨ad', e1, _, hc⟩ := hr2.at_ (by have := (List.getElem?_eq_some_iff.1 hu).1; omega)
        injection e1 with e1
        subst e1
        exact hc j u hu) (bytv_one _) (by simpa using h63) (by simpa using hbytes) hbase
      refine ⟨v', w', r1, OwnB.of_own (n := 0 + m) (by simpa [bytv] using r2), r3, ?_⟩
      rcases r5 with r5 | r5
      · exact .inl r5
      · exact .inr ⟨_, Nat.le_refl _, r5⟩
  · have hown : OwnB w base e (.slice (some ⟨g, off, none⟩) l.length cap) l := .inr ⟨g, off, cap, cur, fz, rfl, hbg, hg, hfz, hnc, hcm, hcs, htake⟩
    by_cases hroom : l.length + m ≤ cap
    · have hf := hf w (fun _ _ => rfl)
      have hst := run_storeCells_atG P g (off + l.length) e fz (bytv l2) 0 cur w hg (by omega) (by rw [hbl]; omega) (bytv_one _)
      simp only [Nat.add_zero, hbl] at hst
      have hr : (Builtin.append_ #[t, t] ty #[.slice (some ⟨g, off, none⟩) l.length cap, .slice A m c]).run P w = .ok (.slice (some ⟨g, off, none⟩) (l.length + m) cap) (w.setRow g (cur.toList.take (off + l.length) ++ bytv l2 ++ cur.toList.drop (off + l.length + m)).toArray) := by
        simp [Builtin.append_, run_underlying ht, sizeOf, typeInfo, hi, hsize, Builtin.lenOf, hroom, hf, add_flat0, hst]
      refine ⟨_, _, hr, .inr ⟨g, off, cap, _, fz, by rw [hlen], hbg, setRow_heap w g cur _ e _ hg, ?_, by rw [hlen]; exact hroom, hcm, ?_, ?_⟩, ⟨rfl, rfl, rfl, by simp, fun k _ hk => setRow_other w g k _ (fun e => hk (by simp [Value.ownBlock, e]))⟩, .inl rfl⟩
      · simp only [List.size_toArray, List.length_append, List.length_take, List.length_drop, Array.length_toList, hbl]
        omega
      · simp only [List.size_toArray, List.length_append, List.length_take, List.length_drop, Array.length_toList, hbl]
        omega
      · rw [hlen, bytv_append, ← htake]
        exact row_piece (by have e9 : cur.toList.length = cur.size := Array.length_toList; omega) hbl
    · obtain ⟨ad, rfl, hb1, hc⟩ := hr2.at_ (by omega)
      have hr := run_append_grow (P := P) w t ty e i (.int .u8 0) ht hi hz ⟨g, off, none⟩ l.length cap (bytv l) (by rw [hsize, bytv_length, Nat.mul_one]) hown.holds ad m c (bytv l2) (by rw [hbl, hsize]; omega) hc (by omega) (by omega) (by rw [hby]; exact growslice_fits (by omega) (by omega))
      have hge := grownCap_ge w (l.length + m) cap e
      have hcm2 : grownCap w (l.length + m) cap e ≤ maxLen := grownCap_le_maxLen w (l.length + m) cap e h63
      refine ⟨_, _, hr, .inr ⟨w.heap.size, 0, _, _, (0, 0), by rw [hlen], hbase, heap_alloc_new w.drew _, .inl (Nat.zero_le _), by rw [hlen]; exact hge, hcm2, ?_, ?_⟩, ⟨rfl, rfl, rfl, by simp, fun k hk _ => heap_alloc_old w.drew _ hk⟩, .inr ⟨w.heap.size, Nat.le_refl _, rfl⟩⟩
      · have hz1 : (Value.int IntKind.u8 0).cells.size = 1 := rfl
        simp only [Array.size_append, List.size_toArray, size_zeroCells, hz1, bytv_length, hbl]
        omega
      · simp only [Array.toList_append, List.append_assoc, List.drop_zero]
        rw [← List.append_assoc, hlen, bytv_append]
        have e3 : (bytv l ++ bytv l2).length = l.length + m := by rw [List.length_append, bytv_length, hbl]
        rw [← e3]
        exact List.take_left
/-- 'append(b, s...)', s a string. -/
theorem wpList_bapps {ops : Array Oper} {rest : List Oper} {o : Oper} {a : Act} {Q : Exit → Act → World → Prop} (hgd : o.guard = none) (sl x : Operand) (t u : TypeId)
    (ho : o.op = .call { callee := .builtin .append, args := #[sl, x], argTypes := #[t, u] })
    (base : Nat) (e : TypeId) (i : TypeInfo) (ht : P.underlying t = some (.slice e)) (hu : P.underlying u = some .string) (hi : P.info? e = some i) (hz : i.zero = some (.int .u8 0))
    (hsize : i.size = 1) (hby : i.bytes = 1) (v : Value) (l : List UInt8) (s : ByteArray) (hs : a.eval sl = v) (hown : OwnB w base e v l) (hx : a.eval x = .string s)
    (hbytes : l.length + s.size ≤ 140737488355328) (hbase : base ≤ w.heap.size)
    (h : ∀ v' w', OwnB w' base e v' (l ++ s.data.toList) → Upd (fun k => v.ownBlock = some k) w w' → RowAt w v v' → wpList P ops Q rest (a.put o.dst v') w') : wpList P ops Q (o :: rest) a w := by
  refine wpList_plain hgd fun K hK => ?_
  obtain ⟨v', w', hr, h2, h3, h5⟩ := run_append_ownB_string (P := P) w base t u o.type e i ht hu hi hz hsize hby v l hown s hbytes hbase
  unfold Oper.wp execOp
  simp only [ho, resolve, invoke, builtin, Sem.run_bind, Sem.run_pure, Result.andThen_ok, List.map_toArray, List.map_cons, List.map_nil, hs, hx, hr]
  exact hK _ _ (h v' w' h2 (Upd.of_grown h3) h5)
/-- 'append(b, xs...)', xs a slice that reads as bytes. -/
theorem wpList_bapp {ops : Array Oper} {rest : List Oper} {o : Oper} {a : Act} {Q : Exit → Act → World → Prop} (hgd : o.guard = none) (sl x : Operand) (t : TypeId)
    (ho : o.op = .call { callee := .builtin .append, args := #[sl, x], argTypes := #[t, t] })
    (base : Nat) (e : TypeId) (i : TypeInfo) (ht : P.underlying t = some (.slice e)) (hi : P.info? e = some i) (hz : i.zero = some (.int .u8 0))
    (hsize : i.size = 1) (hby : i.bytes = 1) (v : Value) (l : List UInt8) (A : Option Addr) (m c B : Nat) (l2 : List UInt8) (hs : a.eval sl = v) (hown : OwnB w base e v l) (hx : a.eval x = .slice A m c) (hr2 : Rd w B 1 A m (bytv l2))
    (hbytes : l.length + m ≤ 140737488355328) (hbase : base ≤ w.heap.size)
    (h : ∀ v' w', OwnB w' base e v' (l ++ l2) → Upd (fun k => v.ownBlock = some k) w w' → RowAt w v v' → wpList P ops Q rest (a.put o.dst v') w') : wpList P ops Q (o :: rest) a w := by
  refine wpList_plain hgd fun K hK => ?_
  obtain ⟨v', w', hr, h2, h3, h5⟩ := run_append_ownB (P := P) w base t o.type e i ht hi hz hsize hby v l hown A m c B l2 hr2 hbytes hbase
  unfold Oper.wp execOp
  simp only [ho, resolve, invoke, builtin, Sem.run_bind, Sem.run_pure, Result.andThen_ok, List.map_toArray, List.map_cons, List.map_nil, hs, hx, hr]
  exact hK _ _ (h v' w' h2 (Upd.of_grown h3) h5)
/-- 'append(b, x ..)', x .. bytes that lie in the newest block. -/
theorem wpList_bpush {ops : Array Oper} {rest : List Oper} {o : Oper} {a : Act} {Q : Exit → Act → World → Prop} (hgd : o.guard = none) (sl x : Operand) (t : TypeId)
    (ho : o.op = .call { callee := .builtin .append, args := #[sl, x], argTypes := #[t, t] })
    (base : Nat) (e : TypeId) (i : TypeInfo) (ht : P.underlying t = some (.slice e)) (hi : P.info? e = some i) (hz : i.zero = some (.int .u8 0))
    (hsize : i.size = 1) (hby : i.bytes = 1) (v : Value) (l : List UInt8) (l2 : List UInt8) (cs : Array Value) (m c : Nat) (hcs : cs.toList = bytv l2) (hm : l2.length = m) (hs : a.eval sl = v) (hown : OwnB w base e v l) (hx : a.eval x = .slice (some ⟨w.heap.size, 0, none⟩) m c)
    (hbytes : l.length + m ≤ 140737488355328) (hbase : base ≤ w.heap.size)
    (h : ∀ v' w', OwnB w' base e v' (l ++ l2) → Upd (fun k => v.ownBlock = some k) w w' → RowAt w v v' → wpList P ops Q rest (a.put o.dst v') w') : wpList P ops Q (o :: rest) a (w.alloc (.cells cs e)) := by
  refine wpList_plain hgd fun K hK => ?_
  have hown' : OwnB (w.alloc (.cells cs e)) base e v l := hown.below ((Below.refl _ _).alloc (Nat.le_refl _) _)
  have hsz : cs.size = m * 1 := by rw [← Array.length_toList, hcs, bytv_length]; omega
  have hrd := Rd.new (w := w) (size := 1) (n := m) cs e hsz
  rw [hcs] at hrd
  obtain ⟨v', w', hr, h2, h3, h5⟩ := run_append_ownB (P := P) (w.alloc (.cells cs e)) base t o.type e i ht hi hz hsize hby v l hown' (some ⟨w.heap.size, 0, none⟩) m c _ l2 hrd hbytes (by simp; omega)
  unfold Oper.wp execOp
  simp only [ho, resolve, invoke, builtin, Sem.run_bind, Sem.run_pure, Result.andThen_ok, List.map_toArray, List.map_cons, List.map_nil, hs, hx, hr]
  refine hK _ _ (h v' w' h2 (Upd.of_grown (grown_pre h3)) ?_)
  rcases h5 with h5 | ⟨k, hk, h5⟩
  · exact .inl h5
  · exact .inr ⟨k, by simp at hk; omega, h5⟩
end
theorem OwnB.str {P : Program} {w : World} {base : Nat} {src dst e : TypeId} {v : Value} {l : List UInt8} (hs : P.underlying src = some (.slice e)) (he : P.underlying e = some (.int .u8)) (hd : P.underlying dst = some .string)
    (h : OwnB w base e v l) : (convert src dst v).run P w = .ok (.string ⟨l.toArray⟩) w := by
  rcases h with ⟨rfl, rfl⟩ | ⟨g, off, cap, cur, fz, rfl, h1⟩
  · exact run_convert_bytes_nil w src e hs he 0 0 dst hd
  · have hown : OwnB w base e (.slice (some ⟨g, off, none⟩) l.length cap) l := .inr ⟨g, off, cap, cur, fz, rfl, h1⟩
    exact run_convert_bytes_back (P := P) w src dst e ⟨g, off, none⟩ cap l hs he hd (fun j hj => hown.holds j _ (bytv_get l j hj))
theorem below_ownB {B base : Nat} {w0 w w' : World} {e : TypeId} {v : Value} {l : List UInt8} (hb : Below B w0 w) (hB : B ≤ w.heap.size) (hown : OwnB w base e v l) (hbase : B ≤ base) (hu : Upd (fun k => v.ownBlock = some k) w w') : Below B w0 w' :=
  hb.trans (hu.below (fun k hk e => by have := (hown.lt k e).1; omega) hB)
end Go.Proofs.Ytanieolnaiihmaa
/- Bytes owned by a call: append at a step of a region that draws. -/
namespace Go.Proofs.Ytanieolnaiihmaa
open Go.RowKit
section
variable {P : Program}
/-- 'append(b, s...)', s a string. -/
theorem step_bapps {ops : Array Oper} {o : Oper} {a : Act} {w : World} {K : Act → World → Prop} {Q : Exit → Act → World → Prop} {E : Prop} (hgd : o.guard = none) (sl x : Operand) (t u : TypeId)
    (ho : o.op = .call { callee := .builtin .append, args := #[sl, x], argTypes := #[t, u] })
    (base : Nat) (e : TypeId) (i : TypeInfo) (ht : P.underlying t = some (.slice e)) (hu : P.underlying u = some .string) (hi : P.info? e = some i) (hz : i.zero = some (.int .u8 0))
    (hsize : i.size = 1) (hby : i.bytes = 1) (v : Value) (l : List UInt8) (s : ByteArray) (hs : a.eval sl = v) (hown : OwnB w base e v l) (hx : a.eval x = .string s)
    (hbytes : l.length + s.size ≤ 140737488355328) (hbase : base ≤ w.heap.size)
    (h : ∀ v' w', OwnB w' base e v' (l ++ s.data.toList) → Upd (fun k => v.ownBlock = some k) w w' → RowAt w v v' → K (a.put o.dst v') w') :
    if Region.wanted o (yielded ops a.tmps) = true then Oper.wp P o a w K Q else E := by
  have hw : Region.wanted o (yielded ops a.tmps) = true := by simp [Region.wanted, hgd]
  rw [if_pos hw]
  obtain ⟨v', w', hr, h2, h3, h5⟩ := run_append_ownB_string (P := P) w base t u o.type e i ht hu hi hz hsize hby v l hown s hbytes hbase
  unfold Oper.wp execOp
  simp only [ho, resolve, invoke, builtin, Sem.run_bind, Sem.run_pure, Result.andThen_ok, List.map_toArray, List.map_cons, List.map_nil, hs, hx, hr]
  exact h v' w' h2 (Upd.of_grown h3) h5
/-- 'append(b, xs...)', xs a slice that reads as bytes. -/
theorem step_bapp {ops : Array Oper} {o : Oper} {a : Act} {w : World} {K : Act → World → Prop} {Q : Exit → Act → World → Prop} {E : Prop} (hgd : o.guard = none) (sl x : Operand) (t : TypeId)
    (ho : o.op = .call { callee := .builtin .append, args := #[sl, x], argTypes := #[t, t] })
    (base : Nat) (e : TypeId) (i : TypeInfo) (ht : P.underlying t = some (.slice e)) (hi : P.info? e = some i) (hz : i.zero = some (.int .u8 0))
    (hsize : i.size = 1) (hby : i.bytes = 1) (v : Value) (l : List UInt8) (A : Option Addr) (m c B : Nat) (l2 : List UInt8) (hs : a.eval sl = v) (hown : OwnB w base e v l) (hx : a.eval x = .slice A m c) (hr2 : Rd w B 1 A m (bytv l2))
    (hbytes : l.length + m ≤ 140737488355328) (hbase : base ≤ w.heap.size)
    (h : ∀ v' w', OwnB w' base e v' (l ++ l2) → Upd (fun k => v.ownBlock = some k) w w' → RowAt w v v' → K (a.put o.dst v') w') :
    if Region.wanted o (yielded ops a.tmps) = true then Oper.wp P o a w K Q else E := by
  have hw : Region.wanted o (yielded ops a.tmps) = true := by simp [Region.wanted, hgd]
  rw [if_pos hw]
  obtain ⟨v', w', hr, h2, h3, h5⟩ := run_append_ownB (P := P) w base t o.type e i ht hi hz hsize hby v l hown A m c B l2 hr2 hbytes hbase
  unfold Oper.wp execOp
  simp only [ho, resolve, invoke, builtin, Sem.run_bind, Sem.run_pure, Result.andThen_ok, List.map_toArray, List.map_cons, List.map_nil, hs, hx, hr]
  exact h v' w' h2 (Upd.of_grown h3) h5
end
theorem upd_setRow (w : World) (g : Nat) (cs : Array Value) : Upd (fun k => k = g) w (w.setRow g cs) := ⟨rfl, rfl, rfl, by simp [World.setRow], fun k _ hk => setRow_other w g k cs hk⟩
/-- A struct, or an array, is laid into its block: the world behind it by a name. -/
theorem wpList_store_rowAt {P : Program} {ops : Array Oper} {rest : List Oper} {o : Oper} {a : Act} {w : World} {Q : Exit → Act → World → Prop} (hgd : o.guard = none) (ty : TypeId) (x y : Operand) (ho : o.op = .store ty x y)
    (hd : o.dst = none) (g : Nat) (cells : Array Value) (hx : a.eval x = .pointer (some ⟨g, 0, none⟩)) (hy : a.eval y = .agg cells)
    (t : TypeId) (old : Array Value) (hg : w.heap[g]? = some (.cells old t (0, 0))) (hi : (P.info? ty).map (·.size) = some cells.size)
    (hold : old.size = cells.size) (h1 : cells.all (·.oneCell') = true)
    (h : ∀ W, W.heap[g]? = some (.cells cells t (0, 0)) → Upd (fun k => k = g) w W → wpList P ops Q rest a W) : wpList P ops Q (o :: rest) a w :=
  wpList_store_rowTo hgd ty x y ho hd g cells hx hy t old hg hi hold h1 (h _ (setRow_heap _ _ _ _ _ _ hg) (upd_setRow _ _ _))
end Go.Proofs.Ytanieolnaiihmaa
