/- Merging versions: the versions of each key, in plain words. -/
import Derived.Test.YtcfgmkiohmbdlaaMgViewP
import Derived.Test.YtcfgmkiohmbdlaaMgCat
namespace Go.Proofs.Ytcfgmkiohmbdlaa
open Go.RowKit
/-- The versions of each key. -/
def Grp (L : List Ent) (Gs : List (List Ent)) : Prop := Gs.flatten = L ∧ ∀ G ∈ Gs, G ≠ [] ∧ ∀ x ∈ G, G = L.filter fun y => decide (y.key = x.key)
def GInv (L : List Ent) (Gs : List (List Ent)) (f i : Nat) : Prop :=
  Gs.flatten = L.take f ∧ f ≤ i ∧ (i < L.length ∨ f = L.length) ∧ (∀ x ∈ (L.drop f).take (i + 1 - f), ∀ y ∈ (L.drop f).take (i + 1 - f), x.key = y.key) ∧ ∀ G ∈ Gs, G ≠ [] ∧ ∀ x ∈ G, G = L.filter fun y => decide (y.key = x.key)
theorem g_start (L : List Ent) : GInv L [] 0 0 := by
  refine ⟨rfl, Nat.le_refl _, by cases L <;> simp, ?_, by simp⟩
  cases L with
  | nil => simp
  | cons x L => intro a ha b hb; simp at ha hb; rw [ha, hb]
theorem g_end {L : List Ent} {Gs : List (List Ent)} {f i : Nat} (h : GInv L Gs f i) (hi : L.length ≤ i) : Grp L Gs := by
  obtain ⟨h1, _, h3, _, h5⟩ := h
  have hf : f = L.length := by rcases h3 with h3 | h3 <;> omega
  subst hf
  rw [List.take_length] at h1
  exact ⟨h1, h5⟩
theorem mem_run {L : List Ent} {f i : Nat} (hf : f ≤ i) (hi : i < L.length) : L[i] ∈ (L.drop f).take (i + 1 - f) := by
  rw [List.mem_take_iff_getElem]
  refine ⟨i - f, by rw [List.length_drop]; omega, ?_⟩
  rw [List.getElem_drop]
  congr 1; omega
theorem g_next {L : List Ent} {Gs : List (List Ent)} {f i : Nat} (h : GInv L Gs f i) (hi : i + 1 < L.length) (hk : L[i + 1].key = (L[i]'(by omega)).key) : GInv L Gs f (i + 1) := by
  obtain ⟨h1, h2, h3, h4, h5⟩ := h
  have hrun : (L.drop f).take (i + 1 + 1 - f) = (L.drop f).take (i + 1 - f) ++ [L[i + 1]] := by
    rw [show i + 1 + 1 - f = (i + 1 - f) + 1 by omega, List.take_succ_eq_append_getElem (by rw [List.length_drop]; omega), List.getElem_drop]
    simp only [show f + (i + 1 - f) = i + 1 by omega]
  have hli := mem_run (L := L) h2 (by omega : i < L.length)
  refine ⟨h1, by omega, .inl hi, ?_, h5⟩
  rw [hrun]
  intro x hx y hy
  have key : ∀ z ∈ (L.drop f).take (i + 1 - f) ++ [L[i + 1]], z.key = (L[i]'(by omega)).key := fun z hz => by
    rcases List.mem_append.1 hz with hz | hz
    · exact h4 z hz _ hli
    · rw [List.mem_singleton.1 hz]; exact hk
  rw [key x hx, key y hy]
theorem key_le {x y : Ent} (h : cmpE x y < 0) : Lib.compareBytes x.key.data.toList y.key.data.toList ≤ 0 := by
  unfold cmpE at h
  split at h
  · omega
  · omega
theorem key_mid {x y z : Ent} (h1 : cmpE x y < 0) (h2 : cmpE y z < 0) (h3 : z.key = x.key) : y.key = x.key := by
  have a := key_le h1
  have b := key_le h2
  rw [h3, cb_swap x.key.data.toList y.key.data.toList] at b
  exact (bytes_eq (cb_eq _ _ (show Lib.compareBytes x.key.data.toList y.key.data.toList = 0 by omega))).symm
theorem g_close {L : List Ent} {Gs : List (List Ent)} {f i : Nat} (hL : L.Pairwise fun x y => cmpE x y < 0) (h : GInv L Gs f i) (hi : i < L.length) (hc : i + 1 = L.length ∨ ∃ hj : i + 1 < L.length, L[i + 1].key ≠ L[i].key) :
    GInv L (Gs ++ [(L.drop f).take (i + 1 - f)]) (i + 1) (i + 1) := by
  obtain ⟨h1, h2, h3, h4, h5⟩ := h
  have hsplit : L = L.take f ++ ((L.drop f).take (i + 1 - f) ++ L.drop (i + 1)) := by
    have e : L.drop (i + 1) = (L.drop f).drop (i + 1 - f) := by rw [List.drop_drop]; congr 1; omega
    rw [e, List.take_append_drop, List.take_append_drop]
  have hli := mem_run (L := L) h2 hi
  have hnd : ∀ x ∈ L.take f, ∀ y ∈ L.drop f, x ≠ y := fun x hx y hy e => by
    have hp := hL
    rw [← List.take_append_drop f L] at hp
    have := (List.pairwise_append.1 hp).2.2 x hx y hy
    rw [e, cmpE_refl] at this; omega
  have before : ∀ y ∈ L.take f, y.key ≠ L[i].key := fun y hy hk => by
    rw [← h1] at hy
    obtain ⟨G, hG, hyG⟩ := List.mem_flatten.1 hy
    have hf := (h5 G hG).2 y hyG
    have hin : L[i] ∈ G := by rw [hf]; exact List.mem_filter.2 ⟨List.getElem_mem hi, decide_eq_true hk.symm⟩
    have : L[i] ∈ L.take f := by rw [← h1]; exact List.mem_flatten.2 ⟨G, hG, hin⟩
    exact hnd _ this _ (List.mem_of_mem_take hli) rfl
  have behind : ∀ y ∈ L.drop (i + 1), y.key ≠ L[i].key := fun y hy hk => by
    obtain ⟨j, hj, rfl⟩ := List.mem_iff_getElem.1 hy
    rw [List.length_drop] at hj
    rw [List.getElem_drop] at hk
    rcases hc with hc | ⟨hi1, hc⟩
    · omega
    · by_cases h0 : j = 0
      · subst h0; exact hc hk
      · exact hc (key_mid (List.pairwise_iff_getElem.1 hL i (i + 1) hi hi1 (by omega)) (List.pairwise_iff_getElem.1 hL (i + 1) (i + 1 + j) hi1 (by omega) (by omega)) hk)
  refine ⟨?_, Nat.le_refl _, ?_, ?_, ?_⟩
  · rw [List.flatten_append, h1]
    have e : L.take (i + 1) = L.take f ++ (L.drop f).take (i + 1 - f) := by
      have := congrArg (List.take (i + 1)) hsplit
      rw [List.take_append, List.take_append] at this
      have hl1 : (L.take f).length = f := by rw [List.length_take]; omega
      have hl2 : ((L.drop f).take (i + 1 - f)).length = i + 1 - f := by rw [List.length_take, List.length_drop]; omega
      rw [hl1, hl2, Nat.sub_self, List.take_zero, List.append_nil, List.take_of_length_le (by omega : (L.take f).length ≤ i + 1), List.take_of_length_le (by omega : ((L.drop f).take (i + 1 - f)).length ≤ i + 1 - f)] at this
      exact this
    rw [e]; simp
  · rcases hc with hc | ⟨hj, _⟩
    · exact .inr hc
    · exact .inl hj
  · rw [show i + 1 + 1 - (i + 1) = 1 by omega]
    intro x hx y hy
    cases hd : L.drop (i + 1) with
    | nil => rw [hd] at hx; cases hx
    | cons a r => rw [hd] at hx hy; simp at hx hy; rw [hx, hy]
  · intro G hG
    rcases List.mem_append.1 hG with hG | hG
    · exact h5 G hG
    · obtain rfl := List.mem_singleton.1 hG
      refine ⟨List.ne_nil_of_mem hli, fun x hx => ?_⟩
      have hxi := h4 x hx _ hli
      conv => rhs; rw [hsplit]
      rw [List.filter_append, List.filter_append, hxi]
      have e1 : (L.take f).filter (fun y => decide (y.key = L[i].key)) = [] := List.filter_eq_nil_iff.2 fun y hy => by simp [before y hy]
      have e2 : (L.drop (i + 1)).filter (fun y => decide (y.key = L[i].key)) = [] := List.filter_eq_nil_iff.2 fun y hy => by simp [behind y hy]
      have e3 : ((L.drop f).take (i + 1 - f)).filter (fun y => decide (y.key = L[i].key)) = (L.drop f).take (i + 1 - f) := List.filter_eq_self.2 fun y hy => decide_eq_true (h4 y hy _ hli)
      rw [e1, e2, e3]; simp
/-- Within a group the numbers fall. -/
theorem grp_falls {L G : List Ent} {k : ByteArray} (hL : L.Pairwise fun x y => cmpE x y < 0) (hG : G = L.filter fun y => decide (y.key = k)) : G.Pairwise fun x y => y.seq < x.seq := by
  have h := hL.filter (fun y => decide (y.key = k))
  rw [← hG] at h
  refine h.imp_of_mem ?_
  intro a b ha hb hab
  rw [hG] at ha hb
  have hka := of_decide_eq_true (List.mem_filter.1 ha).2
  have hkb := of_decide_eq_true (List.mem_filter.1 hb).2
  unfold cmpE at hab
  rw [hka, hkb, cb_refl, if_pos rfl] at hab
  exact cmpI_lt.1 hab
/-- The place of the newest up to a number. -/
def idxN (l : List Ent) (a : Int) : Int := match l.findIdx? (fun x => decide (x.seq ≤ a)) with
  | some i => (i : Int)
  | none => -1
/-- What is seen of a group. -/
def seenG (G : List Ent) (a : Int) : List Ent := match G.find? (fun x => decide (x.seq ≤ a)) with
  | some x => if x.dead then [] else [x]
  | none => []
theorem view_group {L G : List Ent} {a : Int} {x0 : Ent} (hL : L.Pairwise fun x y => cmpE x y < 0) (hG : G = L.filter fun y => decide (y.key = x0.key)) : G.filter (viewP L a) = seenG G a := by
  have hf := grp_falls hL hG
  have hkey : ∀ x ∈ G, x ∈ L ∧ x.key = x0.key := fun x hx => by
    rw [hG] at hx
    exact ⟨(List.mem_filter.1 hx).1, of_decide_eq_true (List.mem_filter.1 hx).2⟩
  have hp : ∀ x ∈ G, (viewP L a x = true ↔ x.seq ≤ a ∧ (∀ y ∈ G, y.seq ≤ a → y.seq ≤ x.seq) ∧ x.dead = false) := fun x hx => by
    rw [viewP_iff]
    have hx2 := (hkey x hx).2
    constructor
    · rintro ⟨h1, h2, h3⟩
      exact ⟨h1, fun y hy h4 => h2 y (hkey y hy).1 ((hkey y hy).2.trans hx2.symm) h4, h3⟩
    · rintro ⟨h1, h2, h3⟩
      exact ⟨h1, fun y hy h4 h5 => h2 y (by rw [hG]; exact List.mem_filter.2 ⟨hy, decide_eq_true (h4.trans hx2)⟩) h5, h3⟩
  clear hkey hG hL
  have key : ∀ (T : List Ent), (T.Pairwise fun x y => y.seq < x.seq) → (∀ x ∈ T, (viewP L a x = true ↔ x.seq ≤ a ∧ (∀ y ∈ T, y.seq ≤ a → y.seq ≤ x.seq) ∧ x.dead = false)) → T.filter (viewP L a) = seenG T a := by
    intro T
    induction T with
    | nil => intro _ _; rfl
    | cons x T ih =>
      intro hT hpT
      obtain ⟨t1, t2⟩ := List.pairwise_cons.1 hT
      unfold seenG
      by_cases hx : x.seq ≤ a
      · rw [List.find?_cons_of_pos (by simpa using hx)]
        have hrest : T.filter (viewP L a) = [] := List.filter_eq_nil_iff.2 fun y hy hv => by
          have := ((hpT y (by simp [hy])).1 hv).2.1 x (by simp) hx
          have := t1 y hy
          omega
        rw [List.filter_cons, hrest]
        have hvx : viewP L a x = !x.dead := by
          rw [Bool.eq_iff_iff, hpT x (by simp), Bool.not_eq_true']
          constructor
          · exact fun h => h.2.2
          · exact fun h => ⟨hx, fun y hy _ => by
              rcases List.mem_cons.1 hy with rfl | hy
              · exact Int.le_refl _
              · exact Int.le_of_lt (t1 y hy), h⟩
        rw [hvx]
        cases hd : x.dead <;> simp [hd]
      · rw [List.find?_cons_of_neg (by simpa using hx)]
        rw [List.filter_cons, if_neg (fun hv => hx ((hpT x (by simp)).1 hv).1)]
        refine ih t2 fun y hy => ?_
        rw [hpT y (by simp [hy])]
        constructor
        · rintro ⟨h1, h2, h3⟩; exact ⟨h1, fun z hz => h2 z (by simp [hz]), h3⟩
        · rintro ⟨h1, h2, h3⟩
          exact ⟨h1, fun z hz hza => by
            rcases List.mem_cons.1 hz with rfl | hz
            · exact absurd hza hx
            · exact h2 z hz hza, h3⟩
  exact key G hf hp
theorem view_flat {L : List Ent} {Gs : List (List Ent)} {a : Int} (hL : L.Pairwise fun x y => cmpE x y < 0) (h : Grp L Gs) : viewL L a = (Gs.map fun G => seenG G a).flatten := by
  have key : ∀ (Hs : List (List Ent)), (∀ G ∈ Hs, G ∈ Gs) → Hs.flatten.filter (viewP L a) = (Hs.map fun G => seenG G a).flatten := by
    intro Hs
    induction Hs with
    | nil => intro _; rfl
    | cons G Hs ih =>
      intro hm
      obtain ⟨hne, hx⟩ := h.2 G (hm G (by simp))
      obtain ⟨x0, hx0⟩ := List.exists_mem_of_ne_nil _ hne
      rw [List.flatten_cons, List.filter_append, List.map_cons, List.flatten_cons, ih (fun H hH => hm H (by simp [hH])), view_group hL (hx x0 hx0)]
  have := key Gs (fun _ h => h)
  rw [h.1] at this
  exact this
end Go.Proofs.Ytcfgmkiohmbdlaa
