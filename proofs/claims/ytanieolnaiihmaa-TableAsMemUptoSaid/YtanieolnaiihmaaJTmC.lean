/- A table in memory: what it finds, in plain words. (printed by wip/tools/gen_tm.py) -/
import Derived.Test.YtanieolnaiihmaaTmB
import Derived.Test.YtanieolnaiihmaaJTbFindP
namespace Go.Proofs.Ytanieolnaiihmaa.M6
open Go.RowKit
theorem cmpE_lt (x y : Ent) : cmpE x y < 0 ↔ Op.bytesLess x.key.toList y.key.toList = true ∨ (x.key = y.key ∧ y.seq < x.seq) := by
  rw [ByteArray.toList_eq, ByteArray.toList_eq, cb_less]
  unfold cmpE
  by_cases h : Lib.compareBytes x.key.data.toList y.key.data.toList = 0
  · have e := bytes_eq (cb_eq _ _ h)
    rw [if_pos h, cmpI_lt, h]
    constructor
    · intro h; exact .inr ⟨e, h⟩
    · rintro (h | ⟨_, h⟩)
      · simp at h
      · exact h
  · rw [if_neg h]
    constructor
    · intro h; exact .inl (decide_eq_true h)
    · rintro (h | ⟨e, _⟩)
      · exact of_decide_eq_true h
      · rw [e] at h; exact absurd (cb_refl _) h
theorem less_ne {a b : ByteArray} (h : Op.bytesLess a.toList b.toList = true) : a ≠ b := by
  rintro rfl
  rw [cb_less, cb_refl] at h
  simp at h
theorem cmpE_le_key {x y : Ent} (h : cmpE x y < 0) {key : ByteArray} (hk : Op.bytesLess key.toList x.key.toList = true) : Op.bytesLess key.toList y.key.toList = true := by
  rcases (cmpE_lt x y).1 h with h | ⟨e, _⟩
  · rw [ByteArray.toList_eq, ByteArray.toList_eq, cb_less] at *
    simp only [decide_eq_true_eq] at *
    exact cb_trans _ _ _ hk h
  · rw [← e]; exact hk
theorem nless {a b : ByteArray} (h : Op.bytesLess a.toList b.toList = false) (hne : a ≠ b) : Op.bytesLess b.toList a.toList = true := by
  rw [ByteArray.toList_eq, ByteArray.toList_eq, cb_less] at *
  rw [decide_eq_false_iff_not] at h
  rw [decide_eq_true_eq, cb_swap]
  have : Lib.compareBytes a.data.toList b.data.toList ≠ 0 := fun e => hne (bytes_eq (cb_eq _ _ e))
  omega
theorem getN_getE (ns : List Nd) (key : ByteArray) (sq : Int) (hr : ns.Pairwise fun a b => cmpE a.x b.x < 0) : getN ns key sq = getE (ents ns) key sq := by
  have hlt := cutOf_lt ns ⟨key, sq, false, ⟨#[]⟩⟩
  have hge := cutOf_ge ns ⟨key, sq, false, ⟨#[]⟩⟩ hr
  have hlen : (ents ns).length = ns.length := by simp [ents]
  have hget : ∀ j (h : j < (ents ns).length), (ents ns)[j] = (ns[j]'(by omega)).x := fun j h => by simp [ents]
  have hno : ∀ j (hj : j < ns.length), j < cutOf ns ⟨key, sq, false, ⟨#[]⟩⟩ → (decide (ns[j].x.key = key) && decide (ns[j].x.seq ≤ sq)) = false := fun j hj hjc => by
    rcases (cmpE_lt _ _).1 (hlt j hj hjc) with h | ⟨_, h⟩
    · rw [decide_eq_false (less_ne h)]; rfl
    · rw [decide_eq_false (show ¬ ns[j].x.seq ≤ sq by have : sq < ns[j].x.seq := h; omega), Bool.and_false]
  unfold getN getE
  cases hc : ns[cutOf ns ⟨key, sq, false, ⟨#[]⟩⟩]? with
  | none =>
    rw [find_none fun j hj => ?_]
    rw [hget]
    exact hno j (by omega) (by have := List.getElem?_eq_none_iff.1 hc; omega)
  | some d =>
    obtain ⟨hcl, rfl⟩ := List.getElem?_eq_some_iff.1 hc
    have hn := hge _ hcl (Nat.le_refl _)
    rw [cmpE_lt] at hn
    simp only
    by_cases hk : ns[cutOf ns ⟨key, sq, false, ⟨#[]⟩⟩].x.key = key
    · have hs : ns[cutOf ns ⟨key, sq, false, ⟨#[]⟩⟩].x.seq ≤ sq := by
        rcases Int.lt_or_le sq ns[cutOf ns ⟨key, sq, false, ⟨#[]⟩⟩].x.seq with h | h
        · exact absurd (.inr ⟨hk, h⟩) hn
        · exact h
      rw [if_pos hk, find_take (k := cutOf ns ⟨key, sq, false, ⟨#[]⟩⟩) (by omega) (fun j hj hjc => by rw [hget]; exact hno j (by omega) hjc) (by rw [hget, decide_eq_true hk, decide_eq_true hs]; rfl), hget]
    · rw [if_neg hk, find_none fun j hj => ?_]
      rw [hget]
      rcases Nat.lt_or_ge j (cutOf ns ⟨key, sq, false, ⟨#[]⟩⟩) with h | h
      · exact hno j (by omega) h
      · have h0 : Op.bytesLess key.toList ns[cutOf ns ⟨key, sq, false, ⟨#[]⟩⟩].x.key.toList = true := by
          cases e : Op.bytesLess ns[cutOf ns ⟨key, sq, false, ⟨#[]⟩⟩].x.key.toList key.toList with
          | true => exact absurd (.inl e) hn
          | false => exact nless e hk
        have h1 : Op.bytesLess key.toList (ns[j]'(by omega)).x.key.toList = true := by
          rcases Nat.lt_or_ge (cutOf ns ⟨key, sq, false, ⟨#[]⟩⟩) j with h2 | h2
          · exact cmpE_le_key (List.pairwise_iff_getElem.1 hr _ _ hcl (by omega) h2) h0
          · have e : j = cutOf ns ⟨key, sq, false, ⟨#[]⟩⟩ := by omega
            subst e
            exact h0
        rw [decide_eq_false (fun e => less_ne h1 e.symm)]; rfl
theorem fromAt_fromE (ns : List Nd) (key : ByteArray) (hs : ∀ d ∈ ns, d.x.seq ≤ 9223372036854775807) : fromAt ns key = fromE (ents ns) key := by
  unfold fromAt cutOf fromE ents
  rw [List.takeWhile_map, List.length_map]
  congr 1
  induction ns with
  | nil => rfl
  | cons d ns ih =>
    have h0 := hs d (by simp)
    have e : (decide (cmpE d.x ⟨key, 9223372036854775807, false, ⟨#[]⟩⟩ < 0)) = Op.bytesLess d.x.key.toList key.toList := by
      rw [Bool.eq_iff_iff, decide_eq_true_eq, cmpE_lt]
      constructor
      · rintro (h | ⟨_, h⟩)
        · exact h
        · exact absurd h (by show ¬ (9223372036854775807 : Int) < d.x.seq; omega)
      · intro h; exact .inl h
    rw [List.takeWhile_cons, List.takeWhile_cons, e, ih fun d hd => hs d (by simp [hd])]
    rfl
noncomputable def skipE (l : List Ent) (x : Ent) : Nat := match l[cutE l x]? with
  | some y => if cmpE y x = 0 then cutE l x + 1 else cutE l x
  | none => cutE l x
theorem insE_skip (l : List Ent) (x : Ent) : insE l x = l.take (cutE l x) ++ clean x :: l.drop (skipE l x) := by
  unfold insE skipE
  split
  · rename_i y hy
    simp only [hy]
    split <;> rfl
  · rename_i hy
    simp only [hy]
/-- Every version of the list is one that came, or one of the list before. -/
theorem insE_mem {l : List Ent} {x y : Ent} (h : y ∈ insE l x) : y ∈ l ∨ y = clean x := by
  rw [insE_skip, List.mem_append, List.mem_cons] at h
  rcases h with h | rfl | h
  · exact .inl (List.mem_of_mem_take h)
  · exact .inr rfl
  · exact .inl (List.mem_of_mem_drop h)
theorem foldE_mem {l : List Ent} : ∀ {m : List Ent} {y : Ent}, y ∈ l.foldl insE m → y ∈ m ∨ ∃ x ∈ l, y = clean x := by
  induction l with
  | nil => intro m y h; exact .inl h
  | cons x l ih =>
    intro m y h
    rcases ih h with h | ⟨z, hz, e⟩
    · rcases insE_mem h with h | e
      · exact .inl h
      · exact .inr ⟨x, by simp, e⟩
    · exact .inr ⟨z, by simp [hz], e⟩
end Go.Proofs.Ytanieolnaiihmaa.M6
