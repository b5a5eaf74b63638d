/- Tables: no beginning of a table is a table, and none with a byte behind it. Plain. -/
import Derived.Test.YtanieolnaiihmaaJTbOpP
namespace Go.Proofs.Ytanieolnaiihmaa
open Go.RowKit
theorem cut_seal : ∀ (L : List ByteArray) (n : Nat), n < (sealB L).length → ∃ (k : Nat) (p : ByteArray) (j : Nat), k < L.length ∧ p ∈ L ∧ j < (frameB p.data.toList).length ∧ (sealB L).take n = sealB (L.take k) ++ (frameB p.data.toList).take j := by
  intro L
  induction L with
  | nil => intro n h; simp [sealB] at h
  | cons s L ih =>
    intro n h
    have h1 : sealB (s :: L) = frameB s.data.toList ++ sealB L := by simp [sealB]
    rw [h1] at h ⊢
    by_cases hn : n < (frameB s.data.toList).length
    · refine ⟨0, s, n, by simp, List.mem_cons_self, hn, ?_⟩
      rw [List.take_append_of_le_length (by omega)]
      simp [sealB]
    · rw [List.length_append] at h
      obtain ⟨k, p, j, hk, hp, hj, he⟩ := ih (n - (frameB s.data.toList).length) (by omega)
      refine ⟨k + 1, p, j, by simp only [List.length_cons]; omega, List.mem_cons_of_mem _ hp, hj, ?_⟩
      rw [List.take_append, List.take_of_length_le (l := frameB s.data.toList) (by omega), he, List.take_succ_cons, show sealB (s :: L.take k) = frameB s.data.toList ++ sealB (L.take k) by simp [sealB], List.append_assoc]
theorem idx_form (l : List Ent) : ∀ k, ∃ r, idxE l k = numB (partN l) ++ r := by
  intro k
  induction k with
  | zero => exact ⟨[], by simp [idxE]⟩
  | succ k ih =>
    obtain ⟨r, hr⟩ := ih
    exact ⟨r ++ (textB (lastE l k).data.toList ++ numB (atE l k)), by simp only [idxE]; rw [hr, List.append_assoc]⟩
theorem idx_form1 (l : List Ent) : ∀ k, ∃ r, idxE l (k + 1) = numB (partN l) ++ (textB (lastE l 0).data.toList ++ (numB 0 ++ r)) := by
  intro k
  induction k with
  | zero => exact ⟨[], by simp [idxE, atE]⟩
  | succ k ih =>
    obtain ⟨r, hr⟩ := ih
    refine ⟨r ++ (textB (lastE l (k + 1)).data.toList ++ numB (atE l (k + 1))), ?_⟩
    rw [idxE, hr]
    simp only [List.append_assoc]
theorem idx_ge (l : List Ent) : ∀ k, 2 * k + 1 ≤ (idxE l k).length := by
  intro k
  induction k with
  | zero => have := numB_pos (partN l); simp only [idxE]; omega
  | succ k ih =>
    have h1 := numB_pos (lastE l k).data.toList.length
    have h2 := numB_pos (atE l k)
    simp only [idxE, List.length_append, textB]
    omega
theorem less_nil (l : List UInt8) : Op.bytesLess l [] = false := by cases l <;> rfl
theorem chain_empty : ∀ (l : List Ent) (p : Option Ent) (x : Ent), risesE p (l ++ [x]) → x.kl = [] → (∀ y ∈ l, y.kl = []) ∧ ∀ q, p = some q → q.kl = [] := by
  have key : ∀ q x : Ent, lessE q x = true → x.kl = [] → q.kl = [] := fun q x h hx => by
    unfold lessE lessK at h
    have h2 : x.key.toList = [] := by rw [ByteArray.toList_eq]; exact hx
    rw [h2, less_nil] at h
    simp only [Bool.false_or, Bool.and_eq_true, beq_iff_eq] at h
    have := h.1
    rw [ByteArray.toList_eq] at this
    exact this
  intro l
  induction l with
  | nil => intro p x h hx; exact ⟨fun y hy => (by cases hy), fun q hq => key q x (h.1 q hq) hx⟩
  | cons y l ih =>
    intro p x h hx
    obtain ⟨i1, i2⟩ := ih (some y) x h.2 hx
    have hy := i2 y rfl
    refine ⟨fun z hz => ?_, fun q hq => key q y (h.1 q hq) hy⟩
    rcases List.mem_cons.1 hz with rfl | hz
    · exact hy
    · exact i1 z hz
theorem names_empty {l : List Ent} (h : ∀ y ∈ l, y.kl = []) (hne : l ≠ []) : (namesE l).length = 1 := by
  have he : ∀ y ∈ l, y.key = ⟨#[]⟩ := fun y hy => by
    apply ByteArray.ext
    apply Array.toList_inj.1
    exact h y hy
  have key : ∀ (t : List Ent), (∀ y ∈ t, y.key = (⟨#[]⟩ : ByteArray)) → t.foldl nameS [⟨#[]⟩] = [⟨#[]⟩] := by
    intro t
    induction t with
    | nil => intro _; rfl
    | cons y t ih =>
      intro ht
      rw [List.foldl_cons]
      have : nameS [⟨#[]⟩] y = [⟨#[]⟩] := by unfold nameS; rw [if_pos]; rw [ht y List.mem_cons_self]; rfl
      rw [this]
      exact ih fun z hz => ht z (List.mem_cons_of_mem _ hz)
  cases l with
  | nil => exact absurd rfl hne
  | cons y t =>
    unfold namesE
    rw [List.foldl_cons]
    have : nameS [] y = [⟨#[]⟩] := by unfold nameS; rw [if_neg (by simp)]; simp [he y List.mem_cons_self]
    rw [this, key t fun z hz => he z (List.mem_cons_of_mem _ hz)]
    rfl
theorem num_inj {a b : Nat} {r s : List UInt8} (ha : a < 18446744073709551616) (hb : b < 18446744073709551616) (h : numB a ++ r = numB b ++ s) : a = b ∧ r = s := by
  have h1 := rdNum_numB a r ha
  have h2 := rdNum_numB b s hb
  rw [h, h2] at h1
  injection h1 with h1 h3
  injection h3 with _ h3
  exact ⟨h1.symm, h3.symm⟩
theorem allP_pay {l : List Ent} {i : Nat} (h : i < partN l) : (allP l)[i]? = some (payE l i) := by
  unfold allP
  rw [List.getElem?_append_left (by rw [paysE_len]; exact h)]
  unfold paysE
  rw [List.getElem?_map, List.getElem?_range h]; rfl
theorem allP_end (l : List Ent) (j : Nat) : (allP l)[partN l + j]? = ([toB (idxE l (partN l)), toB (bld (namesE l)), toB (footE l)] : List ByteArray)[j]? := by
  unfold allP
  rw [List.getElem?_append_right (by rw [paysE_len]; omega), paysE_len, show partN l + j - partN l = j by omega]
theorem toB_inj {a b : List UInt8} (h : toB a = toB b) : a = b := by
  have := congrArg (fun s : ByteArray => s.data.toList) h
  simpa [toB_data] using this
theorem small_head {n : Nat} (h : n < 84) {r : List UInt8} {s : List UInt8} : numB n ++ r ≠ magicB ++ s := by
  rw [numB_small (by omega)]
  unfold magicB
  intro e
  injection e with e
  have := congrArg UInt8.toNat e
  rw [UInt8.toNat_ofNat'] at this
  have h84 : (84 : UInt8).toNat = 84 := rfl
  omega
theorem openT_take {s : List UInt8} {n : Nat} (h : (scanR s).2 = s.length) (hn : (framesT s).length = n + 3) : openT s = (decAll ((framesT s).take n)).bind fun l => if (bldT l).2 = 0 ∧ (bldT l).1 = s then some l else none := by
  unfold openT
  rw [if_neg (by omega), show (framesT s).length - 3 = n by omega]
theorem whole_cut {S : Nat} (hS : S ≤ 1048576) {l : List Ent} (hok : okE S l) (h : (bldT l).2 = 0) {n : Nat} (hn : n < (bldT l).1.length) (hn2 : n ≤ 268435456) : openT ((bldT l).1.take n) = none := by
  cases ho : openT ((bldT l).1.take n) with
  | none => rfl
  | some l' =>
    exfalso
    obtain ⟨o1, o2, o3, o4⟩ := open_some ho
    obtain ⟨hr, hf, hs⟩ := bldT_ok h
    obtain ⟨hr', hf', hs'⟩ := bldT_ok o1
    rw [hs] at hn o2 o3 o4
    obtain ⟨k, p, j, hk, hp, hj, hcut⟩ := cut_seal _ _ hn
    have hsc := scan_seal_cut ((allP l).take k) p.data.toList j (fun x hx => hf x (List.mem_of_mem_take hx)) (hf p hp) hj
    have o4' := o4
    rw [hcut, hsc] at o4
    have hj0 : j = 0 := by
      simp only [List.length_append, List.length_take] at o4
      omega
    subst hj0
    have heq : allP l' = (allP l).take k := by
      rw [← o3]
      unfold framesT
      rw [hcut, hsc]
      exact strsOf_map _
    have hl := allP_len l
    have hl' := allP_len l'
    rw [hl] at hk
    rw [heq, List.length_take, hl] at hl'
    have hkm : k = partN l' + 3 := by omega
    have hget : ∀ i, i < k → (allP l')[i]? = (allP l)[i]? := fun i hi => by rw [heq, List.getElem?_take, if_pos hi]
    have hlen := okE_len hok
    have hpn : partN l ≤ 200000000000 := by unfold partN; omega
    have f0 := hget (partN l') (by omega)
    have f1 := hget (partN l' + 1) (by omega)
    have f2 := hget (partN l' + 2) (by omega)
    have e0 := allP_end l' 0
    rw [Nat.add_zero] at e0
    rw [e0] at f0
    rw [allP_end l' 1] at f1
    rw [allP_end l' 2] at f2
    simp only [List.getElem?_cons_zero, List.getElem?_cons_succ] at f0 f1 f2
    have hfoot : footE l' = magicB ++ (numB (atE l' (partN l')) ++ numB l'.length) := rfl
    by_cases c1 : partN l' + 2 < partN l
    · rw [allP_pay c1] at f2
      injection f2 with f2
      have := toB_inj f2
      rw [hfoot] at this
      exact small_head (n := (partE l (partN l' + 2)).length) (by rw [partE_len]; omega) this.symm
    · rw [allP_pay (l := l) (i := partN l') (by omega)] at f0
      injection f0 with f0
      have f0' := toB_inj f0
      by_cases c2 : partN l' + 2 = partN l
      · obtain ⟨r, hr0⟩ := idx_form l' (partN l')
        rw [hr0] at f0'
        have hp8 : (partE l (partN l')).length = 8 := by
          rw [partE_len]
          have : partN l' + 2 = (l.length + 7) / 8 := c2
          omega
        obtain ⟨g1, _⟩ := num_inj (by omega) (by omega) f0'
        rw [hp8] at g1
        have e2 := allP_end l 0
        rw [Nat.add_zero] at e2
        rw [c2, e2] at f2
        simp only [List.getElem?_cons_zero] at f2
        injection f2 with f2
        have f2' := toB_inj f2
        obtain ⟨r2, hr2⟩ := idx_form l (partN l)
        rw [hfoot, hr2] at f2'
        exact small_head (n := partN l) (by omega) f2'.symm
      · have c3 : partN l' + 1 = partN l := by omega
        have hcnt : (partE l (partN l')).length = partN l' := by
          obtain ⟨r, hr0⟩ := idx_form l' (partN l')
          rw [hr0] at f0'
          exact ((num_inj (by omega) (by rw [partE_len]; omega) f0').1).symm
        have hpos := partE_pos (l := l) (k := partN l') (by omega)
        obtain ⟨q, hq⟩ : ∃ q, partN l' = q + 1 := ⟨partN l' - 1, by omega⟩
        -- the versions of l' are the first of l
        have hpays : paysE l' (partN l') = paysE l (partN l') := by
          unfold paysE
          refine List.map_congr_left fun i hi => ?_
          rw [List.mem_range] at hi
          have h1 := hget i (by omega)
          rw [allP_pay hi, allP_pay (by omega)] at h1
          injection h1
        have hok' : okE 65536 l' := by
          have hd : decAll ((framesT ((bldT l).1.take n)).take (partN l')) = some l' := by
            rw [hs, o3]
            have h1 : (allP l').take (partN l') = paysE l' (partN l') := by
              unfold allP
              rw [List.take_append_of_le_length (by rw [paysE_len]; exact Nat.le_refl _), List.take_of_length_le (by rw [paysE_len]; exact Nat.le_refl _)]
            have h2 := ho
            rw [hs, openT_take o4' (by rw [o3]; exact allP_len l')] at h2
            rw [o3, h1] at h2
            rw [h1]
            cases hd : decAll (paysE l' (partN l')) with
            | none => rw [hd] at h2; cases h2
            | some m =>
              rw [hd] at h2
              simp only [Option.bind_some] at h2
              split at h2
              · exact h2
              · cases h2
          exact (open_okE (by rw [List.length_take]; omega) hd).1
        have hl8 : l' = l.take (8 * partN l') := by
          have a1 := decAll_pays (by omega) hr' hok' (partN l')
          have a2 := decAll_pays hS hr hok (partN l')
          rw [hpays, a2, take_all] at a1
          injection a1 with a1
          exact a1.symm
        obtain ⟨x0, tl, hx0⟩ : ∃ x0 tl, partE l (partN l') = x0 :: tl := by
          cases hc : partE l (partN l') with
          | nil => rw [hc] at hpos; simp at hpos
          | cons a b => exact ⟨a, b, rfl⟩
        obtain ⟨r, hr1⟩ := idx_form1 l' q
        rw [hq, hr1, ← hq] at f0'
        have hblk : blockB (partE l (partN l')) = numB (partN l') ++ (numB 0 ++ (textB x0.kl ++ (intB x0.seq ++ (if x0.dead then numB 1 else numB 0 ++ textB x0.vl) ++ entsB x0.kl tl))) := by
          unfold blockB
          rw [hcnt, hx0, entsB]
          unfold entB
          simp only [lcp, List.drop_zero, List.append_assoc]
        rw [hblk] at f0'
        have z1 := (num_inj (by omega) (by omega) f0').2
        have hlast := lastE_le hok' 0
        unfold textB at z1
        rw [List.append_assoc] at z1
        obtain ⟨z2, z3⟩ := num_inj (by show (lastE l' 0).size < _; omega) (by omega) z1
        have z4 : (lastE l' 0).data.toList = [] := List.eq_nil_of_length_eq_zero z2
        rw [z4, List.nil_append, List.append_assoc] at z3
        have hxl : x0 ∈ l := partE_mem (k := partN l') (by rw [hx0]; exact List.mem_cons_self)
        have hxs := (hok.1 x0 hxl).2.1
        obtain ⟨z5, _⟩ := num_inj (by omega) (by show x0.key.size < _; omega) z3
        have hx0e : x0.kl = [] := List.eq_nil_of_length_eq_zero z5.symm
        have hdrop : l.drop (8 * partN l') = x0 :: (tl ++ (l.drop (8 * partN l')).drop 8) := by
          rw [← List.cons_append, ← hx0]
          unfold partE
          rw [List.take_append_drop]
        have hrise : risesE none (l' ++ [x0]) := by
          have h1 := risesE_take l none (8 * partN l' + 1) hr.2
          have h2 : l.take (8 * partN l' + 1) = l' ++ [x0] := by
            rw [List.take_add, ← hl8, hdrop]; rfl
          rwa [h2] at h1
        have hall := (chain_empty l' none x0 hrise hx0e).1
        have hne : l' ≠ [] := fun e => by rw [e] at hq; simp [partN] at hq
        have hnm := names_empty hall hne
        have e2 := allP_end l 0
        rw [Nat.add_zero] at e2
        rw [c3, e2] at f1
        simp only [List.getElem?_cons_zero] at f1
        injection f1 with f1
        have f1' := congrArg List.length (toB_inj f1)
        have hge := idx_ge l (partN l)
        rw [bld_length, if_neg (fun e => by rw [e] at hnm; cases hnm), hnm] at f1'
        unfold blen at f1'
        omega
theorem whole_more {l : List Ent} (h : (bldT l).2 = 0) (c : UInt8) : openT ((bldT l).1 ++ [c]) = none := by
  obtain ⟨hr, hf, hs⟩ := bldT_ok h
  unfold openT
  rw [if_pos]
  left
  rw [hs]
  have := scan_from [c] (fun pre => first_out (.inr (by simp; omega))) (allP l) [] ((sealB (allP l) ++ [c]).length + 1) hf (by have := seal_len (allP l); rw [List.length_append]; simp; omega)
  simp only [List.nil_append, List.length_nil, Nat.zero_add] at this
  unfold scanR
  rw [this]
  simp
end Go.Proofs.Ytanieolnaiihmaa
