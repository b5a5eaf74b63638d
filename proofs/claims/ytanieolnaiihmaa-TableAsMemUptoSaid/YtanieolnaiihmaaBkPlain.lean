/- Blocks: what is written and read, as lists. Plain. -/
import Derived.Test.YtanieolnaiihmaaBkRds
import Derived.Test.YtanieolnaiihmaaEnt
namespace Go.Proofs.Ytanieolnaiihmaa

/-- How many bytes two texts share at their beginning. -/
def lcp : List UInt8 → List UInt8 → Nat
  | a :: x, b :: y => if a = b then lcp x y + 1 else 0
  | _, _ => 0
theorem lcp_le : ∀ (x y : List UInt8), lcp x y ≤ x.length ∧ lcp x y ≤ y.length
  | [], y => by simp [lcp]
  | a :: x, [] => by simp [lcp]
  | a :: x, b :: y => by
    have := lcp_le x y
    unfold lcp
    split
    · simp only [List.length_cons]; omega
    · simp
theorem lcp_take : ∀ (x y : List UInt8), x.take (lcp x y) = y.take (lcp x y)
  | [], y => by simp [lcp]
  | a :: x, [] => by simp [lcp]
  | a :: x, b :: y => by
    unfold lcp
    split
    · rename_i h
      rw [List.take_succ_cons, List.take_succ_cons, h, lcp_take x y]
    · simp
/-- The bytes at which a walk over both stops. -/
theorem lcp_at : ∀ (x y : List UInt8) (k : Nat), (∀ j (h1 : j < x.length) (h2 : j < y.length), j < k → x[j] = y[j]) → k ≤ x.length → k ≤ y.length → (k = x.length ∨ k = y.length ∨ ∃ (h1 : k < x.length) (h2 : k < y.length), x[k] ≠ y[k]) → lcp x y = k
  | [], y, k, _, h1, _, _ => by simp at h1; subst h1; simp [lcp]
  | a :: x, [], k, _, _, h2, _ => by simp at h2; subst h2; simp [lcp]
  | a :: x, b :: y, 0, _, _, _, h => by
    rcases h with h | h | ⟨h1, h2, h⟩
    · simp at h
    · simp at h
    · unfold lcp; rw [if_neg (by simpa using h)]
  | a :: x, b :: y, k + 1, he, h1, h2, h => by
    have h0 := he 0 (by simp) (by simp) (by omega)
    simp at h0
    unfold lcp
    rw [if_pos h0]
    congr 1
    refine lcp_at x y k (fun j g1 g2 hj => ?_) (by simpa using h1) (by simpa using h2) ?_
    · have := he (j + 1) (by simpa using g1) (by simpa using g2) (by omega)
      simpa using this
    · rcases h with h | h | ⟨g1, g2, h⟩
      · exact .inl (by simpa using h)
      · exact .inr (.inl (by simpa using h))
      · exact .inr (.inr ⟨by simpa using g1, by simpa using g2, by simpa using h⟩)
def Ent.kl (x : Ent) : List UInt8 := x.key.data.toList
def Ent.vl (x : Ent) : List UInt8 := x.val.data.toList
/-- An entry's bytes behind a key. -/
def entB (last : List UInt8) (x : Ent) : List UInt8 :=
  numB (lcp last x.kl) ++ textB (x.kl.drop (lcp last x.kl)) ++ intB x.seq ++ (if x.dead then numB 1 else numB 0 ++ textB x.vl)
def entsB : List UInt8 → List Ent → List UInt8
  | _, [] => []
  | last, x :: l => entB last x ++ entsB x.kl l
def blockB (l : List Ent) : List UInt8 := numB l.length ++ entsB [] l
/-- Does the list rise? -/
def risesE : Option Ent → List Ent → Prop
  | _, [] => True
  | p, x :: l => (∀ q, p = some q → lessE q x = true) ∧ risesE (some x) l
def liveE (x : Ent) : Prop := x.dead = true → x.vl = []
def rightE (l : List Ent) : Prop := (∀ x ∈ l, liveE x) ∧ risesE none l
def toB (l : List UInt8) : ByteArray := ⟨l.toArray⟩
theorem toB_data (l : List UInt8) : (toB l).data.toList = l := by simp [toB]
theorem toB_back (s : ByteArray) : toB s.data.toList = s := by simp [toB]
theorem ent_ext {x y : Ent} (h1 : x.kl = y.kl) (h2 : x.seq = y.seq) (h3 : x.dead = y.dead) (h4 : x.vl = y.vl) : x = y := by
  obtain ⟨a, b, c, d⟩ := x
  obtain ⟨a', b', c', d'⟩ := y
  simp only [Ent.kl, Ent.vl] at *
  have e1 : a = a' := ByteArray.ext (Array.toList_inj.1 h1)
  have e4 : d = d' := ByteArray.ext (Array.toList_inj.1 h4)
  rw [e1, h2, h3, e4]
/-- One entry read behind a key. -/
def rdEnt (last l : List UInt8) : Option (Ent × List UInt8) :=
  if (rdNum l).2.1 ≠ 0 ∨ (rdText (rdNum l).2.2).2.1 ≠ 0 ∨ (rdInt (rdText (rdNum l).2.2).2.2).2.1 ≠ 0 ∨ (rdNum (rdInt (rdText (rdNum l).2.2).2.2).2.2).2.1 ≠ 0 then none
  else if last.length < (rdNum l).1 ∨ 1 < (rdNum (rdInt (rdText (rdNum l).2.2).2.2).2.2).1 ∨ lcp last (last.take (rdNum l).1 ++ (rdText (rdNum l).2.2).1) ≠ (rdNum l).1 then none
  else if (rdNum (rdInt (rdText (rdNum l).2.2).2.2).2.2).1 = 1 then
    some (⟨toB (last.take (rdNum l).1 ++ (rdText (rdNum l).2.2).1), (rdInt (rdText (rdNum l).2.2).2.2).1, true, toB []⟩, (rdNum (rdInt (rdText (rdNum l).2.2).2.2).2.2).2.2)
  else if (rdText (rdNum (rdInt (rdText (rdNum l).2.2).2.2).2.2).2.2).2.1 ≠ 0 then none
  else some (⟨toB (last.take (rdNum l).1 ++ (rdText (rdNum l).2.2).1), (rdInt (rdText (rdNum l).2.2).2.2).1, false, toB (rdText (rdNum (rdInt (rdText (rdNum l).2.2).2.2).2.2).2.2).1⟩, (rdText (rdNum (rdInt (rdText (rdNum l).2.2).2.2).2.2).2.2).2.2)
/-- What is read of an entry, said in steps. -/
theorem rdEnt_steps {last l : List UInt8} {n e1 : Nat} {r1 t r2 : List UInt8} {e2 : Nat} {s : Int} {e3 : Nat} {r3 : List UInt8} {d e4 : Nat} {r4 v r5 : List UInt8} {e5 : Nat}
    (h1 : rdNum l = (n, e1, r1)) (h2 : rdText r1 = (t, e2, r2)) (h3 : rdInt r2 = (s, e3, r3)) (h4 : rdNum r3 = (d, e4, r4)) (h5 : rdText r4 = (v, e5, r5)) :
    rdEnt last l = if e1 ≠ 0 ∨ e2 ≠ 0 ∨ e3 ≠ 0 ∨ e4 ≠ 0 then none else if last.length < n ∨ 1 < d ∨ lcp last (last.take n ++ t) ≠ n then none
      else if d = 1 then some (⟨toB (last.take n ++ t), s, true, toB []⟩, r4) else if e5 ≠ 0 then none else some (⟨toB (last.take n ++ t), s, false, toB v⟩, r5) := by
  unfold rdEnt
  simp only [h1, h2, h3, h4, h5]
theorem rdEnt_entB (last : List UInt8) (x : Ent) (r : List UInt8) (hs : -9223372036854775808 ≤ x.seq ∧ x.seq ≤ 9223372036854775807) (hk : x.kl.length < 18446744073709551616) (hv : x.vl.length < 18446744073709551616) (hl : liveE x) :
    rdEnt last (entB last x ++ r) = some (x, r) := by
  have hlc := lcp_le last x.kl
  have hkey : last.take (lcp last x.kl) ++ x.kl.drop (lcp last x.kl) = x.kl := by rw [lcp_take, List.take_append_drop]
  cases hd : x.dead with
  | true =>
    have e : entB last x ++ r = numB (lcp last x.kl) ++ (textB (x.kl.drop (lcp last x.kl)) ++ (intB x.seq ++ (numB 1 ++ r))) := by
      unfold entB; rw [if_pos hd]; simp
    rw [e, rdEnt_steps (rdNum_numB _ _ (by omega)) (rdText_textB _ _ (by simp; omega)) (rdInt_intB _ _ hs.1 hs.2) (rdNum_numB 1 _ (by omega)) (v := (rdText r).1) (e5 := (rdText r).2.1) (r5 := (rdText r).2.2) rfl,
      if_neg (by omega), if_neg (by rw [hkey]; omega), if_pos rfl, hkey]
    congr 2
    exact ent_ext (toB_data _) rfl hd.symm (by rw [hl hd]; exact toB_data _)
  | false =>
    have e : entB last x ++ r = numB (lcp last x.kl) ++ (textB (x.kl.drop (lcp last x.kl)) ++ (intB x.seq ++ (numB 0 ++ (textB x.vl ++ r)))) := by
      unfold entB; rw [if_neg (by rw [hd]; decide)]; simp
    rw [e, rdEnt_steps (rdNum_numB _ _ (by omega)) (rdText_textB _ _ (by simp; omega)) (rdInt_intB _ _ hs.1 hs.2) (rdNum_numB 0 _ (by omega)) (rdText_textB _ _ hv),
      if_neg (by omega), if_neg (by rw [hkey]; omega), if_neg (by omega), if_neg (by omega), hkey]
    congr 2
    exact ent_ext (toB_data _) rfl hd.symm (toB_data _)
theorem rdEnt_back {last l : List UInt8} {x : Ent} {r : List UInt8} (h : rdEnt last l = some (x, r)) :
    l = entB last x ++ r ∧ liveE x ∧ -9223372036854775808 ≤ x.seq ∧ x.seq ≤ 9223372036854775807 := by
  obtain ⟨n, e1, r1, h1⟩ : ∃ n e r, rdNum l = (n, e, r) := ⟨_, _, _, rfl⟩
  obtain ⟨t, e2, r2, h2⟩ : ∃ n e r, rdText r1 = (n, e, r) := ⟨_, _, _, rfl⟩
  obtain ⟨s, e3, r3, h3⟩ : ∃ n e r, rdInt r2 = (n, e, r) := ⟨_, _, _, rfl⟩
  obtain ⟨d, e4, r4, h4⟩ : ∃ n e r, rdNum r3 = (n, e, r) := ⟨_, _, _, rfl⟩
  obtain ⟨v, e5, r5, h5⟩ : ∃ n e r, rdText r4 = (n, e, r) := ⟨_, _, _, rfl⟩
  rw [rdEnt_steps h1 h2 h3 h4 h5] at h
  split at h
  · cases h
  rename_i he
  obtain ⟨rfl, rfl, rfl, rfl⟩ : e1 = 0 ∧ e2 = 0 ∧ e3 = 0 ∧ e4 = 0 := by omega
  split at h
  · cases h
  rename_i hc
  have b1 := (num_back h1).1
  have b2 := text_back h2
  obtain ⟨b3, s0, s1⟩ := int_back h3
  have b4 := (num_back h4).1
  have hlc : lcp last (last.take n ++ t) = n := by omega
  have hdrop : (last.take n ++ t).drop n = t := List.drop_left' (by rw [List.length_take]; omega)
  split at h
  · rename_i hd
    injection h with h
    injection h with hx hr
    subst hx hr hd
    refine ⟨?_, fun _ => toB_data _, s0, s1⟩
    unfold entB
    simp only [Ent.kl, toB_data, hlc, hdrop, if_true]
    rw [b1, b2, b3, b4]; simp
  · split at h
    · cases h
    · rename_i hd he5
      obtain rfl : e5 = 0 := by omega
      obtain rfl : d = 0 := by omega
      have b5 := text_back h5
      injection h with h
      injection h with hx hr
      subst hx hr
      refine ⟨?_, (fun h => by cases h), s0, s1⟩
      unfold entB
      simp only [Ent.kl, Ent.vl, toB_data, hlc, hdrop]
      rw [b1, b2, b3, b4, b5]; simp
/-- So many entries. -/
def rdEnts : Nat → Option Ent → List UInt8 → List UInt8 → Option (List Ent × List UInt8)
  | 0, _, _, l => some ([], l)
  | n + 1, p, last, l => match rdEnt last l with
    | none => none
    | some (x, r) => match p with
      | some q => if lessE q x = true then (rdEnts n (some x) x.kl r).map fun y => (x :: y.1, y.2) else none
      | none => (rdEnts n (some x) x.kl r).map fun y => (x :: y.1, y.2)
def rdBlock (l : List UInt8) : Option (List Ent) :=
  if (rdNum l).2.1 ≠ 0 then none else match rdEnts (rdNum l).1 none [] (rdNum l).2.2 with
    | some (es, []) => some es
    | _ => none
def fineE (x : Ent) : Prop := (-9223372036854775808 ≤ x.seq ∧ x.seq ≤ 9223372036854775807) ∧ x.kl.length < 18446744073709551616 ∧ x.vl.length < 18446744073709551616
theorem rdEnts_entsB (l : List Ent) : ∀ (p : Option Ent) (last r : List UInt8), (∀ x ∈ l, liveE x) → (∀ x ∈ l, fineE x) → risesE p l → rdEnts l.length p last (entsB last l ++ r) = some (l, r) := by
  induction l with
  | nil => intro p last r _ _ _; rfl
  | cons x l ih =>
    intro p last r hl hf hr
    obtain ⟨hr1, hr2⟩ := hr
    obtain ⟨f1, f2, f3⟩ := hf x List.mem_cons_self
    have h1 := rdEnt_entB last x (entsB x.kl l ++ r) f1 f2 f3 (hl x List.mem_cons_self)
    have h2 := ih (some x) x.kl r (fun y hy => hl y (List.mem_cons_of_mem _ hy)) (fun y hy => hf y (List.mem_cons_of_mem _ hy)) hr2
    rw [List.length_cons, rdEnts, entsB, List.append_assoc, h1]
    cases p with
    | none => simp only [h2, Option.map_some]
    | some q => simp only [hr1 q rfl, if_true, h2, Option.map_some]
theorem rdEnts_back : ∀ (n : Nat) (p : Option Ent) (last l : List UInt8) (es : List Ent) (r : List UInt8), rdEnts n p last l = some (es, r) → l = entsB last es ++ r ∧ (∀ x ∈ es, liveE x) ∧ (∀ x ∈ es, -9223372036854775808 ≤ x.seq ∧ x.seq ≤ 9223372036854775807) ∧ risesE p es ∧ es.length = n
  | 0, p, last, l, es, r, h => by
    injection h with h
    injection h with h1 h2
    subst h1 h2
    exact ⟨rfl, by simp, by simp, trivial, rfl⟩
  | n + 1, p, last, l, es, r, h => by
    rw [rdEnts] at h
    split at h
    · cases h
    · rename_i x r1 hx
      obtain ⟨b1, b2, b3⟩ := rdEnt_back hx
      have key : ∀ (hp : ∀ q, p = some q → lessE q x = true), (rdEnts n (some x) x.kl r1).map (fun y => (x :: y.1, y.2)) = some (es, r) → l = entsB last es ++ r ∧ (∀ x ∈ es, liveE x) ∧ (∀ x ∈ es, -9223372036854775808 ≤ x.seq ∧ x.seq ≤ 9223372036854775807) ∧ risesE p es ∧ es.length = n + 1 := by
        intro hp h
        rw [Option.map_eq_some_iff] at h
        obtain ⟨⟨es', r'⟩, h1, h2⟩ := h
        injection h2 with h2 h3
        subst h2 h3
        obtain ⟨c1, c2, c3, c4, c5⟩ := rdEnts_back n _ _ _ _ _ h1
        refine ⟨by rw [b1, entsB, List.append_assoc, ← c1], ?_, ?_, ⟨hp, c4⟩, by rw [List.length_cons, c5]⟩
        · intro y hy
          rcases List.mem_cons.1 hy with rfl | hy
          · exact b2
          · exact c2 y hy
        · intro y hy
          rcases List.mem_cons.1 hy with rfl | hy
          · exact b3
          · exact c3 y hy
      cases p with
      | none => exact key (fun q hq => by cases hq) h
      | some q =>
        simp only at h
        split at h
        · rename_i hq
          exact key (fun q' hq' => by injection hq' with e; rw [← e]; exact hq) h
        · cases h
theorem rdBlock_blockB (l : List Ent) (hr : rightE l) (hf : ∀ x ∈ l, fineE x) (hn : l.length < 18446744073709551616) : rdBlock (blockB l) = some l := by
  have h1 := rdNum_numB l.length (entsB [] l) hn
  have h2 := rdEnts_entsB l none [] [] hr.1 hf hr.2
  rw [List.append_nil] at h2
  unfold rdBlock blockB
  simp only [h1, h2]
  rfl
theorem rdBlock_back {l : List UInt8} {es : List Ent} (h : rdBlock l = some es) : l = blockB es ∧ rightE es ∧ (∀ x ∈ es, -9223372036854775808 ≤ x.seq ∧ x.seq ≤ 9223372036854775807) := by
  obtain ⟨n, e1, r1, h1⟩ : ∃ n e r, rdNum l = (n, e, r) := ⟨_, _, _, rfl⟩
  unfold rdBlock at h
  simp only [h1] at h
  split at h
  · cases h
  · rename_i he
    obtain rfl : e1 = 0 := by omega
    split at h
    · rename_i es' h2
      injection h with h
      subst h
      obtain ⟨c1, c2, c3, c4, c5⟩ := rdEnts_back _ _ _ _ _ _ h2
      refine ⟨?_, ⟨c2, c4⟩, c3⟩
      rw [(num_back h1).1, c1, List.append_nil, blockB, c5]
    · cases h
end Go.Proofs.Ytanieolnaiihmaa
