/- Tables: a table's text, in plain words. -/
import Derived.Test.YtanieolnaiihmaaBkEnc
import Derived.Test.YtanieolnaiihmaaJFrSeal
import Derived.Test.YtanieolnaiihmaaJBlPlain
namespace Go.Proofs.Ytanieolnaiihmaa
open Go.RowKit
theorem entsB_leT {S : Nat} (hS : S ≤ 1099511627776) : ∀ (l : List Ent) (last : List UInt8), (∀ x ∈ l, (-9223372036854775808 ≤ x.seq ∧ x.seq ≤ 9223372036854775807) ∧ x.kl.length ≤ S ∧ x.vl.length ≤ S) → (entsB last l).length ≤ l.length * (50 + 2 * S) := by
  intro l
  induction l with
  | nil => intro last _; simp [entsB]
  | cons x l ih =>
    intro last h
    obtain ⟨⟨h0, h1⟩, h2, h3⟩ := h x List.mem_cons_self
    have a := (entB_len last x h0 h1 (by omega) (by omega)).1
    have b := ih x.kl fun y hy => h y (List.mem_cons_of_mem _ hy)
    rw [entsB, List.length_append, List.length_cons, Nat.add_mul]
    omega
/-- The versions eight by eight. -/
def partE (l : List Ent) (k : Nat) : List Ent := (l.drop (8 * k)).take 8
def partN (l : List Ent) : Nat := (l.length + 7) / 8
def payE (l : List Ent) (k : Nat) : ByteArray := toB (blockB (partE l k))
def paysE (l : List Ent) (k : Nat) : List ByteArray := (List.range k).map (payE l)
/-- Where a block's frame begins. -/
def atE (l : List Ent) : Nat → Nat
  | 0 => 0
  | k + 1 => atE l k + (8 + (blockB (partE l k)).length)
def lastE (l : List Ent) (k : Nat) : ByteArray := ((partE l k).getLast?.map (·.key)).getD ⟨#[]⟩
def idxE (l : List Ent) : Nat → List UInt8
  | 0 => numB (partN l)
  | k + 1 => idxE l k ++ (textB (lastE l k).data.toList ++ numB (atE l k))
/-- The keys, each once. -/
def nameS (out : List ByteArray) (x : Ent) : List ByteArray := if out.getLast? = some x.key then out else out ++ [x.key]
def namesE (l : List Ent) : List ByteArray := l.foldl nameS []
def magicB : List UInt8 := [84, 82, 77, 49]
def footE (l : List Ent) : List UInt8 := magicB ++ (numB (atE l (partN l)) ++ numB l.length)
def allP (l : List Ent) : List ByteArray := paysE l (partN l) ++ [toB (idxE l (partN l)), toB (bld (namesE l)), toB (footE l)]
noncomputable def bldT (l : List Ent) : List UInt8 × Nat := if rightE l then sealR (allP l) else ([], 9)
theorem namesE_snoc (l : List Ent) (x : Ent) : namesE (l ++ [x]) = nameS (namesE l) x := by unfold namesE; rw [List.foldl_append]; rfl
theorem namesE_len (l : List Ent) : (namesE l).length ≤ l.length := by
  have : ∀ (l : List Ent) (o : List ByteArray), (l.foldl nameS o).length ≤ o.length + l.length := by
    intro l
    induction l with
    | nil => intro o; simp
    | cons x t ih =>
      intro o
      rw [List.foldl_cons, List.length_cons]
      have h := ih (nameS o x)
      have h2 : (nameS o x).length ≤ o.length + 1 := by unfold nameS; split <;> simp
      omega
  have h := this l []
  simp only [List.length_nil, Nat.zero_add] at h
  exact h
theorem namesE_mem {l : List Ent} : ∀ k ∈ namesE l, ∃ x ∈ l, x.key = k := by
  have : ∀ (l : List Ent) (o : List ByteArray), ∀ k ∈ l.foldl nameS o, k ∈ o ∨ ∃ x ∈ l, x.key = k := by
    intro l
    induction l with
    | nil => intro o k hk; exact .inl hk
    | cons x t ih =>
      intro o k hk
      rw [List.foldl_cons] at hk
      rcases ih _ k hk with h | ⟨y, hy, e⟩
      · unfold nameS at h
        split at h
        · exact .inl h
        · rcases List.mem_append.1 h with h | h
          · exact .inl h
          · simp at h
            exact .inr ⟨x, by simp, h.symm⟩
      · exact .inr ⟨y, by simp [hy], e⟩
  intro k hk
  rcases this l [] k hk with h | h
  · simp at h
  · exact h
theorem mem_names {l : List Ent} {x : Ent} (hx : x ∈ l) : x.key ∈ namesE l := by
  have : ∀ (l : List Ent) (o : List ByteArray), (∀ k ∈ o, k ∈ l.foldl nameS o) ∧ ∀ x ∈ l, x.key ∈ l.foldl nameS o := by
    intro l
    induction l with
    | nil => intro o; exact ⟨fun _ h => h, fun _ h => by simp at h⟩
    | cons y t ih =>
      intro o
      rw [List.foldl_cons]
      obtain ⟨h1, h2⟩ := ih (nameS o y)
      have hsub : ∀ k ∈ o, k ∈ nameS o y := fun k hk => by unfold nameS; split <;> simp [hk]
      have hy : y.key ∈ nameS o y := by
        unfold nameS
        split
        · rename_i h; exact List.mem_of_getLast? h
        · simp
      refine ⟨fun k hk => h1 k (hsub k hk), fun z hz => ?_⟩
      rcases List.mem_cons.1 hz with rfl | hz
      · exact h1 _ hy
      · exact h2 z hz
  exact (this l []).2 x hx
theorem partE_len (l : List Ent) (k : Nat) : (partE l k).length = min 8 (l.length - 8 * k) := by unfold partE; rw [List.length_take, List.length_drop]
theorem partE_pos {l : List Ent} {k : Nat} (h : k < partN l) : 0 < (partE l k).length := by
  rw [partE_len]; unfold partN at h; omega
theorem take_part (l : List Ent) (k : Nat) : l.take (8 * k) ++ partE l k = l.take (8 * (k + 1)) := by
  unfold partE
  rw [show 8 * (k + 1) = 8 * k + 8 by omega, List.take_add]
theorem partE_mem {l : List Ent} {k : Nat} {x : Ent} (h : x ∈ partE l k) : x ∈ l := List.mem_of_mem_drop (List.mem_of_mem_take h)
theorem take_all (l : List Ent) : l.take (8 * partN l) = l := List.take_of_length_le (by unfold partN; omega)
theorem paysE_succ (l : List Ent) (k : Nat) : paysE l (k + 1) = paysE l k ++ [payE l k] := by unfold paysE; rw [List.range_succ, List.map_append]; rfl
theorem paysE_len (l : List Ent) (k : Nat) : (paysE l k).length = k := by simp [paysE]
/-- What versions that are built of may hold. -/
def okE (S : Nat) (l : List Ent) : Prop := (∀ x ∈ l, (-9223372036854775808 ≤ x.seq ∧ x.seq ≤ 9223372036854775807) ∧ x.key.size ≤ S ∧ x.val.size ≤ S) ∧ l.length * (50 + 2 * S) ≤ 50000000000000
theorem block_le {S : Nat} (hS : S ≤ 1048576) {p : List Ent} (h : ∀ x ∈ p, (-9223372036854775808 ≤ x.seq ∧ x.seq ≤ 9223372036854775807) ∧ x.key.size ≤ S ∧ x.val.size ≤ S) (hp : p.length < 18446744073709551616) : (blockB p).length ≤ 10 + p.length * (50 + 2 * S) := by
  unfold blockB
  rw [List.length_append]
  have h1 := numB_len10 p.length hp
  have h2 := entsB_leT (S := S) (by omega) p [] h
  omega
theorem atE_le {S : Nat} (hS : S ≤ 1048576) {l : List Ent} (h : okE S l) : ∀ k, atE l k ≤ 18 * k + (l.take (8 * k)).length * (50 + 2 * S) := by
  intro k
  induction k with
  | zero => simp [atE]
  | succ k ih =>
    have hb := block_le hS (p := partE l k) (fun x hx => h.1 x (partE_mem hx)) (by rw [partE_len]; omega)
    have hl : (l.take (8 * (k + 1))).length = (l.take (8 * k)).length + (partE l k).length := by rw [← take_part, List.length_append]
    rw [hl, Nat.add_mul]
    simp only [atE]
    omega
theorem atE_max {S : Nat} (hS : S ≤ 1048576) {l : List Ent} (h : okE S l) {k : Nat} (hk : k ≤ partN l) : atE l k ≤ 105000000000000 := by
  have h1 := atE_le hS h k
  have h2 : (l.take (8 * k)).length * (50 + 2 * S) ≤ l.length * (50 + 2 * S) := Nat.mul_le_mul_right _ (by rw [List.length_take]; omega)
  have h3 := h.2
  have h4 : l.length * 50 ≤ l.length * (50 + 2 * S) := Nat.mul_le_mul_left _ (by omega)
  unfold partN at hk
  omega
theorem okE_len {S : Nat} {l : List Ent} (h : okE S l) : l.length ≤ 1000000000000 := by
  have h4 : l.length * 50 ≤ l.length * (50 + 2 * S) := Nat.mul_le_mul_left _ (by omega)
  have := h.2
  omega
theorem textB_le (s : List UInt8) (h : s.length < 18446744073709551616) : (textB s).length ≤ s.length + 10 := by
  unfold textB
  rw [List.length_append]
  have := numB_len10 s.length h
  omega
theorem lastE_le {S : Nat} {l : List Ent} (h : okE S l) (k : Nat) : (lastE l k).size ≤ S := by
  unfold lastE
  cases hx : (partE l k).getLast? with
  | none => exact Nat.zero_le _
  | some x => simpa using (h.1 x (partE_mem (List.mem_of_getLast? hx))).2.1
theorem idxE_le {S : Nat} (hS : S ≤ 1048576) {l : List Ent} (h : okE S l) : ∀ k, k ≤ partN l → (idxE l k).length ≤ 10 + k * (S + 20) := by
  intro k
  induction k with
  | zero =>
    intro _
    have := okE_len h
    have := numB_len10 (partN l) (by unfold partN; omega)
    simpa [idxE] using this
  | succ k ih =>
    intro hk
    have h1 := ih (by omega)
    have h2 := textB_le (lastE l k).data.toList (by have := lastE_le h k; show (lastE l k).size < _; omega)
    have h3 := lastE_le h k
    have h4 : (lastE l k).data.toList.length = (lastE l k).size := rfl
    have h5 := numB_len10 (atE l k) (by have := atE_max hS h (k := k) (by omega); omega)
    simp only [idxE, List.length_append]
    rw [Nat.add_mul]
    omega
theorem idxE_max {S : Nat} (hS : S ≤ 1048576) {l : List Ent} (h : okE S l) {k : Nat} (hk : k ≤ partN l) : (idxE l k).length ≤ 20000000000000 := by
  have h1 := idxE_le hS h k hk
  have h2 : k * (S + 20) ≤ partN l * (S + 20) := Nat.mul_le_mul_right _ hk
  have h3 : 8 * (partN l * (S + 20)) ≤ (l.length + 7) * (S + 20) := by
    rw [← Nat.mul_assoc]
    exact Nat.mul_le_mul_right _ (by unfold partN; omega)
  have h4 : l.length * (S + 20) ≤ l.length * (50 + 2 * S) := Nat.mul_le_mul_left _ (by omega)
  have h5 := h.2
  rw [Nat.add_mul] at h3
  omega
theorem sealT_append (a b : List ByteArray) : sealB (a ++ b) = sealB a ++ sealB b := by simp [sealB]
theorem pays_len (l : List Ent) (k : Nat) : (sealB (paysE l k)).length = atE l k := by
  induction k with
  | zero => rfl
  | succ k ih =>
    rw [paysE_succ, sealT_append, List.length_append, ih]
    simp [sealB, frameB_len, payE, toB_data, atE]
theorem toB_size (l : List UInt8) : (toB l).size = l.length := by show (toB l).data.toList.length = _; rw [toB_data]
theorem bldN_le (l : List Ent) : (bld (namesE l)).length ≤ 10 * l.length + 7 := by
  rw [bld_length]
  have := namesE_len l
  split
  · omega
  · unfold blen; omega
theorem footE_le {S : Nat} (hS : S ≤ 1048576) {l : List Ent} (h : okE S l) : (footE l).length ≤ 24 := by
  have h1 := numB_len10 (atE l (partN l)) (by have := atE_max hS h (Nat.le_refl _); omega)
  have h2 := numB_len10 l.length (by have := okE_len h; omega)
  unfold footE magicB
  simp only [List.length_append, List.length_cons, List.length_nil]
  omega
theorem allP_seal {S : Nat} (hS : S ≤ 1048576) {l : List Ent} (h : okE S l) : (sealB (allP l)).length ≤ 140737488355328 := by
  have h1 := atE_max hS h (Nat.le_refl (partN l))
  have h2 := idxE_max hS h (Nat.le_refl (partN l))
  have h3 := bldN_le l
  have h4 := footE_le hS h
  have h5 := okE_len h
  unfold allP
  rw [sealT_append, List.length_append, pays_len]
  simp only [sealB, List.flatMap_cons, List.flatMap_nil, List.append_nil, List.length_append, frameB_len, toB_data]
  omega
theorem allP_len (l : List Ent) : (allP l).length = partN l + 3 := by unfold allP; simp [paysE_len]
theorem allP_size {S : Nat} (hS : S ≤ 1048576) {l : List Ent} (h : okE S l) : ∀ s ∈ allP l, s.size ≤ 140737488351232 := by
  have h2 := idxE_max hS h (Nat.le_refl (partN l))
  have h3 := bldN_le l
  have h4 := footE_le hS h
  have h5 := okE_len h
  intro s hs
  unfold allP at hs
  rcases List.mem_append.1 hs with hs | hs
  · obtain ⟨i, hi, rfl⟩ := List.mem_map.1 hs
    unfold payE
    rw [toB_size]
    have hb := block_le hS (p := partE l i) (fun x hx => h.1 x (partE_mem hx)) (by rw [partE_len]; omega)
    have : (partE l i).length * (50 + 2 * S) ≤ 8 * (50 + 2 * 1048576) := Nat.mul_le_mul (by rw [partE_len]; omega) (by omega)
    omega
  · simp only [List.mem_cons, List.not_mem_nil, or_false] at hs
    rcases hs with rfl | rfl | rfl <;> rw [toB_size] <;> omega
/-- A part of versions that are right is right. -/
theorem risesE_drop : ∀ (l : List Ent) (p : Option Ent) (k : Nat), risesE p l → risesE none (l.drop k) := by
  intro l
  induction l with
  | nil => intro p k _; simp [risesE]
  | cons x t ih =>
    intro p k h
    cases k with
    | zero => exact ⟨fun q hq => by simp at hq, h.2⟩
    | succ k => exact ih (some x) k h.2
theorem risesE_take : ∀ (l : List Ent) (p : Option Ent) (k : Nat), risesE p l → risesE p (l.take k) := by
  intro l
  induction l with
  | nil => intro p k h; simpa using h
  | cons x t ih =>
    intro p k h
    cases k with
    | zero => simp [risesE]
    | succ k => exact ⟨h.1, ih (some x) k h.2⟩
theorem part_right {l : List Ent} (h : rightE l) (k : Nat) : rightE (partE l k) :=
  ⟨fun x hx => h.1 x (partE_mem hx), risesE_take _ _ _ (risesE_drop _ _ _ h.2)⟩
end Go.Proofs.Ytanieolnaiihmaa
