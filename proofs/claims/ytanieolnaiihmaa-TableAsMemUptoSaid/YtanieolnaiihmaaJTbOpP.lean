/- Tables: what a text opens to, in plain words. -/
import Derived.Test.YtanieolnaiihmaaJTbP
import Derived.Test.YtanieolnaiihmaaJFrBackP
import Derived.Test.YtanieolnaiihmaaBkWholeP
namespace Go.Proofs.Ytanieolnaiihmaa
open Go.RowKit
/-- The versions of blocks, one behind the other. -/
def decAll : List ByteArray → Option (List Ent)
  | [] => some []
  | p :: ps => (rdBlock p.data.toList).bind fun es => (decAll ps).map (es ++ ·)
def framesT (s : List UInt8) : List ByteArray := strsOf (scanR s).1
noncomputable def openT (s : List UInt8) : Option (List Ent) :=
  if (scanR s).2 ≠ s.length ∨ (framesT s).length < 3 then none
  else (decAll ((framesT s).take ((framesT s).length - 3))).bind fun l => if (bldT l).2 = 0 ∧ (bldT l).1 = s then some l else none
theorem decAll_snoc (ps : List ByteArray) (p : ByteArray) : decAll (ps ++ [p]) = (decAll ps).bind fun l => (rdBlock p.data.toList).map (l ++ ·) := by
  induction ps with
  | nil =>
    simp only [List.nil_append, decAll]
    cases rdBlock p.data.toList <;> simp
  | cons q ps ih =>
    rw [List.cons_append, decAll, decAll, ih]
    cases rdBlock q.data.toList with
    | none => rfl
    | some es =>
      cases decAll ps with
      | none => rfl
      | some l =>
        cases rdBlock p.data.toList with
        | none => rfl
        | some m => simp
theorem decAll_none {ps qs : List ByteArray} (h : decAll ps = none) : decAll (ps ++ qs) = none := by
  induction ps with
  | nil => cases h
  | cons p ps ih =>
    rw [List.cons_append, decAll]
    rw [decAll] at h
    cases hp : rdBlock p.data.toList with
    | none => rfl
    | some es =>
      rw [hp] at h
      simp only [Option.bind_some, Option.map_eq_none_iff] at h ⊢
      exact ih h
theorem first_small {l : List UInt8} {k : Nat} : (firstR l (k : Int)).1.length ≤ 65536 := by
  unfold firstR
  split
  · simp
  · unfold firstAt
    split
    · simp
    · split
      · simp only [List.length_take]; omega
      · simp
theorem scan_sz (l : List UInt8) : ∀ (f k : Nat), k ≤ l.length → (∀ p ∈ (scanFrom l f k).1, p.length ≤ 65536) ∧ k + ((scanFrom l f k).1.map List.length).sum + 8 * (scanFrom l f k).1.length = (scanFrom l f k).2 ∧ (scanFrom l f k).2 ≤ l.length := by
  intro f
  induction f with
  | zero => intro k hk; simp [scanFrom, hk]
  | succ f ih =>
    intro k hk
    unfold scanFrom
    split
    · rename_i h
      obtain ⟨e, h1, h2, h3, h4⟩ := first_end h
      obtain ⟨i1, i2, i3⟩ := ih e h3
      rw [h1]
      simp only [Int.toNat_natCast]
      refine ⟨fun p hp => ?_, ?_, i3⟩
      · rcases List.mem_cons.1 hp with rfl | hp
        · exact first_small
        · exact i1 p hp
      · simp only [List.map_cons, List.sum_cons, List.length_cons]
        omega
    · simp [hk]
theorem frames_sz (s : List UInt8) : (∀ p ∈ framesT s, p.size ≤ 65536) ∧ ((framesT s).map ByteArray.size).sum + 8 * (framesT s).length ≤ s.length := by
  obtain ⟨h1, h2, h3⟩ := scan_sz s (s.length + 1) 0 (Nat.zero_le _)
  have e : (framesT s).map ByteArray.size = (scanR s).1.map List.length := by
    unfold framesT strsOf
    rw [List.map_map]
    refine List.map_congr_left fun p _ => ?_
    show p.toArray.size = p.length
    simp
  refine ⟨fun p hp => ?_, ?_⟩
  · obtain ⟨q, hq, rfl⟩ := List.mem_map.1 hp
    show q.toArray.size ≤ _
    simpa using h1 q hq
  · rw [e]
    unfold framesT strsOf
    rw [List.length_map]
    unfold scanR
    omega
theorem sum_take (ps : List ByteArray) (k : Nat) : ((ps.take k).map ByteArray.size).sum ≤ (ps.map ByteArray.size).sum := by
  induction ps generalizing k with
  | nil => simp
  | cons p ps ih =>
    cases k with
    | zero => simp
    | succ k =>
      have := ih k
      simp only [List.take_succ_cons, List.map_cons, List.sum_cons]
      omega
/-- What blocks hold. -/
theorem decAll_room : ∀ (ps : List ByteArray) (l : List Ent), (∀ p ∈ ps, p.size ≤ 65536) → decAll ps = some l → l.length ≤ (ps.map ByteArray.size).sum ∧ ∀ x ∈ l, (-9223372036854775808 ≤ x.seq ∧ x.seq ≤ 9223372036854775807) ∧ x.key.size ≤ 65536 ∧ x.val.size ≤ 65536 := by
  intro ps
  induction ps with
  | nil => intro l _ h; simp [decAll] at h; subst h; simp
  | cons p ps ih =>
    intro l hp h
    rw [decAll] at h
    cases hb : rdBlock p.data.toList with
    | none => rw [hb] at h; cases h
    | some es =>
      rw [hb] at h
      simp only [Option.bind_some, Option.map_eq_some_iff] at h
      obtain ⟨m, hm, rfl⟩ := h
      obtain ⟨i1, i2⟩ := ih m (fun q hq => hp q (List.mem_cons_of_mem _ hq)) hm
      obtain ⟨b1, b2, b3⟩ := rdBlock_back hb
      obtain ⟨s1, s2⟩ := ents_size es [] b2.1
      have hps := hp p List.mem_cons_self
      have hl : p.data.toList.length = p.size := rfl
      have hle : (entsB [] es).length ≤ p.size := by
        rw [← hl, b1]
        unfold blockB
        rw [List.length_append]; omega
      refine ⟨by simp only [List.length_append, List.map_cons, List.sum_cons]; omega, fun x hx => ?_⟩
      rcases List.mem_append.1 hx with hx | hx
      · obtain ⟨k1, k2⟩ := s2 x hx
        simp only [List.length_nil, Nat.zero_add] at k1
        refine ⟨b3 x hx, ?_, ?_⟩
        · show x.kl.length ≤ _; omega
        · show x.vl.length ≤ _; omega
      · exact i2 x hx
theorem open_okE {s : List UInt8} {k : Nat} {l : List Ent} (hs : s.length ≤ 268435456) (h : decAll ((framesT s).take k) = some l) : okE 65536 l ∧ l.length ≤ s.length := by
  obtain ⟨f1, f2⟩ := frames_sz s
  obtain ⟨r1, r2⟩ := decAll_room _ _ (fun p hp => f1 p (List.mem_of_mem_take hp)) h
  have := sum_take (framesT s) k
  have hl : l.length ≤ s.length := by omega
  refine ⟨⟨r2, ?_⟩, hl⟩
  calc l.length * (50 + 2 * 65536) ≤ 268435456 * (50 + 2 * 65536) := Nat.mul_le_mul_right _ (by omega)
    _ ≤ 50000000000000 := by decide
theorem bldT_ok {l : List Ent} (h : (bldT l).2 = 0) : rightE l ∧ fits (allP l) ∧ (bldT l).1 = sealB (allP l) := by
  unfold bldT at h ⊢
  split at h
  · rename_i hr
    rw [if_pos hr]
    unfold sealR at h ⊢
    split at h
    · rename_i hf
      rw [if_pos hf]
      exact ⟨hr, hf, rfl⟩
    · cases h
  · cases h
theorem frames_bld {l : List Ent} (h : (bldT l).2 = 0) : framesT (bldT l).1 = allP l ∧ (scanR (bldT l).1).2 = (bldT l).1.length := by
  obtain ⟨_, h2, h3⟩ := bldT_ok h
  rw [h3]
  unfold framesT
  rw [scan_seal _ h2]
  exact ⟨strsOf_map _, rfl⟩
theorem open_some {s : List UInt8} {l : List Ent} (h : openT s = some l) : (bldT l).2 = 0 ∧ (bldT l).1 = s ∧ framesT s = allP l ∧ (scanR s).2 = s.length := by
  unfold openT at h
  split at h
  · cases h
  · cases hd : decAll ((framesT s).take ((framesT s).length - 3)) with
    | none => rw [hd] at h; cases h
    | some m =>
      rw [hd] at h
      simp only [Option.bind_some] at h
      split at h
      · rename_i hc
        injection h with h
        subst h
        obtain ⟨f1, f2⟩ := frames_bld hc.1
        rw [hc.2] at f1 f2
        exact ⟨hc.1, hc.2, f1, f2⟩
      · cases h
/-- The blocks that a text is built of read back. -/
theorem decAll_pays {S : Nat} (hS : S ≤ 1048576) {l : List Ent} (hr : rightE l) (hok : okE S l) : ∀ k, decAll (paysE l k) = some (l.take (8 * k)) := by
  intro k
  induction k with
  | zero => simp [paysE, decAll]
  | succ k ih =>
    rw [paysE_succ, decAll_snoc, ih]
    have hb : rdBlock (blockB (partE l k)) = some (partE l k) := rdBlock_blockB _ (part_right hr k) (fun x hx => by
      obtain ⟨h1, h2, h3⟩ := hok.1 x (partE_mem hx)
      exact ⟨h1, by show x.key.size < _; omega, by show x.val.size < _; omega⟩) (by rw [partE_len]; omega)
    simp only [payE, toB_data, hb, Option.bind_some, Option.map_some, take_part]
theorem open_bld {S : Nat} (hS : S ≤ 1048576) {l : List Ent} (hok : okE S l) (h : (bldT l).2 = 0) : openT (bldT l).1 = some l := by
  obtain ⟨f1, f2⟩ := frames_bld h
  obtain ⟨hr, _, _⟩ := bldT_ok h
  have hl : (allP l).length = partN l + 3 := allP_len l
  unfold openT
  rw [f1, f2, if_neg (by rw [hl]; omega), hl, show partN l + 3 - 3 = partN l by omega]
  have ht : (allP l).take (partN l) = paysE l (partN l) := by
    unfold allP
    rw [List.take_append_of_le_length (by rw [paysE_len]; exact Nat.le_refl _), List.take_of_length_le (by rw [paysE_len]; exact Nat.le_refl _)]
  rw [ht, decAll_pays hS hr hok, take_all]
  simp [h]
end Go.Proofs.Ytanieolnaiihmaa
