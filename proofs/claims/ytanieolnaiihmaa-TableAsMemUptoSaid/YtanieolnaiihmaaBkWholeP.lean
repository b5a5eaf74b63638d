/- Blocks: no beginning of a block is a block, and none with bytes behind it. Plain. -/
import Derived.Test.YtanieolnaiihmaaBkDec
namespace Go.Proofs.Ytanieolnaiihmaa

theorem entB_size (last : List UInt8) (x : Ent) (hl : liveE x) : 0 < (entB last x).length ∧ x.kl.length ≤ last.length + (entB last x).length ∧ x.vl.length ≤ (entB last x).length := by
  have hp := numB_pos (lcp last x.kl)
  have hc := lcp_le last x.kl
  refine ⟨by unfold entB; simp only [List.length_append]; omega, by unfold entB; simp only [List.length_append, textB, List.length_drop]; omega, ?_⟩
  cases hd : x.dead with
  | true => rw [hl hd]; simp
  | false =>
    unfold entB
    rw [if_neg (by rw [hd]; decide)]
    simp only [List.length_append, textB]; omega
theorem ents_size (es : List Ent) : ∀ (last : List UInt8), (∀ x ∈ es, liveE x) → es.length ≤ (entsB last es).length ∧ ∀ x ∈ es, x.kl.length ≤ last.length + (entsB last es).length ∧ x.vl.length ≤ (entsB last es).length := by
  induction es with
  | nil => intro last _; simp
  | cons y es ih =>
    intro last hl
    obtain ⟨s1, s2, s3⟩ := entB_size last y (hl y List.mem_cons_self)
    obtain ⟨i1, i2⟩ := ih y.kl fun x hx => hl x (List.mem_cons_of_mem _ hx)
    rw [entsB, List.length_append]
    refine ⟨by rw [List.length_cons]; omega, fun x hx => ?_⟩
    rcases List.mem_cons.1 hx with rfl | hx
    · exact ⟨by omega, by omega⟩
    · have := i2 x hx
      exact ⟨by omega, by omega⟩
theorem block_fine {es : List Ent} (hr : rightE es) (hs : ∀ x ∈ es, -9223372036854775808 ≤ x.seq ∧ x.seq ≤ 9223372036854775807) (hl : (blockB es).length < 18446744073709551616) : (∀ x ∈ es, fineE x) ∧ es.length < 18446744073709551616 := by
  obtain ⟨h1, h2⟩ := ents_size es [] hr.1
  have h3 : (entsB [] es).length ≤ (blockB es).length := by unfold blockB; rw [List.length_append]; omega
  refine ⟨fun x hx => ?_, by omega⟩
  have := h2 x hx
  exact ⟨hs x hx, by simp only [List.length_nil] at this; omega, by omega⟩
/-- A block with bytes behind it is a block only if there are none. -/
theorem block_tail {l es : List Ent} {rest : List UInt8} (hr : rightE l) (hf : ∀ x ∈ l, fineE x) (hn : l.length < 18446744073709551616) (hr' : rightE es) (hf' : ∀ x ∈ es, fineE x) (hn' : es.length < 18446744073709551616)
    (h : blockB l = blockB es ++ rest) : rest = [] := by
  have a1 := rdNum_numB l.length (entsB [] l) hn
  have a2 := rdNum_numB es.length (entsB [] es ++ rest) hn'
  have e : numB l.length ++ entsB [] l = numB es.length ++ (entsB [] es ++ rest) := by
    unfold blockB at h
    rw [h, List.append_assoc]
  rw [e, a2] at a1
  have h1 : es.length = l.length := congrArg Prod.fst a1
  have h2 : entsB [] es ++ rest = entsB [] l := congrArg (fun p => p.2.2) a1
  have b1 := rdEnts_entsB l none [] [] hr.1 hf hr.2
  have b2 := rdEnts_entsB es none [] rest hr'.1 hf' hr'.2
  rw [List.append_nil, ← h2, ← h1, b2] at b1
  have := congrArg (fun o => o.map Prod.snd) b1
  simpa using this
theorem block_cut {l : List Ent} (hr : rightE l) (hf : ∀ x ∈ l, fineE x) (hn : l.length < 18446744073709551616) (hz : (blockB l).length < 18446744073709551616) (k : Nat) (hk : k < (blockB l).length) : rdBlock ((blockB l).take k) = none := by
  cases h : rdBlock ((blockB l).take k) with
  | none => rfl
  | some es =>
    obtain ⟨h1, h2, h3⟩ := rdBlock_back h
    have hlen : (blockB es).length = k := by rw [← h1, List.length_take]; omega
    obtain ⟨f1, f2⟩ := block_fine h2 h3 (by omega)
    have := block_tail (rest := (blockB l).drop k) hr hf hn h2 f1 f2 (by rw [← h1, List.take_append_drop])
    have hd := congrArg List.length this
    rw [List.length_drop, List.length_nil] at hd
    omega
theorem block_more {l : List Ent} (hr : rightE l) (hf : ∀ x ∈ l, fineE x) (hn : l.length < 18446744073709551616) (hz : (blockB l).length + 1 < 18446744073709551616) (c : UInt8) : rdBlock (blockB l ++ [c]) = none := by
  cases h : rdBlock (blockB l ++ [c]) with
  | none => rfl
  | some es =>
    obtain ⟨h1, h2, h3⟩ := rdBlock_back h
    obtain ⟨f1, f2⟩ := block_fine h2 h3 (by rw [← h1, List.length_append]; simp; omega)
    have := block_tail (rest := []) h2 f1 f2 hr hf hn
    have a1 := rdNum_numB l.length (entsB [] l ++ [c]) hn
    have b := rdEnts_entsB l none [] [c] hr.1 hf hr.2
    have e : blockB l ++ [c] = numB l.length ++ (entsB [] l ++ [c]) := by unfold blockB; rw [List.append_assoc]
    rw [e] at h
    unfold rdBlock at h
    simp only [a1, b] at h
    simp at h
end Go.Proofs.Ytanieolnaiihmaa
