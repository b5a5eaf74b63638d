/- Blocks: the reference's Decode, in plain words. -/
import Derived.Test.YtabeecbcijnhjaaBkDec
namespace Go.Proofs.Ytabeecbcijnhjaa
open Go.RowKit
theorem rdEnts_cons {m : Nat} {p : Option Ent} {last l : List UInt8} {es : List Ent} {r : List UInt8} (h : rdEnts (m + 1) p last l = some (es, r)) : ∃ x es' r1, es = x :: es' ∧ rdEnt last l = some (x, r1) ∧ rdEnts m (some x) x.kl r1 = some (es', r) := by
  rw [rdEnts] at h
  split at h
  · cases h
  · rename_i x r1 hx
    have key : (rdEnts m (some x) x.kl r1).map (fun y => (x :: y.1, y.2)) = some (es, r) → ∃ x' es' r1', es = x' :: es' ∧ some (x, r1) = some (x', r1') ∧ rdEnts m (some x') x'.kl r1' = some (es', r) := by
      intro h
      rw [Option.map_eq_some_iff] at h
      obtain ⟨⟨es', r'⟩, h1, h2⟩ := h
      injection h2 with h2 h3
      subst h2 h3
      exact ⟨x, es', r1, rfl, rfl, h1⟩
    rw [hx]
    cases p with
    | none => exact key h
    | some q =>
      simp only at h
      split at h
      · exact key h
      · cases h
/-- The reading, as it stands. -/
structure DSt (S : List UInt8) (n k e : Nat) (out : List Ent) (last l : List UInt8) : Prop where
  len : out.length = k
  kS : k ≤ S.length
  rm : e = 0 → l.length + k ≤ S.length
  lk : last.length + l.length ≤ S.length
  ok : ∀ x ∈ out, (-9223372036854775808 ≤ x.seq ∧ x.seq ≤ 9223372036854775807) ∧ x.kl.length ≤ S.length ∧ x.vl.length ≤ S.length
  st : ∀ es, rdBlock S = some es → e = 0 ∧ k ≤ n ∧ n = es.length ∧ out = es.take k ∧ ∃ p, rdEnts (n - k) p last l = some (es.drop k, [])
theorem DSt.start {S r1 : List UInt8} {n e1 : Nat} (h : rdNum S = (n, e1, r1)) : DSt S n 0 e1 [] [] r1 := by
  have hl := rdNum_len S
  rw [h] at hl
  simp only at hl
  refine ⟨rfl, Nat.zero_le _, fun _ => by omega, by simp; exact hl, by simp, fun es hes => ?_⟩
  have he : e1 = 0 := by
    unfold rdBlock at hes
    simp only [h] at hes
    split at hes
    · cases hes
    · omega
  unfold rdBlock at hes
  simp only [h, he] at hes
  rw [if_neg (by omega)] at hes
  split at hes
  · rename_i es' h2
    injection hes with hes
    subst hes
    have := (rdEnts_back _ _ _ _ _ _ h2).2.2.2.2
    exact ⟨he, Nat.zero_le _, this.symm, by simp, none, by simpa using h2⟩
  · cases hes
/-- What the next version's reading says. -/
theorem DSt.next {S : List UInt8} {n k : Nat} {out : List Ent} {last l : List UInt8} (h : DSt S n k 0 out last l) (hk : k < n) {es : List Ent} (hes : rdBlock S = some es) :
    ∃ (hkl : k < es.length) (r1 : List UInt8), rdEnt last l = some (es[k], r1) ∧ ∃ p, rdEnts (n - (k + 1)) p es[k].kl r1 = some (es.drop (k + 1), []) := by
  obtain ⟨_, _, h3, _, p, h5⟩ := h.st es hes
  have hkl : k < es.length := by omega
  rw [show n - k = (n - (k + 1)) + 1 by omega] at h5
  obtain ⟨x, es', r1, e1, e2, e3⟩ := rdEnts_cons h5
  rw [List.drop_eq_getElem_cons hkl] at e1
  injection e1 with e1 e4
  subst e1
  subst e4
  exact ⟨hkl, r1, e2, _, e3⟩
section
variable {S : List UInt8} {n k : Nat} {out : List Ent} {last l : List UInt8} {m e1 : Nat} {r1 t r2 : List UInt8} {e2 : Nat} {sq : Int} {e3 : Nat} {r3 : List UInt8} {d e4 : Nat} {r4 v r5 : List UInt8} {e5 : Nat}
theorem DSt.bad (h : DSt S n k 0 out last l) (hk : k < n) (h1 : rdNum l = (m, e1, r1)) (h2 : rdText r1 = (t, e2, r2)) (h3 : rdInt r2 = (sq, e3, r3)) (h4 : rdNum r3 = (d, e4, r4))
    (hb : e1 ≠ 0 ∨ e2 ≠ 0 ∨ e3 ≠ 0 ∨ e4 ≠ 0 ∨ last.length < m ∨ 1 < d) : rdBlock S = none := by
  cases hes : rdBlock S with
  | none => rfl
  | some es =>
    obtain ⟨hkl, q, hx, _⟩ := h.next hk hes
    rw [rdEnt_steps h1 h2 h3 h4 (v := (rdText r4).1) (e5 := (rdText r4).2.1) (r5 := (rdText r4).2.2) rfl] at hx
    split at hx
    · cases hx
    · rename_i c1
      split at hx
      · cases hx
      · rename_i c2
        omega
/-- The lengths behind the four readings. -/
theorem DSt.lens (h1 : rdNum l = (m, 0, r1)) (h2 : rdText r1 = (t, 0, r2)) (h3 : rdInt r2 = (sq, 0, r3)) (h4 : rdNum r3 = (d, 0, r4)) : t.length + r4.length + 1 ≤ l.length := by
  have a1 := (num_back h1).1
  have a2 := text_back h2
  have a3 := (int_back h3).1
  have a4 := (num_back h4).1
  have p := numB_pos m
  have e1 := congrArg List.length a1
  have e2 := congrArg List.length a2
  have e3 := congrArg List.length a3
  have e4 := congrArg List.length a4
  have q : (textB t).length = (numB t.length).length + t.length := by simp [textB]
  simp only [List.length_append] at e1 e2 e3 e4
  omega
theorem DSt.dead (h : DSt S n k 0 out last l) (hk : k < n) (h1 : rdNum l = (m, 0, r1)) (h2 : rdText r1 = (t, 0, r2)) (h3 : rdInt r2 = (sq, 0, r3)) (h4 : rdNum r3 = (1, 0, r4)) {K : ByteArray} (hK : K.data.toList = last.take m ++ t) :
    DSt S n (k + 1) 0 (out ++ [⟨K, sq, true, ⟨#[]⟩⟩]) (last.take m ++ t) r4 := by
  have hl := DSt.lens h1 h2 h3 h4
  have hrm := h.rm rfl
  have hlk := h.lk
  have hi := (int_back h3).2
  have hkl : (last.take m ++ t).length ≤ last.length + t.length := by rw [List.length_append, List.length_take]; omega
  refine ⟨by simp [h.len], by omega, fun _ => by omega, by omega, fun x hx => ?_, fun es hes => ?_⟩
  · rcases List.mem_append.1 hx with hx | hx
    · exact h.ok x hx
    · obtain rfl := List.mem_singleton.1 hx
      exact ⟨hi, by show K.data.toList.length ≤ _; rw [hK]; omega, Nat.zero_le _⟩
  · obtain ⟨_, _, s3, s4, _⟩ := h.st es hes
    obtain ⟨hke, q, hx, p, hp⟩ := h.next hk hes
    rw [rdEnt_steps h1 h2 h3 h4 (v := (rdText r4).1) (e5 := (rdText r4).2.1) (r5 := (rdText r4).2.2) rfl] at hx
    split at hx
    · cases hx
    split at hx
    · cases hx
    rw [if_pos rfl] at hx
    injection hx with hx
    injection hx with hx1 hx2
    subst hx2
    have hxe : es[k] = ⟨K, sq, true, ⟨#[]⟩⟩ := by
      rw [← hx1]
      exact ent_ext (by simp only [Ent.kl, toB_data, hK]) rfl rfl rfl
    refine ⟨rfl, by omega, s3, by rw [s4, List.take_succ_eq_append_getElem hke, hxe], p, ?_⟩
    rw [hxe] at hp
    simp only [Ent.kl, hK] at hp
    exact hp
theorem DSt.live (h : DSt S n k 0 out last l) (hk : k < n) (h1 : rdNum l = (m, 0, r1)) (h2 : rdText r1 = (t, 0, r2)) (h3 : rdInt r2 = (sq, 0, r3)) (h4 : rdNum r3 = (0, 0, r4)) (h5 : rdText r4 = (v, e5, r5)) {K V : ByteArray} (hK : K.data.toList = last.take m ++ t) (hV : V.data.toList = v) :
    DSt S n (k + 1) e5 (out ++ [⟨K, sq, false, V⟩]) (last.take m ++ t) r5 := by
  have hl := DSt.lens h1 h2 h3 h4
  have hrm := h.rm rfl
  have hlk := h.lk
  have hi := (int_back h3).2
  have hkl : (last.take m ++ t).length ≤ last.length + t.length := by rw [List.length_append, List.length_take]; omega
  have hr5 := rdText_len r4
  rw [h5] at hr5
  simp only at hr5
  have hv : v.length ≤ r4.length := by
    unfold rdText at h5
    have := rdNum_len r4
    split at h5
    · injection h5 with a b; rw [← a]; simp
    · injection h5 with a b
      rw [← a, List.length_take]
      omega
  refine ⟨by simp [h.len], by omega, fun _ => by omega, by omega, fun x hx => ?_, fun es hes => ?_⟩
  · rcases List.mem_append.1 hx with hx | hx
    · exact h.ok x hx
    · obtain rfl := List.mem_singleton.1 hx
      exact ⟨hi, by show K.data.toList.length ≤ _; rw [hK]; omega, by show V.data.toList.length ≤ _; rw [hV]; omega⟩
  · obtain ⟨_, _, s3, s4, _⟩ := h.st es hes
    obtain ⟨hke, q, hx, p, hp⟩ := h.next hk hes
    rw [rdEnt_steps h1 h2 h3 h4 h5] at hx
    split at hx
    · cases hx
    split at hx
    · cases hx
    rw [if_neg (by omega)] at hx
    split at hx
    · cases hx
    rename_i he5
    injection hx with hx
    injection hx with hx1 hx2
    subst hx2
    have hxe : es[k] = ⟨K, sq, false, V⟩ := by
      rw [← hx1]
      exact ent_ext (by simp only [Ent.kl, toB_data, hK]) rfl rfl (by simp only [Ent.vl, toB_data, hV])
    refine ⟨by omega, by omega, s3, by rw [s4, List.take_succ_eq_append_getElem hke, hxe], p, ?_⟩
    rw [hxe] at hp
    simp only [Ent.kl, hK] at hp
    exact hp
end
/-- The end: what the encoding again tells. -/
theorem DSt.yes {S : List UInt8} {n k e : Nat} {out : List Ent} {last l : List UInt8} (h : DSt S n k e out last l) (hend : ¬ (k < n ∧ e = 0)) {es : List Ent} (hes : rdBlock S = some es) : e = 0 ∧ out = es ∧ rightE es ∧ S = blockB es := by
  obtain ⟨s1, s2, s3, s4, _⟩ := h.st es hes
  obtain ⟨b1, b2, _⟩ := rdBlock_back hes
  have : k = n := by omega
  exact ⟨s1, by rw [s4, this, s3, List.take_length], b2, b1⟩
theorem DSt.no {S : List UInt8} {n k e : Nat} {out : List Ent} {last l : List UInt8} (h : DSt S n k e out last l) (hS : S.length ≤ 1099511627776) (hes : rdBlock S = none) (hr : rightE out) : blockB out ≠ S := by
  intro e1
  have h1 := rdBlock_blockB out hr (fun x hx => by
    obtain ⟨a1, a2, a3⟩ := h.ok x hx
    exact ⟨a1, by omega, by omega⟩) (by rw [h.len]; have := h.kS; omega)
  rw [e1, hes] at h1
  cases h1
end Go.Proofs.Ytabeecbcijnhjaa
