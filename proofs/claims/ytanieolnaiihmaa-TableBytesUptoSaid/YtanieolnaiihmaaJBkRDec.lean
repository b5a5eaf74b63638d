/- Blocks: the reference's Decode, in plain words. -/
import Derived.Test.YtanieolnaiihmaaBkDec
import Derived.Test.YtanieolnaiihmaaJBkREnc
import Derived.Test.YtanieolnaiihmaaBkRRd2
namespace Go.Proofs.Ytanieolnaiihmaa
open Go.RowKit
theorem rdEnts_cons {m : Nat} {p : Option Ent} {last l : List UInt8} {es : List Ent} {r : List UInt8} (h : rdEnts (m + 1) p last l = some (es, r)) : ∃ x es' r1, es = x :: es' ∧ rdEnt last l = some (x, r1) ∧ rdEnts m (some x) x.kl r1 = some (es', r) := by
  rw [rdEnts] at h
  split at h
  · cases h
  · rename_i x r1 hx
    have key : (rdEnts m (some x) x.kl r1).map (fun y => (x :: y.1, y.2)) = some (es, r) → ∃ x' es' r1', es = x' :: es' ∧ some (x, r1) = some (x', r1') ∧ rdEnts m (some x') x'.kl r1' = some (es', r) := by
      intro h
      rw [Option.map_eq_some_iff] at h
      obtain ⟨⟨es', r'⟩, h1, h2⟩ := h
      injection h2 with h2 h3
      subst h2 h3
      exact ⟨x, es', r1, rfl, rfl, h1⟩
    rw [hx]
    cases p with
    | none => exact key h
    | some q =>
      simp only at h
      split at h
      · exact key h
      · cases h
/-- The reading, as it stands. -/
structure DSt (S : List UInt8) (n k e : Nat) (out : List Ent) (last l : List UInt8) : Prop where
  len : out.length = k
  kS : k ≤ S.length
  rm : e = 0 → l.length + k ≤ S.length
  lk : last.length + l.length ≤ S.length
  ok : ∀ x ∈ out, (-9223372036854775808 ≤ x.seq ∧ x.seq ≤ 9223372036854775807) ∧ x.kl.length ≤ S.length ∧ x.vl.length ≤ S.length
  st : ∀ es, rdBlock S = some es → e = 0 ∧ k ≤ n ∧ n = es.length ∧ out = es.take k ∧ ∃ p, rdEnts (n - k) p last l = some (es.drop k, [])
theorem DSt.start {S r1 : List UInt8} {n e1 : Nat} (h : rdNum S = (n, e1, r1)) : DSt S n 0 e1 [] [] r1 := by
  have hl := rdNum_len S
  rw [h] at hl
  simp only at hl
  refine ⟨rfl, Nat.zero_le _, fun _ => by omega, by simp; exact hl, by simp, fun es hes => ?_⟩
  have he : e1 = 0 := by
    unfold rdBlock at hes
    simp only [h] at hes
    split at hes
    · cases hes
    · omega
  unfold rdBlock at hes
  simp only [h, he] at hes
  rw [if_neg (by omega)] at hes
  split at hes
  · rename_i es' h2
    injection hes with hes
    subst hes
    have := (rdEnts_back _ _ _ _ _ _ h2).2.2.2.2
    exact ⟨he, Nat.zero_le _, this.symm, by simp, none, by simpa using h2⟩
  · cases hes
/-- What the next version's reading says. -/
theorem DSt.next {S : List UInt8} {n k : Nat} {out : List Ent} {last l : List UInt8} (h : DSt S n k 0 out last l) (hk : k < n) {es : List Ent} (hes : rdBlock S = some es) :
    ∃ (hkl : k < es.length) (r1 : List UInt8), rdEnt last l = some (es[k], r1) ∧ ∃ p, rdEnts (n - (k + 1)) p es[k].kl r1 = some (es.drop (k + 1), []) := by
  obtain ⟨_, _, h3, _, p, h5⟩ := h.st es hes
  have hkl : k < es.length := by omega
  rw [show n - k = (n - (k + 1)) + 1 by omega] at h5
  obtain ⟨x, es', r1, e1, e2, e3⟩ := rdEnts_cons h5
  rw [List.drop_eq_getElem_cons hkl] at e1
  injection e1 with e1 e4
  subst e1
  subst e4
  exact ⟨hkl, r1, e2, _, e3⟩
section
variable {S : List UInt8} {n k : Nat} {out : List Ent} {last l : List UInt8} {m e1 : Nat} {r1 t r2 : List UInt8} {e2 : Nat} {sq : Int} {e3 : Nat} {r3 : List UInt8} {d e4 : Nat} {r4 v r5 : List UInt8} {e5 : Nat}
theorem DSt.bad (h : DSt S n k 0 out last l) (hk : k < n) (h1 : rdNum l = (m, e1, r1)) (h2 : rdText r1 = (t, e2, r2)) (h3 : rdInt r2 = (sq, e3, r3)) (h4 : rdNum r3 = (d, e4, r4))
    (hb : e1 ≠ 0 ∨ e2 ≠ 0 ∨ e3 ≠ 0 ∨ e4 ≠ 0 ∨ last.length < m ∨ 1 < d) : rdBlock S = none := by
  cases hes : rdBlock S with
  | none => rfl
  | some es =>
    obtain ⟨hkl, q, hx, _⟩ := h.next hk hes
    rw [rdEnt_steps h1 h2 h3 h4 (v := (rdText r4).1) (e5 := (rdText r4).2.1) (r5 := (rdText r4).2.2) rfl] at hx
    split at hx
    · cases hx
    · rename_i c1
      split at hx
      · cases hx
      · rename_i c2
        omega
/-- The lengths behind the four readings. -/
theorem DSt.lens (h1 : rdNum l = (m, 0, r1)) (h2 : rdText r1 = (t, 0, r2)) (h3 : rdInt r2 = (sq, 0, r3)) (h4 : rdNum r3 = (d, 0, r4)) : t.length + r4.length + 1 ≤ l.length := by
  have a1 := (num_back h1).1
  have a2 := text_back h2
  have a3 := (int_back h3).1
  have a4 := (num_back h4).1
  have p := numB_pos m
  have e1 := congrArg List.length a1
  have e2 := congrArg List.length a2
  have e3 := congrArg List.length a3
  have e4 := congrArg List.length a4
  have q : (textB t).length = (numB t.length).length + t.length := by simp [textB]
  simp only [List.length_append] at e1 e2 e3 e4
  omega
theorem DSt.dead (h : DSt S n k 0 out last l) (hk : k < n) (h1 : rdNum l = (m, 0, r1)) (h2 : rdText r1 = (t, 0, r2)) (h3 : rdInt r2 = (sq, 0, r3)) (h4 : rdNum r3 = (1, 0, r4)) {K : ByteArray} (hK : K.data.toList = last.take m ++ t) :
    DSt S n (k + 1) 0 (out ++ [⟨K, sq, true, ⟨#[]⟩⟩]) (last.take m ++ t) r4 := by
  have hl := DSt.lens h1 h2 h3 h4
  have hrm := h.rm rfl
  have hlk := h.lk
  have hi := (int_back h3).2
  have hkl : (last.take m ++ t).length ≤ last.length + t.length := by rw [List.length_append, List.length_take]; omega
  refine ⟨by simp [h.len], by omega, fun _ => by omega, by omega, fun x hx => ?_, fun es hes => ?_⟩
  · rcases List.mem_append.1 hx with hx | hx
    · exact h.ok x hx
    · obtain rfl := List.mem_singleton.1 hx
      exact ⟨hi, by show K.data.toList.length ≤ _; rw [hK]; omega, Nat.zero_le _⟩
  · obtain ⟨_, _, s3, s4, _⟩ := h.st es hes
    obtain ⟨hke, q, hx, p, hp⟩ := h.next hk hes
    rw [rdEnt_steps h1 h2 h3 h4 (v := (rdText r4).1) (e5 := (rdText r4).2.1) (r5 := (rdText r4).2.2) rfl] at hx
    split at hx
    · cases hx
    split at hx
    · cases hx
    rw [if_pos rfl] at hx
    injection hx with hx
    injection hx with hx1 hx2
    subst hx2
    have hxe : es[k] = ⟨K, sq, true, ⟨#[]⟩⟩ := by
      rw [← hx1]
      exact ent_ext (by simp only [Ent.kl, toB_data, hK]) rfl rfl rfl
    refine ⟨rfl, by omega, s3, by rw [s4, List.take_succ_eq_append_getElem hke, hxe], p, ?_⟩
    rw [hxe] at hp
    simp only [Ent.kl, hK] at hp
    exact hp
theorem DSt.live (h : DSt S n k 0 out last l) (hk : k < n) (h1 : rdNum l = (m, 0, r1)) (h2 : rdText r1 = (t, 0, r2)) (h3 : rdInt r2 = (sq, 0, r3)) (h4 : rdNum r3 = (0, 0, r4)) (h5 : rdText r4 = (v, e5, r5)) {K V : ByteArray} (hK : K.data.toList = last.take m ++ t) (hV : V.data.toList = v) :
    DSt S n (k + 1) e5 (out ++ [⟨K, sq, false, V⟩]) (last.take m ++ t) r5 := by
  have hl := DSt.lens h1 h2 h3 h4
  have hrm := h.rm rfl
  have hlk := h.lk
  have hi := (int_back h3).2
  have hkl : (last.take m ++ t).length ≤ last.length + t.length := by rw [List.length_append, List.length_take]; omega
  have hr5 := rdText_len r4
  rw [h5] at hr5
  simp only at hr5
  have hv : v.length ≤ r4.length := by
    unfold rdText at h5
    have := rdNum_len r4
    split at h5
    · injection h5 with a b; rw [← a]; simp
    · injection h5 with a b
      rw [← a, List.length_take]
      omega
  refine ⟨by simp [h.len], by omega, fun _ => by omega, by omega, fun x hx => ?_, fun es hes => ?_⟩
  · rcases List.mem_append.1 hx with hx | hx
    · exact h.ok x hx
    · obtain rfl := List.mem_singleton.1 hx
      exact ⟨hi, by show K.data.toList.length ≤ _; rw [hK]; omega, by show V.data.toList.length ≤ _; rw [hV]; omega⟩
  · obtain ⟨_, _, s3, s4, _⟩ := h.st es hes
    obtain ⟨hke, q, hx, p, hp⟩ := h.next hk hes
    rw [rdEnt_steps h1 h2 h3 h4 h5] at hx
    split at hx
    · cases hx
    split at hx
    · cases hx
    rw [if_neg (by omega)] at hx
    split at hx
    · cases hx
    rename_i he5
    injection hx with hx
    injection hx with hx1 hx2
    subst hx2
    have hxe : es[k] = ⟨K, sq, false, V⟩ := by
      rw [← hx1]
      exact ent_ext (by simp only [Ent.kl, toB_data, hK]) rfl rfl (by simp only [Ent.vl, toB_data, hV])
    refine ⟨by omega, by omega, s3, by rw [s4, List.take_succ_eq_append_getElem hke, hxe], p, ?_⟩
    rw [hxe] at hp
    simp only [Ent.kl, hK] at hp
    exact hp
end
/-- The end: what the encoding again tells. -/
theorem DSt.yes {S : List UInt8} {n k e : Nat} {out : List Ent} {last l : List UInt8} (h : DSt S n k e out last l) (hend : ¬ (k < n ∧ e = 0)) {es : List Ent} (hes : rdBlock S = some es) : e = 0 ∧ out = es ∧ rightE es ∧ S = blockB es := by
  obtain ⟨s1, s2, s3, s4, _⟩ := h.st es hes
  obtain ⟨b1, b2, _⟩ := rdBlock_back hes
  have : k = n := by omega
  exact ⟨s1, by rw [s4, this, s3, List.take_length], b2, b1⟩
theorem DSt.no {S : List UInt8} {n k e : Nat} {out : List Ent} {last l : List UInt8} (h : DSt S n k e out last l) (hS : S.length ≤ 1099511627776) (hes : rdBlock S = none) (hr : rightE out) : blockB out ≠ S := by
  intro e1
  have h1 := rdBlock_blockB out hr (fun x hx => by
    obtain ⟨a1, a2, a3⟩ := h.ok x hx
    exact ⟨a1, by omega, by omega⟩) (by rw [h.len]; have := h.kS; omega)
  rw [e1, hes] at h1
  cases h1
end Go.Proofs.Ytanieolnaiihmaa
/- Blocks: the reference's Decode, walked. -/
namespace Go.Proofs.Ytanieolnaiihmaa
open Go.RowKit
theorem entsB_le {S : Nat} (hS : S ≤ 1099511627776) : ∀ (l : List Ent) (last : List UInt8), (∀ x ∈ l, (-9223372036854775808 ≤ x.seq ∧ x.seq ≤ 9223372036854775807) ∧ x.kl.length ≤ S ∧ x.vl.length ≤ S) → (entsB last l).length ≤ l.length * (50 + 2 * S) := by
  intro l
  induction l with
  | nil => intro last _; simp [entsB]
  | cons x l ih =>
    intro last h
    obtain ⟨⟨h0, h1⟩, h2, h3⟩ := h x List.mem_cons_self
    have a := (entB_len last x h0 h1 (by omega) (by omega)).1
    have b := ih x.kl fun y hy => h y (List.mem_cons_of_mem _ hy)
    rw [entsB, List.length_append, List.length_cons, Nat.add_mul]
    omega
def RDecPost (w : World) (s : ByteArray) (e : Ending) (w' : World) : Prop := ∃ v, e = .returned (.tuple #[v, .int .i64 ((decR s.data.toList).2 : Int)]) ∧ w'.ownsRow w.heap.size 41 4 v (decR s.data.toList).1.length (entv (decR s.data.toList).1) ∧ Below w.heap.size w w'
set_option maxHeartbeats 8000000 in
set_option maxRecDepth 20000 in
theorem rdec_any (w : World) (s : ByteArray) (hs : s.size ≤ 1048576) : Calls Try.prog 59 #[.string s] w (RDecPost w s) := by
  obtain ⟨i0, hi0, hz0, hz1, hz2⟩ := info_parts ent_info
  obtain ⟨n, e1, r1, h1⟩ : ∃ n e r, rdNum s.data.toList = (n, e, r) := ⟨_, _, _, rfl⟩
  have hn64 := rdNum_lt s.data.toList; rw [h1] at hn64
  have l1 := rdNum_len s.data.toList; rw [h1] at l1
  have f1 := rdNum_err' h1
  have hsl : s.data.toList.length = s.size := by simp
  have HST := Lib.hid (DSt.start h1)
  simp only at hn64 l1
  have H1 := Lib.hid h1
  have HSL := Lib.hid hsl
  obtain ⟨Sl, hSl⟩ : ∃ Sl, s.data.toList = Sl := ⟨_, rfl⟩
  clear h1
  have hR0 := Rdr.new w 141 s
  have hB0 : Below w.heap.size w (w.alloc (.cells #[.string s] 141)) := (Below.refl _ _).alloc (Nat.le_refl _) _
  have HR0 := Lib.hid hR0
  have HB0 := Lib.hid hB0
  clear hR0 hB0
  go_enter Try.func59, Try.ntmps59
  go_wp2_with fail
  refine (rrdnum_f _ w.heap.size s n e1 r1 H1.out HR0.out (by omega)).mono ?_
  rintro e w1 ⟨rfl, s1, hs1, hR1, hu1⟩
  have HR1 := Lib.hid hR1
  have HB1 := Lib.hid (HB0.out.trans (hu1.below (fun k hk e => by omega) HB0.out.size))
  have HST1 : Hid (DSt s.data.toList n 0 e1 [] [] s1.data.toList) := Lib.hid (by rw [hs1]; exact HST.out)
  have he1 : e1 = 0 ∨ e1 = 1 := f1.imp id fun h => h.1
  obtain ⟨G, hG⟩ : ∃ G, w.heap.size = G := ⟨_, rfl⟩
  have HG := Lib.hid hG
  rw [hG] at HR1 ⊢
  clear hs1 hR1 hu1 HR0 HB0 HST f1 hG hSl l1 hsl
  go_wp2
  go_loopw [6, 7, 8, 9] (fun ev ov lv iv wx => ∃ (k e : Nat) (out : List Ent) (last sx : ByteArray), iv = .int .u64 k ∧ lv = .string last ∧ ev = .int .i64 (e : Int) ∧ (e = 0 ∨ e = 1) ∧ (e = 0 → k ≤ n) ∧ Hid (Rdr wx 141 G sx) ∧ Hid (wx.ownsRow (G + 1) 41 4 ov k (entv out)) ∧ Hid (Below w.heap.size w wx) ∧ Hid (DSt s.data.toList n k e out last.data.toList sx.data.toList)) (fun _ _ _ iv _ => n - (intOf iv).toNat)
  case atStart => exact ⟨0, e1, [], ⟨#[]⟩, s1, rfl, rfl, rfl, he1, fun _ => Nat.zero_le _, HR1, Lib.hid (World.ownsRow_nil _ _ _ _), HB1, HST1⟩
  case round =>
    clear HR1 HB1 HST1 he1
    obtain ⟨k, e, out, last, sx, rfl, rfl, rfl, he, hkn, hR, ho, hb, hst⟩ := hrel
    by_cases hgo : k < n ∧ e = 0
    · obtain ⟨hlt, rfl⟩ := hgo
      have hltI : (k : Int) < (n : Int) := by omega
      obtain ⟨m, q1, r1, h1⟩ : ∃ n e r, rdNum sx.data.toList = (n, e, r) := ⟨_, _, _, rfl⟩
      obtain ⟨t, q2, r2, h2⟩ : ∃ n e r, rdText r1 = (n, e, r) := ⟨_, _, _, rfl⟩
      obtain ⟨sq, q3, r3, h3⟩ : ∃ n e r, rdInt r2 = (n, e, r) := ⟨_, _, _, rfl⟩
      obtain ⟨d, q4, r4, h4⟩ : ∃ n e r, rdNum r3 = (n, e, r) := ⟨_, _, _, rfl⟩
      have hlk := hst.out.lk
      have hsl := HSL.out
      have hsxl : sx.data.toList.length = sx.size := by simp
      have hlal : last.data.toList.length = last.size := by simp
      have a1 := rdNum_len sx.data.toList
      rw [h1] at a1
      have a2 := rdText_len r1
      rw [h2] at a2
      have a3 := rdInt_len r2
      rw [h3] at a3
      have a4 := rdNum_len r3
      rw [h4] at a4
      have b1 := rdNum_lt sx.data.toList
      rw [h1] at b1
      have b4 := rdNum_lt r3
      rw [h4] at b4
      simp only at a1 a2 a3 a4 b1 b4
      have H1 := Lib.hid h1
      have H2 := Lib.hid h2
      have H3 := Lib.hid h3
      have H4 := Lib.hid h4
      have f1 := rdNum_err' h1
      have f2 := rdText_err h2
      have f3 := rdInt_err h3
      have f4 := rdNum_err' h4
      have F1 := Lib.hid (f1.imp id fun h => h.1)
      have F2 := Lib.hid (f2.imp id fun h => h.1)
      have F3 := Lib.hid (f3.imp id fun h => h.1)
      have F4 := Lib.hid (f4.imp id fun h => h.1)
      clear h1 h2 h3 h4 f1 f2 f3 f4 hkn
      have hu0 : Upd (fun _ => False) wr (wr.alloc (.cells #[.string ⟨#[]⟩, .int .i64 0, .bool false, .string ⟨#[]⟩] 41)) := (Upd.refl _ _).alloc _
      have HRa := Lib.hid (hR.out.upd hu0 (fun h => h))
      have hGl := hR.out.lt
      have hXb := heap_alloc_new wr (.cells #[.string ⟨#[]⟩, .int .i64 0, .bool false, .string ⟨#[]⟩] 41)
      have HXb := Lib.hid hXb
      have hoA := ho.out.alloc (.cells #[.string ⟨#[]⟩, .int .i64 0, .bool false, .string ⟨#[]⟩] 41)
      have HOA := Lib.hid hoA
      have HOB : Hid (∀ q, u7.ownBlock = some q → G + 1 ≤ q ∧ q < wr.heap.size) := Lib.hid (fun q hq => ho.out.lt q hq)
      have HBA := Lib.hid (hb.out.alloc hb.out.size (.cells #[.string ⟨#[]⟩, .int .i64 0, .bool false, .string ⟨#[]⟩] 41))
      clear hu0 hXb hoA ho hb hR
      go_upto_region 9 with (fail)
      obtain ⟨X, hX⟩ : ∃ X, wr.heap.size = X := ⟨_, rfl⟩
      rw [hX] at HXb hGl HOB ⊢
      generalize wr.alloc (.cells #[.string ⟨#[]⟩, .int .i64 0, .bool false, .string ⟨#[]⟩] 41) = wA at HRa HXb HOA HBA ⊢
      clear hX
      have hXl := (Array.getElem?_eq_some_iff.1 HXb.out).1
      go_wp2_with fail
      refine (rrdnum_f wA G sx m q1 r1 H1.out HRa.out (by omega)).mono ?_
      rintro e w2 ⟨rfl, sy1, hy1, hR2, hu2⟩
      have HR2 := Lib.hid hR2
      have HU2 := Lib.hid hu2
      have l1 : sy1.data.toList.length = sy1.size := by simp
      have H2' : Hid (rdText sy1.data.toList = (t, q2, r2)) := Lib.hid (by rw [hy1]; exact H2.out)
      rw [hy1] at l1
      clear hR2 hu2 hy1 HRa
      go_wp2_with fail
      refine (rrdtext_any w2 G sy1 HR2.out (by omega)).mono ?_
      rw [H2'.out]
      rintro e w3 ⟨⟨T, hT, rfl⟩, sy2, hy2, hR3, hu3⟩
      simp only at hT hy2 ⊢
      have HR3 := Lib.hid hR3
      have HU3 := Lib.hid (HU2.out.trans (S' := fun k => k = G) hu3 (fun _ _ h => h))
      have l2 : sy2.data.toList.length = sy2.size := by simp
      have H3' : Hid (rdInt sy2.data.toList = (sq, q3, r3)) := Lib.hid (by rw [hy2]; exact H3.out)
      rw [hy2] at l2
      have HTT := Lib.hid hT
      clear hR3 hu3 hy2 HR2 HU2 H2' hT
      go_wp2_with fail
      refine (rrdint_any w3 G sy2 HR3.out (by omega)).mono ?_
      rw [H3'.out]
      rintro e w4 ⟨rfl, sy3, hy3, hR4, hu4⟩
      simp only at hy3 ⊢
      have HR4 := Lib.hid hR4
      have HU4 := Lib.hid (HU3.out.trans (S' := fun k => k = G) hu4 (fun _ _ h => h))
      have l3 : sy3.data.toList.length = sy3.size := by simp
      have H4' : Hid (rdNum sy3.data.toList = (d, q4, r4)) := Lib.hid (by rw [hy3]; exact H4.out)
      rw [hy3] at l3
      clear hR4 hu4 hy3 HR3 HU3 H3'
      go_wp2_with fail
      refine (rrdnum_f w4 G sy3 d q4 r4 H4'.out HR4.out (by omega)).mono ?_
      rintro e w5 ⟨rfl, sy4, hy4, hR5, hu5⟩
      have HR5 := Lib.hid hR5
      have HU5 := Lib.hid (HU4.out.trans (S' := fun k => k = G) hu5 (fun _ _ h => h))
      have l4 : sy4.data.toList.length = sy4.size := by simp
      have HY4 := Lib.hid hy4
      rw [hy4] at l4
      have hTl : T.data.toList.length = T.size := by simp
      have htl : t.length ≤ r1.length := by
        have h := H2.out
        unfold rdText at h
        have := rdNum_len r1
        split at h
        · injection h with a b; rw [← a]; simp
        · injection h with a b
          rw [← a, List.length_take]
          omega
      rw [HTT.out] at hTl
      have HX5 : Hid (w5.heap[X]? = some (.cells #[.string ⟨#[]⟩, .int .i64 0, .bool false, .string ⟨#[]⟩] 41 (0, 0))) := Lib.hid ((HU5.out.block X hXl (by omega)).trans HXb.out)
      have HO5 := Lib.hid (own_upd HOA.out HU5.out (fun q hq e => by have := (HOA.out.lt q hq).1; omega))
      have HB5 : Hid (Below w.heap.size w w5) := Lib.hid (HBA.out.trans (HU5.out.below (fun q hq e => by have := HG.out; omega) HBA.out.size))
      clear hR5 hu5 hy4 HR4 HU4 H4' HXb HOA HBA HU5
      by_cases hbad : q1 ≠ 0 ∨ q2 ≠ 0 ∨ q3 ≠ 0 ∨ q4 ≠ 0 ∨ last.size < m ∨ 1 < d
      · have hnone := hst.out.bad hlt H1.out H2.out H3.out H4.out (by rw [hlal]; exact hbad)
        have HNO := Lib.hid (decR_no hnone)
        have ways : (q1 = 1) ∨ (q1 = 0 ∧ q2 = 1) ∨ (q1 = 0 ∧ q2 = 0 ∧ q3 = 1) ∨ (q1 = 0 ∧ q2 = 0 ∧ q3 = 0 ∧ q4 = 1) ∨ (q1 = 0 ∧ q2 = 0 ∧ q3 = 0 ∧ q4 = 0 ∧ last.size < m) ∨ (q1 = 0 ∧ q2 = 0 ∧ q3 = 0 ∧ q4 = 0 ∧ ¬ last.size < m ∧ 1 < d) := by
          have := F1.out
          have := F2.out
          have := F3.out
          have := F4.out
          omega
        clear hnone hbad hst H1 H2 H3 H4 F1 F2 F3 F4
        have iw : IntKind.u64.wrap (last.size : Int) = (last.size : Int) := by rw [IntKind.wrap_u64]; omega
        rcases ways with rfl | ⟨rfl, rfl⟩ | ⟨rfl, rfl, rfl⟩ | ⟨rfl, rfl, rfl, rfl⟩ | ⟨rfl, rfl, rfl, rfl, g5⟩ | ⟨rfl, rfl, rfl, rfl, g5, g6⟩
        all_goals
          go_wp2
          go_ret2
          refine ⟨.slice none 0 0, by rw [HNO.out]; rfl, by rw [HNO.out]; exact World.ownsRow_nil _ _ _ _, HB5.out⟩
      · obtain ⟨rfl, rfl, rfl, rfl, g5, g6⟩ : q1 = 0 ∧ q2 = 0 ∧ q3 = 0 ∧ q4 = 0 ∧ ¬ last.size < m ∧ ¬ 1 < d := by omega
        clear hbad F1 F2 F3 F4
        have iw : IntKind.u64.wrap (last.size : Int) = (last.size : Int) := by rw [IntKind.wrap_u64]; omega
        have hmI : (m : Int) ≤ (last.size : Int) := by omega
        have hml : m ≤ last.size := by omega
        have hex : (last.extract 0 m).size = m := by
          rw [ByteArray.size_extract]
          omega
        have hcat : ¬ (9223372036854775807 < (last.extract 0 m).size + T.size) := by omega
        have hm63 : ¬ (9223372036854775807 < m + T.size) := by omega
        have g5' : decide ((m : Int) > (last.size : Int)) = false := decide_eq_false (by omega)
        obtain ⟨K, hK⟩ : ∃ K, last.extract 0 m ++ T = K := ⟨_, rfl⟩
        have hKd : K.data.toList = last.data.toList.take m ++ t := by
          rw [← hK, ← HTT.out]
          simp [List.extract_eq_take_drop]
        have hKs : K.size = m + T.size := by rw [← hK, ByteArray.size_append, hex]
        have hx := HX5.out
        have hXG : ¬ X = G := by omega
        have hinfo : (Try.prog.info? 41).map (·.size) = some 4 := by kernel_rfl
        rcases (show d = 1 ∨ d = 0 by omega) with rfl | rfl
        · have hstep := hst.out.dead hlt H1.out H2.out H3.out H4.out hKd
          have HSTEP : Hid (DSt s.data.toList n (k + 1) 0 (out ++ [⟨K, sq, true, ⟨#[]⟩⟩]) K.data.toList sy4.data.toList) := Lib.hid (by rw [hKd, HY4.out]; exact hstep)
          clear hstep hst H1 H2 H3 H4 HTT HY4
          go_wp2_with (refine wpList_store_rowAt rfl 41 (.tmp 10) (.tmp 91) rfl rfl X #[.string K, .int .i64 sq, .bool true, .string ⟨#[]⟩] rfl (by first | rfl | (rw [hK])) 41 #[.string ⟨#[]⟩, .int .i64 0, .bool false, .string ⟨#[]⟩] (by exact hx) (by exact hinfo) rfl (by simp [Value.oneCell']) ?_)
          intro w6 hx6 hu6
          have hzX : X < w6.heap.size := (Array.getElem?_eq_some_iff.1 hx6).1
          have HX6 := Lib.hid hx6
          have hoX : ∀ q, u7.ownBlock = some q → ¬ q = X := fun q hq e => by
            have hob := HOB.out q hq
            omega
          have HO6 := Lib.hid (own_upd HO5.out hu6 hoX)
          have HR6 := Lib.hid (HR5.out.upd hu6 (fun e => hXG e.symm))
          have HB6 := Lib.hid (HB5.out.trans (hu6.below (fun q hq e => by have := HG.out; omega) HB5.out.size))
          have x0 : w6.cell? ⟨X, 0, none⟩ = some (.string K) := by rw [cell_of_row w6 X 0 _ _ _ hx6]; rfl
          have x1 : w6.cell? ⟨X, 1, none⟩ = some (.int .i64 sq) := by rw [cell_of_row w6 X 1 _ _ _ hx6]; rfl
          have x2 : w6.cell? ⟨X, 2, none⟩ = some (.bool true) := by rw [cell_of_row w6 X 2 _ _ _ hx6]; rfl
          have x3 : w6.cell? ⟨X, 3, none⟩ = some (.string ⟨#[]⟩) := by rw [cell_of_row w6 X 3 _ _ _ hx6]; rfl
          have hGz : G + 1 ≤ w6.heap.size := by omega
          have hkb : k ≤ 1048576 := by have := HSTEP.out.kS; omega
          clear hx6 hu6 hx hoX HX5 HO5 HB5 HR5
          have hwk : IntKind.u64.wrap ((k : Int) + 1) = ((k + 1 : Nat) : Int) := by rw [IntKind.wrap_u64]; omega
          go_wp2_with (at_builtin; refine wpList_push rfl (.tmp 100) (.tmp 102) 31 rfl (G + 1) 41 i0 _ 4 48 Try.underlying31 hi0 hz0 hz1 hz2 rfl (by decide) _ k _ #[.string K, .int .i64 sq, .bool true, .string ⟨#[]⟩] rfl (by exact HO6.out) rfl rfl (by simp [Value.oneCell']) ?c1 ?c2 ?c3 ?_)
          case c1 => omega
          case c2 => unfold maxLen; omega
          case c3 => exact hGz
          intro v8 w8 ho8 hu8 _
          have HO8 : Hid (w8.ownsRow (G + 1) 41 4 v8 (k + 1) (entv (out ++ [⟨K, sq, true, ⟨#[]⟩⟩]))) := Lib.hid (by rw [entv_append, entv_one]; exact ho8)
          have hoX8 : ¬ u7.ownBlock = some X := fun e => by
            have hob := HOB.out X e
            omega
          have y0 : w8.cell? ⟨X, 0, none⟩ = some (.string K) := (hu8.cell (p := ⟨X, 0, none⟩) hzX hoX8).trans x0
          have HR8 := Lib.hid (HR6.out.upd hu8 (fun e => by have := HOB.out G e; omega))
          have HB8 := Lib.hid (HB6.out.trans (hu8.below (fun q hq e => by have := HOB.out q e; have := HG.out; omega) HB6.out.size))
          clear ho8 hu8 HO6 HR6 HB6 x0 x1 x2 x3 HX6 HOB
          go_wp2
          go_roundw
          case rel => exact ⟨k + 1, 0, _, K, sy4, by go_num, rfl, rfl, .inl rfl, fun _ => hlt, HR8, HO8, HB8, HSTEP⟩
          case measure => simp only [intOf]; omega
        · obtain ⟨v, q5, r5, h5⟩ : ∃ n e r, rdText r4 = (n, e, r) := ⟨_, _, _, rfl⟩
          have hl5 := rdText_len r4
          rw [h5] at hl5
          simp only at hl5
          have f5 := (rdText_err h5).imp id fun h => h.1
          have HSTEP : Hid (∀ (V sy5 : ByteArray), V.data.toList = v → sy5.data.toList = r5 → DSt s.data.toList n (k + 1) q5 (out ++ [⟨K, sq, false, V⟩]) K.data.toList sy5.data.toList) := Lib.hid (fun V sy5 hV hy5 => by
            rw [hKd, hy5]
            exact hst.out.live hlt H1.out H2.out H3.out H4.out h5 hKd hV)
          have H5 : Hid (rdText sy4.data.toList = (v, q5, r5)) := Lib.hid (by rw [HY4.out]; exact h5)
          have hkS := hst.out.rm rfl
          clear hst H1 H2 H3 H4 HTT HY4 h5
          go_wp2_with (refine wpList_store_rowAt rfl 41 (.tmp 10) (.tmp 91) rfl rfl X #[.string K, .int .i64 sq, .bool false, .string ⟨#[]⟩] rfl (by first | rfl | (rw [hK])) 41 #[.string ⟨#[]⟩, .int .i64 0, .bool false, .string ⟨#[]⟩] (by exact hx) (by exact hinfo) rfl (by simp [Value.oneCell']) ?_)
          intro w6 hx6 hu6
          have hzX : X < w6.heap.size := (Array.getElem?_eq_some_iff.1 hx6).1
          have HX6 := Lib.hid hx6
          have hoX : ∀ q, u7.ownBlock = some q → ¬ q = X := fun q hq e => by
            have hob := HOB.out q hq
            omega
          have HO6 := Lib.hid (own_upd HO5.out hu6 hoX)
          have HR6 := Lib.hid (HR5.out.upd hu6 (fun e => hXG e.symm))
          have HB6 := Lib.hid (HB5.out.trans (hu6.below (fun q hq e => by have := HG.out; omega) HB5.out.size))
          have hkb : k ≤ 1048576 := by omega
          clear hx6 hu6 hx hoX HX5 HO5 HB5 HR5
          go_wp2_with fail
          refine (rrdtext_any w6 G sy4 HR6.out (by omega)).mono ?_
          rw [H5.out]
          rintro e w7 ⟨⟨V, hV, rfl⟩, sy5, hy5, hR7, hu7⟩
          simp only at hV hy5 ⊢
          have HSTEP' := Lib.hid (HSTEP.out V sy5 hV hy5)
          have hx7 : w7.heap[X]? = some (.cells #[.string K, .int .i64 sq, .bool false, .string ⟨#[]⟩] 41 (0, 0)) := (hu7.block X hzX hXG).trans HX6.out
          have HO7 := Lib.hid (own_upd HO6.out hu7 (fun q hq e => by have := HOB.out q hq; omega))
          have HB7 := Lib.hid (HB6.out.trans (hu7.below (fun q hq e => by have := HG.out; omega) HB6.out.size))
          have HR7 := Lib.hid hR7
          have x3 : w7.cell? ⟨X, 3, none⟩ = some (.string ⟨#[]⟩) := by rw [cell_of_row w7 X 3 _ _ _ hx7]; rfl
          have xf := frozen_of_row w7 X 3 _ _ hx7
          have hu8 : Upd (fun k => k = X) w7 (w7.setCell ⟨X, 3, none⟩ (.string V)) := (Upd.refl (fun k => k = X) w7).setCell ⟨X, 3, none⟩ rfl _
          have hx8 : (w7.setCell ⟨X, 3, none⟩ (.string V)).heap[X]? = some (.cells #[.string K, .int .i64 sq, .bool false, .string V] 41 (0, 0)) := by
            rw [heap_setCell_same w7 X 3 _ _ (.string V) hx7]
            rfl
          have HX8 := Lib.hid hx8
          have HO8' := Lib.hid (own_upd HO7.out hu8 (fun q hq e => by have := HOB.out q hq; omega))
          have HR8' := Lib.hid (HR7.out.upd hu8 (fun e => hXG e.symm))
          have HB8' := Lib.hid (HB7.out.trans (hu8.below (fun q hq e => by have := HG.out; omega) HB7.out.size))
          clear hV hy5 hR7 hu7 hx7 hu8 hx8 HX6 HO6 HR6 HB6 HO7 HR7 HB7 HSTEP H5
          go_upto_region 18 with (fail)
          generalize w7.setCell ⟨X, 3, none⟩ (.string V) = w9 at HX8 HO8' HR8' HB8' ⊢
          clear x3 xf
          have hzX9 : X < w9.heap.size := (Array.getElem?_eq_some_iff.1 HX8.out).1
          have x0 : w9.cell? ⟨X, 0, none⟩ = some (.string K) := by rw [cell_of_row w9 X 0 _ _ _ HX8.out]; rfl
          have x1 : w9.cell? ⟨X, 1, none⟩ = some (.int .i64 sq) := by rw [cell_of_row w9 X 1 _ _ _ HX8.out]; rfl
          have x2 : w9.cell? ⟨X, 2, none⟩ = some (.bool false) := by rw [cell_of_row w9 X 2 _ _ _ HX8.out]; rfl
          have x3 : w9.cell? ⟨X, 3, none⟩ = some (.string V) := by rw [cell_of_row w9 X 3 _ _ _ HX8.out]; rfl
          have hGz : G + 1 ≤ w9.heap.size := by omega
          have hwk : IntKind.u64.wrap ((k : Int) + 1) = ((k + 1 : Nat) : Int) := by rw [IntKind.wrap_u64]; omega
          go_wp2_with (at_builtin; refine wpList_push rfl (.tmp 100) (.tmp 102) 31 rfl (G + 1) 41 i0 _ 4 48 Try.underlying31 hi0 hz0 hz1 hz2 rfl (by decide) _ k _ #[.string K, .int .i64 sq, .bool false, .string V] rfl (by exact HO8'.out) rfl rfl (by simp [Value.oneCell']) ?d1 ?d2 ?d3 ?_)
          case d1 => omega
          case d2 => unfold maxLen; omega
          case d3 => exact hGz
          intro v8 w8 ho8 hu8 _
          have HO8 : Hid (w8.ownsRow (G + 1) 41 4 v8 (k + 1) (entv (out ++ [⟨K, sq, false, V⟩]))) := Lib.hid (by rw [entv_append, entv_one]; exact ho8)
          have hoX8 : ¬ u7.ownBlock = some X := fun e => by
            have hob := HOB.out X e
            omega
          have y0 : w8.cell? ⟨X, 0, none⟩ = some (.string K) := (hu8.cell (p := ⟨X, 0, none⟩) hzX9 hoX8).trans x0
          have HR8 := Lib.hid (HR8'.out.upd hu8 (fun e => by have := HOB.out G e; omega))
          have HB8 := Lib.hid (HB8'.out.trans (hu8.below (fun q hq e => by have := HOB.out q e; have := HG.out; omega) HB8'.out.size))
          clear ho8 hu8 HO8' HR8' HB8' x0 x1 x2 x3 HX8 HOB
          go_wp2
          go_roundw
          case rel => exact ⟨k + 1, q5, _, K, sy5, by go_num, rfl, rfl, f5, fun _ => hlt, HR8, HO8, HB8, HSTEP'⟩
          case measure => simp only [intOf]; omega
    · obtain ⟨A7, c7, rfl⟩ := own_shape ho.out
      have hrd := Rd.own ho.out
      have hkS := hst.out.kS
      have hsl := HSL.out
      have hen : Hid (Calls Try.prog 55 #[.slice A7 k c7] wr fun e w' => e = .returned (.tuple #[.string ⟨(encR out).1.toArray⟩, .int .i64 ((encR out).2 : Int)]) ∧ Below wr.heap.size wr w') := Lib.hid (renc_any wr A7 k c7 out hrd (by omega) (fun x hx => by
        obtain ⟨o1, o2, o3⟩ := hst.out.ok x hx
        have e1 : x.kl.length = x.key.size := by simp [Ent.kl]
        have e2 : x.vl.length = x.val.size := by simp [Ent.vl]
        exact ⟨o1, by omega, by omega⟩) (by
        have h1 := entsB_le (S := s.data.toList.length) (by omega) out [] hst.out.ok
        have h2 := numB_len10 out.length (by rw [hst.out.len]; omega)
        rw [hst.out.len] at h1 h2
        have h3 : k * (50 + 2 * s.data.toList.length) ≤ 1048576 * (50 + 2 * 1048576) := Nat.mul_le_mul (by omega) (by omega)
        unfold blockB
        rw [List.length_append, hst.out.len]
        omega))
      have HOX := Lib.hid ho.out
      have go1 : (∃ es, rdBlock s.data.toList = some es ∧ e = 0 ∧ out = es ∧ encR out = (s.data.toList, 0)) ∨ (rdBlock s.data.toList = none ∧ (e = 1 ∨ (e = 0 ∧ ∃ bs : List UInt8, encR out = (bs, 9)) ∨ (e = 0 ∧ ∃ bs : List UInt8, encR out = (bs, 0) ∧ bs ≠ s.data.toList))) := by
        cases hes : rdBlock s.data.toList with
        | some es =>
          obtain ⟨y1, y2, y3, y4⟩ := hst.out.yes hgo hes
          exact .inl ⟨es, rfl, y1, y2, by rw [y2, encR_ok y3, y4]⟩
        | none =>
          refine .inr ⟨rfl, ?_⟩
          rcases he with rfl | rfl
          · by_cases hr : rightE out
            · exact .inr (.inr ⟨rfl, _, encR_ok hr, hst.out.no (by omega) hes hr⟩)
            · exact .inr (.inl ⟨rfl, _, encR_no hr⟩)
          · exact .inl rfl
      have hcond : (k < n ∧ e = 1) ∨ ¬ k < n := by
        by_cases h : k < n
        · exact .inl ⟨h, he.resolve_left fun h' => hgo ⟨h, h'⟩⟩
        · exact .inr h
      have HB := hb
      have HGO := Lib.hid go1
      clear hrd hst ho hb hR go1 hkn hgo he
      have tail : ∀ w2, Below wr.heap.size wr w2 → (rdBlock s.data.toList = none → RDecPost w s (.returned (.tuple #[.slice none 0 0, .int .i64 1])) w2) ∧ (∀ es, rdBlock s.data.toList = some es → out = es → RDecPost w s (.returned (.tuple #[.slice A7 k c7, .int .i64 0])) w2) := by
        intro w2 hb2
        have hb3 := HB.out.trans (hb2.mono HB.out.size)
        refine ⟨fun hn => ⟨_, by rw [decR_no hn]; rfl, by rw [decR_no hn]; exact World.ownsRow_nil _ _ _ _, hb3⟩, fun es hes ho => ⟨_, by rw [decR_ok hes]; rfl, ?_, hb3⟩⟩
        rw [decR_ok hes]
        subst ho
        have h1 := own_below HOX.out hb2
        have h2 : out.length = k := by have := h1.1; rw [entv_length] at this; omega
        rw [h2]
        exact own_mono h1 (by have := HG.out; omega)
      have TAIL := Lib.hid tail
      clear tail
      rcases hcond with ⟨hc1, rfl⟩ | hc1
      · have hcI : (k : Int) < (n : Int) := by omega
        go_wp2_with fail
        refine hen.out.mono ?_
        rintro e w2 ⟨rfl, hb2⟩
        have ht := TAIL.out w2 hb2
        have hnone : rdBlock s.data.toList = none := by
          rcases HGO.out with ⟨es, _, h, _⟩ | ⟨h, _⟩
          · omega
          · exact h
        have HF := Lib.hid (ht.1 hnone)
        clear ht hnone hb2 hen
        go_wp2
        go_ret2
        exact HF.out
      · have hcI : decide ((k : Int) < (n : Int)) = false := decide_eq_false (by omega)
        go_wp2_with fail
        refine hen.out.mono ?_
        rintro e' w2 ⟨rfl, hb2⟩
        have ht := TAIL.out w2 hb2
        clear hb2 hen
        rcases HGO.out with ⟨es, hes, rfl, hoe, henc⟩ | ⟨hnone, rfl | ⟨rfl, bs, henc⟩ | ⟨rfl, bs, henc, hne⟩⟩
        · have HF := Lib.hid (ht.2 es hes hoe)
          rw [henc]
          have hsb : (⟨s.data.toList.toArray⟩ : ByteArray) = s := by simp
          simp only [hsb]
          clear ht henc
          go_wp2
          go_ret2
          exact HF.out
        · have HF := Lib.hid (ht.1 hnone)
          clear ht
          go_wp2
          go_ret2
          exact HF.out
        · have HF := Lib.hid (ht.1 hnone)
          rw [henc]
          clear ht henc
          go_wp2
          go_ret2
          exact HF.out
        · have HF := Lib.hid (ht.1 hnone)
          rw [henc]
          have hbe : ((⟨bs.toArray⟩ : ByteArray).toList == s.toList) = false := by
            rw [ByteArray.toList_eq, ByteArray.toList_eq]
            exact beq_eq_false_iff_ne.2 hne
          have hbe2 : (bs == s.toList) = false := by
            rw [ByteArray.toList_eq]
            exact beq_eq_false_iff_ne.2 hne
          clear ht henc hne
          go_wp2
          go_ret2
          exact HF.out
end Go.Proofs.Ytanieolnaiihmaa
