/- Tables in memory: what is found, walked. -/
import Derived.Test.YtcfgmkiohmbdlaaMmAhead
namespace Go.Proofs.Ytcfgmkiohmbdlaa
open Go.RowKit
set_option maxRecDepth 20000
theorem list8 {α : Type} (l : List α) (h : l.length = 8) : ∃ a0 a1 a2 a3 a4 a5 a6 a7, l = [a0, a1, a2, a3, a4, a5, a6, a7] := by
  match l, h with
  | [a0, a1, a2, a3, a4, a5, a6, a7], _ => exact ⟨_, _, _, _, _, _, _, _, rfl⟩
theorem nx0 : ∀ {l : List Nd}, (∀ d ∈ l, 1 ≤ d.h) → nx 0 l = l.head?.map (·.b)
  | [], _ => rfl
  | d :: r, h => by rw [nx, if_pos (show 0 < d.h from h d (by simp))]; rfl
/-- How many versions stand ahead. -/
def cutOf (ns : List Nd) (x : Ent) : Nat := (ns.takeWhile fun d => decide (cmpE d.x x < 0)).length
theorem cutOf_le (ns : List Nd) (x : Ent) : cutOf ns x ≤ ns.length := List.Sublist.length_le (List.takeWhile_sublist _)
theorem cutOf_lt : ∀ (ns : List Nd) (x : Ent) (j : Nat) (hj : j < ns.length), j < cutOf ns x → cmpE ns[j].x x < 0
  | [], _, j, hj, _ => absurd hj (Nat.not_lt_zero _)
  | d :: r, x, j, hj, h => by
    unfold cutOf at h
    rw [List.takeWhile_cons] at h
    split at h
    · rename_i hd
      cases j with
      | zero => simpa using hd
      | succ j => exact cutOf_lt r x j (by simpa using hj) (by unfold cutOf; simpa using h)
    · simp at h
theorem cutOf_ge : ∀ (ns : List Nd) (x : Ent), (ns.Pairwise fun a b => cmpE a.x b.x < 0) → ∀ (j : Nat) (hj : j < ns.length), cutOf ns x ≤ j → ¬ cmpE ns[j].x x < 0
  | [], _, _, j, hj, _ => absurd hj (Nat.not_lt_zero _)
  | d :: r, x, hp, j, hj, h => by
    unfold cutOf at h
    rw [List.takeWhile_cons] at h
    rw [List.pairwise_cons] at hp
    split at h
    · cases j with
      | zero => simp at h
      | succ j => exact cutOf_ge r x hp.2 j (by simpa using hj) (by unfold cutOf; simpa using h)
    · rename_i hd
      cases j with
      | zero => simpa using hd
      | succ j =>
        intro h2
        have h3 := hp.1 (r[j]'(by simpa using hj)) (List.getElem_mem _)
        exact hd (by simpa using cmpE_trans h3 h2)
theorem lp_zero {ns : List Nd} {c p : Nat} (h : IsLp ns c 0 p) (hc : c ≤ ns.length) (hh : ∀ d ∈ ns, 1 ≤ d.h) : p = c := by
  rcases Nat.lt_or_ge p c with h1 | h1
  · exact absurd (hh _ (List.getElem_mem (show p < ns.length by omega))) (by have := h.2.2 p (by omega) (Nat.le_refl _) h1; omega)
  · have := h.1; omega
section
variable {w w' : World} {B t : Nat} {ns : List Nd} {n bytes turn : Int} {hv : Value} {hs : List Int}
set_option maxHeartbeats 2000000 in
theorem from_any (w : World) (x : Ent) (h : Skip w B t ns n bytes hv hs turn) :
    Calls Try.prog 84 #[.pointer (some ⟨t, 0, none⟩), x.agg] w fun e w' => e = .returned (pv ((ns[cutOf ns x]?).map (·.b))) ∧ Below w.heap.size w w' := by
  have HSK := Lib.hid h
  have hA := fun W (hW : Below w.heap.size w W) => ahead_any W B t ns n bytes hv hs turn x (cutOf ns x) (h.below hW) (cutOf_le ns x) (cutOf_lt ns x) (cutOf_ge ns x h.rise)
  have HA := Lib.hid hA
  clear h hA
  obtain ⟨K, S, D, V⟩ := x
  show Calls Try.prog 84 #[.pointer (some ⟨t, 0, none⟩), .agg #[.string K, .int .i64 S, .bool D, .string V]] w _
  go_enter Try.func84, Try.ntmps84
  go_wp2_with fail
  have hb1 : Below w.heap.size w (w.alloc (.cells #[.string K, .int .i64 S, .bool D, .string V] 26)) := (Below.refl _ _).alloc (Nat.le_refl _) _
  refine (HA.out _ hb1).mono ?_
  rintro e w1 ⟨⟨O, rfl, hO⟩, hb2⟩
  obtain ⟨o0, o1, o2, o3, o4, o5, o6, o7, rfl⟩ := list8 O hO.1
  obtain ⟨q, hq, hq2⟩ := hO.2 0 (by decide) (by decide)
  have hqc := lp_zero hq (cutOf_le _ _) (fun d hd => (HSK.out.high d hd).1)
  subst hqc
  have ho0 : o0 = pptr (pb t ns (cutOf ns ⟨K, S, D, V⟩)) := by simpa using hq2
  have hbA : Below w.heap.size w w1 := hb1.trans (hb2.mono hb1.size)
  have sk1 := HSK.out.below hbA
  have cn := sk1.next (cutOf ns ⟨K, S, D, V⟩) 0 (cutOf_le _ _) (by decide) hq.2.1
  rw [nx0 (fun d hd => (HSK.out.high d (List.mem_of_mem_drop hd)).1), List.head?_drop] at cn
  obtain ⟨ab, ao, hpb⟩ : ∃ ab ao, pb t ns (cutOf ns ⟨K, S, D, V⟩) = (ab, ao) := ⟨_, _, rfl⟩
  rw [hpb] at cn ho0
  subst ho0
  change w1.cell? ⟨ab, ao + 4 + 0, none⟩ = _ at cn
  rw [Nat.add_zero] at cn
  obtain ⟨r, hr⟩ : ∃ r, r = pv ((ns[cutOf ns ⟨K, S, D, V⟩]?).map (·.b)) := ⟨_, rfl⟩
  rw [← hr] at cn
  have HR := Lib.hid hr
  unfold pptr
  have hix : (Instr.index 76 (.agg #[.pointer (some ⟨ab, ao, none⟩), o1, o2, o3, o4, o5, o6, o7]) (.int .i64 0)).run Try.prog w1 = .ok (.pointer (some ⟨ab, ao, none⟩)) w1 := rfl
  clear hq2 hq hO sk1 hpb hr
  go_wp2
  go_ret
  exact ⟨by rw [← HR.out]; rfl, hbA⟩
theorem Skip.nodeNext (h : Skip w B t ns n bytes hv hs turn) (i : Nat) (hi : i < ns.length) : w.cell? ⟨ns[i].b, 4, none⟩ = some (pv ((ns[i + 1]?).map (·.b))) := by
  have h1 := h.next (i + 1) 0 (by omega) (by decide) (.inr ⟨by simpa using hi, by have := (h.high _ (List.getElem_mem hi)).1; simp; omega⟩)
  rw [pb_succ t ns i hi, nx0 (fun d hd => (h.high d (List.mem_of_mem_drop hd)).1), List.head?_drop] at h1
  exact h1
def lenOf : Value → Nat
  | .slice _ n _ => n
  | _ => 0
theorem ent_info : (Try.prog.info? 26).map (fun i => (i.zero, i.size, i.bytes)) = some (some (.agg #[.string ⟨#[]⟩, .int .i64 0, .bool false, .string ⟨#[]⟩]), 4, 48) := by kernel_rfl
set_option maxHeartbeats 2000000 in
/-- The versions from the node i on. -/
theorem list_any (w : World) (i : Nat) (h : Skip w B t ns n bytes hv hs turn) (hi : i ≤ ns.length) (hn : ns.length ≤ 1099511627776) :
    Calls Try.prog 60 #[pv ((ns[i]?).map (·.b))] w fun e w' => ∃ v, e = .returned v ∧ w'.ownsRow w.heap.size 26 4 v (ns.length - i) (entv ((ns.map (·.x)).drop i)) ∧ Below w.heap.size w w' := by
  obtain ⟨i0, hi0, hz0, hz1, hz2⟩ := info_parts ent_info
  have HSK := Lib.hid h
  clear h
  generalize hpv : pv ((ns[i]?).map (·.b)) = p0
  go_enter Try.func60, Try.ntmps60
  go_wp2
  go_loopw [0, 3] (fun av v wx => ∃ k : Nat, i ≤ k ∧ k ≤ ns.length ∧ av = pv ((ns[k]?).map (·.b)) ∧ wx.ownsRow w.heap.size 26 4 v (k - i) (entv (((ns.map (·.x)).drop i).take (k - i))) ∧ Below w.heap.size w wx) (fun _ v _ => ns.length - i + 1 - lenOf v)
  case atStart => exact ⟨i, Nat.le_refl _, hi, hpv.symm, by rw [Nat.sub_self]; exact World.ownsRow_nil _ _ _ _, Below.refl _ _⟩
  case round =>
    obtain ⟨k, hik, hkn, rfl, how, hb⟩ := hrel
    obtain ⟨A3, c3, rfl⟩ := own_shape how
    have HOW := Lib.hid how
    have HB := Lib.hid hb
    have hbs := hb.size
    have skr := HSK.out.below hb
    by_cases hlt : k < ns.length
    · obtain ⟨y, hy⟩ : ∃ y, y = ns[k].x := ⟨_, rfl⟩
      have he := skr.ent k hlt
      rw [← hy] at he
      obtain ⟨e0, e1, e2, e3⟩ := he
      have cn := skr.nodeNext k hlt
      obtain ⟨b, hb2⟩ : ∃ b, b = ns[k].b := ⟨_, rfl⟩
      rw [← hb2] at e0 e1 e2 e3 cn
      have hp : pv ((ns[k]?).map (·.b)) = .pointer (some ⟨b, 0, none⟩) := by rw [List.getElem?_eq_getElem hlt, hb2]; rfl
      rw [hp]
      have hst : ((ns.map (·.x)).drop i).take (k + 1 - i) = ((ns.map (·.x)).drop i).take (k - i) ++ [y] := by
        rw [show k + 1 - i = k - i + 1 by omega, List.take_add_one, List.getElem?_drop, show i + (k - i) = k by omega, List.getElem?_map, List.getElem?_eq_getElem hlt, hy]
        rfl
      have hbl0 : b < w.heap.size := by rw [hb2]; exact HSK.out.nlt k hlt
      obtain ⟨nxt, hnx⟩ : ∃ nxt, nxt = pv ((ns[k + 1]?).map (·.b)) := ⟨_, rfl⟩
      rw [← hnx] at cn
      have HST := Lib.hid hst
      have HN := Lib.hid hnx
      have hbl : b < wr.heap.size := by rw [hb2]; exact skr.nlt k hlt
      clear hst hnx hy hb2 hp how hb skr
      go_wp2_with (at_builtin; refine wpList_push rfl (.tmp 11) (.tmp 16) 22 rfl w.heap.size 26 i0 _ 4 48 Try.underlying22 hi0 hz0 hz1 hz2 rfl (by omega) _ (k - i) (entv (((ns.map (·.x)).drop i).take (k - i))) #[.string y.key, .int .i64 y.seq, .bool y.dead, .string y.val] rfl (by exact HOW.out) rfl rfl (by simp [Value.oneCell']) ?c1 ?c2 ?c3 ?_)
      case c1 => omega
      case c2 => unfold maxLen; omega
      all_goals try (exact hbs)
      intro v' w2 ho2 hu2 hra2
      have hb2 := below_row HB.out hbs HOW.out (Nat.le_refl _) hu2
      have ho3 : w2.ownsRow w.heap.size 26 4 v' (k + 1 - i) (entv (((ns.map (·.x)).drop i).take (k + 1 - i))) := by
        rw [HST.out, entv_append, entv_one, show k + 1 - i = k - i + 1 by omega]
        exact ho2
      have cn2 : w2.cell? ⟨b, 4, none⟩ = some nxt := by
        rw [hu2.cell (p := ⟨b, 4, none⟩) hbl (fun e => ?_)]
        · exact cn
        · have := (HOW.out.lt b e).1
          omega
      obtain ⟨A4, c4, rfl⟩ := own_shape ho2
      clear ho2 hra2 cn e0 e1 e2 e3
      go_wp2
      refine ⟨⟨k + 1, by omega, by omega, HN.out, ho3, hb2⟩, ?_⟩
      simp [lenOf]
      omega
    · obtain rfl : k = ns.length := by omega
      have hp : pv ((ns[ns.length]?).map (·.b)) = .pointer none := by rw [List.getElem?_eq_none (Nat.le_refl _)]; rfl
      rw [hp]
      clear hp skr
      go_wp2
      go_ret
      refine ⟨_, rfl, ?_, hb⟩
      rw [List.take_of_length_le (by rw [List.length_drop, List.length_map]; exact Nat.le_refl _)] at how
      exact how
set_option maxHeartbeats 2000000 in
theorem all_any (w : World) (h : Skip w B t ns n bytes hv hs turn) (hn : ns.length ≤ 1099511627776) :
    Calls Try.prog 22 #[.pointer (some ⟨t, 0, none⟩)] w fun e w' => ∃ v, e = .returned v ∧ w'.ownsRow w.heap.size 26 4 v ns.length (entv (ns.map (·.x))) ∧ Below w.heap.size w w' := by
  have hl := list_any w 0 h (Nat.zero_le _) hn
  have cn := h.next 0 0 (Nat.zero_le _) (by decide) (.inl rfl)
  rw [nx0 (fun d hd => (h.high d (List.mem_of_mem_drop hd)).1), List.head?_drop] at cn
  change w.cell? ⟨t, 6, none⟩ = _ at cn
  obtain ⟨r, hr⟩ : ∃ r, r = pv ((ns[0]?).map (·.b)) := ⟨_, rfl⟩
  rw [← hr] at cn hl
  have HL := Lib.hid hl
  clear hl h hr
  go_enter Try.func22, Try.ntmps22
  go_wp2_with fail
  refine (HL.out).mono ?_
  rintro e w1 ⟨v, rfl, ho, hb⟩
  go_wp2
  go_ret
  exact ⟨v, rfl, by simpa using ho, hb⟩
/-- Where the versions from a key on begin. -/
def fromAt (ns : List Nd) (key : ByteArray) : Nat := cutOf ns ⟨key, 9223372036854775807, false, ⟨#[]⟩⟩
set_option maxHeartbeats 2000000 in
theorem fromk_any (w : World) (key : ByteArray) (h : Skip w B t ns n bytes hv hs turn) (hn : ns.length ≤ 1099511627776) :
    Calls Try.prog 45 #[.pointer (some ⟨t, 0, none⟩), .string key] w fun e w' => ∃ v, e = .returned v ∧ w'.ownsRow w.heap.size 26 4 v (ns.length - fromAt ns key) (entv ((ns.map (·.x)).drop (fromAt ns key))) ∧ Below w.heap.size w w' := by
  have hf := from_any w ⟨key, 9223372036854775807, false, ⟨#[]⟩⟩ h
  change Calls _ _ #[.pointer (some ⟨t, 0, none⟩), .agg #[.string key, .int .i64 9223372036854775807, .bool false, .string ⟨#[]⟩]] _ _ at hf
  have HF := Lib.hid hf
  have HL := Lib.hid (fun W (hW : Below w.heap.size w W) => list_any W (fromAt ns key) (h.below hW) (cutOf_le _ _) hn)
  clear hf h
  go_enter Try.func45, Try.ntmps45
  go_wp2_with fail
  refine (HF.out).mono ?_
  rintro e w1 ⟨rfl, hb1⟩
  have hl := HL.out w1 hb1
  unfold fromAt at hl
  obtain ⟨r, hr⟩ : ∃ r, r = pv ((ns[cutOf ns ⟨key, 9223372036854775807, false, ⟨#[]⟩⟩]?).map (·.b)) := ⟨_, rfl⟩
  rw [← hr] at hl ⊢
  have HL2 := Lib.hid hl
  clear hl hr
  go_wp2_with fail
  refine (HL2.out).mono ?_
  rintro e w2 ⟨v, rfl, ho, hb2⟩
  go_wp2
  go_ret
  exact ⟨v, rfl, own_mono ho hb1.size, hb1.trans (hb2.mono hb1.size)⟩
theorem Skip.c0 (h : Skip w B t ns n bytes hv hs turn) : w.cell? ⟨t, 0, none⟩ = some (.int .i64 n) := by rw [cell_of_row w t 0 _ _ _ h.tab]; rfl
theorem Skip.c1 (h : Skip w B t ns n bytes hv hs turn) : w.cell? ⟨t, 1, none⟩ = some (.int .i64 bytes) := by rw [cell_of_row w t 1 _ _ _ h.tab]; rfl
theorem len_any (w : World) (h : Skip w B t ns n bytes hv hs turn) :
    Calls Try.prog 43 #[.pointer (some ⟨t, 0, none⟩)] w fun e w' => e = .returned (.int .i64 n) ∧ w' = w := by
  have c := h.c0
  clear h
  go_enter Try.func43, Try.ntmps43
  go_wp2
  go_ret
  exact ⟨rfl, rfl⟩
end
end Go.Proofs.Ytcfgmkiohmbdlaa
