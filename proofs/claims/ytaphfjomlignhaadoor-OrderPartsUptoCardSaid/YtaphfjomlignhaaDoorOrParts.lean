/- Keys: the law OrderParts, walked. -/
import Derived.Test.YtaphfjomlignhaaDoorOrLives
namespace Go.Proofs.YtaphfjomlignhaaDoor
open Go.RowKit
theorem own_set {w : World} {base g cap n size : Nat} {e : TypeId} {xs : List Value} (h : w.ownsRow base e size (.slice (some ⟨g, 0, none⟩) n cap) n xs) (j : Nat) (u : Value) : (w.setCell ⟨g, j, none⟩ u).ownsRow base e size (.slice (some ⟨g, 0, none⟩) n cap) n (xs.set j u) := by
  obtain ⟨hl, h⟩ := h
  rcases h with ⟨h, _⟩ | ⟨g', cap', cur, hv, hb, hg, hn, hm, hc, hx⟩
  · injection h with h; cases h
  · injection hv with h1 h2 h3
    injection h1 with h1
    injection h1 with h1
    subst h1; subst h3
    exact ⟨by rw [List.length_set]; exact hl, .inr ⟨g, cap, _, rfl, hb, heap_setCell_same w g j _ _ u hg, hn, hm, by simpa using hc, by rw [← hx, Array.toList_setIfInBounds, List.take_set]⟩⟩
theorem own_frozen {w : World} {base g cap n size : Nat} {e : TypeId} {xs : List Value} (h : w.ownsRow base e size (.slice (some ⟨g, 0, none⟩) n cap) n xs) (j : Nat) : w.frozen? ⟨g, j, none⟩ = false := by
  obtain ⟨hl, h⟩ := h
  rcases h with ⟨h, _⟩ | ⟨g', cap', cur, hv, hb, hg, hn, hm, hc, hx⟩
  · injection h with h; cases h
  · injection hv with h1 h2 h3
    injection h1 with h1
    injection h1 with h1
    subst h1
    exact frozen_of_row _ _ _ _ _ hg
theorem ptv_set (l : List Pt) : ∀ (k j : Nat) (h : k < l.length) (u : Value) (p : Pt), j < 3 → p.cells = l[k].cells.set j u → (ptv l).set (k * 3 + j) u = ptv (l.set k p) := by
  induction l with
  | nil => intro k j h; simp at h
  | cons i l ih =>
    intro k j h u p hj hp
    have hl : i.cells.length = 3 := rfl
    cases k with
    | zero =>
      rw [ptv_cons, List.set_append_left _ _ (by omega), List.set_cons_zero, ptv_cons, hp]
      simp
    | succ k =>
      rw [ptv_cons, List.set_append_right _ _ (by omega), hl, List.set_cons_succ, ptv_cons, show (k + 1) * 3 + j - 3 = k * 3 + j by omega]
      rw [ih k j (by simpa using h) u p hj hp]
/-- Parts of the call's own, whatever stands in them. -/
def OwnP (w : World) (B : Nat) (v : Value) (n : Nat) : Prop := ∃ l, w.ownsRow B 31 3 v n (ptv l)
theorem OwnP.at {w : World} {B n k : Nat} {v : Value} (h : OwnP w B v n) (hk : k < n) :
    ∃ g cap K N T, v = .slice (some ⟨g, 0, none⟩) n cap ∧ (w.cell? ⟨g, k * 3, none⟩ = some (.int .i64 K) ∧ w.cell? ⟨g, k * 3 + 1, none⟩ = some (.int .i64 N) ∧ w.cell? ⟨g, k * 3 + 2, none⟩ = some (.string T)) ∧
      (∀ j, w.frozen? ⟨g, j, none⟩ = false) ∧ (∀ z, OwnP (w.setCell ⟨g, k * 3 + 1, none⟩ (.int .i64 z)) B v n) ∧ (∀ s, OwnP (w.setCell ⟨g, k * 3 + 2, none⟩ (.string s)) B v n) := by
  obtain ⟨l, h⟩ := h
  obtain ⟨g, cap, rfl, _, _, _⟩ := own_form h (by omega)
  obtain ⟨b, off, hA, _, hs, c0, c1, c2⟩ := (Rd.own h).pt hk
  injection hA with hA
  injection hA with hA1 hA2
  subst hA1; subst hA2
  simp only [Nat.zero_add] at c0 c1 c2
  refine ⟨g, cap, _, _, _, rfl, ⟨c0, c1, c2⟩, own_frozen h, fun z => ?_, fun s => ?_⟩
  · exact ⟨l.set k ⟨l[k].kind, z, l[k].text⟩, by rw [← ptv_set l k 1 hs (.int .i64 z) ⟨l[k].kind, z, l[k].text⟩ (by omega) rfl]; exact own_set h _ _⟩
  · exact ⟨l.set k ⟨l[k].kind, l[k].num, s⟩, by rw [← ptv_set l k 2 hs (.string s) ⟨l[k].kind, l[k].num, s⟩ (by omega) rfl]; exact own_set h _ _⟩
theorem OwnP.shape {w : World} {B n : Nat} {v : Value} (h : OwnP w B v n) : ∃ A c, v = .slice A n c := by obtain ⟨l, h⟩ := h; exact own_shape h
theorem OwnP.upd {S : Nat → Prop} {w w' : World} {B n : Nat} {v : Value} (h : OwnP w B v n) (hu : Upd S w w') (hs : ∀ k, v.ownBlock = some k → ¬ S k) : OwnP w' B v n := by
  obtain ⟨l, h⟩ := h; exact ⟨l, own_upd h hu hs⟩
set_option maxHeartbeats 4000000 in
set_option maxRecDepth 20000 in
theorem parts_any (w : World) (A : Option Addr) (n c : Nat) (l : List Int) (A2 : Option Addr) (n2 c2 : Nat) (ss : List ByteArray) (m : Int) (hm : MaxAt w m) (hr : Rd w w.heap.size 1 A n (i64v l)) (hn : n ≤ 1048576) (hr2 : Rd w w.heap.size 1 A2 n2 (strv ss)) (hn2 : n2 ≤ 1048576) :
    Calls Tryd.prog 4 #[.slice A n c, .slice A2 n2 c2] w fun e w' => e = .returned (.bool true) ∧ Below w.heap.size w w' := by
  obtain ⟨i0, hi0, hz0, hz1, hz2⟩ := info_parts pt_info
  have hl1 : l.length = n := by have := hr.len; rw [i64v_length] at this; omega
  have hl2 : ss.length = n2 := by have := hr2.len; rw [strv_length] at this; omega
  have HL1 := Lib.hid hl1
  have HL2 := Lib.hid hl2
  have HR := Lib.hid hr
  have HR2 := Lib.hid hr2
  clear hl1 hl2 hr hr2
  go_enter Tryd.func4, Tryd.ntmps4
  go_wp2_with fail
  refine (olives_any _ m hm).mono ?_
  rintro e w1 ⟨rfl, hb1⟩
  have HB1 := Lib.hid hb1
  have hs1 := hb1.size
  clear hb1 hm
  go_wp2_with fail
  refine (ints_any w1 A n c l ((HR.out.below HB1.out).mono hs1) hn).mono ?_
  rintro e w2 ⟨va, rfl, hoa, hb2⟩
  have hs2 := hb2.size
  have hla := hoa.lt
  have HOA : Hid (OwnP w2 w1.heap.size va n) := Lib.hid ⟨_, by rw [List.length_map, HL1.out] at hoa; exact hoa⟩
  have HB2 := Lib.hid (HB1.out.trans (hb2.mono hs1))
  have HLA := Lib.hid hla
  clear hoa hb2 HB1 hla
  go_wp2_with fail
  refine (ints_any w2 A n c l ((HR.out.below HB2.out).mono (by omega)) hn).mono ?_
  rintro e w3 ⟨vb, rfl, hob, hb3⟩
  have hs3 := hb3.size
  have HLB := Lib.hid hob.lt
  have HOB := Lib.hid hob
  have HOA3 := Lib.hid (HOA.out.upd (S := fun _ => False) (Upd.of_below hb3) (fun _ _ h => h))
  have HB3 := Lib.hid (HB2.out.trans (hb3.mono (by omega)))
  clear hob hb3 HB2 HOA
  go_wp2_with fail
  refine (texts_any w3 A2 n2 c2 ss ((HR2.out.below HB3.out).mono (by omega)) hn2).mono ?_
  rintro e w4 ⟨vc, rfl, hoc, hb4⟩
  have hs4 := hb4.size
  have HLC := Lib.hid hoc.lt
  have HOC : Hid (OwnP w4 w3.heap.size vc n2) := Lib.hid ⟨_, by rw [List.length_map, HL2.out] at hoc; exact hoc⟩
  have HOA4 := Lib.hid (HOA3.out.upd (S := fun _ => False) (Upd.of_below hb4) (fun _ _ h => h))
  have HOB4 := Lib.hid (own_below HOB.out hb4)
  have HB4 := Lib.hid (HB3.out.trans (hb4.mono (by omega)))
  clear hoc hb4 HB3 HOA3 HOB
  go_wp2_with fail
  refine (texts_any w4 A2 n2 c2 ss ((HR2.out.below HB4.out).mono (by omega)) hn2).mono ?_
  rintro e w5 ⟨vd, rfl, hod, hb5⟩
  have hs5 := hb5.size
  have HLD := Lib.hid hod.lt
  have HOD := Lib.hid hod
  have HOA5 := Lib.hid (HOA4.out.upd (S := fun _ => False) (Upd.of_below hb5) (fun _ _ h => h))
  have HOC5 := Lib.hid (HOC.out.upd (S := fun _ => False) (Upd.of_below hb5) (fun _ _ h => h))
  have HOB5 := Lib.hid (own_below HOB4.out hb5)
  have HB5 := Lib.hid (HB4.out.trans (hb5.mono (by omega)))
  clear hod hb5 HB4 HOA4 HOC HOB4
  obtain ⟨Aa, ca, hva⟩ := HOA5.out.shape
  obtain ⟨Ac, cc, hvc⟩ := HOC5.out.shape
  obtain ⟨Ab, cb, hvb⟩ := own_shape HOB5.out
  obtain ⟨Ad, cd, hvd⟩ := own_shape HOD.out
  have hlb : (l.map ipt).length = n := by rw [List.length_map, HL1.out]
  have hld : (ss.map tpt).length = n2 := by rw [List.length_map, HL2.out]
  rw [hlb] at hvb
  rw [hld] at hvd
  have HHB := Lib.hid hlb
  have HHD := Lib.hid hld
  subst hva hvb hvc hvd
  clear hlb hld
  go_wp2
  go_loopw [39] (fun i wx => ∃ k : Nat, k ≤ n ∧ i = .int .i64 k ∧ Hid (OwnP wx w1.heap.size (.slice Aa n ca) n) ∧ Hid (Upd (fun b => (Value.slice Aa n ca).ownBlock = some b) w5 wx)) (fun i _ => n - (intOf i).toNat)
  case atStart => exact ⟨0, Nat.zero_le _, rfl, HOA5, Lib.hid (Upd.refl _ _)⟩
  case round =>
    obtain ⟨k, hk, rfl, hO, hU⟩ := hrel
    by_cases hlt : k < n
    · obtain ⟨g, cap, K, N, T, hv, ⟨c0, c1, c2⟩, hf, hp1, hp2⟩ := hO.out.at hlt
      injection hv with hv1 hv2 hv3
      subst hv1 hv3
      have f1 := hf (k * 3 + 1)
      have HP1 := Lib.hid hp1
      have HU2 := Lib.hid (fun z => hU.out.setCell (⟨g, k * 3 + 1, none⟩ : Addr) rfl (.int .i64 z))
      clear hf hp1 hp2 hO hU
      go_wp2
      go_roundw
      case rel => exact ⟨k + 1, by omega, by go_num, Lib.hid (HP1.out _), Lib.hid (HU2.out _)⟩
      case measure => simp [intOf]; omega
    · have e : n = k := by omega
      clear hlt hk
      subst e
      have hdac : ∀ b, (Value.slice Ac n2 cc).ownBlock = some b → ¬ (Value.slice Aa n ca).ownBlock = some b := fun b h h' => by
        have h1 := (HLC.out b h).1
        have h2 := (HLA.out b h').2
        omega
      have HOC6 := Lib.hid (HOC5.out.upd hU.out hdac)
      obtain ⟨w6, hw6⟩ : ∃ x, wr = x := ⟨_, rfl⟩
      rw [hw6] at hO hU HOC6 ⊢
      have HOA6 := hO
      have HU6 := hU
      clear hw6 hO hU HOA5 HOC5 hdac
      go_wp2
      go_loopw [55] (fun i wx => ∃ k : Nat, k ≤ n2 ∧ i = .int .i64 k ∧ Hid (OwnP wx w3.heap.size (.slice Ac n2 cc) n2) ∧ Hid (Upd (fun b => (Value.slice Ac n2 cc).ownBlock = some b) w6 wx)) (fun i _ => n2 - (intOf i).toNat)
      case atStart => exact ⟨0, Nat.zero_le _, rfl, HOC6, Lib.hid (Upd.refl _ _)⟩
      case round =>
        obtain ⟨k, hk, rfl, hO, hU⟩ := hrel
        by_cases hlt : k < n2
        · obtain ⟨g, cap, K, N, T, hv, ⟨c0, c1, c2⟩, hf, hp1, hp2⟩ := hO.out.at hlt
          injection hv with hv1 hv2 hv3
          subst hv1 hv3
          have f2 := hf (k * 3 + 2)
          have HP2 := Lib.hid hp2
          have HU2 := Lib.hid (fun z => hU.out.setCell (⟨g, k * 3 + 2, none⟩ : Addr) rfl (.string z))
          clear hf hp1 hp2 hO hU
          go_wp2
          go_roundw
          case rel => exact ⟨k + 1, by omega, by go_num, Lib.hid (HP2.out _), Lib.hid (HU2.out _)⟩
          case measure => simp [intOf]; omega
        · have e : n2 = k := by omega
          clear hlt hk
          subst e
          have hdca : ∀ b, (Value.slice Aa n ca).ownBlock = some b → ¬ (Value.slice Ac n2 cc).ownBlock = some b := fun b h h' => by
            have h1 := (HLA.out b h).2
            have h2 := (HLC.out b h').1
            omega
          have HOA7 := Lib.hid (HOA6.out.upd hU.out hdca)
          obtain ⟨w7, hw7⟩ : ∃ x, wr = x := ⟨_, rfl⟩
          rw [hw7] at hO hU HOA7 ⊢
          have HOC7 := hO
          have HU7 : Hid (Upd (fun b => (Value.slice Aa n ca).ownBlock = some b ∨ (Value.slice Ac n2 cc).ownBlock = some b) w5 w7) := Lib.hid ((HU6.out.mono (fun k _ h => .inl h)).trans (hU.out.mono (fun k _ h => .inr h)) (fun _ _ h => h))
          clear hw7 hO hU HOA6 HOC6 hdca HU6
          have hs7 := HU7.out.size
          obtain ⟨la, hla⟩ := HOA7.out
          have HLA7 := Lib.hid hla
          clear hla HOA7
          go_wp2_with (at_builtin; refine wpList_push rfl (.tmp 63) (.tmp 65) 27 rfl w1.heap.size 31 i0 _ 3 32 Tryd.underlying27 hi0 hz0 hz1 hz2 rfl (by decide) _ n (ptv la) #[.int .i64 0, .int .i64 0, .string ⟨#[]⟩] rfl (by exact HLA7.out) rfl rfl ?p1 ?p2 ?p3 ?p4 ?_)
          case p1 => first | exact ⟨rfl, rfl⟩ | exact ⟨rfl, rfl, rfl⟩ | (intro u hu; simp at hu; rcases hu with rfl | rfl | rfl <;> rfl)
          case p2 => omega
          case p3 => unfold maxLen; omega
          case p4 => omega
          intro v8 w8 hown8 hu8 hat8
          obtain ⟨A8, c8, hv8⟩ := own_shape hown8
          subst hv8
          have hdca : ∀ b, (Value.slice Ac n2 cc).ownBlock = some b → ¬ (Value.slice Aa n ca).ownBlock = some b := fun b h h' => by
            have h1 := (HLC.out b h).1
            have h2 := (HLA.out b h').2
            omega
          have HOC8 := Lib.hid (HOC7.out.upd hu8 hdca)
          have hs8 := hu8.size
          have HU8 : Hid (Upd (fun b => (Value.slice Aa n ca).ownBlock = some b ∨ (Value.slice Ac n2 cc).ownBlock = some b) w5 w8) := Lib.hid (HU7.out.trans (hu8.mono (fun k _ h => .inl h)) (fun _ _ h => h))
          clear hown8 hu8 hat8 hdca HOC7 HU7 HLA7
          obtain ⟨lc, hlc⟩ := HOC8.out
          have HLC8 := Lib.hid hlc
          clear hlc HOC8
          go_wp2_with (at_builtin; refine wpList_push rfl (.tmp 67) (.tmp 69) 27 rfl w3.heap.size 31 i0 _ 3 32 Tryd.underlying27 hi0 hz0 hz1 hz2 rfl (by decide) _ n2 (ptv lc) #[.int .i64 0, .int .i64 0, .string ⟨#[]⟩] rfl (by exact HLC8.out) rfl rfl ?q1 ?q2 ?q3 ?q4 ?_)
          case q1 => first | exact ⟨rfl, rfl⟩ | exact ⟨rfl, rfl, rfl⟩ | (intro u hu; simp at hu; rcases hu with rfl | rfl | rfl <;> rfl)
          case q2 => omega
          case q3 => unfold maxLen; omega
          case q4 => omega
          intro v9 w9 hown9 hu9 hat9
          obtain ⟨A9, c9, hv9⟩ := own_shape hown9
          subst hv9
          have HU9 : Hid (Upd (fun b => (Value.slice Aa n ca).ownBlock = some b ∨ (Value.slice Ac n2 cc).ownBlock = some b) w5 w9) := Lib.hid (HU8.out.trans (hu9.mono (fun k _ h => .inr h)) (fun _ _ h => h))
          have hs9 := hu9.size
          clear hown9 hu9 hat9 HU8 HLC8
          have HW9 : Hid (Below w.heap.size w w9) := Lib.hid (HB5.out.trans (HU9.out.below (fun k hk h => by
            rcases h with h | h
            · have := (HLA.out k h).1; omega
            · have := (HLC.out k h).1; omega) (by omega)))
          have HOB9 : Hid (w9.ownsRow w2.heap.size 31 3 (.slice Ab n cb) (l.map ipt).length (ptv (l.map ipt))) := Lib.hid (own_upd HOB5.out HU9.out (fun b h h' => by
            have h0 := HLB.out b h
            rcases h' with h' | h'
            · have := (HLA.out b h').2; omega
            · have := (HLC.out b h').1; omega))
          have HOD9 : Hid (w9.ownsRow w4.heap.size 31 3 (.slice Ad n2 cd) (ss.map tpt).length (ptv (ss.map tpt))) := Lib.hid (own_upd HOD.out HU9.out (fun b h h' => by
            have h0 := HLD.out b h
            rcases h' with h' | h'
            · have := (HLA.out b h').2; omega
            · have := (HLC.out b h').2; omega))
          have HRB : Hid (Rd w9 w9.heap.size 3 Ab n (ptv (l.map ipt))) := Lib.hid (by have := HOB9.out; rw [HHB.out] at this; exact Rd.own this)
          have HRD : Hid (Rd w9 w9.heap.size 3 Ad n2 (ptv (ss.map tpt))) := Lib.hid (by have := HOD9.out; rw [HHD.out] at this; exact Rd.own this)
          have HR9 := Lib.hid (HR.out.below HW9.out)
          have HRS9 := Lib.hid (HR2.out.below HW9.out)
          clear HOB9 HOD9 HOB5 HOD HU9 HR HR2
          go_wp2
          go_loop [73] (fun i => ∃ k : Nat, k ≤ n ∧ i = .int .i64 k) (fun i => n - (intOf i).toNat)
          case atStart => exact ⟨0, Nat.zero_le _, rfl⟩
          case round =>
            obtain ⟨k, hk, rfl⟩ := hrel
            by_cases hlt : k < n
            · obtain ⟨ad, hAd, _, hs, hc⟩ := HR9.out.i64 hlt
              obtain ⟨b, off, hAb, _, hs', d0, d1, d2⟩ := HRB.out.pt hlt
              subst hAd hAb
              simp only [List.getElem_map, ipt] at d0 d1 d2
              go_wp2
              exact ⟨⟨k + 1, by omega, by go_num⟩, by simp [intOf]; omega⟩
            · have e : n = k := by omega
              clear hlt hk
              subst e
              go_wp2
              go_loop [88] (fun i => ∃ k : Nat, k ≤ n2 ∧ i = .int .i64 k) (fun i => n2 - (intOf i).toNat)
              case atStart => exact ⟨0, Nat.zero_le _, rfl⟩
              case round =>
                obtain ⟨k, hk, rfl⟩ := hrel
                by_cases hlt : k < n2
                · obtain ⟨ad, hAd, _, hs, hc⟩ := HRS9.out.str hlt
                  obtain ⟨b, off, hAb, _, hs', d0, d1, d2⟩ := HRD.out.pt hlt
                  subst hAd hAb
                  simp only [List.getElem_map, tpt] at d0 d1 d2
                  go_wp2
                  exact ⟨⟨k + 1, by omega, by go_num⟩, by simp [intOf]; omega⟩
                · have e : n2 = k := by omega
                  clear hlt hk
                  subst e
                  go_wp2
                  go_ret
                  exact ⟨rfl, HW9.out⟩
theorem strs_len (l : List ByteArray) : l.length ≤ (l.map fun s => s.size + 1).sum := by
  induction l with
  | nil => simp
  | cons s l ih => rw [List.map_cons, List.sum_cons, List.length_cons]; omega
theorem rd_len {w : World} {B n : Nat} {A : Option Addr} {l : List ByteArray} (h : Rd w B 1 A n (strv l)) : n = l.length := by have := h.len; rw [strv_length] at this; omega
theorem rd_len0 {w : World} {B n : Nat} {A : Option Addr} {l : List Int} (h : Rd w B 1 A n (i64v l)) : n = l.length := by have := h.len; rw [i64v_length] at this; omega
end Go.Proofs.YtaphfjomlignhaaDoor
