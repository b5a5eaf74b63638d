/- Seating: a new room; All. -/
import Derived.Test.YtddiabpjmnmllaaDoorJFtSit
import Derived.Test.YtddiabpjmnmllaaDoorJCbSp1
import Derived.Test.YtddiabpjmnmllaaDoorJCbSp0
namespace Go.Proofs.YtddiabpjmnmllaaDoor
open Go.RowKit Go.Lib
open Go.Maps (Keyed)
theorem spotsB_blk (r : MRow) : ∀ (l : List UInt8) (b : Int), ∀ x ∈ spotsB r l b, b ≤ x.blk ∧ x.blk ≤ b + dotsN l := by
  intro l
  induction l with
  | nil => intro b x hx; simp [spotsB] at hx
  | cons c t ih =>
    intro b x hx
    simp only [spotsB] at hx
    simp only [dotsN]
    split at hx
    · rename_i h
      rw [if_pos h]
      have := ih _ _ hx
      omega
    · rename_i h
      rw [if_neg h]
      rcases List.mem_cons.1 hx with rfl | hx
      · simp only [spotOf]; omega
      · exact ih _ _ hx
theorem spotsAll_blk : ∀ (l : List MRow) (b : Int), (∀ r ∈ l, dotsN r.seats.data.toList ≤ 5) → ∀ x ∈ spotsAll l b, b ≤ x.blk ∧ x.blk ≤ b + 6 * l.length := by
  intro l
  induction l with
  | nil => intro b _ x hx; simp [spotsAll] at hx
  | cons r t ih =>
    intro b h x hx
    have h5 := h r (by simp)
    simp only [spotsAll] at hx
    rcases List.mem_append.1 hx with hx | hx
    · have := spotsB_blk r _ _ x hx
      simp only [List.length_cons]; omega
    · have := ih _ (fun r hr => h r (by simp [hr])) x hx
      simp only [List.length_cons]; omega
theorem spots_blk (l : List MRow) : ∀ x ∈ spotsL l, 0 ≤ x.blk ∧ x.blk ≤ 36 := by
  unfold spotsL
  split
  · rename_i h
    unfold checkL at h
    simp only [Bool.and_eq_true, decide_eq_true_eq] at h
    intro x hx
    have := spotsAll_blk l 0 (fun r hr => (seats_short (check_rows l 0 h.2 r hr).1).2) x hx
    omega
  · simp
theorem spots_len (l : List MRow) : (spotsL l).length ≤ 66 := by
  unfold spotsL
  split
  · rename_i h
    unfold checkL at h
    simp only [Bool.and_eq_true, decide_eq_true_eq] at h
    have := spotsAll_len l 0 fun r hr => (seats_short (check_rows l 0 h.2 r hr).1).1
    omega
  · simp
theorem own_rd {w : World} {base size n : Nat} {e : TypeId} {v : Value} {xs : List Value} (h : w.ownsRow base e size v n xs) : ∃ A c, v = .slice A n c ∧ Rd w w.heap.size size A n xs := by
  rcases h.2 with ⟨h1, h2⟩ | ⟨g, cap, cur, h1, h3, h4, h5, h6, h7, h8⟩
  · subst h2
    exact ⟨none, 0, h1, by simpa using h.1, fun h => absurd h (Nat.lt_irrefl 0)⟩
  · subst h1
    exact ⟨_, cap, rfl, h.1, fun _ => ⟨_, rfl, (Array.getElem?_eq_some_iff.1 h4).1, h.cells (g := g) rfl⟩⟩
set_option maxHeartbeats 8000000 in
set_option maxRecDepth 20000 in
theorem newRoom_any (w : World) (m : Int) (A : Option Addr) (n c : Nat) (l : List MRow) (hr : Rd w w.heap.size 5 A n (catv rowC l)) (hf : ∀ r ∈ l, r.fits) (hLib : LibAt w m) :
    Calls Tryd.prog 39 #[.slice A n c] w fun e w' => e = .returned (.pointer (some ⟨w.heap.size + 3, 0, none⟩)) ∧ RoomAt w' w.heap.size (w.heap.size + 3) w.heap.size (w.heap.size + 1) (w.heap.size + 2) 66 (spotsL l) [] ∧ Below w.heap.size w w' := by
  have HRD := Lib.hid hr
  have HF := Lib.hid hf
  have HLib := Lib.hid hLib
  have HLN := Lib.hid (spots_len l)
  have HDS := Lib.hid (spots_distinct l)
  have HBK := Lib.hid (spots_blk l)
  obtain ⟨F, hFF⟩ : ∃ F, spotsL l = F := ⟨_, rfl⟩
  have HSP := fun w hr hL => spots_any w m A n c l hr hf hL
  rw [hFF] at HLN HDS HBK HSP ⊢
  obtain ⟨V, hV⟩ : ∃ V, V = (((w.alloc (.map #[] 0)).alloc (.map #[] 0)).alloc (.map #[] 0)).alloc (.cells #[.map (some w.heap.size), .map (some (w.heap.size + 1)), .map (some (w.heap.size + 2))] 99) := ⟨_, rfl⟩
  have hmm := @run_makeMap Tryd.prog
  clear hr hf hLib hFF
  go_enter Tryd.func39, Tryd.ntmps39
  go_wp2_with fail
  rw [← hV]
  have hF66 := HLN.out
  have hbV : Below w.heap.size w V := by rw [hV]; exact ((((Below.refl _ w).alloc (Nat.le_refl _) _).alloc (by simp) _).alloc (by simp <;> omega) _).alloc (by simp <;> omega) _
  have hVs : V.heap.size = w.heap.size + 4 := by rw [hV]; simp
  have v1 : SpMap V w.heap.size 0 [] := by
    rw [hV]
    exact VMap.upd (S := fun _ => False) (VMap.made w) (Upd.of_below ((((Below.refl _ _).alloc (Nat.le_refl _) _).alloc (by simp) _).alloc (by simp <;> omega) _)) id
  have v2 : TkMap V (w.heap.size + 1) 0 [] := by
    refine ⟨fun _ => false, ?_⟩
    have := VMap.made (P := Tryd.prog) (k := 32) (kv := seatV) (z := .int .i64 0) (w.alloc (.map #[] 0))
    rw [show (w.alloc (.map #[] 0)).heap.size = w.heap.size + 1 by simp] at this
    rw [hV]
    exact VMap.upd (S := fun _ => False) this (Upd.of_below (((Below.refl _ _).alloc (Nat.le_refl _) _).alloc (by simp) _)) id
  have v3 : InMap V (w.heap.size + 2) 0 F [] := by
    refine ⟨fun _ => false, ?_⟩
    have := VMap.made (P := Tryd.prog) (k := 3) (kv := Value.int .i64) (z := .int .i64 0) ((w.alloc (.map #[] 0)).alloc (.map #[] 0))
    rw [show ((w.alloc (.map #[] 0)).alloc (.map #[] 0)).heap.size = w.heap.size + 2 by simp] at this
    rw [hV]
    exact VMap.upd (S := fun _ => False) this (Upd.of_below ((Below.refl _ _).alloc (Nat.le_refl _) _)) id
  have v4 : V.heap[w.heap.size + 3]? = some (.cells #[.map (some w.heap.size), .map (some (w.heap.size + 1)), .map (some (w.heap.size + 2))] 99 (0, 0)) := by
    have := heap_alloc_new (((w.alloc (.map #[] 0)).alloc (.map #[] 0)).alloc (.map #[] 0)) (.cells #[.map (some w.heap.size), .map (some (w.heap.size + 1)), .map (some (w.heap.size + 2))] 99)
    rw [show (((w.alloc (.map #[] 0)).alloc (.map #[] 0)).alloc (.map #[] 0)).heap.size = w.heap.size + 3 by simp] at this
    rw [hV]
    exact this
  refine (HSP V ((HRD.out.below hbV).mono hbV.size) (HLib.out.below hbV)).mono ?_
  rintro e w2 ⟨v, rfl, ho, hb2⟩
  obtain ⟨A2, c2, rfl, hrd⟩ := own_rd ho
  have HR2 := Lib.hid hrd
  have u2 : Upd (fun _ => False) V w2 := Upd.of_below hb2
  have V1 : Hid (SpMap w2 w.heap.size 0 []) := Lib.hid (VMap.upd v1 u2 id)
  have V2 : Hid (TkMap w2 (w.heap.size + 1) 0 []) := Lib.hid (v2.upd u2 id)
  have V3 : Hid (InMap w2 (w.heap.size + 2) 0 F []) := Lib.hid (v3.upd u2 id)
  have V4 := Lib.hid (box_keep v4 u2 id)
  have HB2 : Hid (Below w.heap.size w w2) := Lib.hid (hbV.trans (hb2.mono hbV.size))
  have hw2 : w.heap.size + 4 ≤ w2.heap.size := by have := hb2.size; omega
  have HFL : Hid (∀ g, (Value.slice A2 F.length c2).ownBlock = some g → w.heap.size + 4 ≤ g ∧ g < w2.heap.size) := Lib.hid (fun g hg => by have := ho.lt g hg; omega)
  have HA : Hid (Rd w2 w2.heap.size 7 A2 F.length (catv spotC F)) := HR2
  clear HSP hbV hVs v1 v2 v3 v4 hrd u2 hV hb2 HR2 hmm ho
  go_wp2
  go_loopw [14] (fun iv wx => ∃ k : Nat, k ≤ F.length ∧ iv = .int .i64 (k : Int) ∧ Hid (SpMap wx w.heap.size k (F.take k)) ∧ Hid (Upd (fun q => q = w.heap.size) w2 wx)) (fun iv _ => F.length - (intOf iv).toNat)
  case atStart => exact ⟨0, Nat.zero_le _, rfl, V1, Lib.hid (Upd.refl _ _)⟩
  case round =>
    obtain ⟨k, hk, rfl, hSp, hU⟩ := hrel
    by_cases hlt : k < F.length
    · obtain ⟨gb, off, rfl, hgb, hs, hcc⟩ := HA.out.elem spotC_len (by decide) hlt
      have hgr := HFL.out gb rfl
      have htk := List.take_succ_eq_append_getElem hs
      have hsf := HDS.out.2 F[k] (List.getElem_mem hs)
      have hdis : ∀ x ∈ F.take k, x.seat ≠ F[k].seat := fun x hx => by
        have h1 := HDS.out.1
        rw [← List.take_append_drop k F, List.drop_eq_getElem_cons hs] at h1
        exact (List.pairwise_append.1 h1).2.2 x hx _ List.mem_cons_self
      obtain ⟨s, hss⟩ : ∃ s, F[k] = s := ⟨_, rfl⟩
      rw [hss] at hcc htk hsf hdis
      obtain ⟨⟨sn, sl⟩, sc, sz, sb, se, sk⟩ := s
      have cc : ∀ j u, (spotC ⟨⟨sn, sl⟩, sc, sz, sb, se, sk⟩)[j]? = some u → wr.cell? ⟨gb, off + k * 7 + j, none⟩ = some u := fun j u hu => (hU.out.cell (p := ⟨gb, off + k * 7 + j, none⟩) hgr.2 (fun e => by have := hgr.1; simp only at e; omega)).trans (hcc j u hu)
      have c0 := cc 0 _ rfl
      have c1 := cc 1 _ rfl
      have c2 := cc 2 _ rfl
      have c3 := cc 3 _ rfl
      have c4 := cc 4 _ rfl
      have c5 := cc 5 _ rfl
      have c6 := cc 6 _ rfl
      rw [Nat.add_zero] at c0
      obtain ⟨W, hW⟩ : ∃ W, W = wr.alloc (.cells #[.int .i64 sn, .int .u8 (sl.toNat : Int), .int .i64 sc, .int .i64 sz, .int .i64 sb, .bool se, .bool sk] 35) := ⟨_, rfl⟩
      have hbW : Below wr.heap.size wr W := by rw [hW]; exact (Below.refl _ _).alloc (Nat.le_refl _) _
      have bW : W.heap[wr.heap.size]? = some (.cells #[.int .i64 sn, .int .u8 (sl.toNat : Int), .int .i64 sc, .int .i64 sz, .int .i64 sb, .bool se, .bool sk] 35 (0, 0)) := by rw [hW]; exact heap_alloc_new wr _
      have pW := box_keep (box_keep V4.out hU.out (by omega)) (Upd.of_below (S := fun _ => False) hbW) id
      have x0 : W.cell? ⟨wr.heap.size, 0, none⟩ = some (.int .i64 sn) := by rw [cell_of_row _ _ 0 _ _ _ bW]; rfl
      have x1 : W.cell? ⟨wr.heap.size, 1, none⟩ = some (.int .u8 (sl.toNat : Int)) := by rw [cell_of_row _ _ 1 _ _ _ bW]; rfl
      have x2 : W.cell? ⟨wr.heap.size, 2, none⟩ = some (.int .i64 sc) := by rw [cell_of_row _ _ 2 _ _ _ bW]; rfl
      have x3 : W.cell? ⟨wr.heap.size, 3, none⟩ = some (.int .i64 sz) := by rw [cell_of_row _ _ 3 _ _ _ bW]; rfl
      have x4 : W.cell? ⟨wr.heap.size, 4, none⟩ = some (.int .i64 sb) := by rw [cell_of_row _ _ 4 _ _ _ bW]; rfl
      have x5 : W.cell? ⟨wr.heap.size, 5, none⟩ = some (.bool se) := by rw [cell_of_row _ _ 5 _ _ _ bW]; rfl
      have x6 : W.cell? ⟨wr.heap.size, 6, none⟩ = some (.bool sk) := by rw [cell_of_row _ _ 6 _ _ _ bW]; rfl
      have y0 : W.cell? ⟨w.heap.size + 1 + 1 + 1, 0, none⟩ = some (.map (some w.heap.size)) := by rw [cell_of_row _ _ 0 _ _ _ pW]; rfl
      have sW : SpMap W.drew w.heap.size k (F.take k) := VMap.upd (S := fun _ => False) hSp.out (Upd.of_below hbW.drew) id
      obtain ⟨kl, hkl⟩ := seatKey ⟨sn, sl⟩ (by unfold MSeat.fits; simp only at hsf ⊢; omega)
      obtain ⟨W3, er, s3, u3⟩ := VMap.put sW seatKeyed seatInj Tryd.underlying95 (by unfold maxLen; have := HLN.out; omega) hkl (spotV ⟨⟨sn, sl⟩, sc, sz, sb, se, sk⟩)
      have e1 : (fun q => spotV (spotAt (F.take (k + 1)) q)) = fun q => if q = (⟨sn, sl⟩ : MSeat) then spotV ⟨⟨sn, sl⟩, sc, sz, sb, se, sk⟩ else spotV (spotAt (F.take k) q) := by
        funext q
        rw [htk, (spotAt_snoc hdis q).1]
        split <;> rfl
      have e2 : (fun q => (findS (F.take (k + 1)) q).isSome) = fun q => if q = (⟨sn, sl⟩ : MSeat) then true else (findS (F.take k) q).isSome := by
        funext q
        rw [htk, (spotAt_snoc hdis q).2]
      have HS3 : Hid (SpMap W3 w.heap.size (k + 1) (F.take (k + 1))) := Lib.hid (by
        unfold SpMap
        rw [e1, e2]
        exact s3)
      have HU3 : Hid (Upd (fun q => q = w.heap.size) w2 W3) := Lib.hid ((hU.out.trans (Upd.of_below (S := fun q => q = w.heap.size) hbW.drew) (fun _ _ h => h)).trans u3 (fun _ _ h => h))
      unfold spotV seatV at er
      simp only at er
      clear hcc cc htk hsf hdis hss bW pW sW s3 u3 e1 e2 hSp hU V1 V2 V3 V4 hgr hkl
      go_wp2_with fail
      rw [← hW]
      clear hW
      go_big_region
      all_goals (go_wp2; go_roundw)
      case rel => exact ⟨k + 1, by omega, by go_num, HS3, HU3⟩
      case measure => simp [intOf]; omega
    · have hlz : ¬ (k : Int) < (F.length : Int) := by omega
      have HSp : Hid (SpMap wr w.heap.size 66 F) := Lib.hid (by
        have := hSp.out
        rw [List.take_of_length_le (by omega)] at this
        exact VMap.mono this (by have := HLN.out; omega))
      have HRoom : Hid (RoomAt wr w.heap.size (w.heap.size + 3) w.heap.size (w.heap.size + 1) (w.heap.size + 2) 66 F []) := Lib.hid ⟨Nat.le_refl _, by omega, by omega, by omega, by omega, by omega, box_keep V4.out hU.out (by omega), HSp.out, V2.out.upd hU.out (by omega), V3.out.upd hU.out (by omega), fun x hx => by have := HBK.out x hx; omega⟩
      have HBE : Hid (Below w.heap.size w wr) := Lib.hid (HB2.out.trans (hU.out.below (fun i hi e => by omega) (by omega)))
      clear HSp hSp hU V1 V2 V3 V4 HA
      go_wp2
      go_ret
      exact ⟨rfl, HRoom.out, HBE.out⟩
end Go.Proofs.YtddiabpjmnmllaaDoor
