/- The gate: Clear, walked (printed by wip/tools/gen_clear.py out of wip/in/gtclear.in). -/
import Derived.Test.YtppjpledjhinbaaDoorJGtJoint
namespace Go.Proofs.YtppjpledjhinbaaDoor
open Go.RowKit Go.Lib
theorem SeatedIs.uniq {l : List MRow} {rs : List MSit} {k k' : Int} (h : SeatedIs l rs k) (h' : SeatedIs l rs k') : k = k' := by
  obtain ⟨c, h1, rfl⟩ := h
  obtain ⟨c', h2, rfl⟩ := h'
  have := h1.uniq h2
  have : c = c' := by omega
  rw [this]
/-- Can all be seated together? -/
noncomputable def fitL (l : List MRow) (rs : List MSit) : Bool := @decide (SeatedIs l rs (rs.length : Int)) (Classical.propDecidable _)
theorem fitL_is {l : List MRow} {rs : List MSit} {k : Int} (h : SeatedIs l rs k) : decide (k = (rs.length : Int)) = fitL l rs := by
  unfold fitL
  rw [Bool.eq_iff_iff]
  simp only [decide_eq_true_eq]
  exact ⟨fun e => e ▸ h, fun h2 => h.uniq h2⟩
/-- One who waits: taken, if all fit then. -/
noncomputable def clearS (l : List MRow) (s : List MSit × List Int × Nat) (x : MWho) : List MSit × List Int × Nat :=
  if fitL l (s.1 ++ [rider x]) = true then (s.1 ++ [rider x], s.2.1 ++ [(s.2.2 : Int)], s.2.2 + 1) else (s.1, s.2.1, s.2.2 + 1)
noncomputable def clearSt (l : List MRow) (I0 : List MSit) (ws : List MWho) : List MSit × List Int × Nat := ws.foldl (clearS l) (I0, [], 0)
theorem clearSt_snoc (l : List MRow) (I0 : List MSit) (ws : List MWho) (x : MWho) : clearSt l I0 (ws ++ [x]) = clearS l (clearSt l I0 ws) x := by unfold clearSt; rw [List.foldl_append]; rfl
theorem clearSt_len (l : List MRow) (I0 : List MSit) : ∀ (n : Nat) (ws : List MWho), ws.length = n → (clearSt l I0 ws).2.2 = n ∧ (clearSt l I0 ws).1.length ≤ I0.length + n ∧ (clearSt l I0 ws).2.1.length ≤ n := by
  intro n
  induction n with
  | zero =>
    intro ws h
    obtain rfl := List.eq_nil_of_length_eq_zero h
    exact ⟨rfl, by simp [clearSt], by simp [clearSt]⟩
  | succ n ih =>
    intro ws h
    obtain ⟨T, x, rfl⟩ : ∃ T x, ws = T ++ [x] := ⟨ws.dropLast, ws.getLast (by intro h2; rw [h2] at h; simp at h), (List.dropLast_concat_getLast _).symm⟩
    obtain ⟨h1, h2, h3⟩ := ih T (by simpa using h)
    rw [clearSt_snoc]
    unfold clearS
    split
    · refine ⟨by simp [h1], ?_, ?_⟩ <;> rw [List.length_append] <;> simp only [List.length_cons, List.length_nil] <;> omega
    · exact ⟨by simp [h1], by simp only; omega, by simp only; omega⟩
theorem own_prefix {W : World} {base n c size : Nat} {e : TypeId} {A : Option Addr} {xs : List Value} (h : W.ownsRow base e size (.slice A (n + 1) c) (n + 1) xs) : W.ownsRow base e size (.slice A n c) n (xs.take (n * size)) := by
  obtain ⟨hl, h⟩ := h
  have e1 : (n + 1) * size = n * size + size := Nat.succ_mul n size
  refine ⟨by rw [List.length_take, hl]; omega, ?_⟩
  rcases h with ⟨_, h0⟩ | ⟨g, cap, cur, hv, hb, hg, hn, hm, hc, hx⟩
  · omega
  · injection hv with h1 _ h3
    subst h1 h3
    exact .inr ⟨g, c, cur, rfl, hb, hg, by omega, hm, hc, by rw [← hx, List.take_take]; congr 1; omega⟩
theorem seats_fit {I : List MSit} {x : MWho} (h : ∀ y ∈ I, y.seat.fits) : ∀ y ∈ I ++ [rider x], y.seat.fits := by
  intro y hy
  rcases List.mem_append.1 hy with hy | hy
  · exact h y hy
  · exact rider_fits [x] y (by simpa using hy)
theorem clear_fits (l : List MRow) (I0 : List MSit) (h0 : ∀ y ∈ I0, y.seat.fits) : ∀ (n : Nat) (ws : List MWho), ws.length = n → ∀ y ∈ (clearSt l I0 ws).1, y.seat.fits := by
  intro n
  induction n with
  | zero =>
    intro ws h
    obtain rfl := List.eq_nil_of_length_eq_zero h
    exact h0
  | succ n ih =>
    intro ws h
    obtain ⟨T, x, rfl⟩ : ∃ T x, ws = T ++ [x] := ⟨ws.dropLast, ws.getLast (by intro h2; rw [h2] at h; simp at h), (List.dropLast_concat_getLast _).symm⟩
    have h1 := ih T (by simpa using h)
    rw [clearSt_snoc]
    unfold clearS
    split
    · exact seats_fit h1
    · exact h1
set_option maxRecDepth 20000 in
theorem int_infoG : (Tryd.prog.info? 3).map (fun i => (i.zero, i.size, i.bytes)) = some (some (.int .i64 0), 1, 8) := by kernel_rfl
def ClearAns (w : World) (l : List MRow) (sure ws : List MWho) (e : Ending) (w' : World) : Prop :=
  Below w.heap.size w w' ∧
  if errC l ≠ 0 then e = .returned (.tuple #[.slice none 0 0, .int .i64 (errC l)])
  else if 20 < sure.length + ws.length then e = .returned (.tuple #[.slice none 0 0, .int .i64 26])
  else if fitL l (sure.map rider) = false then e = .returned (.tuple #[.slice none 0 0, .int .i64 0])
  else ∃ v, e = .returned (.tuple #[v, .int .i64 0]) ∧ w'.ownsRow w.heap.size 3 1 v (clearSt l (sure.map rider) ws).2.1.length ((clearSt l (sure.map rider) ws).2.1.map (Value.int .i64))
set_option maxHeartbeats 8000000 in
set_option maxRecDepth 20000 in
theorem clear_any (w : World) (mm : Int) (A : Option Addr) (n c : Nat) (l : List MRow) (hr : Rd w w.heap.size 5 A n (catv rowC l)) (hf : ∀ r ∈ l, r.fits) (hLib : LibAt w mm) (A1 : Option Addr) (n1 c1 : Nat) (sure : List MWho) (hr1 : Rd w w.heap.size 3 A1 n1 (catv whoC sure)) (A2 : Option Addr) (n2 c2 : Nat) (ws : List MWho) (hr2 : Rd w w.heap.size 3 A2 n2 (catv whoC ws)) (hn1 : n1 ≤ 1099511627776) (hn2 : n2 ≤ 1099511627776) :
    Calls Tryd.prog 29 #[.slice A n c, .slice A1 n1 c1, .slice A2 n2 c2] w (ClearAns w l sure ws) := by
  obtain ⟨i0, hi0, hz0, hz1, hz2⟩ := info_parts int_infoG
  have hl1 := rd_catlen whoC_len (by decide) hr1
  have hl2 := rd_catlen whoC_len (by decide) hr2
  have HEN := Lib.hid (enter_any w mm A n c l ((n1 : Int) + (n2 : Int)) hr hf hLib)
  have HR := Lib.hid hr
  have HF := Lib.hid hf
  have HLB := Lib.hid hLib
  have HR1 := Lib.hid hr1
  have HR2 := Lib.hid hr2
  have HNN := Lib.hid (And.intro hl1 hl2)
  clear hr hf hLib hr1 hr2 hl1 hl2
  go_enter Tryd.func29, Tryd.ntmps29
  go_wp2_with fail
  refine HEN.out.mono ?_
  rintro e w1 ⟨hb1, hcase⟩
  by_cases hE : errC l ≠ 0
  · rw [if_pos hE] at hcase
    obtain rfl : e = _ := hcase
    obtain ⟨E, hE1⟩ : ∃ E, errC l = E := ⟨_, rfl⟩
    rw [hE1] at hE ⊢
    have HE1 := Lib.hid hE1
    have hEi : ¬ E = 0 := hE
    have HB1 := Lib.hid hb1
    clear hb1 HEN hE1
    go_wp2
    go_ret2
    refine ⟨HB1.out, ?_⟩
    rw [if_pos (by rw [HE1.out]; exact hE), HE1.out]
    rfl
  · rw [if_neg hE] at hcase
    by_cases hlt : (20 : Int) < (n1 : Int) + (n2 : Int)
    · rw [if_pos hlt] at hcase
      obtain rfl : e = _ := hcase
      have HB1 := Lib.hid hb1
      have HE := Lib.hid hE
      have HK := Lib.hid (show 20 < sure.length + ws.length by have := HNN.out; omega)
      clear hb1 HEN hE hlt
      go_wp2
      go_ret2
      refine ⟨HB1.out, ?_⟩
      rw [if_neg HE.out, if_pos HK.out]
      rfl
    · rw [if_neg hlt] at hcase
      obtain ⟨H, rfl, hh⟩ := hcase
      have hE0 : errC l = 0 := Classical.byContradiction hE
      have hw20 : n1 + n2 ≤ 20 := by omega
      have HB1 := Lib.hid hb1
      have HAD := Lib.hid (hadd_any w1 w.heap.size H (.slice A n c) (.slice none 0 0) [] hh hb1.size A1 n1 c1 sure ((HR1.out.below hb1).mono hb1.size) (by simp; omega) (fun h0 ad e => by
        subst e
        obtain ⟨ad', e, h2, _⟩ := HR1.out.at_ h0
        injection e with e
        subst e
        refine ⟨?_, fun e => by cases e⟩
        have := hh.lo
        omega))
      have hHlo := hh.lo
      have HE0 := Lib.hid hE0
      have HE := Lib.hid hE
      clear hb1 HEN hE hh hE0 hlt
      go_wp2_with fail
      refine HAD.out.mono ?_
      rintro e w2 ⟨rfl, u, hup⟩
      rw [List.nil_append] at hup
      obtain ⟨I0, hI0⟩ : ∃ I0, sure.map rider = I0 := ⟨_, rfl⟩
      have hI0f := rider_fits sure
      have hI0l : I0.length = n1 := by rw [← hI0, List.length_map]; exact HNN.out.1.symm
      rw [hI0] at hup hI0f
      have hb12 : Below w.heap.size w w2 := HB1.out.trans (hup.up.below (fun k hk h => by
        rcases h with h | h
        · omega
        · cases h) HB1.out.size)
      have HFT := Lib.hid (fits_any w2 mm A n c l ((HR.out.below hb12).mono hb12.size) HF.out (HLB.out.below hb12) HE0.out w.heap.size H u I0 hup.hall hI0f (by omega))
      have HB2 := Lib.hid hb12
      have HH2 := Lib.hid hup.hall
      have HI0 := Lib.hid (And.intro hI0 hI0f)
      have HWL := Lib.hid (show ¬ 20 < sure.length + ws.length by have := HNN.out; omega)
      clear hup hb12 HAD HB1 hI0 hI0f
      go_wp2_with fail
      refine HFT.out.mono ?_
      rintro e w3 ⟨q, rfl, hq, hb3⟩
      rw [fitL_is hq]
      have HH3 := Lib.hid (HH2.out.below hb3)
      have HB3 := Lib.hid (HB2.out.trans (hb3.mono HB2.out.size))
      clear hq hb3 HFT HH2 HB2
      cases hfit : fitL l I0 with
      | false =>
        have HFI := Lib.hid hfit
        clear hfit
        go_wp2
        go_ret2
        refine ⟨HB3.out, ?_⟩
        rw [if_neg HE.out, if_neg HWL.out, HI0.out.1, if_pos HFI.out]
        rfl
      | true =>
        have HFI := Lib.hid hfit
        clear hfit
        go_wp2
        go_loopw [34, 10] (fun iv ov wx => ∃ (k : Nat) (s : List MSit × List Int × Nat) (v : Value), iv = .int .i64 (k : Int) ∧ k ≤ n2 ∧ Hid (s = clearSt l I0 (ws.take k)) ∧ Hid (HallAt wx w.heap.size H (.slice A n c) v s.1) ∧ Hid (wx.ownsRow w.heap.size 3 1 ov s.2.1.length (s.2.1.map (Value.int .i64))) ∧ Hid (Below w.heap.size w wx)) (fun iv _ _ => n2 - (intOf iv).toNat)
        case atStart => exact ⟨0, (I0, [], 0), u, rfl, Nat.zero_le _, Lib.hid rfl, HH3, Lib.hid (World.ownsRow_nil _ _ _ _), HB3⟩
        case round =>
          obtain ⟨k, ⟨I, O, cnt⟩, v, rfl, hk, hs, hH, hO, hB⟩ := hrel
          simp only at hH hO
          by_cases hlt : k < n2
          · obtain ⟨gb, off, rfl, hgb, hsl, hcc⟩ := (HR2.out.below hB.out).elem whoC_len (by decide) hlt
            obtain ⟨x, hx⟩ : ∃ x, ws[k] = x := ⟨_, rfl⟩
            rw [hx] at hcc
            have c0 := hcc 0 (.int .i64 x.cab) rfl
            have c1' := hcc 1 (.bool x.fit) rfl
            have c2' := hcc 2 (.bool x.inf) rfl
            rw [Nat.add_zero] at c0
            obtain ⟨hcnt, hIl, hOl⟩ := clearSt_len l I0 k (ws.take k) (by rw [List.length_take]; omega)
            rw [← hs.out] at hcnt hIl hOl
            simp only at hcnt hIl hOl
            have hIf := clear_fits l I0 HI0.out.2 k (ws.take k) (by rw [List.length_take]; omega)
            rw [← hs.out] at hIf
            simp only at hIf
            have htk : clearSt l I0 (ws.take (k + 1)) = clearS l (I, O, cnt) x := by rw [List.take_succ_eq_append_getElem hsl, hx, clearSt_snoc, ← hs.out]
            subst hcnt
            obtain ⟨X, hX⟩ : ∃ X, wr.heap.size = X := ⟨_, rfl⟩
            obtain ⟨WB, hWB⟩ : ∃ V, (wr.alloc (.cells #[.int .i64 x.cab, .bool x.fit, .bool x.inf] 28)).alloc (.cells #[.int .i64 x.cab, .bool x.fit, .bool x.inf] 28) = V := ⟨_, rfl⟩
            have s1 : (wr.alloc (.cells #[.int .i64 x.cab, .bool x.fit, .bool x.inf] 28)).heap.size = X + 1 := by simp [hX]
            have hbV : Below wr.heap.size wr WB := by rw [← hWB]; exact ((Below.refl _ _).alloc (Nat.le_refl _) _).alloc (by rw [s1]; omega) _
            have hyV : WB.heap[X + 1]? = some (.cells #[.int .i64 x.cab, .bool x.fit, .bool x.inf] 28 (0, 0)) := by rw [← hWB, ← s1]; exact heap_alloc_new _ _
            have hsz : WB.heap.size = X + 2 := by rw [← hWB]; simp [hX]
            have hhV := hH.out.below hbV
            have hrd : Rd WB WB.heap.size 3 (some ⟨X + 1, 0, none⟩) 1 (catv whoC [x]) := ⟨rfl, fun _ => ⟨_, rfl, by show X + 1 < _; omega, fun j uu hu => by
              rw [add_zero_off, cell_of_row _ _ _ _ _ _ hyV]
              rw [catv_one] at hu
              simpa [whoC] using hu⟩⟩
            have hvX : ∀ e, v.ownBlock = some e → e < X := fun e he => by rw [← hX]; exact (hH.out.inn.lt e he).2
            have hHX : H < X := by rw [← hX]; exact hH.out.hlt
            have hb1 : w.heap.size ≤ WB.heap.size := Nat.le_trans hB.out.size hbV.size
            have hAD := hadd_any WB w.heap.size H (.slice A n c) v I hhV hb1 (some ⟨X + 1, 0, none⟩) 1 1 [x] hrd (by omega) (fun _ ad e => by
              injection e with e
              subst e
              refine ⟨by show X + 1 ≠ H; omega, fun e => ?_⟩
              have := hvX _ e
              simp only at this
              omega)
            rw [show ([x] : List MWho).map rider = [rider x] from rfl] at hAD
            have HAD := Lib.hid hAD
            have HVI := Lib.hid (fun e (he : v.ownBlock = some e) => (hH.out.inn.lt e he).1)
            have hOV := own_below hO.out hbV
            have HOV := Lib.hid hOV
            have HVT := Lib.hid (fun e (he : v.ownBlock = some e) => own_typed hhV.inn he)
            have HHB := Lib.hid hhV.box
            have HBV := Lib.hid (hB.out.trans (hbV.mono hB.out.size))
            have HTK := Lib.hid htk
            have HIF := Lib.hid hIf
            have HIL := Lib.hid (And.intro hIl hOl)
            have hki : (cnt : Int) < (n2 : Int) := by omega
            have hk0 : (0 : Int) ≤ (cnt : Int) := by omega
            clear hcc hx htk hIf hIl hOl hbV hyV hhV hrd hvX hAD hOV hs hH hO hB hsz s1
            go_wp2_with fail
            refine HAD.out.mono ?_
            rintro e w4 ⟨rfl, u4, hup⟩
            obtain ⟨I', hI'⟩ : ∃ I', I ++ [rider x] = I' := ⟨_, rfl⟩
            have hIl' : I'.length = I.length + 1 := by rw [← hI', List.length_append]; rfl
            rw [hI'] at hup
            have hb4 : Below w.heap.size w w4 := HBV.out.trans (hup.up.below (fun q hq h => by
              rcases h with h | h
              · omega
              · have := HVI.out _ h; omega) HBV.out.size)
            have HO4 := Lib.hid (own_upd HOV.out hup.up (fun q e h => by
              obtain ⟨cs, h1⟩ := own_typed HOV.out e
              rcases h with h | h
              · rw [h, HHB.out] at h1; simp at h1
              · obtain ⟨cs2, h2⟩ := HVT.out _ h
                rw [h2] at h1; simp at h1))
            have HFT := Lib.hid (fits_any w4 mm A n c l ((HR.out.below hb4).mono hb4.size) HF.out (HLB.out.below hb4) HE0.out w.heap.size H u4 I' hup.hall (by rw [← hI']; exact seats_fit HIF.out) (by have := HIL.out.1; omega))
            have HH4 := Lib.hid hup.hall
            have HB4 := Lib.hid hb4
            have HI' := Lib.hid (And.intro hI' hIl')
            clear hup hb4 HAD HOV HVT HHB HBV HVI hI' hIl' hWB
            go_wp2_with fail
            refine HFT.out.mono ?_
            rintro e w5 ⟨q, rfl, hq, hb5⟩
            rw [fitL_is hq]
            have HH5 := Lib.hid (HH4.out.below hb5)
            have HO5 := Lib.hid (own_below HO4.out hb5)
            have HB5 := Lib.hid (HB4.out.trans (hb5.mono HB4.out.size))
            clear hq hb5 HFT HH4 HO4 HB4
            cases hf2 : fitL l I' with
            | true =>
              have HNX : Hid ((I', O ++ [(cnt : Int)], cnt + 1) = clearSt l I0 (ws.take (cnt + 1))) := Lib.hid (by
                rw [HTK.out]
                unfold clearS
                rw [HI'.out.1, if_pos hf2])
              clear hf2
              go_wp2_with (at_builtin; refine wpList_push rfl (.tmp 45) (.tmp 47) 61 rfl w.heap.size 3 i0 _ 1 8 Tryd.underlying61 hi0 hz0 hz1 hz2 rfl (by omega) _ O.length (O.map (Value.int .i64)) #[.int .i64 (cnt : Int)] rfl (by exact HO5.out) rfl rfl (by simp [Value.oneCell']) ?k1 ?k2 ?k3 ?_)
              case k1 => have := HIL.out.2; omega
              case k2 => have := HIL.out.2; unfold maxLen; omega
              case k3 => exact HB5.out.size
              intro v6 w6 ho6 hu6 _
              have HO9 : Hid (w6.ownsRow w.heap.size 3 1 v6 (O ++ [(cnt : Int)]).length ((O ++ [(cnt : Int)]).map (Value.int .i64))) := Lib.hid (by rw [List.length_append, List.map_append]; exact ho6)
              have hne : ∀ (q : Nat) (cs : Array Value) (t : TypeId), w5.heap[q]? = some (Obj.cells cs t (0, 0)) → t ≠ 3 → ¬ u10.ownBlock = some q := fun q cs t h1 h2 e => by
                obtain ⟨cs2, h3⟩ := own_typed HO5.out e
                rw [h1] at h3
                injection h3 with h3
                injection h3 with _ h4
                exact h2 h4
              have HH9 : Hid (HallAt w6 w.heap.size H (.slice A n c) u4 I') := Lib.hid ⟨box_keep HH5.out.box hu6 (hne H _ _ HH5.out.box (by decide)), HH5.out.lo, own_upd HH5.out.inn hu6 (fun q e => by
                obtain ⟨cs, h1⟩ := own_typed HH5.out.inn e
                exact hne q _ _ h1 (by decide))⟩
              have HB9 : Hid (Below w.heap.size w w6) := Lib.hid (HB5.out.trans (hu6.below (fun q hq e => by have := (HO5.out.lt q e).1; omega) HB5.out.size))
              clear ho6 hu6 hne HO5 HH5 HB5
              go_wp2
              go_roundw
              case rel => exact ⟨cnt + 1, _, _, by go_num, hlt, HNX, HH9, HO9, HB9⟩
              case measure => simp [intOf]; omega
            | false =>
              have HNX : Hid ((I, O, cnt + 1) = clearSt l I0 (ws.take (cnt + 1))) := Lib.hid (by
                rw [HTK.out]
                unfold clearS
                rw [HI'.out.1, if_neg (by rw [hf2]; decide)])
              clear hf2
              have hinn := HH5.out.inn
              rw [HI'.out.2] at hinn
              obtain ⟨g, ca, hu4, hgb, hgl, hcap, _⟩ := own_form hinn (by omega)
              subst hu4
              have hpre := own_prefix hinn
              rw [show (catv sitC I').take (I.length * 5) = catv sitC I by
                rw [← HI'.out.1, catv_append, List.take_left' (catv_length sitC_len I)]] at hpre
              have p1 := HH5.out.cells.2
              rw [show (Value.slice (some ⟨g, 0, none⟩) (I.length + 1) ca) = .slice (some ⟨g, 0, none⟩) (I.length + 1) ca from rfl] at p1
              have hgH : g ≠ H := by
                rintro rfl
                obtain ⟨cs, h1⟩ := own_typed hinn (g := g) rfl
                rw [HH5.out.box] at h1
                simp at h1
              have hs9 : Upd (fun q => q = H) w5 (w5.drew.setCell ⟨H, 1, none⟩ (.slice (some ⟨g, 0, none⟩) I.length ca)) := ((Upd.refl (fun q => q = H) w5).drewN 1).setCell ⟨H, 1, none⟩ rfl _
              have hb9 := heap_setCell_same w5.drew H 1 _ _ (.slice (some ⟨g, 0, none⟩) I.length ca) (show w5.drew.heap[H]? = _ from HH5.out.box)
              have HH9 : Hid (HallAt (w5.drew.setCell ⟨H, 1, none⟩ (.slice (some ⟨g, 0, none⟩) I.length ca)) w.heap.size H (.slice A n c) (.slice (some ⟨g, 0, none⟩) I.length ca) I) := Lib.hid ⟨by simpa using hb9, HH5.out.lo, own_upd hpre hs9 (fun q e e2 => by
                simp only [Value.ownBlock, Option.some.injEq] at e
                exact hgH (e.trans e2))⟩
              have HO9 : Hid ((w5.drew.setCell ⟨H, 1, none⟩ (.slice (some ⟨g, 0, none⟩) I.length ca)).ownsRow w.heap.size 3 1 u10 O.length (O.map (Value.int .i64))) := Lib.hid (own_upd HO5.out hs9 (fun q e e2 => by
                obtain ⟨cs, h1⟩ := own_typed HO5.out e
                rw [e2, HH5.out.box] at h1
                simp at h1))
              have HB9 : Hid (Below w.heap.size w (w5.drew.setCell ⟨H, 1, none⟩ (.slice (some ⟨g, 0, none⟩) I.length ca))) := Lib.hid (HB5.out.trans (hs9.below (fun q hq e => by omega) HB5.out.size))
              have f1 : w5.frozen? ⟨H, 1, none⟩ = false := frozen_of_row _ _ _ _ _ HH5.out.box
              have hI20 : I.length ≤ 20 := by have := HIL.out.1; omega
              have hsub : IntKind.i64.wrap ((I.length : Int) + 1 - 1) = (I.length : Int) := by rw [IntWalk.i64_in _ (by omega)]; omega
              have hsub2 : IntKind.i64.wrap (I.length : Int) = (I.length : Int) := IntWalk.i64_in _ (by omega)
              have hle : (I.length : Int) ≤ (ca : Int) := by omega
              have hge : (0 : Int) ≤ (I.length : Int) := by omega
              clear hinn hpre hgb hgl hgH hs9 hb9 HO5 HH5 HB5
              go_upto_region 14 with (fail)
              refine wp_region_held_drew (S := fun _ => True) (by kernel_rfl) trivial (fun hHeld => ?_)
              refine wpAnyH_take (i := 0) (v := ?_) rfl (by kernel_rfl) (by kernel_rfl) (by kernel_rfl) (fun _ _ _ h => h) (Or.inl ⟨by kernel_rfl, ?_⟩) (by assumption) ?_
              rotate_left
              · (intro w hSw; (try dsimp only at hSw); go_simp; try with_reducible rfl)
              try simp only [Act.put, List.getElem_toArray, List.getElem_cons_succ, List.getElem_cons_zero, List.setIfInBounds_toArray, List.set_cons_zero, List.set_cons_succ]
              refine wpAnyH_take (i := 1) (v := ?_) rfl (by kernel_rfl) (by kernel_rfl) (by kernel_rfl) (fun _ _ _ h => h) (Or.inl ⟨by kernel_rfl, ?_⟩) (by assumption) ?_
              rotate_left
              · (intro w hSw; (try dsimp only at hSw); go_simp; try with_reducible rfl)
              try simp only [Act.put, List.getElem_toArray, List.getElem_cons_succ, List.getElem_cons_zero, List.setIfInBounds_toArray, List.set_cons_zero, List.set_cons_succ]
              refine wpAnyH_take (i := 2) (v := ?_) rfl (by kernel_rfl) (by kernel_rfl) (by kernel_rfl) (fun _ _ _ h => h) (Or.inl ⟨by kernel_rfl, ?_⟩) (by assumption) ?_
              rotate_left
              · (intro w hSw; (try dsimp only at hSw); go_simp; try with_reducible rfl)
              try simp only [Act.put, List.getElem_toArray, List.getElem_cons_succ, List.getElem_cons_zero, List.setIfInBounds_toArray, List.set_cons_zero, List.set_cons_succ]
              refine wpAnyH_take (i := 3) (v := ?_) rfl (by kernel_rfl) (by kernel_rfl) (by kernel_rfl) (fun _ _ _ h => h) (Or.inl ⟨by kernel_rfl, ?_⟩) (by assumption) ?_
              rotate_left
              · (intro w hSw; (try dsimp only at hSw); go_simp; try with_reducible rfl)
              try simp only [Act.put, List.getElem_toArray, List.getElem_cons_succ, List.getElem_cons_zero, List.setIfInBounds_toArray, List.set_cons_zero, List.set_cons_succ]
              refine wpAnyH_take (i := 5) (v := ?_) rfl (by kernel_rfl) (by kernel_rfl) (by kernel_rfl) (fun _ _ _ h => h) (Or.inl ⟨by kernel_rfl, ?_⟩) (by assumption) ?_
              rotate_left
              · (intro w hSw; (try dsimp only at hSw); go_simp; try with_reducible rfl)
              try simp only [Act.put, List.getElem_toArray, List.getElem_cons_succ, List.getElem_cons_zero, List.setIfInBounds_toArray, List.set_cons_zero, List.set_cons_succ]
              refine wpAnyH_take (i := 6) (v := ?_) rfl (by kernel_rfl) (by kernel_rfl) (by kernel_rfl) (fun _ _ _ h => h) (Or.inl ⟨by kernel_rfl, ?_⟩) (by assumption) ?_
              rotate_left
              · (intro w hSw; (try dsimp only at hSw); go_simp; try with_reducible rfl)
              try simp only [Act.put, List.getElem_toArray, List.getElem_cons_succ, List.getElem_cons_zero, List.setIfInBounds_toArray, List.set_cons_zero, List.set_cons_succ]
              refine wpAnyH_take (i := 7) (v := ?_) rfl (by kernel_rfl) (by kernel_rfl) (by kernel_rfl) (fun _ _ _ h => h) (Or.inl ⟨by kernel_rfl, ?_⟩) (by assumption) ?_
              rotate_left
              · (intro w hSw; (try dsimp only at hSw); go_simp; try with_reducible rfl)
              try simp only [Act.put, List.getElem_toArray, List.getElem_cons_succ, List.getElem_cons_zero, List.setIfInBounds_toArray, List.set_cons_zero, List.set_cons_succ]
              refine wpAnyH_ready (rs := [4, 8]) (by kernel_rfl) (by simp) ?_
              refine AllReadyH.cons rfl (fun K hK => ?_) (AllReadyH.cons rfl (fun K hK => ?_) AllReadyH.nil)
              · go_simp
                refine hK.out _ _ trivial (fun hHeld => ?_)
                clear hK K
                try simp only [Act.put, List.getElem_toArray, List.getElem_cons_succ, List.getElem_cons_zero, List.setIfInBounds_toArray, List.set_cons_zero, List.set_cons_succ]
                refine wpAnyH_ready (rs := [8]) (by kernel_rfl) (by simp) ?_
                refine AllReadyH.cons rfl (fun K hK => ?_) AllReadyH.nil
                go_simp
                refine hK.out _ _ trivial (fun hHeld => ?_)
                clear hK K
                try simp only [Act.put, List.getElem_toArray, List.getElem_cons_succ, List.getElem_cons_zero, List.setIfInBounds_toArray, List.set_cons_zero, List.set_cons_succ]
                refine wpAnyH_take (i := 9) (v := ?_) rfl (by kernel_rfl) (by kernel_rfl) (by kernel_rfl) (fun _ _ _ h => h) (Or.inl ⟨by kernel_rfl, ?_⟩) (by assumption) ?_
                rotate_left
                · (intro w hSw; (try dsimp only at hSw); go_simp; try with_reducible rfl)
                try simp only [Act.put, List.getElem_toArray, List.getElem_cons_succ, List.getElem_cons_zero, List.setIfInBounds_toArray, List.set_cons_zero, List.set_cons_succ]
                refine wpAnyH_take (i := 10) (v := ?_) rfl (by kernel_rfl) (by kernel_rfl) (by kernel_rfl) (fun _ _ _ h => h) (Or.inl ⟨by kernel_rfl, ?_⟩) (by assumption) ?_
                rotate_left
                · (intro w hSw; (try dsimp only at hSw); go_simp; try with_reducible rfl)
                try simp only [Act.put, List.getElem_toArray, List.getElem_cons_succ, List.getElem_cons_zero, List.setIfInBounds_toArray, List.set_cons_zero, List.set_cons_succ]
                refine wpAnyH_take (i := 11) (v := ?_) rfl (by kernel_rfl) (by kernel_rfl) (by kernel_rfl) (fun _ _ _ h => h) (Or.inl ⟨by kernel_rfl, ?_⟩) (by assumption) ?_
                rotate_left
                · (intro w hSw; (try dsimp only at hSw); go_simp; try with_reducible rfl)
                try simp only [Act.put, List.getElem_toArray, List.getElem_cons_succ, List.getElem_cons_zero, List.setIfInBounds_toArray, List.set_cons_zero, List.set_cons_succ]
                refine wpAnyH_ready (rs := [12]) (by kernel_rfl) (by simp) ?_
                refine AllReadyH.cons rfl (fun K hK => ?_) AllReadyH.nil
                go_simp
                refine hK.out _ _ trivial (fun hHeld => ?_)
                clear hK K
                try simp only [Act.put, List.getElem_toArray, List.getElem_cons_succ, List.getElem_cons_zero, List.setIfInBounds_toArray, List.set_cons_zero, List.set_cons_succ]
                refine wpAnyH_ready (rs := [13]) (by kernel_rfl) (by simp) ?_
                refine AllReadyH.cons rfl (fun K hK => ?_) AllReadyH.nil
                go_simp
                refine hK.out _ _ trivial (fun hHeld => ?_)
                clear hK K
                try simp only [Act.put, List.getElem_toArray, List.getElem_cons_succ, List.getElem_cons_zero, List.setIfInBounds_toArray, List.set_cons_zero, List.set_cons_succ]
                refine wpAnyH_ready (rs := [14]) (by kernel_rfl) (by simp) ?_
                refine AllReadyH.cons rfl (fun K hK => ?_) AllReadyH.nil
                go_simp
                refine hK.out _ _ trivial (fun hHeld => ?_)
                clear hK K
                try simp only [Act.put, List.getElem_toArray, List.getElem_cons_succ, List.getElem_cons_zero, List.setIfInBounds_toArray, List.set_cons_zero, List.set_cons_succ]
                refine wpAnyH_done (by kernel_rfl) ?_ _
                clear hHeld
                go_wp2
                go_roundw
                case rel => exact ⟨cnt + 1, _, _, by go_num, hlt, HNX, HH9, HO9, HB9⟩
                case measure => simp [intOf]; omega
              · go_simp
                refine hK.out _ _ trivial (fun hHeld => ?_)
                clear hK K
                try simp only [Act.put, List.getElem_toArray, List.getElem_cons_succ, List.getElem_cons_zero, List.setIfInBounds_toArray, List.set_cons_zero, List.set_cons_succ]
                refine wpAnyH_take (i := 9) (v := ?_) rfl (by kernel_rfl) (by kernel_rfl) (by kernel_rfl) (fun _ _ _ h => h) (Or.inl ⟨by kernel_rfl, ?_⟩) (by assumption) ?_
                rotate_left
                · (intro w hSw; (try dsimp only at hSw); go_simp; try with_reducible rfl)
                try simp only [Act.put, List.getElem_toArray, List.getElem_cons_succ, List.getElem_cons_zero, List.setIfInBounds_toArray, List.set_cons_zero, List.set_cons_succ]
                refine wpAnyH_take (i := 10) (v := ?_) rfl (by kernel_rfl) (by kernel_rfl) (by kernel_rfl) (fun _ _ _ h => h) (Or.inl ⟨by kernel_rfl, ?_⟩) (by assumption) ?_
                rotate_left
                · (intro w hSw; (try dsimp only at hSw); go_simp; try with_reducible rfl)
                try simp only [Act.put, List.getElem_toArray, List.getElem_cons_succ, List.getElem_cons_zero, List.setIfInBounds_toArray, List.set_cons_zero, List.set_cons_succ]
                refine wpAnyH_ready (rs := [4]) (by kernel_rfl) (by simp) ?_
                refine AllReadyH.cons rfl (fun K hK => ?_) AllReadyH.nil
                go_simp
                refine hK.out _ _ trivial (fun hHeld => ?_)
                clear hK K
                try simp only [Act.put, List.getElem_toArray, List.getElem_cons_succ, List.getElem_cons_zero, List.setIfInBounds_toArray, List.set_cons_zero, List.set_cons_succ]
                refine wpAnyH_take (i := 11) (v := ?_) rfl (by kernel_rfl) (by kernel_rfl) (by kernel_rfl) (fun _ _ _ h => h) (Or.inl ⟨by kernel_rfl, ?_⟩) (by assumption) ?_
                rotate_left
                · (intro w hSw; (try dsimp only at hSw); go_simp; try with_reducible rfl)
                try simp only [Act.put, List.getElem_toArray, List.getElem_cons_succ, List.getElem_cons_zero, List.setIfInBounds_toArray, List.set_cons_zero, List.set_cons_succ]
                refine wpAnyH_ready (rs := [12]) (by kernel_rfl) (by simp) ?_
                refine AllReadyH.cons rfl (fun K hK => ?_) AllReadyH.nil
                go_simp
                refine hK.out _ _ trivial (fun hHeld => ?_)
                clear hK K
                try simp only [Act.put, List.getElem_toArray, List.getElem_cons_succ, List.getElem_cons_zero, List.setIfInBounds_toArray, List.set_cons_zero, List.set_cons_succ]
                refine wpAnyH_ready (rs := [13]) (by kernel_rfl) (by simp) ?_
                refine AllReadyH.cons rfl (fun K hK => ?_) AllReadyH.nil
                go_simp
                refine hK.out _ _ trivial (fun hHeld => ?_)
                clear hK K
                try simp only [Act.put, List.getElem_toArray, List.getElem_cons_succ, List.getElem_cons_zero, List.setIfInBounds_toArray, List.set_cons_zero, List.set_cons_succ]
                refine wpAnyH_ready (rs := [14]) (by kernel_rfl) (by simp) ?_
                refine AllReadyH.cons rfl (fun K hK => ?_) AllReadyH.nil
                go_simp
                refine hK.out _ _ trivial (fun hHeld => ?_)
                clear hK K
                try simp only [Act.put, List.getElem_toArray, List.getElem_cons_succ, List.getElem_cons_zero, List.setIfInBounds_toArray, List.set_cons_zero, List.set_cons_succ]
                refine wpAnyH_done (by kernel_rfl) ?_ _
                clear hHeld
                go_wp2
                go_roundw
                case rel => exact ⟨cnt + 1, _, _, by go_num, hlt, HNX, HH9, HO9, HB9⟩
                case measure => simp [intOf]; omega
          · obtain rfl : k = n2 := by omega
            have hki : ¬ (k : Int) < (k : Int) := by omega
            have HO9 : Hid (wr.ownsRow w.heap.size 3 1 u10 (clearSt l I0 ws).2.1.length ((clearSt l I0 ws).2.1.map (Value.int .i64))) := Lib.hid (by
              have h1 := hs.out
              rw [HNN.out.2, List.take_length] at h1
              rw [← h1]
              exact hO.out)
            have HBW := Lib.hid hB.out
            clear hs hH hO hB
            go_wp2
            go_ret2
            refine ⟨HBW.out, ?_⟩
            rw [if_neg HE.out, if_neg HWL.out, HI0.out.1, if_neg (by rw [HFI.out]; decide)]
            exact ⟨_, rfl, HO9.out⟩
end Go.Proofs.YtppjpledjhinbaaDoor
