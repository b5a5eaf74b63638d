/- Keys: order.Split, walked; the reference's Same. -/
import Derived.Test.YtaphfjomlignhaaDoorOrTxt
import Derived.Test.YtaphfjomlignhaaDoorOrList
import Derived.Test.YtaphfjomlignhaaDoorBytS
namespace Go.Proofs.YtaphfjomlignhaaDoor
open Go.RowKit
/-- What order.Split answers. -/
def SplitAns (l : List UInt8) (ps : List Pt) (e : Nat) : Prop :=
  (e = 0 ∧ allR ps ∧ allF ps ∧ l = bytesK ps ∧ (∀ x ∈ ps, x.text.size ≤ l.length) ∧ ps.length ≤ l.length) ∨ (e = 3 ∧ ps = [] ∧ ∀ qs, allR qs → allF qs → l ≠ bytesK qs)
theorem head_num {x : Pt} {c l : List UInt8} (hx : x.right) (h : 1 :: l = partK x ++ c) : x.kind = 1 ∧ l = be8 (upN x.num) ++ c := by
  unfold partK at h
  by_cases hk : x.kind = 1
  · rw [if_pos hk] at h
    injection h with _ h
    exact ⟨hk, h⟩
  · rw [if_neg hk] at h
    injection h with h _
    exact absurd h (by decide)
theorem head_text {x : Pt} {c l : List UInt8} (hx : x.right) (h : 2 :: l = partK x ++ c) : x.kind = 2 ∧ l = esc x.text.data.toList ++ (0 :: 0 :: c) := by
  unfold partK at h
  by_cases hk : x.kind = 1
  · rw [if_pos hk] at h
    injection h with h _
    exact absurd h (by decide)
  · rw [if_neg hk] at h
    injection h with _ h
    refine ⟨by rcases hx with ⟨h, _⟩ | ⟨h, _⟩; exact absurd h hk; exact h, ?_⟩
    rw [h]; simp
/-- The bytes begin as no part does. -/
def NoHead (l : List UInt8) : Prop := l ≠ [] ∧ ∀ x c, x.right → x.fits → l ≠ partK x ++ c
theorem noHead_num {l : List UInt8} (h : l.length < 8) : NoHead (1 :: l) := ⟨by simp, fun x c hx _ e => by
  have := congrArg List.length (head_num hx e).2
  rw [List.length_append, be8_len] at this
  omega⟩
theorem noHead_text {l : List UInt8} (h : NoText l) : NoHead (2 :: l) := ⟨by simp, fun x c hx _ e => h _ _ (head_text hx e).2⟩
theorem noHead_other {b : UInt8} {l : List UInt8} (h1 : b ≠ 1) (h2 : b ≠ 2) : NoHead (b :: l) := ⟨by simp, fun x c hx _ e => by
  unfold partK at e
  split at e
  · injection e with e _; exact h1 e
  · injection e with e _; exact h2 e⟩
theorem noHead_no {ps : List Pt} {l c : List UInt8} (hp : allR ps) (fp : allF ps) (h : l = bytesK ps ++ c) (hn : NoHead c) : ∀ qs, allR qs → allF qs → l ≠ bytesK qs := by
  intro qs hq fq e
  obtain ⟨rs, rfl, h'⟩ := bytesK_free ps qs c hp hq fp fq (by rw [← h]; exact e)
  cases rs with
  | nil => exact hn.1 (by rw [h']; rfl)
  | cons x rs => exact hn.2 x (bytesK rs) (hq x (by simp)) (fq x (by simp)) (by rw [h', bytesK_cons])
def nPt (l : List UInt8) : Pt := ⟨1, (unB (l.take 8) : Int) - 9223372036854775808, ⟨#[]⟩⟩
theorem nPt_part {l : List UInt8} (h : 8 ≤ l.length) : 1 :: l = partK (nPt l) ++ l.drop 8 ∧ (nPt l).right ∧ (nPt l).fits := by
  have h8 : (l.take 8).length = 8 := by rw [List.length_take]; omega
  have hlt := unB_lt _ h8
  refine ⟨?_, .inl ⟨rfl, rfl⟩, by unfold Pt.fits nPt; simp only; omega⟩
  have hu : upN (nPt l).num = unB (l.take 8) := by unfold upN nPt; simp only; omega
  have hk1 : partK (nPt l) = numK (nPt l).num := kx1 rfl
  rw [hk1, numK, hu, be8_unB _ h8, List.cons_append, List.take_append_drop]
theorem tPt_part (t : ByteArray) (r : List UInt8) : 2 :: (esc t.data.toList ++ (0 :: 0 :: r)) = partK (tpt t) ++ r ∧ (tpt t).right ∧ (tpt t).fits := by
  refine ⟨?_, .inr ⟨rfl, rfl⟩, by unfold Pt.fits tpt; simp only; omega⟩
  unfold partK
  rw [if_neg (by show ¬ (2 : Int) = 1; decide), textK]
  simp [tpt]
theorem esc_ge (l : List UInt8) : l.length ≤ (esc l).length := by
  induction l with
  | nil => simp
  | cons b l ih => rw [esc_cons, List.length_append, List.length_cons]; split <;> simp <;> omega
def szOf : Value → Nat
  | .string s => s.size
  | _ => 0
/-- So far. -/
def SplSt (l : List UInt8) (ps : List Pt) (c : List UInt8) : Prop := allR ps ∧ allF ps ∧ l = bytesK ps ++ c ∧ (∀ x ∈ ps, x.text.size ≤ l.length)
theorem SplSt.snoc {l : List UInt8} {ps : List Pt} {c c' : List UInt8} {x : Pt} (h : SplSt l ps c) (hx : c = partK x ++ c' ∧ x.right ∧ x.fits) (ht : x.text.size ≤ c.length) : SplSt l (ps ++ [x]) c' := by
  obtain ⟨h1, h2, h3, h4⟩ := h
  refine ⟨fun y hy => ?_, fun y hy => ?_, ?_, fun y hy => ?_⟩
  · rcases List.mem_append.1 hy with h | h
    · exact h1 y h
    · rw [List.mem_singleton.1 h]; exact hx.2.1
  · rcases List.mem_append.1 hy with h | h
    · exact h2 y h
    · rw [List.mem_singleton.1 h]; exact hx.2.2
  · rw [bytesK_append, h3, hx.1, List.append_assoc]; simp [bytesK]
  · rcases List.mem_append.1 hy with h | h
    · exact h4 y h
    · rw [List.mem_singleton.1 h]
      have := congrArg List.length h3
      rw [List.length_append] at this
      omega
theorem SplSt.none {l : List UInt8} {ps : List Pt} {c : List UInt8} (h : SplSt l ps c) (hn : NoHead c) : ∀ qs, allR qs → allF qs → l ≠ bytesK qs := noHead_no h.1 h.2.1 h.2.2.1 hn
set_option maxHeartbeats 8000000 in
set_option maxRecDepth 20000 in
theorem split_any (w : World) (s : ByteArray) (hs : s.size ≤ 67108864) :
    Calls Tryd.prog 17 #[.string s] w fun e w' => ∃ (v : Value) (ps : List Pt) (e' : Nat), e = .returned (.tuple #[v, .int .i64 (e' : Int)]) ∧ SplitAns s.data.toList ps e' ∧ w'.ownsRow w.heap.size 31 3 v ps.length (ptv ps) ∧ Below w.heap.size w w' := by
  obtain ⟨i0, hi0, hz0, hz1, hz2⟩ := info_parts pt_info
  have HSL := Lib.hid (show s.data.toList.length = s.size by simp)
  have hinfo : (Tryd.prog.info? 31).map (·.size) = some 3 := by kernel_rfl
  go_enter Tryd.func17, Tryd.ntmps17
  go_wp2
  go_loopw [0, 4] (fun c v wx => ∃ (cur : ByteArray) (ps : List Pt), c = .string cur ∧ Hid (SplSt s.data.toList ps cur.data.toList) ∧ ps.length + cur.size ≤ s.size ∧ Hid (wx.ownsRow w.heap.size 31 3 v ps.length (ptv ps)) ∧ Hid (Below w.heap.size w wx)) (fun c _ _ => szOf c)
  case atStart => exact ⟨s, [], rfl, Lib.hid ⟨fun _ h => by simp at h, fun _ h => by simp at h, rfl, fun _ h => by simp at h⟩, by simp, Lib.hid (World.ownsRow_nil _ _ _ _), Lib.hid (Below.refl _ _)⟩
  case round =>
    obtain ⟨cur, ps, rfl, hST, hle, hO, hW⟩ := hrel
    by_cases hz : cur.size = 0
    · have hce := empty_ba hz
      subst hce
      have HAns : Hid (SplitAns s.data.toList ps 0) := Lib.hid (by
        obtain ⟨h1, h2, h3, h4⟩ := hST.out
        exact .inl ⟨rfl, h1, h2, by simpa using h3, h4, by rw [HSL.out]; omega⟩)
      go_wp2
      go_ret2
      exact ⟨_, ps, 0, rfl, HAns.out, hO.out, hW.out⟩
    · have hq := isEmpty_of_size hz
      have hcl : cur.data.toList.length = cur.size := by simp
      have hpos : 0 < cur.size := by omega
      obtain ⟨b, tl, hbt⟩ : ∃ b tl, cur.data.toList = b :: tl := by
        cases h : cur.data.toList with
        | nil => rw [h] at hcl; simp at hcl; omega
        | cons b tl => exact ⟨b, tl, rfl⟩
      have hb0 : cur[0] = b := by
        have h1 : some cur[0] = cur.data.toList[0]? := by rw [List.getElem?_eq_getElem (by omega)]; rfl
        rw [hbt] at h1; simpa using h1
      have htl : tl.length + 1 = cur.size := by rw [← hcl, hbt]; rfl
      have hext : (cur.extract 1 cur.size).data.toList = tl := by
        rw [ByteArray.data_extract]; simp [hbt]
        exact List.take_of_length_le (by omega)
      obtain ⟨rs, hrs⟩ : ∃ rs, cur.extract 1 cur.size = rs := ⟨_, rfl⟩
      rw [hrs] at hext
      have HRS := Lib.hid hrs
      have HEXT := Lib.hid hext
      have hrl : rs.size = tl.length := by rw [← hext]; simp
      have HBT := Lib.hid hbt
      have HO1 := Lib.hid (own_below hO.out ((Below.refl _ _).alloc (Nat.le_refl _) (.cells #[.int .i64 0, .int .i64 0, .string ⟨#[]⟩] 31)))
      have HOB := Lib.hid (fun k h => (hO.out.lt k h).2)
      have HP := Lib.hid (heap_alloc_new wr (.cells #[.int .i64 0, .int .i64 0, .string ⟨#[]⟩] 31))
      have HW1 := Lib.hid (hW.out.alloc hW.out.size (.cells #[.int .i64 0, .int .i64 0, .string ⟨#[]⟩] 31))
      have hwsz := hW.out.size
      have hs1 : wr.heap.size + 1 = (wr.alloc (.cells #[.int .i64 0, .int .i64 0, .string ⟨#[]⟩] 31)).heap.size := by simp
      clear hO hbt hext
      go_upto_region 4 with (fail)
      generalize wr.alloc (.cells #[.int .i64 0, .int .i64 0, .string ⟨#[]⟩] 31) = wA at HO1 HP HW1 hs1 ⊢
      obtain ⟨P, hPe⟩ : ∃ P, wr.heap.size = P := ⟨_, rfl⟩
      rw [hPe] at HP HOB hs1 hwsz ⊢
      clear hW hPe
      by_cases hb1 : b = 1
      · have hbb : (((cur[0]).toNat : Int) == 1) = true := by rw [hb0, hb1]; rfl
        rw [hb1] at HBT
        clear hb0
        by_cases h8 : rs.size < 8
        · have HNO := Lib.hid (hST.out.none (by rw [HBT.out]; exact noHead_num (by omega)))
          go_wp2_with fail
          refine (show Calls Tryd.prog 25 #[.string rs] wA fun e w' => e = .returned (.tuple #[.agg #[.int .i64 0, .int .i64 0, .string ⟨#[]⟩], .string ⟨#[]⟩, .bool false]) ∧ Below wA.heap.size wA w' from num_no wA rs h8).mono ?_
          rintro e w3 ⟨rfl, hb3⟩
          have HP3 := Lib.hid ((hb3.block _ (by omega)).trans HP.out)
          have HW3 := Lib.hid (HW1.out.trans (hb3.mono (by omega)))
          clear hb3
          go_wp2_with (refine wpList_store_rowAt rfl 31 (.tmp 5) (.tmp 17) rfl rfl P #[.int .i64 0, .int .i64 0, .string ⟨#[]⟩] rfl rfl 31 #[.int .i64 0, .int .i64 0, .string ⟨#[]⟩] (by exact HP3.out) (by exact hinfo) rfl (by simp [Value.oneCell']) ?_)
          intro W hWrow hWU
          have HWF := Lib.hid (HW3.out.trans (hWU.below (B := w.heap.size) (fun k hk e => by omega) HW3.out.size))
          clear hWrow hWU
          go_wp2
          go_ret2
          exact ⟨_, [], 3, rfl, .inr ⟨rfl, rfl, HNO.out⟩, World.ownsRow_nil _ _ _ _, HWF.out⟩
        · have hN := num_yes wA rs h8 (by omega)
          obtain ⟨NV, hNV⟩ : ∃ z, (unB (rs.data.toList.take 8) : Int) - 9223372036854775808 = z := ⟨_, rfl⟩
          obtain ⟨NC, hNC⟩ : ∃ x, rs.extract 8 rs.size = x := ⟨_, rfl⟩
          rw [hNV, hNC] at hN
          have hNCd : NC.data.toList = tl.drop 8 := by
            rw [← hNC, ByteArray.data_extract]; simp [HEXT.out]
            exact List.take_of_length_le (by rw [List.length_drop]; omega)
          have hNCs : NC.size + 8 = rs.size := by
            have h1 : NC.data.toList.length = NC.size := by simp
            rw [hNCd, List.length_drop] at h1; omega
          have hNPe : nPt tl = ⟨1, NV, ⟨#[]⟩⟩ := by unfold nPt; rw [← HEXT.out, hNV]
          obtain ⟨NP, hNP⟩ : ∃ NP : Pt, (⟨1, NV, ⟨#[]⟩⟩ : Pt) = NP := ⟨_, rfl⟩
          have HNP := Lib.hid hNP
          have HST2 : Hid (SplSt s.data.toList (ps ++ [NP]) NC.data.toList) := Lib.hid (hST.out.snoc (by rw [HBT.out, hNCd, ← hNP, ← hNPe]; exact nPt_part (by omega)) (by rw [← hNP]; exact Nat.zero_le _))
          have HCALL := Lib.hid hN
          clear hN hNV hNC hNCd hNPe hNP
          go_wp2_with fail
          refine HCALL.out.mono ?_
          rintro e w3 ⟨rfl, hb3⟩
          have HP3 := Lib.hid ((hb3.block _ (by omega)).trans HP.out)
          have HW3 := Lib.hid (HW1.out.trans (hb3.mono (by omega)))
          have HO3 := Lib.hid (own_below HO1.out hb3)
          have hsz3 := hb3.size
          clear hb3
          go_wp2_with (refine wpList_store_rowAt rfl 31 (.tmp 5) (.tmp 17) rfl rfl P #[.int .i64 1, .int .i64 NV, .string ⟨#[]⟩] rfl rfl 31 #[.int .i64 0, .int .i64 0, .string ⟨#[]⟩] (by exact HP3.out) (by exact hinfo) rfl (by simp [Value.oneCell']) ?_)
          intro W hWrow hWU
          have hWs := hWU.size
          have HW4 := Lib.hid (HW3.out.trans (hWU.below (B := w.heap.size) (fun k hk e => by omega) HW3.out.size))
          have HO4 := Lib.hid (own_upd HO3.out hWU (fun k h e => by have := HOB.out k h; omega))
          have c0 := cell_of_row W P 0 _ _ _ hWrow
          have c1 := cell_of_row W P 1 _ _ _ hWrow
          have c2 := cell_of_row W P 2 _ _ _ hWrow
          simp only [List.getElem?_toArray, List.getElem?_cons_zero, List.getElem?_cons_succ] at c0 c1 c2
          clear hWrow hWU
          go_wp2_with (at_builtin; refine wpList_push rfl (.tmp 31) (.tmp 33) 27 rfl w.heap.size 31 i0 _ 3 32 Tryd.underlying27 hi0 hz0 hz1 hz2 rfl (by decide) _ ps.length (ptv ps) #[.int .i64 1, .int .i64 NV, .string ⟨#[]⟩] rfl (by exact HO4.out) rfl rfl ?a1 ?a2 ?a3 ?a4 ?_)
          case a1 => first | exact ⟨rfl, rfl, rfl⟩ | exact ⟨rfl, rfl⟩ | rfl | (intro u hu; simp at hu; rcases hu with rfl | rfl | rfl <;> rfl)
          case a2 => omega
          case a3 => unfold maxLen; omega
          case a4 => exact HW4.out.size
          intro v5 w5 hown5 hu5 hat5
          have HW5 := Lib.hid (below_row HW4.out HW4.out.size HO4.out (Nat.le_refl _) hu5)
          have HO5 : Hid (w5.ownsRow w.heap.size 31 3 v5 (ps ++ [NP]).length (ptv (ps ++ [NP]))) := Lib.hid (by
            rw [ptv_append, ptv_one, List.length_append, ← HNP.out]; exact hown5)
          clear hown5 hu5 hat5
          go_wp2
          go_roundw
          case rel => exact ⟨NC, ps ++ [NP], rfl, HST2, by rw [List.length_append]; simp; omega, HO5, HW5⟩
          case measure => simp [szOf]; omega
      · have hbb : (((cur[0]).toNat : Int) == 1) = false := beq_eq_false_iff_ne.2 (fun h => hb1 (UInt8.toNat_inj.1 (by rw [← hb0]; show (cur[0]).toNat = 1; omega)))
        by_cases hb2 : b = 2
        · have hbb2 : (((cur[0]).toNat : Int) == 2) = true := by rw [hb0, hb2]; rfl
          rw [hb2] at HBT
          clear hb0
          go_wp2_with fail
          refine (text_any wA rs (by omega)).mono ?_
          rintro e w3 ⟨v, rfl, hAns, hb3⟩
          rcases hAns with ⟨TT, NC, hrd, rfl⟩ | ⟨hno, rfl⟩
          · obtain ⟨NP, hNP⟩ : ∃ NP : Pt, tpt TT = NP := ⟨_, rfl⟩
            have HNP : Hid ((⟨2, 0, TT⟩ : Pt) = NP) := Lib.hid hNP
            have hlen := congrArg List.length hrd
            rw [HEXT.out] at hlen
            simp only [List.length_append, List.length_cons] at hlen
            have hge := esc_ge TT.data.toList
            have hTs : TT.data.toList.length = TT.size := by simp
            have hNs : NC.data.toList.length = NC.size := by simp
            have HST2 : Hid (SplSt s.data.toList (ps ++ [NP]) NC.data.toList) := Lib.hid (hST.out.snoc (by rw [HBT.out, ← HEXT.out, hrd, ← hNP]; exact tPt_part TT _) (by rw [← hNP, HBT.out]; show TT.size ≤ _; rw [List.length_cons]; omega))
            clear hNP hrd
            have HP3 := Lib.hid ((hb3.block _ (by omega)).trans HP.out)
            have HW3 := Lib.hid (HW1.out.trans (hb3.mono (by omega)))
            have HO3 := Lib.hid (own_below HO1.out hb3)
            have hsz3 := hb3.size
            clear hb3
            go_wp2_with (refine wpList_store_rowAt rfl 31 (.tmp 5) (.tmp 26) rfl rfl P #[.int .i64 2, .int .i64 0, .string TT] rfl rfl 31 #[.int .i64 0, .int .i64 0, .string ⟨#[]⟩] (by exact HP3.out) (by exact hinfo) rfl (by simp [Value.oneCell']) ?_)
            intro W hWrow hWU
            have hWs := hWU.size
            have HW4 := Lib.hid (HW3.out.trans (hWU.below (B := w.heap.size) (fun k hk e => by omega) HW3.out.size))
            have HO4 := Lib.hid (own_upd HO3.out hWU (fun k h e => by have := HOB.out k h; omega))
            have c0 := cell_of_row W P 0 _ _ _ hWrow
            have c1 := cell_of_row W P 1 _ _ _ hWrow
            have c2 := cell_of_row W P 2 _ _ _ hWrow
            simp only [List.getElem?_toArray, List.getElem?_cons_zero, List.getElem?_cons_succ] at c0 c1 c2
            clear hWrow hWU
            go_wp2_with (at_builtin; refine wpList_push rfl (.tmp 31) (.tmp 33) 27 rfl w.heap.size 31 i0 _ 3 32 Tryd.underlying27 hi0 hz0 hz1 hz2 rfl (by decide) _ ps.length (ptv ps) #[.int .i64 2, .int .i64 0, .string TT] rfl (by exact HO4.out) rfl rfl ?b1 ?b2 ?b3 ?b4 ?_)
            case b1 => first | exact ⟨rfl, rfl, rfl⟩ | exact ⟨rfl, rfl⟩ | rfl | (intro u hu; simp at hu; rcases hu with rfl | rfl | rfl <;> rfl)
            case b2 => omega
            case b3 => unfold maxLen; omega
            case b4 => exact HW4.out.size
            intro v5 w5 hown5 hu5 hat5
            have HW5 := Lib.hid (below_row HW4.out HW4.out.size HO4.out (Nat.le_refl _) hu5)
            have HO5 : Hid (w5.ownsRow w.heap.size 31 3 v5 (ps ++ [NP]).length (ptv (ps ++ [NP]))) := Lib.hid (by
              rw [ptv_append, ptv_one, List.length_append, ← HNP.out]; exact hown5)
            clear hown5 hu5 hat5
            go_wp2
            go_roundw
            case rel => exact ⟨NC, ps ++ [NP], rfl, HST2, by rw [List.length_append]; simp; omega, HO5, HW5⟩
            case measure => simp [szOf]; omega
          · have HNO := Lib.hid (hST.out.none (by rw [HBT.out, ← HEXT.out]; exact noHead_text hno))
            clear hno
            unfold noPart
            have HP3 := Lib.hid ((hb3.block _ (by omega)).trans HP.out)
            have HW3 := Lib.hid (HW1.out.trans (hb3.mono (by omega)))
            clear hb3
            go_wp2_with (refine wpList_store_rowAt rfl 31 (.tmp 5) (.tmp 26) rfl rfl P #[.int .i64 0, .int .i64 0, .string ⟨#[]⟩] rfl rfl 31 #[.int .i64 0, .int .i64 0, .string ⟨#[]⟩] (by exact HP3.out) (by exact hinfo) rfl (by simp [Value.oneCell']) ?_)
            intro W hWrow hWU
            have HWF := Lib.hid (HW3.out.trans (hWU.below (B := w.heap.size) (fun k hk e => by omega) HW3.out.size))
            clear hWrow hWU
            go_wp2
            go_ret2
            exact ⟨_, [], 3, rfl, .inr ⟨rfl, rfl, HNO.out⟩, World.ownsRow_nil _ _ _ _, HWF.out⟩
        · have hbb2 : (((cur[0]).toNat : Int) == 2) = false := beq_eq_false_iff_ne.2 (fun h => hb2 (UInt8.toNat_inj.1 (by rw [← hb0]; show (cur[0]).toNat = 2; omega)))
          have HNO := Lib.hid (hST.out.none (by rw [HBT.out]; exact noHead_other hb1 hb2))
          clear hb0
          go_wp2
          go_ret2
          exact ⟨_, [], 3, rfl, .inr ⟨rfl, rfl, HNO.out⟩, World.ownsRow_nil _ _ _ _, HW1.out⟩
end Go.Proofs.YtaphfjomlignhaaDoor
