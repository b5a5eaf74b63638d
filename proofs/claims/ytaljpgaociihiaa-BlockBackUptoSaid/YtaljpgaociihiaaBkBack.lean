/- Blocks: BlockBack, walked. -/
import Derived.Test.YtaljpgaociihiaaBkWholeP
import Derived.Test.YtaljpgaociihiaaBkLives
import Derived.Test.YtaljpgaociihiaaBkRight
import Derived.Test.YtaljpgaociihiaaSame6
import Derived.Laws.OwnMore
namespace Go.Proofs.Ytaljpgaociihiaa
open Go.RowKit
theorem own_at4 {w : World} {base n size : Nat} {A : Option Addr} {c : Nat} {e : TypeId} {xs : List Value} (h : w.ownsRow base e size (.slice A n c) n xs) (hn : 0 < n) :
    ∃ g, A = some ⟨g, 0, none⟩ ∧ base ≤ g ∧ g < w.heap.size := by
  obtain ⟨g, cap, hv, h1, h2, _⟩ := own_form h hn
  injection hv with e1 e2 e3
  exact ⟨g, e1, h1, h2⟩
/-- What a text's versions are, if it is a block: right, few and short. -/
theorem text_fine {s : ByteArray} {es : List Ent} (h : rdBlock s.data.toList = some es) :
    rightE es ∧ es.length ≤ s.size ∧ (blockB es).length = s.size ∧ s = ⟨(blockB es).toArray⟩ ∧ (∀ x ∈ es, (-9223372036854775808 ≤ x.seq ∧ x.seq ≤ 9223372036854775807) ∧ x.key.size ≤ s.size ∧ x.val.size ≤ s.size) := by
  obtain ⟨h1, h2, h3⟩ := rdBlock_back h
  have e1 : s.data.toList.length = s.size := by simp
  have e2 : (blockB es).length = s.size := by rw [← h1, e1]
  have e3 := ents_size es [] h2.1
  have e4 : (blockB es).length = (numB es.length).length + (entsB [] es).length := by rw [blockB, List.length_append]
  refine ⟨h2, by omega, e2, ?_, fun x hx => ⟨h3 x hx, ?_⟩⟩
  · apply ByteArray.ext
    rw [← h1]
  · have := e3.2 x hx
    have k1 : x.kl.length = x.key.size := by simp [Ent.kl]
    have k2 : x.vl.length = x.val.size := by simp [Ent.vl]
    simp only [List.length_nil] at this
    omega
theorem mark_row {w : World} {base n c g : Nat} {e : TypeId} {xs : List Value} (h : w.ownsRow base e 4 (.slice (some ⟨g, 0, none⟩) n c) n xs) (k : Nat) (a b d f : Value) :
    ∃ xs', ((((w.setCell ⟨g, k * 4, none⟩ a).setCell ⟨g, k * 4 + 1, none⟩ b).setCell ⟨g, k * 4 + 2, none⟩ d).setCell ⟨g, k * 4 + 3, none⟩ f).ownsRow base e 4 (.slice (some ⟨g, 0, none⟩) n c) n xs' := by
  have cap : ∀ {w : World} {xs}, w.ownsRow base e 4 (.slice (some ⟨g, 0, none⟩) n c) n xs → ∀ j u, ∃ xs', (w.setCell ⟨g, j, none⟩ u).ownsRow base e 4 (.slice (some ⟨g, 0, none⟩) n c) n xs' := fun h j u => ⟨_, (h.stored j u).1⟩
  obtain ⟨_, h1⟩ := cap h (k * 4) a
  obtain ⟨_, h2⟩ := cap h1 (k * 4 + 1) b
  obtain ⟨_, h3⟩ := cap h2 (k * 4 + 2) d
  exact cap h3 (k * 4 + 3) f
set_option maxHeartbeats 8000000 in
set_option maxRecDepth 20000 in
theorem back_any (w : World) (A : Option Addr) (n c : Nat) (l : List Ent) (s : ByteArray) (hr : Rd w w.heap.size 4 A n (entv l)) (hn : n ≤ 1048576) (hok : ∀ x ∈ l, (-9223372036854775808 ≤ x.seq ∧ x.seq ≤ 9223372036854775807) ∧ x.key.size ≤ 1048576 ∧ x.val.size ≤ 1048576)
    (hl : (blockB l).length ≤ 1099511627775) (hs : s.size ≤ 1048576) :
    Calls Try.prog 4 #[.slice A n c, .string s] w fun e w' => e = .returned (.bool true) ∧ Below w.heap.size w w' := by
  obtain ⟨i0, hi0, hz0, hz1, hz2⟩ := info_parts ent_info
  have HNL := Lib.hid (rd_entlen hr)
  have HT : Hid (rdBlock s.data.toList = none ∨ ∃ es, rdBlock s.data.toList = some es ∧ rightE es ∧ es.length ≤ s.size ∧ (blockB es).length = s.size ∧ s = ⟨(blockB es).toArray⟩ ∧ (∀ x ∈ es, (-9223372036854775808 ≤ x.seq ∧ x.seq ≤ 9223372036854775807) ∧ x.key.size ≤ s.size ∧ x.val.size ≤ s.size)) := Lib.hid (by
    cases h : rdBlock s.data.toList with
    | none => exact .inl rfl
    | some es => exact .inr ⟨es, rfl, text_fine h⟩)
  go_enter Try.func4, Try.ntmps4
  go_wp2_with fail
  refine (blives_any _).mono ?_
  rintro e w1 ⟨rfl, hb1⟩
  go_wp2_with fail
  refine (enc_any _ A n c l ((hr.below hb1).mono hb1.size) (by omega) (fun x hx => ⟨(hok x hx).1, by have := (hok x hx).2; omega, by have := (hok x hx).2; omega⟩) (by omega)).mono ?_
  rintro e w2 ⟨he, hb2⟩
  have hb := bel hb1 hb2
  have hr0 := hr
  have hr2 := (hr.below hb).mono hb.size
  by_cases hR : rightE l
  · have HR := Lib.hid hR
    obtain ⟨S, hS⟩ : ∃ S : ByteArray, S = ⟨(blockB l).toArray⟩ := ⟨_, rfl⟩
    have hsz : S.size = (blockB l).length := by rw [hS]; simp [ByteArray.size]
    have HD : Hid (decR S.data.toList = (l, 0)) := Lib.hid (decR_ok (by
      have hf := block_fine hR (fun x hx => (hok x hx).1) (by omega)
      have e : S.data.toList = blockB l := by rw [hS]
      rw [e]
      exact rdBlock_blockB l hR hf.1 hf.2))
    have he' : e = .returned (.tuple #[.string S, .int .i64 0]) := by rw [he, encR_ok hR, hS]; rfl
    subst he'
    have hS40 : S.size ≤ 1099511627776 := by omega
    clear hS hR hsz hl hok hr hb1 hb2 he
    go_wp2_with fail
    refine (right_any _ A n c l hr2 (by omega)).mono ?_
    rintro e w3 ⟨r, rfl, hri, hb3⟩
    obtain rfl : r = true := hri.2 HR.out
    have hb3' := bel hb hb3
    clear hri hb hr2
    go_wp2_with fail
    refine (dec_any _ S hS40).mono ?_
    rintro e w4 ⟨va, he, howa0, hb4⟩
    have he' : e = .returned (.tuple #[va, .int .i64 0]) := by rw [he, HD.out]; rfl
    subst he'
    have howa : w4.ownsRow w3.heap.size 25 4 va n (entv l) := by have h := howa0; rw [HD.out] at h; rw [HNL.out]; exact h
    clear howa0 he
    have hb4' := bel hb3' hb4
    go_wp2_with fail
    refine (dec_any _ S hS40).mono ?_
    rintro e w5 ⟨vb, he, howb0, hb5⟩
    have he' : e = .returned (.tuple #[vb, .int .i64 0]) := by rw [he, HD.out]; rfl
    subst he'
    have howb : w5.ownsRow w4.heap.size 25 4 vb n (entv l) := by have h := howb0; rw [HD.out] at h; rw [HNL.out]; exact h
    clear howb0 he
    have hb5' := bel hb4' hb5
    have hga := howa.lt
    have howa5 := own_below howa hb5
    obtain ⟨Aa, ca, rfl⟩ := own_shape howa5
    obtain ⟨Ab, cb, rfl⟩ := own_shape howb
    have hra := Rd.own howa5
    have hr5 := (hr0.below hb5').mono hb5'.size
    go_wp2_with fail
    refine (same6_yes _ _ n _ _ _ l _ (by unfold maxLen; omega) hra hr5).mono ?_
    rintro e w7 ⟨rfl, m7, rfl⟩
    have hSb : ∀ k, (Value.slice Ab n cb).ownBlock = some k → ¬ ((Value.slice Aa n ca).ownBlock = some k) := fun k hk hk' => by
      have h1 := (howb.lt k hk).1
      have h2 := (hga k hk').2
      omega
    have hSw : ∀ k, k < w.heap.size → ¬ ((Value.slice Aa n ca).ownBlock = some k) := fun k hk hk' => by
      have h2 := (hga k hk').1
      have := hb3'.size
      omega
    have HSb := Lib.hid hSb
    have HSw := Lib.hid hSw
    have hz35 : w3.heap.size ≤ w5.heap.size := Nat.le_trans hb4.size hb5.size
    clear hSb hSw hga hra hr5 howa hb4' hb3' hb4 hb5 hb3
    have hNi : (n : Int) ≤ 1048577 := by omega
    go_wp2
    go_loopw [51] (fun i wx => ∃ k : Nat, k ≤ n ∧ i = .int .i64 k ∧ (∃ xs, wx.ownsRow w3.heap.size 25 4 (.slice Aa n ca) n xs) ∧ Upd (fun q => (Value.slice Aa n ca).ownBlock = some q) w5 wx) (fun i _ => n - (intOf i).toNat)
    case atStart => exact ⟨0, Nat.zero_le _, rfl, ⟨_, howa5⟩, (Upd.refl _ _).drewN m7⟩
    case round =>
      clear howa5
      obtain ⟨k, hk, rfl, ⟨xs, hown⟩, hu⟩ := hrel
      by_cases hlt : k < n
      · obtain ⟨g, rfl, hg1, hg2⟩ := own_at4 hown (by omega)
        have hf0 := hown.frozenAt (k * 4)
        have hf1 := hown.frozenAt (k * 4 + 1)
        have hf2 := hown.frozenAt (k * 4 + 2)
        have hf3 := hown.frozenAt (k * 4 + 3)
        have hc0 := hown.cellAt (k * 4) (by omega)
        have hc1 := hown.cellAt (k * 4 + 1) (by omega)
        have hc2 := hown.cellAt (k * 4 + 2) (by omega)
        have hc3 := hown.cellAt (k * 4 + 3) (by omega)
        have hxl := hown.1
        rw [List.getElem?_eq_getElem (by omega)] at hc0 hc1 hc2 hc3
        generalize xs[k * 4]'(by omega) = y0 at hc0
        generalize xs[k * 4 + 1]'(by omega) = y1 at hc1
        generalize xs[k * 4 + 2]'(by omega) = y2 at hc2
        generalize xs[k * 4 + 3]'(by omega) = y3 at hc3
        have hi1 : (k : Int) < (n : Int) := by omega
        have hi2 : (0 : Int) ≤ (k : Int) := by omega
        have HM := Lib.hid (mark_row hown k (.string ⟨#[109, 97, 114, 107]⟩) (.int .i64 0) (.bool false) (.string ⟨#[]⟩))
        have HU := Lib.hid ((((hu.setCell ⟨g, k * 4, none⟩ rfl (.string ⟨#[109, 97, 114, 107]⟩)).setCell ⟨g, k * 4 + 1, none⟩ rfl (.int .i64 0)).setCell ⟨g, k * 4 + 2, none⟩ rfl (.bool false)).setCell ⟨g, k * 4 + 3, none⟩ rfl (.string ⟨#[]⟩))
        clear hown hu hxl
        go_wp2
        go_roundw
        case rel => exact ⟨k + 1, by omega, by go_num, HM.out, HU.out⟩
        case measure => simp [intOf]; omega
      · obtain rfl : k = n := by omega
        go_wp2_with (at_builtin; refine wpList_push rfl (.tmp 59) (.tmp 61) 22 rfl w3.heap.size 25 i0 _ 4 48 Try.underlying22 hi0 hz0 hz1 hz2 rfl (by omega) _ k xs #[.string ⟨#[]⟩, .int .i64 0, .bool false, .string ⟨#[]⟩] rfl (by exact hown) rfl rfl (by simp [Value.oneCell']) ?c1 ?c2 ?c3 ?_)
        case c1 => omega
        case c2 => unfold maxLen; omega
        case c3 => exact Nat.le_trans hz35 hu.size
        intro v3 w9 hown3 hu3 hat3
        have hu9 := hu.trans hu3 (fun _ _ h => h)
        have howb9 := own_upd howb hu9 HSb.out
        have hb9 := hb5'.trans (hu9.below (fun k hk => HSw.out k hk) hb5'.size)
        obtain ⟨A3, c3, rfl⟩ := own_shape hown3
        have hrb := Rd.own howb9
        have hr9 := (hr0.below hb9).mono hb9.size
        clear hown hown3 hu hu3 hat3 howb hu9 howb9 hb5' hr0
        go_wp2_with fail
        refine (same6_yes _ _ k _ _ _ l _ (by unfold maxLen; omega) hrb hr9).mono ?_
        rintro e w10 ⟨rfl, m10, rfl⟩
        have hbX : Below w.heap.size w (w9.drewN m10) := ⟨hb9.os, hb9.tape, hb9.output, hb9.size, hb9.block⟩
        clear hrb hr9 hb9 HSb HSw
        go_wp2_with fail
        refine (dec_any _ s (by omega)).mono ?_
        rintro e wt ⟨vx, he, howx, hbt⟩
        have hbT := bel hbX hbt
        rcases HT.out with hno | ⟨es, hes, h1, h2, h3, h4, h5⟩
        · have he' : e = .returned (.tuple #[vx, .int .i64 1]) := by rw [he, decR_no hno]; rfl
          subst he'
          obtain ⟨B0, howx'⟩ : ∃ B0, wt.ownsRow B0 25 4 vx 0 [] := ⟨_, by rw [decR_no hno] at howx; exact howx⟩
          obtain ⟨Ax, cx, rfl⟩ := own_shape howx'
          clear howx howx' he hbt hno
          go_wp2
          go_ret
          exact ⟨rfl, hbT⟩
        · have he' : e = .returned (.tuple #[vx, .int .i64 0]) := by rw [he, decR_ok hes]; rfl
          subst he'
          obtain ⟨B0, howx'⟩ : ∃ B0, wt.ownsRow B0 25 4 vx es.length (entv es) := ⟨_, by rw [decR_ok hes] at howx; exact howx⟩
          obtain ⟨Ax, cx, rfl⟩ := own_shape howx'
          have hrx := Rd.own howx'
          have HS := Lib.hid h4
          have HRE := Lib.hid h1
          clear howx howx' he hbt hes h4
          go_wp2_with fail
          refine (enc_any _ Ax es.length cx es hrx (by omega) (fun x hx => ⟨(h5 x hx).1, by have := (h5 x hx).2; omega, by have := (h5 x hx).2; omega⟩) (by omega)).mono ?_
          rintro e wu ⟨he, hbu⟩
          have he' : e = .returned (.tuple #[.string s, .int .i64 0]) := by rw [he, encR_ok HRE.out, HS.out]; rfl
          subst he'
          have hbU := bel hbT hbu
          clear he hbT hbu hrx h5 h3 h2 h1
          go_wp2
          go_ret
          exact ⟨rfl, hbU⟩
  · have he' : e = .returned (.tuple #[.string ⟨#[]⟩, .int .i64 9]) := by rw [he, encR_no hR]; rfl
    subst he'
    have HR := Lib.hid hR
    clear hr hok hl he hR hb1 hb2
    go_wp2_with fail
    refine (right_any _ A n c l hr2 (by omega)).mono ?_
    rintro e w3 ⟨r, rfl, hri, hb3⟩
    obtain rfl : r = false := by
      cases r with
      | false => rfl
      | true => exact absurd (hri.1 rfl) HR.out
    have hb3' := bel hb hb3
    clear hri hb hr2 hb3
    go_wp2_with fail
    refine (dec_any _ s (by omega)).mono ?_
    rintro e wt ⟨vx, he, howx, hbt⟩
    have hbT := bel hb3' hbt
    rcases HT.out with hno | ⟨es, hes, h1, h2, h3, h4, h5⟩
    · have he' : e = .returned (.tuple #[vx, .int .i64 1]) := by rw [he, decR_no hno]; rfl
      subst he'
      obtain ⟨B0, howx'⟩ : ∃ B0, wt.ownsRow B0 25 4 vx 0 [] := ⟨_, by rw [decR_no hno] at howx; exact howx⟩
      obtain ⟨Ax, cx, rfl⟩ := own_shape howx'
      clear howx howx' he hbt hno
      go_wp2
      go_ret
      exact ⟨rfl, hbT⟩
    · have he' : e = .returned (.tuple #[vx, .int .i64 0]) := by rw [he, decR_ok hes]; rfl
      subst he'
      obtain ⟨B0, howx'⟩ : ∃ B0, wt.ownsRow B0 25 4 vx es.length (entv es) := ⟨_, by rw [decR_ok hes] at howx; exact howx⟩
      obtain ⟨Ax, cx, rfl⟩ := own_shape howx'
      have hrx := Rd.own howx'
      have HS := Lib.hid h4
      have HRE := Lib.hid h1
      clear howx howx' he hbt hes h4
      go_wp2_with fail
      refine (enc_any _ Ax es.length cx es hrx (by omega) (fun x hx => ⟨(h5 x hx).1, by have := (h5 x hx).2; omega, by have := (h5 x hx).2; omega⟩) (by omega)).mono ?_
      rintro e wu ⟨he, hbu⟩
      have he' : e = .returned (.tuple #[.string s, .int .i64 0]) := by rw [he, encR_ok HRE.out, HS.out]; rfl
      subst he'
      have hbU := bel hbT hbu
      clear he hbT hbu hrx h5 h3 h2 h1
      go_wp2
      go_ret
      exact ⟨rfl, hbU⟩
end Go.Proofs.Ytaljpgaociihiaa
