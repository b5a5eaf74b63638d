/- Bloom: Build, as the reference builds it: bools, then bytes. -/
import Derived.Test.YtanieolnaiihmaaJBlBuild
namespace Go.Proofs.Ytanieolnaiihmaa
open Go.RowKit

def boolv (l : List Bool) : List Value := l.map Value.bool
theorem boolv_length (l : List Bool) : (boolv l).length = l.length := by simp [boolv]
theorem boolv_get (l : List Bool) (k : Nat) (h : k < l.length) : (boolv l)[k]? = some (.bool l[k]) := by simp [boolv, h]
theorem boolv_set (l : List Bool) (k : Nat) (b : Bool) : (boolv l).set k (.bool b) = boolv (l.set k b) := by simp [boolv, List.map_set]
theorem made_boolv (n : Nat) : (madeCells #[Value.bool false] n).toList = boolv (List.replicate n false) := by
  rw [toList_madeCells_one]; simp [boolv]
def rsk (m h : Nat) : Nat → List Bool → List Bool
  | 0, l => l
  | j + 1, l => (rsk m h j l).set (prb h j m) true
theorem rsk_length (m h : Nat) (j : Nat) (l : List Bool) : (rsk m h j l).length = l.length := by
  induction j with
  | zero => rfl
  | succ j ih => rw [rsk, List.length_set, ih]
def rst (N : Nat) (ks : List ByteArray) : List Bool := ks.foldl (fun l k => rsk (8 * N) (hsh k.data.toList) 4 l) (List.replicate (8 * N) false)
theorem rst_length (N : Nat) (ks : List ByteArray) : (rst N ks).length = 8 * N := by
  unfold rst
  have : ∀ (ks : List ByteArray) (l : List Bool), (ks.foldl (fun l k => rsk (8 * N) (hsh k.data.toList) 4 l) l).length = l.length := by
    intro ks
    induction ks with
    | nil => intro l; rfl
    | cons a ks ih => intro l; rw [List.foldl_cons, ih, rsk_length]
  rw [this]; simp
theorem rst_snoc (N : Nat) (ks : List ByteArray) (k : ByteArray) : rst N (ks ++ [k]) = rsk (8 * N) (hsh k.data.toList) 4 (rst N ks) := by
  unfold rst; rw [foldl_snoc]
/-- Byte i out of the bits, the first t of them from the top. -/
def pk (P : List Bool) (i : Nat) : Nat → Nat
  | 0 => 0
  | t + 1 => 2 * pk P i t + if P.getD (8 * i + (7 - t)) false then 1 else 0
theorem pk_lt (P : List Bool) (i t : Nat) : pk P i t < 2 ^ t := by
  induction t with
  | zero => simp [pk]
  | succ t ih => rw [pk, Nat.pow_succ]; split <;> omega
def pks (P : List Bool) (n : Nat) : List UInt8 := (List.range n).map fun i => UInt8.ofNat (pk P i 8)
theorem pks_snoc (P : List Bool) (n : Nat) : pks P (n + 1) = pks P n ++ [UInt8.ofNat (pk P n 8)] := by simp [pks, List.range_succ]
theorem pks_length (P : List Bool) (n : Nat) : (pks P n).length = n := by simp [pks]
def rbld (ks : List ByteArray) : List UInt8 := if ks = [] then [] else pks (rst (blen ks.length) ks) (blen ks.length)

theorem bool_info : (Try.prog.info? 4).map (fun i => (i.zero, i.size, i.bytes)) = some (some (.bool false), 1, 1) := by kernel_rfl

theorem ref_rel {w wr w2 : World} {P : List Bool} {N i B : Nat} {e e' : TypeId} {v v' : Value} {cs : Obj} (hpk : pk P i 8 ≤ 255)
    (hox : wr.ownsRow (B + 1) e 1 v i (bytv (pks P i))) (hob : wr.ownsRow B e' 1 (.slice (some ⟨B, 0, none⟩) (8 * N) (8 * N)) (8 * N) (boolv P)) (hbx : Below B w wr)
    (hown2 : w2.ownsRow (B + 1) e 1 v' (i + 1) (bytv (pks P i) ++ [Value.int .u8 (pk P i 8 : Int)])) (hgr2 : (wr.alloc cs).grownBy w2 v.ownBlock) :
    w2.ownsRow (B + 1) e 1 v' (i + 1) (bytv (pks P (i + 1))) ∧ w2.ownsRow B e' 1 (.slice (some ⟨B, 0, none⟩) (8 * N) (8 * N)) (8 * N) (boolv P) ∧ Below B w w2 := by
  have hB : B ≤ wr.heap.size := by
    rcases hob.2 with ⟨h, _⟩ | ⟨g, cap, cur, h, _, hg, _⟩
    · cases h
    · injection h with h _ _
      injection h with h
      injection h with h _ _
      subst h
      exact Nat.le_of_lt (Array.getElem?_eq_some_iff.1 hg).1
  refine ⟨?_, (hob.alloc cs).kept hgr2 (.inr ?_), (hbx.alloc hB cs).grown hgr2 (by simp; omega) (fun k hk => by have := (hox.lt k hk).1; omega)⟩
  · rw [pks_snoc, bytv_append]
    have : bytv [UInt8.ofNat (pk P i 8)] = [Value.int .u8 (pk P i 8 : Int)] := by
      simp only [bytv, List.map_cons, List.map_nil]
      rw [UInt8.toNat_ofNat', Nat.mod_eq_of_lt (by omega)]
    rw [this]
    exact hown2
  · intro h
    have := (hox.lt B h.symm).1
    omega

set_option maxHeartbeats 1000000 in
set_option maxRecDepth 20000 in
theorem rbuild_any (A : Option Addr) (n c : Nat) (ks : List ByteArray) (w : World) (hn : n * 16 ≤ 140737488351232) (hr : Rd w w.heap.size 1 A n (strv ks)) (hks : ∀ k ∈ ks, k.size ≤ maxLen) :
    Calls Try.prog 10 #[.slice A n c] w fun e w' => e = .returned (.string ⟨(rbld ks).toArray⟩) ∧ Below w.heap.size w w' := by
  have hlen : ks.length = n := by have := hr.len; rw [strv_length] at this; omega
  by_cases h0 : n = 0
  · have H := Lib.hid (show rbld ks = [] by unfold rbld; rw [if_pos (List.eq_nil_of_length_eq_zero (by omega))])
    subst h0
    clear hlen
    go_enter Try.func10, Try.ntmps10
    go_wp2
    go_ret
    exact ⟨ret_str (by rw [H.out]), Below.refl _ _⟩
  · have H := Lib.hid (show rbld ks = pks (rst (blen n) ks) (blen n) by unfold rbld; rw [if_neg (fun e => h0 (by rw [← hlen, e]; rfl)), hlen])
    have h0' : ((n : Int) == 0) = false := by simpa using h0
    have hN : blen n = (10 * n + 7) / 8 := rfl
    obtain ⟨N, hN'⟩ : ∃ N, N = blen n := ⟨_, rfl⟩
    rw [← hN'] at hN
    have HN := Lib.hid hN'
    have HN2 := Lib.hid hN
    have hNle : N ≤ 140737488351232 := by omega
    have hN1 : 1 ≤ N := by omega
    have Hlen := Lib.hid hlen
    obtain ⟨i0, hi0, hz0, hz1, hz2⟩ := info_parts bool_info
    obtain ⟨i1, hi1, hy0, hy1, hy2⟩ := info_parts u8_infoB
    have hnum : ((10 * (n : Int) + 7) / 8) = (N : Int) := by omega
    clear hlen hN' hN
    go_enter Try.func10, Try.ntmps10
    go_wp2_with (at_make; refine wpList_make_full _ rfl _ _ 82 rfl w.heap.size 4 i0 (.bool false) 1 Try.underlying82 hi0 hz0 hz1 .i64 .i64 _ _ (8 * N) rfl rfl ?c1 ?c2 ?c3 ?c4 ?c5 ?_)
    case c1 => omega
    case c2 => omega
    case c3 => rw [hz2]; omega
    case c4 => unfold maxLen; omega
    case c5 => exact Nat.le_refl _
    intro w1 hown hgr
    rw [made_boolv] at hown
    have hb1 : Below w.heap.size w w1 := (Below.refl _ _).grown hgr (Nat.le_refl _) (fun k hk => by cases hk)
    clear hgr
    go_wp2
    go_loopw [26] (fun i wr => ∃ k : Nat, k ≤ n ∧ i = .int .i64 k ∧ wr.ownsRow w.heap.size 4 1 (.slice (some ⟨w.heap.size, 0, none⟩) (8 * N) (8 * N)) (8 * N) (boolv (rst N (ks.take k))) ∧ Below w.heap.size w wr) (fun i _ => n - (intOf i).toNat)
    case atStart => exact ⟨0, Nat.zero_le _, rfl, hown, hb1⟩
    case round =>
      obtain ⟨k, hk, rfl, hownr, hbr⟩ := hrel
      by_cases hlt : k < n
      · obtain ⟨ad, rfl, hab, hs, hc⟩ := hr.str hlt
        have hcr : wr.cell? (ad.add k) = some (.string ks[k]) := by rw [hbr.cell (by rw [block_add]; exact hab)]; exact hc
        have hksk : ks[k].size ≤ maxLen := hks _ (List.getElem_mem _)
        go_wp2_with (go_at_call 13; refine (rhash_any _ _ hksk).mono ?_; rintro e w' ⟨rfl, rfl⟩)
        have hh64 := hsh_lt ks[k].data.toList
        obtain ⟨hh, hhe⟩ : ∃ h, h = hsh ks[k].data.toList := ⟨_, rfl⟩
        rw [← hhe]
        rw [← hhe] at hh64
        obtain ⟨L, hL⟩ : ∃ L, L = rst N (ks.take k) := ⟨_, rfl⟩
        rw [← hL] at hownr
        have HLl := Lib.hid (show L.length = 8 * N by rw [hL, rst_length])
        have HT := Lib.hid (show rst N (ks.take (k + 1)) = rsk (8 * N) hh 4 L by
          rw [List.take_succ_eq_append_getElem hs, rst_snoc, hL, hhe])
        clear hL hhe
        go_loopw [8] (fun i wr => ∃ j : Nat, j ≤ 4 ∧ i = .int .i64 j ∧ wr.ownsRow w.heap.size 4 1 (.slice (some ⟨w.heap.size, 0, none⟩) (8 * N) (8 * N)) (8 * N) (boolv (rsk (8 * N) hh j L)) ∧ Below w.heap.size w wr) (fun i _ => 4 - (intOf i).toNat)
        case atStart => exact ⟨0, Nat.zero_le _, rfl, hownr, hbr⟩
        case round =>
          obtain ⟨j, hj, rfl, howni, hbi⟩ := hrel
          by_cases h4 : j < 4
          · have hp := prb_lt hh j (8 * N) (by omega)
            have hset : Hid (rsk (8 * N) hh (j + 1) L = (rsk (8 * N) hh j L).set (prb hh j (8 * N)) true) := rfl
            have hMl : (rsk (8 * N) hh j L).length = 8 * N := by rw [rsk_length]; exact HLl.out
            have hcell : ∃ b, wr.cell? ⟨w.heap.size, prb hh j (8 * N), none⟩ = some (.bool b) :=
              ⟨(rsk (8 * N) hh j L)[prb hh j (8 * N)]'(by omega), by rw [howni.cellAt _ (by omega), boolv_get _ _ (by omega)]⟩
            obtain ⟨b0, hcell⟩ := hcell
            have hfz := howni.frozenAt (prb hh j (8 * N))
            have hst := (howni.stored (prb hh j (8 * N)) (Value.bool true)).1
            rw [boolv_set, ← hset.out] at hst
            have HS := Lib.hid hst
            have HB := Lib.hid (hbi.setCell (p := ⟨w.heap.size, prb hh j (8 * N), none⟩) (Nat.le_refl _) (Value.bool true))
            clear hst howni hbi hset hMl
            go_wp2_with (go_at_call 42; refine (rprobe_any _ _ _ _ hh64 (by omega) (by omega) (by omega) (by omega)).mono ?_; rintro e w' ⟨rfl, rfl⟩)
            go_roundw
            case rel => exact ⟨j + 1, by omega, by go_num, HS.out, HB.out⟩
            case measure => simp [intOf]; omega
          · obtain rfl : j = 4 := by omega
            rw [← HT.out] at howni
            go_wp2
            go_roundw
            case rel => exact ⟨k + 1, by omega, by go_num, howni, hbi⟩
            case measure => simp [intOf]; omega
      · obtain rfl : k = n := by omega
        rw [← Hlen.out, List.take_length] at hownr
        obtain ⟨P, hP⟩ : ∃ P, P = rst N ks := ⟨_, rfl⟩
        rw [← hP] at hownr
        have HPl := Lib.hid (show P.length = 8 * N by rw [hP, rst_length])
        have HP := Lib.hid hP
        clear hP hown hb1
        go_wp2
        go_loopw [9, 10] (fun v i wx => ∃ k : Nat, k ≤ N ∧ i = .int .i64 k ∧ wx.ownsRow (w.heap.size + 1) 5 1 v k (bytv (pks P k)) ∧ wx.ownsRow w.heap.size 4 1 (.slice (some ⟨w.heap.size, 0, none⟩) (8 * N) (8 * N)) (8 * N) (boolv P) ∧ Below w.heap.size w wx) (fun _ i _ => N - (intOf i).toNat)
        case atStart => exact ⟨0, Nat.zero_le _, rfl, World.ownsRow_nil _ _ _ _, hownr, hbr⟩
        case round =>
          obtain ⟨i, hi, rfl, hox, hob, hbx⟩ := hrel
          by_cases hiN : i < N
          · go_wp2
            go_loop [11, 12] (fun x q => ∃ t : Nat, t ≤ 8 ∧ q = .int .i64 (7 - (t : Int)) ∧ x = .int .u8 (pk P i t : Int)) (fun _ q => (intOf q + 1).toNat)
            case atStart => exact ⟨0, by omega, rfl, rfl⟩
            case round =>
              obtain ⟨t, ht, rfl, rfl⟩ := hrel
              by_cases ht8 : t < 8
              · have hpk : pk P i t ≤ 127 := by
                  have h1 := pk_lt P i t
                  have h2 : 2 ^ t ≤ 2 ^ 7 := Nat.pow_le_pow_right (by omega) (by omega)
                  omega
                have hPlt : 8 * i + (7 - t) < 8 * N := by omega
                have hPl := HPl.out
                have hc0 := hob.cellAt (8 * i + (7 - t)) (by omega)
                rw [boolv_get _ _ (by omega)] at hc0
                have hgd : P.getD (8 * i + (7 - t)) false = P[8 * i + (7 - t)]'(by omega) := by rw [List.getD_eq_getElem?_getD, List.getElem?_eq_getElem (by omega)]; rfl
                rw [← hgd] at hc0
                have hpe : pk P i (t + 1) = 2 * pk P i t + if P.getD (8 * i + (7 - t)) false then 1 else 0 := rfl
                clear hPl hgd
                cases hbit : P.getD (8 * i + (7 - t)) false
                all_goals
                  rw [hbit] at hc0 hpe
                  simp only [Bool.false_eq_true, if_false, if_true, Nat.add_zero] at hpe
                  have HPE := Lib.hid hpe
                  clear hbit hpe
                  go_wp2
                  go_round
                  case rel => exact ⟨t + 1, by omega, by go_num, by rw [HPE.out]; go_num⟩
                  case measure => simp [intOf]; omega
              · obtain rfl : t = 8 := by omega
                have hpk : pk P i 8 ≤ 255 := by have := pk_lt P i 8; omega
                go_wp2_with (at_builtin; refine wpList_append_own _ rfl _ _ 38 rfl (w.heap.size + 1) 5 i1 (.int .u8 0) 1 1 Try.underlying38 hi1 hy0 hy1 hy2 rfl (by decide) _ _ _ rfl (hox.alloc _) ⟨wr.heap.size, 0, none⟩ 1 1 [.int .u8 (pk P i 8 : Int)] rfl rfl ?c1 ?c2 ?c3 ?c4 ?c5 ?_)
                case c2 => rfl
                case c3 => unfold maxLen; omega
                case c4 => omega
                case c5 => exact hbx.size
                intro v' w2 hown2 hgr2 _
                have hrel := ref_rel (P := P) (i := i) hpk hox hob hbx hown2 hgr2
                clear hown2 hgr2 hox hob hbx
                go_wp2
                go_roundw
                case rel => exact ⟨i + 1, by omega, by go_num, hrel.1, hrel.2.1, hrel.2.2⟩
                case measure => simp [intOf]; omega
          · obtain rfl : i = N := by omega
            have hcv := conv_own (P := Try.prog) (src := 38) (dst := 9) Try.underlying38 Try.underlying5 Try.underlying9 hox
            go_wp2
            go_ret
            exact ⟨ret_str (by rw [H.out, ← HN.out, HP.out]), hbx⟩
end Go.Proofs.Ytanieolnaiihmaa
/- Bloom, plain: the code's filter is the reference's; what it answers. -/
namespace Go.Proofs.Ytanieolnaiihmaa

theorem fbit_eq (l : List UInt8) (p : Nat) : fbit l p = (l.getD (p / 8) 0).toNat.testBit (p % 8) := by
  unfold fbit hv
  rw [Nat.testBit_eq_decide_div_mod_eq]
  rfl
theorem getD_set {α : Type} (l : List α) (i j : Nat) (a d : α) (h : i < l.length) : (l.set i a).getD j d = if i = j then a else l.getD j d := by
  rw [List.getD_eq_getElem?_getD, List.getElem?_set, List.getD_eq_getElem?_getD]
  by_cases e : i = j
  · subst e; simp [h]
  · simp [e]
theorem fbit_setb (l : List UInt8) (p q : Nat) (h : p / 8 < l.length) : fbit (setb l p) q = (fbit l q || p == q) := by
  rw [fbit_eq, fbit_eq]
  unfold setb
  rw [getD_set _ _ _ _ _ h]
  have hlt : (l.getD (p / 8) 0).toNat ||| 2 ^ (p % 8) < 2 ^ 8 := Nat.or_lt_two_pow (UInt8.toNat_lt _) (Nat.pow_lt_pow_right (by omega) (by omega))
  by_cases e : p / 8 = q / 8
  · rw [if_pos e, UInt8.toNat_ofNat', Nat.mod_eq_of_lt (by omega), Nat.testBit_or, Nat.testBit_two_pow, e]
    congr 1
    rw [Bool.eq_iff_iff]
    simp only [decide_eq_true_eq, beq_iff_eq]
    omega
  · rw [if_neg e]
    have : (p == q) = false := by rw [beq_eq_false_iff_ne]; intro h; exact e (by rw [h])
    rw [this, Bool.or_false]
theorem fbit_setk (m h : Nat) (l : List UInt8) (hm : m = 8 * l.length) (h0 : 0 < m) (j q : Nat) : fbit (setk m h j l) q = (fbit l q || (List.range j).any fun i => prb h i m == q) := by
  induction j with
  | zero => simp [setk]
  | succ j ih =>
    have hp := prb_lt h j m h0
    rw [setk, fbit_setb _ _ _ (by rw [setk_length]; omega), ih, List.range_succ, List.any_append]
    simp [Bool.or_assoc]
/-- The probes of the keys, as a question. -/
def hit (m : Nat) (ks : List ByteArray) (q : Nat) : Bool := ks.any fun k => (List.range 4).any fun i => prb (hsh k.data.toList) i m == q
theorem fbit_fold (m : Nat) (h0 : 0 < m) (ks : List ByteArray) : ∀ l : List UInt8, m = 8 * l.length → ∀ q, fbit (ks.foldl (fun l k => setk m (hsh k.data.toList) 4 l) l) q = (fbit l q || hit m ks q) := by
  induction ks with
  | nil => intro l _ q; simp [hit]
  | cons k ks ih =>
    intro l hm q
    rw [List.foldl_cons, ih _ (by rw [setk_length]; exact hm), fbit_setk m _ l hm h0]
    simp [hit, Bool.or_assoc]
theorem getD_replicate {α : Type} (n i : Nat) (a : α) : (List.replicate n a).getD i a = a := by
  rw [List.getD_eq_getElem?_getD, List.getElem?_replicate]; split <;> rfl
theorem fbit_bldTo (N : Nat) (h0 : 0 < N) (ks : List ByteArray) (q : Nat) : fbit (bldTo N ks) q = hit (8 * N) ks q := by
  unfold bldTo
  rw [fbit_fold (8 * N) (by omega) ks _ (by simp)]
  rw [fbit_eq, getD_replicate]
  simp
theorem bytes_ext (a b : List UInt8) (hl : a.length = b.length) (h : ∀ q, q < 8 * a.length → fbit a q = fbit b q) : a = b := by
  apply List.ext_getElem hl
  intro i h1 h2
  apply UInt8.toNat.inj
  apply Nat.eq_of_testBit_eq
  intro j
  by_cases hj : j < 8
  · have := h (8 * i + j) (by omega)
    rw [fbit_eq, fbit_eq, show (8 * i + j) / 8 = i by omega, show (8 * i + j) % 8 = j by omega] at this
    rw [List.getD_eq_getElem?_getD, List.getElem?_eq_getElem h1, List.getD_eq_getElem?_getD, List.getElem?_eq_getElem h2] at this
    exact this
  · have hp : 2 ^ 8 ≤ 2 ^ j := Nat.pow_le_pow_right (by omega) (by omega)
    have ha := a[i].toNat_lt
    have hb := b[i].toNat_lt
    rw [Nat.testBit_lt_two_pow (by omega), Nat.testBit_lt_two_pow (by omega)]
theorem rsk_getD (m h : Nat) (l : List Bool) (hm : m = l.length) (h0 : 0 < m) (j q : Nat) : (rsk m h j l).getD q false = (l.getD q false || (List.range j).any fun i => prb h i m == q) := by
  induction j with
  | zero => simp [rsk]
  | succ j ih =>
    have hp := prb_lt h j m h0
    rw [rsk, getD_set _ _ _ _ _ (by rw [rsk_length]; omega), ih, List.range_succ, List.any_append]
    by_cases e : prb h j m = q
    · simp [e]
    · have e' : (prb h j m == q) = false := beq_eq_false_iff_ne.2 e
      simp [e, e']
theorem rst_fold (m : Nat) (h0 : 0 < m) (ks : List ByteArray) : ∀ l : List Bool, m = l.length → ∀ q, (ks.foldl (fun l k => rsk m (hsh k.data.toList) 4 l) l).getD q false = (l.getD q false || hit m ks q) := by
  induction ks with
  | nil => intro l _ q; simp [hit]
  | cons k ks ih =>
    intro l hm q
    rw [List.foldl_cons, ih _ (by rw [rsk_length]; exact hm), rsk_getD m _ l hm h0]
    simp [hit, Bool.or_assoc]
theorem rst_getD (N : Nat) (h0 : 0 < N) (ks : List ByteArray) (q : Nat) : (rst N ks).getD q false = hit (8 * N) ks q := by
  unfold rst
  rw [rst_fold (8 * N) (by omega) ks _ (by simp), getD_replicate]
  simp
theorem pk_testBit (P : List Bool) (i t : Nat) : ∀ s, s < t → t ≤ 8 → (pk P i t).testBit s = P.getD (8 * i + (7 - (t - 1 - s))) false := by
  induction t with
  | zero => intro s hs; omega
  | succ t ih =>
    intro s hs ht
    rw [pk]
    cases s with
    | zero =>
      rw [Nat.testBit_zero, show t + 1 - 1 - 0 = t by omega]
      cases P.getD (8 * i + (7 - t)) false <;> simp
    | succ s =>
      rw [Nat.testBit_succ, show (2 * pk P i t + if P.getD (8 * i + (7 - t)) false = true then 1 else 0) / 2 = pk P i t by split <;> omega, ih s (by omega) (by omega)]
      congr 3
      omega
theorem fbit_pks (P : List Bool) (n q : Nat) (hq : q < 8 * n) : fbit (pks P n) q = P.getD q false := by
  have hi : q / 8 < n := by omega
  rw [fbit_eq]
  unfold pks
  rw [List.getD_eq_getElem?_getD, List.getElem?_map, List.getElem?_range hi]
  simp only [Option.map_some, Option.getD_some]
  have h1 := pk_lt P (q / 8) 8
  rw [UInt8.toNat_ofNat', Nat.mod_eq_of_lt (by omega), pk_testBit P _ 8 _ (by omega) (by omega)]
  congr 1
  omega
theorem blen_pos {n : Nat} (h : 0 < n) : 0 < blen n := by unfold blen; omega
theorem bld_length (ks : List ByteArray) : (bld ks).length = if ks = [] then 0 else blen ks.length := by
  unfold bld; split
  · rfl
  · rw [bldTo_length]
theorem length_pos_of {α : Type} {l : List α} (h : l ≠ []) : 0 < l.length := List.length_pos_iff.2 h
/-- P7.1: the two filters are one. -/
theorem rbld_eq (ks : List ByteArray) : rbld ks = bld ks := by
  unfold rbld bld
  split
  · rfl
  · rename_i h
    have h0 := blen_pos (length_pos_of h)
    refine bytes_ext _ _ (by rw [pks_length, bldTo_length]) (fun q hq => ?_)
    rw [pks_length] at hq
    rw [fbit_pks _ _ _ hq, rst_getD _ h0, fbit_bldTo _ h0]
/-- P7.2: none of its keys is denied. -/
theorem may_bld (ks : List ByteArray) (k : ByteArray) (hk : k ∈ ks) : may (bld ks) k.data.toList = true := by
  have hne : ks ≠ [] := fun e => by rw [e] at hk; cases hk
  have h0 := blen_pos (length_pos_of hne)
  have hb : bld ks = bldTo (blen ks.length) ks := by unfold bld; rw [if_neg hne]
  rw [hb]
  refine may_yes (by rw [bldTo_length]; omega) (fun i hi => ?_)
  rw [bldTo_length, fbit_bldTo _ h0]
  unfold hit
  rw [List.any_eq_true]
  refine ⟨k, hk, ?_⟩
  rw [List.any_eq_true]
  exact ⟨i, by simpa using hi, by simp⟩
theorem bld_reverse (ks : List ByteArray) : bld ks.reverse = bld ks := by
  unfold bld
  by_cases h : ks = []
  · simp [h]
  · rw [if_neg (by simpa using h), if_neg h, List.length_reverse]
    have h0 := blen_pos (length_pos_of h)
    refine bytes_ext _ _ (by rw [bldTo_length, bldTo_length]) (fun q _ => ?_)
    rw [fbit_bldTo _ h0, fbit_bldTo _ h0]
    simp [hit]
theorem bld_nil_iff (ks : List ByteArray) : bld ks = [] ↔ ks = [] := by
  constructor
  · intro h
    have := congrArg List.length h
    rw [bld_length] at this
    split at this
    · assumption
    · rename_i hn
      have := blen_pos (length_pos_of hn)
      simp_all
  · rintro rfl; rfl
/-- P7.3: with more bits set nothing more is denied. -/
def orb (a b : List UInt8) : List UInt8 := (List.range a.length).map fun i => if i < b.length then UInt8.ofNat ((a.getD i 0).toNat ||| (b.getD i 0).toNat) else a.getD i 0
theorem orb_length (a b : List UInt8) : (orb a b).length = a.length := by simp [orb]
theorem orb_nil (b : List UInt8) : orb [] b = [] := rfl
theorem fbit_orb (a b : List UInt8) (q : Nat) (hq : q < 8 * a.length) (h : fbit a q = true) : fbit (orb a b) q = true := by
  have hi : q / 8 < a.length := by omega
  rw [fbit_eq] at *
  unfold orb
  rw [List.getD_eq_getElem?_getD, List.getElem?_map, List.getElem?_range hi]
  simp only [Option.map_some, Option.getD_some]
  split
  · have hlt : (a.getD (q / 8) 0).toNat ||| (b.getD (q / 8) 0).toNat < 2 ^ 8 := Nat.or_lt_two_pow (UInt8.toNat_lt _) (UInt8.toNat_lt _)
    rw [UInt8.toNat_ofNat', Nat.mod_eq_of_lt (by omega), Nat.testBit_or, h, Bool.true_or]
  · exact h
theorem may_orb (a b key : List UInt8) (h : may a key = true) : may (orb a b) key = true := by
  by_cases h0 : a = []
  · rw [h0, may_nil] at h; cases h
  · have hp := length_pos_of h0
    unfold may at h
    rw [if_neg h0, List.all_eq_true] at h
    refine may_yes (by rw [orb_length]; omega) (fun i hi => ?_)
    rw [orb_length]
    exact fbit_orb a b _ (prb_lt _ _ _ (by omega)) (h i (by simpa using hi))
end Go.Proofs.Ytanieolnaiihmaa
