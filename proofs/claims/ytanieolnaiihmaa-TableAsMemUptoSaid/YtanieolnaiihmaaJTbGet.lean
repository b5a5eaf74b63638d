/- Tables: where a key's version lies: place, walked. -/
import Derived.Test.YtanieolnaiihmaaJTbOpen
namespace Go.Proofs.Ytanieolnaiihmaa
open Go.RowKit
@[local go_sem] theorem gtr_strT (t : TypeId) (a b : ByteArray) : binOp .gtr t (.string a) (.string b) = pure (.bool !(Op.bytesLess a.toList b.toList || a.toList == b.toList)) := by simp [binOp, Op.stringOp]
theorem less_irr : ∀ l : List UInt8, Op.bytesLess l l = false
  | [] => rfl
  | x :: l => by simp [Op.bytesLess, less_irr l]
def hitE (l : List Ent) (key : ByteArray) (sq : Int) (i : Nat) : Bool := (l[i]?.map fun x => !lessK x.key x.seq key sq).getD true
theorem TabAt.below {base : Nat} {w w' : World} {TB : Nat} {l : List Ent} (h : TabAt base w TB l) (hb : Below w.heap.size w w') : TabAt base w' TB l := by
  obtain ⟨h1, v, h2, h3⟩ := h
  exact ⟨h1, v, box_at h2 (Upd.of_below (S := fun _ => False) hb) id, own_below h3 hb⟩
theorem TabAt.drew {base : Nat} {w : World} {TB : Nat} {l : List Ent} (h : TabAt base w TB l) : TabAt base w.drew TB l := h.below (Below.refl _ _).drew
theorem TabAt.cells {base : Nat} {w : World} {TB : Nat} {l : List Ent} (h : TabAt base w TB l) : ∃ A c, w.cell? ⟨TB, 0, none⟩ = some (.int .i64 (l.length : Int)) ∧ w.cell? ⟨TB, 1, none⟩ = some (.int .i64 (partN l : Int)) ∧ w.cell? ⟨TB, 2, none⟩ = some (.slice A l.length c) ∧ w.cell? ⟨TB, 3, none⟩ = some (.string (toB (bld (namesE l)))) ∧ Rd w w.heap.size 4 A l.length (entv l) ∧ l.length ≤ c := by
  obtain ⟨_, v, h2, h3⟩ := h
  obtain ⟨A, c, rfl⟩ := own_shape h3
  refine ⟨A, c, ?_, ?_, ?_, ?_, Rd.own h3, own_capT h3⟩ <;> rw [cell_of_row _ _ _ _ _ _ h2] <;> rfl
set_option maxHeartbeats 4000000 in
set_option maxRecDepth 20000 in
theorem place1_any (W : World) (base TB X0 X1 X2 : Nat) (l : List Ent) (key : ByteArray) (sq : Int) (i : Nat) (hi : i < l.length) (hT : TabAt base W TB l)
    (y0 : W.cell? ⟨X0, 0, none⟩ = some (.pointer (some ⟨TB, 0, none⟩))) (y1 : W.cell? ⟨X1, 0, none⟩ = some (.string key)) (y2 : W.cell? ⟨X2, 0, none⟩ = some (.int .i64 sq)) :
    Calls Try.prog 90 #[.int .i64 (i : Int), .pointer (some ⟨X0, 0, none⟩), .pointer (some ⟨X1, 0, none⟩), .pointer (some ⟨X2, 0, none⟩)] W fun e W' => e = .returned (.bool (hitE l key sq i)) ∧ Below W.heap.size W W' := by
  obtain ⟨A, c, -, -, t2, -, hr, hc⟩ := hT.cells
  obtain ⟨b, off, rfl, hbB, hs, c0, c1, c2, c3⟩ := hr.ent hi
  obtain ⟨x, hx⟩ : ∃ x, l[i] = x := ⟨_, rfl⟩
  have HH : Hid (hitE l key sq i = !lessK x.key x.seq key sq) := Lib.hid (by unfold hitE; rw [List.getElem?_eq_getElem hs, hx]; rfl)
  rw [hx] at c0 c1 c2 c3
  obtain ⟨qk, qs, qd, qv⟩ := x
  simp only at c0 c1 c2 c3
  have hk0 : (0 : Int) ≤ (i : Int) := by omega
  have hkz : (i : Int) < (l.length : Int) := by omega
  clear hx hT hr
  have z1 : (W.alloc (.cells #[.string qk, .int .i64 qs, .bool qd, .string qv] 41)).cell? ⟨X1, 0, none⟩ = some (.string key) := by rw [World.cell?_alloc_lt _ _ _ (World.block_lt_of_cell? W _ y1), y1]
  have z2 : (W.alloc (.cells #[.string qk, .int .i64 qs, .bool qd, .string qv] 41)).cell? ⟨X2, 0, none⟩ = some (.int .i64 sq) := by rw [World.cell?_alloc_lt _ _ _ (World.block_lt_of_cell? W _ y2), y2]
  by_cases hQP : qk.toList = key.toList
  · have hQQ : (qk.toList == key.toList) = true := by simp [hQP]
    have HV : Hid ((!lessK qk qs key sq) = (!(Op.bytesLess qk.toList key.toList) && decide (qs ≤ sq))) := Lib.hid (by
      unfold lessK
      rw [hQQ]
      by_cases h : qs ≤ sq
      · rw [decide_eq_false (show ¬ sq < qs by omega), decide_eq_true h]; simp
      · rw [decide_eq_true (show sq < qs by omega), decide_eq_false h]; simp)
    have hirr : Op.bytesLess qk.toList key.toList = false := by rw [hQP]; exact less_irr _
    rw [HH.out, HV.out, hirr]
    go_enter Try.func90, Try.ntmps90
    go_wp2
    go_ret
    exact ⟨ret_bool (by simp), (Below.refl _ _).alloc (Nat.le_refl _) _⟩
  · have hQQ : (qk.toList == key.toList) = false := by simpa using hQP
    have HV : Hid ((!lessK qk qs key sq) = !(Op.bytesLess qk.toList key.toList)) := Lib.hid (by
      unfold lessK
      rw [hQQ]; simp)
    obtain ⟨L, hL⟩ : ∃ L, Op.bytesLess qk.toList key.toList = L := ⟨_, rfl⟩
    rw [HH.out, HV.out, hL]
    go_enter Try.func90, Try.ntmps90
    cases L
    · go_wp2
      go_ret
      exact ⟨ret_bool (by simp), (Below.refl _ _).alloc (Nat.le_refl _) _⟩
    · go_wp2
      go_ret
      exact ⟨ret_bool (by simp), (Below.refl _ _).alloc (Nat.le_refl _) _⟩
/-- What sort.Search answers. -/
def SeaPost (p : Nat → Bool) (n : Nat) (w : World) (e : Ending) (w' : World) : Prop := ∃ r : Nat, r ≤ n ∧ e = .returned (.int .i64 (r : Int)) ∧ (∀ j, j < r → p j = false) ∧ (r < n → p r = true) ∧ Below w.heap.size w w'
set_option maxHeartbeats 4000000 in
set_option maxRecDepth 20000 in
theorem search_any (w : World) (base TB X0 X1 X2 : Nat) (l : List Ent) (key : ByteArray) (sq : Int) (hT : TabAt base w TB l) (hl : l.length ≤ 4611686018427387903)
    (y0 : w.cell? ⟨X0, 0, none⟩ = some (.pointer (some ⟨TB, 0, none⟩))) (y1 : w.cell? ⟨X1, 0, none⟩ = some (.string key)) (y2 : w.cell? ⟨X2, 0, none⟩ = some (.int .i64 sq))
    (hmono : ∀ a b, a ≤ b → b < l.length → hitE l key sq a = true → hitE l key sq b = true) :
    Calls Try.prog 89 #[.int .i64 (l.length : Int), .func (.func 90) #[] #[.pointer (some ⟨X0, 0, none⟩), .pointer (some ⟨X1, 0, none⟩), .pointer (some ⟨X2, 0, none⟩)]] w (SeaPost (hitE l key sq) l.length w) := by
  have HP : Hid (∀ (W : World) (i : Nat), i < l.length → Below w.heap.size w W → Calls Try.prog 90 #[.int .i64 (i : Int), .pointer (some ⟨X0, 0, none⟩), .pointer (some ⟨X1, 0, none⟩), .pointer (some ⟨X2, 0, none⟩)] W fun e W' => e = .returned (.bool (hitE l key sq i)) ∧ Below W.heap.size W W') := Lib.hid (fun W i hi hb =>
    place1_any W base TB X0 X1 X2 l key sq i hi (hT.below hb) ((hb.cell (World.block_lt_of_cell? w _ y0)).trans y0) ((hb.cell (World.block_lt_of_cell? w _ y1)).trans y1) ((hb.cell (World.block_lt_of_cell? w _ y2)).trans y2))
  have HM := Lib.hid hmono
  clear hT y0 y1 y2 hmono
  go_enter Try.func89, Try.ntmps89
  go_wp2
  go_loopw [5, 6] (fun iv jv wx => ∃ i j : Nat, iv = .int .i64 (i : Int) ∧ jv = .int .i64 (j : Int) ∧ i ≤ j ∧ j ≤ l.length ∧ Hid (∀ k, k < i → hitE l key sq k = false) ∧ Hid (j < l.length → hitE l key sq j = true) ∧ Hid (Below w.heap.size w wx)) (fun iv jv _ => (intOf jv).toNat - (intOf iv).toNat)
  case atStart => exact ⟨0, l.length, rfl, rfl, Nat.zero_le _, Nat.le_refl _, Lib.hid (fun k h => absurd h (Nat.not_lt_zero _)), Lib.hid (fun h => absurd h (Nat.lt_irrefl _)), Lib.hid (Below.refl _ _)⟩
  case round =>
    obtain ⟨i, j, rfl, rfl, hij, hj, hlo, hhi, hB⟩ := hrel
    by_cases hlt : i < j
    · have hz : (i : Int) < (j : Int) := by omega
      obtain ⟨m, hm1, hm2, hm3⟩ : ∃ m : Nat, ((i : Int) + (j : Int)) / 2 = (m : Int) ∧ i ≤ m ∧ m < j := ⟨(i + j) / 2, by omega, by omega, by omega⟩
      have HC := Lib.hid (HP.out wr m (by omega) hB.out)
      obtain ⟨b, hb⟩ : ∃ b, hitE l key sq m = b := ⟨_, rfl⟩
      rw [hb] at HC
      have HBM := Lib.hid hb
      clear hb
      cases b
      · have hlo2 : Hid (∀ k, k < m + 1 → hitE l key sq k = false) := Lib.hid (fun k hk => by
          cases hq : hitE l key sq k with
          | false => rfl
          | true => rw [HM.out k m (by omega) (by omega) hq] at HBM; exact HBM.out)
        go_wp2_with fail
        refine HC.out.mono ?_
        rintro e w2 ⟨rfl, hb2⟩
        have HB2 := Lib.hid (bel hB.out hb2)
        clear hb2
        go_wp2
        go_roundw
        case rel => exact ⟨m + 1, j, by simp, rfl, by omega, hj, hlo2, hhi, HB2⟩
        case measure => simp [intOf]; omega
      · go_wp2_with fail
        refine HC.out.mono ?_
        rintro e w2 ⟨rfl, hb2⟩
        have HB2 := Lib.hid (bel hB.out hb2)
        clear hb2
        go_wp2
        go_roundw
        case rel => exact ⟨i, m, rfl, rfl, hm2, by omega, hlo, Lib.hid (fun _ => HBM.out), HB2⟩
        case measure => simp [intOf]; omega
    · obtain rfl : i = j := by omega
      have hz : ¬ (i : Int) < (i : Int) := by omega
      go_wp2
      go_ret
      exact ⟨i, hj, rfl, hlo.out, hhi.out, hB.out⟩
set_option maxHeartbeats 4000000 in
set_option maxRecDepth 20000 in
theorem place_any (w : World) (base TB : Nat) (l : List Ent) (key : ByteArray) (sq : Int) (hT : TabAt base w TB l) (hl : l.length ≤ 4611686018427387903)
    (hmono : ∀ a b, a ≤ b → b < l.length → hitE l key sq a = true → hitE l key sq b = true) :
    Calls Try.prog 62 #[.pointer (some ⟨TB, 0, none⟩), .string key, .int .i64 sq] w (SeaPost (hitE l key sq) l.length w) := by
  obtain ⟨W, hW⟩ : ∃ W, ((w.alloc (.cells #[.pointer (some ⟨TB, 0, none⟩)] 35)).alloc (.cells #[.string key] 9)).alloc (.cells #[.int .i64 sq] 3) = W := ⟨_, rfl⟩
  have s1 : (w.alloc (.cells #[.pointer (some ⟨TB, 0, none⟩)] 35)).heap.size = w.heap.size + 1 := by simp
  have s2 : ((w.alloc (.cells #[.pointer (some ⟨TB, 0, none⟩)] 35)).alloc (.cells #[.string key] 9)).heap.size = w.heap.size + 2 := by simp
  have hb : Below w.heap.size w W := by
    rw [← hW]
    exact (((Below.refl _ w).alloc (Nat.le_refl _) _).alloc (by rw [s1]; omega) _).alloc (by rw [s2]; omega) _
  have h1 := heap_alloc_new w (.cells #[.pointer (some ⟨TB, 0, none⟩)] 35)
  have h2 := heap_alloc_new (w.alloc (.cells #[.pointer (some ⟨TB, 0, none⟩)] 35)) (.cells #[.string key] 9)
  have h3 := heap_alloc_new ((w.alloc (.cells #[.pointer (some ⟨TB, 0, none⟩)] 35)).alloc (.cells #[.string key] 9)) (.cells #[.int .i64 sq] 3)
  rw [s1] at h2
  rw [s2, hW] at h3
  have g1 : W.heap[w.heap.size]? = some (.cells #[.pointer (some ⟨TB, 0, none⟩)] 35 (0, 0)) := by
    rw [← hW]
    exact (Below.heap_alloc _ _ _ (by rw [s2]; omega)).trans ((Below.heap_alloc _ _ _ (by rw [s1]; omega)).trans h1)
  have g2 : W.heap[w.heap.size + 1]? = some (.cells #[.string key] 9 (0, 0)) := by
    rw [← hW]
    exact (Below.heap_alloc _ _ _ (by rw [s2]; omega)).trans h2
  have y0 : W.cell? ⟨w.heap.size, 0, none⟩ = some (.pointer (some ⟨TB, 0, none⟩)) := by rw [cell_of_row _ _ 0 _ _ _ g1]; rfl
  have y1 : W.cell? ⟨w.heap.size + 1, 0, none⟩ = some (.string key) := by rw [cell_of_row _ _ 0 _ _ _ g2]; rfl
  have y2 : W.cell? ⟨w.heap.size + 2, 0, none⟩ = some (.int .i64 sq) := by rw [cell_of_row _ _ 0 _ _ _ h3]; rfl
  have hTW := hT.below hb
  obtain ⟨A, c, -, -, t2, -, -, -⟩ := hTW.cells
  have HS := Lib.hid (search_any W base TB _ _ _ l key sq hTW hl y0 y1 y2 hmono)
  have HB := Lib.hid hb
  clear hTW hT hmono g1 g2 h1 h2 h3 s1 s2 hb y1 y2
  go_enter Try.func62, Try.ntmps62
  go_wp2_with fail
  refine HS.out.mono ?_
  rintro e w2 ⟨r, hr, rfl, hlo, hhi, hb2⟩
  have HR := Lib.hid (And.intro hlo hhi)
  have HB2 := Lib.hid (bel HB.out hb2)
  clear hlo hhi hb2 HS
  go_wp2
  go_ret
  exact ⟨r, hr, rfl, HR.out.1, HR.out.2, HB2.out⟩
end Go.Proofs.Ytanieolnaiihmaa
/- Tables: May, Len, Blocks, Get, walked. -/
namespace Go.Proofs.Ytanieolnaiihmaa
open Go.RowKit
set_option maxRecDepth 20000 in
theorem tlen_any (w : World) (base TB : Nat) (l : List Ent) (hT : TabAt base w TB l) : Calls Try.prog 24 #[.pointer (some ⟨TB, 0, none⟩)] w fun e w' => e = .returned (.int .i64 (l.length : Int)) ∧ w' = w := by
  obtain ⟨A, c, t0, t1, t2, t3, -, -⟩ := hT.cells
  clear hT
  go_enter Try.func24, Try.ntmps24
  go_wp2
  go_ret
  exact ⟨rfl, rfl⟩
set_option maxRecDepth 20000 in
theorem tblocks_any (w : World) (base TB : Nat) (l : List Ent) (hT : TabAt base w TB l) : Calls Try.prog 25 #[.pointer (some ⟨TB, 0, none⟩)] w fun e w' => e = .returned (.int .i64 (partN l : Int)) ∧ w' = w := by
  obtain ⟨A, c, t0, t1, t2, t3, -, -⟩ := hT.cells
  clear hT
  go_enter Try.func25, Try.ntmps25
  go_wp2
  go_ret
  exact ⟨rfl, rfl⟩
set_option maxRecDepth 20000 in
theorem tmay_any (w : World) (base TB : Nat) (l : List Ent) (key : ByteArray) (hT : TabAt base w TB l) (hl : l.length ≤ 1000000000000) (hk : key.size ≤ maxLen) :
    Calls Try.prog 29 #[.pointer (some ⟨TB, 0, none⟩), .string key] w fun e w' => e = .returned (.bool (may (bld (namesE l)) key.data.toList)) ∧ Below w.heap.size w w' := by
  obtain ⟨A, c, t0, t1, t2, t3, -, -⟩ := hT.cells
  have hbn := bldN_le l
  have HM := may_any (toB (bld (namesE l))) key w (by rw [toB_size]; omega) hk
  rw [toB_data] at HM
  have HM2 := Lib.hid HM
  clear hT HM
  go_enter Try.func29, Try.ntmps29
  go_wp2_with fail
  refine HM2.out.mono ?_
  rintro e w2 ⟨rfl, hb2⟩
  go_wp2
  go_ret
  exact ⟨rfl, hb2⟩
/-- What Get answers, where place answered r. -/
def nilE : Ent := ⟨⟨#[]⟩, 0, false, ⟨#[]⟩⟩
noncomputable def getT (l : List Ent) (key : ByteArray) (r : Nat) : Option Ent := if may (bld (namesE l)) key.data.toList then l[r]?.filter (fun x => decide (x.key = key)) else none
def aggE (x : Ent) : Value := .agg #[.string x.key, .int .i64 x.seq, .bool x.dead, .string x.val]
theorem place_ex (p : Nat → Bool) (n : Nat) : ∃ r, r ≤ n ∧ (∀ j, j < r → p j = false) ∧ (r < n → p r = true) := by
  induction n with
  | zero => exact ⟨0, Nat.le_refl _, fun j h => absurd h (Nat.not_lt_zero _), fun h => absurd h (Nat.lt_irrefl _)⟩
  | succ n ih =>
    obtain ⟨r, h1, h2, h3⟩ := ih
    by_cases hr : r < n
    · exact ⟨r, by omega, h2, fun _ => h3 hr⟩
    · obtain rfl : r = n := by omega
      cases hp : p r with
      | true => exact ⟨r, by omega, h2, fun _ => hp⟩
      | false => exact ⟨r + 1, by omega, fun j hj => by
          by_cases e : j = r
          · rw [e]; exact hp
          · exact h2 j (by omega), fun h => absurd h (Nat.lt_irrefl _)⟩
def GetPost (l : List Ent) (key : ByteArray) (sq : Int) (w : World) (e : Ending) (w' : World) : Prop :=
  Below w.heap.size w w' ∧ ∃ r, r ≤ l.length ∧ (∀ j, j < r → hitE l key sq j = false) ∧ (r < l.length → hitE l key sq r = true) ∧ e = .returned (.tuple #[aggE ((getT l key r).getD nilE), .bool (getT l key r).isSome])
set_option maxHeartbeats 4000000 in
set_option maxRecDepth 20000 in
theorem tget_any (w : World) (base TB : Nat) (l : List Ent) (key : ByteArray) (sq : Int) (hT : TabAt base w TB l) (hl : l.length ≤ 1000000000000) (hk : key.size ≤ maxLen)
    (hmono : ∀ a b, a ≤ b → b < l.length → hitE l key sq a = true → hitE l key sq b = true) :
    Calls Try.prog 27 #[.pointer (some ⟨TB, 0, none⟩), .string key, .int .i64 sq] w (GetPost l key sq w) := by
  have HT := Lib.hid hT
  have HMY := Lib.hid (fun W (hW : Below w.heap.size w W) => tmay_any W base TB l key (hT.below hW) hl hk)
  have HPL := Lib.hid (fun W (hW : Below w.heap.size w W) => place_any W base TB l key sq (hT.below hW) (by omega) hmono)
  obtain ⟨m, hm⟩ : ∃ m, may (bld (namesE l)) key.data.toList = m := ⟨_, rfl⟩
  have HGT : Hid (∀ r, getT l key r = if m then l[r]?.filter (fun x => decide (x.key = key)) else none) := Lib.hid (fun r => by unfold getT; rw [hm])
  rw [hm] at HMY
  have HEX := Lib.hid (place_ex (hitE l key sq) l.length)
  clear hT hmono hm
  go_enter Try.func27, Try.ntmps27
  go_wp2_with fail
  have hb0 : Below w.heap.size w (w.alloc (.cells #[.string ⟨#[]⟩, .int .i64 0, .bool false, .string ⟨#[]⟩] 41)) := (Below.refl _ _).alloc (Nat.le_refl _) _
  refine (HMY.out _ hb0).mono ?_
  rintro e w1 ⟨rfl, hb1⟩
  have hbA : Below w.heap.size w w1 := hb0.trans (hb1.mono hb0.size)
  have rz : w1.heap[w.heap.size]? = some (.cells #[.string ⟨#[]⟩, .int .i64 0, .bool false, .string ⟨#[]⟩] 41 (0, 0)) := (hb1.block _ (by simp)).trans (heap_alloc_new w _)
  have HBA := Lib.hid hbA
  have RZ := Lib.hid rz
  clear hb0 hb1 hbA rz HMY
  cases m
  · obtain ⟨r, hr1, hr2, hr3⟩ := HEX.out
    have HRS := Lib.hid (And.intro hr1 (And.intro hr2 hr3))
    clear HEX HPL hr1 hr2 hr3
    have z0 : w1.cell? ⟨w.heap.size, 0, none⟩ = some (.string ⟨#[]⟩) := by rw [cell_of_row _ _ 0 _ _ _ RZ.out]; rfl
    have z1 : w1.cell? ⟨w.heap.size, 1, none⟩ = some (.int .i64 0) := by rw [cell_of_row _ _ 1 _ _ _ RZ.out]; rfl
    have z2 : w1.cell? ⟨w.heap.size, 2, none⟩ = some (.bool false) := by rw [cell_of_row _ _ 2 _ _ _ RZ.out]; rfl
    have z3 : w1.cell? ⟨w.heap.size, 3, none⟩ = some (.string ⟨#[]⟩) := by rw [cell_of_row _ _ 3 _ _ _ RZ.out]; rfl
    have f0 := frozen_of_row w1 w.heap.size 0 _ _ RZ.out
    have f1 := frozen_of_row w1 w.heap.size 1 _ _ RZ.out
    have f2 := frozen_of_row w1 w.heap.size 2 _ _ RZ.out
    have f3 := frozen_of_row w1 w.heap.size 3 _ _ RZ.out
    go_wp2
    have hF := row4 w1 w.heap.size _ _ _ _ _ (.string ⟨#[]⟩) (.int .i64 0) (.bool false) (.string ⟨#[]⟩) RZ.out
    generalize ((((w1.setCell ⟨w.heap.size, 0, none⟩ (.string ⟨#[]⟩)).setCell ⟨w.heap.size, 1, none⟩ (.int .i64 0)).setCell ⟨w.heap.size, 2, none⟩ (.bool false)).setCell ⟨w.heap.size, 3, none⟩ (.string ⟨#[]⟩)) = wF at hF ⊢
    have r0 : wF.cell? ⟨w.heap.size, 0, none⟩ = some (.string ⟨#[]⟩) := by rw [cell_of_row wF _ 0 _ _ _ hF.1]; rfl
    have r1 : wF.cell? ⟨w.heap.size, 1, none⟩ = some (.int .i64 0) := by rw [cell_of_row wF _ 1 _ _ _ hF.1]; rfl
    have r2 : wF.cell? ⟨w.heap.size, 2, none⟩ = some (.bool false) := by rw [cell_of_row wF _ 2 _ _ _ hF.1]; rfl
    have r3 : wF.cell? ⟨w.heap.size, 3, none⟩ = some (.string ⟨#[]⟩) := by rw [cell_of_row wF _ 3 _ _ _ hF.1]; rfl
    have hbF : Below w.heap.size w wF := HBA.out.trans (hF.2.below (fun k hk e => by omega) HBA.out.size)
    exact bodyPost_ret (v := .tuple #[.agg #[(.string ⟨#[]⟩), (.int .i64 0), (.bool false), (.string ⟨#[]⟩)], .bool false]) (by simp [results, Try.results27, go_sem, r0, r1, r2, r3]) rfl ⟨hbF, r, HRS.out.1, HRS.out.2.1, HRS.out.2.2, by rw [HGT.out]; rfl⟩
  · clear HEX
    go_wp2_with fail
    refine (HPL.out _ HBA.out).mono ?_
    rintro e w2 ⟨r, hr, rfl, hlo, hhi, hb2⟩
    have HRS := Lib.hid (And.intro hr (And.intro hlo hhi))
    have HB2 := Lib.hid (bel HBA.out hb2)
    have RZ2 := Lib.hid ((hb2.block _ (Array.getElem?_eq_some_iff.1 RZ.out).1).trans RZ.out)
    have HT2 := HT.out.below HB2.out
    obtain ⟨A, c, -, -, t2, -, hrd, -⟩ := HT2.cells
    clear HPL hlo hhi hb2 HT2 RZ
    by_cases hrn : r = l.length
    · subst hrn
      clear hrd hr
      have z0 : w2.cell? ⟨w.heap.size, 0, none⟩ = some (.string ⟨#[]⟩) := by rw [cell_of_row _ _ 0 _ _ _ RZ2.out]; rfl
      have z1 : w2.cell? ⟨w.heap.size, 1, none⟩ = some (.int .i64 0) := by rw [cell_of_row _ _ 1 _ _ _ RZ2.out]; rfl
      have z2 : w2.cell? ⟨w.heap.size, 2, none⟩ = some (.bool false) := by rw [cell_of_row _ _ 2 _ _ _ RZ2.out]; rfl
      have z3 : w2.cell? ⟨w.heap.size, 3, none⟩ = some (.string ⟨#[]⟩) := by rw [cell_of_row _ _ 3 _ _ _ RZ2.out]; rfl
      have f0 := frozen_of_row w2 w.heap.size 0 _ _ RZ2.out
      have f1 := frozen_of_row w2 w.heap.size 1 _ _ RZ2.out
      have f2 := frozen_of_row w2 w.heap.size 2 _ _ RZ2.out
      have f3 := frozen_of_row w2 w.heap.size 3 _ _ RZ2.out
      go_wp2
      have hF := row4 w2 w.heap.size _ _ _ _ _ (.string ⟨#[]⟩) (.int .i64 0) (.bool false) (.string ⟨#[]⟩) RZ2.out
      generalize ((((w2.setCell ⟨w.heap.size, 0, none⟩ (.string ⟨#[]⟩)).setCell ⟨w.heap.size, 1, none⟩ (.int .i64 0)).setCell ⟨w.heap.size, 2, none⟩ (.bool false)).setCell ⟨w.heap.size, 3, none⟩ (.string ⟨#[]⟩)) = wF at hF ⊢
      have r0 : wF.cell? ⟨w.heap.size, 0, none⟩ = some (.string ⟨#[]⟩) := by rw [cell_of_row wF _ 0 _ _ _ hF.1]; rfl
      have r1 : wF.cell? ⟨w.heap.size, 1, none⟩ = some (.int .i64 0) := by rw [cell_of_row wF _ 1 _ _ _ hF.1]; rfl
      have r2 : wF.cell? ⟨w.heap.size, 2, none⟩ = some (.bool false) := by rw [cell_of_row wF _ 2 _ _ _ hF.1]; rfl
      have r3 : wF.cell? ⟨w.heap.size, 3, none⟩ = some (.string ⟨#[]⟩) := by rw [cell_of_row wF _ 3 _ _ _ hF.1]; rfl
      have hbF : Below w.heap.size w wF := HB2.out.trans (hF.2.below (fun k hk e => by omega) HB2.out.size)
      exact bodyPost_ret (v := .tuple #[.agg #[(.string ⟨#[]⟩), (.int .i64 0), (.bool false), (.string ⟨#[]⟩)], .bool false]) (by simp [results, Try.results27, go_sem, r0, r1, r2, r3]) rfl ⟨hbF, l.length, HRS.out.1, HRS.out.2.1, HRS.out.2.2, by rw [HGT.out]; simp; rfl⟩
    · obtain ⟨b, off, rfl, hbB, hs, c0, c1, c2, c3⟩ := hrd.ent (k := r) (by omega)
      obtain ⟨x, hx⟩ : ∃ x, l[r] = x := ⟨_, rfl⟩
      rw [hx] at c0 c1 c2 c3
      have HX : Hid (l[r]? = some x) := Lib.hid (by rw [List.getElem?_eq_getElem hs, hx])
      obtain ⟨qk, qs, qd, qv⟩ := x
      simp only at c0 c1 c2 c3
      have hk0 : (0 : Int) ≤ (r : Int) := by omega
      have hkz : (r : Int) < (l.length : Int) := by omega
      have hne : ¬ ((r : Int) = (l.length : Int)) := by omega
      clear hx hrd
      by_cases hkk : qk = key
      · subst hkk
        have hbe : (qk.toList == qk.toList) = true := by simp
        have z0 : w2.cell? ⟨w.heap.size, 0, none⟩ = some (.string ⟨#[]⟩) := by rw [cell_of_row _ _ 0 _ _ _ RZ2.out]; rfl
        have z1 : w2.cell? ⟨w.heap.size, 1, none⟩ = some (.int .i64 0) := by rw [cell_of_row _ _ 1 _ _ _ RZ2.out]; rfl
        have z2 : w2.cell? ⟨w.heap.size, 2, none⟩ = some (.bool false) := by rw [cell_of_row _ _ 2 _ _ _ RZ2.out]; rfl
        have z3 : w2.cell? ⟨w.heap.size, 3, none⟩ = some (.string ⟨#[]⟩) := by rw [cell_of_row _ _ 3 _ _ _ RZ2.out]; rfl
        have f0 := frozen_of_row w2 w.heap.size 0 _ _ RZ2.out
        have f1 := frozen_of_row w2 w.heap.size 1 _ _ RZ2.out
        have f2 := frozen_of_row w2 w.heap.size 2 _ _ RZ2.out
        have f3 := frozen_of_row w2 w.heap.size 3 _ _ RZ2.out
        go_wp2
        have hF := row4 w2 w.heap.size _ _ _ _ _ (.string qk) (.int .i64 qs) (.bool qd) (.string qv) RZ2.out
        generalize ((((w2.setCell ⟨w.heap.size, 0, none⟩ (.string qk)).setCell ⟨w.heap.size, 1, none⟩ (.int .i64 qs)).setCell ⟨w.heap.size, 2, none⟩ (.bool qd)).setCell ⟨w.heap.size, 3, none⟩ (.string qv)) = wF at hF ⊢
        have r0 : wF.cell? ⟨w.heap.size, 0, none⟩ = some (.string qk) := by rw [cell_of_row wF _ 0 _ _ _ hF.1]; rfl
        have r1 : wF.cell? ⟨w.heap.size, 1, none⟩ = some (.int .i64 qs) := by rw [cell_of_row wF _ 1 _ _ _ hF.1]; rfl
        have r2 : wF.cell? ⟨w.heap.size, 2, none⟩ = some (.bool qd) := by rw [cell_of_row wF _ 2 _ _ _ hF.1]; rfl
        have r3 : wF.cell? ⟨w.heap.size, 3, none⟩ = some (.string qv) := by rw [cell_of_row wF _ 3 _ _ _ hF.1]; rfl
        have hbF : Below w.heap.size w wF := HB2.out.trans (hF.2.below (fun k hk e => by omega) HB2.out.size)
        exact bodyPost_ret (v := .tuple #[.agg #[(.string qk), (.int .i64 qs), (.bool qd), (.string qv)], .bool true]) (by simp [results, Try.results27, go_sem, r0, r1, r2, r3]) rfl ⟨hbF, r, HRS.out.1, HRS.out.2.1, HRS.out.2.2, by rw [HGT.out, HX.out]; simp [aggE, Option.filter]⟩
      · have hbe : (qk.toList == key.toList) = false := by rw [str_beq, decide_eq_false hkk]
        have z0 : w2.cell? ⟨w.heap.size, 0, none⟩ = some (.string ⟨#[]⟩) := by rw [cell_of_row _ _ 0 _ _ _ RZ2.out]; rfl
        have z1 : w2.cell? ⟨w.heap.size, 1, none⟩ = some (.int .i64 0) := by rw [cell_of_row _ _ 1 _ _ _ RZ2.out]; rfl
        have z2 : w2.cell? ⟨w.heap.size, 2, none⟩ = some (.bool false) := by rw [cell_of_row _ _ 2 _ _ _ RZ2.out]; rfl
        have z3 : w2.cell? ⟨w.heap.size, 3, none⟩ = some (.string ⟨#[]⟩) := by rw [cell_of_row _ _ 3 _ _ _ RZ2.out]; rfl
        have f0 := frozen_of_row w2 w.heap.size 0 _ _ RZ2.out
        have f1 := frozen_of_row w2 w.heap.size 1 _ _ RZ2.out
        have f2 := frozen_of_row w2 w.heap.size 2 _ _ RZ2.out
        have f3 := frozen_of_row w2 w.heap.size 3 _ _ RZ2.out
        go_wp2
        have hF := row4 w2 w.heap.size _ _ _ _ _ (.string ⟨#[]⟩) (.int .i64 0) (.bool false) (.string ⟨#[]⟩) RZ2.out
        generalize ((((w2.setCell ⟨w.heap.size, 0, none⟩ (.string ⟨#[]⟩)).setCell ⟨w.heap.size, 1, none⟩ (.int .i64 0)).setCell ⟨w.heap.size, 2, none⟩ (.bool false)).setCell ⟨w.heap.size, 3, none⟩ (.string ⟨#[]⟩)) = wF at hF ⊢
        have r0 : wF.cell? ⟨w.heap.size, 0, none⟩ = some (.string ⟨#[]⟩) := by rw [cell_of_row wF _ 0 _ _ _ hF.1]; rfl
        have r1 : wF.cell? ⟨w.heap.size, 1, none⟩ = some (.int .i64 0) := by rw [cell_of_row wF _ 1 _ _ _ hF.1]; rfl
        have r2 : wF.cell? ⟨w.heap.size, 2, none⟩ = some (.bool false) := by rw [cell_of_row wF _ 2 _ _ _ hF.1]; rfl
        have r3 : wF.cell? ⟨w.heap.size, 3, none⟩ = some (.string ⟨#[]⟩) := by rw [cell_of_row wF _ 3 _ _ _ hF.1]; rfl
        have hbF : Below w.heap.size w wF := HB2.out.trans (hF.2.below (fun k hk e => by omega) HB2.out.size)
        exact bodyPost_ret (v := .tuple #[.agg #[(.string ⟨#[]⟩), (.int .i64 0), (.bool false), (.string ⟨#[]⟩)], .bool false]) (by simp [results, Try.results27, go_sem, r0, r1, r2, r3]) rfl ⟨hbF, r, HRS.out.1, HRS.out.2.1, HRS.out.2.2, by rw [HGT.out, HX.out]; simp [Option.filter, hkk]; rfl⟩
end Go.Proofs.Ytanieolnaiihmaa
