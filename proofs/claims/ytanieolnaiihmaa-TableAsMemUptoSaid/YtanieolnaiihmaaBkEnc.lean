/- Blocks: Encode, walked. -/
import Derived.Test.YtanieolnaiihmaaBkWrite
import Derived.Deep.CutBlock
import Derived.Deep.RegionWith
import Derived.Deep.DeepCutAuto
namespace Go.Proofs.Ytanieolnaiihmaa
open Go.RowKit

/-! ### Plain -/
def lastK : List UInt8 → List Ent → List UInt8
  | last, [] => last
  | _, x :: l => lastK x.kl l
theorem entsB_snoc (l : List Ent) : ∀ (last : List UInt8) (x : Ent), entsB last (l ++ [x]) = entsB last l ++ entB (lastK last l) x := by
  induction l with
  | nil => intro last x; simp [entsB, lastK]
  | cons y l ih => intro last x; simp only [List.cons_append, entsB, lastK, ih, List.append_assoc]
theorem lastK_snoc (l : List Ent) : ∀ (last : List UInt8) (x : Ent), lastK last (l ++ [x]) = x.kl := by
  induction l with
  | nil => intro last x; rfl
  | cons y l ih => intro last x; simp only [List.cons_append, lastK, ih]
theorem entsB_take (l : List Ent) (k : Nat) (h : k < l.length) : entsB [] (l.take (k + 1)) = entsB [] (l.take k) ++ entB (lastK [] (l.take k)) l[k] := by
  rw [List.take_succ_eq_append_getElem h, entsB_snoc]
theorem lastK_take (l : List Ent) (k : Nat) (h : k < l.length) : lastK [] (l.take (k + 1)) = l[k].kl := by
  rw [List.take_succ_eq_append_getElem h, lastK_snoc]
def livesTo (l : List Ent) (k : Nat) : Prop := ∀ j (h : j < l.length), j < k → liveE l[j]
def risesTo (l : List Ent) (k : Nat) : Prop := ∀ j (h : j + 1 < l.length), j + 1 < k → lessE l[j] l[j + 1] = true
theorem rises_iff (l : List Ent) : ∀ (p : Option Ent), risesE p l ↔ (∀ q, p = some q → ∀ (h : 0 < l.length), lessE q l[0] = true) ∧ risesTo l l.length := by
  induction l with
  | nil => intro p; simp [risesE, risesTo]
  | cons x l ih =>
    intro p
    rw [risesE, ih]
    constructor
    · rintro ⟨h1, h2, h3⟩
      refine ⟨fun q hq _ => h1 q hq, ?_⟩
      intro j h hj
      cases j with
      | zero => exact h2 x rfl (by simpa using h)
      | succ j => exact h3 j (by simpa using h) (by simpa using h)
    · rintro ⟨h1, h2⟩
      refine ⟨fun q hq => h1 q hq (by simp), ?_, ?_⟩
      · intro q hq h
        injection hq with hq
        subst hq
        exact h2 0 (by simpa using h) (by simpa using h)
      · intro j h hj
        exact h2 (j + 1) (by simpa using h) (by simpa using h)
theorem right_iff (l : List Ent) : rightE l ↔ livesTo l l.length ∧ risesTo l l.length := by
  unfold rightE
  rw [rises_iff]
  constructor
  · rintro ⟨h1, _, h2⟩
    exact ⟨fun j h _ => h1 _ (List.getElem_mem h), h2⟩
  · rintro ⟨h1, h2⟩
    refine ⟨fun x hx => ?_, (fun q hq => by cases hq), h2⟩
    obtain ⟨j, hj, rfl⟩ := List.getElem_of_mem hx
    exact h1 j hj hj
noncomputable instance (l : List Ent) : Decidable (rightE l) := Classical.propDecidable _
noncomputable def encR (l : List Ent) : List UInt8 × Nat := if rightE l then (blockB l, 0) else ([], 9)
theorem encR_ok {l : List Ent} (h : rightE l) : encR l = (blockB l, 0) := if_pos h
theorem encR_no {l : List Ent} (h : ¬ rightE l) : encR l = ([], 9) := if_neg h
theorem blockB_take_len (l : List Ent) (k : Nat) : (entsB [] (l.take k)).length ≤ (entsB [] l).length := by
  have key : ∀ (a b : List Ent) (last : List UInt8), (entsB last a).length ≤ (entsB last (a ++ b)).length := by
    intro a
    induction a with
    | nil => intro b last; simp [entsB]
    | cons x a ih => intro b last; simp only [List.cons_append, entsB, List.length_append]; have := ih b x.kl; omega
  have := key (l.take k) (l.drop k) []
  rwa [List.take_append_drop] at this

/-! ### The walk -/
set_option maxHeartbeats 400000 in
theorem rises_is (w : World) (K : ByteArray) (S : Int) (D : Bool) (V : ByteArray) (K' : ByteArray) (S' : Int) (D' : Bool) (V' : ByteArray) (r : Bool) (h : lessK K S K' S' = r) :
    Calls Try.prog 68 #[.agg #[.string K, .int .i64 S, .bool D, .string V], .agg #[.string K', .int .i64 S', .bool D', .string V']] w fun e w' => e = .returned (.bool r) ∧ Below w.heap.size w w' := by
  subst h
  go_enter Try.func68, Try.ntmps68
  go_wp2
  all_goals
    go_ret
    exact ⟨ret_bool (by simp_all [lessK]), ((Below.refl _ _).alloc (Nat.le_refl _) _).alloc (by simp) _⟩
theorem upd_below5 {w w1 w2 : World} (h : Upd (fun _ => False) w w1) (hb : Below w1.heap.size w1 w2) : Upd (fun _ => False) w w2 := h.trans (Upd.of_below (S := fun _ => False) hb) (fun _ _ h => h)
def BadIs (bad : Bool) (P : Prop) : Prop := bad = false ↔ P
theorem num_at (w : World) (base g : Nat) (v : Value) (bs : List UInt8) (x : Nat) (z : Int) (H : Nat) (hH : w.heap.size = H) (hz : z = (x : Int)) (hx : x < 18446744073709551616) (h : Wr w base g v bs) (hb : base ≤ w.heap.size) (hl : bs.length + (numB x).length ≤ 140737488355328) :
    Calls Try.prog 46 #[.pointer (some ⟨g, 0, none⟩), .slice (some ⟨H, 0, none⟩) 1 1] (w.alloc (.cells #[.int .u64 z] 27)) fun e w' => e = .returned (.tuple #[]) ∧ ∃ v', Wr w' base g v' (bs ++ numB x) ∧ RowAt w v v' ∧ Upd (WrS g v) w w' := by
  subst hH
  exact num_one w base g v bs x z hz hx h hb hl
theorem Bkw.same {w w' : World} {base g gp : Nat} {v : Value} {last : ByteArray} {bs : List UInt8} (h : Bkw w base g gp v last bs) (hu : Upd (fun _ => False) w w') : Bkw w' base g gp v last bs :=
  ⟨(hu.block g (Array.getElem?_eq_some_iff.1 h.blk).1 (fun h => h)).trans h.blk, h.wr.upd hu (fun _ _ h => h)⟩
theorem Bkw.c0 {w : World} {base g gp : Nat} {v : Value} {last : ByteArray} {bs : List UInt8} (h : Bkw w base g gp v last bs) : w.cell? ⟨g, 0, none⟩ = some (.pointer (some ⟨gp, 0, none⟩)) := by rw [cell_of_row w g 0 _ _ _ h.blk]; rfl
theorem bkwS_row {w w1 : World} {g gp : Nat} {v v1 : Value} (h : RowAt w v v1) {k : Nat} (hk : k < w.heap.size) (hs : BkwS g gp v1 k) : BkwS g gp v k :=
  hs.imp id fun h' => h'.imp id fun e => h.old hk e
theorem below_bkw {w w1 w2 : World} {B g gp : Nat} {v : Value} (hB : B ≤ w1.heap.size) (h : Below B w w1) (hu : Upd (BkwS g gp v) w1 w2) (hg : B ≤ g) (hgp : B ≤ gp) (hv : ∀ k, v.ownBlock = some k → B ≤ k) : Below B w w2 := by
  refine h.trans (hu.below (fun k hk => ?_) hB)
  rintro (e | e | e)
  · omega
  · omega
  · have := hv _ e; omega
attribute [local go_sem] undef in
set_option maxHeartbeats 16000000 in
set_option maxRecDepth 20000 in
theorem enc_any (w : World) (A : Option Addr) (n c : Nat) (l : List Ent) (hr : Rd w w.heap.size 4 A n (entv l)) (hn : n ≤ 1099511627776) (hok : ∀ x ∈ l, (-9223372036854775808 ≤ x.seq ∧ x.seq ≤ 9223372036854775807) ∧ x.key.size ≤ 1099511627776 ∧ x.val.size ≤ 1099511627776)
    (hl : (blockB l).length ≤ 140737488355328) :
    Calls Try.prog 44 #[.slice A n c] w fun e w' => e = .returned (.tuple #[.string ⟨(encR l).1.toArray⟩, .int .i64 ((encR l).2 : Int)]) ∧ Below w.heap.size w w' := by
  have hnl := rd_entlen hr
  have HNL := Lib.hid hnl
  clear hnl
  go_enter Try.func44, Try.ntmps44
  go_wp2_with fail
  refine (new_wr _ w.heap.size).mono ?_
  rintro e w1 ⟨rfl, hw1, hb1, hz1⟩
  have hbB : Below w.heap.size w (w1.alloc (.cells #[.pointer (some ⟨w.heap.size, 0, none⟩), .string ⟨#[]⟩] 109)) := hb1.alloc hb1.size _
  have hwB : Wr (w1.alloc (.cells #[.pointer (some ⟨w.heap.size, 0, none⟩), .string ⟨#[]⟩] 109)) w.heap.size w.heap.size (.slice none 0 0) [] := hw1.upd ((Upd.refl (fun _ => False) w1).alloc _) (fun _ _ h => h)
  have hkB : Bkw (w1.alloc (.cells #[.pointer (some ⟨w.heap.size, 0, none⟩), .string ⟨#[]⟩] 109)) w.heap.size w1.heap.size w.heap.size (.slice none 0 0) ⟨#[]⟩ [] := ⟨heap_alloc_new w1 _, hwB⟩
  have hlen0 : (blockB l).length = (numB l.length).length + (entsB [] l).length := by unfold blockB; rw [List.length_append]
  have hn10 := numB_len10 n (by omega)
  go_wp2_with fail
  refine (num_at (w1.alloc (.cells #[.pointer (some ⟨w.heap.size, 0, none⟩), .string ⟨#[]⟩] 109)) w.heap.size w.heap.size (.slice none 0 0) [] n _ _ (by simp) rfl (by omega) hwB hbB.size (by simp; omega)).mono ?_
  rintro e w2 ⟨rfl, v2, hw2, hat2, hu2⟩
  rw [List.nil_append] at hw2
  have hk2 : Bkw w2 w.heap.size w1.heap.size w.heap.size v2 ⟨#[]⟩ (numB n) := ⟨(hu2.block _ (by simp) hkB.apart).trans hkB.blk, hw2⟩
  have hb2 : Below w.heap.size w w2 := hbB.trans (hu2.below (fun k hk => by rintro (e | e); omega; simp [Value.ownBlock] at e) hbB.size)
  have hG : w.heap.size ≤ w1.heap.size := hb1.size
  generalize w1.heap.size = G at *
  have HLEN := Lib.hid hlen0
  clear hw1 hb1 hbB hwB hkB hw2 hat2 hu2 hz1 hlen0
  go_wp2
  go_loopw [21] (fun i wx => ∃ k : Nat, k ≤ n ∧ i = .int .i64 k ∧ (∃ (v : Value) (last : ByteArray), last.data.toList = lastK [] (l.take k) ∧ last.size ≤ 1099511627776 ∧ Bkw wx w.heap.size G w.heap.size v last (numB n ++ entsB [] (l.take k))) ∧ livesTo l k ∧ risesTo l k ∧ Below w.heap.size w wx) (fun i _ => n - (intOf i).toNat)
  case atStart => exact ⟨0, Nat.zero_le _, rfl, ⟨v2, ⟨#[]⟩, by simp [lastK], by decide, by simpa [entsB] using hk2⟩, (fun j _ h => by omega), (fun j _ h => by omega), hb2⟩
  case round =>
    obtain ⟨k, hk, rfl, ⟨v, last, hlast, hlz, hbk⟩, hlv, hri, hbx⟩ := hrel
    have HLAST := Lib.hid hlast
    have HLV := Lib.hid hlv
    have HRI := Lib.hid hri
    clear hk2 hb2 hlast hlv hri
    by_cases hlt : k < n
    · obtain ⟨b, off, rfl, hab, hsk, c0, c1, c2, c3⟩ := hr.ent hlt
      have hox := hok _ (List.getElem_mem hsk)
      have HT := Lib.hid (entsB_take l k hsk)
      have HK := Lib.hid (lastK_take l k hsk)
      have hsz := blockB_take_len l (k + 1)
      obtain ⟨x, hx⟩ : ∃ x, l[k] = x := ⟨_, rfl⟩
      rw [hx] at c0 c1 c2 c3 hox HT HK
      rw [HT.out, List.length_append] at hsz
      have d0 := (hbx.cell (p := ⟨b, off + k * 4, none⟩) hab).trans c0
      have d1 := (hbx.cell (p := ⟨b, off + k * 4 + 1, none⟩) hab).trans c1
      have d2 := (hbx.cell (p := ⟨b, off + k * 4 + 2, none⟩) hab).trans c2
      have d3 := (hbx.cell (p := ⟨b, off + k * 4 + 3, none⟩) hab).trans c3
      have HX := Lib.hid hx
      clear c0 c1 c2 c3 hx
      obtain ⟨⟨hs0, hs1⟩, hxk, hxv⟩ := hox
      go_wp2
      have hXB : wr.heap.size < (wr.alloc (.cells #[.string x.key, .int .i64 x.seq, .bool x.dead, .string x.val] 41)).heap.size := by simp
      have hXb : (wr.alloc (.cells #[.string x.key, .int .i64 x.seq, .bool x.dead, .string x.val] 41)).heap[wr.heap.size]? = some (.cells #[.string x.key, .int .i64 x.seq, .bool x.dead, .string x.val] 41 (0, 0)) := heap_alloc_new wr _
      have hXu : Upd (fun _ => False) wr (wr.alloc (.cells #[.string x.key, .int .i64 x.seq, .bool x.dead, .string x.val] 41)) := (Upd.refl _ wr).alloc _
      generalize wr.alloc (.cells #[.string x.key, .int .i64 x.seq, .bool x.dead, .string x.val] 41) = wX at hXB hXb hXu ⊢
      have XC : Hid (∀ W, Upd (fun _ => False) wX W → W.cell? ⟨wr.heap.size, 0, none⟩ = some (.string x.key) ∧ W.cell? ⟨wr.heap.size, 1, none⟩ = some (.int .i64 x.seq) ∧ W.cell? ⟨wr.heap.size, 2, none⟩ = some (.bool x.dead) ∧ W.cell? ⟨wr.heap.size, 3, none⟩ = some (.string x.val)) := Lib.hid fun W hW => by
        have hb := (hW.block _ hXB (fun h => h)).trans hXb
        refine ⟨?_, ?_, ?_, ?_⟩
        · rw [cell_of_row W _ 0 _ _ _ hb]; rfl
        · rw [cell_of_row W _ 1 _ _ _ hb]; rfl
        · rw [cell_of_row W _ 2 _ _ _ hb]; rfl
        · rw [cell_of_row W _ 3 _ _ _ hb]; rfl
      go_cut [25, 46] (fun y u wc => y = .agg #[.string x.key, .int .i64 x.seq, .bool x.dead, .string x.val] ∧ ∃ bad : Bool, u = .bool bad ∧ Hid (BadIs bad ((∀ j (h : j + 1 = k), lessE (l[j]'(by omega)) x = true) ∧ liveE x)) ∧ Upd (fun _ => False) wX wc)
      case first =>
        clear d0 d1 d2 d3 HK HT HLV HRI HLAST HLEN hsz
        have hval : x.val.size = 0 ∨ x.val.size ≠ 0 := by omega
        have hvl0 : x.val.size = 0 → x.vl = [] := fun h => List.eq_nil_of_length_eq_zero (by simpa [Ent.vl] using h)
        have hvl1 : x.val.size ≠ 0 → x.vl ≠ [] := fun h e => h (by have := congrArg List.length e; simpa [Ent.vl] using this)
        obtain ⟨y0, y1, y2, y3⟩ := XC.out wX (Upd.refl _ _)
        have live_f : x.dead = false → liveE x := fun h h' => by rw [h] at h'; cases h'
        cases k with
        | zero =>
          have hless : ∀ j (h : j + 1 = 0), lessE (l[j]'(by omega)) x = true := fun j h => by omega
          clear XC
          cases hd : x.dead with
          | false =>
            have hres : Hid (BadIs false ((∀ j (h : j + 1 = 0), lessE (l[j]'(by omega)) x = true) ∧ liveE x)) := Lib.hid ⟨fun _ => ⟨hless, live_f hd⟩, fun _ => rfl⟩
            rw [hd] at y2
            clear hless live_f hvl0 hvl1
            go_quiet (fail)
            go_wp2
            go_meet
            case rel => exact ⟨by rw [hd], false, rfl, hres, (Upd.refl _ _).drewN nq⟩
          | true =>
            rw [hd] at y2
            rcases hval with hv0 | hv0
            · have hres : Hid (BadIs false ((∀ j (h : j + 1 = 0), lessE (l[j]'(by omega)) x = true) ∧ liveE x)) := Lib.hid ⟨fun _ => ⟨hless, fun _ => hvl0 hv0⟩, fun _ => rfl⟩
              have v1 := empty_of_size hv0
              clear hless live_f hvl0 hvl1 hv0
              go_quiet (fail)
              go_wp2
              go_meet
              case rel => exact ⟨by rw [hd], false, rfl, hres, (Upd.refl _ _).drewN nq⟩
            · have hres : Hid (BadIs true ((∀ j (h : j + 1 = 0), lessE (l[j]'(by omega)) x = true) ∧ liveE x)) := Lib.hid ⟨(fun h => by cases h), fun h => absurd (h.2 hd) (hvl1 hv0)⟩
              have v1 := isEmpty_of_size hv0
              clear hless live_f hvl0 hvl1 hv0
              go_quiet (fail)
              go_wp2
              go_meet
              case rel => exact ⟨by rw [hd], true, rfl, hres, (Upd.refl _ _).drewN nq⟩
        | succ j =>
          obtain ⟨b', off', hA, _, hsj, p0, p1, p2, p3⟩ := hr.ent (k := j) (by omega)
          injection hA with hA
          injection hA with hA1 hA2 _
          subst hA1 hA2
          obtain ⟨q, hq⟩ : ∃ q, l[j] = q := ⟨_, rfl⟩
          rw [hq] at p0 p1 p2 p3
          have hle : ∀ i (h : i + 1 = j + 1), lessE (l[i]'(by omega)) x = lessE q x := fun i h => by
            obtain rfl : i = j := by omega
            rw [hq]
          have z0 := (hXu.cell (p := ⟨b, off + j * 4, none⟩) (Nat.lt_of_lt_of_le hab hbx.size) (fun h => h)).trans ((hbx.cell (p := ⟨b, off + j * 4, none⟩) hab).trans p0)
          have z1 := (hXu.cell (p := ⟨b, off + j * 4 + 1, none⟩) (Nat.lt_of_lt_of_le hab hbx.size) (fun h => h)).trans ((hbx.cell (p := ⟨b, off + j * 4 + 1, none⟩) hab).trans p1)
          have z2 := (hXu.cell (p := ⟨b, off + j * 4 + 2, none⟩) (Nat.lt_of_lt_of_le hab hbx.size) (fun h => h)).trans ((hbx.cell (p := ⟨b, off + j * 4 + 2, none⟩) hab).trans p2)
          have z3 := (hXu.cell (p := ⟨b, off + j * 4 + 3, none⟩) (Nat.lt_of_lt_of_le hab hbx.size) (fun h => h)).trans ((hbx.cell (p := ⟨b, off + j * 4 + 3, none⟩) hab).trans p3)
          have i1 : (0 : Int) ≤ (j : Int) := by omega
          have i2 : (j : Int) < (n : Int) := by omega
          have i6 : j < n := by omega
          have i3 : (0 : Int) < (j : Int) + 1 := by omega
          have i4 : IntKind.i64.wrap (j : Int) = (j : Int) := IntWalk.i64_in _ (by omega)
          have hbX : b < wX.heap.size := Nat.lt_of_lt_of_le hab (Nat.le_trans hbx.size hXu.size)
          clear p0 p1 p2 p3 hq
          have hls : lessE q x = true ∨ lessE q x = false := by cases lessE q x <;> simp
          rcases hls with hls | hls
          · cases hd : x.dead with
            | false =>
              have hres : Hid (BadIs false ((∀ i (h : i + 1 = j + 1), lessE (l[i]'(by omega)) x = true) ∧ liveE x)) := Lib.hid ⟨fun _ => ⟨fun i h => by rw [hle i h, hls], live_f hd⟩, fun _ => rfl⟩
              rw [hd] at y2
              clear hle live_f hvl0 hvl1 hval
              first
                | go_region_with (first
                  | (go_at_call 68; refine (rises_is _ _ _ _ _ _ _ _ _ true hls).mono ?_; rintro e w5 ⟨rfl, hb5⟩; have hu5 : Upd (fun _ => False) wX w5 := upd_drew hb5; obtain ⟨t0, t1, t2, t3⟩ := XC.out w5 hu5; rw [hd] at t2))
                | fail
              all_goals go_wp2
              all_goals go_meet
              all_goals (case rel => exact ⟨by rw [hd], false, rfl, hres, by assumption⟩)
            | true =>
              rcases hval with hv0 | hv0
              · have hres : Hid (BadIs false ((∀ i (h : i + 1 = j + 1), lessE (l[i]'(by omega)) x = true) ∧ liveE x)) := Lib.hid ⟨fun _ => ⟨fun i h => by rw [hle i h, hls], fun _ => hvl0 hv0⟩, fun _ => rfl⟩
                have v1 := empty_of_size hv0
                clear hv0
                rw [hd] at y2
                have MK : Hid (∀ W, Upd (fun _ => False) wX W → Upd (fun _ => False) wX W ∧ W.cell? ⟨b, off + j * 4, none⟩ = some (.string q.key) ∧ W.cell? ⟨b, off + j * 4 + 1, none⟩ = some (.int .i64 q.seq) ∧ W.cell? ⟨b, off + j * 4 + 2, none⟩ = some (.bool q.dead) ∧ W.cell? ⟨b, off + j * 4 + 3, none⟩ = some (.string q.val) ∧ W.cell? ⟨wr.heap.size, 0, none⟩ = some (.string x.key) ∧ W.cell? ⟨wr.heap.size, 1, none⟩ = some (.int .i64 x.seq) ∧ W.cell? ⟨wr.heap.size, 2, none⟩ = some (.bool true) ∧ W.cell? ⟨wr.heap.size, 3, none⟩ = some (.string x.val)) := Lib.hid fun W hW => by
                  have h1 := XC.out W hW
                  rw [hd] at h1
                  exact ⟨hW, (hW.cell (p := ⟨b, off + j * 4, none⟩) hbX (fun h => h)).trans z0, (hW.cell (p := ⟨b, off + j * 4 + 1, none⟩) hbX (fun h => h)).trans z1, (hW.cell (p := ⟨b, off + j * 4 + 2, none⟩) hbX (fun h => h)).trans z2, (hW.cell (p := ⟨b, off + j * 4 + 3, none⟩) hbX (fun h => h)).trans z3, h1⟩
                clear hle live_f hvl0 hvl1
                go_region_held3 (fun W => Upd (fun _ => False) wX W ∧ W.cell? ⟨b, off + j * 4, none⟩ = some (.string q.key) ∧ W.cell? ⟨b, off + j * 4 + 1, none⟩ = some (.int .i64 q.seq) ∧ W.cell? ⟨b, off + j * 4 + 2, none⟩ = some (.bool q.dead) ∧ W.cell? ⟨b, off + j * 4 + 3, none⟩ = some (.string q.val) ∧ W.cell? ⟨wr.heap.size, 0, none⟩ = some (.string x.key) ∧ W.cell? ⟨wr.heap.size, 1, none⟩ = some (.int .i64 x.seq) ∧ W.cell? ⟨wr.heap.size, 2, none⟩ = some (.bool true) ∧ W.cell? ⟨wr.heap.size, 3, none⟩ = some (.string x.val)) (first | assumption | exact MK.out _ (upd_drew0 (Upd.refl _ _)) | exact MK.out _ (upd_below5 (And.left (by assumption)) (by assumption))) (first
                  | (go_at_call 68; refine (rises_is _ _ _ _ _ _ _ _ _ true hls).mono ?_; rintro e w5 ⟨rfl, hb5⟩))
                go_wp2
                go_meet
                case rel => exact ⟨by rw [hd], false, rfl, hres, And.left (by assumption)⟩
              · have hres : Hid (BadIs true ((∀ i (h : i + 1 = j + 1), lessE (l[i]'(by omega)) x = true) ∧ liveE x)) := Lib.hid ⟨(fun h => by cases h), fun h => absurd (h.2 hd) (hvl1 hv0)⟩
                have v1 := isEmpty_of_size hv0
                clear hv0
                rw [hd] at y2
                have MK : Hid (∀ W, Upd (fun _ => False) wX W → Upd (fun _ => False) wX W ∧ W.cell? ⟨b, off + j * 4, none⟩ = some (.string q.key) ∧ W.cell? ⟨b, off + j * 4 + 1, none⟩ = some (.int .i64 q.seq) ∧ W.cell? ⟨b, off + j * 4 + 2, none⟩ = some (.bool q.dead) ∧ W.cell? ⟨b, off + j * 4 + 3, none⟩ = some (.string q.val) ∧ W.cell? ⟨wr.heap.size, 0, none⟩ = some (.string x.key) ∧ W.cell? ⟨wr.heap.size, 1, none⟩ = some (.int .i64 x.seq) ∧ W.cell? ⟨wr.heap.size, 2, none⟩ = some (.bool true) ∧ W.cell? ⟨wr.heap.size, 3, none⟩ = some (.string x.val)) := Lib.hid fun W hW => by
                  have h1 := XC.out W hW
                  rw [hd] at h1
                  exact ⟨hW, (hW.cell (p := ⟨b, off + j * 4, none⟩) hbX (fun h => h)).trans z0, (hW.cell (p := ⟨b, off + j * 4 + 1, none⟩) hbX (fun h => h)).trans z1, (hW.cell (p := ⟨b, off + j * 4 + 2, none⟩) hbX (fun h => h)).trans z2, (hW.cell (p := ⟨b, off + j * 4 + 3, none⟩) hbX (fun h => h)).trans z3, h1⟩
                clear hle live_f hvl0 hvl1
                go_region_held3 (fun W => Upd (fun _ => False) wX W ∧ W.cell? ⟨b, off + j * 4, none⟩ = some (.string q.key) ∧ W.cell? ⟨b, off + j * 4 + 1, none⟩ = some (.int .i64 q.seq) ∧ W.cell? ⟨b, off + j * 4 + 2, none⟩ = some (.bool q.dead) ∧ W.cell? ⟨b, off + j * 4 + 3, none⟩ = some (.string q.val) ∧ W.cell? ⟨wr.heap.size, 0, none⟩ = some (.string x.key) ∧ W.cell? ⟨wr.heap.size, 1, none⟩ = some (.int .i64 x.seq) ∧ W.cell? ⟨wr.heap.size, 2, none⟩ = some (.bool true) ∧ W.cell? ⟨wr.heap.size, 3, none⟩ = some (.string x.val)) (first | assumption | exact MK.out _ (upd_drew0 (Upd.refl _ _)) | exact MK.out _ (upd_below5 (And.left (by assumption)) (by assumption))) (first
                  | (go_at_call 68; refine (rises_is _ _ _ _ _ _ _ _ _ true hls).mono ?_; rintro e w5 ⟨rfl, hb5⟩))
                go_wp2
                go_meet
                case rel => exact ⟨by rw [hd], true, rfl, hres, And.left (by assumption)⟩
          · have hres : Hid (BadIs true ((∀ i (h : i + 1 = j + 1), lessE (l[i]'(by omega)) x = true) ∧ liveE x)) := Lib.hid ⟨(fun h => by cases h), fun h => absurd ((hle j rfl).symm.trans (h.1 j rfl)) (by rw [hls]; decide)⟩
            clear hle live_f hvl0 hvl1 hval
            first
              | go_region_with (first
                | (go_at_call 68; refine (rises_is _ _ _ _ _ _ _ _ _ false hls).mono ?_; rintro e w5 ⟨rfl, hb5⟩; have hu5 : Upd (fun _ => False) wX w5 := upd_drew hb5; obtain ⟨t0, t1, t2, t3⟩ := XC.out w5 hu5))
              | fail
            all_goals go_wp2
            all_goals go_meet
            all_goals (case rel => exact ⟨rfl, true, rfl, hres, by assumption⟩)
      case rest =>
        obtain ⟨rfl, bad, rfl, hbad, hwc⟩ := hcut
        have hbw := hbk.same (hXu.trans hwc (fun _ _ h => h))
        have hbxc := below_bkw hbx.size hbx ((hXu.trans hwc (fun _ _ h => h)).mono (S' := BkwS G w.heap.size v) (fun _ _ h => h.elim)) hG (Nat.le_refl _) (fun q hq => (hbk.wr.own.lt q hq).1)
        obtain ⟨t0, t1, t2, t3⟩ := XC.out wc hwc
        clear XC hXB hXb d0 d1 d2 d3
        cases bad with
        | true =>
          have hnr : ¬ rightE l := by
            intro h
            obtain ⟨h1, h2⟩ := (right_iff l).1 h
            have := hbad.out.2 ⟨fun j hj => by
              have := h2 j (by omega) (by omega)
              subst hj
              rw [HX.out] at this
              exact this, by have := h1 k hsk hsk; rw [HX.out] at this; exact this⟩
            cases this
          have HR := Lib.hid (encR_no hnr)
          clear hbw t0 t1 t2 t3
          go_wp2
          go_ret2
          exact ⟨by rw [HR.out]; rfl, hbxc⟩
        | false =>
          obtain ⟨g1, g2⟩ := hbad.out.1 rfl
          have hlv' : Hid (livesTo l (k + 1)) := Lib.hid fun j hj hjk => by
            by_cases e : j = k
            · subst e; rw [HX.out]; exact g2
            · exact HLV.out j hj (by omega)
          have hri' : Hid (risesTo l (k + 1)) := Lib.hid fun j hj hjk => by
            by_cases e : j + 1 = k
            · subst e; rw [HX.out]; exact g1 j rfl
            · exact HRI.out j hj (by omega)
          have hszc : (numB n ++ entsB [] (l.take k)).length + (entB last.data.toList x).length ≤ 140737488355328 := by
            rw [HLAST.out, List.length_append]
            have := HLEN.out
            rw [← HNL.out] at this
            omega
          clear g1 g2
          go_wp2_with fail
          refine (went_any _ w.heap.size G w.heap.size v last (numB n ++ entsB [] (l.take k)) x hbw hbxc.size hs0 hs1 hxk hxv hlz hszc).mono ?_
          rintro e w6 ⟨rfl, v6, hb6, hat6, hu6⟩
          have hbx6 := below_bkw hbxc.size hbxc hu6 hG (Nat.le_refl _) (fun q hq => (hbw.wr.own.lt q hq).1)
          have hb6' : Bkw w6 w.heap.size G w.heap.size v6 x.key (numB n ++ entsB [] (l.take (k + 1))) := by
            rw [HT.out, ← HLAST.out, ← List.append_assoc]; exact hb6
          have hk6 : x.key.data.toList = lastK [] (l.take (k + 1)) := HK.out.symm
          have HK6 := Lib.hid hk6
          clear hb6 hat6 hu6 hbw hbxc hk6 t0 t1 t2 t3
          go_wp2
          go_roundw
          case rel => exact ⟨k + 1, by omega, by go_num, ⟨v6, x.key, HK6.out, hxk, hb6'⟩, hlv'.out, hri'.out, hbx6⟩
          case measure => simp [intOf]; omega
    · obtain rfl : n = k := by omega
      have hright : rightE l := (right_iff l).2 ⟨by have := HLV.out; rw [HNL.out] at this; exact this, by have := HRI.out; rw [HNL.out] at this; exact this⟩
      have HR := Lib.hid (encR_ok hright)
      have hbytes : Hid (numB n ++ entsB [] (l.take n) = blockB l) := Lib.hid (by
        unfold blockB
        rw [HNL.out, List.take_length])
      have c0 := hbk.c0
      go_wp2_with fail
      refine (bytes_any _ _ _ _ _ hbk.wr).mono ?_
      rintro e w6 ⟨rfl, rfl⟩
      go_wp2
      go_ret2
      exact ⟨by rw [HR.out, hbytes.out]; rfl, hbx⟩
end Go.Proofs.Ytanieolnaiihmaa
