/- Blocks: Decode, walked. -/
import Derived.Test.YtanieolnaiihmaaBkRead2
import Derived.Test.YtanieolnaiihmaaBkEnc
import Derived.Deep.CutBlock
import Derived.Deep.DeepCutAuto
import Derived.Deep.RegionWith
namespace Go.Proofs.Ytanieolnaiihmaa
open Go.RowKit

/-! ### Plain -/
def decR (l : List UInt8) : List Ent × Nat := match rdBlock l with
  | some es => (es, 0)
  | none => ([], 1)
theorem decR_ok {l : List UInt8} {es : List Ent} (h : rdBlock l = some es) : decR l = (es, 0) := by unfold decR; rw [h]
theorem decR_no {l : List UInt8} (h : rdBlock l = none) : decR l = ([], 1) := by unfold decR; rw [h]
theorem rdEnt_room {last l : List UInt8} {x : Ent} {r : List UInt8} (h : rdEnt last l = some (x, r)) : r.length < l.length ∧ x.kl.length + r.length ≤ last.length + l.length ∧ x.vl.length ≤ l.length := by
  obtain ⟨h1, _, h3, h4⟩ := rdEnt_back h
  have hp := numB_pos (lcp last x.kl)
  have hc := lcp_le last x.kl
  have hl := congrArg List.length h1
  rw [List.length_append] at hl
  have hk : x.kl.length ≤ last.length + (entB last x).length := by
    unfold entB
    simp only [List.length_append, textB, List.length_drop]
    omega
  have hpe : 0 < (entB last x).length := by
    unfold entB
    simp only [List.length_append]; omega
  have hv : x.vl.length ≤ (entB last x).length ∨ x.dead = true := by
    cases hd : x.dead with
    | true => exact .inr rfl
    | false =>
      left
      unfold entB
      rw [if_neg (by rw [hd]; decide)]
      simp only [List.length_append, textB]; omega
  refine ⟨by omega, by omega, ?_⟩
  rcases hv with hv | hv
  · omega
  · have := (rdEnt_back h).2.1 hv
    rw [this]; simp
/-- The state of a reading: es are read, from s on so many are still to come. -/
def DecSt (n : Nat) (l0 : List UInt8) (k : Nat) (es : List Ent) (last : List UInt8) (l : List UInt8) : Prop :=
  rdEnts n none [] l0 = (rdEnts (n - k) es.getLast? last l).map fun y => (es ++ y.1, y.2)
theorem DecSt.start (n : Nat) (l0 : List UInt8) : DecSt n l0 0 [] [] l0 := by
  unfold DecSt
  simp
theorem DecSt.next {n k : Nat} {l0 : List UInt8} {es : List Ent} {last l r : List UInt8} {x : Ent} (h : DecSt n l0 k es last l) (hk : k < n) (hx : rdEnt last l = some (x, r)) (hp : ∀ q, es.getLast? = some q → lessE q x = true) :
    DecSt n l0 (k + 1) (es ++ [x]) x.kl r := by
  unfold DecSt at h ⊢
  rw [h, show n - k = (n - (k + 1)) + 1 by omega, rdEnts, hx]
  have hl : (es ++ [x]).getLast? = some x := by simp
  rw [hl]
  cases hq : es.getLast? with
  | none => simp only [Option.map_map]; congr 1; funext y; simp
  | some q => simp only [hp q hq, if_true, Option.map_map]; congr 1; funext y; simp
theorem DecSt.bad {n k : Nat} {l0 : List UInt8} {es : List Ent} {last l : List UInt8} (h : DecSt n l0 k es last l) (hk : k < n) (hx : rdEnt last l = none ∨ ∃ x r q, rdEnt last l = some (x, r) ∧ es.getLast? = some q ∧ lessE q x = false) :
    rdEnts n none [] l0 = none := by
  unfold DecSt at h
  rw [h, show n - k = (n - (k + 1)) + 1 by omega, rdEnts]
  rcases hx with hx | ⟨x, r, q, hx, hq, hl⟩
  · rw [hx]; rfl
  · rw [hx, hq]
    simp only [hl, Bool.false_eq_true, if_false, Option.map_none]
theorem DecSt.done {n : Nat} {l0 : List UInt8} {es : List Ent} {last l : List UInt8} (h : DecSt n l0 n es last l) : rdEnts n none [] l0 = some (es, l) := by
  unfold DecSt at h
  rw [h, Nat.sub_self]
  simp [rdEnts]
def finishE : Option (List Ent × List UInt8) → Option (List Ent)
  | some (es, []) => some es
  | _ => none
theorem rdBlock_of {l r1 : List UInt8} {n e1 : Nat} (h : rdNum l = (n, e1, r1)) : rdBlock l = if e1 ≠ 0 then none else finishE (rdEnts n none [] r1) := by
  unfold rdBlock
  simp only [h]
  by_cases he : e1 ≠ 0
  · rw [if_pos he, if_pos he]
  · rw [if_neg he, if_neg he]
    cases rdEnts n none [] r1 with
    | none => rfl
    | some p =>
      obtain ⟨es, l⟩ := p
      cases l <;> rfl

/-! ### The walk -/
theorem ent_info : (Try.prog.info? 41).map (fun i => (i.zero, i.size, i.bytes)) = some (some (.agg #[.string ByteArray.empty, .int .i64 0, .bool false, .string ByteArray.empty]), 4, 48) := by kernel_rfl
theorem Bkr.upd {S : Nat → Prop} {w w' : World} {g gr : Nat} {last : ByteArray} {bad : Bool} {s : ByteArray} (h : Bkr w g gr last bad s) (hu : Upd S w w') (h1 : ¬ S g) (h2 : ¬ S gr) : Bkr w' g gr last bad s :=
  ⟨(hu.block g h.lt h1).trans h.blk, h.rd.upd hu h2⟩
theorem below_bkr {w w1 w2 : World} {B g gr : Nat} (hB : B ≤ w1.heap.size) (h : Below B w w1) (hu : Upd (BkrS g gr) w1 w2) (hg : B ≤ g) (hgr : B ≤ gr) : Below B w w2 := by
  refine h.trans (hu.below (fun k hk => ?_) hB)
  rintro (e | e) <;> omega
theorem Bkr.own {w : World} {g gr base n : Nat} {last : ByteArray} {bad : Bool} {s : ByteArray} {v : Value} {xs : List Value} (h : Bkr w g gr last bad s) (ho : w.ownsRow base 41 4 v n xs) : v.ownBlock ≠ some g ∧ v.ownBlock ≠ some gr :=
  ⟨own_ne_cells ho h.blk (by decide), own_ne_cells ho h.rd (by decide)⟩
attribute [local go_sem] undef in
set_option maxHeartbeats 16000000 in
set_option maxRecDepth 20000 in
theorem dec_any (w : World) (s : ByteArray) (hs : s.size ≤ 1099511627776) :
    Calls Try.prog 53 #[.string s] w fun e w' => ∃ v, e = .returned (.tuple #[v, .int .i64 ((decR s.data.toList).2 : Int)]) ∧ w'.ownsRow w.heap.size 41 4 v (decR s.data.toList).1.length (entv (decR s.data.toList).1) ∧ Below w.heap.size w w' := by
  obtain ⟨i0, hi0, hz0, hz1, hz2⟩ := info_parts ent_info
  obtain ⟨n, e1, r1, h1⟩ : ∃ n e r, rdNum s.data.toList = (n, e, r) := ⟨_, _, _, rfl⟩
  have hB := Lib.hid (rdBlock_of h1)
  have hn64 := rdNum_lt s.data.toList; rw [h1] at hn64
  have l1 := rdNum_len s.data.toList; rw [h1] at l1
  have f1 := rdNum_err h1
  have e1' : e1 = 0 ∨ e1 = 1 := by rcases f1 with ⟨h, _⟩ | ⟨h, _⟩ <;> omega
  have en : e1 = 1 → n = 0 := fun h => by rcases f1 with ⟨h', _⟩ | ⟨_, h', _⟩ <;> omega
  simp only at hn64 l1
  have H1 := Lib.hid h1
  clear h1 f1
  go_enter Try.func53, Try.ntmps53
  go_wp2_with fail
  refine (read_any _ s).mono ?_
  rintro e w1 ⟨rfl, rfl⟩
  have hb0 : Bkr ((w.alloc (.cells #[.string s] 155)).alloc (.cells #[.pointer (some ⟨w.heap.size, 0, none⟩), .string ⟨#[]⟩, .bool false] 134)) (w.heap.size + 1) w.heap.size ⟨#[]⟩ false s :=
    ⟨by have := heap_alloc_new (w.alloc (.cells #[.string s] 155)) (.cells #[.pointer (some ⟨w.heap.size, 0, none⟩), .string ⟨#[]⟩, .bool false] 134); simpa using this,
     (Rdr.new w 155 s).upd ((Upd.refl (fun _ => False) _).alloc _) (fun h => h)⟩
  have hbel0 : Below w.heap.size w ((w.alloc (.cells #[.string s] 155)).alloc (.cells #[.pointer (some ⟨w.heap.size, 0, none⟩), .string ⟨#[]⟩, .bool false] 134)) := ((Below.refl _ _).alloc (Nat.le_refl _) _).alloc (by simp) _
  go_wp2_with fail
  refine (bnum_any _ (w.heap.size + 1) w.heap.size ⟨#[]⟩ false s n e1 r1 H1.out hb0 (by omega)).mono ?_
  rintro e w2 ⟨rfl, s1, hs1, hb1, hu1⟩
  have hbel1 := below_bkr hbel0.size hbel0 hu1 (by omega) (by omega)
  obtain ⟨G, hG⟩ : ∃ G, G = w.heap.size + 1 := ⟨_, rfl⟩
  rw [← hG] at hb1 ⊢
  have hGl : w.heap.size < G := by omega
  have hsl : s.data.toList.length = s.size := by simp
  have z1 : s1.size ≤ s.size := by have : s1.data.toList.length = s1.size := by simp
                                   rw [hs1] at this; omega
  have HS1 := Lib.hid hs1
  have st1 : Hid ((okBad false e1 = false ∧ e1 = 0 ∧ DecSt n r1 0 [] [] s1.data.toList) ∨ (okBad false e1 = true ∧ rdBlock s.data.toList = none)) := Lib.hid (by
    rcases e1' with h | h
    · exact .inl ⟨by rw [h]; rfl, h, by rw [hs1]; exact DecSt.start n r1⟩
    · exact .inr ⟨by rw [h]; rfl, by rw [hB.out, if_pos (by omega)]⟩)
  generalize okBad false e1 = bad1 at *
  clear hb0 hbel0 hu1 hs1 hG e1' en l1 hsl
  go_wp2
  go_loopw [6, 7] (fun v i wx => ∃ (k : Nat) (bad : Bool) (last sx : ByteArray) (es : List Ent), k ≤ n ∧ i = .int .u64 k ∧ Bkr wx G w.heap.size last bad sx ∧ wx.ownsRow w.heap.size 41 4 v k (entv es) ∧ Below w.heap.size w wx ∧ k ≤ s.size + 1 ∧ (bad = false → sx.size + k ≤ s.size ∧ last.size + sx.size ≤ s.size) ∧
      Hid ((bad = false ∧ e1 = 0 ∧ DecSt n r1 k es last.data.toList sx.data.toList) ∨ (bad = true ∧ rdBlock s.data.toList = none))) (fun _ i _ => n - (intOf i).toNat)
  case atStart => exact ⟨0, bad1, ⟨#[]⟩, s1, [], Nat.zero_le _, rfl, hb1, World.ownsRow_nil _ _ _ _, hbel1, by omega, fun _ => ⟨by omega, by have : (⟨#[]⟩ : ByteArray).size = 0 := rfl; omega⟩, st1⟩
  case round =>
    obtain ⟨k, bad, last, sx, es, hk, rfl, hbk, hown, hbx, hks, hgood, hst⟩ := hrel
    clear hb1 hbel1 st1
    by_cases hlt : k < n ∧ bad = false
    · obtain ⟨hlt, rfl⟩ := hlt
      obtain ⟨g1, g2⟩ := hgood rfl
      obtain ⟨he10, hdst⟩ : e1 = 0 ∧ DecSt n r1 k es last.data.toList sx.data.toList := by
        rcases hst.out with ⟨_, a, b⟩ | ⟨h, _⟩
        · exact ⟨a, b⟩
        · cases h
      have HD := Lib.hid hdst
      have HE := Lib.hid he10
      have hlen : Hid (es.length = k) := Lib.hid (by have := hown.1; rw [entv_length] at this; omega)
      clear hdst he10 hst hgood
      have c0 := hbk.c0
      have c2 := hbk.c2
      go_wp2_with fail
      refine (bent_any _ G w.heap.size last sx hbk (by omega) (by omega)).mono ?_
      rintro en wE ⟨y, last', bad', s', rfl, hbE, huE, hpost⟩
      have HP := Lib.hid hpost
      have ownE := own_upd hown huE (fun q hq h => h.elim (fun e => (hbk.own hown).1 (e ▸ hq)) (fun e => (hbk.own hown).2 (e ▸ hq)))
      have belE := below_bkr hbx.size hbx huE (by omega) (Nat.le_refl _)
      clear hown hbk huE hbx hpost c0 c2
      go_upto_region 8 with (fail)
      have bX := hbE.same ((Upd.refl (fun _ => False) wE).alloc (.cells #[.string y.key, .int .i64 y.seq, .bool y.dead, .string y.val] 41))
      have oX := ownE.alloc (.cells #[.string y.key, .int .i64 y.seq, .bool y.dead, .string y.val] 41)
      have hXb : (wE.alloc (.cells #[.string y.key, .int .i64 y.seq, .bool y.dead, .string y.val] 41)).heap[wE.heap.size]? = some (.cells #[.string y.key, .int .i64 y.seq, .bool y.dead, .string y.val] 41 (0, 0)) := heap_alloc_new wE _
      have belX := belE.alloc belE.size (.cells #[.string y.key, .int .i64 y.seq, .bool y.dead, .string y.val] 41)
      have hGX : G < wE.heap.size := hbE.lt
      have hgX : w.heap.size < wE.heap.size := hbE.rd.lt
      generalize wE.alloc (.cells #[.string y.key, .int .i64 y.seq, .bool y.dead, .string y.val] 41) = wX at bX oX hXb belX ⊢
      generalize wE.heap.size = X at *
      clear ownE belE hbE
      obtain ⟨Av, cv, rfl⟩ := own_shape oX
      go_cut [] (fun wc => ∃ b : Bool, Bkr wc G w.heap.size last' b s' ∧ Upd (fun q => q = G) wX wc ∧ Hid (BadIs b (bad' = false ∧ ∀ q, es.getLast? = some q → lessE q y = true)))
      case first =>
        have z2 := bX.c2
        have zf := bX.free 2
        have HSET : Hid (∀ (W : World) (b : Bool), Upd (fun _ => False) wX W → Bkr (W.setCell ⟨G, 2, none⟩ (.bool b)) G w.heap.size last' b s' ∧ Upd (fun q => q = G) wX (W.setCell ⟨G, 2, none⟩ (.bool b))) := Lib.hid fun W b hW =>
          ⟨((bX.same hW).setBad b).1, (hW.mono (S' := fun q => q = G) (fun _ _ h => h.elim)).setCell ⟨G, 2, none⟩ rfl _⟩
        have hud : Upd (fun _ => False) wX wX.drew := upd_drew0 (Upd.refl _ _)
        cases bad' with
        | true =>
          have hres : Hid (BadIs true (true = false ∧ ∀ q, es.getLast? = some q → lessE q y = true)) := Lib.hid ⟨(fun h => by cases h), (fun h => by cases h.1)⟩
          clear HD HE HP hlen hXb
          first
            | go_region_with (fail)
            | fail
          all_goals go_wp2
          all_goals go_meet
          all_goals (case rel => exact ⟨true, (HSET.out _ true hud).1, (HSET.out _ true hud).2, hres⟩)
        | false =>
          cases k with
          | zero =>
            have hes : es = [] := List.eq_nil_of_length_eq_zero hlen.out
            have hres : Hid (BadIs false (false = false ∧ ∀ q, es.getLast? = some q → lessE q y = true)) := Lib.hid ⟨fun _ => ⟨rfl, fun q hq => by rw [hes] at hq; cases hq⟩, fun _ => rfl⟩
            clear HD HE HP hlen hXb hes
            first
              | go_region_with (fail)
              | fail
            all_goals go_wp2
            all_goals go_meet
            all_goals (case rel => exact ⟨false, (HSET.out _ false hud).1, (HSET.out _ false hud).2, hres⟩)
          | succ j =>
            obtain ⟨go, cap, hv, _, hgo, hnc, _⟩ := own_form oX (by omega)
            injection hv with hv1 hv2 hv3
            subst hv1
            have hj : j < es.length := by have := hlen.out; omega
            obtain ⟨q, hq⟩ : ∃ q, es[j] = q := ⟨_, rfl⟩
            have hlast : es.getLast? = some q := by
              rw [List.getLast?_eq_getElem?, hlen.out, Nat.add_sub_cancel, List.getElem?_eq_getElem hj, hq]
            have p0 : wX.cell? ⟨go, j * 4, none⟩ = some (.string q.key) := by
              have h1 := entv_get es j 0 hj (by omega)
              rw [oX.cellAt (j * 4) (by omega), show j * 4 = 4 * j + 0 by omega, h1, hq]; rfl
            have p1 : wX.cell? ⟨go, j * 4 + 1, none⟩ = some (.int .i64 q.seq) := by
              have h1 := entv_get es j 1 hj (by omega)
              rw [oX.cellAt (j * 4 + 1) (by omega), show j * 4 + 1 = 4 * j + 1 by omega, h1, hq]; rfl
            have p2 : wX.cell? ⟨go, j * 4 + 2, none⟩ = some (.bool q.dead) := by
              have h1 := entv_get es j 2 hj (by omega)
              rw [oX.cellAt (j * 4 + 2) (by omega), show j * 4 + 2 = 4 * j + 2 by omega, h1, hq]; rfl
            have p3 : wX.cell? ⟨go, j * 4 + 3, none⟩ = some (.string q.val) := by
              have h1 := entv_get es j 3 hj (by omega)
              rw [oX.cellAt (j * 4 + 3) (by omega), show j * 4 + 3 = 4 * j + 3 by omega, h1, hq]; rfl
            have x0 : wX.cell? ⟨X, 0, none⟩ = some (.string y.key) := by rw [cell_of_row wX _ 0 _ _ _ hXb]; rfl
            have x1 : wX.cell? ⟨X, 1, none⟩ = some (.int .i64 y.seq) := by rw [cell_of_row wX _ 1 _ _ _ hXb]; rfl
            have x2 : wX.cell? ⟨X, 2, none⟩ = some (.bool y.dead) := by rw [cell_of_row wX _ 2 _ _ _ hXb]; rfl
            have x3 : wX.cell? ⟨X, 3, none⟩ = some (.string y.val) := by rw [cell_of_row wX _ 3 _ _ _ hXb]; rfl
            have i1 : (0 : Int) ≤ (j : Int) := by omega
            have i2 : (j : Int) < (j : Int) + 1 := by omega
            have i6 : j < j + 1 := by omega
            have i3 : (0 : Int) < (j : Int) + 1 := by omega
            have i4 : IntKind.u64.wrap (j : Int) = (j : Int) := IntWalk.u64_in _ (by omega)
            clear hq hv2 hv3
            have hls : lessE q y = true ∨ lessE q y = false := by cases lessE q y <;> simp
            rcases hls with hls | hls
            · skip
              have hres : Hid (BadIs false (false = false ∧ ∀ q, es.getLast? = some q → lessE q y = true)) := Lib.hid ⟨fun _ => ⟨rfl, fun q' hq' => by rw [hlast] at hq'; injection hq' with e; rw [← e]; exact hls⟩, fun _ => rfl⟩
              have hls' : lessK q.key q.seq y.key y.seq = true := hls
              clear HD HE HP hlen hXb hls hlast
              first
                | go_region_with (first
                  | (go_at_call 68; refine (rises_is _ _ _ _ _ _ _ _ _ true hls').mono ?_; rintro en w5 ⟨rfl, hb5⟩; have hu5 : Upd (fun _ => False) wX w5 := upd_drew hb5; have c52 := (bX.same hu5).c2; have f52 := (bX.same hu5).free 2))
                | fail
              all_goals go_wp2
              all_goals go_meet
              all_goals (case rel => exact ⟨false, (HSET.out _ false (by assumption)).1, (HSET.out _ false (by assumption)).2, hres⟩)
            · skip
              have hres : Hid (BadIs true (false = false ∧ ∀ q, es.getLast? = some q → lessE q y = true)) := Lib.hid ⟨(fun h => by cases h), fun h => by have := h.2 q hlast; rw [hls] at this; cases this⟩
              have hls' : lessK q.key q.seq y.key y.seq = false := hls
              clear HD HE HP hlen hXb hls hlast
              first
                | go_region_with (first
                  | (go_at_call 68; refine (rises_is _ _ _ _ _ _ _ _ _ false hls').mono ?_; rintro en w5 ⟨rfl, hb5⟩; have hu5 : Upd (fun _ => False) wX w5 := upd_drew hb5; have c52 := (bX.same hu5).c2; have f52 := (bX.same hu5).free 2))
                | fail
              all_goals go_wp2
              all_goals go_meet
              all_goals (case rel => exact ⟨true, (HSET.out _ true (by assumption)).1, (HSET.out _ true (by assumption)).2, hres⟩)
      case rest =>
        obtain ⟨b, hbc, huc, hbad⟩ := hcut
        have hnG := (bX.own oX).1
        have oC := own_upd oX huc (fun q hq e => hnG (by rw [hq, e]))
        have belC := belX.trans (huc.below (fun q hq e => by omega) belX.size)
        have XC := (huc.block X (Array.getElem?_eq_some_iff.1 hXb).1 (fun e => by omega)).trans hXb
        have x0 : wc.cell? ⟨X, 0, none⟩ = some (.string y.key) := by rw [cell_of_row wc _ 0 _ _ _ XC]; rfl
        have x1 : wc.cell? ⟨X, 1, none⟩ = some (.int .i64 y.seq) := by rw [cell_of_row wc _ 1 _ _ _ XC]; rfl
        have x2 : wc.cell? ⟨X, 2, none⟩ = some (.bool y.dead) := by rw [cell_of_row wc _ 2 _ _ _ XC]; rfl
        have x3 : wc.cell? ⟨X, 3, none⟩ = some (.string y.val) := by rw [cell_of_row wc _ 3 _ _ _ XC]; rfl
        clear bX oX hXb belX huc
        go_wp2_with (at_builtin; refine wpList_push rfl (.tmp 50) (.tmp 52) 31 rfl w.heap.size 41 i0 _ 4 48 Try.underlying31 hi0 hz0 hz1 hz2 rfl (by omega) _ k (entv es) #[.string y.key, .int .i64 y.seq, .bool y.dead, .string y.val] rfl (by exact oC) rfl rfl (by simp [Value.oneCell']) ?c1 ?c2 ?c3 ?_)
        case c1 => omega
        case c2 => unfold maxLen; omega
        case c3 => exact belC.size
        intro v3 w3 own3 hu3 hat3
        have hO := hbc.own oC
        have b3 := hbc.upd hu3 (fun e => hO.1 e) (fun e => hO.2 e)
        have bel3 := below_row belC belC.size oC (Nat.le_refl _) hu3
        have own3' : w3.ownsRow w.heap.size 41 4 v3 (k + 1) (entv (es ++ [y])) := by
          rw [entv_append, entv_one]; exact own3
        have hnew : (b = false → s'.size + (k + 1) ≤ s.size ∧ last'.size + s'.size ≤ s.size) ∧ Hid ((b = false ∧ e1 = 0 ∧ DecSt n r1 (k + 1) (es ++ [y]) last'.data.toList s'.data.toList) ∨ (b = true ∧ rdBlock s.data.toList = none)) := by
          have e1 : s'.data.toList.length = s'.size := by simp
          have e2 : sx.data.toList.length = sx.size := by simp
          have e3 : last.data.toList.length = last.size := by simp
          have e4 : y.kl.length = y.key.size := by simp [Ent.kl]
          cases b with
          | false =>
            obtain ⟨q1, q2⟩ := hbad.out.1 rfl
            rcases HP.out with ⟨_, p2, p3⟩ | ⟨p1, _⟩
            · have hroom := rdEnt_room p2
              refine ⟨fun _ => ⟨by omega, by rw [p3]; omega⟩, Lib.hid (.inl ⟨rfl, HE.out, ?_⟩)⟩
              rw [p3]
              exact HD.out.next hlt p2 q2
            · rw [q1] at p1; cases p1
          | true =>
            refine ⟨(fun h => by cases h), Lib.hid (.inr ⟨rfl, ?_⟩)⟩
            rw [hB.out, HE.out]
            simp only [ne_eq, not_true_eq_false, if_false]
            have : rdEnts n none [] r1 = none := by
              refine HD.out.bad hlt ?_
              rcases HP.out with ⟨p1, p2, p3⟩ | ⟨p1, p2⟩
              · right
                have hne : ¬ (bad' = false ∧ ∀ q, es.getLast? = some q → lessE q y = true) := fun h => by have := hbad.out.2 h; cases this
                have h2 : ¬ ∀ q, es.getLast? = some q → lessE q y = true := fun h => hne ⟨p1, h⟩
                have ⟨q, h3⟩ := Classical.not_forall.1 h2
                have ⟨h4, h5⟩ := Classical.not_imp.1 h3
                exact ⟨y, _, q, p2, h4, by simpa using h5⟩
              · exact .inl p2
            rw [this]; rfl
        obtain ⟨hnew1, hnew2⟩ := hnew
        clear own3 hu3 hat3 hbc oC belC XC x0 x1 x2 x3 hO
        go_wp2
        go_roundw
        case rel => exact ⟨k + 1, b, last', s', es ++ [y], by omega, by go_num, b3, own3', bel3, by omega, hnew1, hnew2⟩
        case measure => simp [intOf]; omega
    · have c0 := hbk.c0
      have c2 := hbk.c2
      have hrd := hbk.rd
      have hex : bad = true ∨ (bad = false ∧ k = n) := by
        cases bad
        · exact .inr ⟨rfl, by have : ¬ k < n := fun h => hlt ⟨h, rfl⟩; omega⟩
        · exact .inl rfl
      rcases hex with rfl | ⟨rfl, hkn⟩
      · have hno : Hid (decR s.data.toList = ([], 1)) := Lib.hid (by
          rcases hst.out with ⟨h, _⟩ | ⟨_, h⟩
          · cases h
          · exact decR_no h)
        clear hst hgood hown
        by_cases hkn : k < n
        · have b1 : decide ((k : Int) < (n : Int)) = true := decide_eq_true (by omega)
          have b2 : decide (k < n) = true := decide_eq_true hkn
          go_wp2
          go_ret2
          exact ⟨_, by rw [hno.out]; rfl, by rw [hno.out]; exact World.ownsRow_nil _ _ _ _, hbx⟩
        · have b1 : decide ((k : Int) < (n : Int)) = false := decide_eq_false (by omega)
          have b2 : decide (k < n) = false := decide_eq_false hkn
          go_wp2
          go_ret2
          exact ⟨_, by rw [hno.out]; rfl, by rw [hno.out]; exact World.ownsRow_nil _ _ _ _, hbx⟩
      · subst hkn
        obtain ⟨he10, hdst⟩ : e1 = 0 ∧ DecSt k r1 k es last.data.toList sx.data.toList := by
          rcases hst.out with ⟨_, a, b⟩ | ⟨h, _⟩
          · exact ⟨a, b⟩
          · cases h
        have hfin := hdst.done
        have hBk := hB.out
        rw [hfin, he10] at hBk
        simp only [ne_eq, not_true_eq_false, if_false] at hBk
        have hlen : Hid (es.length = k) := Lib.hid (by have := hown.1; rw [entv_length] at this; omega)
        have hsx : sx.data.toList.length = sx.size := by simp
        by_cases hz : sx.size = 0
        · have hnil : sx.data.toList = [] := List.eq_nil_of_length_eq_zero (by omega)
          rw [hnil] at hBk
          have hok : Hid (decR s.data.toList = (es, 0)) := Lib.hid (decR_ok hBk)
          have hzb : (sx.size == 0) = true := by rw [hz]; rfl
          clear hst hgood hBk hfin hdst he10 hnil hsx hz
          go_wp2_with fail
          refine (done_any _ w.heap.size sx hrd).mono ?_
          rintro en w' ⟨rfl, rfl⟩
          go_wp2
          go_ret2
          exact ⟨_, by rw [hok.out]; rfl, by rw [hok.out, hlen.out]; exact hown, hbx⟩
        · have hno : Hid (decR s.data.toList = ([], 1)) := Lib.hid (decR_no (by
            rw [hBk]
            cases hd : sx.data.toList with
            | nil => rw [hd] at hsx; simp at hsx; omega
            | cons a r => rfl))
          have hzb : (sx.size == 0) = false := beq_eq_false_iff_ne.2 hz
          clear hst hgood hBk hfin hdst he10 hsx hz hown
          go_wp2_with fail
          refine (done_any _ w.heap.size sx hrd).mono ?_
          rintro en w' ⟨rfl, rfl⟩
          go_wp2
          go_ret2
          exact ⟨_, by rw [hno.out]; rfl, by rw [hno.out]; exact World.ownsRow_nil _ _ _ _, hbx⟩
end Go.Proofs.Ytanieolnaiihmaa
