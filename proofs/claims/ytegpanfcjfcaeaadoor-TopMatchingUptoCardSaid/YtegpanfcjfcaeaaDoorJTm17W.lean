/- Matchings: newGraph, walked. -/
import Derived.Test.YtegpanfcjfcaeaaDoorJTm17N
namespace Go.Proofs.YtegpanfcjfcaeaaDoor
open Go.RowKit
def GoodG (n m : Int) (l : List Eg) : Prop := (0 ≤ n ∧ n ≤ 200) ∧ (0 ≤ m ∧ m ≤ 200) ∧ l.length ≤ 4000 ∧ ∀ e ∈ l, (0 ≤ e.1 ∧ e.1 < n) ∧ (0 ≤ e.2 ∧ e.2 < m)
set_option maxHeartbeats 8000000 in
set_option maxRecDepth 20000 in
theorem newg_size (w : World) (n m : Int) (A : Option Addr) (k c : Nat) (hs : ¬ ((0 ≤ n ∧ n ≤ 200) ∧ (0 ≤ m ∧ m ≤ 200) ∧ k ≤ 4000)) :
    Calls Tryd.prog 61 #[.int .i64 n, .int .i64 m, .slice A k c] w fun e w' => e = .returned (.tuple #[.pointer none, .int .i64 19]) ∧ w' = w := by
  have h : (n < 0 ∨ m < 0) ∨ (0 ≤ n ∧ 0 ≤ m ∧ (200 < n ∨ 200 < m)) ∨ (0 ≤ n ∧ 0 ≤ m ∧ n ≤ 200 ∧ m ≤ 200 ∧ 4000 < k) := by omega
  clear hs
  rcases h with h | ⟨h1, h2, h⟩ | ⟨h1, h2, h3, h4, h⟩
  all_goals
    go_enter Tryd.func61, Tryd.ntmps61
    go_wp2
    all_goals go_ret2
    all_goals exact ⟨rfl, rfl⟩
theorem own_type {w : World} {base size n k : Nat} {e : TypeId} {v : Value} {xs : List Value} (h : w.ownsRow base e size v n xs) (hk : v.ownBlock = some k) : ∃ cur, w.heap[k]? = some (.cells cur e (0, 0)) := by
  rcases h.2 with ⟨rfl, _⟩ | ⟨g, cap, cur, rfl, _, hg, _⟩
  · simp [Value.ownBlock] at hk
  · simp only [Value.ownBlock, Option.some.injEq] at hk
    subst hk
    exact ⟨cur, hg⟩
/-- The graph's block. -/
def GBlk (w : World) (G N n m : Nat) : Prop := w.heap[G]? = some (.cells #[.slice (some ⟨N, 0, none⟩) n n, .int .i64 n, .int .i64 m] 171 (0, 0))
section
variable {w w' : World} {G N n m : Nat}
theorem GBlk.lt (h : GBlk w G N n m) : G < w.heap.size := (Array.getElem?_eq_some_iff.1 h).1
theorem GBlk.c0 (h : GBlk w G N n m) : w.cell? ⟨G, 0, none⟩ = some (.slice (some ⟨N, 0, none⟩) n n) := by rw [cell_of_row w G 0 _ _ _ h]; rfl
theorem GBlk.c1 (h : GBlk w G N n m) : w.cell? ⟨G, 1, none⟩ = some (.int .i64 n) := by rw [cell_of_row w G 1 _ _ _ h]; rfl
theorem GBlk.c2 (h : GBlk w G N n m) : w.cell? ⟨G, 2, none⟩ = some (.int .i64 m) := by rw [cell_of_row w G 2 _ _ _ h]; rfl
theorem GBlk.upd {S : Nat → Prop} (h : GBlk w G N n m) (hu : Upd S w w') (hs : ¬ S G) : GBlk w' G N n m := (hu.block G h.lt hs).trans h
theorem GBlk.apart (h : GBlk w G N n m) {rows : List (List Nat)} {vs : List Value} (hN : Nears w N rows vs) {i : Nat} {v : Value} (hv : vs[i]? = some v) : ¬ v.ownBlock = some G := by
  intro e
  have hi : i < rows.length := by rw [← hN.len]; exact (List.getElem?_eq_some_iff.1 hv).1
  obtain ⟨cur, hc⟩ := own_type (hN.own i v _ hv (List.getElem?_eq_getElem hi)) e
  have h1 := h
  unfold GBlk at h1
  rw [hc] at h1
  injection h1 with h1
  injection h1 with _ h2 _
  exact absurd h2 (by decide)
theorem GBlk.ne (h : GBlk w G N n m) {rows : List (List Nat)} {vs : List Value} (hN : Nears w N rows vs) : G ≠ N := by
  intro e
  have h1 := hN.blk
  rw [← e] at h1
  have h2 := h
  unfold GBlk at h2
  rw [h1] at h2
  injection h2 with h2
  injection h2 with _ h3 _
  exact absurd h3 (by decide)
end
def okE (n m : Nat) (l : List Eg) (j : Nat) : Prop := ∀ i (h : i < l.length), i < j → inE n m l[i]
/-- What newGraph answers. -/
def NewOut (w : World) (n m : Nat) (l : List Eg) (e : Ending) (w' : World) : Prop :=
  (∃ N G vs, e = .returned (.tuple #[.pointer (some ⟨G, 0, none⟩), .int .i64 0]) ∧ w.heap.size ≤ N ∧ w.heap.size ≤ G ∧ Nears w' N (rowsOf n l) vs ∧ GBlk w' G N n m ∧ okE n m l l.length ∧ Below w.heap.size w w') ∨
  (e = .returned (.tuple #[.pointer none, .int .i64 19]) ∧ (∃ x ∈ l, ¬ inE n m x) ∧ Below w.heap.size w w')
set_option maxHeartbeats 8000000 in
set_option maxRecDepth 20000 in
theorem newg_any (w : World) (n m : Nat) (A : Option Addr) (k c : Nat) (l : List Eg) (hr : Rd w w.heap.size 2 A k (edgv l)) (hk : k ≤ 4000) (hn : n ≤ 200) (hm : m ≤ 200) :
    Calls Tryd.prog 61 #[.int .i64 n, .int .i64 m, .slice A k c] w (NewOut w n m l) := by
  have HKL := Lib.hid (rd_edglen hr)
  have hmk := fun w => mkrows w n (by omega)
  have hN0 : Nears ((w.alloc (.cells (Array.replicate n (Value.slice none 0 0)) 69)).alloc (.cells #[.slice (some ⟨w.heap.size, 0, none⟩) n n, .int .i64 n, .int .i64 m] 171)) w.heap.size (rowsOf n []) (List.replicate n (Value.slice none 0 0)) :=
    (nears_made w n).upd ((Upd.refl (fun _ => False) _).alloc _) (fun _ _ _ h => h)
  have hG0 : GBlk ((w.alloc (.cells (Array.replicate n (Value.slice none 0 0)) 69)).alloc (.cells #[.slice (some ⟨w.heap.size, 0, none⟩) n n, .int .i64 n, .int .i64 m] 171)) (w.alloc (.cells (Array.replicate n (Value.slice none 0 0)) 69)).heap.size w.heap.size n m := heap_alloc_new _ _
  have hB0 := ((Below.refl w.heap.size w).alloc (Nat.le_refl _) (.cells (Array.replicate n (Value.slice none 0 0)) 69)).alloc (by simp) (.cells #[.slice (some ⟨w.heap.size, 0, none⟩) n n, .int .i64 n, .int .i64 m] 171)
  have hGz : (w.alloc (.cells (Array.replicate n (Value.slice none 0 0)) 69)).heap.size = w.heap.size + 1 := by simp
  rw [hGz] at hG0
  clear hGz
  go_enter Tryd.func61, Tryd.ntmps61
  obtain ⟨G, hG⟩ : ∃ G, G = w.heap.size + 1 := ⟨_, rfl⟩
  rw [← hG] at hG0
  have HG := Lib.hid hG
  go_wp2
  all_goals
    rw [← HG.out]
    clear hmk hG
    go_loopw [34] (fun i wx => ∃ j : Nat, j ≤ k ∧ i = .int .i64 j ∧ (∃ vs, Nears wx w.heap.size (rowsOf n (l.take j)) vs) ∧ GBlk wx G w.heap.size n m ∧ Hid (okE n m l j) ∧ Below w.heap.size w wx) (fun i _ => k - (intOf i).toNat)
    case atStart => exact ⟨0, Nat.zero_le _, rfl, ⟨_, hN0⟩, hG0, Lib.hid (fun _ _ h => by omega), hB0⟩
    case round =>
      obtain ⟨j, hj, rfl, ⟨vs, hN⟩, hGB, hoe, hb⟩ := hrel
      clear hN0 hB0 hG0
      by_cases hlt : j < k
      · obtain ⟨b, off, rfl, hbB, hs, c0, c1⟩ := hr.edge hlt
        have d0 := (hb.cell (p := ⟨b, off + j * 2, none⟩) hbB).trans c0
        have d1 := (hb.cell (p := ⟨b, off + j * 2 + 1, none⟩) hbB).trans c1
        have hsn := rowsOf_snoc n (l.take j) l[j]
        rw [← List.take_succ_eq_append_getElem hs] at hsn
        have hmem := List.getElem_mem hs
        obtain ⟨⟨ea, eb⟩, he⟩ : ∃ e, l[j] = e := ⟨_, rfl⟩
        rw [he] at d0 d1 hsn hmem
        simp only at d0 d1
        have hXB := hb.alloc hb.size (.cells #[.int .i64 ea, .int .i64 eb] 40)
        by_cases hin : inE n m (ea, eb)
        · obtain ⟨h1, h2, h3, h4⟩ := hin
          simp only at h1 h2 h3 h4
          have HOE : Hid (okE n m l (j + 1)) := Lib.hid fun i hi hij => by
            by_cases e : i = j
            · subst e
              rw [he]; exact ⟨h1, h2, h3, h4⟩
            · exact hoe.out i hi (by omega)
          obtain ⟨a, rfl⟩ : ∃ a : Nat, ea = (a : Int) := ⟨ea.toNat, by omega⟩
          obtain ⟨q, rfl⟩ : ∃ q : Nat, eb = (q : Int) := ⟨eb.toNat, by omega⟩
          have hal : a < vs.length := by rw [hN.len, rowsOf_len]; omega
          have hva := List.getElem?_eq_getElem hal
          have hra : (rowsOf n (l.take j))[a]? = some (nearOf (rowsOf n (l.take j)) a) := by
            have : a < (rowsOf n (l.take j)).length := by rw [rowsOf_len]; omega
            unfold nearOf
            rw [List.getD_eq_getElem?_getD, List.getElem?_eq_getElem this]
            rfl
          have e1 : decide ((a : Int) < 0) = false := decide_eq_false (by omega)
          have e2 : decide ((a : Int) ≥ (n : Int)) = false := decide_eq_false (by omega)
          have e3 : decide ((q : Int) < 0) = false := decide_eq_false (by omega)
          have e4 : decide ((q : Int) ≥ (m : Int)) = false := decide_eq_false (by omega)
          obtain ⟨v, hv⟩ : ∃ v, vs[a] = v := ⟨_, rfl⟩
          rw [hv] at hva
          clear c0 c1 hmem hXB
          go_wp2
          have hXu : Upd (fun _ => False) wr (wr.alloc (.cells #[.int .i64 (a : Int), .int .i64 (q : Int)] 40)).drew := ((Upd.refl (fun _ => False) wr).alloc _).drewN 1
          have hXz : wr.heap.size < (wr.alloc (.cells #[.int .i64 (a : Int), .int .i64 (q : Int)] 40)).drew.heap.size := by show wr.heap.size < (wr.alloc _).heap.size; simp
          have hXb : (wr.alloc (.cells #[.int .i64 (a : Int), .int .i64 (q : Int)] 40)).drew.heap[wr.heap.size]? = some (.cells #[.int .i64 (a : Int), .int .i64 (q : Int)] 40 (0, 0)) := heap_alloc_new wr _
          obtain ⟨wX, hwX⟩ : ∃ wX, wX = (wr.alloc (.cells #[.int .i64 (a : Int), .int .i64 (q : Int)] 40)) := ⟨_, rfl⟩
          rw [← hwX] at hXu hXz hXb ⊢
          clear hwX
          have hNX := hN.upd hXu (fun _ _ _ h => h)
          have hGX := hGB.upd hXu (fun h => h)
          obtain ⟨v', w3, happ, ho3, hu3, hat3⟩ := push_run wX.drew v (nearOf (rowsOf n (l.take j)) a) q (w.heap.size + 1) (hNX.own _ _ _ hva hra) (by have := hNX.lt; omega) (by have := near_len n a j (l.take j) (by rw [List.length_take]; omega); omega)
          obtain ⟨A', L', c', hv'⟩ : ∃ A' L' c', v' = .slice A' L' c' := by
            obtain ⟨A', c', h⟩ := own_shape ho3
            exact ⟨A', _, c', h⟩
          have hN4 := hNX.push hva hra ho3 hu3 hat3
          have cN : wX.drew.cell? ⟨w.heap.size, a, none⟩ = some v := by rw [hNX.cell hal, hv]
          have nN : ¬ v.ownBlock = some w.heap.size := fun e => by have := (hNX.blt hva e).1; omega
          have nG : ¬ v.ownBlock = some G := hGX.apart hNX hva
          have neG : G ≠ w.heap.size := hGX.ne hNX
          have cA : (wX.drew.alloc (.cells #[.int .i64 (q : Int)] 3)).cell? ⟨w.heap.size, a, none⟩ = some v := (((Upd.refl (fun _ => False) wX.drew).alloc _).cell hNX.lt (fun h => h)).trans cN
          have cB : (wX.alloc (.cells #[.int .i64 (q : Int)] 3)).drew.cell? ⟨w.heap.size, a, none⟩ = some v := cA
          have c3 : w3.cell? ⟨w.heap.size, a, none⟩ = some v := (hu3.cell hNX.lt nN).trans cN
          have f3 : w3.frozen? ⟨w.heap.size, a, none⟩ = false := frozen_of_row _ _ _ _ _ ((hu3.block _ hNX.lt nN).trans hNX.blk)
          have MK : Hid (∀ W, Upd (fun k => v.ownBlock = some k ∨ k = w.heap.size) wX.drew W → W.cell? ⟨wr.heap.size, 0, none⟩ = some (.int .i64 (a : Int)) ∧ W.cell? ⟨wr.heap.size, 1, none⟩ = some (.int .i64 (q : Int)) ∧ W.cell? ⟨G, 0, none⟩ = some (.slice (some ⟨w.heap.size, 0, none⟩) n n)) := Lib.hid fun W hW => by
            have hX := (hW.block wr.heap.size hXz (by
              rintro (e | e)
              · have := (hN.blt hva e).2; omega
              · have := hN.lt; omega)).trans hXb
            refine ⟨?_, ?_, ?_⟩
            · rw [cell_of_row W _ 0 _ _ _ hX]; rfl
            · rw [cell_of_row W _ 1 _ _ _ hX]; rfl
            · exact (hGX.upd hW (by
                rintro (e | e)
                · exact nG e
                · exact neG e)).c0
          have U0 : Upd (fun k => v.ownBlock = some k ∨ k = w.heap.size) wX.drew wX.drew := Upd.refl _ _
          have U1 : Upd (fun k => v.ownBlock = some k ∨ k = w.heap.size) wX.drew (wX.drew.alloc (.cells #[.int .i64 (q : Int)] 3)) := U0.alloc _
          have U3 : Upd (fun k => v.ownBlock = some k ∨ k = w.heap.size) wX.drew w3 := hu3.mono fun _ _ h => .inl h
          have U4 : Upd (fun k => v.ownBlock = some k ∨ k = w.heap.size) wX.drew (w3.setCell ⟨w.heap.size, a, none⟩ v') := U3.setCell _ (.inr rfl) _
          have hB4 : Below w.heap.size w (w3.setCell ⟨w.heap.size, a, none⟩ v') := hb.trans (((hXu.mono (S' := fun k => v.ownBlock = some k ∨ k = w.heap.size) (fun _ _ h => h.elim)).trans U4 (fun _ _ h => h)).below (fun k hk e => by
            rcases e with e | e
            · have := (hN.blt hva e).1; omega
            · omega) hb.size)
          have HG4 := Lib.hid (hGX.upd U4 (by
                rintro (e | e)
                · exact nG e
                · exact neG e))
          have HU := Lib.hid (And.intro U0 (And.intro U1 (And.intro U3 U4)))
          have HN4 := Lib.hid hN4
          have HB4 := Lib.hid hB4
          have HSN := Lib.hid hsn
          have HAPP := Lib.hid happ
          clear U0 U1 U3 U4 hN4 hB4 hNX hXu hXz hXb ho3 hu3 hat3 hN hr d0 d1 hb hra hva hv he hsn happ hGX hGB nG neG hoe
          subst hv'
          refine wp_region_held_drew (S := fun W => W.cell? ⟨wr.heap.size, 0, none⟩ = some (.int .i64 (a : Int)) ∧ W.cell? ⟨wr.heap.size, 1, none⟩ = some (.int .i64 (q : Int)) ∧ W.cell? ⟨G, 0, none⟩ = some (.slice (some ⟨w.heap.size, 0, none⟩) n n)) (by kernel_rfl) (MK.out _ HU.out.1) (fun hHeld => ?_)
          refine wpAnyH_take (i := 0) (v := ?_) rfl (by kernel_rfl) (by kernel_rfl) (by kernel_rfl) (fun _ _ _ h => h) (Or.inl ⟨by rfl, ?_⟩) (by assumption) ?_
          rotate_left
          · (intro w hSw; (try dsimp only at hSw); go_simp; try with_reducible rfl)
          try simp only [Act.put, List.setIfInBounds_toArray, List.set_cons_zero, List.set_cons_succ]
          refine wpAnyH_take (i := 1) (v := ?_) rfl (by kernel_rfl) (by kernel_rfl) (by kernel_rfl) (fun _ _ _ h => h) (Or.inl ⟨by rfl, ?_⟩) (by assumption) ?_
          rotate_left
          · (intro w hSw; (try dsimp only at hSw); go_simp; try with_reducible rfl)
          try simp only [Act.put, List.setIfInBounds_toArray, List.set_cons_zero, List.set_cons_succ]
          refine wpAnyH_take (i := 2) (v := ?_) rfl (by kernel_rfl) (by kernel_rfl) (by kernel_rfl) (fun _ _ _ h => h) (Or.inl ⟨by rfl, ?_⟩) (by assumption) ?_
          rotate_left
          · (intro w hSw; (try dsimp only at hSw); go_simp; try with_reducible rfl)
          try simp only [Act.put, List.setIfInBounds_toArray, List.set_cons_zero, List.set_cons_succ]
          refine wpAnyH_take (i := 3) (v := ?_) rfl (by kernel_rfl) (by kernel_rfl) (by kernel_rfl) (fun _ _ _ h => h) (Or.inl ⟨by rfl, ?_⟩) (by assumption) ?_
          rotate_left
          · (intro w hSw; (try dsimp only at hSw); go_simp; try with_reducible rfl)
          try simp only [Act.put, List.setIfInBounds_toArray, List.set_cons_zero, List.set_cons_succ]
          refine wpAnyH_take (i := 4) (v := ?_) rfl (by kernel_rfl) (by kernel_rfl) (by kernel_rfl) (fun _ _ _ h => h) (Or.inl ⟨by rfl, ?_⟩) (by assumption) ?_
          rotate_left
          · (intro w hSw; (try dsimp only at hSw); go_simp; try with_reducible rfl)
          try simp only [Act.put, List.setIfInBounds_toArray, List.set_cons_zero, List.set_cons_succ]
          refine wpAnyH_take (i := 5) (v := ?_) rfl (by kernel_rfl) (by kernel_rfl) (by kernel_rfl) (fun _ _ _ h => h) (Or.inl ⟨by rfl, ?_⟩) (by assumption) ?_
          rotate_left
          · (intro w hSw; (try dsimp only at hSw); go_simp; try with_reducible rfl)
          try simp only [Act.put, List.setIfInBounds_toArray, List.set_cons_zero, List.set_cons_succ]
          refine wpAnyH_take (i := 6) (v := ?_) rfl (by kernel_rfl) (by kernel_rfl) (by kernel_rfl) (fun _ _ _ h => h) (Or.inl ⟨by rfl, ?_⟩) (by assumption) ?_
          rotate_left
          · (intro w hSw; (try dsimp only at hSw); go_simp; try with_reducible rfl)
          try simp only [Act.put, List.setIfInBounds_toArray, List.set_cons_zero, List.set_cons_succ]
          refine wpAnyH_take (i := 7) (v := ?_) rfl (by kernel_rfl) (by kernel_rfl) (by kernel_rfl) (fun _ _ _ h => h) (Or.inl ⟨by rfl, ?_⟩) (by assumption) ?_
          rotate_left
          · (intro w hSw; (try dsimp only at hSw); go_simp; try with_reducible rfl)
          try simp only [Act.put, List.setIfInBounds_toArray, List.set_cons_zero, List.set_cons_succ]
          refine wpAnyH_take (i := 8) (v := ?_) rfl (by kernel_rfl) (by kernel_rfl) (by kernel_rfl) (fun _ _ _ h => h) (Or.inl ⟨by rfl, ?_⟩) (by assumption) ?_
          rotate_left
          · (intro w hSw; (try dsimp only at hSw); go_simp; try with_reducible rfl)
          try simp only [Act.put, List.setIfInBounds_toArray, List.set_cons_zero, List.set_cons_succ]
          refine wpAnyH_take (i := 9) (v := ?_) rfl (by kernel_rfl) (by kernel_rfl) (by kernel_rfl) (fun _ _ _ h => h) (Or.inl ⟨by rfl, ?_⟩) (by assumption) ?_
          rotate_left
          · (intro w hSw; (try dsimp only at hSw); go_simp; try with_reducible rfl)
          try simp only [Act.put, List.setIfInBounds_toArray, List.set_cons_zero, List.set_cons_succ]
          refine wpAnyH_take (i := 10) (v := ?_) rfl (by kernel_rfl) (by kernel_rfl) (by kernel_rfl) (fun _ _ _ h => h) (Or.inl ⟨by rfl, ?_⟩) (by assumption) ?_
          rotate_left
          · (intro w hSw; (try dsimp only at hSw); go_simp; try with_reducible rfl)
          try simp only [Act.put, List.setIfInBounds_toArray, List.set_cons_zero, List.set_cons_succ]
          refine wpAnyH_take (i := 11) (v := ?_) rfl (by kernel_rfl) (by kernel_rfl) (by kernel_rfl) (fun _ _ _ h => h) (Or.inl ⟨by rfl, ?_⟩) (by assumption) ?_
          rotate_left
          · (intro w hSw; (try dsimp only at hSw); go_simp; try with_reducible rfl)
          try simp only [Act.put, List.setIfInBounds_toArray, List.set_cons_zero, List.set_cons_succ]
          refine wpAnyH_take (i := 12) (v := ?_) rfl (by kernel_rfl) (by kernel_rfl) (by kernel_rfl) (fun _ _ _ h => h) (Or.inl ⟨by rfl, ?_⟩) (by assumption) ?_
          rotate_left
          · (intro w hSw; (try dsimp only at hSw); go_simp; try with_reducible rfl)
          try simp only [Act.put, List.setIfInBounds_toArray, List.set_cons_zero, List.set_cons_succ]
          refine wpAnyH_take (i := 14) (v := ?_) rfl (by kernel_rfl) (by kernel_rfl) (by kernel_rfl) (fun _ _ _ h => h) (Or.inl ⟨by rfl, ?_⟩) (by assumption) ?_
          rotate_left
          · (intro w hSw; (try dsimp only at hSw); go_simp; try with_reducible rfl)
          try simp only [Act.put, List.setIfInBounds_toArray, List.set_cons_zero, List.set_cons_succ]
          refine wpAnyH_take (i := 15) (v := ?_) rfl (by kernel_rfl) (by kernel_rfl) (by kernel_rfl) (fun _ _ _ h => h) (Or.inl ⟨by rfl, ?_⟩) (by assumption) ?_
          rotate_left
          · (intro w hSw; (try dsimp only at hSw); go_simp; try with_reducible rfl)
          try simp only [Act.put, List.setIfInBounds_toArray, List.set_cons_zero, List.set_cons_succ]
          refine wpAnyH_ready (rs := [13, 16]) (by kernel_rfl) (by simp) ?_
          refine AllReadyH.cons rfl (fun K hK => ?_) (AllReadyH.cons rfl (fun K hK => ?_) AllReadyH.nil)
          · go_simp
            refine hK.out _ _ (MK.out _ HU.out.1) (fun hHeld => ?_)
            clear hK K
            try simp only [Act.put, List.setIfInBounds_toArray, List.set_cons_zero, List.set_cons_succ]
            refine wpAnyH_ready (rs := [16]) (by kernel_rfl) (by simp) ?_
            refine AllReadyH.cons rfl (fun K hK => ?_) AllReadyH.nil
            go_simp
            refine hK.out _ _ (MK.out _ HU.out.2.1) (fun hHeld => ?_)
            clear hK K
            try simp only [Act.put, List.setIfInBounds_toArray, List.set_cons_zero, List.set_cons_succ]
            refine wpAnyH_ready (rs := [17]) (by kernel_rfl) (by simp) ?_
            refine AllReadyH.cons rfl (fun K hK => ?_) AllReadyH.nil
            refine step_append_run rfl (.tmp 71) (.tmp 74) 69 rfl v (.slice (some ⟨wX.drew.heap.size, 0, none⟩) 1 1) rfl rfl _ w3 (by exact HAPP.out) ?_
            refine hK.out _ _ (MK.out _ HU.out.2.2.1) (fun hHeld => ?_)
            clear hK K
            try simp only [Act.put, List.setIfInBounds_toArray, List.set_cons_zero, List.set_cons_succ]
            refine wpAnyH_ready (rs := [18]) (by kernel_rfl) (by simp) ?_
            refine AllReadyH.cons rfl (fun K hK => ?_) AllReadyH.nil
            go_simp
            refine hK.out _ _ (MK.out _ HU.out.2.2.1) (fun hHeld => ?_)
            clear hK K
            try simp only [Act.put, List.setIfInBounds_toArray, List.set_cons_zero, List.set_cons_succ]
            refine wpAnyH_ready (rs := [19]) (by kernel_rfl) (by simp) ?_
            refine AllReadyH.cons rfl (fun K hK => ?_) AllReadyH.nil
            go_simp
            refine hK.out _ _ (MK.out _ HU.out.2.2.2) (fun hHeld => ?_)
            clear hK K
            try simp only [Act.put, List.setIfInBounds_toArray, List.set_cons_zero, List.set_cons_succ]
            refine wpAnyH_done (by kernel_rfl) ?_ _
            go_wp2
            go_roundw
            case rel => exact ⟨j + 1, by omega, by go_num, ⟨_, by rw [HSN.out]; exact HN4.out⟩, HG4.out, HOE.out, HB4.out⟩
            case measure => simp [intOf]; omega
          · go_simp
            refine hK.out _ _ (MK.out _ HU.out.2.1) (fun hHeld => ?_)
            clear hK K
            try simp only [Act.put, List.setIfInBounds_toArray, List.set_cons_zero, List.set_cons_succ]
            refine wpAnyH_ready (rs := [13]) (by kernel_rfl) (by simp) ?_
            refine AllReadyH.cons rfl (fun K hK => ?_) AllReadyH.nil
            go_simp
            refine hK.out _ _ (MK.out _ HU.out.2.1) (fun hHeld => ?_)
            clear hK K
            try simp only [Act.put, List.setIfInBounds_toArray, List.set_cons_zero, List.set_cons_succ]
            refine wpAnyH_ready (rs := [17]) (by kernel_rfl) (by simp) ?_
            refine AllReadyH.cons rfl (fun K hK => ?_) AllReadyH.nil
            refine step_append_run rfl (.tmp 71) (.tmp 74) 69 rfl v (.slice (some ⟨wX.drew.heap.size, 0, none⟩) 1 1) rfl rfl _ w3 (by exact HAPP.out) ?_
            refine hK.out _ _ (MK.out _ HU.out.2.2.1) (fun hHeld => ?_)
            clear hK K
            try simp only [Act.put, List.setIfInBounds_toArray, List.set_cons_zero, List.set_cons_succ]
            refine wpAnyH_ready (rs := [18]) (by kernel_rfl) (by simp) ?_
            refine AllReadyH.cons rfl (fun K hK => ?_) AllReadyH.nil
            go_simp
            refine hK.out _ _ (MK.out _ HU.out.2.2.1) (fun hHeld => ?_)
            clear hK K
            try simp only [Act.put, List.setIfInBounds_toArray, List.set_cons_zero, List.set_cons_succ]
            refine wpAnyH_ready (rs := [19]) (by kernel_rfl) (by simp) ?_
            refine AllReadyH.cons rfl (fun K hK => ?_) AllReadyH.nil
            go_simp
            refine hK.out _ _ (MK.out _ HU.out.2.2.2) (fun hHeld => ?_)
            clear hK K
            try simp only [Act.put, List.setIfInBounds_toArray, List.set_cons_zero, List.set_cons_succ]
            refine wpAnyH_done (by kernel_rfl) ?_ _
            go_wp2
            go_roundw
            case rel => exact ⟨j + 1, by omega, by go_num, ⟨_, by rw [HSN.out]; exact HN4.out⟩, HG4.out, HOE.out, HB4.out⟩
            case measure => simp [intOf]; omega
        · have hno : ∃ x ∈ l, ¬ inE n m x := ⟨_, hmem, hin⟩
          have HNO := Lib.hid hno
          have h : ea < 0 ∨ (0 ≤ ea ∧ (n : Int) ≤ ea) ∨ (0 ≤ ea ∧ ea < n ∧ eb < 0) ∨ (0 ≤ ea ∧ ea < n ∧ 0 ≤ eb ∧ (m : Int) ≤ eb) := by
            unfold inE at hin
            simp only at hin
            omega
          clear hin hno hN hGB hoe hsn hmem he c0 c1
          rcases h with h1 | ⟨h1, h2⟩ | ⟨h1, h2, h3⟩ | ⟨h1, h2, h3, h4⟩
          all_goals
            go_wp2
            all_goals go_ret2
            all_goals exact .inr ⟨rfl, HNO.out, hXB⟩
      · obtain rfl : j = k := by omega
        rw [HKL.out, List.take_length] at hN
        rw [HKL.out] at hoe
        have hlt' : decide ((j : Int) < (j : Int)) = false := decide_eq_false (by omega)
        have hGs : w.heap.size ≤ G := by rw [HG.out]; omega
        go_wp2
        go_ret2
        exact .inl ⟨w.heap.size, G, vs, rfl, Nat.le_refl _, hGs, hN, hGB, hoe.out, hb⟩
end Go.Proofs.YtegpanfcjfcaeaaDoor
