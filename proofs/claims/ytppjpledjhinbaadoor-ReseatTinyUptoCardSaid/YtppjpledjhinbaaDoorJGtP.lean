/- Seatings, in plain words: riders, blocks, and the network that tells the cheapest seating. -/
import Derived.Test.YtppjpledjhinbaaDoorJFlMem
namespace Go.Proofs.YtppjpledjhinbaaDoor
/-- A rider on a map: is it with an infant, which blocks it fits, its own block (-1: none), and what was decided of it. -/
structure Skr where
  inf : Bool
  fits : Nat → Bool
  own : Int
  must : Bool
  no : Bool
  blk : Int
def Skr.may (k : Skr) (b : Nat) : Bool := !k.no && (decide (k.blk < 0) || decide (k.blk = (b : Int))) && k.fits b
def Skr.price (k : Skr) : Int := if k.must = true then 900 else 100
def Skr.toll (k : Skr) (b : Nat) : Int := if (b : Int) = k.own then 0 else 1
theorem Skr.price_pos (k : Skr) : 100 ≤ k.price ∧ k.price ≤ 900 := by unfold Skr.price; split <;> omega
theorem Skr.toll_le (k : Skr) (b : Nat) : 0 ≤ k.toll b ∧ k.toll b ≤ 1 := by unfold Skr.toll; split <;> omega
/-! ### The arcs -/
def arc1 (i : Nat) : Ar := (0, 2 + (i : Int), 1, 0)
def arc2 (k : Skr) (i : Nat) : Ar := (2 + (i : Int), 1, 1, k.price)
def arc3 (k : Skr) (n m i b : Nat) : Ar := (2 + (i : Int), 2 + (n : Int) + b + (if k.inf = true then (m : Int) else 0), 1, k.toll b)
def arc4 (caps : Nat → Nat) (n b : Nat) : Ar := (2 + (n : Int) + b, 1, (caps b : Int), 0)
def arc5 (n m b : Nat) : Ar := (2 + (n : Int) + m + b, 2 + (n : Int) + b, 1, 0)
def midA (k : Skr) (n m i j : Nat) : List Ar := (List.range j).flatMap fun b => if k.may b = true then [arc3 k n m i b] else []
def kA (k : Skr) (n m i : Nat) : List Ar := [arc1 i, arc2 k i] ++ midA k n m i m
def seekA (K : Nat → Skr) (n m j : Nat) : List Ar := (List.range j).flatMap fun i => kA (K i) n m i
def bA (caps : Nat → Nat) (n m b : Nat) : List Ar := [arc4 caps n b, arc5 n m b]
def blkA (caps : Nat → Nat) (n m j : Nat) : List Ar := (List.range j).flatMap fun b => bA caps n m b
def arcsA (K : Nat → Skr) (caps : Nat → Nat) (n m : Nat) : List Ar := seekA K n m n ++ blkA caps n m m
theorem flat_succ {α : Type} (g : Nat → List α) (n : Nat) : (List.range (n + 1)).flatMap g = (List.range n).flatMap g ++ g n := by simp [List.range_succ]
/-! ### Sums over lists -/
def sumL (F : Ar → Int) (l : List Ar) : Int := (l.map F).sum
theorem sumL_nil (F : Ar → Int) : sumL F [] = 0 := rfl
theorem sumL_cons (F : Ar → Int) (a : Ar) (l : List Ar) : sumL F (a :: l) = F a + sumL F l := by simp [sumL]
theorem sumL_append (F : Ar → Int) (a b : List Ar) : sumL F (a ++ b) = sumL F a + sumL F b := by simp [sumL]
theorem sumL_flat (F : Ar → Int) (g : Nat → List Ar) (n : Nat) : sumL F ((List.range n).flatMap g) = sm n fun i => sumL F (g i) := by
  induction n with
  | zero => rfl
  | succ n ih => rw [flat_succ, sumL_append, ih]; rfl
theorem sm_list (F : Ar → Int) (l : List Ar) : sm l.length (fun i => F (l.getD i (0, 0, 0, 0))) = sumL F l := by
  induction l with
  | nil => rfl
  | cons a t ih =>
    rw [List.length_cons, sm_shift, sumL_cons, ← ih]
    rfl
theorem sumL_if (F : Ar → Int) (c : Bool) (a : Ar) : sumL F (if c = true then [a] else []) = if c = true then F a else 0 := by cases c <;> simp [sumL]
/-- What lies on an arc, told by the arc. -/
theorem by_arc {l : List Ar} (hn : l.Nodup) (f : Nat → Int) : ∃ F : Ar → Int, ∀ i, i < l.length → F (l.getD i (0, 0, 0, 0)) = f i := by
  induction l generalizing f with
  | nil => exact ⟨fun _ => 0, fun i hi => by simp at hi⟩
  | cons a t ih =>
    rw [List.nodup_cons] at hn
    obtain ⟨F, hF⟩ := ih hn.2 (fun i => f (i + 1))
    refine ⟨fun x => if x = a then f 0 else F x, fun i hi => ?_⟩
    cases i with
    | zero => simp
    | succ i =>
      have hi' : i < t.length := by simpa using hi
      have e : (a :: t).getD (i + 1) (0, 0, 0, 0) = t.getD i (0, 0, 0, 0) := by simp
      rw [e]
      have hm : t.getD i (0, 0, 0, 0) ∈ t := by
        rw [List.getD_eq_getElem?_getD, List.getElem?_eq_getElem hi']
        exact List.getElem_mem hi'
      simp only
      rw [if_neg (fun h => hn.1 (by rw [← h]; exact hm))]
      exact hF i hi'
/-! ### The arcs are unlike -/
theorem mid_mem {k : Skr} {n m i j : Nat} {x : Ar} (h : x ∈ midA k n m i j) : ∃ b, b < j ∧ k.may b = true ∧ x = arc3 k n m i b := by
  unfold midA at h
  obtain ⟨b, hb, hx⟩ := List.mem_flatMap.1 h
  split at hx
  · rename_i hm
    exact ⟨b, List.mem_range.1 hb, hm, by simpa using hx⟩
  · simp at hx
theorem kA_fr {k : Skr} {n m i : Nat} {x : Ar} (h : x ∈ kA k n m i) : x = arc1 i ∨ x.1 = 2 + (i : Int) := by
  unfold kA at h
  rcases List.mem_append.1 h with h | h
  · simp only [List.mem_cons, List.mem_nil_iff, or_false] at h
    rcases h with rfl | rfl
    · exact .inl rfl
    · exact .inr rfl
  · obtain ⟨b, _, _, rfl⟩ := mid_mem h
    exact .inr rfl
theorem nodup_flat {α : Type} {g : Nat → List α} {n : Nat} (h1 : ∀ i, i < n → (g i).Nodup) (h2 : ∀ i j, i < j → j < n → ∀ x ∈ g i, ∀ y ∈ g j, x ≠ y) : ((List.range n).flatMap g).Nodup := by
  induction n with
  | zero => simp
  | succ n ih =>
    rw [flat_succ, List.nodup_append]
    refine ⟨ih (fun i hi => h1 i (by omega)) (fun i j a b => h2 i j a (by omega)), h1 n (by omega), fun x hx y hy => ?_⟩
    obtain ⟨i, hi, hx⟩ := List.mem_flatMap.1 hx
    have := List.mem_range.1 hi
    exact h2 i n this (by omega) x hx y hy
theorem kA_nodup (k : Skr) (n m i : Nat) : (kA k n m i).Nodup := by
  unfold kA
  rw [List.nodup_append]
  refine ⟨?_, nodup_flat (fun b _ => by split <;> simp) (fun b c hbc _ x hx y hy => ?_), fun x hx y hy => ?_⟩
  · simp only [List.nodup_cons, List.mem_cons, List.mem_nil_iff, or_false, not_false_eq_true, List.nodup_nil, and_true]
    intro h
    have := congrArg (fun a : Ar => a.1) h
    simp only [arc1, arc2] at this
    omega
  · split at hx
    · split at hy
      · obtain rfl : x = arc3 k n m i b := by simpa using hx
        obtain rfl : y = arc3 k n m i c := by simpa using hy
        intro h
        have := congrArg (fun a : Ar => a.2.1) h
        simp only [arc3] at this
        omega
      · simp at hy
    · simp at hx
  · obtain ⟨b, _, _, rfl⟩ := mid_mem hy
    simp only [List.mem_cons, List.mem_nil_iff, or_false] at hx
    rcases hx with rfl | rfl
    · intro h
      have := congrArg (fun a : Ar => a.1) h
      simp only [arc1, arc3] at this
      omega
    · intro h
      have := congrArg (fun a : Ar => a.2.1) h
      simp only [arc2, arc3] at this
      split at this <;> omega
theorem arcs_nodup (K : Nat → Skr) (caps : Nat → Nat) (n m : Nat) : (arcsA K caps n m).Nodup := by
  unfold arcsA
  rw [List.nodup_append]
  refine ⟨nodup_flat (fun i _ => kA_nodup _ _ _ _) (fun i j hij _ x hx y hy => ?_), nodup_flat (fun b hb => ?_) (fun b c hbc hc x hx y hy => ?_), fun x hx y hy => ?_⟩
  · rcases kA_fr hx with rfl | hx <;> rcases kA_fr hy with rfl | hy
    · intro h
      have := congrArg (fun a : Ar => a.2.1) h
      simp only [arc1] at this
      omega
    · rintro rfl
      simp only [arc1] at hy
      omega
    · rintro rfl
      simp only [arc1] at hx
      omega
    · rintro rfl
      omega
  · simp only [bA, List.nodup_cons, List.mem_cons, List.mem_nil_iff, or_false, not_false_eq_true, List.nodup_nil, and_true]
    intro h
    have := congrArg (fun a : Ar => a.1) h
    simp only [arc4, arc5] at this
    omega
  · simp only [bA, List.mem_cons, List.mem_nil_iff, or_false] at hx hy
    intro h
    subst h
    rcases hx with rfl | rfl <;> rcases hy with h | h <;> (have := congrArg (fun a : Ar => a.1) h; simp only [arc4, arc5] at this; omega)
  · obtain ⟨i, hi, hx⟩ := List.mem_flatMap.1 hx
    have hi := List.mem_range.1 hi
    obtain ⟨b, hb, hy⟩ := List.mem_flatMap.1 hy
    have hyf : 2 + (n : Int) ≤ y.1 := by
      simp only [bA, List.mem_cons, List.mem_nil_iff, or_false] at hy
      rcases hy with rfl | rfl <;> (simp only [arc4, arc5]; omega)
    rintro rfl
    rcases kA_fr hx with rfl | hx
    · simp only [arc1] at hyf; omega
    · omega
/-! ### Seatings by blocks -/
/-- σ i < m: rider i sits in the block σ i; else it has no seat. -/
structure OkA (K : Nat → Skr) (caps : Nat → Nat) (n m : Nat) (σ : Nat → Nat) : Prop where
  may : ∀ i, i < n → σ i < m → (K i).may (σ i) = true
  room : ∀ b, b < m → (sm n fun i => if σ i = b then 1 else 0) ≤ (caps b : Int)
  inf : ∀ b, b < m → (sm n fun i => if σ i = b ∧ (K i).inf = true then 1 else 0) ≤ 1
def costA (K : Nat → Skr) (n m : Nat) (σ : Nat → Nat) : Int := sm n fun i => if σ i < m then (K i).toll (σ i) else (K i).price
/-- The least cost of a seating. -/
def MinIs (K : Nat → Skr) (caps : Nat → Nat) (n m : Nat) (c : Int) : Prop := (∃ σ, OkA K caps n m σ ∧ costA K n m σ = c) ∧ ∀ σ, OkA K caps n m σ → c ≤ costA K n m σ
theorem MinIs.uniq {K : Nat → Skr} {caps : Nat → Nat} {n m : Nat} {c d : Int} (h : MinIs K caps n m c) (h' : MinIs K caps n m d) : c = d := by
  obtain ⟨⟨σ, h1, rfl⟩, h2⟩ := h
  obtain ⟨⟨τ, h3, rfl⟩, h4⟩ := h'
  exact Int.le_antisymm (h2 τ h3) (h4 σ h1)
/-! ### Sums over this network -/
theorem sm_pick {n : Nat} (x : Nat) (hx : x < n) (g : Nat → Int) : sm n (fun i => if i = x then g i else 0) = g x := by
  rw [← sm_one x hx (g x)]
  exact sm_congr fun i _ => by by_cases h : i = x <;> simp [h]
theorem sm_pick0 {n : Nat} {g : Nat → Int} (h : ∀ i, i < n → g i = 0) : sm n g = 0 := by
  rw [sm_congr h]; exact sm_zero n
theorem sum_arcs (F : Ar → Int) (K : Nat → Skr) (caps : Nat → Nat) (n m : Nat) : sumL F (arcsA K caps n m) = (sm n fun i => F (arc1 i) + F (arc2 (K i) i) + sm m fun b => if (K i).may b = true then F (arc3 (K i) n m i b) else 0) + sm m fun b => F (arc4 caps n b) + F (arc5 n m b) := by
  unfold arcsA seekA blkA
  rw [sumL_append, sumL_flat, sumL_flat]
  congr 1
  · refine sm_congr fun i _ => ?_
    unfold kA midA
    rw [sumL_append, sumL_flat]
    rw [sumL_cons, sumL_cons, sumL_nil, Int.add_zero]
    congr 1
    exact sm_congr fun b _ => sumL_if _ _ _
  · refine sm_congr fun b _ => ?_
    unfold bA
    rw [sumL_cons, sumL_cons, sumL_nil, Int.add_zero]
/-- What comes into a node and goes out of it, arc by arc. -/
def io (F : Ar → Int) (v : Nat) (a : Ar) : Int := (if a.2.1.toNat = v then F a else 0) - (if a.1.toNat = v then F a else 0)
theorem ex_arcs {l : List Ar} {f : Nat → Int} {F : Ar → Int} (hF : ∀ i, i < l.length → F (l.getD i (0, 0, 0, 0)) = f i) (v : Nat) : ex (nwOf l) f v = sumL (io F v) l := by
  rw [← sm_list]
  unfold ex
  refine sm_congr fun i hi => ?_
  unfold io
  rw [hF i hi]
  rfl
theorem cost_arcs {l : List Ar} {f : Nat → Int} {F : Ar → Int} (hF : ∀ i, i < l.length → F (l.getD i (0, 0, 0, 0)) = f i) : costOf (nwOf l) f = sumL (fun a => F a * a.2.2.2) l := by
  rw [← sm_list]
  unfold costOf
  refine sm_congr fun i hi => ?_
  rw [hF i hi]
  rfl
section
variable (F : Ar → Int) (K : Nat → Skr) (caps : Nat → Nat) (n m : Nat)
/-- The source. -/
theorem io_source : sumL (io F 0) (arcsA K caps n m) = - sm n fun i => F (arc1 i) := by
  rw [sum_arcs, ← sm_neg]
  rw [sm_pick0 (n := m) (g := fun b => io F 0 (arc4 caps n b) + io F 0 (arc5 n m b)), Int.add_zero]
  · refine sm_congr fun i _ => ?_
    rw [sm_pick0 (n := m)]
    · have h1 : ¬ (2 + (i : Int)).toNat = 0 := by omega
      have h2 : (0 : Int).toNat = 0 := rfl
      simp only [io, arc1, arc2, h1, h2, if_false, if_true]
      have h3 : ¬ (1 : Int).toNat = 0 := by decide
      simp only [h3, if_false]
      omega
    · intro b _
      split
      · have h1 : ¬ (2 + (i : Int)).toNat = 0 := by omega
        have h2 : ¬ (2 + (n : Int) + b + (if (K i).inf = true then (m : Int) else 0)).toNat = 0 := by split <;> omega
        simp only [io, arc3, h1, h2, if_false]; rfl
      · rfl
  · intro b _
    have h1 : ¬ (2 + (n : Int) + b).toNat = 0 := by omega
    have h2 : ¬ (2 + (n : Int) + m + b).toNat = 0 := by omega
    have h3 : ¬ (1 : Int).toNat = 0 := by decide
    simp only [io, arc4, arc5, h1, h2, h3, if_false]; rfl
/-- A rider. -/
theorem io_rider {x : Nat} (hx : x < n) : sumL (io F (2 + x)) (arcsA K caps n m) = F (arc1 x) - F (arc2 (K x) x) - sm m fun b => if (K x).may b = true then F (arc3 (K x) n m x b) else 0 := by
  rw [sum_arcs]
  rw [sm_pick0 (n := m) (g := fun b => io F (2 + x) (arc4 caps n b) + io F (2 + x) (arc5 n m b)), Int.add_zero]
  · rw [← sm_pick x hx (fun x => F (arc1 x) - F (arc2 (K x) x) - sm m fun b => if (K x).may b = true then F (arc3 (K x) n m x b) else 0)]
    refine sm_congr fun i hi => ?_
    have h0 : ¬ (0 : Int).toNat = 2 + x := by simp; omega
    have h3 : ¬ (1 : Int).toNat = 2 + x := by simp; omega
    by_cases e : i = x
    · subst e
      rw [if_pos rfl]
      have h1 : (2 + (i : Int)).toNat = 2 + i := by omega
      simp only [io, arc1, arc2, h1, h0, h3, if_true, if_false]
      have : ∀ b, b < m → (if (K i).may b = true then ((if (arc3 (K i) n m i b).2.1.toNat = 2 + i then F (arc3 (K i) n m i b) else 0) - if (arc3 (K i) n m i b).1.toNat = 2 + i then F (arc3 (K i) n m i b) else 0) else 0) = - (if (K i).may b = true then F (arc3 (K i) n m i b) else 0) := by
        intro b _
        split
        · have h2 : ¬ (2 + (n : Int) + b + (if (K i).inf = true then (m : Int) else 0)).toNat = 2 + i := by split <;> omega
          simp only [arc3, h1, h2, if_true, if_false]
          omega
        · rfl
      rw [sm_congr this, sm_neg]
      omega
    · rw [if_neg e]
      have h1 : ¬ (2 + (i : Int)).toNat = 2 + x := by omega
      rw [sm_pick0 (n := m)]
      · simp only [io, arc1, arc2, h1, h0, h3, if_false]; rfl
      · intro b _
        split
        · have h2 : ¬ (2 + (n : Int) + b + (if (K i).inf = true then (m : Int) else 0)).toNat = 2 + x := by split <;> omega
          simp only [io, arc3, h1, h2, if_false]; rfl
        · rfl
  · intro b _
    have h1 : ¬ (2 + (n : Int) + b).toNat = 2 + x := by omega
    have h2 : ¬ (2 + (n : Int) + m + b).toNat = 2 + x := by omega
    have h3 : ¬ (1 : Int).toNat = 2 + x := by simp; omega
    simp only [io, arc4, arc5, h1, h2, h3, if_false]; rfl
/-- A block. -/
theorem io_block {x : Nat} (hx : x < m) : sumL (io F (2 + n + x)) (arcsA K caps n m) = (sm n fun i => if (K i).may x = true ∧ (K i).inf = false then F (arc3 (K i) n m i x) else 0) + F (arc5 n m x) - F (arc4 caps n x) := by
  rw [sum_arcs]
  have hB : (sm m fun b => io F (2 + n + x) (arc4 caps n b) + io F (2 + n + x) (arc5 n m b)) = F (arc5 n m x) - F (arc4 caps n x) := by
    rw [← sm_pick x hx (fun x => F (arc5 n m x) - F (arc4 caps n x))]
    refine sm_congr fun b hb => ?_
    have h3 : ¬ (1 : Int).toNat = 2 + n + x := by simp; omega
    have h2 : ¬ (2 + (n : Int) + m + b).toNat = 2 + n + x := by omega
    by_cases e : b = x
    · subst e
      have h1 : (2 + (n : Int) + b).toNat = 2 + n + b := by omega
      simp only [io, arc4, arc5, h1, h2, h3, if_false, if_true]
      omega
    · rw [if_neg e]
      have h1 : ¬ (2 + (n : Int) + b).toNat = 2 + n + x := by omega
      simp only [io, arc4, arc5, h1, h2, h3, if_false]; rfl
  rw [hB]
  have hA : (sm n fun i => io F (2 + n + x) (arc1 i) + io F (2 + n + x) (arc2 (K i) i) + sm m fun b => if (K i).may b = true then io F (2 + n + x) (arc3 (K i) n m i b) else 0) = sm n fun i => if (K i).may x = true ∧ (K i).inf = false then F (arc3 (K i) n m i x) else 0 := by
    refine sm_congr fun i hi => ?_
    have h0 : ¬ (0 : Int).toNat = 2 + n + x := by simp; omega
    have h1 : ¬ (2 + (i : Int)).toNat = 2 + n + x := by omega
    have h3 : ¬ (1 : Int).toNat = 2 + n + x := by simp; omega
    have : ∀ b, b < m → (if (K i).may b = true then io F (2 + n + x) (arc3 (K i) n m i b) else 0) = if b = x then (fun x => if (K i).may x = true ∧ (K i).inf = false then F (arc3 (K i) n m i x) else 0) b else 0 := by
      intro b hb
      by_cases hm : (K i).may b = true
      · rw [if_pos hm]
        cases hi : (K i).inf with
        | true =>
          have h2 : ¬ (2 + (n : Int) + b + (m : Int)).toNat = 2 + n + x := by omega
          simp only [io, arc3, hi, if_true, h1, h2, if_false, Bool.true_eq_false, and_false]
          split <;> rfl
        | false =>
          by_cases e : b = x
          · subst e
            have h2 : (2 + (n : Int) + b + 0).toNat = 2 + n + b := by omega
            simp only [io, arc3, hi, Bool.false_eq_true, if_false, h1, h2, if_true, hm, and_self]
            omega
          · have h2 : ¬ (2 + (n : Int) + b + 0).toNat = 2 + n + x := by omega
            simp only [io, arc3, hi, Bool.false_eq_true, if_false, h1, h2, e]; rfl
      · rw [if_neg hm]
        split
        · simp only [hm, false_and, if_false, Bool.false_eq_true]
        · rfl
    rw [sm_congr this, sm_pick x hx]
    simp only [io, arc1, arc2, h0, h1, h3, if_false]
    omega
  rw [hA]
  omega
/-- A block's infants. -/
theorem io_infant {x : Nat} (hx : x < m) : sumL (io F (2 + n + m + x)) (arcsA K caps n m) = (sm n fun i => if (K i).may x = true ∧ (K i).inf = true then F (arc3 (K i) n m i x) else 0) - F (arc5 n m x) := by
  rw [sum_arcs]
  have hB : (sm m fun b => io F (2 + n + m + x) (arc4 caps n b) + io F (2 + n + m + x) (arc5 n m b)) = - F (arc5 n m x) := by
    rw [← sm_pick x hx (fun x => - F (arc5 n m x))]
    refine sm_congr fun b hb => ?_
    have h3 : ¬ (1 : Int).toNat = 2 + n + m + x := by simp; omega
    have h1 : ¬ (2 + (n : Int) + b).toNat = 2 + n + m + x := by omega
    by_cases e : b = x
    · subst e
      have h2 : (2 + (n : Int) + m + b).toNat = 2 + n + m + b := by omega
      simp only [io, arc4, arc5, h1, h2, h3, if_false, if_true]
      omega
    · rw [if_neg e]
      have h2 : ¬ (2 + (n : Int) + m + b).toNat = 2 + n + m + x := by omega
      simp only [io, arc4, arc5, h1, h2, h3, if_false]; rfl
  rw [hB]
  have hA : (sm n fun i => io F (2 + n + m + x) (arc1 i) + io F (2 + n + m + x) (arc2 (K i) i) + sm m fun b => if (K i).may b = true then io F (2 + n + m + x) (arc3 (K i) n m i b) else 0) = sm n fun i => if (K i).may x = true ∧ (K i).inf = true then F (arc3 (K i) n m i x) else 0 := by
    refine sm_congr fun i hi => ?_
    have h0 : ¬ (0 : Int).toNat = 2 + n + m + x := by simp; omega
    have h1 : ¬ (2 + (i : Int)).toNat = 2 + n + m + x := by omega
    have h3 : ¬ (1 : Int).toNat = 2 + n + m + x := by simp; omega
    have : ∀ b, b < m → (if (K i).may b = true then io F (2 + n + m + x) (arc3 (K i) n m i b) else 0) = if b = x then (fun x => if (K i).may x = true ∧ (K i).inf = true then F (arc3 (K i) n m i x) else 0) b else 0 := by
      intro b hb
      by_cases hm : (K i).may b = true
      · rw [if_pos hm]
        cases hi : (K i).inf with
        | false =>
          have h2 : ¬ (2 + (n : Int) + b + 0).toNat = 2 + n + m + x := by omega
          simp only [io, arc3, hi, Bool.false_eq_true, h1, h2, if_false, and_false]
          split <;> rfl
        | true =>
          by_cases e : b = x
          · subst e
            have h2 : (2 + (n : Int) + b + (m : Int)).toNat = 2 + n + m + b := by omega
            simp only [io, arc3, hi, if_false, h1, h2, if_true, hm, and_self]
            omega
          · have h2 : ¬ (2 + (n : Int) + b + (m : Int)).toNat = 2 + n + m + x := by omega
            simp only [io, arc3, hi, if_true, if_false, h1, h2, e]; rfl
      · rw [if_neg hm]
        split
        · simp only [hm, false_and, if_false, Bool.false_eq_true]
        · rfl
    rw [sm_congr this, sm_pick x hx]
    simp only [io, arc1, arc2, h0, h1, h3, if_false]
    omega
  rw [hA]
  omega
end
end Go.Proofs.YtppjpledjhinbaaDoor
/- The cheapest flow is the cheapest seating. -/
namespace Go.Proofs.YtppjpledjhinbaaDoor
section
variable {K : Nat → Skr} {caps : Nat → Nat} {n m : Nat}
theorem mem_arc1 {i : Nat} (hi : i < n) : arc1 i ∈ arcsA K caps n m := by
  unfold arcsA seekA
  exact List.mem_append_left _ (List.mem_flatMap.2 ⟨i, List.mem_range.2 hi, by simp [kA]⟩)
theorem mem_arc2 {i : Nat} (hi : i < n) : arc2 (K i) i ∈ arcsA K caps n m := by
  unfold arcsA seekA
  exact List.mem_append_left _ (List.mem_flatMap.2 ⟨i, List.mem_range.2 hi, by simp [kA]⟩)
theorem mem_arc3 {i b : Nat} (hi : i < n) (hb : b < m) (hm : (K i).may b = true) : arc3 (K i) n m i b ∈ arcsA K caps n m := by
  unfold arcsA seekA
  refine List.mem_append_left _ (List.mem_flatMap.2 ⟨i, List.mem_range.2 hi, ?_⟩)
  unfold kA midA
  exact List.mem_append_right _ (List.mem_flatMap.2 ⟨b, List.mem_range.2 hb, by simp [hm]⟩)
theorem mem_arc4 {b : Nat} (hb : b < m) : arc4 caps n b ∈ arcsA K caps n m := by
  unfold arcsA blkA
  exact List.mem_append_right _ (List.mem_flatMap.2 ⟨b, List.mem_range.2 hb, by simp [bA]⟩)
theorem mem_arc5 {b : Nat} (hb : b < m) : arc5 n m b ∈ arcsA K caps n m := by
  unfold arcsA blkA
  exact List.mem_append_right _ (List.mem_flatMap.2 ⟨b, List.mem_range.2 hb, by simp [bA]⟩)
theorem arcs_cases {a : Ar} (h : a ∈ arcsA K caps n m) : (∃ i, i < n ∧ a = arc1 i) ∨ (∃ i, i < n ∧ a = arc2 (K i) i) ∨ (∃ i b, i < n ∧ b < m ∧ (K i).may b = true ∧ a = arc3 (K i) n m i b) ∨ (∃ b, b < m ∧ a = arc4 caps n b) ∨ ∃ b, b < m ∧ a = arc5 n m b := by
  unfold arcsA at h
  rcases List.mem_append.1 h with h | h
  · obtain ⟨i, hi, h⟩ := List.mem_flatMap.1 h
    have hi := List.mem_range.1 hi
    unfold kA at h
    rcases List.mem_append.1 h with h | h
    · simp only [List.mem_cons, List.mem_nil_iff, or_false] at h
      rcases h with rfl | rfl
      · exact .inl ⟨i, hi, rfl⟩
      · exact .inr (.inl ⟨i, hi, rfl⟩)
    · obtain ⟨b, hb, hm, rfl⟩ := mid_mem h
      exact .inr (.inr (.inl ⟨i, b, hi, hb, hm, rfl⟩))
  · obtain ⟨b, hb, h⟩ := List.mem_flatMap.1 h
    have hb := List.mem_range.1 hb
    simp only [bA, List.mem_cons, List.mem_nil_iff, or_false] at h
    rcases h with rfl | rfl
    · exact .inr (.inr (.inr (.inl ⟨b, hb, rfl⟩)))
    · exact .inr (.inr (.inr (.inr ⟨b, hb, rfl⟩)))
theorem getD_mem {l : List Ar} {i : Nat} (hi : i < l.length) : l.getD i (0, 0, 0, 0) ∈ l := by
  rw [List.getD_eq_getElem?_getD, List.getElem?_eq_getElem hi]
  exact List.getElem_mem hi
theorem arcs_in (K : Nat → Skr) (caps : Nat → Nat) (n m : Nat) : InN (nwOf (arcsA K caps n m)) (2 + n + 2 * m) := by
  intro i hi
  have h := getD_mem (l := arcsA K caps n m) hi
  show ((arcsA K caps n m).getD i (0, 0, 0, 0)).1.toNat < _ ∧ ((arcsA K caps n m).getD i (0, 0, 0, 0)).2.1.toNat < _
  rcases arcs_cases h with ⟨x, hx, e⟩ | ⟨x, hx, e⟩ | ⟨x, b, hx, hb, hm, e⟩ | ⟨b, hb, e⟩ | ⟨b, hb, e⟩ <;> rw [e]
  · simp only [arc1]; omega
  · simp only [arc2]; omega
  · simp only [arc3]; split <;> omega
  · simp only [arc4]; omega
  · simp only [arc5]; omega
/-! ### A seating as a flow -/
def cntB (n : Nat) (σ : Nat → Nat) (b : Nat) : Int := sm n fun i => if σ i = b then 1 else 0
def cntI (K : Nat → Skr) (n : Nat) (σ : Nat → Nat) (b : Nat) : Int := sm n fun i => if σ i = b ∧ (K i).inf = true then 1 else 0
def flowF (K : Nat → Skr) (n m : Nat) (σ : Nat → Nat) (a : Ar) : Int :=
  if a.1 = 0 then 1
  else if a.1.toNat < 2 + n then
    if a.2.1 = 1 then (if σ (a.1.toNat - 2) < m then 0 else 1) else if a = arc3 (K (a.1.toNat - 2)) n m (a.1.toNat - 2) (σ (a.1.toNat - 2)) then 1 else 0
  else if a.2.1 = 1 then cntB n σ (a.1.toNat - 2 - n) else cntI K n σ (a.2.1.toNat - 2 - n)
theorem fF1 (σ : Nat → Nat) (i : Nat) : flowF K n m σ (arc1 i) = 1 := by unfold flowF arc1; rfl
theorem fF2 (σ : Nat → Nat) {i : Nat} (hi : i < n) : flowF K n m σ (arc2 (K i) i) = if σ i < m then 0 else 1 := by
  unfold flowF arc2
  have h1 : ¬ (2 + (i : Int)) = 0 := by omega
  have h2 : (2 + (i : Int)).toNat = 2 + i := by omega
  simp only [h1, if_false, h2, Nat.add_sub_cancel_left, if_true]
  rw [if_pos (by omega)]
theorem fF3 (σ : Nat → Nat) {i b : Nat} (hi : i < n) : flowF K n m σ (arc3 (K i) n m i b) = if b = σ i then 1 else 0 := by
  unfold flowF
  have h1 : ¬ (arc3 (K i) n m i b).1 = 0 := by simp only [arc3]; omega
  have h2 : (arc3 (K i) n m i b).1.toNat = 2 + i := by simp only [arc3]; omega
  have h3 : ¬ (arc3 (K i) n m i b).2.1 = 1 := by simp only [arc3]; split <;> omega
  rw [if_neg h1, h2, if_pos (by omega), if_neg h3, Nat.add_sub_cancel_left]
  by_cases e : b = σ i
  · rw [if_pos (by rw [e]), if_pos e]
  · rw [if_neg, if_neg e]
    intro h
    have := congrArg (fun a : Ar => a.2.1) h
    simp only [arc3] at this
    exact e (by omega)
theorem fF4 (σ : Nat → Nat) (b : Nat) : flowF K n m σ (arc4 caps n b) = cntB n σ b := by
  unfold flowF arc4
  have h1 : ¬ (2 + (n : Int) + b) = 0 := by omega
  have h2 : (2 + (n : Int) + b).toNat = 2 + n + b := by omega
  simp only [h1, if_false, h2, if_true]
  rw [if_neg (by omega), show 2 + n + b - 2 - n = b by omega]
theorem fF5 (σ : Nat → Nat) (b : Nat) : flowF K n m σ (arc5 n m b) = cntI K n σ b := by
  unfold flowF arc5
  have h1 : ¬ (2 + (n : Int) + m + b) = 0 := by omega
  have h2 : (2 + (n : Int) + m + b).toNat = 2 + n + m + b := by omega
  have h3 : ¬ (2 + (n : Int) + b) = 1 := by omega
  have h4 : (2 + (n : Int) + b).toNat = 2 + n + b := by omega
  simp only [h1, if_false, h2, h3, h4]
  rw [if_neg (by omega), show 2 + n + b - 2 - n = b by omega]
theorem cnt_split (σ : Nat → Nat) (b : Nat) : cntB n σ b = (sm n fun i => if σ i = b ∧ (K i).inf = false then 1 else 0) + cntI K n σ b := by
  unfold cntB cntI
  rw [← sm_add]
  refine sm_congr fun i _ => ?_
  cases (K i).inf <;> by_cases h : σ i = b <;> simp [h]
theorem cnt_nonneg (σ : Nat → Nat) (b : Nat) : 0 ≤ cntB n σ b ∧ 0 ≤ cntI K n σ b :=
  ⟨sm_nonneg fun i _ => by split <;> omega, sm_nonneg fun i _ => by split <;> omega⟩
/-- The flow of a seating. -/
theorem flow_of {σ : Nat → Nat} (h : OkA K caps n m σ) : ∃ f, IsFlow (nwOf (arcsA K caps n m)) (2 + n + 2 * m) 0 1 f ∧ - ex (nwOf (arcsA K caps n m)) f 0 = (n : Int) ∧ costOf (nwOf (arcsA K caps n m)) f = costA K n m σ := by
  obtain ⟨f, hf⟩ : ∃ f : Nat → Int, f = fun i => flowF K n m σ ((arcsA K caps n m).getD i (0, 0, 0, 0)) := ⟨_, rfl⟩
  have hF : ∀ i, i < (arcsA K caps n m).length → flowF K n m σ ((arcsA K caps n m).getD i (0, 0, 0, 0)) = f i := fun i _ => by rw [hf]
  have hb : ∀ a ∈ arcsA K caps n m, 0 ≤ flowF K n m σ a ∧ flowF K n m σ a ≤ a.2.2.1 := by
    intro a ha
    rcases arcs_cases ha with ⟨x, hx, rfl⟩ | ⟨x, hx, rfl⟩ | ⟨x, b, hx, hb, hm, rfl⟩ | ⟨b, hb, rfl⟩ | ⟨b, hb, rfl⟩
    · rw [fF1]; simp [arc1]
    · rw [fF2 σ hx]; simp only [arc2]; split <;> omega
    · rw [fF3 σ hx]; simp only [arc3]; split <;> omega
    · rw [fF4]; exact ⟨(cnt_nonneg (K := K) σ b).1, h.room b hb⟩
    · rw [fF5]; exact ⟨(cnt_nonneg σ b).2, h.inf b hb⟩
  refine ⟨f, ⟨fun i hi => ?_, fun i hi => ?_, fun v hv h0 h1 => ?_⟩, ?_, ?_⟩
  · rw [← hF i hi]; exact (hb _ (getD_mem hi)).1
  · rw [← hF i hi]; exact (hb _ (getD_mem hi)).2
  · rw [ex_arcs hF]
    by_cases hr : v < 2 + n
    · obtain ⟨x, rfl⟩ : ∃ x, v = 2 + x := ⟨v - 2, by omega⟩
      have hx : x < n := by omega
      rw [io_rider _ _ _ _ _ hx, fF1, fF2 σ hx]
      by_cases hs : σ x < m
      · rw [if_pos hs]
        have : (sm m fun b => if (K x).may b = true then flowF K n m σ (arc3 (K x) n m x b) else 0) = 1 := by
          rw [← sm_pick (σ x) hs (fun _ => 1)]
          refine sm_congr fun b _ => ?_
          rw [fF3 σ hx]
          by_cases e : b = σ x
          · rw [if_pos e, e, if_pos (h.may x hx hs)]
          · rw [if_neg e]; split <;> rfl
        rw [this]; rfl
      · rw [if_neg hs, sm_pick0]
        · rfl
        · intro b hb
          rw [fF3 σ hx, if_neg (show ¬ b = σ x by omega)]
          split <;> rfl
    · by_cases hr2 : v < 2 + n + m
      · obtain ⟨x, rfl⟩ : ∃ x, v = 2 + n + x := ⟨v - 2 - n, by omega⟩
        have hx : x < m := by omega
        rw [io_block _ _ _ _ _ hx, fF4, fF5]
        have : (sm n fun i => if (K i).may x = true ∧ (K i).inf = false then flowF K n m σ (arc3 (K i) n m i x) else 0) = sm n fun i => if σ i = x ∧ (K i).inf = false then 1 else 0 := by
          refine sm_congr fun i hi => ?_
          rw [fF3 σ hi]
          by_cases e : σ i = x
          · rw [if_pos e.symm]
            have := h.may i hi (by omega)
            rw [e] at this
            simp [this, e]
          · have e2 : ¬ x = σ i := fun h => e h.symm
            rw [if_neg e2]
            simp [e]
        rw [this]
        have := cnt_split (K := K) (n := n) σ x
        omega
      · obtain ⟨x, rfl⟩ : ∃ x, v = 2 + n + m + x := ⟨v - 2 - n - m, by omega⟩
        have hx : x < m := by omega
        rw [io_infant _ _ _ _ _ hx, fF5]
        have : (sm n fun i => if (K i).may x = true ∧ (K i).inf = true then flowF K n m σ (arc3 (K i) n m i x) else 0) = cntI K n σ x := by
          refine sm_congr fun i hi => ?_
          rw [fF3 σ hi]
          by_cases e : σ i = x
          · rw [if_pos e.symm]
            have := h.may i hi (by omega)
            rw [e] at this
            simp [this, e]
          · have e2 : ¬ x = σ i := fun h => e h.symm
            rw [if_neg e2]
            simp [e]
        rw [this]
        omega
  · rw [ex_arcs hF, io_source]
    have : (sm n fun i => flowF K n m σ (arc1 i)) = n := by
      rw [sm_congr (h := fun _ => 1) fun i _ => fF1 σ i]
      clear hF hb h hf f
      induction n with
      | zero => rfl
      | succ n ih => rw [sm, ih]; omega
    omega
  · rw [cost_arcs hF, sum_arcs]
    rw [sm_pick0 (n := m) (g := fun b => flowF K n m σ (arc4 caps n b) * (arc4 caps n b).2.2.2 + flowF K n m σ (arc5 n m b) * (arc5 n m b).2.2.2) (fun b _ => by simp [arc4, arc5]), Int.add_zero]
    refine sm_congr fun i hi => ?_
    rw [fF1, fF2 σ hi]
    simp only [arc1, arc2, Int.mul_zero, Int.zero_add]
    by_cases hs : σ i < m
    · rw [if_pos hs, if_pos hs, Int.zero_mul, Int.zero_add, ← sm_pick (σ i) hs (fun b => (K i).toll b)]
      refine sm_congr fun b hb => ?_
      rw [fF3 σ hi]
      by_cases e : b = σ i
      · rw [if_pos e, if_pos e, e, if_pos (h.may i hi hs)]
        simp [arc3]
      · rw [if_neg e, if_neg e]
        split <;> simp
    · rw [if_neg hs, if_neg hs, Int.one_mul, sm_pick0, Int.add_zero]
      intro b hb
      rw [fF3 σ hi, if_neg (show ¬ b = σ i by omega)]
      split <;> simp
/-! ### A flow as a seating -/
theorem sm_full {n : Nat} {g : Nat → Int} (h1 : ∀ i, i < n → g i ≤ 1) (h : sm n g = n) : ∀ i, i < n → g i = 1 := by
  induction n with
  | zero => intro i hi; omega
  | succ n ih =>
    rw [sm] at h
    have hb := sm_bound (n := n) (g := g) (c := 1) (fun i hi => h1 i (by omega))
    have := h1 n (by omega)
    intro i hi
    by_cases e : i = n
    · subst e; omega
    · exact ih (fun i hi => h1 i (by omega)) (by omega) i (by omega)
theorem sm_null {n : Nat} {g : Nat → Int} (h0 : ∀ i, i < n → 0 ≤ g i) (h : sm n g = 0) : ∀ i, i < n → g i = 0 := by
  induction n with
  | zero => intro i hi; omega
  | succ n ih =>
    rw [sm] at h
    have hb := sm_nonneg (n := n) (g := g) (fun i hi => h0 i (by omega))
    have := h0 n (by omega)
    intro i hi
    by_cases e : i = n
    · subst e; omega
    · exact ih (fun i hi => h0 i (by omega)) (by omega) i (by omega)
theorem sm_single {n : Nat} {g : Nat → Int} (h0 : ∀ i, i < n → 0 ≤ g i) (h : sm n g = 1) : ∃ b, b < n ∧ g b = 1 ∧ ∀ c, c < n → c ≠ b → g c = 0 := by
  induction n with
  | zero => simp [sm] at h
  | succ n ih =>
    rw [sm] at h
    have hb := sm_nonneg (n := n) (g := g) (fun i hi => h0 i (by omega))
    have hn := h0 n (by omega)
    by_cases e : g n = 0
    · obtain ⟨b, hb, h1, h2⟩ := ih (fun i hi => h0 i (by omega)) (by omega)
      refine ⟨b, by omega, h1, fun c hc hne => ?_⟩
      by_cases e2 : c = n
      · rw [e2]; exact e
      · exact h2 c (by omega) hne
    · have hz := sm_null (n := n) (g := g) (fun i hi => h0 i (by omega)) (by omega)
      exact ⟨n, by omega, by omega, fun c hc hne => hz c (by omega)⟩
theorem seat_of {f : Nat → Int} (hf : IsFlow (nwOf (arcsA K caps n m)) (2 + n + 2 * m) 0 1 f) (hv : - ex (nwOf (arcsA K caps n m)) f 0 = (n : Int)) : ∃ σ, OkA K caps n m σ ∧ costA K n m σ = costOf (nwOf (arcsA K caps n m)) f := by
  obtain ⟨F, hF⟩ := by_arc (arcs_nodup K caps n m) f
  have hb : ∀ a ∈ arcsA K caps n m, 0 ≤ F a ∧ F a ≤ a.2.2.1 := by
    intro a ha
    obtain ⟨i, hi, rfl⟩ := List.getElem_of_mem ha
    have e : (arcsA K caps n m).getD i (0, 0, 0, 0) = (arcsA K caps n m)[i] := by rw [List.getD_eq_getElem?_getD, List.getElem?_eq_getElem hi]; rfl
    have h1 := hf.lo i hi
    have h2 := hf.hi i hi
    rw [← hF i hi, e] at h1 h2
    exact ⟨h1, by rw [← e] at h2 ⊢; exact h2⟩
  rw [ex_arcs hF, io_source] at hv
  have h1 : ∀ i, i < n → F (arc1 i) = 1 := sm_full (fun i hi => (hb _ (mem_arc1 (K := K) (caps := caps) (m := m) hi)).2) (by omega)
  have hnn : ∀ i, i < n → ∀ b, b < m → 0 ≤ if (K i).may b = true then F (arc3 (K i) n m i b) else 0 := by
    intro i hi b hbm
    split
    · rename_i hm
      exact (hb _ (mem_arc3 (caps := caps) hi hbm hm)).1
    · omega
  have hr : ∀ i, i < n → F (arc2 (K i) i) + (sm m fun b => if (K i).may b = true then F (arc3 (K i) n m i b) else 0) = 1 := by
    intro i hi
    have := hf.even (2 + i) (by omega) (by omega) (by omega)
    rw [ex_arcs hF, io_rider _ _ _ _ _ hi, h1 i hi] at this
    omega
  have key : ∀ i, ∃ s, i < n → ((s < m → (K i).may s = true) ∧ (∀ b, b < m → (if (K i).may b = true then F (arc3 (K i) n m i b) else 0) = if s = b then 1 else 0) ∧ F (arc2 (K i) i) = if s < m then 0 else 1) := by
    intro i
    by_cases hi : i < n
    · have h2 := hb _ (mem_arc2 (K := K) (caps := caps) (m := m) hi)
      have hs := hr i hi
      have hs0 := sm_nonneg (hnn i hi)
      by_cases e : F (arc2 (K i) i) = 0
      · obtain ⟨s, hsm, e1, e2⟩ := sm_single (hnn i hi) (by omega)
        refine ⟨s, fun _ => ⟨fun _ => ?_, fun b hb => ?_, by rw [if_pos hsm]; exact e⟩⟩
        · cases hm : (K i).may s with
          | true => rfl
          | false => rw [hm] at e1; simp at e1
        · by_cases eb : s = b
          · rw [if_pos eb, ← eb]; exact e1
          · rw [if_neg eb]; exact e2 b hb (fun h => eb h.symm)
      · refine ⟨m, fun _ => ⟨fun h => absurd h (Nat.lt_irrefl _), fun b hb => ?_, ?_⟩⟩
        · have hz := sm_null (hnn i hi) (by have : F (arc2 (K i) i) ≤ 1 := h2.2; omega) b hb
          rw [hz, if_neg (by omega)]
        · rw [if_neg (Nat.lt_irrefl _)]
          have : F (arc2 (K i) i) ≤ 1 := h2.2
          omega
    · exact ⟨0, fun h => absurd h hi⟩
  obtain ⟨σ, hσ⟩ := Classical.axiomOfChoice key
  have hinf : ∀ b, b < m → cntI K n σ b = F (arc5 n m b) := by
    intro b hbm
    have := hf.even (2 + n + m + b) (by omega) (by omega) (by omega)
    rw [ex_arcs hF, io_infant _ _ _ _ _ hbm] at this
    have e : cntI K n σ b = sm n fun i => if (K i).may b = true ∧ (K i).inf = true then F (arc3 (K i) n m i b) else 0 := by
      refine sm_congr fun i hi => ?_
      have := (hσ i hi).2.1 b hbm
      cases hin : (K i).inf with
      | true => simp only [and_true]; exact this.symm
      | false => simp
    omega
  have hcnt : ∀ b, b < m → cntB n σ b = F (arc4 caps n b) := by
    intro b hbm
    have := hf.even (2 + n + b) (by omega) (by omega) (by omega)
    rw [ex_arcs hF, io_block _ _ _ _ _ hbm] at this
    have e : (sm n fun i => if σ i = b ∧ (K i).inf = false then 1 else 0) = sm n fun i => if (K i).may b = true ∧ (K i).inf = false then F (arc3 (K i) n m i b) else 0 := by
      refine sm_congr fun i hi => ?_
      have := (hσ i hi).2.1 b hbm
      cases hin : (K i).inf with
      | false => simp only [and_true]; exact this.symm
      | true => simp
    have h2 := cnt_split (K := K) (n := n) σ b
    have h3 := hinf b hbm
    omega
  refine ⟨σ, ⟨fun i hi hs => (hσ i hi).1 hs, fun b hbm => ?_, fun b hbm => ?_⟩, ?_⟩
  · have h2 := (hb _ (mem_arc4 (K := K) (caps := caps) (n := n) hbm)).2
    have h3 : cntB n σ b = _ := hcnt b hbm
    unfold cntB at h3
    rw [h3]; exact h2
  · have h2 := (hb _ (mem_arc5 (K := K) (caps := caps) (n := n) hbm)).2
    have h3 : cntI K n σ b = _ := hinf b hbm
    unfold cntI at h3
    rw [h3]; exact h2
  · rw [cost_arcs hF, sum_arcs]
    rw [sm_pick0 (n := m) (g := fun b => F (arc4 caps n b) * (arc4 caps n b).2.2.2 + F (arc5 n m b) * (arc5 n m b).2.2.2) (fun b _ => by simp [arc4, arc5]), Int.add_zero]
    refine sm_congr fun i hi => ?_
    obtain ⟨k1, k2, k3⟩ := hσ i hi
    rw [k3]
    simp only [arc1, arc2, Int.mul_zero, Int.zero_add]
    have e : (sm m fun b => if (K i).may b = true then F (arc3 (K i) n m i b) * (arc3 (K i) n m i b).2.2.2 else 0) = sm m fun b => if b = σ i then (K i).toll b else 0 := by
      refine sm_congr fun b hbm => ?_
      have := k2 b hbm
      by_cases eb : σ i = b
      · rw [if_pos eb] at this
        rw [if_pos eb.symm]
        split at this
        · rename_i hm
          rw [if_pos hm, this]; simp [arc3]
        · exact absurd this (by decide)
      · rw [if_neg eb] at this
        have e2 : ¬ b = σ i := fun h => eb h.symm
        rw [if_neg e2]
        split at this
        · rename_i hm
          rw [if_pos hm, this]; simp
        · rename_i hm
          rw [if_neg hm]
    rw [e]
    by_cases hs : σ i < m
    · rw [if_pos hs, if_pos hs, Int.zero_mul, Int.zero_add, sm_pick (σ i) hs]
    · rw [if_neg hs, if_neg hs, Int.one_mul, sm_pick0 (fun b hb => if_neg (by omega)), Int.add_zero]
/-! ### Together -/
theorem none_ok (K : Nat → Skr) (caps : Nat → Nat) (n m : Nat) : OkA K caps n m fun _ => m := by
  refine ⟨fun i _ h => absurd h (Nat.lt_irrefl _), fun b hb => ?_, fun b hb => ?_⟩
  · rw [sm_pick0 (fun i _ => if_neg (by omega))]; omega
  · rw [sm_pick0 (fun i _ => if_neg (fun h => by omega))]; omega
theorem max_all (K : Nat → Skr) (caps : Nat → Nat) (n m : Nat) : MaxIs (nwOf (arcsA K caps n m)) (2 + n + 2 * m) 0 1 n := by
  obtain ⟨f, h1, h2, _⟩ := flow_of (none_ok K caps n m)
  refine ⟨⟨f, h1, h2⟩, fun v => decide (v = 0), by simp, by simp, ?_⟩
  have e : cutCap (nwOf (arcsA K caps n m)) (fun v => decide (v = 0)) = sumL (fun a => if decide (a.1.toNat = 0) = true ∧ decide (a.2.1.toNat = 0) = false then a.2.2.1 else 0) (arcsA K caps n m) := by
    rw [← sm_list]; rfl
  rw [e, sum_arcs]
  rw [sm_pick0 (n := m) (g := fun b => (if decide ((arc4 caps n b).1.toNat = 0) = true ∧ decide ((arc4 caps n b).2.1.toNat = 0) = false then (arc4 caps n b).2.2.1 else 0) + if decide ((arc5 n m b).1.toNat = 0) = true ∧ decide ((arc5 n m b).2.1.toNat = 0) = false then (arc5 n m b).2.2.1 else 0), Int.add_zero]
  · rw [sm_congr (h := fun _ => 1)]
    · have : (sm n fun _ => (1 : Int)) ≤ n * 1 := sm_bound (fun _ _ => Int.le_refl _)
      omega
    · intro i _
      have h1 : ¬ (2 + (i : Int)).toNat = 0 := by omega
      rw [sm_pick0]
      · simp [arc1, arc2, h1]
      · intro b _
        split
        · simp [arc3, h1]
        · rfl
  · intro b _
    have h1 : ¬ (2 + (n : Int) + b).toNat = 0 := by omega
    have h2 : ¬ (2 + (n : Int) + m + b).toNat = 0 := by omega
    simp [arc4, arc5, h1, h2]
/-- What the cheapest flow costs, the cheapest seating costs. -/
theorem cheap_min {v c : Int} (h : CheapIs (nwOf (arcsA K caps n m)) (2 + n + 2 * m) 0 1 v c) : MinIs K caps n m c := by
  have hN := arcs_in K caps n m
  have hv := h.1.uniq hN (by omega) (by omega) (by omega) (max_all K caps n m)
  subst hv
  obtain ⟨_, f, π, hf, e, rfl, hp⟩ := h
  refine ⟨?_, fun σ hσ => ?_⟩
  · obtain ⟨σ, h1, h2⟩ := seat_of hf e
    exact ⟨σ, h1, h2⟩
  · obtain ⟨g, hg, eg, hc⟩ := flow_of hσ
    rw [← hc]
    exact feas_least hN hf hg (by omega) (by omega) (by omega) (by omega) hp
end
end Go.Proofs.YtppjpledjhinbaaDoor
/- Seatings, in plain words: what is decided of the riders, one by one. -/
namespace Go.Proofs.YtppjpledjhinbaaDoor
section
variable {P K : Nat → Skr} {caps : Nat → Nat} {n m : Nat} {best c : Int}
def seatedN (n m : Nat) (σ : Nat → Nat) : Int := sm n fun i => if σ i < m then 1 else 0
def keptN (P : Nat → Skr) (n m : Nat) (σ : Nat → Nat) : Int := sm n fun i => if σ i < m ∧ (σ i : Int) = (P i).own then 1 else 0
/-- Nothing was decided. -/
def Open0 (P : Nat → Skr) (n : Nat) : Prop := ∀ i, i < n → (P i).must = false ∧ (P i).no = false ∧ (P i).blk < 0
theorem sm_const (n : Nat) (c : Int) : (sm n fun _ => c) = n * c := by
  induction n with
  | zero => simp [sm]
  | succ n ih => rw [sm, ih, Int.natCast_succ, Int.add_mul, Int.one_mul]
theorem cost_split (h0 : Open0 P n) (σ : Nat → Nat) : costA P n m σ = 100 * ((n : Int) - seatedN n m σ) + (seatedN n m σ - keptN P n m σ) := by
  have e : ∀ i, i < n → (if σ i < m then (P i).toll (σ i) else (P i).price) = (100 * (1 - if σ i < m then 1 else 0)) + ((if σ i < m then 1 else 0) - if σ i < m ∧ (σ i : Int) = (P i).own then 1 else 0) := by
    intro i hi
    obtain ⟨h1, _⟩ := h0 i hi
    by_cases h : σ i < m
    · rw [if_pos h]
      unfold Skr.toll
      by_cases h2 : (σ i : Int) = (P i).own <;> simp [h, h2]
    · rw [if_neg h]
      unfold Skr.price
      simp [h, h1]
  unfold costA seatedN keptN
  rw [sm_congr e, sm_add, sm_mul, sm_sub, sm_sub, sm_const, Int.mul_one]
theorem seated_le (σ : Nat → Nat) : 0 ≤ seatedN n m σ ∧ seatedN n m σ ≤ n := by
  refine ⟨sm_nonneg fun i _ => by split <;> omega, ?_⟩
  have := sm_bound (n := n) (g := fun i => if σ i < m then (1 : Int) else 0) (c := 1) (fun i _ => by split <;> omega)
  unfold seatedN; omega
theorem kept_le (σ : Nat → Nat) : 0 ≤ keptN P n m σ ∧ keptN P n m σ ≤ seatedN n m σ := by
  refine ⟨sm_nonneg fun i _ => by split <;> omega, sm_le fun i _ => ?_⟩
  by_cases h : σ i < m
  · rw [if_pos h]; split <;> omega
  · rw [if_neg h, if_neg (fun h' => h h'.1)]; omega
/-- A seating of the least cost. -/
def GoodS (P : Nat → Skr) (caps : Nat → Nat) (n m : Nat) (best : Int) (σ : Nat → Nat) : Prop := OkA P caps n m σ ∧ costA P n m σ = best
/-- The same riders, of whom more was decided. -/
structure Tight (P K : Nat → Skr) (n : Nat) : Prop where
  inf : ∀ i, i < n → (K i).inf = (P i).inf
  own : ∀ i, i < n → (K i).own = (P i).own
  may : ∀ i, i < n → ∀ b, (K i).may b = true → (P i).may b = true
  price : ∀ i, i < n → (P i).price ≤ (K i).price
theorem Tight.ok (h : Tight P K n) {σ : Nat → Nat} (ho : OkA K caps n m σ) : OkA P caps n m σ := by
  refine ⟨fun i hi hs => h.may i hi _ (ho.may i hi hs), ho.room, fun b hb => ?_⟩
  have e : (sm n fun i => if σ i = b ∧ (P i).inf = true then (1 : Int) else 0) = sm n fun i => if σ i = b ∧ (K i).inf = true then 1 else 0 := sm_congr fun i hi => by rw [h.inf i hi]
  rw [e]
  exact ho.inf b hb
theorem Tight.cost (h : Tight P K n) (σ : Nat → Nat) : costA P n m σ ≤ costA K n m σ := by
  refine sm_le fun i hi => ?_
  split
  · unfold Skr.toll; rw [h.own i hi]; exact Int.le_refl _
  · exact h.price i hi
/-- The least cost stays if a good seating fits what was decided. -/
theorem Tight.min (h : Tight P K n) (hP : MinIs P caps n m best) (hK : MinIs K caps n m c) :
    c = best ↔ ∃ σ, GoodS P caps n m best σ ∧ (∀ i, i < n → σ i < m → (K i).may (σ i) = true) ∧ ∀ i, i < n → ¬ σ i < m → (K i).price = (P i).price := by
  constructor
  · rintro rfl
    obtain ⟨⟨σ, h1, h2⟩, _⟩ := hK
    have hok := h.ok h1
    have hle := hP.2 σ hok
    have hle2 := h.cost (m := m) σ
    have heq : costA P n m σ = costA K n m σ := by omega
    refine ⟨σ, ⟨hok, by omega⟩, fun i hi hs => h1.may i hi hs, fun i hi hs => ?_⟩
    have hz : (sm n fun i => (if σ i < m then (K i).toll (σ i) else (K i).price) - if σ i < m then (P i).toll (σ i) else (P i).price) = 0 := by
      rw [sm_sub]; unfold costA at heq; omega
    have := sm_null (fun i hi => by
      split
      · unfold Skr.toll; rw [h.own i hi]; omega
      · have := h.price i hi; omega) hz i hi
    rw [if_neg hs, if_neg hs] at this
    omega
  · rintro ⟨σ, ⟨h1, h2⟩, h3, h4⟩
    have hK' : OkA K caps n m σ := by
      refine ⟨h3, h1.room, fun b hb => ?_⟩
      have e : (sm n fun i => if σ i = b ∧ (K i).inf = true then (1 : Int) else 0) = sm n fun i => if σ i = b ∧ (P i).inf = true then 1 else 0 := sm_congr fun i hi => by rw [h.inf i hi]
      rw [e]
      exact h1.inf b hb
    have hc : costA K n m σ = best := by
      rw [← h2]
      refine sm_congr fun i hi => ?_
      split
      · unfold Skr.toll; rw [h.own i hi]
      · rename_i hs; exact h4 i hi hs
    have h5 := hK.2 σ hK'
    obtain ⟨⟨τ, t1, t2⟩, _⟩ := hK
    have h6 := hP.2 τ (h.ok t1)
    have h7 := h.cost (m := m) τ
    omega
/-! ### Who is taken -/
def mustK (P : Nat → Skr) (f : Nat → Bool) (i : Nat) : Skr := { P i with must := f i }
theorem must_tight (h0 : Open0 P n) (f : Nat → Bool) : Tight P (mustK P f) n :=
  ⟨fun _ _ => rfl, fun _ _ => rfl, fun _ _ _ h => h, fun i hi => by
    obtain ⟨h1, _⟩ := h0 i hi
    unfold Skr.price mustK
    rw [h1]
    simp only [Bool.false_eq_true, if_false]
    split <;> omega⟩
theorem must_min (h0 : Open0 P n) (hP : MinIs P caps n m best) {f : Nat → Bool} (hK : MinIs (mustK P f) caps n m c) :
    c = best ↔ ∃ σ, GoodS P caps n m best σ ∧ ∀ i, i < n → f i = true → σ i < m := by
  rw [(must_tight h0 f).min hP hK]
  constructor
  · rintro ⟨σ, h1, _, h3⟩
    refine ⟨σ, h1, fun i hi hf => Classical.byContradiction fun hs => ?_⟩
    have := h3 i hi hs
    obtain ⟨h4, _⟩ := h0 i hi
    unfold Skr.price mustK at this
    simp only [hf, h4, if_true, Bool.false_eq_true, if_false] at this
    omega
  · rintro ⟨σ, h1, h2⟩
    refine ⟨σ, h1, fun i hi hs => h1.1.may i hi hs, fun i hi hs => ?_⟩
    have hf : f i = false := by
      cases hf : f i with
      | false => rfl
      | true => exact absurd (h2 i hi hf) hs
    obtain ⟨h4, _⟩ := h0 i hi
    unfold Skr.price mustK
    rw [hf, h4]
/-- Some good seating seats all of these. -/
def Seats (P : Nat → Skr) (caps : Nat → Nat) (n m : Nat) (best : Int) (f : Nat → Bool) : Prop := ∃ σ, GoodS P caps n m best σ ∧ ∀ i, i < n → f i = true → σ i < m
open Classical in
/-- Who of the first i is taken. -/
noncomputable def tk (P : Nat → Skr) (caps : Nat → Nat) (n m : Nat) (best : Int) : Nat → Nat → Bool
  | 0 => fun _ => false
  | i + 1 => fun j => if j = i then decide (Seats P caps n m best fun j => decide (j = i) || tk P caps n m best i j) else tk P caps n m best i j
def withI (f : Nat → Bool) (i : Nat) (b : Bool) : Nat → Bool := fun j => if j = i then b else f j
theorem tk_none (i j : Nat) (h : i ≤ j) : tk P caps n m best i j = false := by
  induction i with
  | zero => rfl
  | succ i ih => simp only [tk]; rw [if_neg (by omega)]; exact ih (by omega)
theorem tk_old {i j : Nat} (h : j < i) : ∀ k, i ≤ k → tk P caps n m best k j = tk P caps n m best i j := by
  intro k hk
  induction k with
  | zero => omega
  | succ k ih =>
    by_cases e : i = k + 1
    · rw [e]
    · simp only [tk]
      rw [if_neg (by omega)]
      exact ih (by omega)
theorem tk_succ (i : Nat) : tk P caps n m best (i + 1) = withI (tk P caps n m best i) i (tk P caps n m best (i + 1) i) := by
  funext j
  unfold withI
  by_cases e : j = i
  · rw [if_pos e, e]
  · rw [if_neg e]; simp only [tk]; rw [if_neg e]
theorem tk_at (i : Nat) : tk P caps n m best (i + 1) i = true ↔ Seats P caps n m best (withI (tk P caps n m best i) i true) := by
  simp only [tk, if_true, decide_eq_true_eq]
  have : (fun j => decide (j = i) || tk P caps n m best i j) = withI (tk P caps n m best i) i true := by
    funext j; unfold withI; by_cases e : j = i <;> simp [e]
  rw [this]
/-- Who was taken can be seated by a good seating. -/
theorem tk_seats (hP : MinIs P caps n m best) : ∀ i, i ≤ n → Seats P caps n m best (tk P caps n m best i) := by
  intro i
  induction i with
  | zero =>
    intro _
    obtain ⟨⟨σ, h1, h2⟩, _⟩ := hP
    exact ⟨σ, ⟨h1, h2⟩, fun i _ h => by simp [tk] at h⟩
  | succ i ih =>
    intro hi
    rw [tk_succ]
    cases h : tk P caps n m best (i + 1) i with
    | true => exact (tk_at i).1 h
    | false =>
      have e : withI (tk P caps n m best i) i false = tk P caps n m best i := by
        funext j
        unfold withI
        by_cases e : j = i
        · rw [if_pos e, e]; exact (tk_none i i (Nat.le_refl _)).symm
        · rw [if_neg e]
      rw [e]
      exact ih (by omega)
/-- A good seating that seats all who were taken seats nobody else. -/
theorem tk_only {σ : Nat → Nat} (hg : GoodS P caps n m best σ) (h : ∀ i, i < n → tk P caps n m best n i = true → σ i < m) : ∀ i, i < n → (σ i < m ↔ tk P caps n m best n i = true) := by
  intro i hi
  refine ⟨fun hs => ?_, h i hi⟩
  rw [tk_old (i := i + 1) (by omega) n (by omega), tk_at]
  refine ⟨σ, hg, fun j hj hw => ?_⟩
  unfold withI at hw
  by_cases e : j = i
  · rw [e]; exact hs
  · rw [if_neg e] at hw
    have hji : j < i := Classical.byContradiction fun h' => by rw [tk_none i j (by omega)] at hw; cases hw
    exact h j hj (by rw [tk_old hji n (by omega)]; exact hw)
/-! ### Which block each chose -/
/-- A good seating of just these riders, with these blocks (a negative one: any). -/
def Chose (P : Nat → Skr) (caps : Nat → Nat) (n m : Nat) (best : Int) (T : Nat → Bool) (β : Nat → Int) : Prop :=
  ∃ σ, GoodS P caps n m best σ ∧ (∀ i, i < n → (σ i < m ↔ T i = true)) ∧ ∀ i, i < n → T i = true → 0 ≤ β i → (σ i : Int) = β i
def planK (P : Nat → Skr) (T : Nat → Bool) (β : Nat → Int) (i : Nat) : Skr := { P i with must := T i, no := !T i, blk := β i }
theorem plan_may (h0 : Open0 P n) (T : Nat → Bool) (β : Nat → Int) {i : Nat} (hi : i < n) (b : Nat) : (planK P T β i).may b = true ↔ T i = true ∧ (β i < 0 ∨ β i = (b : Int)) ∧ (P i).may b = true := by
  obtain ⟨_, h2, h3⟩ := h0 i hi
  unfold Skr.may planK
  simp only [Bool.not_not, Bool.and_eq_true, Bool.or_eq_true, decide_eq_true_eq, h2, Bool.not_false, true_and, h3, true_or]
  constructor
  · rintro ⟨⟨a, b⟩, c⟩; exact ⟨a, b, c⟩
  · rintro ⟨a, b, c⟩; exact ⟨⟨a, b⟩, c⟩
theorem plan_min (h0 : Open0 P n) (hP : MinIs P caps n m best) {T : Nat → Bool} {β : Nat → Int} (hK : MinIs (planK P T β) caps n m c) : c = best ↔ Chose P caps n m best T β := by
  have ht : Tight P (planK P T β) n := ⟨fun _ _ => rfl, fun _ _ => rfl, fun i hi b h => ((plan_may h0 T β hi b).1 h).2.2, fun i hi => by
    obtain ⟨h1, _⟩ := h0 i hi
    unfold Skr.price planK
    rw [h1]
    simp only [Bool.false_eq_true, if_false]
    split <;> omega⟩
  rw [ht.min hP hK]
  constructor
  · rintro ⟨σ, h1, h2, h3⟩
    refine ⟨σ, h1, fun i hi => ⟨fun hs => ((plan_may h0 T β hi _).1 (h2 i hi hs)).1, fun hT => Classical.byContradiction fun hs => ?_⟩, fun i hi hT hb => ?_⟩
    · have := h3 i hi hs
      obtain ⟨h4, _⟩ := h0 i hi
      unfold Skr.price planK at this
      simp only [hT, h4, if_true, Bool.false_eq_true, if_false] at this
      omega
    · have hs : σ i < m := Classical.byContradiction fun hs => by
        have := h3 i hi hs
        obtain ⟨h4, _⟩ := h0 i hi
        unfold Skr.price planK at this
        simp only [hT, h4, if_true, Bool.false_eq_true, if_false] at this
        omega
      rcases ((plan_may h0 T β hi _).1 (h2 i hi hs)).2.1 with h | h
      · omega
      · exact h.symm
  · rintro ⟨σ, h1, h2, h3⟩
    refine ⟨σ, h1, fun i hi hs => (plan_may h0 T β hi _).2 ⟨(h2 i hi).1 hs, ?_, h1.1.may i hi hs⟩, fun i hi hs => ?_⟩
    · by_cases hb : β i < 0
      · exact .inl hb
      · exact .inr (h3 i hi ((h2 i hi).1 hs) (by omega)).symm
    · have hT : T i = false := by
        cases hT : T i with
        | false => rfl
        | true => exact absurd ((h2 i hi).2 hT) hs
      obtain ⟨h4, _⟩ := h0 i hi
      unfold Skr.price planK
      rw [hT, h4]
def setI (β : Nat → Int) (i : Nat) (b : Int) : Nat → Int := fun j => if j = i then b else β j
open Classical in
/-- The first block from b on (of so many left) that some good seating gives it. -/
noncomputable def firstB (P : Nat → Skr) (caps : Nat → Nat) (n m : Nat) (best : Int) (T : Nat → Bool) (β : Nat → Int) (i : Nat) : Nat → Nat → Int
  | b, 0 => b
  | b, k + 1 => if Chose P caps n m best T (setI β i (b : Int)) then (b : Int) else firstB P caps n m best T β i (b + 1) k
open Classical in
noncomputable def pickB (P : Nat → Skr) (caps : Nat → Nat) (n m : Nat) (best : Int) (T : Nat → Bool) (β : Nat → Int) (i : Nat) : Int :=
  if 0 ≤ (P i).own ∧ Chose P caps n m best T (setI β i (P i).own) then (P i).own else firstB P caps n m best T β i 0 m
/-- Which block each of the first i chose. -/
noncomputable def ch (P : Nat → Skr) (caps : Nat → Nat) (n m : Nat) (best : Int) (T : Nat → Bool) : Nat → Nat → Int
  | 0 => fun _ => -1
  | i + 1 => if T i = true then setI (ch P caps n m best T i) i (pickB P caps n m best T (ch P caps n m best T i) i) else ch P caps n m best T i
theorem firstB_is {T : Nat → Bool} {β : Nat → Int} {i : Nat} : ∀ (k b : Nat), (∃ d : Nat, b ≤ d ∧ d < b + k ∧ Chose P caps n m best T (setI β i (d : Int))) → Chose P caps n m best T (setI β i (firstB P caps n m best T β i b k)) ∧ ∃ d : Nat, firstB P caps n m best T β i b k = d ∧ b ≤ d ∧ d < b + k := by
  intro k
  induction k with
  | zero => rintro b ⟨d, h1, h2, _⟩; omega
  | succ k ih =>
    rintro b ⟨d, h1, h2, h3⟩
    simp only [firstB]
    split
    · rename_i h; exact ⟨h, b, rfl, Nat.le_refl _, by omega⟩
    · rename_i h
      have hd : d ≠ b := fun e => h (by rw [← e]; exact h3)
      obtain ⟨a, e, he, l1, l2⟩ := ih (b + 1) ⟨d, by omega, by omega, h3⟩
      exact ⟨a, e, he, by omega, by omega⟩
theorem ch_none {T : Nat → Bool} (i j : Nat) (h : i ≤ j) : ch P caps n m best T i j = -1 := by
  induction i with
  | zero => rfl
  | succ i ih =>
    simp only [ch]
    split
    · unfold setI; rw [if_neg (by omega)]; exact ih (by omega)
    · exact ih (by omega)
theorem ch_old {T : Nat → Bool} {i j : Nat} (h : j < i) : ∀ k, i ≤ k → ch P caps n m best T k j = ch P caps n m best T i j := by
  intro k hk
  induction k with
  | zero => omega
  | succ k ih =>
    by_cases e : i = k + 1
    · rw [e]
    · have := ih (by omega)
      rw [← this]
      simp only [ch]
      split
      · unfold setI; rw [if_neg (by omega)]
      · rfl
/-- There is always a choice. -/
theorem ch_chose {T : Nat → Bool} (h0 : ∃ σ, GoodS P caps n m best σ ∧ ∀ i, i < n → (σ i < m ↔ T i = true)) (hown : ∀ i, i < n → (P i).own < m) : ∀ i, i ≤ n →
    Chose P caps n m best T (ch P caps n m best T i) ∧ ∀ j, j < i → T j = true → ∃ d : Nat, ch P caps n m best T i j = d ∧ d < m := by
  intro i
  induction i with
  | zero =>
    intro _
    obtain ⟨σ, h1, h2⟩ := h0
    exact ⟨⟨σ, h1, h2, fun i _ _ h => by simp [ch] at h⟩, fun j hj => by omega⟩
  | succ i ih =>
    intro hi
    obtain ⟨hc, hd⟩ := ih (by omega)
    by_cases hT : T i = true
    · have key : Chose P caps n m best T (setI (ch P caps n m best T i) i (pickB P caps n m best T (ch P caps n m best T i) i)) ∧ ∃ d : Nat, pickB P caps n m best T (ch P caps n m best T i) i = d ∧ d < m := by
        unfold pickB
        split
        · rename_i h
          exact ⟨h.2, (P i).own.toNat, by omega, by have := hown i (by omega); omega⟩
        · obtain ⟨σ, g1, g2, g3⟩ := hc
          have hs := (g2 i (by omega)).2 hT
          obtain ⟨a, d, e, _, l⟩ := firstB_is (P := P) (caps := caps) (n := n) (m := m) (best := best) (T := T) (β := ch P caps n m best T i) (i := i) m 0 ⟨σ i, by omega, by omega, σ, g1, g2, fun j hj hTj hb => by
            unfold setI at hb ⊢
            by_cases e : j = i
            · rw [if_pos e, e]
            · rw [if_neg e] at hb ⊢; exact g3 j hj hTj hb⟩
          exact ⟨a, d, e, by omega⟩
      obtain ⟨k1, d, k2, k3⟩ := key
      simp only [ch]
      rw [if_pos hT]
      refine ⟨k1, fun j hj hTj => ?_⟩
      unfold setI
      by_cases e : j = i
      · rw [if_pos e]; exact ⟨d, k2, k3⟩
      · rw [if_neg e]; exact hd j (by omega) hTj
    · simp only [ch]
      rw [if_neg hT]
      refine ⟨hc, fun j hj hTj => ?_⟩
      have : j ≠ i := fun e => hT (e ▸ hTj)
      exact hd j (by omega) hTj
end
end Go.Proofs.YtppjpledjhinbaaDoor
/- Who can be seated together: sets, and how they grow (plain). -/
namespace Go.Proofs.YtppjpledjhinbaaDoor
section
variable {P : Nat → Skr} {caps : Nat → Nat} {m N : Nat}
theorem sm_lt {n : Nat} {g h : Nat → Int} (e : sm n g < sm n h) : ∃ i, i < n ∧ g i < h i := by
  refine Classical.byContradiction fun hno => ?_
  have := sm_le (n := n) (g := h) (h := g) (fun i hi => Int.not_lt.1 fun hlt => hno ⟨i, hi, hlt⟩)
  omega
theorem sm_comm (a b : Nat) (g : Nat → Nat → Int) : (sm a fun i => sm b fun j => g i j) = sm b fun j => sm a fun i => g i j := by
  induction a with
  | zero => simp only [sm]; rw [sm_zero]
  | succ a ih => simp only [sm]; rw [ih, ← sm_add]
def card (N : Nat) (A : Nat → Bool) : Int := sm N fun i => if A i = true then 1 else 0
/-- These sit so: each in a block that it fits, not too many, one infant a block. -/
structure SitsSo (P : Nat → Skr) (caps : Nat → Nat) (m N : Nat) (A : Nat → Bool) (σ : Nat → Nat) : Prop where
  fits : ∀ i, i < N → A i = true → σ i < m ∧ (P i).fits (σ i) = true
  room : ∀ b, b < m → (sm N fun i => if A i = true ∧ σ i = b then 1 else 0) ≤ (caps b : Int)
  inf : ∀ b, b < m → (sm N fun i => if A i = true ∧ σ i = b ∧ (P i).inf = true then 1 else 0) ≤ 1
def Joint (P : Nat → Skr) (caps : Nat → Nat) (m N : Nat) (A : Nat → Bool) : Prop := ∃ σ, SitsSo P caps m N A σ
theorem SitsSo.sub {A B : Nat → Bool} {σ : Nat → Nat} (h : SitsSo P caps m N A σ) (hs : ∀ i, i < N → B i = true → A i = true) : SitsSo P caps m N B σ := by
  refine ⟨fun i hi hb => h.fits i hi (hs i hi hb), fun b hb => Int.le_trans (sm_le fun i hi => ?_) (h.room b hb), fun b hb => Int.le_trans (sm_le fun i hi => ?_) (h.inf b hb)⟩
  · by_cases e : B i = true ∧ σ i = b
    · rw [if_pos e, if_pos ⟨hs i hi e.1, e.2⟩]; exact Int.le_refl _
    · rw [if_neg e]; split <;> omega
  · by_cases e : B i = true ∧ σ i = b ∧ (P i).inf = true
    · rw [if_pos e, if_pos ⟨hs i hi e.1, e.2⟩]; exact Int.le_refl _
    · rw [if_neg e]; split <;> omega
theorem Joint.sub {A B : Nat → Bool} (h : Joint P caps m N A) (hs : ∀ i, i < N → B i = true → A i = true) : Joint P caps m N B := by
  obtain ⟨σ, h⟩ := h
  exact ⟨σ, h.sub hs⟩
theorem card_blocks {A : Nat → Bool} {σ : Nat → Nat} (h : ∀ i, i < N → A i = true → σ i < m) : (sm m fun b => sm N fun i => if A i = true ∧ σ i = b then (1 : Int) else 0) = card N A := by
  rw [sm_comm]
  refine sm_congr fun i hi => ?_
  by_cases e : A i = true
  · rw [if_pos e]
    refine Eq.trans (sm_congr (h := fun b => if b = σ i then (1 : Int) else 0) fun b _ => ?_) (sm_one (σ i) (h i hi e) 1)
    by_cases e2 : b = σ i
    · rw [if_pos ⟨e, e2.symm⟩, if_pos e2]
    · rw [if_neg (fun h => e2 h.2.symm), if_neg e2]
  · rw [if_neg e, sm_pick0 (fun b _ => if_neg fun h => e h.1)]
/-- One more, or one who changes. -/
def addI (A : Nat → Bool) (t : Nat) : Nat → Bool := fun i => if i = t then true else A i
def setN (σ : Nat → Nat) (t b : Nat) : Nat → Nat := fun i => if i = t then b else σ i
theorem sits_add {A : Nat → Bool} {σ : Nat → Nat} {t b : Nat} (ht : t < N) (h : SitsSo P caps m N A σ) (hb : b < m) (hf : (P t).fits b = true) (hnot : ¬ (A t = true ∧ σ t = b))
    (hroom : (sm N fun i => if A i = true ∧ σ i = b then 1 else 0) + 1 ≤ (caps b : Int)) (hinf : (P t).inf = true → (sm N fun i => if A i = true ∧ σ i = b ∧ (P i).inf = true then (1 : Int) else 0) + 1 ≤ 1) :
    SitsSo P caps m N (addI A t) (setN σ t b) := by
  have key : ∀ (R : Nat → Prop) [DecidablePred R] (c : Nat), (sm N fun i => if addI A t i = true ∧ setN σ t b i = c ∧ R i then (1 : Int) else 0) ≤ (sm N fun i => if A i = true ∧ σ i = c ∧ R i then 1 else 0) + if c = b ∧ R t then 1 else 0 := by
    intro R _ c
    have e := sm_set t ht (fun i => if A i = true ∧ σ i = c ∧ R i then (1 : Int) else 0) (fun i => if addI A t i = true ∧ setN σ t b i = c ∧ R i then (1 : Int) else 0) (fun i _ hne => by unfold addI setN; rw [if_neg hne, if_neg hne])
    rw [e]
    have h1 : (if addI A t t = true ∧ setN σ t b t = c ∧ R t then (1 : Int) else 0) ≤ if c = b ∧ R t then 1 else 0 := by
      unfold addI setN
      rw [if_pos rfl, if_pos rfl]
      by_cases h2 : true = true ∧ b = c ∧ R t
      · rw [if_pos h2, if_pos ⟨h2.2.1.symm, h2.2.2⟩]; exact Int.le_refl _
      · rw [if_neg h2]; split <;> omega
    have h3 : (0 : Int) ≤ if A t = true ∧ σ t = c ∧ R t then 1 else 0 := by split <;> omega
    omega
  refine ⟨fun i hi ha => ?_, fun c hc => ?_, fun c hc => ?_⟩
  · unfold setN
    by_cases e : i = t
    · rw [if_pos e, e]; exact ⟨hb, hf⟩
    · rw [if_neg e]
      unfold addI at ha
      rw [if_neg e] at ha
      exact h.fits i hi ha
  · have k := key (fun _ => True) c
    simp only [and_true] at k
    by_cases e : c = b
    · subst e
      rw [if_pos rfl] at k
      omega
    · rw [if_neg e] at k
      have := h.room c hc
      omega
  · have k := key (fun i => (P i).inf = true) c
    by_cases e : c = b ∧ (P t).inf = true
    · obtain ⟨rfl, e2⟩ := e
      rw [if_pos ⟨rfl, e2⟩] at k
      have := hinf e2
      omega
    · rw [if_neg e] at k
      have := h.inf c hc
      omega
/-- Those of a greater set lend one to a smaller one. -/
theorem joint_more {A B : Nat → Bool} (hA : Joint P caps m N A) (hB : Joint P caps m N B) (hlt : card N A < card N B) : ∃ t, t < N ∧ B t = true ∧ A t = false ∧ Joint P caps m N (addI A t) := by
  obtain ⟨τ, hτ⟩ := hB
  obtain ⟨σ, hσ⟩ := hA
  have hD : ∀ σ : Nat → Nat, 0 ≤ (sm N fun i => if A i = true ∧ B i = true ∧ σ i ≠ τ i then (1 : Int) else 0) := fun σ => sm_nonneg fun i _ => by split <;> omega
  have main : ∀ (k : Nat) (σ : Nat → Nat), SitsSo P caps m N A σ → (sm N fun i => if A i = true ∧ B i = true ∧ σ i ≠ τ i then (1 : Int) else 0) < k → ∃ t, t < N ∧ B t = true ∧ A t = false ∧ Joint P caps m N (addI A t) := by
    intro k
    induction k with
    | zero => intro σ _ hk; have := hD σ; omega
    | succ k ih =>
      intro σ hσ hk
      rw [← card_blocks (fun i hi ha => (hσ.fits i hi ha).1), ← card_blocks (fun i hi ha => (hτ.fits i hi ha).1)] at hlt
      obtain ⟨b, hb, hbl⟩ := sm_lt hlt
      have hsplit : ∀ (C : Nat → Bool) (ρ : Nat → Nat), (sm N fun i => if C i = true ∧ ρ i = b then (1 : Int) else 0) = (sm N fun i => if C i = true ∧ ρ i = b ∧ (P i).inf = true then 1 else 0) + sm N fun i => if C i = true ∧ ρ i = b ∧ (P i).inf = false then 1 else 0 := by
        intro C ρ
        rw [← sm_add]
        refine sm_congr fun i _ => ?_
        cases (P i).inf <;> by_cases h : C i = true ∧ ρ i = b <;> simp [h]
      have hs1 := hsplit A σ
      have hs2 := hsplit B τ
      have hpick : ∃ t, t < N ∧ B t = true ∧ τ t = b ∧ ¬ (A t = true ∧ σ t = b) ∧ ((P t).inf = true → (sm N fun i => if A i = true ∧ σ i = b ∧ (P i).inf = true then (1 : Int) else 0) + 1 ≤ 1) := by
        by_cases hi : (sm N fun i => if A i = true ∧ σ i = b ∧ (P i).inf = true then (1 : Int) else 0) < sm N fun i => if B i = true ∧ τ i = b ∧ (P i).inf = true then (1 : Int) else 0
        · obtain ⟨t, ht, hl⟩ := sm_lt hi
          have h1 := hτ.inf b hb
          have hB1 : B t = true ∧ τ t = b ∧ (P t).inf = true := Classical.byContradiction fun h => by
            rw [if_neg h] at hl; split at hl <;> omega
          refine ⟨t, ht, hB1.1, hB1.2.1, fun h => ?_, fun _ => by omega⟩
          rw [if_pos hB1, if_pos ⟨h.1, h.2, hB1.2.2⟩] at hl
          omega
        · obtain ⟨t, ht, hl⟩ := sm_lt (n := N) (g := fun i => if A i = true ∧ σ i = b ∧ (P i).inf = false then (1 : Int) else 0) (h := fun i => if B i = true ∧ τ i = b ∧ (P i).inf = false then (1 : Int) else 0) (by omega)
          have hB1 : B t = true ∧ τ t = b ∧ (P t).inf = false := Classical.byContradiction fun h => by
            rw [if_neg h] at hl; split at hl <;> omega
          refine ⟨t, ht, hB1.1, hB1.2.1, fun h => ?_, fun h => by rw [hB1.2.2] at h; cases h⟩
          rw [if_pos hB1, if_pos ⟨h.1, h.2, hB1.2.2⟩] at hl
          omega
      obtain ⟨t, ht, hBt, hτt, hnot, hin⟩ := hpick
      have hft := (hτ.fits t ht hBt).2
      rw [hτt] at hft
      have hadd := sits_add ht hσ hb hft hnot (by have := hτ.room b hb; omega) hin
      cases hA : A t with
      | false => exact ⟨t, ht, hBt, hA, _, hadd⟩
      | true =>
        have e : addI A t = A := by
          funext i; unfold addI
          by_cases e : i = t
          · rw [if_pos e, e, hA]
          · rw [if_neg e]
        rw [e] at hadd
        refine ih _ hadd ?_
        have e2 := sm_set t ht (fun i => if A i = true ∧ B i = true ∧ σ i ≠ τ i then (1 : Int) else 0) (fun i => if A i = true ∧ B i = true ∧ setN σ t b i ≠ τ i then (1 : Int) else 0) (fun i _ hne => by unfold setN; rw [if_neg hne])
        rw [e2]
        have h1 : (if A t = true ∧ B t = true ∧ setN σ t b t ≠ τ t then (1 : Int) else 0) = 0 := if_neg fun h => h.2.2 (by unfold setN; rw [if_pos rfl, hτt])
        have h2 : (if A t = true ∧ B t = true ∧ σ t ≠ τ t then (1 : Int) else 0) = 1 := if_pos ⟨hA, hBt, fun h => hnot ⟨hA, by rw [h, hτt]⟩⟩
        rw [h1, h2]
        omega
  have h0 := hD σ
  exact main ((sm N fun i => if A i = true ∧ B i = true ∧ σ i ≠ τ i then (1 : Int) else 0).toNat + 1) σ hσ (by omega)
/-- The greatest number of these that can be seated together. -/
def RankOn (P : Nat → Skr) (caps : Nat → Nat) (m N : Nat) (A : Nat → Bool) (r : Int) : Prop := (∃ B, (∀ i, i < N → B i = true → A i = true) ∧ Joint P caps m N B ∧ card N B = r) ∧ ∀ B, (∀ i, i < N → B i = true → A i = true) → Joint P caps m N B → card N B ≤ r
theorem RankOn.uniq {A : Nat → Bool} {r r' : Int} (h : RankOn P caps m N A r) (h' : RankOn P caps m N A r') : r = r' := by
  obtain ⟨⟨B, a, b, rfl⟩, c⟩ := h
  obtain ⟨⟨B', a', b', rfl⟩, c'⟩ := h'
  exact Int.le_antisymm (c' B a b) (c B' a' b')
theorem card_le {A B : Nat → Bool} (h : ∀ i, i < N → B i = true → A i = true) : card N B ≤ card N A := sm_le fun i hi => by
  by_cases e : B i = true
  · rw [if_pos e, if_pos (h i hi e)]; exact Int.le_refl _
  · rw [if_neg e]; split <;> omega
theorem card_eq {A B : Nat → Bool} (h : ∀ i, i < N → B i = true → A i = true) (e : card N B = card N A) : ∀ i, i < N → B i = A i := by
  intro i hi
  have hz : (sm N fun i => (if A i = true then (1 : Int) else 0) - if B i = true then 1 else 0) = 0 := by
    rw [sm_sub]; unfold card at e; omega
  have := sm_null (fun j hj => by
    by_cases e : B j = true
    · rw [if_pos e, if_pos (h j hj e)]; omega
    · rw [if_neg e]; split <;> omega) hz i hi
  cases hB : B i with
  | true => exact (h i hi hB).symm
  | false =>
    cases hA : A i with
    | false => rfl
    | true => rw [hA, hB] at this; simp at this
theorem RankOn.mono {A B : Nat → Bool} {r r' : Int} (h : RankOn P caps m N B r) (h' : RankOn P caps m N A r') (hs : ∀ i, i < N → B i = true → A i = true) : r ≤ r' := by
  obtain ⟨⟨C, a, b, rfl⟩, _⟩ := h
  exact h'.2 C (fun i hi hc => hs i hi (a i hi hc)) b
theorem rank_joint {A : Nat → Bool} {r : Int} (h : RankOn P caps m N A r) : Joint P caps m N A ↔ r = card N A := by
  constructor
  · intro hj
    obtain ⟨⟨C, a, b, rfl⟩, c⟩ := h
    exact Int.le_antisymm (card_le a) (c A (fun _ _ h => h) hj)
  · intro e
    obtain ⟨⟨C, a, b, hc⟩, _⟩ := h
    exact b.sub fun i hi hA => by rw [card_eq a (hc.trans e) i hi]; exact hA
/-- What a cheapest seating tells. -/
theorem open_may (h0 : Open0 P N) {i : Nat} (hi : i < N) (b : Nat) : (P i).may b = (P i).fits b := by
  obtain ⟨_, h2, h3⟩ := h0 i hi
  unfold Skr.may
  rw [h2, decide_eq_true h3]
  simp
def setOf (m : Nat) (σ : Nat → Nat) : Nat → Bool := fun i => decide (σ i < m)
theorem ok_sits (h0 : Open0 P N) {σ : Nat → Nat} (h : OkA P caps N m σ) : SitsSo P caps m N (setOf m σ) σ := by
  refine ⟨fun i hi ha => ?_, fun b hb => ?_, fun b hb => ?_⟩
  · have hs : σ i < m := by simpa [setOf] using ha
    exact ⟨hs, by rw [← open_may h0 hi]; exact h.may i hi hs⟩
  · refine Int.le_trans (sm_le fun i _ => ?_) (h.room b hb)
    by_cases e : setOf m σ i = true ∧ σ i = b
    · rw [if_pos e, if_pos e.2]; exact Int.le_refl _
    · rw [if_neg e]; split <;> omega
  · refine Int.le_trans (sm_le fun i _ => ?_) (h.inf b hb)
    by_cases e : setOf m σ i = true ∧ σ i = b ∧ (P i).inf = true
    · rw [if_pos e, if_pos e.2]; exact Int.le_refl _
    · rw [if_neg e]; split <;> omega
theorem sits_ok (h0 : Open0 P N) {A : Nat → Bool} {σ : Nat → Nat} (h : SitsSo P caps m N A σ) : OkA P caps N m (fun i => if A i = true then σ i else m) ∧ seatedN N m (fun i => if A i = true then σ i else m) = card N A := by
  refine ⟨⟨fun i hi hs => ?_, fun b hb => ?_, fun b hb => ?_⟩, sm_congr fun i hi => ?_⟩
  · skip
    by_cases e : A i = true
    · rw [if_pos e, open_may h0 hi]; exact (h.fits i hi e).2
    · rw [if_neg e] at hs; omega
  · refine Int.le_trans (sm_le fun i _ => ?_) (h.room b hb)
    by_cases e : A i = true
    · simp only [e, if_true, true_and]; exact Int.le_refl _
    · have : ¬ m = b := by omega
      simp [e, this]
  · refine Int.le_trans (sm_le fun i _ => ?_) (h.inf b hb)
    by_cases e : A i = true
    · simp only [e, if_true, true_and]; exact Int.le_refl _
    · have : ¬ m = b := by omega
      simp [e, this]
  · by_cases e : A i = true
    · simp only [e, if_true]; rw [if_pos (h.fits i hi e).1]
    · simp [e]
theorem seated_card (σ : Nat → Nat) : seatedN N m σ = card N (setOf m σ) := sm_congr fun i _ => by
  unfold setOf; by_cases e : σ i < m <;> simp [e]
/-- How many the cheapest seating seats, and keeps. -/
theorem most_is {c : Int} (h0 : Open0 P N) (hN : N < 100) (h : MinIs P caps N m c) :
    RankOn P caps m N (fun _ => true) ((N : Int) - c / 100) ∧ ∃ σ, OkA P caps N m σ ∧ seatedN N m σ = (N : Int) - c / 100 ∧ keptN P N m σ = (N : Int) - c / 100 - c % 100 ∧
      ∀ τ, OkA P caps N m τ → seatedN N m τ ≤ (N : Int) - c / 100 ∧ (seatedN N m τ = (N : Int) - c / 100 → keptN P N m τ ≤ (N : Int) - c / 100 - c % 100) := by
  obtain ⟨⟨σ, h1, h2⟩, h3⟩ := h
  have hs := seated_le (n := N) (m := m) σ
  have hk := kept_le (P := P) (n := N) (m := m) σ
  rw [cost_split h0] at h2
  have e1 : c / 100 = (N : Int) - seatedN N m σ := by omega
  have e2 : c % 100 = seatedN N m σ - keptN P N m σ := by omega
  have hall : ∀ τ, OkA P caps N m τ → seatedN N m τ ≤ seatedN N m σ ∧ (seatedN N m τ = seatedN N m σ → keptN P N m τ ≤ keptN P N m σ) := by
    intro τ hτ
    have := h3 τ hτ
    rw [cost_split h0] at this
    have a := seated_le (n := N) (m := m) τ
    have b := kept_le (P := P) (n := N) (m := m) τ
    omega
  refine ⟨⟨⟨setOf m σ, fun _ _ _ => rfl, ⟨σ, ok_sits h0 h1⟩, by rw [← seated_card]; omega⟩, fun B _ hB => ?_⟩, σ, h1, by omega, by omega, fun τ hτ => ?_⟩
  · obtain ⟨τ, hτ⟩ := hB
    obtain ⟨a, b⟩ := sits_ok h0 hτ
    have := (hall _ a).1
    omega
  · have := hall τ hτ
    omega
end
end Go.Proofs.YtppjpledjhinbaaDoor
