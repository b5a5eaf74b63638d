/- Flows: a graph of two sides as a network, in plain words. -/
import Derived.Test.YtmekcpbcgelliaaFlMem
namespace Go.Proofs.Ytmekcpbcgelliaa
/-- A sum over a list. -/
def sL {α : Type} (g : α → Int) : List α → Int
  | [] => 0
  | a :: l => g a + sL g l
section
variable {α β : Type} {g h : α → Int}
theorem sL_append (l l' : List α) : sL g (l ++ l') = sL g l + sL g l' := by
  induction l with
  | nil => simp [sL]
  | cons a l ih => rw [List.cons_append, sL, sL, ih]; omega
theorem sL_map (f : β → α) (l : List β) : sL g (l.map f) = sL (fun b => g (f b)) l := by
  induction l with
  | nil => rfl
  | cons a l ih => rw [List.map_cons, sL, sL, ih]
theorem sL_le {l : List α} (e : ∀ x ∈ l, g x ≤ h x) : sL g l ≤ sL h l := by
  induction l with
  | nil => exact Int.le_refl _
  | cons a l ih =>
    have := ih fun x hx => e x (by simp [hx])
    have := e a (by simp)
    simp only [sL]
    omega
theorem sL_congr {l : List α} (e : ∀ x ∈ l, g x = h x) : sL g l = sL h l := Int.le_antisymm (sL_le fun x hx => Int.le_of_eq (e x hx)) (sL_le fun x hx => Int.le_of_eq (e x hx).symm)
theorem sL_add (l : List α) : sL (fun x => g x + h x) l = sL g l + sL h l := by
  induction l with
  | nil => rfl
  | cons a l ih => simp only [sL, ih]; omega
theorem sL_one (l : List α) : sL (fun _ => 1) l = l.length := by
  induction l with
  | nil => rfl
  | cons a l ih => rw [sL, ih, List.length_cons]; omega
theorem sL_zero (l : List α) : sL (fun _ => 0) l = 0 := by
  induction l with
  | nil => rfl
  | cons a l ih => rw [sL, ih]; rfl
theorem sL_nonneg {l : List α} (e : ∀ x, 0 ≤ g x) : 0 ≤ sL g l := by
  have := sL_le (g := fun _ => 0) (l := l) fun x _ => e x
  rwa [sL_zero] at this
theorem sL_erase [DecidableEq α] {l : List α} {x : α} (hx : x ∈ l) : sL g l = g x + sL g (l.erase x) := by
  induction l with
  | nil => cases hx
  | cons a l ih =>
    by_cases e : a = x
    · subst e
      rw [List.erase_cons_head, sL]
    · rw [List.erase_cons_tail (by simpa using e), sL, sL, ih ((List.mem_cons.1 hx).resolve_left fun h => e h.symm)]
      omega
/-- What is there once, is less than what is there. -/
theorem sL_sub [DecidableEq α] (e : ∀ x, 0 ≤ g x) : ∀ (L l : List α), L.Nodup → (∀ x ∈ L, x ∈ l) → sL g L ≤ sL g l := by
  intro L
  induction L with
  | nil => intro l _ _; exact sL_nonneg e
  | cons a L ih =>
    intro l hn hs
    obtain ⟨n1, n2⟩ := List.nodup_cons.1 hn
    rw [sL, sL_erase (hs a (by simp))]
    have := ih (l.erase a) n2 fun x hx => (List.mem_erase_of_ne (by rintro rfl; exact n1 hx)).2 (hs x (by simp [hx]))
    omega
theorem sL_if (p : α → Bool) (l : List α) : sL (fun x => if p x = true then 1 else 0) l = (l.filter p).length := by
  induction l with
  | nil => rfl
  | cons a l ih =>
    rw [sL, ih, List.filter_cons]
    split
    · rw [List.length_cons]; omega
    · omega
theorem len_sub [DecidableEq α] {L l : List α} (hn : L.Nodup) (hs : ∀ x ∈ L, x ∈ l) : L.length ≤ l.length := by
  have := sL_sub (g := fun _ => 1) (fun _ => by omega) L l hn hs
  rw [sL_one, sL_one] at this
  omega
end
/-- What crosses a cut, over the arcs' list. -/
def crossA (Z : Nat → Bool) (a : Ar) : Int := if Z a.1.toNat = true ∧ Z a.2.1.toNat = false then a.2.2.1 else 0
theorem cut_list (Z : Nat → Bool) (l : List Ar) : cutCap (nwOf l) Z = sL (crossA Z) l := by
  unfold cutCap
  show sm l.length _ = _
  induction l with
  | nil => rfl
  | cons a l ih =>
    rw [List.length_cons, sm_shift, sL, ← ih]
    rfl
/-- .. and what goes out of s. -/
theorem out_list (s : Nat) (l : List Ar) : outTo l s l.length = sL (fun a => if a.1.toNat = s then a.2.2.1 else 0) l := by
  unfold outTo
  induction l with
  | nil => rfl
  | cons a l ih =>
    rw [List.length_cons, sm_shift, sL, ← ih]
    rfl
def biA (n : Nat) : List Ar := (List.range n).map fun (a : Nat) => (((0 : Int), 2 + (a : Int), (1 : Int), (0 : Int)) : Ar)
def biB (n m : Nat) : List Ar := (List.range m).map fun (b : Nat) => ((2 + (n : Int) + (b : Int), (1 : Int), (1 : Int), (0 : Int)) : Ar)
def biC (n : Nat) (l : List (Int × Int)) : List Ar := l.map fun e => ((2 + e.1, 2 + (n : Int) + e.2, (1 : Int), (0 : Int)) : Ar)
def biN (n m : Nat) (l : List (Int × Int)) : List Ar := biA n ++ biB n m ++ biC n l
section
variable {n m : Nat} {l : List (Int × Int)}
theorem bi_good (hn : n ≤ 90) (hm : m ≤ 90) (hl : l.length ≤ 3000) (hall : ∀ e ∈ l, (0 ≤ e.1 ∧ e.1 < n) ∧ (0 ≤ e.2 ∧ e.2 < m)) : GoodN (2 + (n : Int) + m) 0 1 (biN n m l) := by
  refine ⟨by omega, by omega, by omega, by decide, by simp [biN, biA, biB, biC]; omega, fun a ha => ?_, ?_⟩
  · unfold biN biA biB biC at ha
    rw [List.mem_append, List.mem_append] at ha
    unfold okA
    rcases ha with (ha | ha) | ha
    · obtain ⟨x, hx, rfl⟩ := List.mem_map.1 ha
      have := List.mem_range.1 hx
      simp only
      omega
    · obtain ⟨x, hx, rfl⟩ := List.mem_map.1 ha
      have := List.mem_range.1 hx
      simp only
      omega
    · obtain ⟨x, hx, rfl⟩ := List.mem_map.1 ha
      have := hall x hx
      simp only
      omega
  · rw [out_list]
    unfold biN biA biB biC
    rw [sL_append, sL_append, sL_map, sL_map, sL_map]
    have h1 : sL (fun b : Nat => if (((0 : Int), 2 + (b : Int), (1 : Int), (0 : Int)) : Ar).1.toNat = (0 : Int).toNat then (((0 : Int), 2 + (b : Int), (1 : Int), (0 : Int)) : Ar).2.2.1 else 0) (List.range n) ≤ sL (fun _ => 1) (List.range n) := sL_le fun x _ => by simp
    rw [sL_one, List.length_range] at h1
    have h2 : sL (fun b : Nat => if ((2 + (n : Int) + (b : Int), (1 : Int), (1 : Int), (0 : Int)) : Ar).1.toNat = (0 : Int).toNat then ((2 + (n : Int) + (b : Int), (1 : Int), (1 : Int), (0 : Int)) : Ar).2.2.1 else 0) (List.range m) = 0 := by
      refine (sL_congr (h := fun _ => 0) fun x _ => if_neg ?_).trans (sL_zero _)
      simp only
      omega
    have h3 : sL (fun b : Int × Int => if ((2 + b.1, 2 + (n : Int) + b.2, (1 : Int), (0 : Int)) : Ar).1.toNat = (0 : Int).toNat then ((2 + b.1, 2 + (n : Int) + b.2, (1 : Int), (0 : Int)) : Ar).2.2.1 else 0) l = 0 := by
      refine (sL_congr (h := fun _ => 0) fun x hx => if_neg ?_).trans (sL_zero _)
      have := hall x hx
      simp only
      omega
    rw [h2, h3]
    omega
/-- What crosses a cut of it. -/
theorem bi_cut (hall : ∀ e ∈ l, (0 ≤ e.1 ∧ e.1 < n) ∧ (0 ≤ e.2 ∧ e.2 < m)) (Z : Nat → Bool) (h0 : Z 0 = true) (h1 : Z 1 = false) :
    cutCap (nwOf (biN n m l)) Z = sL (fun a => if (!Z (2 + a)) = true then 1 else 0) (List.range n) + sL (fun b => if Z (2 + n + b) = true then 1 else 0) (List.range m) +
      sL (fun p : Nat × Nat => if (Z (2 + p.1) && !Z (2 + n + p.2)) = true then 1 else 0) (natE l) := by
  rw [cut_list]
  unfold biN biA biB biC natE
  rw [sL_append, sL_append, sL_map, sL_map, sL_map, sL_map]
  congr 1
  · congr 1
    · refine sL_congr fun x _ => ?_
      unfold crossA
      simp only [show ((0 : Int)).toNat = 0 from rfl, h0, show (2 + (x : Int)).toNat = 2 + x by omega]
      cases Z (2 + x) <;> simp
    · refine sL_congr fun x _ => ?_
      unfold crossA
      simp only [show ((1 : Int)).toNat = 1 from rfl, h1, show (2 + (n : Int) + (x : Int)).toNat = 2 + n + x by omega]
      cases Z (2 + n + x) <;> simp
  · refine sL_congr fun x hx => ?_
    have := hall x hx
    unfold crossA
    simp only [show (2 + x.1).toNat = 2 + x.1.toNat by omega, show (2 + (n : Int) + x.2).toNat = 2 + n + x.2.toNat by omega]
    cases Z (2 + x.1.toNat) <;> cases Z (2 + n + x.2.toNat) <;> simp
theorem bi_max (hall : ∀ e ∈ l, (0 ≤ e.1 ∧ e.1 < n) ∧ (0 ≤ e.2 ∧ e.2 < m)) (hok : NwOk (nwOf (biN n m l)) (2 + n + m) 0 1) {v : Int} {nu : Nat} (hv : MaxIs (nwOf (biN n m l)) (2 + n + m) 0 1 v) (hnu : NuIs (natE l) nu) : v = nu := by
  obtain ⟨⟨f, hf, e⟩, Z, z0, z1, hZ⟩ := hv
  obtain ⟨⟨M, hMl, hME, hM1, hM2⟩, A, B, hAB, hcov⟩ := hnu
  have hEn : ∀ p ∈ natE l, p.1 < n ∧ p.2 < m := fun p hp => by
    obtain ⟨x, hx, rfl⟩ := List.mem_map.1 hp
    have := hall x hx
    simp only
    omega
  -- no less
  have h1 : (nu : Int) ≤ v := by
    refine Int.le_trans ?_ hZ
    rw [bi_cut hall Z z0 z1]
    have hMn : M.Nodup := List.Pairwise.of_map _ (fun a b h e => h (e ▸ rfl)) hM1
    have k1 := sL_sub (g := fun a => if (!Z (2 + a)) = true then (1 : Int) else 0) (fun x => by split <;> omega) (M.map (·.1)) (List.range n) hM1 (fun x hx => by
      obtain ⟨p, hp, rfl⟩ := List.mem_map.1 hx
      exact List.mem_range.2 (hEn p (hME p hp)).1)
    have k2 := sL_sub (g := fun b => if Z (2 + n + b) = true then (1 : Int) else 0) (fun x => by split <;> omega) (M.map (·.2)) (List.range m) hM2 (fun x hx => by
      obtain ⟨p, hp, rfl⟩ := List.mem_map.1 hx
      exact List.mem_range.2 (hEn p (hME p hp)).2)
    have k3 := sL_sub (g := fun p : Nat × Nat => if (Z (2 + p.1) && !Z (2 + n + p.2)) = true then (1 : Int) else 0) (fun x => by split <;> omega) M (natE l) hMn hME
    rw [sL_map] at k1 k2
    have k4 : sL (fun _ : Nat × Nat => (1 : Int)) M ≤ sL (fun p => ((if (!Z (2 + p.1)) = true then (1 : Int) else 0) + (if Z (2 + n + p.2) = true then 1 else 0)) + (if (Z (2 + p.1) && !Z (2 + n + p.2)) = true then 1 else 0)) M := sL_le fun p _ => by
      cases Z (2 + p.1) <;> cases Z (2 + n + p.2) <;> simp
    rw [sL_one, sL_add, sL_add] at k4
    omega
  -- no more
  have h2 : v ≤ (nu : Int) := by
    let Y : Nat → Bool := fun x => if x = 0 then true else if x = 1 then false else if x < 2 + n then decide (x - 2 ∉ A) else decide (x - 2 - n ∈ B)
    have hYa : ∀ a, a < n → Y (2 + a) = decide (a ∉ A) := fun a ha => by
      show (if 2 + a = 0 then true else if 2 + a = 1 then false else if 2 + a < 2 + n then decide (2 + a - 2 ∉ A) else decide (2 + a - 2 - n ∈ B)) = _
      rw [if_neg (by omega), if_neg (by omega), if_pos (by omega), show 2 + a - 2 = a by omega]
    have hYb : ∀ b, Y (2 + n + b) = decide (b ∈ B) := fun b => by
      show (if 2 + n + b = 0 then true else if 2 + n + b = 1 then false else if 2 + n + b < 2 + n then decide (2 + n + b - 2 ∉ A) else decide (2 + n + b - 2 - n ∈ B)) = _
      rw [if_neg (by omega), if_neg (by omega), if_neg (by omega), show 2 + n + b - 2 - n = b by omega]
    rw [← e]
    refine Int.le_trans (cut_ge hok.ends hf hok.sn hok.tn hok.st Y rfl rfl) ?_
    rw [bi_cut hall Y rfl rfl]
    have k1 : sL (fun a => if (!Y (2 + a)) = true then (1 : Int) else 0) (List.range n) ≤ A.length := by
      rw [sL_congr (h := fun a => if decide (a ∈ A) = true then (1 : Int) else 0) (fun a ha => by rw [hYa a (List.mem_range.1 ha)]; by_cases h : a ∈ A <;> simp [h]), sL_if]
      have := len_sub (L := (List.range n).filter fun a => decide (a ∈ A)) (l := A) (List.nodup_range.filter _) (fun x hx => by simpa using (List.mem_filter.1 hx).2)
      omega
    have k2 : sL (fun b => if Y (2 + n + b) = true then (1 : Int) else 0) (List.range m) ≤ B.length := by
      rw [sL_congr (h := fun b => if decide (b ∈ B) = true then (1 : Int) else 0) (fun b _ => by rw [hYb b]), sL_if]
      have := len_sub (L := (List.range m).filter fun b => decide (b ∈ B)) (l := B) (List.nodup_range.filter _) (fun x hx => by simpa using (List.mem_filter.1 hx).2)
      omega
    have k3 : sL (fun p : Nat × Nat => if (Y (2 + p.1) && !Y (2 + n + p.2)) = true then (1 : Int) else 0) (natE l) = 0 := by
      refine (sL_congr (h := fun _ => 0) fun p hp => if_neg ?_).trans (sL_zero _)
      rw [hYa _ (hEn p hp).1, hYb]
      rcases hcov p hp with h | h <;> simp [h]
    omega
  omega
end
end Go.Proofs.Ytmekcpbcgelliaa
