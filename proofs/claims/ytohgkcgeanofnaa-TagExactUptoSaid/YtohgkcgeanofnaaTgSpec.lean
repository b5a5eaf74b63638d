/- Digests: what they are (plain). -/
import Derived.Test.YtohgkcgeanofnaaTgTurn
namespace Go.Proofs.Ytohgkcgeanofnaa
open Go.RowKit
def Kt : List Nat := [1116352408, 1899447441, 3049323471, 3921009573, 961987163, 1508970993, 2453635748, 2870763221, 3624381080, 310598401, 607225278, 1426881987, 1925078388, 2162078206, 2614888103, 3248222580, 3835390401, 4022224774, 264347078, 604807628, 770255983, 1249150122, 1555081692, 1996064986, 2554220882, 2821834349, 2952996808, 3210313671, 3336571891, 3584528711, 113926993, 338241895, 666307205, 773529912, 1294757372, 1396182291, 1695183700, 1986661051, 2177026350, 2456956037, 2730485921, 2820302411, 3259730800, 3345764771, 3516065817, 3600352804, 4094571909, 275423344, 430227734, 506948616, 659060556, 883997877, 958139571, 1322822218, 1537002063, 1747873779, 1955562222, 2024104815, 2227730452, 2361852424, 2428436474, 2756734187, 3204031479, 3329325298]
def H0 : List Nat := [1779033703, 3144134277, 1013904242, 2773480762, 1359893119, 2600822924, 528734635, 1541459225]
theorem Kt_length : Kt.length = 64 := rfl
theorem Kt_lt : ∀ x ∈ Kt, x < 4294967296 := by decide
theorem H0_length : H0.length = 8 := rfl
theorem H0_lt : ∀ x ∈ H0, x < 4294967296 := by decide
def sg0 (x : Nat) : Nat := rotr 7 x ^^^ rotr 18 x ^^^ x / 8
def sg1 (x : Nat) : Nat := rotr 17 x ^^^ rotr 19 x ^^^ x / 1024
def bg1 (e : Nat) : Nat := rotr 6 e ^^^ rotr 11 e ^^^ rotr 25 e
def bg0 (a : Nat) : Nat := rotr 2 a ^^^ rotr 13 a ^^^ rotr 22 a
def chx (e f g : Nat) : Nat := (e &&& f) ^^^ ((4294967295 - e) &&& g)
def mjx (a b c : Nat) : Nat := (a &&& b) ^^^ (a &&& c) ^^^ (b &&& c)
/-- The word i of 64 bytes. -/
def be (b : List UInt8) (i : Nat) : Nat := (b.getD (4 * i) 0).toNat * 16777216 + (b.getD (4 * i + 1) 0).toNat * 65536 + (b.getD (4 * i + 2) 0).toNat * 256 + (b.getD (4 * i + 3) 0).toNat
/-- The next word. -/
def nw (l : List Nat) (i : Nat) : Nat := (l.getD (i - 16) 0 + l.getD (i - 7) 0 + sg0 (l.getD (i - 15) 0) + sg1 (l.getD (i - 2) 0)) % 4294967296
def wds (b : List UInt8) : Nat → List Nat
  | 0 => []
  | k + 1 => wds b k ++ [if k < 16 then be b k else nw (wds b k) k]
theorem wds_length (b : List UInt8) : ∀ k, (wds b k).length = k
  | 0 => rfl
  | k + 1 => by rw [wds, List.length_append, wds_length b k]; rfl
theorem be_lt (b : List UInt8) (i : Nat) : be b i < 4294967296 := by
  unfold be
  have h1 := (b.getD (4 * i) 0).toNat_lt
  have h2 := (b.getD (4 * i + 1) 0).toNat_lt
  have h3 := (b.getD (4 * i + 2) 0).toNat_lt
  have h4 := (b.getD (4 * i + 3) 0).toNat_lt
  omega
theorem wds_lt (b : List UInt8) : ∀ k, ∀ x ∈ wds b k, x < 4294967296
  | 0, x, hx => by cases hx
  | k + 1, x, hx => by
    rw [wds, List.mem_append] at hx
    rcases hx with hx | hx
    · exact wds_lt b k x hx
    · rw [List.mem_singleton] at hx
      subst hx
      split
      · exact be_lt b k
      · exact Nat.mod_lt _ (by decide)
/-- A round. -/
def rnd (k x : Nat) : List Nat → List Nat
  | [a, b, c, d, e, f, g, h] => [((h + bg1 e + chx e f g + k + x) + (bg0 a + mjx a b c)) % 4294967296, a, b, c, (d + (h + bg1 e + chx e f g + k + x)) % 4294967296, e, f, g]
  | v => v
def rnds (W : List Nat) (H : List Nat) : Nat → List Nat
  | 0 => H
  | k + 1 => rnd (Kt.getD k 0) (W.getD k 0) (rnds W H k)
def addv (H v : List Nat) : List Nat := List.zipWith (fun x y => (x + y) % 4294967296) H v
def blk (H : List Nat) (b : List UInt8) : List Nat := addv H (rnds (wds b 64) H 64)
theorem rnd_length (k x : Nat) (v : List Nat) (h : v.length = 8) : (rnd k x v).length = 8 := by
  match v, h with
  | [a, b, c, d, e, f, g, h], _ => rfl
theorem rnds_length (W H : List Nat) (h : H.length = 8) : ∀ k, (rnds W H k).length = 8
  | 0 => h
  | k + 1 => rnd_length _ _ _ (rnds_length W H h k)
theorem rnd_lt (k x : Nat) (v : List Nat) (hv : ∀ y ∈ v, y < 4294967296) : ∀ y ∈ rnd k x v, y < 4294967296 := by
  unfold rnd
  split
  · intro y hy
    simp only [List.mem_cons, List.not_mem_nil, or_false] at hy hv
    rcases hy with rfl | rfl | rfl | rfl | rfl | rfl | rfl | rfl
    · exact Nat.mod_lt _ (by decide)
    · exact hv _ (by simp)
    · exact hv _ (by simp)
    · exact hv _ (by simp)
    · exact Nat.mod_lt _ (by decide)
    · exact hv _ (by simp)
    · exact hv _ (by simp)
    · exact hv _ (by simp)
  · exact hv
theorem rnds_lt (W H : List Nat) (h : ∀ y ∈ H, y < 4294967296) : ∀ k, ∀ y ∈ rnds W H k, y < 4294967296
  | 0 => h
  | k + 1 => rnd_lt _ _ _ (rnds_lt W H h k)
theorem addv_lt (H v : List Nat) : ∀ y ∈ addv H v, y < 4294967296 := by
  intro y hy
  unfold addv at hy
  rw [List.mem_iff_getElem] at hy
  obtain ⟨i, hi, rfl⟩ := hy
  rw [List.getElem_zipWith]
  exact Nat.mod_lt _ (by decide)
theorem blk_lt (H : List Nat) (b : List UInt8) : ∀ y ∈ blk H b, y < 4294967296 := addv_lt _ _
theorem blk_length (H : List Nat) (b : List UInt8) (h : H.length = 8) : (blk H b).length = 8 := by
  unfold blk addv
  rw [List.length_zipWith, h, rnds_length _ _ h]; rfl
/-- What is eaten of the bytes, 64 by 64, and what is left. -/
def eat : Nat → List Nat → List UInt8 → List Nat × List UInt8
  | 0, H, l => (H, l)
  | n + 1, H, l => if 64 ≤ l.length then eat n (blk H (l.take 64)) (l.drop 64) else (H, l)
theorem eat_more : ∀ (n m : Nat) (H : List Nat) (l : List UInt8), l.length ≤ n → n ≤ m → eat m H l = eat n H l
  | 0, 0, _, _, _, _ => rfl
  | 0, m + 1, H, l, h, _ => by
    rw [show eat 0 H l = (H, l) from rfl, eat, if_neg (by omega)]
  | n + 1, 0, _, _, _, h => by omega
  | n + 1, m + 1, H, l, h, hm => by
    rw [eat, eat]
    split
    · exact eat_more n m _ _ (by rw [List.length_drop]; omega) (by omega)
    · rfl
/-- The state behind the bytes l. -/
def fed (H : List Nat) (l : List UInt8) : List Nat × List UInt8 := eat l.length H l
theorem fed_small {H : List Nat} {l : List UInt8} (h : l.length < 64) : fed H l = (H, l) := by
  unfold fed
  cases hl : l.length with
  | zero => rfl
  | succ n => rw [eat, if_neg (by omega)]
theorem fed_big {H : List Nat} {l : List UInt8} (h : 64 ≤ l.length) : fed H l = fed (blk H (l.take 64)) (l.drop 64) := by
  unfold fed
  obtain ⟨n, hn⟩ : ∃ n, l.length = n + 1 := ⟨l.length - 1, by omega⟩
  rw [hn, eat, if_pos h]
  exact eat_more _ _ _ _ (Nat.le_refl _) (by rw [List.length_drop]; omega)
theorem fed_rest (l : List UInt8) : ∀ H, (fed H l).2.length < 64 := by
  induction hn : l.length using Nat.strongRecOn generalizing l with
  | ind n ih =>
    intro H
    by_cases h : l.length < 64
    · rw [fed_small h]; exact h
    · rw [fed_big (by omega)]
      exact ih (l.drop 64).length (by rw [List.length_drop]; omega) _ rfl _
theorem fed_append (l : List UInt8) : ∀ (H : List Nat) (m : List UInt8), fed H (l ++ m) = fed (fed H l).1 ((fed H l).2 ++ m) := by
  induction hn : l.length using Nat.strongRecOn generalizing l with
  | ind n ih =>
    intro H m
    by_cases h : l.length < 64
    · rw [fed_small h]
    · rw [fed_big (l := l) (by omega), fed_big (by rw [List.length_append]; omega), List.take_append_of_le_length (by omega), List.drop_append_of_le_length (by omega)]
      exact ih (l.drop 64).length (by rw [List.length_drop]; omega) _ rfl _ _
theorem fed_length (l : List UInt8) : ∀ (H : List Nat), H.length = 8 → (fed H l).1.length = 8 := by
  induction hn : l.length using Nat.strongRecOn generalizing l with
  | ind n ih =>
    intro H hH
    by_cases h : l.length < 64
    · rw [fed_small h]; exact hH
    · rw [fed_big (by omega)]
      exact ih (l.drop 64).length (by rw [List.length_drop]; omega) _ rfl _ (blk_length _ _ hH)
theorem fed_lt (l : List UInt8) : ∀ (H : List Nat), (∀ y ∈ H, y < 4294967296) → ∀ y ∈ (fed H l).1, y < 4294967296 := by
  induction hn : l.length using Nat.strongRecOn generalizing l with
  | ind n ih =>
    intro H hH
    by_cases h : l.length < 64
    · rw [fed_small h]; exact hH
    · rw [fed_big (by omega)]
      exact ih (l.drop 64).length (by rw [List.length_drop]; omega) _ rfl _ (blk_lt _ _)
end Go.Proofs.Ytohgkcgeanofnaa
