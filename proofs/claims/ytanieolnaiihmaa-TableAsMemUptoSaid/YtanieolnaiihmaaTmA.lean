/- A table in memory: its lists, walked. (printed by wip/tools/gen_tm.py) -/
import Derived.Test.YtanieolnaiihmaaEnt
import Derived.Lib.Bytealg
import Derived.Lib.Hide
import Derived.StillTailTactics
import Derived.Deep.RegionHeld3
import Derived.Great.BuildSlice
import Derived.Laws.CopyOwn
namespace Go.Proofs.Ytanieolnaiihmaa.M6
open Go.RowKit
def cmpI (a b : Int) : Int := if a < b then -1 else if b < a then 1 else 0
/-- What 'compare' answers. -/
def cmpE (x y : Ent) : Int := if Lib.compareBytes x.key.data.toList y.key.data.toList = 0 then cmpI y.seq x.seq else Lib.compareBytes x.key.data.toList y.key.data.toList
set_option maxHeartbeats 1000000 in
set_option maxRecDepth 20000 in
theorem bcmp_any (w : World) (a b : ByteArray) :
    Calls Try.prog 105 #[.string a, .string b] w fun e w' => e = .returned (.int .i64 (Lib.compareBytes a.data.toList b.data.toList)) ∧ w' = w := by
  go_enter Try.func105, Try.ntmps105
  go_wp2
  rw [run_callFunc_extern Try.func109 (by kernel_rfl) (by kernel_rfl) (by kernel_rfl) (e := Extern.BytealgCompare.compare) (by kernel_rfl), Lib.run_compareString]
  simp only [Result.andThen]
  rw [Oper.upon_value]
  go_wp2
  go_ret
  exact ⟨rfl, rfl⟩
set_option maxHeartbeats 1000000 in
theorem scmp_any (w : World) (a b : ByteArray) :
    Calls Try.prog 92 #[.string a, .string b] w fun e w' => e = .returned (.int .i64 (Lib.compareBytes a.data.toList b.data.toList)) ∧ w' = w := by
  go_enter Try.func92, Try.ntmps92
  go_wp2_with fail
  refine (bcmp_any w a b).mono ?_
  rintro e w1 ⟨rfl, hw⟩
  obtain rfl := hw.symm
  go_wp2
  go_ret
  exact ⟨rfl, rfl⟩
set_option maxHeartbeats 1000000 in
theorem icmp_any (w : World) (a b : Int) :
    Calls Try.prog 93 #[.int .i64 a, .int .i64 b] w fun e w' => e = .returned (.int .i64 (cmpI a b)) ∧ w' = w := by
  go_enter Try.func93, Try.ntmps93
  go_wp2
  all_goals
    go_ret
    refine ⟨ret_int ?_, rfl⟩
    unfold cmpI
    first
      | (rw [if_pos (by assumption)]; done)
      | (rw [if_neg (by omega), if_pos (by assumption)]; done)
      | (rw [if_neg (by omega), if_neg (by omega)])
set_option maxHeartbeats 1000000 in
theorem ior_any (w : World) (g : Nat) (a b : Int) (h0 : w.cell? ⟨g, 0, none⟩ = some (.int .i64 a)) (h1 : w.cell? ⟨g, 1, none⟩ = some (.int .i64 b)) :
    Calls Try.prog 91 #[.slice (some ⟨g, 0, none⟩) 2 2] w fun e w' => e = .returned (.int .i64 (if a = 0 then b else a)) ∧ w' = w := by
  go_enter Try.func91, Try.ntmps91
  go_wp2
  go_loop [5, 8] (fun _ i => ∃ k : Nat, k ≤ 2 ∧ i = .int .i64 k ∧ (1 ≤ k → a = 0) ∧ (2 ≤ k → b = 0)) (fun _ i => 2 - (intOf i).toNat)
  case atStart => exact ⟨0, Nat.zero_le _, rfl, fun h => absurd h (by decide), fun h => absurd h (by decide)⟩
  case round =>
    obtain ⟨k, hk, rfl, ha, hb⟩ := hrel
    obtain rfl | rfl | rfl : k = 0 ∨ k = 1 ∨ k = 2 := by omega
    · by_cases h : a = 0
      · subst h
        go_wp2
        exact ⟨⟨1, by decide, rfl, fun _ => trivial, fun h => absurd h (by decide)⟩, by decide⟩
      · go_wp2
        go_ret
        exact ⟨rfl, rfl⟩
    · have ha0 : a = 0 := ha (by decide)
      subst ha0
      by_cases h : b = 0
      · subst h
        go_wp2
        exact ⟨⟨2, by decide, rfl, fun _ => trivial, fun _ => trivial⟩, by decide⟩
      · go_wp2
        go_ret
        exact ⟨rfl, rfl⟩
    · have ha0 : a = 0 := ha (by decide)
      have hb0 : b = 0 := hb (by decide)
      subst ha0 hb0
      go_wp2
      go_ret
      exact ⟨rfl, rfl⟩
set_option maxHeartbeats 2000000 in
set_option maxRecDepth 20000 in
theorem cmp_any (w : World) (x y : Ent) :
    Calls Try.prog 64 #[x.agg, y.agg] w fun e w' => e = .returned (.int .i64 (cmpE x y)) ∧ Below w.heap.size w w' := by
  obtain ⟨K, S, D, V⟩ := x
  obtain ⟨K', S', D', V'⟩ := y
  show Calls Try.prog 64 #[.agg #[.string K, .int .i64 S, .bool D, .string V], .agg #[.string K', .int .i64 S', .bool D', .string V']] w _
  go_enter Try.func64, Try.ntmps64
  have hb : Below w.heap.size w ((w.alloc (.cells #[.string K, .int .i64 S, .bool D, .string V] 41)).alloc (.cells #[.string K', .int .i64 S', .bool D', .string V'] 41)) := ((Below.refl _ _).alloc (Nat.le_refl _) _).alloc (by simp) _
  have r0 : ((w.alloc (.cells #[.string K, .int .i64 S, .bool D, .string V] 41)).alloc (.cells #[.string K', .int .i64 S', .bool D', .string V'] 41)).heap[w.heap.size]? = some (.cells #[.string K, .int .i64 S, .bool D, .string V] 41) := by
    rw [heap_alloc_old _ _ (by simp)]
    exact heap_alloc_new w _
  have r1 : ((w.alloc (.cells #[.string K, .int .i64 S, .bool D, .string V] 41)).alloc (.cells #[.string K', .int .i64 S', .bool D', .string V'] 41)).heap[w.heap.size + 1]? = some (.cells #[.string K', .int .i64 S', .bool D', .string V'] 41) := by
    have h := heap_alloc_new (w.alloc (.cells #[.string K, .int .i64 S, .bool D, .string V] 41)) (.cells #[.string K', .int .i64 S', .bool D', .string V'] 41)
    rw [show (w.alloc (.cells #[.string K, .int .i64 S, .bool D, .string V] 41)).heap.size = w.heap.size + 1 by simp] at h
    exact h
  have c00 : ((w.alloc (.cells #[.string K, .int .i64 S, .bool D, .string V] 41)).alloc (.cells #[.string K', .int .i64 S', .bool D', .string V'] 41)).cell? ⟨w.heap.size, 0, none⟩ = some (.string K) := by rw [cell_of_row _ _ 0 _ _ _ r0]; rfl
  have c01 : ((w.alloc (.cells #[.string K, .int .i64 S, .bool D, .string V] 41)).alloc (.cells #[.string K', .int .i64 S', .bool D', .string V'] 41)).cell? ⟨w.heap.size, 1, none⟩ = some (.int .i64 S) := by rw [cell_of_row _ _ 1 _ _ _ r0]; rfl
  have c10 : ((w.alloc (.cells #[.string K, .int .i64 S, .bool D, .string V] 41)).alloc (.cells #[.string K', .int .i64 S', .bool D', .string V'] 41)).cell? ⟨w.heap.size + 1, 0, none⟩ = some (.string K') := by rw [cell_of_row _ _ 0 _ _ _ r1]; rfl
  have c11 : ((w.alloc (.cells #[.string K, .int .i64 S, .bool D, .string V] 41)).alloc (.cells #[.string K', .int .i64 S', .bool D', .string V'] 41)).cell? ⟨w.heap.size + 1, 1, none⟩ = some (.int .i64 S') := by rw [cell_of_row _ _ 1 _ _ _ r1]; rfl
  clear r0 r1
  go_wp2
  generalize (w.alloc (.cells #[.string K, .int .i64 S, .bool D, .string V] 41)).alloc (.cells #[.string K', .int .i64 S', .bool D', .string V'] 41) = W at hb c00 c01 c10 c11 ⊢
  go_still_tail 10, (by kernel_rfl)
  still_call (scmp_any _ K K')
  repeat still_step
  still_call (icmp_any _ S' S)
  repeat still_step
  refine wpStill_nil ?_
  change wpList _ _ _ _ _ W.drew
  generalize hw2 : W.drew = w2
  have hb2 : Below w.heap.size w w2 := by rw [← hw2]; exact ⟨hb.os, hb.tape, hb.output, hb.size, hb.block⟩
  clear hw2 hb c00 c01 c10 c11
  obtain ⟨c1, hc1⟩ : ∃ c1, c1 = Lib.compareBytes K.data.toList K'.data.toList := ⟨_, rfl⟩
  obtain ⟨c2, hc2⟩ : ∃ c2, c2 = cmpI S' S := ⟨_, rfl⟩
  rw [← hc1, ← hc2]
  have HC1 := Lib.hid hc1
  have HC2 := Lib.hid hc2
  clear hc1 hc2
  go_wp2_with fail
  have hg := heap_alloc_new w2 (.cells #[.int .i64 c1, .int .i64 c2] 3)
  refine (ior_any _ w2.heap.size c1 c2 (by rw [cell_of_row _ _ 0 _ _ _ hg]; rfl) (by rw [cell_of_row _ _ 1 _ _ _ hg]; rfl)).mono ?_
  rintro e w3 ⟨rfl, rfl⟩
  have hres : (if c1 = 0 then c2 else c1) = cmpE ⟨K, S, D, V⟩ ⟨K', S', D', V'⟩ := by rw [HC1.out, HC2.out]; rfl
  rw [hres]
  go_wp2
  go_ret
  exact ⟨rfl, hb2.alloc hb2.size _⟩
end Go.Proofs.Ytanieolnaiihmaa.M6
namespace Go.Proofs.Ytanieolnaiihmaa.M6
section
open Lib (compareBytes)
theorem cb_refl : ∀ a, compareBytes a a = 0
  | [] => rfl
  | x :: a => by
    rw [compareBytes, if_neg (UInt8.lt_irrefl x), if_neg (UInt8.lt_irrefl x)]
    exact cb_refl a
theorem cb_eq : ∀ a b, compareBytes a b = 0 → a = b
  | [], [], _ => rfl
  | [], _ :: _, h => by simp [compareBytes] at h
  | _ :: _, [], h => by simp [compareBytes] at h
  | x :: a, y :: b, h => by
    rw [compareBytes] at h
    split at h
    · simp at h
    · split at h
      · simp at h
      · rename_i h1 h2
        have : x = y := by
          rw [UInt8.lt_iff_toNat_lt] at h1 h2
          exact UInt8.toNat_inj.1 (by omega)
        rw [this, cb_eq a b h]
theorem cb_swap : ∀ a b, compareBytes b a = - compareBytes a b
  | [], [] => rfl
  | [], _ :: _ => rfl
  | _ :: _, [] => rfl
  | x :: a, y :: b => by
    rw [compareBytes, compareBytes]
    have h3 := cb_swap a b
    by_cases h1 : x < y
    · have h2 : ¬ y < x := by rw [UInt8.lt_iff_toNat_lt] at h1 ⊢; omega
      rw [if_neg h2, if_pos h1, if_pos h1]; rfl
    · by_cases h2 : y < x
      · rw [if_pos h2, if_neg h1, if_pos h2]
      · rw [if_neg h2, if_neg h1, if_neg h1, if_neg h2]; exact h3
theorem cb_trans : ∀ a b c, compareBytes a b < 0 → compareBytes b c < 0 → compareBytes a c < 0
  | [], [], _, h, _ => by simp [compareBytes] at h
  | _ :: _, [], _, h, _ => by simp [compareBytes] at h
  | _, _ :: _, [], _, h => by simp [compareBytes] at h
  | [], _ :: _, _ :: _, _, _ => by simp [compareBytes]
  | x :: a, y :: b, z :: c, h, h' => by
    rw [compareBytes] at h h' ⊢
    have ih := cb_trans a b c
    simp only [UInt8.lt_iff_toNat_lt] at h h' ⊢
    by_cases h1 : x.toNat < y.toNat
    · by_cases h2 : y.toNat < z.toNat
      · rw [if_pos (by omega)]; decide
      · rw [if_neg h2] at h'
        by_cases h3 : z.toNat < y.toNat
        · rw [if_pos h3] at h'; simp at h'
        · rw [if_pos (by omega)]; decide
    · rw [if_neg h1] at h
      by_cases h2 : y.toNat < x.toNat
      · rw [if_pos h2] at h; simp at h
      · rw [if_neg h2] at h
        by_cases h3 : y.toNat < z.toNat
        · rw [if_pos (by omega)]; decide
        · rw [if_neg h3] at h'
          by_cases h4 : z.toNat < y.toNat
          · rw [if_pos h4] at h'; simp at h'
          · rw [if_neg h4] at h'
            rw [if_neg (by omega), if_neg (by omega)]
            exact ih h h'
theorem cb_less : ∀ a b, Op.bytesLess a b = decide (compareBytes a b < 0)
  | [], [] => rfl
  | [], _ :: _ => rfl
  | _ :: _, [] => rfl
  | x :: a, y :: b => by
    have ih := cb_less a b
    rw [compareBytes]
    simp only [Op.bytesLess, UInt8.lt_iff_toNat_lt, ih]
    by_cases h1 : x.toNat < y.toNat
    · rw [if_pos h1, decide_eq_true h1]; rfl
    · rw [if_neg h1, decide_eq_false h1, Bool.false_or]
      by_cases h2 : y.toNat < x.toNat
      · rw [if_pos h2]
        have : (x == y) = false := by
          rw [beq_eq_false_iff_ne]
          intro e
          rw [e] at h2
          omega
        rw [this]; rfl
      · rw [if_neg h2]
        have : (x == y) = true := by
          rw [beq_iff_eq]
          exact UInt8.toNat_inj.1 (by omega)
        rw [this, Bool.true_and]
end
theorem cmpI_swap (a b : Int) : cmpI b a = - cmpI a b := by unfold cmpI; split <;> split <;> first | rfl | omega
theorem cmpI_zero {a b : Int} (h : cmpI a b = 0) : a = b := by
  unfold cmpI at h
  split at h
  · omega
  · split at h <;> omega
theorem cmpE_swap (x y : Ent) : cmpE y x = - cmpE x y := by
  unfold cmpE
  rw [cb_swap x.key.data.toList y.key.data.toList, cmpI_swap y.seq x.seq]
  by_cases h : Lib.compareBytes x.key.data.toList y.key.data.toList = 0
  · rw [if_pos h, if_pos (by omega)]
  · rw [if_neg h, if_neg (by omega)]
theorem bytes_eq {a b : ByteArray} (h : a.data.toList = b.data.toList) : a = b := by
  cases a; cases b
  simp at h
  rw [h]
theorem cmpE_zero {x y : Ent} (h : cmpE x y = 0) : x.key = y.key ∧ x.seq = y.seq := by
  unfold cmpE at h
  by_cases h1 : Lib.compareBytes x.key.data.toList y.key.data.toList = 0
  · rw [if_pos h1] at h
    exact ⟨bytes_eq (cb_eq _ _ h1), (cmpI_zero h).symm⟩
  · rw [if_neg h1] at h
    exact absurd h h1
theorem cmpE_same {x y : Ent} (h1 : x.key = y.key) (h2 : x.seq = y.seq) : cmpE x y = 0 := by
  unfold cmpE
  rw [h1, h2, cb_refl, if_pos rfl]
  unfold cmpI
  rw [if_neg (by omega), if_neg (by omega)]
theorem cmpI_lt {a b : Int} : cmpI a b < 0 ↔ a < b := by
  unfold cmpI
  split
  · omega
  · split <;> omega
theorem less_cmp (x y : Ent) : lessE x y = decide (cmpE x y < 0) := by
  unfold lessE lessK cmpE
  rw [ByteArray.toList_eq, ByteArray.toList_eq, cb_less]
  by_cases h : Lib.compareBytes x.key.data.toList y.key.data.toList = 0
  · have e := cb_eq _ _ h
    have e2 : (x.key.data.toList == y.key.data.toList) = true := by rw [beq_iff_eq]; exact e
    rw [if_pos h, e2, h, Bool.true_and]
    show (false || decide (y.seq < x.seq)) = _
    rw [Bool.false_or]
    exact decide_eq_decide.2 cmpI_lt.symm
  · have e2 : (x.key.data.toList == y.key.data.toList) = false := by
      rw [beq_eq_false_iff_ne]
      intro e
      rw [e] at h
      exact h (cb_refl _)
    rw [if_neg h, e2, Bool.false_and, Bool.or_false]
theorem cmpE_trans {x y z : Ent} (h1 : cmpE x y < 0) (h2 : cmpE y z < 0) : cmpE x z < 0 := by
  unfold cmpE at *
  by_cases a : Lib.compareBytes x.key.data.toList y.key.data.toList = 0
  · rw [if_pos a] at h1
    have e := cb_eq _ _ a
    rw [e]
    by_cases b : Lib.compareBytes y.key.data.toList z.key.data.toList = 0
    · rw [if_pos b] at h2 ⊢
      rw [cmpI_lt] at *
      omega
    · rw [if_neg b] at h2 ⊢
      exact h2
  · rw [if_neg a] at h1
    by_cases b : Lib.compareBytes y.key.data.toList z.key.data.toList = 0
    · have e := cb_eq _ _ b
      rw [← e, if_neg a]
      exact h1
    · rw [if_neg b] at h2
      have h3 := cb_trans _ _ _ h1 h2
      rw [if_neg (by omega)]
      exact h3
end Go.Proofs.Ytanieolnaiihmaa.M6
namespace Go.Proofs.Ytanieolnaiihmaa.M6
open Go.RowKit
/-- A node: its block, its version, its tower's height. -/
structure Nd where
  b : Nat
  x : Ent
  h : Nat
/-- The next node that is higher than L. -/
def nx (L : Nat) : List Nd → Option Nat
  | [] => none
  | d :: r => if L < d.h then some d.b else nx L r
def pv (o : Option Nat) : Value := .pointer (o.map fun b => ⟨b, 0, none⟩)
def links (f : Nat → Option Nat) : List Value := [pv (f 0), pv (f 1), pv (f 2), pv (f 3), pv (f 4), pv (f 5), pv (f 6), pv (f 7)]
def own (d : Nd) (r : List Nd) (L : Nat) : Option Nat := if L < d.h then nx L r else none
def nodeC (d : Nd) (r : List Nd) : List Value := d.x.cells ++ links (own d r)
def noEnt : Ent := ⟨⟨#[]⟩, 0, false, ⟨#[]⟩⟩
def tabC (n bytes : Int) (ns : List Nd) (hv : Value) (turn : Int) : List Value := [.int .i64 n, .int .i64 bytes] ++ noEnt.cells ++ links (fun L => nx L ns) ++ [hv, .int .i64 turn]
theorem links_get (f : Nat → Option Nat) (L : Nat) (h : L < 8) : (links f)[L]? = some (pv (f L)) := by
  obtain rfl | rfl | rfl | rfl | rfl | rfl | rfl | rfl : L = 0 ∨ L = 1 ∨ L = 2 ∨ L = 3 ∨ L = 4 ∨ L = 5 ∨ L = 6 ∨ L = 7 := by omega
  all_goals rfl
theorem links_set (f : Nat → Option Nat) (L : Nat) (o : Option Nat) (h : L < 8) : (links f).set L (pv o) = links (fun K => if K = L then o else f K) := by
  obtain rfl | rfl | rfl | rfl | rfl | rfl | rfl | rfl : L = 0 ∨ L = 1 ∨ L = 2 ∨ L = 3 ∨ L = 4 ∨ L = 5 ∨ L = 6 ∨ L = 7 := by omega
  all_goals rfl
theorem links_len (f : Nat → Option Nat) : (links f).length = 8 := rfl
theorem links_ext {f g : Nat → Option Nat} (h : ∀ L, L < 8 → f L = g L) : links f = links g := by
  unfold links
  rw [h 0 (by decide), h 1 (by decide), h 2 (by decide), h 3 (by decide), h 4 (by decide), h 5 (by decide), h 6 (by decide), h 7 (by decide)]
/-- The nodes lie on the heap. -/
def Chain (w : World) : List Nd → Prop
  | [] => True
  | d :: r => w.heap[d.b]? = some (.cells (nodeC d r).toArray 75 (0, 0)) ∧ Chain w r
theorem Chain.at {w : World} : ∀ {ns : List Nd}, Chain w ns → ∀ (i : Nat) (h : i < ns.length), w.heap[ns[i].b]? = some (.cells (nodeC ns[i] (ns.drop (i + 1))).toArray 75 (0, 0))
  | [], _, i, h => absurd h (Nat.not_lt_zero _)
  | d :: r, hc, 0, h => hc.1
  | d :: r, hc, i + 1, h => by
    have := hc.2.at i (by simpa using h)
    simpa using this
theorem Chain.of {w : World} : ∀ {ns : List Nd}, (∀ (i : Nat) (h : i < ns.length), w.heap[ns[i].b]? = some (.cells (nodeC ns[i] (ns.drop (i + 1))).toArray 75 (0, 0))) → Chain w ns
  | [], _ => trivial
  | d :: r, hc => ⟨hc 0 (by simp), Chain.of fun i h => by
    have := hc (i + 1) (by simpa using h)
    simpa using this⟩
theorem nx_none {L : Nat} : ∀ {l : List Nd}, nx L l = none → ∀ d ∈ l, ¬ L < d.h
  | [], _, d, hd => by cases hd
  | e :: r, h, d, hd => by
    unfold nx at h
    split at h
    · cases h
    · rcases List.mem_cons.1 hd with rfl | hd
      · assumption
      · exact nx_none h d hd
theorem nx_some {L b : Nat} : ∀ {l : List Nd}, nx L l = some b → ∃ q, ∃ h : q < l.length, l[q].b = b ∧ L < l[q].h ∧ ∀ j (hj : j < q), ¬ L < (l[j]'(by omega)).h
  | [], h => by cases h
  | e :: r, h => by
    unfold nx at h
    split at h
    · injection h with h
      exact ⟨0, by simp, h, by assumption, fun j hj => absurd hj (Nat.not_lt_zero _)⟩
    · obtain ⟨q, hq, h1, h2, h3⟩ := nx_some h
      refine ⟨q + 1, by simpa using hq, by simpa using h1, by simpa using h2, fun j hj => ?_⟩
      cases j with
      | zero => assumption
      | succ j => simpa using h3 j (by omega)
theorem nx_skip {L : Nat} : ∀ {a b : List Nd}, (∀ d ∈ a, ¬ L < d.h) → nx L (a ++ b) = nx L b
  | [], _, _ => rfl
  | e :: a, b, h => by
    rw [List.cons_append, nx, if_neg (h e (by simp))]
    exact nx_skip fun d hd => h d (by simp [hd])
theorem nx_front {L : Nat} : ∀ {a b c : List Nd}, (∃ d ∈ a, L < d.h) → nx L (a ++ b) = nx L (a ++ c)
  | [], _, _, ⟨d, hd, _⟩ => by cases hd
  | e :: a, b, c, ⟨d, hd, hL⟩ => by
    rw [List.cons_append, List.cons_append, nx, nx]
    split
    · rfl
    · rename_i hn
      rcases List.mem_cons.1 hd with rfl | hd
      · exact absurd hL hn
      · exact nx_front ⟨d, hd, hL⟩
/-- A table in block t; its heights hs lie in the slice hv. -/
structure Skip (w : World) (B t : Nat) (ns : List Nd) (n bytes : Int) (hv : Value) (hs : List Int) (turn : Int) : Prop where
  tab : w.heap[t]? = some (.cells (tabC n bytes ns hv turn).toArray 77 (0, 0))
  chain : Chain w ns
  tbase : B ≤ t
  nbase : ∀ d ∈ ns, B ≤ d.b ∧ d.b ≠ t
  nodup : (ns.map (·.b)).Nodup
  high : ∀ d ∈ ns, 1 ≤ d.h ∧ d.h ≤ 8
  rise : ns.Pairwise fun a b => cmpE a.x b.x < 0
  hown : w.ownsRow B 3 1 hv hs.length (hs.map (Value.int .i64))
  hne : ∀ k, hv.ownBlock = some k → k ≠ t ∧ ∀ d ∈ ns, d.b ≠ k
  hsOk : ∀ h ∈ hs, 1 ≤ h ∧ h ≤ 8
/-- Where the position p lies: the head, or the node behind which it stands. -/
def pb (t : Nat) (ns : List Nd) : Nat → Nat × Nat
  | 0 => (t, 2)
  | p + 1 => ((ns[p]?.map (·.b)).getD 0, 0)
section
variable {w w' : World} {B t : Nat} {ns : List Nd} {n bytes turn : Int} {hv : Value} {hs : List Int}
theorem Skip.tlt (h : Skip w B t ns n bytes hv hs turn) : t < w.heap.size := (Array.getElem?_eq_some_iff.1 h.tab).1
theorem Skip.nlt (h : Skip w B t ns n bytes hv hs turn) (i : Nat) (hi : i < ns.length) : ns[i].b < w.heap.size := (Array.getElem?_eq_some_iff.1 (h.chain.at i hi)).1
theorem pb_succ (t : Nat) (ns : List Nd) (p : Nat) (h : p < ns.length) : pb t ns (p + 1) = (ns[p].b, 0) := by
  show ((ns[p]?.map (·.b)).getD 0, 0) = _
  rw [List.getElem?_eq_getElem h]
  rfl
/-- The next node from position p on, at the height L. -/
theorem Skip.next (h : Skip w B t ns n bytes hv hs turn) (p L : Nat) (hp : p ≤ ns.length) (hL : L < 8) (hh : p = 0 ∨ ∃ hq : p - 1 < ns.length, L < ns[p - 1].h) :
    w.cell? ⟨(pb t ns p).1, (pb t ns p).2 + 4 + L, none⟩ = some (pv (nx L (ns.drop p))) := by
  cases p with
  | zero =>
    show w.cell? ⟨t, 2 + 4 + L, none⟩ = _
    rw [cell_of_row w t _ _ _ _ h.tab, List.getElem?_toArray, tabC, List.append_assoc, List.append_assoc, List.getElem?_append_right (by simp; omega), List.getElem?_append_right (by simp [noEnt, Ent.cells]; omega),
      List.getElem?_append_left (by simp [noEnt, Ent.cells, links_len]; omega)]
    simp only [noEnt, Ent.cells, List.length_cons, List.length_nil]
    rw [show 2 + 4 + L - (0 + 1 + 1) - (0 + 1 + 1 + 1 + 1) = L by omega, links_get _ _ hL]
    rfl
  | succ p =>
    have hp' : p < ns.length := by omega
    rw [pb_succ t ns p hp']
    show w.cell? ⟨ns[p].b, 0 + 4 + L, none⟩ = _
    rcases hh with hh | ⟨hq, hh⟩
    · omega
    · have hh' : L < ns[p].h := by simpa using hh
      rw [cell_of_row w _ _ _ _ _ (h.chain.at p hp'), List.getElem?_toArray, nodeC, List.getElem?_append_right (by simp [Ent.cells])]
      simp only [Ent.cells, List.length_cons, List.length_nil]
      rw [show 0 + 4 + L - (0 + 1 + 1 + 1 + 1) = L by omega, links_get _ _ hL, own, if_pos hh']
theorem Skip.ent (h : Skip w B t ns n bytes hv hs turn) (i : Nat) (hi : i < ns.length) :
    w.cell? ⟨ns[i].b, 0, none⟩ = some (.string ns[i].x.key) ∧ w.cell? ⟨ns[i].b, 1, none⟩ = some (.int .i64 ns[i].x.seq) ∧ w.cell? ⟨ns[i].b, 2, none⟩ = some (.bool ns[i].x.dead) ∧ w.cell? ⟨ns[i].b, 3, none⟩ = some (.string ns[i].x.val) := by
  have hc := h.chain.at i hi
  refine ⟨?_, ?_, ?_, ?_⟩
  · rw [cell_of_row w _ 0 _ _ _ hc]; rfl
  · rw [cell_of_row w _ 1 _ _ _ hc]; rfl
  · rw [cell_of_row w _ 2 _ _ _ hc]; rfl
  · rw [cell_of_row w _ 3 _ _ _ hc]; rfl
theorem Skip.upd {S : Nat → Prop} (h : Skip w B t ns n bytes hv hs turn) (hu : Upd S w w') (hs' : ∀ k, B ≤ k → k < w.heap.size → ¬ S k) : Skip w' B t ns n bytes hv hs turn where
  tab := (hu.block t h.tlt (hs' t h.tbase h.tlt)).trans h.tab
  chain := Chain.of fun i hi => (hu.block _ (h.nlt i hi) (hs' _ (h.nbase _ (List.getElem_mem hi)).1 (h.nlt i hi))).trans (h.chain.at i hi)
  tbase := h.tbase
  nbase := h.nbase
  nodup := h.nodup
  high := h.high
  rise := h.rise
  hown := own_upd h.hown hu fun k hk => hs' k (h.hown.lt k hk).1 (h.hown.lt k hk).2
  hne := h.hne
  hsOk := h.hsOk
theorem Skip.below (h : Skip w B t ns n bytes hv hs turn) (hb : Below w.heap.size w w') : Skip w' B t ns n bytes hv hs turn := h.upd (S := fun _ => False) (Upd.of_below hb) (fun _ _ _ h => h)
end
end Go.Proofs.Ytanieolnaiihmaa.M6
namespace Go.Proofs.Ytanieolnaiihmaa.M6
open Go.RowKit
def pptr (q : Nat × Nat) : Value := .pointer (some ⟨q.1, q.2, none⟩)
/-- p is the last place ahead of c whose node is higher than L. -/
def IsLp (ns : List Nd) (c L p : Nat) : Prop := p ≤ c ∧ (p = 0 ∨ ∃ hq : p - 1 < ns.length, L < ns[p - 1].h) ∧ ∀ j (hj : j < ns.length), p ≤ j → j < c → ¬ L < ns[j].h
/-- What stands in the list of nodes at the height 8 - k and above. -/
def Outs (t : Nat) (ns : List Nd) (c k : Nat) (O : List Value) : Prop := O.length = 8 ∧ ∀ L, 8 - k ≤ L → L < 8 → ∃ q, IsLp ns c L q ∧ O[L]? = some (pptr (pb t ns q))
/-- A place that the walk may stand at. -/
def At (ns : List Nd) (c L p : Nat) : Prop := p ≤ c ∧ (p = 0 ∨ ∃ hq : p - 1 < ns.length, L < ns[p - 1].h)
theorem outs_next {t : Nat} {ns : List Nd} {c k p : Nat} {O : List Value} (h : Outs t ns c k O) (hk : k < 8) (hp : IsLp ns c (7 - k) p) : Outs t ns c (k + 1) (O.set (7 - k) (pptr (pb t ns p))) := by
  refine ⟨by rw [List.length_set]; exact h.1, fun L h1 h2 => ?_⟩
  by_cases e : L = 7 - k
  · subst e
    exact ⟨p, hp, by rw [List.getElem?_set_self (by rw [h.1]; omega)]⟩
  · obtain ⟨q, h3, h4⟩ := h.2 L (by omega) h2
    exact ⟨q, h3, by rw [List.getElem?_set_ne (by omega)]; exact h4⟩
theorem below_drewNs {B : Nat} {w w' : World} (h : Below B w w') (n : Nat) : Below B w (w'.drewN n) := ⟨h.os, h.tape, h.output, h.size, h.block⟩
/-- The place of an address. -/
def posOf (t : Nat) (ns : List Nd) : Value → Nat
  | .pointer (some a) => (List.range (ns.length + 1)).findIdx (fun p => pb t ns p = (a.block, a.off))
  | _ => 0
theorem pb_inj {w : World} {B t : Nat} {ns : List Nd} {n bytes turn : Int} {hv : Value} {hs : List Int} (h : Skip w B t ns n bytes hv hs turn) {p p' : Nat} (hp : p ≤ ns.length) (hp' : p' ≤ ns.length) (e : pb t ns p = pb t ns p') : p = p' := by
  cases p with
  | zero =>
    cases p' with
    | zero => rfl
    | succ q =>
      have := congrArg Prod.snd e
      simp [pb] at this
  | succ q =>
    cases p' with
    | zero =>
      have := congrArg Prod.snd e
      simp [pb] at this
    | succ q' =>
      rw [pb_succ t ns q (by omega), pb_succ t ns q' (by omega)] at e
      have e1 : ns[q].b = ns[q'].b := congrArg Prod.fst e
      have h1 := (List.getElem_inj (i := q) (j := q') (h₀ := by rw [List.length_map]; omega) (h₁ := by rw [List.length_map]; omega) h.nodup).1 (by simpa using e1)
      rw [h1]
theorem posOf_pb {w : World} {B t : Nat} {ns : List Nd} {n bytes turn : Int} {hv : Value} {hs : List Int} (h : Skip w B t ns n bytes hv hs turn) (p : Nat) (hp : p ≤ ns.length) : posOf t ns (.pointer (some ⟨(pb t ns p).1, (pb t ns p).2, none⟩)) = p := by
  show (List.range (ns.length + 1)).findIdx (fun q => decide (pb t ns q = ((pb t ns p).1, (pb t ns p).2))) = p
  rw [List.findIdx_eq (by rw [List.length_range]; omega)]
  refine ⟨by simp, fun j hj => ?_⟩
  rw [List.getElem_range, decide_eq_false_iff_not]
  intro e
  have := pb_inj h (by omega) hp e
  omega
theorem World.cell?_lt {w : World} {a : Addr} {v : Value} (h : w.cell? a = some v) : a.block < w.heap.size := by
  rcases Nat.lt_or_ge a.block w.heap.size with h1 | h1
  · exact h1
  · unfold World.cell? at h
    rw [Array.getElem?_eq_none h1] at h
    simp at h
set_option maxHeartbeats 8000000 in
set_option maxRecDepth 20000 in
theorem ahead_any (w : World) (B t : Nat) (ns : List Nd) (n bytes : Int) (hv : Value) (hs : List Int) (turn : Int) (x : Ent) (c : Nat) (h : Skip w B t ns n bytes hv hs turn) (hc : c ≤ ns.length)
    (hlt : ∀ j (hj : j < ns.length), j < c → cmpE ns[j].x x < 0) (hge : ∀ j (hj : j < ns.length), c ≤ j → ¬ cmpE ns[j].x x < 0) :
    Calls Try.prog 63 #[.pointer (some ⟨t, 0, none⟩), x.agg] w fun e w' => (∃ O, e = .returned (.agg O.toArray) ∧ Outs t ns c 8 O) ∧ Below w.heap.size w w' := by
  obtain ⟨K, S, D, V⟩ := x
  have HLT := Lib.hid hlt
  have HGE := Lib.hid hge
  have HSK := Lib.hid h
  clear hlt hge h
  show Calls Try.prog 63 #[.pointer (some ⟨t, 0, none⟩), .agg #[.string K, .int .i64 S, .bool D, .string V]] w _
  go_enter Try.func63, Try.ntmps63
  have s1 : (w.alloc (.cells #[.string K, .int .i64 S, .bool D, .string V] 41)).heap.size = w.heap.size + 1 := by simp
  have s2 : ((w.alloc (.cells #[.string K, .int .i64 S, .bool D, .string V] 41)).alloc (.cells (List.replicate 8 (Value.pointer none)).toArray 73)).heap.size = w.heap.size + 2 := by simp
  have rx : (((w.alloc (.cells #[.string K, .int .i64 S, .bool D, .string V] 41)).alloc (.cells (List.replicate 8 (Value.pointer none)).toArray 73)).alloc (.cells (List.replicate 8 (Value.pointer none)).toArray 73)).heap[w.heap.size]? = some (.cells #[.string K, .int .i64 S, .bool D, .string V] 41) := by
    rw [heap_alloc_old _ _ (by rw [s2]; omega), heap_alloc_old _ _ (by rw [s1]; omega)]
    exact heap_alloc_new w _
  have rr : (((w.alloc (.cells #[.string K, .int .i64 S, .bool D, .string V] 41)).alloc (.cells (List.replicate 8 (Value.pointer none)).toArray 73)).alloc (.cells (List.replicate 8 (Value.pointer none)).toArray 73)).heap[w.heap.size + 1]? = some (.cells (List.replicate 8 (Value.pointer none)).toArray 73) := by
    rw [heap_alloc_old _ _ (by rw [s2]; omega), ← s1]
    exact heap_alloc_new _ _
  have ro : (((w.alloc (.cells #[.string K, .int .i64 S, .bool D, .string V] 41)).alloc (.cells (List.replicate 8 (Value.pointer none)).toArray 73)).alloc (.cells (List.replicate 8 (Value.pointer none)).toArray 73)).heap[w.heap.size + 2]? = some (.cells (List.replicate 8 (Value.pointer none)).toArray 73) := by
    rw [← s2]
    exact heap_alloc_new _ _
  have hb : Below w.heap.size w (((w.alloc (.cells #[.string K, .int .i64 S, .bool D, .string V] 41)).alloc (.cells (List.replicate 8 (Value.pointer none)).toArray 73)).alloc (.cells (List.replicate 8 (Value.pointer none)).toArray 73)) := (((Below.refl _ _).alloc (Nat.le_refl _) _).alloc (by rw [s1]; omega) _).alloc (by rw [s2]; omega) _
  clear s1 s2
  go_wp2
  go_loopw [6, 7] (fun av lv wx => ∃ (k p : Nat) (O : List Value), k ≤ 8 ∧ lv = .int .i64 (7 - (k : Int)) ∧ av = pptr (pb t ns p) ∧ p ≤ c ∧ (p = 0 ∨ ∃ hq : p - 1 < ns.length, 8 - k < ns[p - 1].h) ∧ Outs t ns c k O ∧
    wx.heap[w.heap.size + 2]? = some (.cells O.toArray 73 (0, 0)) ∧ wx.heap[w.heap.size]? = some (.cells #[.string K, .int .i64 S, .bool D, .string V] 41) ∧ wx.heap[w.heap.size + 1]? = some (.cells (List.replicate 8 (Value.pointer none)).toArray 73) ∧ Below w.heap.size w wx) (fun _ lv _ => (intOf lv + 1).toNat)
  case atStart => exact ⟨0, 0, List.replicate 8 (Value.pointer none), Nat.zero_le _, rfl, rfl, Nat.zero_le _, .inl rfl, ⟨rfl, fun L h1 h2 => by omega⟩, ro, rx, rr, hb⟩
  case round =>
    clear rx rr ro hb
    obtain ⟨k, p, O, hk, rfl, rfl, hpc, hph, hO, ro, rx, rr, hb⟩ := hrel
    by_cases hlt8 : k < 8
    · have hph2 : p = 0 ∨ ∃ hq : p - 1 < ns.length, 7 - k < ns[p - 1].h := by
        rcases hph with e | ⟨hq, e⟩
        · exact .inl e
        · exact .inr ⟨hq, by omega⟩
      clear hph
      have l1 : 0 ≤ 7 - (k : Int) := by omega
      go_wp2
      try simp only [show decide ((k : Int) ≤ 7) = true from decide_eq_true (by omega)]
      try simp only [show decide (0 ≤ 7 - (k : Int)) = true from decide_eq_true l1]
      go_loopw [6] (fun av wx => ∃ p : Nat, av = pptr (pb t ns p) ∧ At ns c (7 - k) p ∧ wx.heap[w.heap.size + 2]? = some (.cells O.toArray 73 (0, 0)) ∧ wx.heap[w.heap.size]? = some (.cells #[.string K, .int .i64 S, .bool D, .string V] 41) ∧ wx.heap[w.heap.size + 1]? = some (.cells (List.replicate 8 (Value.pointer none)).toArray 73) ∧ Below w.heap.size w wx) (fun av _ => c - posOf t ns av)
      case atStart => exact ⟨p, rfl, ⟨hpc, hph2⟩, ro, rx, rr, hb⟩
      case round =>
        clear hpc hph2 ro rx rr hb
        obtain ⟨p, rfl, ⟨hpc, hph⟩, ro, rx, rr, hb⟩ := hrel
        have skr := HSK.out.below hb
        have cn := skr.next p (7 - k) (by omega) (by omega) hph
        obtain ⟨ab, ao, hpb⟩ : ∃ ab ao, pb t ns p = (ab, ao) := ⟨_, _, rfl⟩
        have hpp : pptr (pb t ns p) = .pointer (some ⟨ab, ao, none⟩) := by rw [hpb]; rfl
        rw [hpb] at cn
        rw [hpp]
        have c0 : wr.cell? ⟨w.heap.size, 0, none⟩ = some (.string K) := by rw [cell_of_row _ _ 0 _ _ _ rx]; rfl
        have c1 : wr.cell? ⟨w.heap.size, 1, none⟩ = some (.int .i64 S) := by rw [cell_of_row _ _ 1 _ _ _ rx]; rfl
        have c2 : wr.cell? ⟨w.heap.size, 2, none⟩ = some (.bool D) := by rw [cell_of_row _ _ 2 _ _ _ rx]; rfl
        have c3 : wr.cell? ⟨w.heap.size, 3, none⟩ = some (.string V) := by rw [cell_of_row _ _ 3 _ _ _ rx]; rfl
        have n1 : (7 - (k : Int)).toNat = 7 - k := by omega
        have m1 : 7 - (k : Int) < 8 := by omega
        obtain ⟨u, hu⟩ : ∃ u, O[7 - k]? = some u := ⟨O[7 - k]'(by rw [hO.1]; omega), List.getElem?_eq_getElem _⟩
        have cS : ∀ W, Below wr.heap.size wr W → W.cell? ⟨w.heap.size + 2, 7 - k, none⟩ = some u := fun W hW => by
          rw [cell_of_row _ _ _ _ _ _ ((hW.block _ (Array.getElem?_eq_some_iff.1 ro).1).trans ro), List.getElem?_toArray]; exact hu
        have fS : ∀ W, Below wr.heap.size wr W → W.frozen? ⟨w.heap.size + 2, 7 - k, none⟩ = false := fun W hW => frozen_of_row _ _ _ _ _ ((hW.block _ (Array.getElem?_eq_some_iff.1 ro).1).trans ro)
        have HEX : Hid (IsLp ns c (7 - k) p → ∀ W, Below wr.heap.size wr W → ∃ (k_1 p_1 : Nat) (O_1 : List Value), k_1 ≤ 8 ∧ Value.int .i64 (7 - (k : Int) - 1) = .int .i64 (7 - (k_1 : Int)) ∧ Value.pointer (some ⟨ab, ao, none⟩) = pptr (pb t ns p_1) ∧ p_1 ≤ c ∧
            (p_1 = 0 ∨ ∃ hq : p_1 - 1 < ns.length, 8 - k_1 < ns[p_1 - 1].h) ∧ Outs t ns c k_1 O_1 ∧
            (W.setCell ⟨w.heap.size + 1 + 1, 7 - k, none⟩ (.pointer (some ⟨ab, ao, none⟩))).heap[w.heap.size + 2]? = some (.cells O_1.toArray 73 (0, 0)) ∧
            (W.setCell ⟨w.heap.size + 1 + 1, 7 - k, none⟩ (.pointer (some ⟨ab, ao, none⟩))).heap[w.heap.size]? = some (.cells #[.string K, .int .i64 S, .bool D, .string V] 41) ∧
            (W.setCell ⟨w.heap.size + 1 + 1, 7 - k, none⟩ (.pointer (some ⟨ab, ao, none⟩))).heap[w.heap.size + 1]? = some (.cells (List.replicate 8 (Value.pointer none)).toArray 73) ∧
            Below w.heap.size w (W.setCell ⟨w.heap.size + 1 + 1, 7 - k, none⟩ (.pointer (some ⟨ab, ao, none⟩)))) := Lib.hid fun hlp W hW => by
          have g1 := (hW.block _ (Array.getElem?_eq_some_iff.1 ro).1).trans ro
          have g2 := (hW.block _ (Array.getElem?_eq_some_iff.1 rx).1).trans rx
          have g3 := (hW.block _ (Array.getElem?_eq_some_iff.1 rr).1).trans rr
          refine ⟨k + 1, p, O.set (7 - k) (pptr (pb t ns p)), by omega, by congr 1; omega, hpp.symm, hpc, ?_, outs_next hO hlt8 hlp, ?_, ?_, ?_, ?_⟩
          · rcases hph with e | ⟨hq, e⟩
            · exact .inl e
            · exact .inr ⟨hq, by omega⟩
          · have h1 := heap_setCell_same W (w.heap.size + 2) (7 - k) _ _ (.pointer (some ⟨ab, ao, none⟩)) g1
            rw [List.setIfInBounds_toArray, ← hpp] at h1
            rw [← hpp]
            exact h1
          · rw [heap_setCell_other _ _ _ _ (by show w.heap.size ≠ w.heap.size + 1 + 1; omega)]; exact g2
          · rw [heap_setCell_other _ _ _ _ (by show w.heap.size + 1 ≠ w.heap.size + 1 + 1; omega)]; exact g3
          · exact (hb.trans (hW.mono hb.size)).setCell (p := ⟨w.heap.size + 1 + 1, 7 - k, none⟩) (by show w.heap.size ≤ w.heap.size + 1 + 1; omega) _
        have CS := Lib.hid cS
        have FS := Lib.hid fS
        clear cS fS hu
        cases hnx : nx (7 - k) (ns.drop p) with
        | none =>
          rw [hnx] at cn
          change wr.cell? ⟨ab, ao + 4 + (7 - k), none⟩ = some (.pointer none) at cn
          have hlp : IsLp ns c (7 - k) p := ⟨hpc, hph, fun j hj h1 _ => by
            have := nx_none hnx ns[j] (by rw [List.mem_drop_iff_getElem]; exact ⟨j - p, by omega, by congr 1; omega⟩)
            exact this⟩
          have HLP := Lib.hid hlp
          have cS := CS.out wr (Below.refl _ _)
          have fS := FS.out wr (Below.refl _ _)
          clear hlp hO hpp ro rx rr skr hnx hpb hb hph
          go_wp2
          first
            | go_quiet (fail)
            | fail
          go_wp2
          refine ⟨HEX.out HLP.out (wr.drewN nq) (below_drewNs (Below.refl _ _) _), ?_⟩
          simp [intOf]; omega
        | some b =>
          rw [hnx] at cn
          change wr.cell? ⟨ab, ao + 4 + (7 - k), none⟩ = some (.pointer (some ⟨b, 0, none⟩)) at cn
          obtain ⟨q, hq, hqb, hqh, hqj⟩ := nx_some hnx
          have hpq : p + q < ns.length := by rw [List.length_drop] at hq; omega
          rw [List.getElem_drop] at hqb hqh
          obtain ⟨y, hy⟩ : ∃ y, y = ns[p + q].x := ⟨_, rfl⟩
          have he := skr.ent (p + q) hpq
          rw [hqb, ← hy] at he
          obtain ⟨e0, e1, e2, e3⟩ := he
          obtain ⟨K', S', D', V'⟩ := y
          change wr.cell? ⟨b, 0, none⟩ = some (.string K') at e0
          change wr.cell? ⟨b, 1, none⟩ = some (.int .i64 S') at e1
          change wr.cell? ⟨b, 2, none⟩ = some (.bool D') at e2
          change wr.cell? ⟨b, 3, none⟩ = some (.string V') at e3
          obtain ⟨z, hz⟩ : ∃ z, z = cmpE ⟨K', S', D', V'⟩ ⟨K, S, D, V⟩ := ⟨_, rfl⟩
          have hbl : b < wr.heap.size := by rw [← hqb]; exact skr.nlt _ hpq
          have hal : ab < wr.heap.size := World.cell?_lt cn
          have hxl : w.heap.size < wr.heap.size := (Array.getElem?_eq_some_iff.1 rx).1
          have HS : Hid (∀ W', Below wr.heap.size wr W' → Below wr.heap.size wr W' ∧ W'.cell? ⟨ab, ao + 4 + (7 - k), none⟩ = some (.pointer (some ⟨b, 0, none⟩)) ∧ W'.cell? ⟨b, 0, none⟩ = some (.string K') ∧ W'.cell? ⟨b, 1, none⟩ = some (.int .i64 S') ∧ W'.cell? ⟨b, 2, none⟩ = some (.bool D') ∧ W'.cell? ⟨b, 3, none⟩ = some (.string V') ∧ W'.cell? ⟨w.heap.size, 0, none⟩ = some (.string K) ∧ W'.cell? ⟨w.heap.size, 1, none⟩ = some (.int .i64 S) ∧ W'.cell? ⟨w.heap.size, 2, none⟩ = some (.bool D) ∧ W'.cell? ⟨w.heap.size, 3, none⟩ = some (.string V)) := Lib.hid fun W' hW => ⟨hW, (hW.cell (p := ⟨ab, ao + 4 + (7 - k), none⟩) hal).trans cn, (hW.cell (p := ⟨b, 0, none⟩) hbl).trans e0, (hW.cell (p := ⟨b, 1, none⟩) hbl).trans e1, (hW.cell (p := ⟨b, 2, none⟩) hbl).trans e2, (hW.cell (p := ⟨b, 3, none⟩) hbl).trans e3,
            (hW.cell (p := ⟨w.heap.size, 0, none⟩) hxl).trans c0, (hW.cell (p := ⟨w.heap.size, 1, none⟩) hxl).trans c1, (hW.cell (p := ⟨w.heap.size, 2, none⟩) hxl).trans c2, (hW.cell (p := ⟨w.heap.size, 3, none⟩) hxl).trans c3⟩
          have HCM : Hid (∀ W', Below wr.heap.size wr W' → Calls Try.prog 64 #[.agg #[.string K', .int .i64 S', .bool D', .string V'], .agg #[.string K, .int .i64 S, .bool D, .string V]] W' (fun e w' => e = .returned (.int .i64 z) ∧ Below wr.heap.size wr w')) := Lib.hid fun W' hW =>
            (cmp_any W' ⟨K', S', D', V'⟩ ⟨K, S, D, V⟩).mono fun e w' h => ⟨by rw [hz]; exact h.1, hW.trans (h.2.mono hW.size)⟩
          have hbW0 : Below wr.heap.size wr wr := Below.refl _ _
          have hbW1 : Below wr.heap.size wr wr.drew := ⟨rfl, rfl, rfl, Nat.le_refl _, fun _ _ => rfl⟩
          have hzc : z < 0 ↔ p + q < c := by
            rw [hz, hy]
            constructor
            · intro h
              rcases Nat.lt_or_ge (p + q) c with h' | h'
              · exact h'
              · exact absurd h (Int.not_lt.2 (HGE.out _ hpq h'))
            · intro h
              exact HLT.out _ hpq h
          have hnp : pb t ns (p + q + 1) = (b, 0) := by rw [pb_succ t ns (p + q) hpq, hqb]
          have hps := posOf_pb skr p (by omega)
          have hps2 := posOf_pb skr (p + q + 1) (by omega)
          rw [hnp] at hps2
          rw [hpb] at hps
          have HRO := Lib.hid ro
          have HRX := Lib.hid rx
          have HRR := Lib.hid rr
          have HBB := Lib.hid hb
          have HQ1 := Lib.hid hqh
          have HQ2 := Lib.hid hqj
          have HNP := Lib.hid hnp
          have HPS := Lib.hid hps
          have HPS2 := Lib.hid hps2
          have HPH := Lib.hid hph
          by_cases hic : p + q < c
          · have hz0 : z < 0 := hzc.2 hic
            clear hO hpp ro rx rr skr hnx hpb hb hph hqh hqj hnp hps hps2 hy hz hzc
            go_wp2
            first
              | go_region_held3 (fun W' => Below wr.heap.size wr W' ∧ W'.cell? ⟨ab, ao + 4 + (7 - k), none⟩ = some (.pointer (some ⟨b, 0, none⟩)) ∧ W'.cell? ⟨b, 0, none⟩ = some (.string K') ∧ W'.cell? ⟨b, 1, none⟩ = some (.int .i64 S') ∧ W'.cell? ⟨b, 2, none⟩ = some (.bool D') ∧ W'.cell? ⟨b, 3, none⟩ = some (.string V') ∧ W'.cell? ⟨w.heap.size, 0, none⟩ = some (.string K) ∧ W'.cell? ⟨w.heap.size, 1, none⟩ = some (.int .i64 S) ∧ W'.cell? ⟨w.heap.size, 2, none⟩ = some (.bool D) ∧ W'.cell? ⟨w.heap.size, 3, none⟩ = some (.string V)) (first | exact HS.out _ (by assumption) | assumption | fail) (first
                | (go_at_call 64; refine (HCM.out _ (by first | assumption | exact And.left (by assumption))).mono ?_; rintro e w2 ⟨rfl, hb2⟩)
                | fail)
              | fail
            obtain ⟨_, cn2, _⟩ := HS.out _ hb2
            go_wp2
            refine ⟨⟨p + q + 1, ?_, ⟨by omega, .inr ⟨by simpa using hpq, by simpa using HQ1.out⟩⟩, (hb2.block _ (Array.getElem?_eq_some_iff.1 HRO.out).1).trans HRO.out, (hb2.block _ hxl).trans HRX.out, (hb2.block _ (Array.getElem?_eq_some_iff.1 HRR.out).1).trans HRR.out, HBB.out.trans (hb2.mono HBB.out.size)⟩, ?_⟩
            · rw [HNP.out]; rfl
            · rw [HPS.out, HPS2.out]; omega
          · have hz0 : ¬ z < 0 := fun h => hic (hzc.1 h)
            have hlp : IsLp ns c (7 - k) p := ⟨hpc, hph, fun j hj h1 h2 => by
              have := hqj (j - p) (by omega)
              rw [List.getElem_drop] at this
              simpa [show p + (j - p) = j by omega] using this⟩
            have HLP := Lib.hid hlp
            clear hlp hO hpp ro rx rr skr hnx hpb hb hph hqh hqj hnp hps hps2 hy hz hzc
            go_wp2
            first
              | go_region_held3 (fun W' => Below wr.heap.size wr W' ∧ W'.cell? ⟨ab, ao + 4 + (7 - k), none⟩ = some (.pointer (some ⟨b, 0, none⟩)) ∧ W'.cell? ⟨b, 0, none⟩ = some (.string K') ∧ W'.cell? ⟨b, 1, none⟩ = some (.int .i64 S') ∧ W'.cell? ⟨b, 2, none⟩ = some (.bool D') ∧ W'.cell? ⟨b, 3, none⟩ = some (.string V') ∧ W'.cell? ⟨w.heap.size, 0, none⟩ = some (.string K) ∧ W'.cell? ⟨w.heap.size, 1, none⟩ = some (.int .i64 S) ∧ W'.cell? ⟨w.heap.size, 2, none⟩ = some (.bool D) ∧ W'.cell? ⟨w.heap.size, 3, none⟩ = some (.string V)) (first | exact HS.out _ (by assumption) | assumption | fail) (first
                | (go_at_call 64; refine (HCM.out _ (by first | assumption | exact And.left (by assumption))).mono ?_; rintro e w2 ⟨rfl, hb2⟩)
                | fail)
              | fail
            have cS := CS.out _ hb2
            have fS := FS.out _ hb2
            go_wp2
            refine ⟨HEX.out HLP.out w2 hb2, ?_⟩
            simp [intOf]; omega
    · obtain rfl : k = 8 := by omega
      obtain ⟨C, hC⟩ : ∃ C, C = O.toArray := ⟨_, rfl⟩
      have hCs : C.size = 8 := by rw [hC, List.size_toArray]; exact hO.1
      have h1c : C.all (·.oneCell') = true := by
        rw [hC, Array.all_eq_true_iff_forall_mem]
        intro v hv
        rw [List.mem_toArray, List.mem_iff_getElem?] at hv
        obtain ⟨L, hL⟩ := hv
        have hl : L < 8 := by have := (List.getElem?_eq_some_iff.1 hL).1; rw [hO.1] at this; exact this
        obtain ⟨q, _, h2⟩ := hO.2 L (by omega) hl
        rw [hL] at h2
        injection h2 with h2
        rw [h2]; rfl
      rw [← hC] at ro
      have HC := Lib.hid hC
      have HO := Lib.hid hO
      clear hC hO hph
      go_wp2_with (first
        | refine wpList_load_row rfl 73 (.tmp 5) rfl (w.heap.size + 2) rfl 73 C (0, 0) _ (by exact ro) rfl rfl (by rw [hCs]; rfl) ?_
        | refine wpList_store_rowTo rfl 73 (.tmp 4) (.tmp 45) rfl rfl (w.heap.size + 1) C rfl rfl 73 _ (by exact rr) (by rw [hCs]; rfl) (by rw [hCs]; rfl) h1c ?_)
      refine bodyPost_ret (results_cell_row rfl _ _ (w.heap.size + 1) 73 C (0, 0) _ rfl (setRow_heap _ _ _ _ _ _ rr) rfl rfl (by rw [hCs]; rfl)) rfl ?_
      exact ⟨⟨O, by rw [HC.out], HO.out⟩, below_setRow hb (by omega) _⟩
end Go.Proofs.Ytanieolnaiihmaa.M6
namespace Go.Proofs.Ytanieolnaiihmaa.M6
open Go.RowKit
set_option maxRecDepth 20000
theorem list8 {α : Type} (l : List α) (h : l.length = 8) : ∃ a0 a1 a2 a3 a4 a5 a6 a7, l = [a0, a1, a2, a3, a4, a5, a6, a7] := by
  match l, h with
  | [a0, a1, a2, a3, a4, a5, a6, a7], _ => exact ⟨_, _, _, _, _, _, _, _, rfl⟩
theorem nx0 : ∀ {l : List Nd}, (∀ d ∈ l, 1 ≤ d.h) → nx 0 l = l.head?.map (·.b)
  | [], _ => rfl
  | d :: r, h => by rw [nx, if_pos (show 0 < d.h from h d (by simp))]; rfl
/-- How many versions stand ahead. -/
def cutOf (ns : List Nd) (x : Ent) : Nat := (ns.takeWhile fun d => decide (cmpE d.x x < 0)).length
theorem cutOf_le (ns : List Nd) (x : Ent) : cutOf ns x ≤ ns.length := List.Sublist.length_le (List.takeWhile_sublist _)
theorem cutOf_lt : ∀ (ns : List Nd) (x : Ent) (j : Nat) (hj : j < ns.length), j < cutOf ns x → cmpE ns[j].x x < 0
  | [], _, j, hj, _ => absurd hj (Nat.not_lt_zero _)
  | d :: r, x, j, hj, h => by
    unfold cutOf at h
    rw [List.takeWhile_cons] at h
    split at h
    · rename_i hd
      cases j with
      | zero => simpa using hd
      | succ j => exact cutOf_lt r x j (by simpa using hj) (by unfold cutOf; simpa using h)
    · simp at h
theorem cutOf_ge : ∀ (ns : List Nd) (x : Ent), (ns.Pairwise fun a b => cmpE a.x b.x < 0) → ∀ (j : Nat) (hj : j < ns.length), cutOf ns x ≤ j → ¬ cmpE ns[j].x x < 0
  | [], _, _, j, hj, _ => absurd hj (Nat.not_lt_zero _)
  | d :: r, x, hp, j, hj, h => by
    unfold cutOf at h
    rw [List.takeWhile_cons] at h
    rw [List.pairwise_cons] at hp
    split at h
    · cases j with
      | zero => simp at h
      | succ j => exact cutOf_ge r x hp.2 j (by simpa using hj) (by unfold cutOf; simpa using h)
    · rename_i hd
      cases j with
      | zero => simpa using hd
      | succ j =>
        intro h2
        have h3 := hp.1 (r[j]'(by simpa using hj)) (List.getElem_mem _)
        exact hd (by simpa using cmpE_trans h3 h2)
theorem lp_zero {ns : List Nd} {c p : Nat} (h : IsLp ns c 0 p) (hc : c ≤ ns.length) (hh : ∀ d ∈ ns, 1 ≤ d.h) : p = c := by
  rcases Nat.lt_or_ge p c with h1 | h1
  · exact absurd (hh _ (List.getElem_mem (show p < ns.length by omega))) (by have := h.2.2 p (by omega) (Nat.le_refl _) h1; omega)
  · have := h.1; omega
section
variable {w w' : World} {B t : Nat} {ns : List Nd} {n bytes turn : Int} {hv : Value} {hs : List Int}
set_option maxHeartbeats 2000000 in
theorem from_any (w : World) (x : Ent) (h : Skip w B t ns n bytes hv hs turn) :
    Calls Try.prog 67 #[.pointer (some ⟨t, 0, none⟩), x.agg] w fun e w' => e = .returned (pv ((ns[cutOf ns x]?).map (·.b))) ∧ Below w.heap.size w w' := by
  have HSK := Lib.hid h
  have hA := fun W (hW : Below w.heap.size w W) => ahead_any W B t ns n bytes hv hs turn x (cutOf ns x) (h.below hW) (cutOf_le ns x) (cutOf_lt ns x) (cutOf_ge ns x h.rise)
  have HA := Lib.hid hA
  clear h hA
  obtain ⟨K, S, D, V⟩ := x
  show Calls Try.prog 67 #[.pointer (some ⟨t, 0, none⟩), .agg #[.string K, .int .i64 S, .bool D, .string V]] w _
  go_enter Try.func67, Try.ntmps67
  go_wp2_with fail
  have hb1 : Below w.heap.size w (w.alloc (.cells #[.string K, .int .i64 S, .bool D, .string V] 41)) := (Below.refl _ _).alloc (Nat.le_refl _) _
  refine (HA.out _ hb1).mono ?_
  rintro e w1 ⟨⟨O, rfl, hO⟩, hb2⟩
  obtain ⟨o0, o1, o2, o3, o4, o5, o6, o7, rfl⟩ := list8 O hO.1
  obtain ⟨q, hq, hq2⟩ := hO.2 0 (by decide) (by decide)
  have hqc := lp_zero hq (cutOf_le _ _) (fun d hd => (HSK.out.high d hd).1)
  subst hqc
  have ho0 : o0 = pptr (pb t ns (cutOf ns ⟨K, S, D, V⟩)) := by simpa using hq2
  have hbA : Below w.heap.size w w1 := hb1.trans (hb2.mono hb1.size)
  have sk1 := HSK.out.below hbA
  have cn := sk1.next (cutOf ns ⟨K, S, D, V⟩) 0 (cutOf_le _ _) (by decide) hq.2.1
  rw [nx0 (fun d hd => (HSK.out.high d (List.mem_of_mem_drop hd)).1), List.head?_drop] at cn
  obtain ⟨ab, ao, hpb⟩ : ∃ ab ao, pb t ns (cutOf ns ⟨K, S, D, V⟩) = (ab, ao) := ⟨_, _, rfl⟩
  rw [hpb] at cn ho0
  subst ho0
  change w1.cell? ⟨ab, ao + 4 + 0, none⟩ = _ at cn
  rw [Nat.add_zero] at cn
  obtain ⟨r, hr⟩ : ∃ r, r = pv ((ns[cutOf ns ⟨K, S, D, V⟩]?).map (·.b)) := ⟨_, rfl⟩
  rw [← hr] at cn
  have HR := Lib.hid hr
  unfold pptr
  have hix : (Instr.index 73 (.agg #[.pointer (some ⟨ab, ao, none⟩), o1, o2, o3, o4, o5, o6, o7]) (.int .i64 0)).run Try.prog w1 = .ok (.pointer (some ⟨ab, ao, none⟩)) w1 := rfl
  clear hq2 hq hO sk1 hpb hr
  go_wp2
  go_ret
  exact ⟨by rw [← HR.out]; rfl, hbA⟩
theorem Skip.nodeNext (h : Skip w B t ns n bytes hv hs turn) (i : Nat) (hi : i < ns.length) : w.cell? ⟨ns[i].b, 4, none⟩ = some (pv ((ns[i + 1]?).map (·.b))) := by
  have h1 := h.next (i + 1) 0 (by omega) (by decide) (.inr ⟨by simpa using hi, by have := (h.high _ (List.getElem_mem hi)).1; simp; omega⟩)
  rw [pb_succ t ns i hi, nx0 (fun d hd => (h.high d (List.mem_of_mem_drop hd)).1), List.head?_drop] at h1
  exact h1
def lenOf : Value → Nat
  | .slice _ n _ => n
  | _ => 0
theorem ent_info : (Try.prog.info? 41).map (fun i => (i.zero, i.size, i.bytes)) = some (some (.agg #[.string ⟨#[]⟩, .int .i64 0, .bool false, .string ⟨#[]⟩]), 4, 48) := by kernel_rfl
set_option maxHeartbeats 2000000 in
/-- The versions from the node i on. -/
theorem list_any (w : World) (i : Nat) (h : Skip w B t ns n bytes hv hs turn) (hi : i ≤ ns.length) (hn : ns.length ≤ 1099511627776) :
    Calls Try.prog 66 #[pv ((ns[i]?).map (·.b))] w fun e w' => ∃ v, e = .returned v ∧ w'.ownsRow w.heap.size 41 4 v (ns.length - i) (entv ((ns.map (·.x)).drop i)) ∧ Below w.heap.size w w' := by
  obtain ⟨i0, hi0, hz0, hz1, hz2⟩ := info_parts ent_info
  have HSK := Lib.hid h
  clear h
  generalize hpv : pv ((ns[i]?).map (·.b)) = p0
  go_enter Try.func66, Try.ntmps66
  go_wp2
  go_loopw [0, 3] (fun av v wx => ∃ k : Nat, i ≤ k ∧ k ≤ ns.length ∧ av = pv ((ns[k]?).map (·.b)) ∧ wx.ownsRow w.heap.size 41 4 v (k - i) (entv (((ns.map (·.x)).drop i).take (k - i))) ∧ Below w.heap.size w wx) (fun _ v _ => ns.length - i + 1 - lenOf v)
  case atStart => exact ⟨i, Nat.le_refl _, hi, hpv.symm, by rw [Nat.sub_self]; exact World.ownsRow_nil _ _ _ _, Below.refl _ _⟩
  case round =>
    obtain ⟨k, hik, hkn, rfl, how, hb⟩ := hrel
    obtain ⟨A3, c3, rfl⟩ := own_shape how
    have HOW := Lib.hid how
    have HB := Lib.hid hb
    have hbs := hb.size
    have skr := HSK.out.below hb
    by_cases hlt : k < ns.length
    · obtain ⟨y, hy⟩ : ∃ y, y = ns[k].x := ⟨_, rfl⟩
      have he := skr.ent k hlt
      rw [← hy] at he
      obtain ⟨e0, e1, e2, e3⟩ := he
      have cn := skr.nodeNext k hlt
      obtain ⟨b, hb2⟩ : ∃ b, b = ns[k].b := ⟨_, rfl⟩
      rw [← hb2] at e0 e1 e2 e3 cn
      have hp : pv ((ns[k]?).map (·.b)) = .pointer (some ⟨b, 0, none⟩) := by rw [List.getElem?_eq_getElem hlt, hb2]; rfl
      rw [hp]
      have hst : ((ns.map (·.x)).drop i).take (k + 1 - i) = ((ns.map (·.x)).drop i).take (k - i) ++ [y] := by
        rw [show k + 1 - i = k - i + 1 by omega, List.take_add_one, List.getElem?_drop, show i + (k - i) = k by omega, List.getElem?_map, List.getElem?_eq_getElem hlt, hy]
        rfl
      have hbl0 : b < w.heap.size := by rw [hb2]; exact HSK.out.nlt k hlt
      obtain ⟨nxt, hnx⟩ : ∃ nxt, nxt = pv ((ns[k + 1]?).map (·.b)) := ⟨_, rfl⟩
      rw [← hnx] at cn
      have HST := Lib.hid hst
      have HN := Lib.hid hnx
      have hbl : b < wr.heap.size := by rw [hb2]; exact skr.nlt k hlt
      clear hst hnx hy hb2 hp how hb skr
      go_wp2_with (at_builtin; refine wpList_push rfl (.tmp 11) (.tmp 16) 31 rfl w.heap.size 41 i0 _ 4 48 Try.underlying31 hi0 hz0 hz1 hz2 rfl (by omega) _ (k - i) (entv (((ns.map (·.x)).drop i).take (k - i))) #[.string y.key, .int .i64 y.seq, .bool y.dead, .string y.val] rfl (by exact HOW.out) rfl rfl (by simp [Value.oneCell']) ?c1 ?c2 ?c3 ?_)
      case c1 => omega
      case c2 => unfold maxLen; omega
      all_goals try (exact hbs)
      intro v' w2 ho2 hu2 hra2
      have hb2 := below_row HB.out hbs HOW.out (Nat.le_refl _) hu2
      have ho3 : w2.ownsRow w.heap.size 41 4 v' (k + 1 - i) (entv (((ns.map (·.x)).drop i).take (k + 1 - i))) := by
        rw [HST.out, entv_append, entv_one, show k + 1 - i = k - i + 1 by omega]
        exact ho2
      have cn2 : w2.cell? ⟨b, 4, none⟩ = some nxt := by
        rw [hu2.cell (p := ⟨b, 4, none⟩) hbl (fun e => ?_)]
        · exact cn
        · have := (HOW.out.lt b e).1
          omega
      obtain ⟨A4, c4, rfl⟩ := own_shape ho2
      clear ho2 hra2 cn e0 e1 e2 e3
      go_wp2
      refine ⟨⟨k + 1, by omega, by omega, HN.out, ho3, hb2⟩, ?_⟩
      simp [lenOf]
      omega
    · obtain rfl : k = ns.length := by omega
      have hp : pv ((ns[ns.length]?).map (·.b)) = .pointer none := by rw [List.getElem?_eq_none (Nat.le_refl _)]; rfl
      rw [hp]
      clear hp skr
      go_wp2
      go_ret
      refine ⟨_, rfl, ?_, hb⟩
      rw [List.take_of_length_le (by rw [List.length_drop, List.length_map]; exact Nat.le_refl _)] at how
      exact how
set_option maxHeartbeats 2000000 in
theorem all_any (w : World) (h : Skip w B t ns n bytes hv hs turn) (hn : ns.length ≤ 1099511627776) :
    Calls Try.prog 37 #[.pointer (some ⟨t, 0, none⟩)] w fun e w' => ∃ v, e = .returned v ∧ w'.ownsRow w.heap.size 41 4 v ns.length (entv (ns.map (·.x))) ∧ Below w.heap.size w w' := by
  have hl := list_any w 0 h (Nat.zero_le _) hn
  have cn := h.next 0 0 (Nat.zero_le _) (by decide) (.inl rfl)
  rw [nx0 (fun d hd => (h.high d (List.mem_of_mem_drop hd)).1), List.head?_drop] at cn
  change w.cell? ⟨t, 6, none⟩ = _ at cn
  obtain ⟨r, hr⟩ : ∃ r, r = pv ((ns[0]?).map (·.b)) := ⟨_, rfl⟩
  rw [← hr] at cn hl
  have HL := Lib.hid hl
  clear hl h hr
  go_enter Try.func37, Try.ntmps37
  go_wp2_with fail
  refine (HL.out).mono ?_
  rintro e w1 ⟨v, rfl, ho, hb⟩
  go_wp2
  go_ret
  exact ⟨v, rfl, by simpa using ho, hb⟩
/-- Where the versions from a key on begin. -/
def fromAt (ns : List Nd) (key : ByteArray) : Nat := cutOf ns ⟨key, 9223372036854775807, false, ⟨#[]⟩⟩
set_option maxHeartbeats 2000000 in
theorem fromk_any (w : World) (key : ByteArray) (h : Skip w B t ns n bytes hv hs turn) (hn : ns.length ≤ 1099511627776) :
    Calls Try.prog 40 #[.pointer (some ⟨t, 0, none⟩), .string key] w fun e w' => ∃ v, e = .returned v ∧ w'.ownsRow w.heap.size 41 4 v (ns.length - fromAt ns key) (entv ((ns.map (·.x)).drop (fromAt ns key))) ∧ Below w.heap.size w w' := by
  have hf := from_any w ⟨key, 9223372036854775807, false, ⟨#[]⟩⟩ h
  change Calls _ _ #[.pointer (some ⟨t, 0, none⟩), .agg #[.string key, .int .i64 9223372036854775807, .bool false, .string ⟨#[]⟩]] _ _ at hf
  have HF := Lib.hid hf
  have HL := Lib.hid (fun W (hW : Below w.heap.size w W) => list_any W (fromAt ns key) (h.below hW) (cutOf_le _ _) hn)
  clear hf h
  go_enter Try.func40, Try.ntmps40
  go_wp2_with fail
  refine (HF.out).mono ?_
  rintro e w1 ⟨rfl, hb1⟩
  have hl := HL.out w1 hb1
  unfold fromAt at hl
  obtain ⟨r, hr⟩ : ∃ r, r = pv ((ns[cutOf ns ⟨key, 9223372036854775807, false, ⟨#[]⟩⟩]?).map (·.b)) := ⟨_, rfl⟩
  rw [← hr] at hl ⊢
  have HL2 := Lib.hid hl
  clear hl hr
  go_wp2_with fail
  refine (HL2.out).mono ?_
  rintro e w2 ⟨v, rfl, ho, hb2⟩
  go_wp2
  go_ret
  exact ⟨v, rfl, own_mono ho hb1.size, hb1.trans (hb2.mono hb1.size)⟩
theorem Skip.c0 (h : Skip w B t ns n bytes hv hs turn) : w.cell? ⟨t, 0, none⟩ = some (.int .i64 n) := by rw [cell_of_row w t 0 _ _ _ h.tab]; rfl
theorem Skip.c1 (h : Skip w B t ns n bytes hv hs turn) : w.cell? ⟨t, 1, none⟩ = some (.int .i64 bytes) := by rw [cell_of_row w t 1 _ _ _ h.tab]; rfl
theorem len_any (w : World) (h : Skip w B t ns n bytes hv hs turn) :
    Calls Try.prog 38 #[.pointer (some ⟨t, 0, none⟩)] w fun e w' => e = .returned (.int .i64 n) ∧ w' = w := by
  have c := h.c0
  clear h
  go_enter Try.func38, Try.ntmps38
  go_wp2
  go_ret
  exact ⟨rfl, rfl⟩
end
end Go.Proofs.Ytanieolnaiihmaa.M6
namespace Go.Proofs.Ytanieolnaiihmaa.M6
open Go.RowKit
/-- What 'Get' finds. -/
noncomputable def getN (ns : List Nd) (key : ByteArray) (sq : Int) : Option Ent :=
  match ns[cutOf ns ⟨key, sq, false, ⟨#[]⟩⟩]? with
  | some d => if d.x.key = key then some d.x else none
  | none => none
theorem row4 (w : World) (R : Nat) (T : TypeId) (a b c d a' b' c' d' : Value) (h : w.heap[R]? = some (.cells #[a, b, c, d] T (0, 0))) :
    ((((w.setCell ⟨R, 0, none⟩ a').setCell ⟨R, 1, none⟩ b').setCell ⟨R, 2, none⟩ c').setCell ⟨R, 3, none⟩ d').heap[R]? = some (.cells #[a', b', c', d'] T (0, 0)) ∧
    Upd (fun k => k = R) w ((((w.setCell ⟨R, 0, none⟩ a').setCell ⟨R, 1, none⟩ b').setCell ⟨R, 2, none⟩ c').setCell ⟨R, 3, none⟩ d') := by
  have h0 := heap_setCell_same w R 0 _ _ a' h
  have h1 := heap_setCell_same _ R 1 _ _ b' h0
  have h2 := heap_setCell_same _ R 2 _ _ c' h1
  have h3 := heap_setCell_same _ R 3 _ _ d' h2
  exact ⟨h3, ((((Upd.refl (fun k => k = R) w).setCell ⟨R, 0, none⟩ rfl _).setCell ⟨R, 1, none⟩ rfl _).setCell ⟨R, 2, none⟩ rfl _).setCell ⟨R, 3, none⟩ rfl _⟩
theorem str_ne {a b : ByteArray} (h : ¬ a = b) : (a.toList == b.toList) = false := by
  rw [beq_eq_false_iff_ne]
  intro e
  rw [ByteArray.toList_eq, ByteArray.toList_eq] at e
  exact h (bytes_eq e)
section
variable {w w' : World} {B t : Nat} {ns : List Nd} {n bytes turn : Int} {hv : Value} {hs : List Int}
set_option maxHeartbeats 4000000 in
set_option maxRecDepth 20000 in
theorem get_any (w : World) (key : ByteArray) (sq : Int) (h : Skip w B t ns n bytes hv hs turn) :
    Calls Try.prog 39 #[.pointer (some ⟨t, 0, none⟩), .string key, .int .i64 sq] w fun e w' => e = .returned (.tuple #[((getN ns key sq).getD noEnt).agg, .bool (getN ns key sq).isSome]) ∧ Below w.heap.size w w' := by
  have HSK := Lib.hid h
  have HF := Lib.hid (fun W (hW : Below w.heap.size w W) => from_any W ⟨key, sq, false, ⟨#[]⟩⟩ (h.below hW))
  clear h
  go_enter Try.func39, Try.ntmps39
  go_wp2_with fail
  have hb0 : Below w.heap.size w (w.alloc (.cells #[.string ⟨#[]⟩, .int .i64 0, .bool false, .string ⟨#[]⟩] 41)) := (Below.refl _ _).alloc (Nat.le_refl _) _
  refine (HF.out _ hb0).mono ?_
  rintro e w1 ⟨rfl, hb1⟩
  have hbA : Below w.heap.size w w1 := hb0.trans (hb1.mono hb0.size)
  have rz : w1.heap[w.heap.size]? = some (.cells #[.string ⟨#[]⟩, .int .i64 0, .bool false, .string ⟨#[]⟩] 41 (0, 0)) := (hb1.block _ (by simp)).trans (heap_alloc_new w _)
  have z0 : w1.cell? ⟨w.heap.size, 0, none⟩ = some (.string ⟨#[]⟩) := by rw [cell_of_row _ _ 0 _ _ _ rz]; rfl
  have z1 : w1.cell? ⟨w.heap.size, 1, none⟩ = some (.int .i64 0) := by rw [cell_of_row _ _ 1 _ _ _ rz]; rfl
  have z2 : w1.cell? ⟨w.heap.size, 2, none⟩ = some (.bool false) := by rw [cell_of_row _ _ 2 _ _ _ rz]; rfl
  have z3 : w1.cell? ⟨w.heap.size, 3, none⟩ = some (.string ⟨#[]⟩) := by rw [cell_of_row _ _ 3 _ _ _ rz]; rfl
  have f0 := frozen_of_row w1 w.heap.size 0 _ _ rz
  have f1 := frozen_of_row w1 w.heap.size 1 _ _ rz
  have f2 := frozen_of_row w1 w.heap.size 2 _ _ rz
  have f3 := frozen_of_row w1 w.heap.size 3 _ _ rz
  have skr := HSK.out.below hbA
  cases hc : ns[cutOf ns ⟨key, sq, false, ⟨#[]⟩⟩]? with
  | none =>
    have hg : getN ns key sq = none := by unfold getN; rw [hc]
    have HG := Lib.hid hg
    have RZ := Lib.hid rz
    clear hg hc skr rz
    simp only [pv, Option.map_none]
    go_wp2
    have hF := row4 w1 w.heap.size _ _ _ _ _ (.string ⟨#[]⟩) (.int .i64 0) (.bool false) (.string ⟨#[]⟩) RZ.out
    generalize ((((w1.setCell ⟨w.heap.size, 0, none⟩ (.string ⟨#[]⟩)).setCell ⟨w.heap.size, 1, none⟩ (.int .i64 0)).setCell ⟨w.heap.size, 2, none⟩ (.bool false)).setCell ⟨w.heap.size, 3, none⟩ (.string ⟨#[]⟩)) = wF at hF ⊢
    have r0 : wF.cell? ⟨w.heap.size, 0, none⟩ = some (.string ⟨#[]⟩) := by rw [cell_of_row wF _ 0 _ _ _ hF.1]; rfl
    have r1 : wF.cell? ⟨w.heap.size, 1, none⟩ = some (.int .i64 0) := by rw [cell_of_row wF _ 1 _ _ _ hF.1]; rfl
    have r2 : wF.cell? ⟨w.heap.size, 2, none⟩ = some (.bool false) := by rw [cell_of_row wF _ 2 _ _ _ hF.1]; rfl
    have r3 : wF.cell? ⟨w.heap.size, 3, none⟩ = some (.string ⟨#[]⟩) := by rw [cell_of_row wF _ 3 _ _ _ hF.1]; rfl
    have hbF : Below w.heap.size w wF := hbA.trans (hF.2.below (fun k hk e => by omega) hbA.size)
    exact bodyPost_ret (v := .tuple #[.agg #[(.string ⟨#[]⟩), (.int .i64 0), (.bool false), (.string ⟨#[]⟩)], .bool false]) (by simp [results, Try.results39, go_sem, r0, r1, r2, r3]) rfl ⟨by rw [HG.out]; rfl, hbF⟩
  | some d =>
    have hi := (List.getElem?_eq_some_iff.1 hc)
    obtain ⟨hil, hid⟩ := hi
    have he := skr.ent _ hil
    rw [hid] at he
    have hdl : d.b < w1.heap.size := by have := skr.nlt _ hil; rw [hid] at this; exact this
    obtain ⟨e0, e1, e2, e3⟩ := he
    obtain ⟨b, ⟨K', S', D', V'⟩, hh⟩ := d
    change w1.cell? ⟨b, 0, none⟩ = some (.string K') at e0
    change w1.cell? ⟨b, 1, none⟩ = some (.int .i64 S') at e1
    change w1.cell? ⟨b, 2, none⟩ = some (.bool D') at e2
    change w1.cell? ⟨b, 3, none⟩ = some (.string V') at e3
    by_cases hk : K' = key
    · subst hk
      have hg : getN ns K' sq = some ⟨K', S', D', V'⟩ := by unfold getN; rw [hc]; exact if_pos rfl
      have HG := Lib.hid hg
      have RZ := Lib.hid rz
      clear hg hc skr rz hid hil
      simp only [pv, Option.map_some]
      go_wp2
      have hF := row4 w1 w.heap.size _ _ _ _ _ (.string K') (.int .i64 S') (.bool D') (.string V') RZ.out
      generalize ((((w1.setCell ⟨w.heap.size, 0, none⟩ (.string K')).setCell ⟨w.heap.size, 1, none⟩ (.int .i64 S')).setCell ⟨w.heap.size, 2, none⟩ (.bool D')).setCell ⟨w.heap.size, 3, none⟩ (.string V')) = wF at hF ⊢
      have r0 : wF.cell? ⟨w.heap.size, 0, none⟩ = some (.string K') := by rw [cell_of_row wF _ 0 _ _ _ hF.1]; rfl
      have r1 : wF.cell? ⟨w.heap.size, 1, none⟩ = some (.int .i64 S') := by rw [cell_of_row wF _ 1 _ _ _ hF.1]; rfl
      have r2 : wF.cell? ⟨w.heap.size, 2, none⟩ = some (.bool D') := by rw [cell_of_row wF _ 2 _ _ _ hF.1]; rfl
      have r3 : wF.cell? ⟨w.heap.size, 3, none⟩ = some (.string V') := by rw [cell_of_row wF _ 3 _ _ _ hF.1]; rfl
      have hbF : Below w.heap.size w wF := hbA.trans (hF.2.below (fun k hk e => by omega) hbA.size)
      exact bodyPost_ret (v := .tuple #[.agg #[(.string K'), (.int .i64 S'), (.bool D'), (.string V')], .bool true]) (by simp [results, Try.results39, go_sem, r0, r1, r2, r3]) rfl ⟨by rw [HG.out]; rfl, hbF⟩
    · have hne := str_ne hk
      have hg : getN ns key sq = none := by unfold getN; rw [hc]; exact if_neg hk
      have HG := Lib.hid hg
      have RZ := Lib.hid rz
      clear hg hc skr rz hid hil
      simp only [pv, Option.map_some]
      go_wp2
      have hF := row4 w1 w.heap.size _ _ _ _ _ (.string ⟨#[]⟩) (.int .i64 0) (.bool false) (.string ⟨#[]⟩) RZ.out
      generalize ((((w1.setCell ⟨w.heap.size, 0, none⟩ (.string ⟨#[]⟩)).setCell ⟨w.heap.size, 1, none⟩ (.int .i64 0)).setCell ⟨w.heap.size, 2, none⟩ (.bool false)).setCell ⟨w.heap.size, 3, none⟩ (.string ⟨#[]⟩)) = wF at hF ⊢
      have r0 : wF.cell? ⟨w.heap.size, 0, none⟩ = some (.string ⟨#[]⟩) := by rw [cell_of_row wF _ 0 _ _ _ hF.1]; rfl
      have r1 : wF.cell? ⟨w.heap.size, 1, none⟩ = some (.int .i64 0) := by rw [cell_of_row wF _ 1 _ _ _ hF.1]; rfl
      have r2 : wF.cell? ⟨w.heap.size, 2, none⟩ = some (.bool false) := by rw [cell_of_row wF _ 2 _ _ _ hF.1]; rfl
      have r3 : wF.cell? ⟨w.heap.size, 3, none⟩ = some (.string ⟨#[]⟩) := by rw [cell_of_row wF _ 3 _ _ _ hF.1]; rfl
      have hbF : Below w.heap.size w wF := hbA.trans (hF.2.below (fun k hk e => by omega) hbA.size)
      exact bodyPost_ret (v := .tuple #[.agg #[(.string ⟨#[]⟩), (.int .i64 0), (.bool false), (.string ⟨#[]⟩)], .bool false]) (by simp [results, Try.results39, go_sem, r0, r1, r2, r3]) rfl ⟨by rw [HG.out]; rfl, hbF⟩
end
end Go.Proofs.Ytanieolnaiihmaa.M6
