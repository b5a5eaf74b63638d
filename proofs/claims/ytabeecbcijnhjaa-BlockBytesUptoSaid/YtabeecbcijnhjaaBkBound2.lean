/- Blocks: a bound on a block's bytes. -/
import Derived.Test.YtabeecbcijnhjaaBkEnc
import Derived.Test.YtabeecbcijnhjaaBulkEnt
namespace Go.Proofs.Ytabeecbcijnhjaa
open Go.RowKit
theorem entsB_bound (l : List Ent) : ∀ (last : List UInt8), (∀ x ∈ l, (-9223372036854775808 ≤ x.seq ∧ x.seq ≤ 9223372036854775807) ∧ x.key.size ≤ 1048576 ∧ x.val.size ≤ 1048576) → (entsB last l).length ≤ (l.map fun x => 25 * (x.key.size + x.val.size + 2)).sum := by
  induction l with
  | nil => intro last _; simp [entsB]
  | cons x l ih =>
    intro last h
    obtain ⟨⟨h0, h1⟩, h2, h3⟩ := h x List.mem_cons_self
    have hk : x.kl.length = x.key.size := by simp [Ent.kl]
    have hv : x.vl.length = x.val.size := by simp [Ent.vl]
    have a := (entB_len last x h0 h1 (by omega) (by omega)).1
    have b := ih x.kl fun y hy => h y (List.mem_cons_of_mem _ hy)
    rw [entsB, List.length_append, List.map_cons, List.sum_cons]
    omega
theorem sum_mul (l : List Ent) : (l.map fun x => 25 * (x.key.size + x.val.size + 2)).sum = 25 * (l.map fun x => x.key.size + x.val.size + 2).sum := by
  induction l with
  | nil => simp
  | cons x l ih => simp only [List.map_cons, List.sum_cons, ih]; omega
theorem blockB_bound {l : List Ent} {m : Nat} (hl : ∀ x ∈ l, (-9223372036854775808 ≤ x.seq ∧ x.seq ≤ 9223372036854775807) ∧ x.key.size ≤ m ∧ x.val.size ≤ m) (hm : m ≤ 1048576) (hn : l.length ≤ m) (hs : (l.map fun x => x.key.size + x.val.size + 2).sum ≤ 2 * m) : (blockB l).length ≤ 10 + 50 * m := by
  have a := numB_len10 l.length (by omega)
  have b := entsB_bound l [] fun x hx => ⟨(hl x hx).1, by have := (hl x hx).2; omega, by have := (hl x hx).2; omega⟩
  rw [sum_mul] at b
  unfold blockB
  rw [List.length_append]
  omega
end Go.Proofs.Ytabeecbcijnhjaa
