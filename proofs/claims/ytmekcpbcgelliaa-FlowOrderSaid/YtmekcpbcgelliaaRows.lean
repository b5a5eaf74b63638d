/-
  No cell of these rows narrows 'for every input' (looked for: loops, veiled, ifaces, maps, wideKeys, modest, calm, conditions, laid).
  DERIVED. THE GIVEN ROWS OF THIS SEAT. 6 by the template 'for every input the law returns true; each argument reads behind the call as it read before'; 0 by the template 'total and deterministic' (their statements: YtmekcpbcgelliaaTotals.lean).
  GIVEN WITH THE SEED: the statements are not yours to turn. If you find one false, say at which input.
  Laid BY PROGRAM, IN A SANDBOX (cutbox-rows.mjs): the forced cells as the released guide's own fill.sh prints them over the translation 975d517659ae4a27… (all of the seat's roots in one cut). By AI agents, Wed Nov 11 2026. No macro, syntax, notation, axiom, sorry.
-/
import Derived.Test.YtmekcpbcgelliaaChecked
import GoSem.Claim
import GoSem.ClaimJoined
import GoSem.ClaimMapViews
import Derived.JoinedTies
import Derived.KernelRfl
namespace Go.Proofs.Ytmekcpbcgelliaa
/- THE CELL 'sum', in the pinned program and in every row, IS THE sha256 OF THE DUMP (.gsa) THAT YtmekcpbcgelliaaProg.lean LOADS. Nothing in Lean hashes anything: it is a label: what it is worth is what the hold of that sum in a sandbox is worth. -/
noncomputable def Try.pinned : Pinned := { name := "ytmekcpbcgelliaa", sum := "975d517659ae4a271ed840cc189a4f58f38323d1cae9f0eada66d2c7d267d3e7", checked := Try.checked }
namespace Rows
def none {H : Type} : Left H := { results := [], args := [] }

/-- 'tarmaclaw16.FlowMore': WHATEVER THE INPUT: true; the input reads as it did. -/
def flowMoreSpec : ChangeSpec := { name := "flowMore", fn := fun _ => fun
  | [d1, d2] => { results := [.lit (.bool true)], args := [d1, d2] }
  | _ => none }
def flowMoreRow : OpenClaim := { program := "ytmekcpbcgelliaa", sum := "975d517659ae4a271ed840cc189a4f58f38323d1cae9f0eada66d2c7d267d3e7", func := "tarmac/tarmaclaw16.FlowMore", spec := "flowMore", apart := false }
def FlowMoreSaid : Prop := flowMoreRow.holds Try.pinned (OpenSpec.ofChange flowMoreSpec)

/-- ITS FALSE NEIGHBOUR: 'it returns false'. Refute it at one input. -/
def flowMoreWrong : ChangeSpec := { name := "flowMore", fn := fun _ => fun
  | [d1, d2] => { results := [.lit (.bool false)], args := [d1, d2] }
  | _ => none }
def FlowMoreWrongFalsely : Prop := flowMoreRow.holds Try.pinned (OpenSpec.ofChange flowMoreWrong)

/-- 'tarmaclaw16.FlowMatches': WHATEVER THE INPUT: true; the input reads as it did. -/
def flowMatchesSpec : ChangeSpec := { name := "flowMatches", fn := fun _ => fun
  | [d1, d2, d3] => { results := [.lit (.bool true)], args := [d1, d2, d3] }
  | _ => none }
def flowMatchesRow : OpenClaim := { program := "ytmekcpbcgelliaa", sum := "975d517659ae4a271ed840cc189a4f58f38323d1cae9f0eada66d2c7d267d3e7", func := "tarmac/tarmaclaw16.FlowMatches", spec := "flowMatches", recurses := true, apart := false }
def FlowMatchesSaid : Prop := flowMatchesRow.holds Try.pinned (OpenSpec.ofChange flowMatchesSpec)

/-- ITS FALSE NEIGHBOUR: 'it returns false'. Refute it at one input. -/
def flowMatchesWrong : ChangeSpec := { name := "flowMatches", fn := fun _ => fun
  | [d1, d2, d3] => { results := [.lit (.bool false)], args := [d1, d2, d3] }
  | _ => none }
def FlowMatchesWrongFalsely : Prop := flowMatchesRow.holds Try.pinned (OpenSpec.ofChange flowMatchesWrong)

/-- 'tarmaclaw16.FlowTurned': WHATEVER THE INPUT: true; the input reads as it did. -/
def flowTurnedSpec : ChangeSpec := { name := "flowTurned", fn := fun _ => fun
  | [d] => { results := [.lit (.bool true)], args := [d] }
  | _ => none }
def flowTurnedRow : OpenClaim := { program := "ytmekcpbcgelliaa", sum := "975d517659ae4a271ed840cc189a4f58f38323d1cae9f0eada66d2c7d267d3e7", func := "tarmac/tarmaclaw16.FlowTurned", spec := "flowTurned", apart := false }
def FlowTurnedSaid : Prop := flowTurnedRow.holds Try.pinned (OpenSpec.ofChange flowTurnedSpec)

/-- ITS FALSE NEIGHBOUR: 'it returns false'. Refute it at one input. -/
def flowTurnedWrong : ChangeSpec := { name := "flowTurned", fn := fun _ => fun
  | [d] => { results := [.lit (.bool false)], args := [d] }
  | _ => none }
def FlowTurnedWrongFalsely : Prop := flowTurnedRow.holds Try.pinned (OpenSpec.ofChange flowTurnedWrong)

/-- 'tarmaclaw16.FlowCheapest': WHATEVER THE INPUT: true; the input reads as it did. -/
def flowCheapestSpec : ChangeSpec := { name := "flowCheapest", fn := fun _ => fun
  | [d] => { results := [.lit (.bool true)], args := [d] }
  | _ => none }
def flowCheapestRow : OpenClaim := { program := "ytmekcpbcgelliaa", sum := "975d517659ae4a271ed840cc189a4f58f38323d1cae9f0eada66d2c7d267d3e7", func := "tarmac/tarmaclaw16.FlowCheapest", spec := "flowCheapest", apart := false }
def FlowCheapestSaid : Prop := flowCheapestRow.holds Try.pinned (OpenSpec.ofChange flowCheapestSpec)

/-- ITS FALSE NEIGHBOUR: 'it returns false'. Refute it at one input. -/
def flowCheapestWrong : ChangeSpec := { name := "flowCheapest", fn := fun _ => fun
  | [d] => { results := [.lit (.bool false)], args := [d] }
  | _ => none }
def FlowCheapestWrongFalsely : Prop := flowCheapestRow.holds Try.pinned (OpenSpec.ofChange flowCheapestWrong)

/-- 'tarmaclaw16.FlowOrder': WHATEVER THE INPUT: true; the input reads as it did. -/
def flowOrderSpec : ChangeSpec := { name := "flowOrder", fn := fun _ => fun
  | [d] => { results := [.lit (.bool true)], args := [d] }
  | _ => none }
def flowOrderRow : OpenClaim := { program := "ytmekcpbcgelliaa", sum := "975d517659ae4a271ed840cc189a4f58f38323d1cae9f0eada66d2c7d267d3e7", func := "tarmac/tarmaclaw16.FlowOrder", spec := "flowOrder", apart := false }
def FlowOrderSaid : Prop := flowOrderRow.holds Try.pinned (OpenSpec.ofChange flowOrderSpec)

/-- ITS FALSE NEIGHBOUR: 'it returns false'. Refute it at one input. -/
def flowOrderWrong : ChangeSpec := { name := "flowOrder", fn := fun _ => fun
  | [d] => { results := [.lit (.bool false)], args := [d] }
  | _ => none }
def FlowOrderWrongFalsely : Prop := flowOrderRow.holds Try.pinned (OpenSpec.ofChange flowOrderWrong)

/-- 'tarmaclaw16.FlowGreatest': WHATEVER THE INPUT: true; the input reads as it did. -/
def flowGreatestSpec : ChangeSpec := { name := "flowGreatest", fn := fun _ => fun
  | [d] => { results := [.lit (.bool true)], args := [d] }
  | _ => none }
def flowGreatestRow : OpenClaim := { program := "ytmekcpbcgelliaa", sum := "975d517659ae4a271ed840cc189a4f58f38323d1cae9f0eada66d2c7d267d3e7", func := "tarmac/tarmaclaw16.FlowGreatest", spec := "flowGreatest", apart := false }
def FlowGreatestSaid : Prop := flowGreatestRow.holds Try.pinned (OpenSpec.ofChange flowGreatestSpec)

/-- ITS FALSE NEIGHBOUR: 'it returns false'. Refute it at one input. -/
def flowGreatestWrong : ChangeSpec := { name := "flowGreatest", fn := fun _ => fun
  | [d] => { results := [.lit (.bool false)], args := [d] }
  | _ => none }
def FlowGreatestWrongFalsely : Prop := flowGreatestRow.holds Try.pinned (OpenSpec.ofChange flowGreatestWrong)

/- THE SECOND FORM. 'bulk': how many values and letters a reading holds, each counted each time it is reached (what is shared counts as often as it is met; a slice's spare places count too). A statement '..UptoSaid' is the law's where the arguments, and the package variables that the reading takes, are together of bulk at most 1048576: NARROWER than '..Said'. Prove '..Said' where nothing that the law and all that it calls make is longer than what came in: it says more and counts as full. Else prove '..UptoSaid'. A law counts once. -/
mutual
def uptoBulk {H : Type} : DataW H → Nat
  | .lit (.string bytes) => bytes.length + 1
  | .lit _ => 1
  | .nil => 1
  | .ptr d => uptoBulk d + 1
  | .slice elems spare => uptoBulkAll elems + uptoBulkAll spare + 1
  | .agg parts => uptoBulkAll parts + 1
  | .iface _ d => uptoBulk d + 1
  | .map entries => uptoBulkEntries entries + 1
  | .held _ => 1
def uptoBulkAll {H : Type} : List (DataW H) → Nat
  | [] => 0
  | d :: r => uptoBulk d + uptoBulkAll r
def uptoBulkEntries {H : Type} : List (Lit × DataW H) → Nat
  | [] => 0
  | x :: r => uptoBulkEntry x + uptoBulkEntries r
def uptoBulkEntry {H : Type} : Lit × DataW H → Nat
  | (.string bytes, d) => bytes.length + uptoBulk d + 1
  | (_, d) => uptoBulk d + 1
 end
def uptoSmall : (H : Type) → List (DataW H) → Bool := fun _ ds => decide (uptoBulkAll ds ≤ 1048576)
def OpenSpec.upto (s : _root_.Go.ChangeSpec) : _root_.Go.OpenSpec := { _root_.Go.OpenSpec.ofChange s with cond := some uptoSmall }

/-- 'tarmaclaw16.FlowMore', WHERE WHAT IT READS IS OF BULK AT MOST 1048576: true; the input reads as it did. -/
def flowMoreUptoRow : OpenClaim := { program := "ytmekcpbcgelliaa", sum := "975d517659ae4a271ed840cc189a4f58f38323d1cae9f0eada66d2c7d267d3e7", func := "tarmac/tarmaclaw16.FlowMore", spec := "flowMore", apart := false, narrowed := true }
def FlowMoreUptoSaid : Prop := flowMoreUptoRow.holds Try.pinned (OpenSpec.upto flowMoreSpec)

/-- 'tarmaclaw16.FlowMatches', WHERE WHAT IT READS IS OF BULK AT MOST 1048576: true; the input reads as it did. -/
def flowMatchesUptoRow : OpenClaim := { program := "ytmekcpbcgelliaa", sum := "975d517659ae4a271ed840cc189a4f58f38323d1cae9f0eada66d2c7d267d3e7", func := "tarmac/tarmaclaw16.FlowMatches", spec := "flowMatches", recurses := true, apart := false, narrowed := true }
def FlowMatchesUptoSaid : Prop := flowMatchesUptoRow.holds Try.pinned (OpenSpec.upto flowMatchesSpec)

/-- 'tarmaclaw16.FlowTurned', WHERE WHAT IT READS IS OF BULK AT MOST 1048576: true; the input reads as it did. -/
def flowTurnedUptoRow : OpenClaim := { program := "ytmekcpbcgelliaa", sum := "975d517659ae4a271ed840cc189a4f58f38323d1cae9f0eada66d2c7d267d3e7", func := "tarmac/tarmaclaw16.FlowTurned", spec := "flowTurned", apart := false, narrowed := true }
def FlowTurnedUptoSaid : Prop := flowTurnedUptoRow.holds Try.pinned (OpenSpec.upto flowTurnedSpec)

/-- 'tarmaclaw16.FlowCheapest', WHERE WHAT IT READS IS OF BULK AT MOST 1048576: true; the input reads as it did. -/
def flowCheapestUptoRow : OpenClaim := { program := "ytmekcpbcgelliaa", sum := "975d517659ae4a271ed840cc189a4f58f38323d1cae9f0eada66d2c7d267d3e7", func := "tarmac/tarmaclaw16.FlowCheapest", spec := "flowCheapest", apart := false, narrowed := true }
def FlowCheapestUptoSaid : Prop := flowCheapestUptoRow.holds Try.pinned (OpenSpec.upto flowCheapestSpec)

/-- 'tarmaclaw16.FlowOrder', WHERE WHAT IT READS IS OF BULK AT MOST 1048576: true; the input reads as it did. -/
def flowOrderUptoRow : OpenClaim := { program := "ytmekcpbcgelliaa", sum := "975d517659ae4a271ed840cc189a4f58f38323d1cae9f0eada66d2c7d267d3e7", func := "tarmac/tarmaclaw16.FlowOrder", spec := "flowOrder", apart := false, narrowed := true }
def FlowOrderUptoSaid : Prop := flowOrderUptoRow.holds Try.pinned (OpenSpec.upto flowOrderSpec)

/-- 'tarmaclaw16.FlowGreatest', WHERE WHAT IT READS IS OF BULK AT MOST 1048576: true; the input reads as it did. -/
def flowGreatestUptoRow : OpenClaim := { program := "ytmekcpbcgelliaa", sum := "975d517659ae4a271ed840cc189a4f58f38323d1cae9f0eada66d2c7d267d3e7", func := "tarmac/tarmaclaw16.FlowGreatest", spec := "flowGreatest", apart := false, narrowed := true }
def FlowGreatestUptoSaid : Prop := flowGreatestUptoRow.holds Try.pinned (OpenSpec.upto flowGreatestSpec)

end Rows
end Go.Proofs.Ytmekcpbcgelliaa
