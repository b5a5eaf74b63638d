/-
  No cell of these rows narrows 'for every input' (looked for: loops, veiled, ifaces, maps, wideKeys, modest, calm, conditions, laid).
  DERIVED. THE GIVEN ROWS OF THIS SEAT. 5 by the template 'for every input the law returns true; each argument reads behind the call as it read before'; 0 by the template 'total and deterministic' (their statements: YtkhboengcbgooaaTotals.lean).
  GIVEN WITH THE SEED: the statements are not yours to turn. If you find one false, say at which input.
  Laid BY PROGRAM, IN A SANDBOX (cutbox-rows.mjs): the forced cells as the released guide's own fill.sh prints them over the translation 5417d3ece50be830… (all of the seat's roots in one cut). By AI agents, Wed Nov 11 2026. No macro, syntax, notation, axiom, sorry.
-/
import Derived.Test.YtkhboengcbgooaaChecked
import GoSem.Claim
import GoSem.ClaimJoined
import GoSem.ClaimMapViews
import Derived.JoinedTies
import Derived.KernelRfl
namespace Go.Proofs.Ytkhboengcbgooaa
/- THE CELL 'sum', in the pinned program and in every row, IS THE sha256 OF THE DUMP (.gsa) THAT YtkhboengcbgooaaProg.lean LOADS. Nothing in Lean hashes anything: it is a label: what it is worth is what the hold of that sum in a sandbox is worth. -/
noncomputable def Try.pinned : Pinned := { name := "ytkhboengcbgooaa", sum := "5417d3ece50be8304603fc4cad6c245061db249a6ade7549660baadaa4580b1a", checked := Try.checked }
namespace Rows
def none {H : Type} : Left H := { results := [], args := [] }

/-- 'tarmaclaw15.MatchMore': WHATEVER THE INPUT: true; the input reads as it did. -/
def matchMoreSpec : ChangeSpec := { name := "matchMore", fn := fun _ => fun
  | [d1, d2] => { results := [.lit (.bool true)], args := [d1, d2] }
  | _ => none }
def matchMoreRow : OpenClaim := { program := "ytkhboengcbgooaa", sum := "5417d3ece50be8304603fc4cad6c245061db249a6ade7549660baadaa4580b1a", func := "tarmac/tarmaclaw15.MatchMore", spec := "matchMore", recurses := true, plainKeys := false, apart := false }
def MatchMoreSaid : Prop := matchMoreRow.holds Try.pinned (OpenSpec.ofChange matchMoreSpec)

/-- ITS FALSE NEIGHBOUR: 'it returns false'. Refute it at one input. -/
def matchMoreWrong : ChangeSpec := { name := "matchMore", fn := fun _ => fun
  | [d1, d2] => { results := [.lit (.bool false)], args := [d1, d2] }
  | _ => none }
def MatchMoreWrongFalsely : Prop := matchMoreRow.holds Try.pinned (OpenSpec.ofChange matchMoreWrong)

/-- 'tarmaclaw15.MatchSides': WHATEVER THE INPUT: true; the input reads as it did. -/
def matchSidesSpec : ChangeSpec := { name := "matchSides", fn := fun _ => fun
  | [d] => { results := [.lit (.bool true)], args := [d] }
  | _ => none }
def matchSidesRow : OpenClaim := { program := "ytkhboengcbgooaa", sum := "5417d3ece50be8304603fc4cad6c245061db249a6ade7549660baadaa4580b1a", func := "tarmac/tarmaclaw15.MatchSides", spec := "matchSides", recurses := true, plainKeys := false, apart := false }
def MatchSidesSaid : Prop := matchSidesRow.holds Try.pinned (OpenSpec.ofChange matchSidesSpec)

/-- ITS FALSE NEIGHBOUR: 'it returns false'. Refute it at one input. -/
def matchSidesWrong : ChangeSpec := { name := "matchSides", fn := fun _ => fun
  | [d] => { results := [.lit (.bool false)], args := [d] }
  | _ => none }
def MatchSidesWrongFalsely : Prop := matchSidesRow.holds Try.pinned (OpenSpec.ofChange matchSidesWrong)

/-- 'tarmaclaw15.MatchSize': WHATEVER THE INPUT: true; the input reads as it did. -/
def matchSizeSpec : ChangeSpec := { name := "matchSize", fn := fun _ => fun
  | [d] => { results := [.lit (.bool true)], args := [d] }
  | _ => none }
def matchSizeRow : OpenClaim := { program := "ytkhboengcbgooaa", sum := "5417d3ece50be8304603fc4cad6c245061db249a6ade7549660baadaa4580b1a", func := "tarmac/tarmaclaw15.MatchSize", spec := "matchSize", recurses := true, plainKeys := false, apart := false }
def MatchSizeSaid : Prop := matchSizeRow.holds Try.pinned (OpenSpec.ofChange matchSizeSpec)

/-- ITS FALSE NEIGHBOUR: 'it returns false'. Refute it at one input. -/
def matchSizeWrong : ChangeSpec := { name := "matchSize", fn := fun _ => fun
  | [d] => { results := [.lit (.bool false)], args := [d] }
  | _ => none }
def MatchSizeWrongFalsely : Prop := matchSizeRow.holds Try.pinned (OpenSpec.ofChange matchSizeWrong)

/-- 'tarmaclaw15.MatchShort': WHATEVER THE INPUT: true; the input reads as it did. -/
def matchShortSpec : ChangeSpec := { name := "matchShort", fn := fun _ => fun
  | [d] => { results := [.lit (.bool true)], args := [d] }
  | _ => none }
def matchShortRow : OpenClaim := { program := "ytkhboengcbgooaa", sum := "5417d3ece50be8304603fc4cad6c245061db249a6ade7549660baadaa4580b1a", func := "tarmac/tarmaclaw15.MatchShort", spec := "matchShort", unfollowed := true, recurses := true, plainKeys := false, apart := false }
def MatchShortSaid : Prop := matchShortRow.holds Try.pinned (OpenSpec.ofChange matchShortSpec)

/-- ITS FALSE NEIGHBOUR: 'it returns false'. Refute it at one input. -/
def matchShortWrong : ChangeSpec := { name := "matchShort", fn := fun _ => fun
  | [d] => { results := [.lit (.bool false)], args := [d] }
  | _ => none }
def MatchShortWrongFalsely : Prop := matchShortRow.holds Try.pinned (OpenSpec.ofChange matchShortWrong)

/-- 'tarmaclaw15.MatchGreatest': WHATEVER THE INPUT: true; the input reads as it did. -/
def matchGreatestSpec : ChangeSpec := { name := "matchGreatest", fn := fun _ => fun
  | [d] => { results := [.lit (.bool true)], args := [d] }
  | _ => none }
def matchGreatestRow : OpenClaim := { program := "ytkhboengcbgooaa", sum := "5417d3ece50be8304603fc4cad6c245061db249a6ade7549660baadaa4580b1a", func := "tarmac/tarmaclaw15.MatchGreatest", spec := "matchGreatest", unfollowed := true, recurses := true, plainKeys := false, apart := false }
def MatchGreatestSaid : Prop := matchGreatestRow.holds Try.pinned (OpenSpec.ofChange matchGreatestSpec)

/-- ITS FALSE NEIGHBOUR: 'it returns false'. Refute it at one input. -/
def matchGreatestWrong : ChangeSpec := { name := "matchGreatest", fn := fun _ => fun
  | [d] => { results := [.lit (.bool false)], args := [d] }
  | _ => none }
def MatchGreatestWrongFalsely : Prop := matchGreatestRow.holds Try.pinned (OpenSpec.ofChange matchGreatestWrong)

/- THE SECOND FORM. 'bulk': how many values and letters a reading holds, each counted each time it is reached (what is shared counts as often as it is met; a slice's spare places count too). A statement '..UptoSaid' is the law's where the arguments, and the package variables that the reading takes, are together of bulk at most 1048576: NARROWER than '..Said'. Prove '..Said' where nothing that the law and all that it calls make is longer than what came in: it says more and counts as full. Else prove '..UptoSaid'. A law counts once. -/
mutual
def uptoBulk {H : Type} : DataW H → Nat
  | .lit (.string bytes) => bytes.length + 1
  | .lit _ => 1
  | .nil => 1
  | .ptr d => uptoBulk d + 1
  | .slice elems spare => uptoBulkAll elems + uptoBulkAll spare + 1
  | .agg parts => uptoBulkAll parts + 1
  | .iface _ d => uptoBulk d + 1
  | .map entries => uptoBulkEntries entries + 1
  | .held _ => 1
def uptoBulkAll {H : Type} : List (DataW H) → Nat
  | [] => 0
  | d :: r => uptoBulk d + uptoBulkAll r
def uptoBulkEntries {H : Type} : List (Lit × DataW H) → Nat
  | [] => 0
  | x :: r => uptoBulkEntry x + uptoBulkEntries r
def uptoBulkEntry {H : Type} : Lit × DataW H → Nat
  | (.string bytes, d) => bytes.length + uptoBulk d + 1
  | (_, d) => uptoBulk d + 1
 end
def uptoSmall : (H : Type) → List (DataW H) → Bool := fun _ ds => decide (uptoBulkAll ds ≤ 1048576)
def OpenSpec.upto (s : _root_.Go.ChangeSpec) : _root_.Go.OpenSpec := { _root_.Go.OpenSpec.ofChange s with cond := some uptoSmall }

/-- 'tarmaclaw15.MatchMore', WHERE WHAT IT READS IS OF BULK AT MOST 1048576: true; the input reads as it did. -/
def matchMoreUptoRow : OpenClaim := { program := "ytkhboengcbgooaa", sum := "5417d3ece50be8304603fc4cad6c245061db249a6ade7549660baadaa4580b1a", func := "tarmac/tarmaclaw15.MatchMore", spec := "matchMore", recurses := true, plainKeys := false, apart := false, narrowed := true }
def MatchMoreUptoSaid : Prop := matchMoreUptoRow.holds Try.pinned (OpenSpec.upto matchMoreSpec)

/-- 'tarmaclaw15.MatchSides', WHERE WHAT IT READS IS OF BULK AT MOST 1048576: true; the input reads as it did. -/
def matchSidesUptoRow : OpenClaim := { program := "ytkhboengcbgooaa", sum := "5417d3ece50be8304603fc4cad6c245061db249a6ade7549660baadaa4580b1a", func := "tarmac/tarmaclaw15.MatchSides", spec := "matchSides", recurses := true, plainKeys := false, apart := false, narrowed := true }
def MatchSidesUptoSaid : Prop := matchSidesUptoRow.holds Try.pinned (OpenSpec.upto matchSidesSpec)

/-- 'tarmaclaw15.MatchSize', WHERE WHAT IT READS IS OF BULK AT MOST 1048576: true; the input reads as it did. -/
def matchSizeUptoRow : OpenClaim := { program := "ytkhboengcbgooaa", sum := "5417d3ece50be8304603fc4cad6c245061db249a6ade7549660baadaa4580b1a", func := "tarmac/tarmaclaw15.MatchSize", spec := "matchSize", recurses := true, plainKeys := false, apart := false, narrowed := true }
def MatchSizeUptoSaid : Prop := matchSizeUptoRow.holds Try.pinned (OpenSpec.upto matchSizeSpec)

/-- 'tarmaclaw15.MatchShort', WHERE WHAT IT READS IS OF BULK AT MOST 1048576: true; the input reads as it did. -/
def matchShortUptoRow : OpenClaim := { program := "ytkhboengcbgooaa", sum := "5417d3ece50be8304603fc4cad6c245061db249a6ade7549660baadaa4580b1a", func := "tarmac/tarmaclaw15.MatchShort", spec := "matchShort", unfollowed := true, recurses := true, plainKeys := false, apart := false, narrowed := true }
def MatchShortUptoSaid : Prop := matchShortUptoRow.holds Try.pinned (OpenSpec.upto matchShortSpec)

/-- 'tarmaclaw15.MatchGreatest', WHERE WHAT IT READS IS OF BULK AT MOST 1048576: true; the input reads as it did. -/
def matchGreatestUptoRow : OpenClaim := { program := "ytkhboengcbgooaa", sum := "5417d3ece50be8304603fc4cad6c245061db249a6ade7549660baadaa4580b1a", func := "tarmac/tarmaclaw15.MatchGreatest", spec := "matchGreatest", unfollowed := true, recurses := true, plainKeys := false, apart := false, narrowed := true }
def MatchGreatestUptoSaid : Prop := matchGreatestUptoRow.holds Try.pinned (OpenSpec.upto matchGreatestSpec)

end Rows
end Go.Proofs.Ytkhboengcbgooaa
