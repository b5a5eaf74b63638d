/-
  No cell of these rows narrows 'for every input' (looked for: loops, veiled, ifaces, maps, wideKeys, modest, calm, conditions, laid).
  DERIVED. THE GIVEN ROWS OF THIS SEAT. 8 by the template 'for every input the law returns true; each argument reads behind the call as it read before'; 0 by the template 'total and deterministic' (their statements: YtcfgmkiohmbdlaaTotals.lean).
  GIVEN WITH THE SEED: the statements are not yours to turn. If you find one false, say at which input.
  Laid BY PROGRAM, IN A SANDBOX (cutbox-rows.mjs): the forced cells as the released guide's own fill.sh prints them over the translation 630b74e89b1a4467… (all of the seat's roots in one cut). By AI agents, Wed Nov 11 2026. No macro, syntax, notation, axiom, sorry.
-/
import Derived.Test.YtcfgmkiohmbdlaaChecked
import GoSem.Claim
import GoSem.ClaimJoined
import GoSem.ClaimMapViews
import Derived.JoinedTies
import Derived.KernelRfl
namespace Go.Proofs.Ytcfgmkiohmbdlaa
/- THE CELL 'sum', in the pinned program and in every row, IS THE sha256 OF THE DUMP (.gsa) THAT YtcfgmkiohmbdlaaProg.lean LOADS. Nothing in Lean hashes anything: it is a label: what it is worth is what the hold of that sum in a sandbox is worth. -/
noncomputable def Try.pinned : Pinned := { name := "ytcfgmkiohmbdlaa", sum := "630b74e89b1a4467c2d474b0c00addddf76cd987beeb89abf72eaf7f1da567d3", checked := Try.checked }
namespace Rows
def none {H : Type} : Left H := { results := [], args := [] }

/-- 'tarmaclaw10.MergeExact': WHATEVER THE INPUT: true; the input reads as it did. -/
def mergeExactSpec : ChangeSpec := { name := "mergeExact", fn := fun _ => fun
  | [d1, d2, d3] => { results := [.lit (.bool true)], args := [d1, d2, d3] }
  | _ => none }
def mergeExactRow : OpenClaim := { program := "ytcfgmkiohmbdlaa", sum := "630b74e89b1a4467c2d474b0c00addddf76cd987beeb89abf72eaf7f1da567d3", func := "tarmac/tarmaclaw10.MergeExact", spec := "mergeExact", inPlace := ["internal/bytealg.abigen_runtime_cmpstring"], unfollowed := true, recurses := true, apart := false }
def MergeExactSaid : Prop := mergeExactRow.holds Try.pinned (OpenSpec.ofChange mergeExactSpec)

/-- ITS FALSE NEIGHBOUR: 'it returns false'. Refute it at one input. -/
def mergeExactWrong : ChangeSpec := { name := "mergeExact", fn := fun _ => fun
  | [d1, d2, d3] => { results := [.lit (.bool false)], args := [d1, d2, d3] }
  | _ => none }
def MergeExactWrongFalsely : Prop := mergeExactRow.holds Try.pinned (OpenSpec.ofChange mergeExactWrong)

/-- 'tarmaclaw10.MergeJoins': WHATEVER THE INPUT: true; the input reads as it did. -/
def mergeJoinsSpec : ChangeSpec := { name := "mergeJoins", fn := fun _ => fun
  | [d1, d2, d3] => { results := [.lit (.bool true)], args := [d1, d2, d3] }
  | _ => none }
def mergeJoinsRow : OpenClaim := { program := "ytcfgmkiohmbdlaa", sum := "630b74e89b1a4467c2d474b0c00addddf76cd987beeb89abf72eaf7f1da567d3", func := "tarmac/tarmaclaw10.MergeJoins", spec := "mergeJoins", inPlace := ["internal/bytealg.abigen_runtime_cmpstring"], unfollowed := true, recurses := true, apart := false }
def MergeJoinsSaid : Prop := mergeJoinsRow.holds Try.pinned (OpenSpec.ofChange mergeJoinsSpec)

/-- ITS FALSE NEIGHBOUR: 'it returns false'. Refute it at one input. -/
def mergeJoinsWrong : ChangeSpec := { name := "mergeJoins", fn := fun _ => fun
  | [d1, d2, d3] => { results := [.lit (.bool false)], args := [d1, d2, d3] }
  | _ => none }
def MergeJoinsWrongFalsely : Prop := mergeJoinsRow.holds Try.pinned (OpenSpec.ofChange mergeJoinsWrong)

/-- 'tarmaclaw10.MergeTrims': WHATEVER THE INPUT: true; the input reads as it did. -/
def mergeTrimsSpec : ChangeSpec := { name := "mergeTrims", fn := fun _ => fun
  | [d1, d2, d3] => { results := [.lit (.bool true)], args := [d1, d2, d3] }
  | _ => none }
def mergeTrimsRow : OpenClaim := { program := "ytcfgmkiohmbdlaa", sum := "630b74e89b1a4467c2d474b0c00addddf76cd987beeb89abf72eaf7f1da567d3", func := "tarmac/tarmaclaw10.MergeTrims", spec := "mergeTrims", inPlace := ["internal/bytealg.abigen_runtime_cmpstring"], unfollowed := true, recurses := true, apart := false }
def MergeTrimsSaid : Prop := mergeTrimsRow.holds Try.pinned (OpenSpec.ofChange mergeTrimsSpec)

/-- ITS FALSE NEIGHBOUR: 'it returns false'. Refute it at one input. -/
def mergeTrimsWrong : ChangeSpec := { name := "mergeTrims", fn := fun _ => fun
  | [d1, d2, d3] => { results := [.lit (.bool false)], args := [d1, d2, d3] }
  | _ => none }
def MergeTrimsWrongFalsely : Prop := mergeTrimsRow.holds Try.pinned (OpenSpec.ofChange mergeTrimsWrong)

/-- 'tarmaclaw10.MergeAsMem': WHATEVER THE INPUT: true; the input reads as it did. -/
def mergeAsMemSpec : ChangeSpec := { name := "mergeAsMem", fn := fun _ => fun
  | [d1, d2] => { results := [.lit (.bool true)], args := [d1, d2] }
  | _ => none }
def mergeAsMemRow : OpenClaim := { program := "ytcfgmkiohmbdlaa", sum := "630b74e89b1a4467c2d474b0c00addddf76cd987beeb89abf72eaf7f1da567d3", func := "tarmac/tarmaclaw10.MergeAsMem", spec := "mergeAsMem", inPlace := ["internal/bytealg.abigen_runtime_cmpstring"], unfollowed := true, recurses := true, apart := false }
def MergeAsMemSaid : Prop := mergeAsMemRow.holds Try.pinned (OpenSpec.ofChange mergeAsMemSpec)

/-- ITS FALSE NEIGHBOUR: 'it returns false'. Refute it at one input. -/
def mergeAsMemWrong : ChangeSpec := { name := "mergeAsMem", fn := fun _ => fun
  | [d1, d2] => { results := [.lit (.bool false)], args := [d1, d2] }
  | _ => none }
def MergeAsMemWrongFalsely : Prop := mergeAsMemRow.holds Try.pinned (OpenSpec.ofChange mergeAsMemWrong)

/-- 'tarmaclaw09.TableWhole': WHATEVER THE INPUT: true; the input reads as it did. -/
def tableWholeSpec : ChangeSpec := { name := "tableWhole", fn := fun _ => fun
  | [d1, d2] => { results := [.lit (.bool true)], args := [d1, d2] }
  | _ => none }
def tableWholeRow : OpenClaim := { program := "ytcfgmkiohmbdlaa", sum := "630b74e89b1a4467c2d474b0c00addddf76cd987beeb89abf72eaf7f1da567d3", func := "tarmac/tarmaclaw09.TableWhole", spec := "tableWhole", inPlace := ["internal/abi.NoEscape"], unfollowed := true, recurses := true, apart := false }
def TableWholeSaid : Prop := tableWholeRow.holds Try.pinned (OpenSpec.ofChange tableWholeSpec)

/-- ITS FALSE NEIGHBOUR: 'it returns false'. Refute it at one input. -/
def tableWholeWrong : ChangeSpec := { name := "tableWhole", fn := fun _ => fun
  | [d1, d2] => { results := [.lit (.bool false)], args := [d1, d2] }
  | _ => none }
def TableWholeWrongFalsely : Prop := tableWholeRow.holds Try.pinned (OpenSpec.ofChange tableWholeWrong)

/-- 'tarmaclaw09.TableBytes': WHATEVER THE INPUT: true; the input reads as it did. -/
def tableBytesSpec : ChangeSpec := { name := "tableBytes", fn := fun _ => fun
  | [d1, d2] => { results := [.lit (.bool true)], args := [d1, d2] }
  | _ => none }
def tableBytesRow : OpenClaim := { program := "ytcfgmkiohmbdlaa", sum := "630b74e89b1a4467c2d474b0c00addddf76cd987beeb89abf72eaf7f1da567d3", func := "tarmac/tarmaclaw09.TableBytes", spec := "tableBytes", inPlace := ["internal/abi.NoEscape"], unfollowed := true, recurses := true, apart := false }
def TableBytesSaid : Prop := tableBytesRow.holds Try.pinned (OpenSpec.ofChange tableBytesSpec)

/-- ITS FALSE NEIGHBOUR: 'it returns false'. Refute it at one input. -/
def tableBytesWrong : ChangeSpec := { name := "tableBytes", fn := fun _ => fun
  | [d1, d2] => { results := [.lit (.bool false)], args := [d1, d2] }
  | _ => none }
def TableBytesWrongFalsely : Prop := tableBytesRow.holds Try.pinned (OpenSpec.ofChange tableBytesWrong)

/-- 'tarmaclaw09.TableFinds': WHATEVER THE INPUT: true; the input reads as it did. -/
def tableFindsSpec : ChangeSpec := { name := "tableFinds", fn := fun _ => fun
  | [d1, d2, d3] => { results := [.lit (.bool true)], args := [d1, d2, d3] }
  | _ => none }
def tableFindsRow : OpenClaim := { program := "ytcfgmkiohmbdlaa", sum := "630b74e89b1a4467c2d474b0c00addddf76cd987beeb89abf72eaf7f1da567d3", func := "tarmac/tarmaclaw09.TableFinds", spec := "tableFinds", inPlace := ["internal/abi.NoEscape"], unfollowed := true, recurses := true, apart := false }
def TableFindsSaid : Prop := tableFindsRow.holds Try.pinned (OpenSpec.ofChange tableFindsSpec)

/-- ITS FALSE NEIGHBOUR: 'it returns false'. Refute it at one input. -/
def tableFindsWrong : ChangeSpec := { name := "tableFinds", fn := fun _ => fun
  | [d1, d2, d3] => { results := [.lit (.bool false)], args := [d1, d2, d3] }
  | _ => none }
def TableFindsWrongFalsely : Prop := tableFindsRow.holds Try.pinned (OpenSpec.ofChange tableFindsWrong)

/-- 'tarmaclaw09.TableAsMem': WHATEVER THE INPUT: true; the input reads as it did. -/
def tableAsMemSpec : ChangeSpec := { name := "tableAsMem", fn := fun _ => fun
  | [d1, d2, d3] => { results := [.lit (.bool true)], args := [d1, d2, d3] }
  | _ => none }
def tableAsMemRow : OpenClaim := { program := "ytcfgmkiohmbdlaa", sum := "630b74e89b1a4467c2d474b0c00addddf76cd987beeb89abf72eaf7f1da567d3", func := "tarmac/tarmaclaw09.TableAsMem", spec := "tableAsMem", inPlace := ["internal/abi.NoEscape", "internal/bytealg.abigen_runtime_cmpstring"], unfollowed := true, recurses := true, apart := false }
def TableAsMemSaid : Prop := tableAsMemRow.holds Try.pinned (OpenSpec.ofChange tableAsMemSpec)

/-- ITS FALSE NEIGHBOUR: 'it returns false'. Refute it at one input. -/
def tableAsMemWrong : ChangeSpec := { name := "tableAsMem", fn := fun _ => fun
  | [d1, d2, d3] => { results := [.lit (.bool false)], args := [d1, d2, d3] }
  | _ => none }
def TableAsMemWrongFalsely : Prop := tableAsMemRow.holds Try.pinned (OpenSpec.ofChange tableAsMemWrong)

/- THE SECOND FORM. 'bulk': how many values and letters a reading holds, each counted each time it is reached (what is shared counts as often as it is met; a slice's spare places count too). A statement '..UptoSaid' is the law's where the arguments, and the package variables that the reading takes, are together of bulk at most 1048576: NARROWER than '..Said'. Prove '..Said' where nothing that the law and all that it calls make is longer than what came in: it says more and counts as full. Else prove '..UptoSaid'. A law counts once. -/
mutual
def uptoBulk {H : Type} : DataW H → Nat
  | .lit (.string bytes) => bytes.length + 1
  | .lit _ => 1
  | .nil => 1
  | .ptr d => uptoBulk d + 1
  | .slice elems spare => uptoBulkAll elems + uptoBulkAll spare + 1
  | .agg parts => uptoBulkAll parts + 1
  | .iface _ d => uptoBulk d + 1
  | .map entries => uptoBulkEntries entries + 1
  | .held _ => 1
def uptoBulkAll {H : Type} : List (DataW H) → Nat
  | [] => 0
  | d :: r => uptoBulk d + uptoBulkAll r
def uptoBulkEntries {H : Type} : List (Lit × DataW H) → Nat
  | [] => 0
  | x :: r => uptoBulkEntry x + uptoBulkEntries r
def uptoBulkEntry {H : Type} : Lit × DataW H → Nat
  | (.string bytes, d) => bytes.length + uptoBulk d + 1
  | (_, d) => uptoBulk d + 1
 end
def uptoSmall : (H : Type) → List (DataW H) → Bool := fun _ ds => decide (uptoBulkAll ds ≤ 1048576)
def OpenSpec.upto (s : _root_.Go.ChangeSpec) : _root_.Go.OpenSpec := { _root_.Go.OpenSpec.ofChange s with cond := some uptoSmall }

/-- 'tarmaclaw10.MergeExact', WHERE WHAT IT READS IS OF BULK AT MOST 1048576: true; the input reads as it did. -/
def mergeExactUptoRow : OpenClaim := { program := "ytcfgmkiohmbdlaa", sum := "630b74e89b1a4467c2d474b0c00addddf76cd987beeb89abf72eaf7f1da567d3", func := "tarmac/tarmaclaw10.MergeExact", spec := "mergeExact", inPlace := ["internal/bytealg.abigen_runtime_cmpstring"], unfollowed := true, recurses := true, apart := false, narrowed := true }
def MergeExactUptoSaid : Prop := mergeExactUptoRow.holds Try.pinned (OpenSpec.upto mergeExactSpec)

/-- 'tarmaclaw10.MergeJoins', WHERE WHAT IT READS IS OF BULK AT MOST 1048576: true; the input reads as it did. -/
def mergeJoinsUptoRow : OpenClaim := { program := "ytcfgmkiohmbdlaa", sum := "630b74e89b1a4467c2d474b0c00addddf76cd987beeb89abf72eaf7f1da567d3", func := "tarmac/tarmaclaw10.MergeJoins", spec := "mergeJoins", inPlace := ["internal/bytealg.abigen_runtime_cmpstring"], unfollowed := true, recurses := true, apart := false, narrowed := true }
def MergeJoinsUptoSaid : Prop := mergeJoinsUptoRow.holds Try.pinned (OpenSpec.upto mergeJoinsSpec)

/-- 'tarmaclaw10.MergeTrims', WHERE WHAT IT READS IS OF BULK AT MOST 1048576: true; the input reads as it did. -/
def mergeTrimsUptoRow : OpenClaim := { program := "ytcfgmkiohmbdlaa", sum := "630b74e89b1a4467c2d474b0c00addddf76cd987beeb89abf72eaf7f1da567d3", func := "tarmac/tarmaclaw10.MergeTrims", spec := "mergeTrims", inPlace := ["internal/bytealg.abigen_runtime_cmpstring"], unfollowed := true, recurses := true, apart := false, narrowed := true }
def MergeTrimsUptoSaid : Prop := mergeTrimsUptoRow.holds Try.pinned (OpenSpec.upto mergeTrimsSpec)

/-- 'tarmaclaw10.MergeAsMem', WHERE WHAT IT READS IS OF BULK AT MOST 1048576: true; the input reads as it did. -/
def mergeAsMemUptoRow : OpenClaim := { program := "ytcfgmkiohmbdlaa", sum := "630b74e89b1a4467c2d474b0c00addddf76cd987beeb89abf72eaf7f1da567d3", func := "tarmac/tarmaclaw10.MergeAsMem", spec := "mergeAsMem", inPlace := ["internal/bytealg.abigen_runtime_cmpstring"], unfollowed := true, recurses := true, apart := false, narrowed := true }
def MergeAsMemUptoSaid : Prop := mergeAsMemUptoRow.holds Try.pinned (OpenSpec.upto mergeAsMemSpec)

/-- 'tarmaclaw09.TableWhole', WHERE WHAT IT READS IS OF BULK AT MOST 1048576: true; the input reads as it did. -/
def tableWholeUptoRow : OpenClaim := { program := "ytcfgmkiohmbdlaa", sum := "630b74e89b1a4467c2d474b0c00addddf76cd987beeb89abf72eaf7f1da567d3", func := "tarmac/tarmaclaw09.TableWhole", spec := "tableWhole", inPlace := ["internal/abi.NoEscape"], unfollowed := true, recurses := true, apart := false, narrowed := true }
def TableWholeUptoSaid : Prop := tableWholeUptoRow.holds Try.pinned (OpenSpec.upto tableWholeSpec)

/-- 'tarmaclaw09.TableBytes', WHERE WHAT IT READS IS OF BULK AT MOST 1048576: true; the input reads as it did. -/
def tableBytesUptoRow : OpenClaim := { program := "ytcfgmkiohmbdlaa", sum := "630b74e89b1a4467c2d474b0c00addddf76cd987beeb89abf72eaf7f1da567d3", func := "tarmac/tarmaclaw09.TableBytes", spec := "tableBytes", inPlace := ["internal/abi.NoEscape"], unfollowed := true, recurses := true, apart := false, narrowed := true }
def TableBytesUptoSaid : Prop := tableBytesUptoRow.holds Try.pinned (OpenSpec.upto tableBytesSpec)

/-- 'tarmaclaw09.TableFinds', WHERE WHAT IT READS IS OF BULK AT MOST 1048576: true; the input reads as it did. -/
def tableFindsUptoRow : OpenClaim := { program := "ytcfgmkiohmbdlaa", sum := "630b74e89b1a4467c2d474b0c00addddf76cd987beeb89abf72eaf7f1da567d3", func := "tarmac/tarmaclaw09.TableFinds", spec := "tableFinds", inPlace := ["internal/abi.NoEscape"], unfollowed := true, recurses := true, apart := false, narrowed := true }
def TableFindsUptoSaid : Prop := tableFindsUptoRow.holds Try.pinned (OpenSpec.upto tableFindsSpec)

/-- 'tarmaclaw09.TableAsMem', WHERE WHAT IT READS IS OF BULK AT MOST 1048576: true; the input reads as it did. -/
def tableAsMemUptoRow : OpenClaim := { program := "ytcfgmkiohmbdlaa", sum := "630b74e89b1a4467c2d474b0c00addddf76cd987beeb89abf72eaf7f1da567d3", func := "tarmac/tarmaclaw09.TableAsMem", spec := "tableAsMem", inPlace := ["internal/abi.NoEscape", "internal/bytealg.abigen_runtime_cmpstring"], unfollowed := true, recurses := true, apart := false, narrowed := true }
def TableAsMemUptoSaid : Prop := tableAsMemUptoRow.holds Try.pinned (OpenSpec.upto tableAsMemSpec)

end Rows
end Go.Proofs.Ytcfgmkiohmbdlaa
