/-
  No cell of these rows narrows 'for every input' (looked for: loops, veiled, ifaces, maps, wideKeys, modest, calm, conditions, laid).
  DERIVED. THE GIVEN ROWS OF THIS SEAT. 5 by the template 'for every input the law returns true; each argument reads behind the call as it read before'; 0 by the template 'total and deterministic' (their statements: YtanieolnaiihmaaTotals.lean).
  GIVEN WITH THE SEED: the statements are not yours to turn. If you find one false, say at which input.
  Laid BY PROGRAM, IN A SANDBOX (cutbox-rows.mjs): the forced cells as the released guide's own fill.sh prints them over the translation e5f7eb911364edd4… (all of the seat's roots in one cut). By AI agents, Wed Nov 11 2026. No macro, syntax, notation, axiom, sorry.
-/
import Derived.Test.YtanieolnaiihmaaChecked
import GoSem.Claim
import GoSem.ClaimJoined
import GoSem.ClaimMapViews
import Derived.JoinedTies
import Derived.KernelRfl
namespace Go.Proofs.Ytanieolnaiihmaa
/- THE CELL 'sum', in the pinned program and in every row, IS THE sha256 OF THE DUMP (.gsa) THAT YtanieolnaiihmaaProg.lean LOADS. Nothing in Lean hashes anything: it is a label: what it is worth is what the hold of that sum in a sandbox is worth. -/
noncomputable def Try.pinned : Pinned := { name := "ytanieolnaiihmaa", sum := "e5f7eb911364edd496de33211c7a6d36a6c9aebed1a26b61651583d7ea313188", checked := Try.checked }
namespace Rows
def none {H : Type} : Left H := { results := [], args := [] }

/-- 'tarmaclaw07.BloomExact': WHATEVER THE INPUT: true; the input reads as it did. -/
def bloomExactSpec : ChangeSpec := { name := "bloomExact", fn := fun _ => fun
  | [d1, d2, d3] => { results := [.lit (.bool true)], args := [d1, d2, d3] }
  | _ => none }
def bloomExactRow : OpenClaim := { program := "ytanieolnaiihmaa", sum := "e5f7eb911364edd496de33211c7a6d36a6c9aebed1a26b61651583d7ea313188", func := "tarmac/tarmaclaw07.BloomExact", spec := "bloomExact", apart := false }
def BloomExactSaid : Prop := bloomExactRow.holds Try.pinned (OpenSpec.ofChange bloomExactSpec)

/-- ITS FALSE NEIGHBOUR: 'it returns false'. Refute it at one input. -/
def bloomExactWrong : ChangeSpec := { name := "bloomExact", fn := fun _ => fun
  | [d1, d2, d3] => { results := [.lit (.bool false)], args := [d1, d2, d3] }
  | _ => none }
def BloomExactWrongFalsely : Prop := bloomExactRow.holds Try.pinned (OpenSpec.ofChange bloomExactWrong)

/-- 'tarmaclaw09.TableWhole': WHATEVER THE INPUT: true; the input reads as it did. -/
def tableWholeSpec : ChangeSpec := { name := "tableWhole", fn := fun _ => fun
  | [d1, d2] => { results := [.lit (.bool true)], args := [d1, d2] }
  | _ => none }
def tableWholeRow : OpenClaim := { program := "ytanieolnaiihmaa", sum := "e5f7eb911364edd496de33211c7a6d36a6c9aebed1a26b61651583d7ea313188", func := "tarmac/tarmaclaw09.TableWhole", spec := "tableWhole", inPlace := ["internal/abi.NoEscape"], unfollowed := true, recurses := true, apart := false }
def TableWholeSaid : Prop := tableWholeRow.holds Try.pinned (OpenSpec.ofChange tableWholeSpec)

/-- ITS FALSE NEIGHBOUR: 'it returns false'. Refute it at one input. -/
def tableWholeWrong : ChangeSpec := { name := "tableWhole", fn := fun _ => fun
  | [d1, d2] => { results := [.lit (.bool false)], args := [d1, d2] }
  | _ => none }
def TableWholeWrongFalsely : Prop := tableWholeRow.holds Try.pinned (OpenSpec.ofChange tableWholeWrong)

/-- 'tarmaclaw09.TableBytes': WHATEVER THE INPUT: true; the input reads as it did. -/
def tableBytesSpec : ChangeSpec := { name := "tableBytes", fn := fun _ => fun
  | [d1, d2] => { results := [.lit (.bool true)], args := [d1, d2] }
  | _ => none }
def tableBytesRow : OpenClaim := { program := "ytanieolnaiihmaa", sum := "e5f7eb911364edd496de33211c7a6d36a6c9aebed1a26b61651583d7ea313188", func := "tarmac/tarmaclaw09.TableBytes", spec := "tableBytes", inPlace := ["internal/abi.NoEscape"], unfollowed := true, recurses := true, apart := false }
def TableBytesSaid : Prop := tableBytesRow.holds Try.pinned (OpenSpec.ofChange tableBytesSpec)

/-- ITS FALSE NEIGHBOUR: 'it returns false'. Refute it at one input. -/
def tableBytesWrong : ChangeSpec := { name := "tableBytes", fn := fun _ => fun
  | [d1, d2] => { results := [.lit (.bool false)], args := [d1, d2] }
  | _ => none }
def TableBytesWrongFalsely : Prop := tableBytesRow.holds Try.pinned (OpenSpec.ofChange tableBytesWrong)

/-- 'tarmaclaw09.TableFinds': WHATEVER THE INPUT: true; the input reads as it did. -/
def tableFindsSpec : ChangeSpec := { name := "tableFinds", fn := fun _ => fun
  | [d1, d2, d3] => { results := [.lit (.bool true)], args := [d1, d2, d3] }
  | _ => none }
def tableFindsRow : OpenClaim := { program := "ytanieolnaiihmaa", sum := "e5f7eb911364edd496de33211c7a6d36a6c9aebed1a26b61651583d7ea313188", func := "tarmac/tarmaclaw09.TableFinds", spec := "tableFinds", inPlace := ["internal/abi.NoEscape"], unfollowed := true, recurses := true, apart := false }
def TableFindsSaid : Prop := tableFindsRow.holds Try.pinned (OpenSpec.ofChange tableFindsSpec)

/-- ITS FALSE NEIGHBOUR: 'it returns false'. Refute it at one input. -/
def tableFindsWrong : ChangeSpec := { name := "tableFinds", fn := fun _ => fun
  | [d1, d2, d3] => { results := [.lit (.bool false)], args := [d1, d2, d3] }
  | _ => none }
def TableFindsWrongFalsely : Prop := tableFindsRow.holds Try.pinned (OpenSpec.ofChange tableFindsWrong)

/-- 'tarmaclaw09.TableAsMem': WHATEVER THE INPUT: true; the input reads as it did. -/
def tableAsMemSpec : ChangeSpec := { name := "tableAsMem", fn := fun _ => fun
  | [d1, d2, d3] => { results := [.lit (.bool true)], args := [d1, d2, d3] }
  | _ => none }
def tableAsMemRow : OpenClaim := { program := "ytanieolnaiihmaa", sum := "e5f7eb911364edd496de33211c7a6d36a6c9aebed1a26b61651583d7ea313188", func := "tarmac/tarmaclaw09.TableAsMem", spec := "tableAsMem", inPlace := ["internal/abi.NoEscape", "internal/bytealg.abigen_runtime_cmpstring"], unfollowed := true, recurses := true, apart := false }
def TableAsMemSaid : Prop := tableAsMemRow.holds Try.pinned (OpenSpec.ofChange tableAsMemSpec)

/-- ITS FALSE NEIGHBOUR: 'it returns false'. Refute it at one input. -/
def tableAsMemWrong : ChangeSpec := { name := "tableAsMem", fn := fun _ => fun
  | [d1, d2, d3] => { results := [.lit (.bool false)], args := [d1, d2, d3] }
  | _ => none }
def TableAsMemWrongFalsely : Prop := tableAsMemRow.holds Try.pinned (OpenSpec.ofChange tableAsMemWrong)

/- THE SECOND FORM. 'bulk': how many values and letters a reading holds, each counted each time it is reached (what is shared counts as often as it is met; a slice's spare places count too). A statement '..UptoSaid' is the law's where the arguments, and the package variables that the reading takes, are together of bulk at most 1048576: NARROWER than '..Said'. Prove '..Said' where nothing that the law and all that it calls make is longer than what came in: it says more and counts as full. Else prove '..UptoSaid'. A law counts once. -/
mutual
def uptoBulk {H : Type} : DataW H → Nat
  | .lit (.string bytes) => bytes.length + 1
  | .lit _ => 1
  | .nil => 1
  | .ptr d => uptoBulk d + 1
  | .slice elems spare => uptoBulkAll elems + uptoBulkAll spare + 1
  | .agg parts => uptoBulkAll parts + 1
  | .iface _ d => uptoBulk d + 1
  | .map entries => uptoBulkEntries entries + 1
  | .held _ => 1
def uptoBulkAll {H : Type} : List (DataW H) → Nat
  | [] => 0
  | d :: r => uptoBulk d + uptoBulkAll r
def uptoBulkEntries {H : Type} : List (Lit × DataW H) → Nat
  | [] => 0
  | x :: r => uptoBulkEntry x + uptoBulkEntries r
def uptoBulkEntry {H : Type} : Lit × DataW H → Nat
  | (.string bytes, d) => bytes.length + uptoBulk d + 1
  | (_, d) => uptoBulk d + 1
 end
def uptoSmall : (H : Type) → List (DataW H) → Bool := fun _ ds => decide (uptoBulkAll ds ≤ 1048576)
def OpenSpec.upto (s : _root_.Go.ChangeSpec) : _root_.Go.OpenSpec := { _root_.Go.OpenSpec.ofChange s with cond := some uptoSmall }

/-- 'tarmaclaw07.BloomExact', WHERE WHAT IT READS IS OF BULK AT MOST 1048576: true; the input reads as it did. -/
def bloomExactUptoRow : OpenClaim := { program := "ytanieolnaiihmaa", sum := "e5f7eb911364edd496de33211c7a6d36a6c9aebed1a26b61651583d7ea313188", func := "tarmac/tarmaclaw07.BloomExact", spec := "bloomExact", apart := false, narrowed := true }
def BloomExactUptoSaid : Prop := bloomExactUptoRow.holds Try.pinned (OpenSpec.upto bloomExactSpec)

/-- 'tarmaclaw09.TableWhole', WHERE WHAT IT READS IS OF BULK AT MOST 1048576: true; the input reads as it did. -/
def tableWholeUptoRow : OpenClaim := { program := "ytanieolnaiihmaa", sum := "e5f7eb911364edd496de33211c7a6d36a6c9aebed1a26b61651583d7ea313188", func := "tarmac/tarmaclaw09.TableWhole", spec := "tableWhole", inPlace := ["internal/abi.NoEscape"], unfollowed := true, recurses := true, apart := false, narrowed := true }
def TableWholeUptoSaid : Prop := tableWholeUptoRow.holds Try.pinned (OpenSpec.upto tableWholeSpec)

/-- 'tarmaclaw09.TableBytes', WHERE WHAT IT READS IS OF BULK AT MOST 1048576: true; the input reads as it did. -/
def tableBytesUptoRow : OpenClaim := { program := "ytanieolnaiihmaa", sum := "e5f7eb911364edd496de33211c7a6d36a6c9aebed1a26b61651583d7ea313188", func := "tarmac/tarmaclaw09.TableBytes", spec := "tableBytes", inPlace := ["internal/abi.NoEscape"], unfollowed := true, recurses := true, apart := false, narrowed := true }
def TableBytesUptoSaid : Prop := tableBytesUptoRow.holds Try.pinned (OpenSpec.upto tableBytesSpec)

/-- 'tarmaclaw09.TableFinds', WHERE WHAT IT READS IS OF BULK AT MOST 1048576: true; the input reads as it did. -/
def tableFindsUptoRow : OpenClaim := { program := "ytanieolnaiihmaa", sum := "e5f7eb911364edd496de33211c7a6d36a6c9aebed1a26b61651583d7ea313188", func := "tarmac/tarmaclaw09.TableFinds", spec := "tableFinds", inPlace := ["internal/abi.NoEscape"], unfollowed := true, recurses := true, apart := false, narrowed := true }
def TableFindsUptoSaid : Prop := tableFindsUptoRow.holds Try.pinned (OpenSpec.upto tableFindsSpec)

/-- 'tarmaclaw09.TableAsMem', WHERE WHAT IT READS IS OF BULK AT MOST 1048576: true; the input reads as it did. -/
def tableAsMemUptoRow : OpenClaim := { program := "ytanieolnaiihmaa", sum := "e5f7eb911364edd496de33211c7a6d36a6c9aebed1a26b61651583d7ea313188", func := "tarmac/tarmaclaw09.TableAsMem", spec := "tableAsMem", inPlace := ["internal/abi.NoEscape", "internal/bytealg.abigen_runtime_cmpstring"], unfollowed := true, recurses := true, apart := false, narrowed := true }
def TableAsMemUptoSaid : Prop := tableAsMemUptoRow.holds Try.pinned (OpenSpec.upto tableAsMemSpec)

end Rows
end Go.Proofs.Ytanieolnaiihmaa
