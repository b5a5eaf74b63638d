/-
  No cell of these rows narrows 'for every input' (looked for: loops, veiled, ifaces, maps, wideKeys, modest, calm, conditions, laid).
  DERIVED. THE GIVEN ROWS OF THIS SEAT. 9 by the template 'for every input the law returns true; each argument reads behind the call as it read before'; 0 by the template 'total and deterministic' (their statements: YtmjkebokedaldaaTotals.lean).
  GIVEN WITH THE SEED: the statements are not yours to turn. If you find one false, say at which input.
  Laid BY PROGRAM, IN A SANDBOX (cutbox-rows.mjs): the forced cells as the released guide's own fill.sh prints them over the translation fe0f5fbc11567534… (all of the seat's roots in one cut). By AI agents, Wed Nov 11 2026. No macro, syntax, notation, axiom, sorry.
-/
import Derived.Test.YtmjkebokedaldaaChecked
import GoSem.Claim
import GoSem.ClaimJoined
import GoSem.ClaimMapViews
import Derived.JoinedTies
import Derived.KernelRfl
namespace Go.Proofs.Ytmjkebokedaldaa
/- THE CELL 'sum', in the pinned program and in every row, IS THE sha256 OF THE DUMP (.gsa) THAT YtmjkebokedaldaaProg.lean LOADS. Nothing in Lean hashes anything: it is a label: what it is worth is what the hold of that sum in a sandbox is worth. -/
noncomputable def Try.pinned : Pinned := { name := "ytmjkebokedaldaa", sum := "fe0f5fbc11567534c93be7c399bb357c110a0c08091a87c3bcbae07bc36f9442", checked := Try.checked }
namespace Rows
def none {H : Type} : Left H := { results := [], args := [] }

/-- 'tarmaclaw07.BloomExact': WHATEVER THE INPUT: true; the input reads as it did. -/
def bloomExactSpec : ChangeSpec := { name := "bloomExact", fn := fun _ => fun
  | [d1, d2, d3] => { results := [.lit (.bool true)], args := [d1, d2, d3] }
  | _ => none }
def bloomExactRow : OpenClaim := { program := "ytmjkebokedaldaa", sum := "fe0f5fbc11567534c93be7c399bb357c110a0c08091a87c3bcbae07bc36f9442", func := "tarmac/tarmaclaw07.BloomExact", spec := "bloomExact", apart := false }
def BloomExactSaid : Prop := bloomExactRow.holds Try.pinned (OpenSpec.ofChange bloomExactSpec)

/-- ITS FALSE NEIGHBOUR: 'it returns false'. Refute it at one input. -/
def bloomExactWrong : ChangeSpec := { name := "bloomExact", fn := fun _ => fun
  | [d1, d2, d3] => { results := [.lit (.bool false)], args := [d1, d2, d3] }
  | _ => none }
def BloomExactWrongFalsely : Prop := bloomExactRow.holds Try.pinned (OpenSpec.ofChange bloomExactWrong)

/-- 'tarmaclaw07.BloomKeeps': WHATEVER THE INPUT: true; the input reads as it did. -/
def bloomKeepsSpec : ChangeSpec := { name := "bloomKeeps", fn := fun _ => fun
  | [d] => { results := [.lit (.bool true)], args := [d] }
  | _ => none }
def bloomKeepsRow : OpenClaim := { program := "ytmjkebokedaldaa", sum := "fe0f5fbc11567534c93be7c399bb357c110a0c08091a87c3bcbae07bc36f9442", func := "tarmac/tarmaclaw07.BloomKeeps", spec := "bloomKeeps", apart := false }
def BloomKeepsSaid : Prop := bloomKeepsRow.holds Try.pinned (OpenSpec.ofChange bloomKeepsSpec)

/-- ITS FALSE NEIGHBOUR: 'it returns false'. Refute it at one input. -/
def bloomKeepsWrong : ChangeSpec := { name := "bloomKeeps", fn := fun _ => fun
  | [d] => { results := [.lit (.bool false)], args := [d] }
  | _ => none }
def BloomKeepsWrongFalsely : Prop := bloomKeepsRow.holds Try.pinned (OpenSpec.ofChange bloomKeepsWrong)

/-- 'tarmaclaw07.BloomGrows': WHATEVER THE INPUT: true; the input reads as it did. -/
def bloomGrowsSpec : ChangeSpec := { name := "bloomGrows", fn := fun _ => fun
  | [d1, d2, d3] => { results := [.lit (.bool true)], args := [d1, d2, d3] }
  | _ => none }
def bloomGrowsRow : OpenClaim := { program := "ytmjkebokedaldaa", sum := "fe0f5fbc11567534c93be7c399bb357c110a0c08091a87c3bcbae07bc36f9442", func := "tarmac/tarmaclaw07.BloomGrows", spec := "bloomGrows", apart := false }
def BloomGrowsSaid : Prop := bloomGrowsRow.holds Try.pinned (OpenSpec.ofChange bloomGrowsSpec)

/-- ITS FALSE NEIGHBOUR: 'it returns false'. Refute it at one input. -/
def bloomGrowsWrong : ChangeSpec := { name := "bloomGrows", fn := fun _ => fun
  | [d1, d2, d3] => { results := [.lit (.bool false)], args := [d1, d2, d3] }
  | _ => none }
def BloomGrowsWrongFalsely : Prop := bloomGrowsRow.holds Try.pinned (OpenSpec.ofChange bloomGrowsWrong)

/-- 'tarmaclaw01.PackLists': WHATEVER THE INPUT: true; the input reads as it did. -/
def packListsSpec : ChangeSpec := { name := "packLists", fn := fun _ => fun
  | [d1, d2, d3] => { results := [.lit (.bool true)], args := [d1, d2, d3] }
  | _ => none }
def packListsRow : OpenClaim := { program := "ytmjkebokedaldaa", sum := "fe0f5fbc11567534c93be7c399bb357c110a0c08091a87c3bcbae07bc36f9442", func := "tarmac/tarmaclaw01.PackLists", spec := "packLists", apart := false }
def PackListsSaid : Prop := packListsRow.holds Try.pinned (OpenSpec.ofChange packListsSpec)

/-- ITS FALSE NEIGHBOUR: 'it returns false'. Refute it at one input. -/
def packListsWrong : ChangeSpec := { name := "packLists", fn := fun _ => fun
  | [d1, d2, d3] => { results := [.lit (.bool false)], args := [d1, d2, d3] }
  | _ => none }
def PackListsWrongFalsely : Prop := packListsRow.holds Try.pinned (OpenSpec.ofChange packListsWrong)

/-- 'tarmaclaw01.PackWrites': WHATEVER THE INPUT: true; the input reads as it did. -/
def packWritesSpec : ChangeSpec := { name := "packWrites", fn := fun _ => fun
  | [d] => { results := [.lit (.bool true)], args := [d] }
  | _ => none }
def packWritesRow : OpenClaim := { program := "ytmjkebokedaldaa", sum := "fe0f5fbc11567534c93be7c399bb357c110a0c08091a87c3bcbae07bc36f9442", func := "tarmac/tarmaclaw01.PackWrites", spec := "packWrites", apart := false }
def PackWritesSaid : Prop := packWritesRow.holds Try.pinned (OpenSpec.ofChange packWritesSpec)

/-- ITS FALSE NEIGHBOUR: 'it returns false'. Refute it at one input. -/
def packWritesWrong : ChangeSpec := { name := "packWrites", fn := fun _ => fun
  | [d] => { results := [.lit (.bool false)], args := [d] }
  | _ => none }
def PackWritesWrongFalsely : Prop := packWritesRow.holds Try.pinned (OpenSpec.ofChange packWritesWrong)

/-- 'tarmaclaw01.PackUnlike': WHATEVER THE INPUT: true; the input reads as it did. -/
def packUnlikeSpec : ChangeSpec := { name := "packUnlike", fn := fun _ => fun
  | [d1, d2] => { results := [.lit (.bool true)], args := [d1, d2] }
  | _ => none }
def packUnlikeRow : OpenClaim := { program := "ytmjkebokedaldaa", sum := "fe0f5fbc11567534c93be7c399bb357c110a0c08091a87c3bcbae07bc36f9442", func := "tarmac/tarmaclaw01.PackUnlike", spec := "packUnlike", apart := false }
def PackUnlikeSaid : Prop := packUnlikeRow.holds Try.pinned (OpenSpec.ofChange packUnlikeSpec)

/-- ITS FALSE NEIGHBOUR: 'it returns false'. Refute it at one input. -/
def packUnlikeWrong : ChangeSpec := { name := "packUnlike", fn := fun _ => fun
  | [d1, d2] => { results := [.lit (.bool false)], args := [d1, d2] }
  | _ => none }
def PackUnlikeWrongFalsely : Prop := packUnlikeRow.holds Try.pinned (OpenSpec.ofChange packUnlikeWrong)

/-- 'tarmaclaw01.PackReads': WHATEVER THE INPUT: true; the input reads as it did. -/
def packReadsSpec : ChangeSpec := { name := "packReads", fn := fun _ => fun
  | [d1, d2] => { results := [.lit (.bool true)], args := [d1, d2] }
  | _ => none }
def packReadsRow : OpenClaim := { program := "ytmjkebokedaldaa", sum := "fe0f5fbc11567534c93be7c399bb357c110a0c08091a87c3bcbae07bc36f9442", func := "tarmac/tarmaclaw01.PackReads", spec := "packReads", apart := false }
def PackReadsSaid : Prop := packReadsRow.holds Try.pinned (OpenSpec.ofChange packReadsSpec)

/-- ITS FALSE NEIGHBOUR: 'it returns false'. Refute it at one input. -/
def packReadsWrong : ChangeSpec := { name := "packReads", fn := fun _ => fun
  | [d1, d2] => { results := [.lit (.bool false)], args := [d1, d2] }
  | _ => none }
def PackReadsWrongFalsely : Prop := packReadsRow.holds Try.pinned (OpenSpec.ofChange packReadsWrong)

/-- 'tarmaclaw01.PackBack': WHATEVER THE INPUT: true; the input reads as it did. -/
def packBackSpec : ChangeSpec := { name := "packBack", fn := fun _ => fun
  | [d] => { results := [.lit (.bool true)], args := [d] }
  | _ => none }
def packBackRow : OpenClaim := { program := "ytmjkebokedaldaa", sum := "fe0f5fbc11567534c93be7c399bb357c110a0c08091a87c3bcbae07bc36f9442", func := "tarmac/tarmaclaw01.PackBack", spec := "packBack", apart := false }
def PackBackSaid : Prop := packBackRow.holds Try.pinned (OpenSpec.ofChange packBackSpec)

/-- ITS FALSE NEIGHBOUR: 'it returns false'. Refute it at one input. -/
def packBackWrong : ChangeSpec := { name := "packBack", fn := fun _ => fun
  | [d] => { results := [.lit (.bool false)], args := [d] }
  | _ => none }
def PackBackWrongFalsely : Prop := packBackRow.holds Try.pinned (OpenSpec.ofChange packBackWrong)

/-- 'tarmaclaw01.PackOnly': WHATEVER THE INPUT: true; the input reads as it did. -/
def packOnlySpec : ChangeSpec := { name := "packOnly", fn := fun _ => fun
  | [d1, d2] => { results := [.lit (.bool true)], args := [d1, d2] }
  | _ => none }
def packOnlyRow : OpenClaim := { program := "ytmjkebokedaldaa", sum := "fe0f5fbc11567534c93be7c399bb357c110a0c08091a87c3bcbae07bc36f9442", func := "tarmac/tarmaclaw01.PackOnly", spec := "packOnly", apart := false }
def PackOnlySaid : Prop := packOnlyRow.holds Try.pinned (OpenSpec.ofChange packOnlySpec)

/-- ITS FALSE NEIGHBOUR: 'it returns false'. Refute it at one input. -/
def packOnlyWrong : ChangeSpec := { name := "packOnly", fn := fun _ => fun
  | [d1, d2] => { results := [.lit (.bool false)], args := [d1, d2] }
  | _ => none }
def PackOnlyWrongFalsely : Prop := packOnlyRow.holds Try.pinned (OpenSpec.ofChange packOnlyWrong)

/- THE SECOND FORM. 'bulk': how many values and letters a reading holds, each counted each time it is reached (what is shared counts as often as it is met; a slice's spare places count too). A statement '..UptoSaid' is the law's where the arguments, and the package variables that the reading takes, are together of bulk at most 1048576: NARROWER than '..Said'. Prove '..Said' where nothing that the law and all that it calls make is longer than what came in: it says more and counts as full. Else prove '..UptoSaid'. A law counts once. -/
mutual
def uptoBulk {H : Type} : DataW H → Nat
  | .lit (.string bytes) => bytes.length + 1
  | .lit _ => 1
  | .nil => 1
  | .ptr d => uptoBulk d + 1
  | .slice elems spare => uptoBulkAll elems + uptoBulkAll spare + 1
  | .agg parts => uptoBulkAll parts + 1
  | .iface _ d => uptoBulk d + 1
  | .map entries => uptoBulkEntries entries + 1
  | .held _ => 1
def uptoBulkAll {H : Type} : List (DataW H) → Nat
  | [] => 0
  | d :: r => uptoBulk d + uptoBulkAll r
def uptoBulkEntries {H : Type} : List (Lit × DataW H) → Nat
  | [] => 0
  | x :: r => uptoBulkEntry x + uptoBulkEntries r
def uptoBulkEntry {H : Type} : Lit × DataW H → Nat
  | (.string bytes, d) => bytes.length + uptoBulk d + 1
  | (_, d) => uptoBulk d + 1
 end
def uptoSmall : (H : Type) → List (DataW H) → Bool := fun _ ds => decide (uptoBulkAll ds ≤ 1048576)
def OpenSpec.upto (s : _root_.Go.ChangeSpec) : _root_.Go.OpenSpec := { _root_.Go.OpenSpec.ofChange s with cond := some uptoSmall }

/-- 'tarmaclaw07.BloomExact', WHERE WHAT IT READS IS OF BULK AT MOST 1048576: true; the input reads as it did. -/
def bloomExactUptoRow : OpenClaim := { program := "ytmjkebokedaldaa", sum := "fe0f5fbc11567534c93be7c399bb357c110a0c08091a87c3bcbae07bc36f9442", func := "tarmac/tarmaclaw07.BloomExact", spec := "bloomExact", apart := false, narrowed := true }
def BloomExactUptoSaid : Prop := bloomExactUptoRow.holds Try.pinned (OpenSpec.upto bloomExactSpec)

/-- 'tarmaclaw07.BloomKeeps', WHERE WHAT IT READS IS OF BULK AT MOST 1048576: true; the input reads as it did. -/
def bloomKeepsUptoRow : OpenClaim := { program := "ytmjkebokedaldaa", sum := "fe0f5fbc11567534c93be7c399bb357c110a0c08091a87c3bcbae07bc36f9442", func := "tarmac/tarmaclaw07.BloomKeeps", spec := "bloomKeeps", apart := false, narrowed := true }
def BloomKeepsUptoSaid : Prop := bloomKeepsUptoRow.holds Try.pinned (OpenSpec.upto bloomKeepsSpec)

/-- 'tarmaclaw07.BloomGrows', WHERE WHAT IT READS IS OF BULK AT MOST 1048576: true; the input reads as it did. -/
def bloomGrowsUptoRow : OpenClaim := { program := "ytmjkebokedaldaa", sum := "fe0f5fbc11567534c93be7c399bb357c110a0c08091a87c3bcbae07bc36f9442", func := "tarmac/tarmaclaw07.BloomGrows", spec := "bloomGrows", apart := false, narrowed := true }
def BloomGrowsUptoSaid : Prop := bloomGrowsUptoRow.holds Try.pinned (OpenSpec.upto bloomGrowsSpec)

/-- 'tarmaclaw01.PackLists', WHERE WHAT IT READS IS OF BULK AT MOST 1048576: true; the input reads as it did. -/
def packListsUptoRow : OpenClaim := { program := "ytmjkebokedaldaa", sum := "fe0f5fbc11567534c93be7c399bb357c110a0c08091a87c3bcbae07bc36f9442", func := "tarmac/tarmaclaw01.PackLists", spec := "packLists", apart := false, narrowed := true }
def PackListsUptoSaid : Prop := packListsUptoRow.holds Try.pinned (OpenSpec.upto packListsSpec)

/-- 'tarmaclaw01.PackWrites', WHERE WHAT IT READS IS OF BULK AT MOST 1048576: true; the input reads as it did. -/
def packWritesUptoRow : OpenClaim := { program := "ytmjkebokedaldaa", sum := "fe0f5fbc11567534c93be7c399bb357c110a0c08091a87c3bcbae07bc36f9442", func := "tarmac/tarmaclaw01.PackWrites", spec := "packWrites", apart := false, narrowed := true }
def PackWritesUptoSaid : Prop := packWritesUptoRow.holds Try.pinned (OpenSpec.upto packWritesSpec)

/-- 'tarmaclaw01.PackUnlike', WHERE WHAT IT READS IS OF BULK AT MOST 1048576: true; the input reads as it did. -/
def packUnlikeUptoRow : OpenClaim := { program := "ytmjkebokedaldaa", sum := "fe0f5fbc11567534c93be7c399bb357c110a0c08091a87c3bcbae07bc36f9442", func := "tarmac/tarmaclaw01.PackUnlike", spec := "packUnlike", apart := false, narrowed := true }
def PackUnlikeUptoSaid : Prop := packUnlikeUptoRow.holds Try.pinned (OpenSpec.upto packUnlikeSpec)

/-- 'tarmaclaw01.PackReads', WHERE WHAT IT READS IS OF BULK AT MOST 1048576: true; the input reads as it did. -/
def packReadsUptoRow : OpenClaim := { program := "ytmjkebokedaldaa", sum := "fe0f5fbc11567534c93be7c399bb357c110a0c08091a87c3bcbae07bc36f9442", func := "tarmac/tarmaclaw01.PackReads", spec := "packReads", apart := false, narrowed := true }
def PackReadsUptoSaid : Prop := packReadsUptoRow.holds Try.pinned (OpenSpec.upto packReadsSpec)

/-- 'tarmaclaw01.PackBack', WHERE WHAT IT READS IS OF BULK AT MOST 1048576: true; the input reads as it did. -/
def packBackUptoRow : OpenClaim := { program := "ytmjkebokedaldaa", sum := "fe0f5fbc11567534c93be7c399bb357c110a0c08091a87c3bcbae07bc36f9442", func := "tarmac/tarmaclaw01.PackBack", spec := "packBack", apart := false, narrowed := true }
def PackBackUptoSaid : Prop := packBackUptoRow.holds Try.pinned (OpenSpec.upto packBackSpec)

/-- 'tarmaclaw01.PackOnly', WHERE WHAT IT READS IS OF BULK AT MOST 1048576: true; the input reads as it did. -/
def packOnlyUptoRow : OpenClaim := { program := "ytmjkebokedaldaa", sum := "fe0f5fbc11567534c93be7c399bb357c110a0c08091a87c3bcbae07bc36f9442", func := "tarmac/tarmaclaw01.PackOnly", spec := "packOnly", apart := false, narrowed := true }
def PackOnlyUptoSaid : Prop := packOnlyUptoRow.holds Try.pinned (OpenSpec.upto packOnlySpec)

end Rows
end Go.Proofs.Ytmjkebokedaldaa
