/-
  No cell of these rows narrows 'for every input' (looked for: loops, veiled, ifaces, maps, wideKeys, modest, calm, conditions, laid).
  DERIVED. THE GIVEN ROWS OF THIS SEAT. 4 by the template 'for every input the law returns true; each argument reads behind the call as it read before'; 0 by the template 'total and deterministic' (their statements: YthaobfdocnaneaaTotals.lean).
  GIVEN WITH THE SEED: the statements are not yours to turn. If you find one false, say at which input.
  Laid BY PROGRAM, IN A SANDBOX (cutbox-rows.mjs): the forced cells as the released guide's own fill.sh prints them over the translation b3a02a97c4927f03… (all of the seat's roots in one cut). By AI agents, Wed Nov 11 2026. No macro, syntax, notation, axiom, sorry.
-/
import Derived.Test.YthaobfdocnaneaaChecked
import GoSem.Claim
import GoSem.ClaimJoined
import GoSem.ClaimMapViews
import Derived.JoinedTies
import Derived.KernelRfl
namespace Go.Proofs.Ythaobfdocnaneaa
/- THE CELL 'sum', in the pinned program and in every row, IS THE sha256 OF THE DUMP (.gsa) THAT YthaobfdocnaneaaProg.lean LOADS. Nothing in Lean hashes anything: it is a label: what it is worth is what the hold of that sum in a sandbox is worth. -/
noncomputable def Try.pinned : Pinned := { name := "ythaobfdocnaneaa", sum := "b3a02a97c4927f034afe9f87be27aa2a729e071716c961ac198a36edbe10185c", checked := Try.checked }
namespace Rows
def none {H : Type} : Left H := { results := [], args := [] }

/-- 'tarmaclaw06.MemOrder': WHATEVER THE INPUT: true; the input reads as it did. -/
def memOrderSpec : ChangeSpec := { name := "memOrder", fn := fun _ => fun
  | [d1, d2, d3] => { results := [.lit (.bool true)], args := [d1, d2, d3] }
  | _ => none }
def memOrderRow : OpenClaim := { program := "ythaobfdocnaneaa", sum := "b3a02a97c4927f034afe9f87be27aa2a729e071716c961ac198a36edbe10185c", func := "tarmac/tarmaclaw06.MemOrder", spec := "memOrder", inPlace := ["internal/bytealg.abigen_runtime_cmpstring"], plainKeys := false, apart := false }
def MemOrderSaid : Prop := memOrderRow.holds Try.pinned (OpenSpec.ofChange memOrderSpec)

/-- ITS FALSE NEIGHBOUR: 'it returns false'. Refute it at one input. -/
def memOrderWrong : ChangeSpec := { name := "memOrder", fn := fun _ => fun
  | [d1, d2, d3] => { results := [.lit (.bool false)], args := [d1, d2, d3] }
  | _ => none }
def MemOrderWrongFalsely : Prop := memOrderRow.holds Try.pinned (OpenSpec.ofChange memOrderWrong)

/-- 'tarmaclaw06.MemPlays': WHATEVER THE INPUT: true; the input reads as it did. -/
def memPlaysSpec : ChangeSpec := { name := "memPlays", fn := fun _ => fun
  | [d1, d2, d3] => { results := [.lit (.bool true)], args := [d1, d2, d3] }
  | _ => none }
def memPlaysRow : OpenClaim := { program := "ythaobfdocnaneaa", sum := "b3a02a97c4927f034afe9f87be27aa2a729e071716c961ac198a36edbe10185c", func := "tarmac/tarmaclaw06.MemPlays", spec := "memPlays", inPlace := ["internal/bytealg.abigen_runtime_cmpstring"], plainKeys := false, apart := false }
def MemPlaysSaid : Prop := memPlaysRow.holds Try.pinned (OpenSpec.ofChange memPlaysSpec)

/-- ITS FALSE NEIGHBOUR: 'it returns false'. Refute it at one input. -/
def memPlaysWrong : ChangeSpec := { name := "memPlays", fn := fun _ => fun
  | [d1, d2, d3] => { results := [.lit (.bool false)], args := [d1, d2, d3] }
  | _ => none }
def MemPlaysWrongFalsely : Prop := memPlaysRow.holds Try.pinned (OpenSpec.ofChange memPlaysWrong)

/-- 'tarmaclaw06.MemFinds': WHATEVER THE INPUT: true; the input reads as it did. -/
def memFindsSpec : ChangeSpec := { name := "memFinds", fn := fun _ => fun
  | [d1, d2, d3] => { results := [.lit (.bool true)], args := [d1, d2, d3] }
  | _ => none }
def memFindsRow : OpenClaim := { program := "ythaobfdocnaneaa", sum := "b3a02a97c4927f034afe9f87be27aa2a729e071716c961ac198a36edbe10185c", func := "tarmac/tarmaclaw06.MemFinds", spec := "memFinds", inPlace := ["internal/bytealg.abigen_runtime_cmpstring"], plainKeys := false, apart := false }
def MemFindsSaid : Prop := memFindsRow.holds Try.pinned (OpenSpec.ofChange memFindsSpec)

/-- ITS FALSE NEIGHBOUR: 'it returns false'. Refute it at one input. -/
def memFindsWrong : ChangeSpec := { name := "memFinds", fn := fun _ => fun
  | [d1, d2, d3] => { results := [.lit (.bool false)], args := [d1, d2, d3] }
  | _ => none }
def MemFindsWrongFalsely : Prop := memFindsRow.holds Try.pinned (OpenSpec.ofChange memFindsWrong)

/-- 'tarmaclaw06.MemApart': WHATEVER THE INPUT: true; the input reads as it did. -/
def memApartSpec : ChangeSpec := { name := "memApart", fn := fun _ => fun
  | [d1, d2] => { results := [.lit (.bool true)], args := [d1, d2] }
  | _ => none }
def memApartRow : OpenClaim := { program := "ythaobfdocnaneaa", sum := "b3a02a97c4927f034afe9f87be27aa2a729e071716c961ac198a36edbe10185c", func := "tarmac/tarmaclaw06.MemApart", spec := "memApart", inPlace := ["internal/bytealg.abigen_runtime_cmpstring"], plainKeys := false, apart := false }
def MemApartSaid : Prop := memApartRow.holds Try.pinned (OpenSpec.ofChange memApartSpec)

/-- ITS FALSE NEIGHBOUR: 'it returns false'. Refute it at one input. -/
def memApartWrong : ChangeSpec := { name := "memApart", fn := fun _ => fun
  | [d1, d2] => { results := [.lit (.bool false)], args := [d1, d2] }
  | _ => none }
def MemApartWrongFalsely : Prop := memApartRow.holds Try.pinned (OpenSpec.ofChange memApartWrong)

/- THE SECOND FORM. 'bulk': how many values and letters a reading holds, each counted each time it is reached (what is shared counts as often as it is met; a slice's spare places count too). A statement '..UptoSaid' is the law's where the arguments, and the package variables that the reading takes, are together of bulk at most 1048576: NARROWER than '..Said'. Prove '..Said' where nothing that the law and all that it calls make is longer than what came in: it says more and counts as full. Else prove '..UptoSaid'. A law counts once. -/
mutual
def uptoBulk {H : Type} : DataW H → Nat
  | .lit (.string bytes) => bytes.length + 1
  | .lit _ => 1
  | .nil => 1
  | .ptr d => uptoBulk d + 1
  | .slice elems spare => uptoBulkAll elems + uptoBulkAll spare + 1
  | .agg parts => uptoBulkAll parts + 1
  | .iface _ d => uptoBulk d + 1
  | .map entries => uptoBulkEntries entries + 1
  | .held _ => 1
def uptoBulkAll {H : Type} : List (DataW H) → Nat
  | [] => 0
  | d :: r => uptoBulk d + uptoBulkAll r
def uptoBulkEntries {H : Type} : List (Lit × DataW H) → Nat
  | [] => 0
  | x :: r => uptoBulkEntry x + uptoBulkEntries r
def uptoBulkEntry {H : Type} : Lit × DataW H → Nat
  | (.string bytes, d) => bytes.length + uptoBulk d + 1
  | (_, d) => uptoBulk d + 1
 end
def uptoSmall : (H : Type) → List (DataW H) → Bool := fun _ ds => decide (uptoBulkAll ds ≤ 1048576)
def OpenSpec.upto (s : _root_.Go.ChangeSpec) : _root_.Go.OpenSpec := { _root_.Go.OpenSpec.ofChange s with cond := some uptoSmall }

/-- 'tarmaclaw06.MemOrder', WHERE WHAT IT READS IS OF BULK AT MOST 1048576: true; the input reads as it did. -/
def memOrderUptoRow : OpenClaim := { program := "ythaobfdocnaneaa", sum := "b3a02a97c4927f034afe9f87be27aa2a729e071716c961ac198a36edbe10185c", func := "tarmac/tarmaclaw06.MemOrder", spec := "memOrder", inPlace := ["internal/bytealg.abigen_runtime_cmpstring"], plainKeys := false, apart := false, narrowed := true }
def MemOrderUptoSaid : Prop := memOrderUptoRow.holds Try.pinned (OpenSpec.upto memOrderSpec)

/-- 'tarmaclaw06.MemPlays', WHERE WHAT IT READS IS OF BULK AT MOST 1048576: true; the input reads as it did. -/
def memPlaysUptoRow : OpenClaim := { program := "ythaobfdocnaneaa", sum := "b3a02a97c4927f034afe9f87be27aa2a729e071716c961ac198a36edbe10185c", func := "tarmac/tarmaclaw06.MemPlays", spec := "memPlays", inPlace := ["internal/bytealg.abigen_runtime_cmpstring"], plainKeys := false, apart := false, narrowed := true }
def MemPlaysUptoSaid : Prop := memPlaysUptoRow.holds Try.pinned (OpenSpec.upto memPlaysSpec)

/-- 'tarmaclaw06.MemFinds', WHERE WHAT IT READS IS OF BULK AT MOST 1048576: true; the input reads as it did. -/
def memFindsUptoRow : OpenClaim := { program := "ythaobfdocnaneaa", sum := "b3a02a97c4927f034afe9f87be27aa2a729e071716c961ac198a36edbe10185c", func := "tarmac/tarmaclaw06.MemFinds", spec := "memFinds", inPlace := ["internal/bytealg.abigen_runtime_cmpstring"], plainKeys := false, apart := false, narrowed := true }
def MemFindsUptoSaid : Prop := memFindsUptoRow.holds Try.pinned (OpenSpec.upto memFindsSpec)

/-- 'tarmaclaw06.MemApart', WHERE WHAT IT READS IS OF BULK AT MOST 1048576: true; the input reads as it did. -/
def memApartUptoRow : OpenClaim := { program := "ythaobfdocnaneaa", sum := "b3a02a97c4927f034afe9f87be27aa2a729e071716c961ac198a36edbe10185c", func := "tarmac/tarmaclaw06.MemApart", spec := "memApart", inPlace := ["internal/bytealg.abigen_runtime_cmpstring"], plainKeys := false, apart := false, narrowed := true }
def MemApartUptoSaid : Prop := memApartUptoRow.holds Try.pinned (OpenSpec.upto memApartSpec)

end Rows
end Go.Proofs.Ythaobfdocnaneaa
