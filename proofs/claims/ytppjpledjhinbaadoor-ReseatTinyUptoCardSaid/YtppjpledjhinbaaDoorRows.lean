/-
  NARROWER THAN 'FOR EVERY INPUT', by the rows' own cells (each row's printed sentence says how): ReseatExact: laid · ReseatValid: laid · ReseatTiny: laid · ReseatStays: laid · ReseatFirst: laid · ReseatMore: laid · ReseatOrder: laid · GateCalm: laid · GateDenies: laid · GateClears: laid.
  DERIVED. THE GIVEN ROWS OF THIS SEAT. 10 by the template 'for every input the law returns true; each argument reads behind the call as it read before'; 0 by the template 'total and deterministic' (their statements: YtppjpledjhinbaaDoorTotals.lean).
  GIVEN WITH THE SEED: the statements are not yours to turn. If you find one false, say at which input.
  Laid BY PROGRAM, IN A SANDBOX (cutbox-rows.mjs): the forced cells as the released guide's own fill.sh prints them over the translation 8b22b14ee6b46b1b… (all of the seat's roots in one cut). By AI agents, Wed Nov 11 2026. No macro, syntax, notation, axiom, sorry.
-/
import Derived.Test.YtppjpledjhinbaaDoorChecked
import GoSem.PinnedTables
import GoSem.Claim
import GoSem.ClaimJoined
import GoSem.ClaimMapViews
import Derived.JoinedTies
import Derived.KernelRfl
namespace Go.Proofs.YtppjpledjhinbaaDoor
/- THE CELL 'sum', in the pinned program and in every row, IS THE sha256 OF THE DUMP (.gsa) THAT YtppjpledjhinbaaDoorProg.lean LOADS. Nothing in Lean hashes anything: it is a label: what it is worth is what the hold of that sum in a sandbox is worth. -/
noncomputable def Tryd.pinned : Pinned := { name := "ytppjpledjhinbaadoor", sum := "8b22b14ee6b46b1ba4703783443297a667335dccde4d4e18ac9aa48a29755232", checked := Tryd.checked }
namespace Rows
def none {H : Type} : Left H := { results := [], args := [] }

/- WHAT THE LISTED PACKAGE-LEVEL VARIABLES READ AS WHEN THE CALL BEGINS. Each datum BY PROGRAM (the guide's laid-datum.mjs) off the statement by which the dump's own 'gosem.cut.vars' lays the variable. In a bare row this is a premise. The card (YtppjpledjhinbaaDoorCards.lean) ties it to the program's text. -/
def laid_unicode_utf8_acceptRanges {H : Type} : DataW H := .agg [.agg [.lit (.int .u8 128), .lit (.int .u8 191)], .agg [.lit (.int .u8 160), .lit (.int .u8 191)], .agg [.lit (.int .u8 128), .lit (.int .u8 159)], .agg [.lit (.int .u8 144), .lit (.int .u8 191)], .agg [.lit (.int .u8 128), .lit (.int .u8 143)], .agg [.lit (.int .u8 0), .lit (.int .u8 0)], .agg [.lit (.int .u8 0), .lit (.int .u8 0)], .agg [.lit (.int .u8 0), .lit (.int .u8 0)], .agg [.lit (.int .u8 0), .lit (.int .u8 0)], .agg [.lit (.int .u8 0), .lit (.int .u8 0)], .agg [.lit (.int .u8 0), .lit (.int .u8 0)], .agg [.lit (.int .u8 0), .lit (.int .u8 0)], .agg [.lit (.int .u8 0), .lit (.int .u8 0)], .agg [.lit (.int .u8 0), .lit (.int .u8 0)], .agg [.lit (.int .u8 0), .lit (.int .u8 0)], .agg [.lit (.int .u8 0), .lit (.int .u8 0)]]
/-- One of Go's own tables, pinned by name: the form's constant. -/
def laid_unicode_CaseRanges : DataW Unit := Go.Pinned.caseRanges
/-- One of Go's own tables, pinned by name: the form's constant. -/
def laid_unicode_utf8_first : DataW Unit := Go.Pinned.utf8First

/-- 'tarmaclaw17.ReseatExact': WHATEVER THE INPUT: true; the input reads as it did. -/
def reseatExactSpec : ChangeSpec := { name := "reseatExact", fn := fun _ => fun
  | [d1, d2] => { results := [.lit (.bool true)], args := [d1, d2] }
  | _ => none }
def reseatExactRow : OpenClaim := { program := "ytppjpledjhinbaadoor", sum := "8b22b14ee6b46b1ba4703783443297a667335dccde4d4e18ac9aa48a29755232", func := "tarmac/tarmaclaw17.ReseatExact", spec := "reseatExact", inPlace := ["internal/abi.NoEscape", "internal/bytealg.MakeNoZero", "internal/bytealg.CountString", "internal/bytealg.IndexByteString", "internal/bytealg.IndexString"], unfollowed := true, recurses := true, named := ["unicode/utf8.first", "unicode/utf8.acceptRanges", "unicode.CaseRanges", "internal/bytealg.MaxLen"], plainKeys := false, apart := false, laid := [("unicode/utf8.acceptRanges", laid_unicode_utf8_acceptRanges), ("unicode.CaseRanges", laid_unicode_CaseRanges), ("unicode/utf8.first", laid_unicode_utf8_first)] }
def ReseatExactSaid : Prop := reseatExactRow.holds Tryd.pinned (OpenSpec.ofChange reseatExactSpec)

/-- ITS FALSE NEIGHBOUR: 'it returns false'. Refute it at one input. -/
def reseatExactWrong : ChangeSpec := { name := "reseatExact", fn := fun _ => fun
  | [d1, d2] => { results := [.lit (.bool false)], args := [d1, d2] }
  | _ => none }
def ReseatExactWrongFalsely : Prop := reseatExactRow.holds Tryd.pinned (OpenSpec.ofChange reseatExactWrong)

/-- 'tarmaclaw17.ReseatValid': WHATEVER THE INPUT: true; the input reads as it did. -/
def reseatValidSpec : ChangeSpec := { name := "reseatValid", fn := fun _ => fun
  | [d1, d2] => { results := [.lit (.bool true)], args := [d1, d2] }
  | _ => none }
def reseatValidRow : OpenClaim := { program := "ytppjpledjhinbaadoor", sum := "8b22b14ee6b46b1ba4703783443297a667335dccde4d4e18ac9aa48a29755232", func := "tarmac/tarmaclaw17.ReseatValid", spec := "reseatValid", inPlace := ["internal/abi.NoEscape", "internal/bytealg.MakeNoZero", "internal/bytealg.CountString", "internal/bytealg.IndexByteString", "internal/bytealg.IndexString"], unfollowed := true, recurses := true, named := ["unicode/utf8.first", "unicode/utf8.acceptRanges", "unicode.CaseRanges", "internal/bytealg.MaxLen"], plainKeys := false, apart := false, laid := [("unicode/utf8.acceptRanges", laid_unicode_utf8_acceptRanges), ("unicode.CaseRanges", laid_unicode_CaseRanges), ("unicode/utf8.first", laid_unicode_utf8_first)] }
def ReseatValidSaid : Prop := reseatValidRow.holds Tryd.pinned (OpenSpec.ofChange reseatValidSpec)

/-- ITS FALSE NEIGHBOUR: 'it returns false'. Refute it at one input. -/
def reseatValidWrong : ChangeSpec := { name := "reseatValid", fn := fun _ => fun
  | [d1, d2] => { results := [.lit (.bool false)], args := [d1, d2] }
  | _ => none }
def ReseatValidWrongFalsely : Prop := reseatValidRow.holds Tryd.pinned (OpenSpec.ofChange reseatValidWrong)

/-- 'tarmaclaw17.ReseatTiny': WHATEVER THE INPUT: true; the input reads as it did. -/
def reseatTinySpec : ChangeSpec := { name := "reseatTiny", fn := fun _ => fun
  | [d1, d2] => { results := [.lit (.bool true)], args := [d1, d2] }
  | _ => none }
def reseatTinyRow : OpenClaim := { program := "ytppjpledjhinbaadoor", sum := "8b22b14ee6b46b1ba4703783443297a667335dccde4d4e18ac9aa48a29755232", func := "tarmac/tarmaclaw17.ReseatTiny", spec := "reseatTiny", inPlace := ["internal/abi.NoEscape", "internal/bytealg.MakeNoZero", "internal/bytealg.CountString", "internal/bytealg.IndexByteString", "internal/bytealg.IndexString"], unfollowed := true, recurses := true, named := ["unicode/utf8.first", "unicode/utf8.acceptRanges", "unicode.CaseRanges", "internal/bytealg.MaxLen"], plainKeys := false, apart := false, laid := [("unicode/utf8.acceptRanges", laid_unicode_utf8_acceptRanges), ("unicode.CaseRanges", laid_unicode_CaseRanges), ("unicode/utf8.first", laid_unicode_utf8_first)] }
def ReseatTinySaid : Prop := reseatTinyRow.holds Tryd.pinned (OpenSpec.ofChange reseatTinySpec)

/-- ITS FALSE NEIGHBOUR: 'it returns false'. Refute it at one input. -/
def reseatTinyWrong : ChangeSpec := { name := "reseatTiny", fn := fun _ => fun
  | [d1, d2] => { results := [.lit (.bool false)], args := [d1, d2] }
  | _ => none }
def ReseatTinyWrongFalsely : Prop := reseatTinyRow.holds Tryd.pinned (OpenSpec.ofChange reseatTinyWrong)

/-- 'tarmaclaw17.ReseatStays': WHATEVER THE INPUT: true; the input reads as it did. -/
def reseatStaysSpec : ChangeSpec := { name := "reseatStays", fn := fun _ => fun
  | [d1, d2] => { results := [.lit (.bool true)], args := [d1, d2] }
  | _ => none }
def reseatStaysRow : OpenClaim := { program := "ytppjpledjhinbaadoor", sum := "8b22b14ee6b46b1ba4703783443297a667335dccde4d4e18ac9aa48a29755232", func := "tarmac/tarmaclaw17.ReseatStays", spec := "reseatStays", inPlace := ["internal/abi.NoEscape", "internal/bytealg.MakeNoZero", "internal/bytealg.CountString", "internal/bytealg.IndexByteString", "internal/bytealg.IndexString"], unfollowed := true, recurses := true, named := ["unicode/utf8.first", "unicode/utf8.acceptRanges", "unicode.CaseRanges", "internal/bytealg.MaxLen"], plainKeys := false, apart := false, laid := [("unicode/utf8.acceptRanges", laid_unicode_utf8_acceptRanges), ("unicode.CaseRanges", laid_unicode_CaseRanges), ("unicode/utf8.first", laid_unicode_utf8_first)] }
def ReseatStaysSaid : Prop := reseatStaysRow.holds Tryd.pinned (OpenSpec.ofChange reseatStaysSpec)

/-- ITS FALSE NEIGHBOUR: 'it returns false'. Refute it at one input. -/
def reseatStaysWrong : ChangeSpec := { name := "reseatStays", fn := fun _ => fun
  | [d1, d2] => { results := [.lit (.bool false)], args := [d1, d2] }
  | _ => none }
def ReseatStaysWrongFalsely : Prop := reseatStaysRow.holds Tryd.pinned (OpenSpec.ofChange reseatStaysWrong)

/-- 'tarmaclaw17.ReseatFirst': WHATEVER THE INPUT: true; the input reads as it did. -/
def reseatFirstSpec : ChangeSpec := { name := "reseatFirst", fn := fun _ => fun
  | [d1, d2] => { results := [.lit (.bool true)], args := [d1, d2] }
  | _ => none }
def reseatFirstRow : OpenClaim := { program := "ytppjpledjhinbaadoor", sum := "8b22b14ee6b46b1ba4703783443297a667335dccde4d4e18ac9aa48a29755232", func := "tarmac/tarmaclaw17.ReseatFirst", spec := "reseatFirst", inPlace := ["internal/abi.NoEscape", "internal/bytealg.MakeNoZero", "internal/bytealg.CountString", "internal/bytealg.IndexByteString", "internal/bytealg.IndexString"], unfollowed := true, recurses := true, named := ["unicode/utf8.first", "unicode/utf8.acceptRanges", "unicode.CaseRanges", "internal/bytealg.MaxLen"], plainKeys := false, apart := false, laid := [("unicode/utf8.acceptRanges", laid_unicode_utf8_acceptRanges), ("unicode.CaseRanges", laid_unicode_CaseRanges), ("unicode/utf8.first", laid_unicode_utf8_first)] }
def ReseatFirstSaid : Prop := reseatFirstRow.holds Tryd.pinned (OpenSpec.ofChange reseatFirstSpec)

/-- ITS FALSE NEIGHBOUR: 'it returns false'. Refute it at one input. -/
def reseatFirstWrong : ChangeSpec := { name := "reseatFirst", fn := fun _ => fun
  | [d1, d2] => { results := [.lit (.bool false)], args := [d1, d2] }
  | _ => none }
def ReseatFirstWrongFalsely : Prop := reseatFirstRow.holds Tryd.pinned (OpenSpec.ofChange reseatFirstWrong)

/-- 'tarmaclaw17.ReseatMore': WHATEVER THE INPUT: true; the input reads as it did. -/
def reseatMoreSpec : ChangeSpec := { name := "reseatMore", fn := fun _ => fun
  | [d1, d2] => { results := [.lit (.bool true)], args := [d1, d2] }
  | _ => none }
def reseatMoreRow : OpenClaim := { program := "ytppjpledjhinbaadoor", sum := "8b22b14ee6b46b1ba4703783443297a667335dccde4d4e18ac9aa48a29755232", func := "tarmac/tarmaclaw17.ReseatMore", spec := "reseatMore", inPlace := ["internal/abi.NoEscape", "internal/bytealg.MakeNoZero", "internal/bytealg.CountString", "internal/bytealg.IndexByteString", "internal/bytealg.IndexString"], unfollowed := true, recurses := true, named := ["unicode/utf8.first", "unicode/utf8.acceptRanges", "unicode.CaseRanges", "internal/bytealg.MaxLen"], plainKeys := false, apart := false, laid := [("unicode/utf8.acceptRanges", laid_unicode_utf8_acceptRanges), ("unicode.CaseRanges", laid_unicode_CaseRanges), ("unicode/utf8.first", laid_unicode_utf8_first)] }
def ReseatMoreSaid : Prop := reseatMoreRow.holds Tryd.pinned (OpenSpec.ofChange reseatMoreSpec)

/-- ITS FALSE NEIGHBOUR: 'it returns false'. Refute it at one input. -/
def reseatMoreWrong : ChangeSpec := { name := "reseatMore", fn := fun _ => fun
  | [d1, d2] => { results := [.lit (.bool false)], args := [d1, d2] }
  | _ => none }
def ReseatMoreWrongFalsely : Prop := reseatMoreRow.holds Tryd.pinned (OpenSpec.ofChange reseatMoreWrong)

/-- 'tarmaclaw17.ReseatOrder': WHATEVER THE INPUT: true; the input reads as it did. -/
def reseatOrderSpec : ChangeSpec := { name := "reseatOrder", fn := fun _ => fun
  | [d1, d2, d3] => { results := [.lit (.bool true)], args := [d1, d2, d3] }
  | _ => none }
def reseatOrderRow : OpenClaim := { program := "ytppjpledjhinbaadoor", sum := "8b22b14ee6b46b1ba4703783443297a667335dccde4d4e18ac9aa48a29755232", func := "tarmac/tarmaclaw17.ReseatOrder", spec := "reseatOrder", inPlace := ["internal/abi.NoEscape", "internal/bytealg.MakeNoZero", "internal/bytealg.CountString", "internal/bytealg.IndexByteString", "internal/bytealg.IndexString"], unfollowed := true, recurses := true, named := ["unicode/utf8.first", "unicode/utf8.acceptRanges", "unicode.CaseRanges", "internal/bytealg.MaxLen"], plainKeys := false, apart := false, laid := [("unicode/utf8.acceptRanges", laid_unicode_utf8_acceptRanges), ("unicode.CaseRanges", laid_unicode_CaseRanges), ("unicode/utf8.first", laid_unicode_utf8_first)] }
def ReseatOrderSaid : Prop := reseatOrderRow.holds Tryd.pinned (OpenSpec.ofChange reseatOrderSpec)

/-- ITS FALSE NEIGHBOUR: 'it returns false'. Refute it at one input. -/
def reseatOrderWrong : ChangeSpec := { name := "reseatOrder", fn := fun _ => fun
  | [d1, d2, d3] => { results := [.lit (.bool false)], args := [d1, d2, d3] }
  | _ => none }
def ReseatOrderWrongFalsely : Prop := reseatOrderRow.holds Tryd.pinned (OpenSpec.ofChange reseatOrderWrong)

/-- 'tarmaclaw18.GateCalm': WHATEVER THE INPUT: true; the input reads as it did. -/
def gateCalmSpec : ChangeSpec := { name := "gateCalm", fn := fun _ => fun
  | [d1, d2] => { results := [.lit (.bool true)], args := [d1, d2] }
  | _ => none }
def gateCalmRow : OpenClaim := { program := "ytppjpledjhinbaadoor", sum := "8b22b14ee6b46b1ba4703783443297a667335dccde4d4e18ac9aa48a29755232", func := "tarmac/tarmaclaw18.GateCalm", spec := "gateCalm", inPlace := ["internal/abi.NoEscape", "internal/bytealg.MakeNoZero", "internal/bytealg.CountString", "internal/bytealg.IndexByteString", "internal/bytealg.IndexString"], unfollowed := true, recurses := true, named := ["unicode/utf8.first", "unicode/utf8.acceptRanges", "unicode.CaseRanges", "internal/bytealg.MaxLen"], plainKeys := false, apart := false, laid := [("unicode/utf8.acceptRanges", laid_unicode_utf8_acceptRanges), ("unicode.CaseRanges", laid_unicode_CaseRanges), ("unicode/utf8.first", laid_unicode_utf8_first)] }
def GateCalmSaid : Prop := gateCalmRow.holds Tryd.pinned (OpenSpec.ofChange gateCalmSpec)

/-- ITS FALSE NEIGHBOUR: 'it returns false'. Refute it at one input. -/
def gateCalmWrong : ChangeSpec := { name := "gateCalm", fn := fun _ => fun
  | [d1, d2] => { results := [.lit (.bool false)], args := [d1, d2] }
  | _ => none }
def GateCalmWrongFalsely : Prop := gateCalmRow.holds Tryd.pinned (OpenSpec.ofChange gateCalmWrong)

/-- 'tarmaclaw18.GateDenies': WHATEVER THE INPUT: true; the input reads as it did. -/
def gateDeniesSpec : ChangeSpec := { name := "gateDenies", fn := fun _ => fun
  | [d1, d2] => { results := [.lit (.bool true)], args := [d1, d2] }
  | _ => none }
def gateDeniesRow : OpenClaim := { program := "ytppjpledjhinbaadoor", sum := "8b22b14ee6b46b1ba4703783443297a667335dccde4d4e18ac9aa48a29755232", func := "tarmac/tarmaclaw18.GateDenies", spec := "gateDenies", inPlace := ["internal/abi.NoEscape", "internal/bytealg.MakeNoZero", "internal/bytealg.CountString", "internal/bytealg.IndexByteString", "internal/bytealg.IndexString"], unfollowed := true, recurses := true, named := ["unicode/utf8.first", "unicode/utf8.acceptRanges", "unicode.CaseRanges", "internal/bytealg.MaxLen"], plainKeys := false, apart := false, laid := [("unicode/utf8.acceptRanges", laid_unicode_utf8_acceptRanges), ("unicode.CaseRanges", laid_unicode_CaseRanges), ("unicode/utf8.first", laid_unicode_utf8_first)] }
def GateDeniesSaid : Prop := gateDeniesRow.holds Tryd.pinned (OpenSpec.ofChange gateDeniesSpec)

/-- ITS FALSE NEIGHBOUR: 'it returns false'. Refute it at one input. -/
def gateDeniesWrong : ChangeSpec := { name := "gateDenies", fn := fun _ => fun
  | [d1, d2] => { results := [.lit (.bool false)], args := [d1, d2] }
  | _ => none }
def GateDeniesWrongFalsely : Prop := gateDeniesRow.holds Tryd.pinned (OpenSpec.ofChange gateDeniesWrong)

/-- 'tarmaclaw18.GateClears': WHATEVER THE INPUT: true; the input reads as it did. -/
def gateClearsSpec : ChangeSpec := { name := "gateClears", fn := fun _ => fun
  | [d1, d2, d3] => { results := [.lit (.bool true)], args := [d1, d2, d3] }
  | _ => none }
def gateClearsRow : OpenClaim := { program := "ytppjpledjhinbaadoor", sum := "8b22b14ee6b46b1ba4703783443297a667335dccde4d4e18ac9aa48a29755232", func := "tarmac/tarmaclaw18.GateClears", spec := "gateClears", inPlace := ["internal/abi.NoEscape", "internal/bytealg.MakeNoZero", "internal/bytealg.CountString", "internal/bytealg.IndexByteString", "internal/bytealg.IndexString"], unfollowed := true, recurses := true, named := ["unicode/utf8.first", "unicode/utf8.acceptRanges", "unicode.CaseRanges", "internal/bytealg.MaxLen"], plainKeys := false, apart := false, laid := [("unicode/utf8.acceptRanges", laid_unicode_utf8_acceptRanges), ("unicode.CaseRanges", laid_unicode_CaseRanges), ("unicode/utf8.first", laid_unicode_utf8_first)] }
def GateClearsSaid : Prop := gateClearsRow.holds Tryd.pinned (OpenSpec.ofChange gateClearsSpec)

/-- ITS FALSE NEIGHBOUR: 'it returns false'. Refute it at one input. -/
def gateClearsWrong : ChangeSpec := { name := "gateClears", fn := fun _ => fun
  | [d1, d2, d3] => { results := [.lit (.bool false)], args := [d1, d2, d3] }
  | _ => none }
def GateClearsWrongFalsely : Prop := gateClearsRow.holds Tryd.pinned (OpenSpec.ofChange gateClearsWrong)

/- THE SECOND FORM. 'bulk': how many values and letters a reading holds, each counted each time it is reached (what is shared counts as often as it is met; a slice's spare places count too). A statement '..UptoSaid' is the law's where the arguments, and the package variables that the reading takes, are together of bulk at most 1048576: NARROWER than '..Said'. Prove '..Said' where nothing that the law and all that it calls make is longer than what came in: it says more and counts as full. Else prove '..UptoSaid'. A law counts once. -/
mutual
def uptoBulk {H : Type} : DataW H → Nat
  | .lit (.string bytes) => bytes.length + 1
  | .lit _ => 1
  | .nil => 1
  | .ptr d => uptoBulk d + 1
  | .slice elems spare => uptoBulkAll elems + uptoBulkAll spare + 1
  | .agg parts => uptoBulkAll parts + 1
  | .iface _ d => uptoBulk d + 1
  | .map entries => uptoBulkEntries entries + 1
  | .held _ => 1
def uptoBulkAll {H : Type} : List (DataW H) → Nat
  | [] => 0
  | d :: r => uptoBulk d + uptoBulkAll r
def uptoBulkEntries {H : Type} : List (Lit × DataW H) → Nat
  | [] => 0
  | x :: r => uptoBulkEntry x + uptoBulkEntries r
def uptoBulkEntry {H : Type} : Lit × DataW H → Nat
  | (.string bytes, d) => bytes.length + uptoBulk d + 1
  | (_, d) => uptoBulk d + 1
 end
def uptoSmall : (H : Type) → List (DataW H) → Bool := fun _ ds => decide (uptoBulkAll ds ≤ 1048576)
def OpenSpec.upto (s : _root_.Go.ChangeSpec) : _root_.Go.OpenSpec := { _root_.Go.OpenSpec.ofChange s with cond := some uptoSmall }

/-- 'tarmaclaw17.ReseatExact', WHERE WHAT IT READS IS OF BULK AT MOST 1048576: true; the input reads as it did. -/
def reseatExactUptoRow : OpenClaim := { program := "ytppjpledjhinbaadoor", sum := "8b22b14ee6b46b1ba4703783443297a667335dccde4d4e18ac9aa48a29755232", func := "tarmac/tarmaclaw17.ReseatExact", spec := "reseatExact", inPlace := ["internal/abi.NoEscape", "internal/bytealg.MakeNoZero", "internal/bytealg.CountString", "internal/bytealg.IndexByteString", "internal/bytealg.IndexString"], unfollowed := true, recurses := true, named := ["unicode/utf8.first", "unicode/utf8.acceptRanges", "unicode.CaseRanges", "internal/bytealg.MaxLen"], plainKeys := false, apart := false, laid := [("unicode/utf8.acceptRanges", laid_unicode_utf8_acceptRanges), ("unicode.CaseRanges", laid_unicode_CaseRanges), ("unicode/utf8.first", laid_unicode_utf8_first)], narrowed := true }
def ReseatExactUptoSaid : Prop := reseatExactUptoRow.holds Tryd.pinned (OpenSpec.upto reseatExactSpec)

/-- 'tarmaclaw17.ReseatValid', WHERE WHAT IT READS IS OF BULK AT MOST 1048576: true; the input reads as it did. -/
def reseatValidUptoRow : OpenClaim := { program := "ytppjpledjhinbaadoor", sum := "8b22b14ee6b46b1ba4703783443297a667335dccde4d4e18ac9aa48a29755232", func := "tarmac/tarmaclaw17.ReseatValid", spec := "reseatValid", inPlace := ["internal/abi.NoEscape", "internal/bytealg.MakeNoZero", "internal/bytealg.CountString", "internal/bytealg.IndexByteString", "internal/bytealg.IndexString"], unfollowed := true, recurses := true, named := ["unicode/utf8.first", "unicode/utf8.acceptRanges", "unicode.CaseRanges", "internal/bytealg.MaxLen"], plainKeys := false, apart := false, laid := [("unicode/utf8.acceptRanges", laid_unicode_utf8_acceptRanges), ("unicode.CaseRanges", laid_unicode_CaseRanges), ("unicode/utf8.first", laid_unicode_utf8_first)], narrowed := true }
def ReseatValidUptoSaid : Prop := reseatValidUptoRow.holds Tryd.pinned (OpenSpec.upto reseatValidSpec)

/-- 'tarmaclaw17.ReseatTiny', WHERE WHAT IT READS IS OF BULK AT MOST 1048576: true; the input reads as it did. -/
def reseatTinyUptoRow : OpenClaim := { program := "ytppjpledjhinbaadoor", sum := "8b22b14ee6b46b1ba4703783443297a667335dccde4d4e18ac9aa48a29755232", func := "tarmac/tarmaclaw17.ReseatTiny", spec := "reseatTiny", inPlace := ["internal/abi.NoEscape", "internal/bytealg.MakeNoZero", "internal/bytealg.CountString", "internal/bytealg.IndexByteString", "internal/bytealg.IndexString"], unfollowed := true, recurses := true, named := ["unicode/utf8.first", "unicode/utf8.acceptRanges", "unicode.CaseRanges", "internal/bytealg.MaxLen"], plainKeys := false, apart := false, laid := [("unicode/utf8.acceptRanges", laid_unicode_utf8_acceptRanges), ("unicode.CaseRanges", laid_unicode_CaseRanges), ("unicode/utf8.first", laid_unicode_utf8_first)], narrowed := true }
def ReseatTinyUptoSaid : Prop := reseatTinyUptoRow.holds Tryd.pinned (OpenSpec.upto reseatTinySpec)

/-- 'tarmaclaw17.ReseatStays', WHERE WHAT IT READS IS OF BULK AT MOST 1048576: true; the input reads as it did. -/
def reseatStaysUptoRow : OpenClaim := { program := "ytppjpledjhinbaadoor", sum := "8b22b14ee6b46b1ba4703783443297a667335dccde4d4e18ac9aa48a29755232", func := "tarmac/tarmaclaw17.ReseatStays", spec := "reseatStays", inPlace := ["internal/abi.NoEscape", "internal/bytealg.MakeNoZero", "internal/bytealg.CountString", "internal/bytealg.IndexByteString", "internal/bytealg.IndexString"], unfollowed := true, recurses := true, named := ["unicode/utf8.first", "unicode/utf8.acceptRanges", "unicode.CaseRanges", "internal/bytealg.MaxLen"], plainKeys := false, apart := false, laid := [("unicode/utf8.acceptRanges", laid_unicode_utf8_acceptRanges), ("unicode.CaseRanges", laid_unicode_CaseRanges), ("unicode/utf8.first", laid_unicode_utf8_first)], narrowed := true }
def ReseatStaysUptoSaid : Prop := reseatStaysUptoRow.holds Tryd.pinned (OpenSpec.upto reseatStaysSpec)

/-- 'tarmaclaw17.ReseatFirst', WHERE WHAT IT READS IS OF BULK AT MOST 1048576: true; the input reads as it did. -/
def reseatFirstUptoRow : OpenClaim := { program := "ytppjpledjhinbaadoor", sum := "8b22b14ee6b46b1ba4703783443297a667335dccde4d4e18ac9aa48a29755232", func := "tarmac/tarmaclaw17.ReseatFirst", spec := "reseatFirst", inPlace := ["internal/abi.NoEscape", "internal/bytealg.MakeNoZero", "internal/bytealg.CountString", "internal/bytealg.IndexByteString", "internal/bytealg.IndexString"], unfollowed := true, recurses := true, named := ["unicode/utf8.first", "unicode/utf8.acceptRanges", "unicode.CaseRanges", "internal/bytealg.MaxLen"], plainKeys := false, apart := false, laid := [("unicode/utf8.acceptRanges", laid_unicode_utf8_acceptRanges), ("unicode.CaseRanges", laid_unicode_CaseRanges), ("unicode/utf8.first", laid_unicode_utf8_first)], narrowed := true }
def ReseatFirstUptoSaid : Prop := reseatFirstUptoRow.holds Tryd.pinned (OpenSpec.upto reseatFirstSpec)

/-- 'tarmaclaw17.ReseatMore', WHERE WHAT IT READS IS OF BULK AT MOST 1048576: true; the input reads as it did. -/
def reseatMoreUptoRow : OpenClaim := { program := "ytppjpledjhinbaadoor", sum := "8b22b14ee6b46b1ba4703783443297a667335dccde4d4e18ac9aa48a29755232", func := "tarmac/tarmaclaw17.ReseatMore", spec := "reseatMore", inPlace := ["internal/abi.NoEscape", "internal/bytealg.MakeNoZero", "internal/bytealg.CountString", "internal/bytealg.IndexByteString", "internal/bytealg.IndexString"], unfollowed := true, recurses := true, named := ["unicode/utf8.first", "unicode/utf8.acceptRanges", "unicode.CaseRanges", "internal/bytealg.MaxLen"], plainKeys := false, apart := false, laid := [("unicode/utf8.acceptRanges", laid_unicode_utf8_acceptRanges), ("unicode.CaseRanges", laid_unicode_CaseRanges), ("unicode/utf8.first", laid_unicode_utf8_first)], narrowed := true }
def ReseatMoreUptoSaid : Prop := reseatMoreUptoRow.holds Tryd.pinned (OpenSpec.upto reseatMoreSpec)

/-- 'tarmaclaw17.ReseatOrder', WHERE WHAT IT READS IS OF BULK AT MOST 1048576: true; the input reads as it did. -/
def reseatOrderUptoRow : OpenClaim := { program := "ytppjpledjhinbaadoor", sum := "8b22b14ee6b46b1ba4703783443297a667335dccde4d4e18ac9aa48a29755232", func := "tarmac/tarmaclaw17.ReseatOrder", spec := "reseatOrder", inPlace := ["internal/abi.NoEscape", "internal/bytealg.MakeNoZero", "internal/bytealg.CountString", "internal/bytealg.IndexByteString", "internal/bytealg.IndexString"], unfollowed := true, recurses := true, named := ["unicode/utf8.first", "unicode/utf8.acceptRanges", "unicode.CaseRanges", "internal/bytealg.MaxLen"], plainKeys := false, apart := false, laid := [("unicode/utf8.acceptRanges", laid_unicode_utf8_acceptRanges), ("unicode.CaseRanges", laid_unicode_CaseRanges), ("unicode/utf8.first", laid_unicode_utf8_first)], narrowed := true }
def ReseatOrderUptoSaid : Prop := reseatOrderUptoRow.holds Tryd.pinned (OpenSpec.upto reseatOrderSpec)

/-- 'tarmaclaw18.GateCalm', WHERE WHAT IT READS IS OF BULK AT MOST 1048576: true; the input reads as it did. -/
def gateCalmUptoRow : OpenClaim := { program := "ytppjpledjhinbaadoor", sum := "8b22b14ee6b46b1ba4703783443297a667335dccde4d4e18ac9aa48a29755232", func := "tarmac/tarmaclaw18.GateCalm", spec := "gateCalm", inPlace := ["internal/abi.NoEscape", "internal/bytealg.MakeNoZero", "internal/bytealg.CountString", "internal/bytealg.IndexByteString", "internal/bytealg.IndexString"], unfollowed := true, recurses := true, named := ["unicode/utf8.first", "unicode/utf8.acceptRanges", "unicode.CaseRanges", "internal/bytealg.MaxLen"], plainKeys := false, apart := false, laid := [("unicode/utf8.acceptRanges", laid_unicode_utf8_acceptRanges), ("unicode.CaseRanges", laid_unicode_CaseRanges), ("unicode/utf8.first", laid_unicode_utf8_first)], narrowed := true }
def GateCalmUptoSaid : Prop := gateCalmUptoRow.holds Tryd.pinned (OpenSpec.upto gateCalmSpec)

/-- 'tarmaclaw18.GateDenies', WHERE WHAT IT READS IS OF BULK AT MOST 1048576: true; the input reads as it did. -/
def gateDeniesUptoRow : OpenClaim := { program := "ytppjpledjhinbaadoor", sum := "8b22b14ee6b46b1ba4703783443297a667335dccde4d4e18ac9aa48a29755232", func := "tarmac/tarmaclaw18.GateDenies", spec := "gateDenies", inPlace := ["internal/abi.NoEscape", "internal/bytealg.MakeNoZero", "internal/bytealg.CountString", "internal/bytealg.IndexByteString", "internal/bytealg.IndexString"], unfollowed := true, recurses := true, named := ["unicode/utf8.first", "unicode/utf8.acceptRanges", "unicode.CaseRanges", "internal/bytealg.MaxLen"], plainKeys := false, apart := false, laid := [("unicode/utf8.acceptRanges", laid_unicode_utf8_acceptRanges), ("unicode.CaseRanges", laid_unicode_CaseRanges), ("unicode/utf8.first", laid_unicode_utf8_first)], narrowed := true }
def GateDeniesUptoSaid : Prop := gateDeniesUptoRow.holds Tryd.pinned (OpenSpec.upto gateDeniesSpec)

/-- 'tarmaclaw18.GateClears', WHERE WHAT IT READS IS OF BULK AT MOST 1048576: true; the input reads as it did. -/
def gateClearsUptoRow : OpenClaim := { program := "ytppjpledjhinbaadoor", sum := "8b22b14ee6b46b1ba4703783443297a667335dccde4d4e18ac9aa48a29755232", func := "tarmac/tarmaclaw18.GateClears", spec := "gateClears", inPlace := ["internal/abi.NoEscape", "internal/bytealg.MakeNoZero", "internal/bytealg.CountString", "internal/bytealg.IndexByteString", "internal/bytealg.IndexString"], unfollowed := true, recurses := true, named := ["unicode/utf8.first", "unicode/utf8.acceptRanges", "unicode.CaseRanges", "internal/bytealg.MaxLen"], plainKeys := false, apart := false, laid := [("unicode/utf8.acceptRanges", laid_unicode_utf8_acceptRanges), ("unicode.CaseRanges", laid_unicode_CaseRanges), ("unicode/utf8.first", laid_unicode_utf8_first)], narrowed := true }
def GateClearsUptoSaid : Prop := gateClearsUptoRow.holds Tryd.pinned (OpenSpec.upto gateClearsSpec)

end Rows
end Go.Proofs.YtppjpledjhinbaaDoor
