/-
  NARROWER THAN 'FOR EVERY INPUT', by the rows' own cells (each row's printed sentence says how): OrderEnds: laid · OrderParts: laid · OrderKeys: laid · OrderBack: laid · OrderRises: laid · OrderRanges: laid.
  DERIVED. THE GIVEN ROWS OF THIS SEAT. 6 by the template 'for every input the law returns true; each argument reads behind the call as it read before'; 0 by the template 'total and deterministic' (their statements: YtaphfjomlignhaaDoorTotals.lean).
  GIVEN WITH THE SEED: the statements are not yours to turn. If you find one false, say at which input.
  Laid BY PROGRAM, IN A SANDBOX (cutbox-rows.mjs): the forced cells as the released guide's own fill.sh prints them over the translation bd76e5c70c803c0a… (all of the seat's roots in one cut). By AI agents, Wed Nov 11 2026. No macro, syntax, notation, axiom, sorry.
-/
import Derived.Test.YtaphfjomlignhaaDoorChecked
import GoSem.PinnedTables
import GoSem.Claim
import GoSem.ClaimJoined
import GoSem.ClaimMapViews
import Derived.JoinedTies
import Derived.KernelRfl
namespace Go.Proofs.YtaphfjomlignhaaDoor
/- THE CELL 'sum', in the pinned program and in every row, IS THE sha256 OF THE DUMP (.gsa) THAT YtaphfjomlignhaaDoorProg.lean LOADS. Nothing in Lean hashes anything: it is a label: what it is worth is what the hold of that sum in a sandbox is worth. -/
noncomputable def Tryd.pinned : Pinned := { name := "ytaphfjomlignhaadoor", sum := "bd76e5c70c803c0a0f5f92127e5f5bccca7e62fea1af272aad17942777aa2177", checked := Tryd.checked }
namespace Rows
def none {H : Type} : Left H := { results := [], args := [] }

/- WHAT THE LISTED PACKAGE-LEVEL VARIABLES READ AS WHEN THE CALL BEGINS. Each datum BY PROGRAM (the guide's laid-datum.mjs) off the statement by which the dump's own 'gosem.cut.vars' lays the variable. In a bare row this is a premise. The card (YtaphfjomlignhaaDoorCards.lean) ties it to the program's text. -/
def laid_unicode_utf8_acceptRanges {H : Type} : DataW H := .agg [.agg [.lit (.int .u8 128), .lit (.int .u8 191)], .agg [.lit (.int .u8 160), .lit (.int .u8 191)], .agg [.lit (.int .u8 128), .lit (.int .u8 159)], .agg [.lit (.int .u8 144), .lit (.int .u8 191)], .agg [.lit (.int .u8 128), .lit (.int .u8 143)], .agg [.lit (.int .u8 0), .lit (.int .u8 0)], .agg [.lit (.int .u8 0), .lit (.int .u8 0)], .agg [.lit (.int .u8 0), .lit (.int .u8 0)], .agg [.lit (.int .u8 0), .lit (.int .u8 0)], .agg [.lit (.int .u8 0), .lit (.int .u8 0)], .agg [.lit (.int .u8 0), .lit (.int .u8 0)], .agg [.lit (.int .u8 0), .lit (.int .u8 0)], .agg [.lit (.int .u8 0), .lit (.int .u8 0)], .agg [.lit (.int .u8 0), .lit (.int .u8 0)], .agg [.lit (.int .u8 0), .lit (.int .u8 0)], .agg [.lit (.int .u8 0), .lit (.int .u8 0)]]
/-- One of Go's own tables, pinned by name: the form's constant. -/
def laid_unicode_utf8_first : DataW Unit := Go.Pinned.utf8First

/-- 'tarmaclaw03.OrderEnds': WHATEVER THE INPUT: true; the input reads as it did. -/
def orderEndsSpec : ChangeSpec := { name := "orderEnds", fn := fun _ => fun
  | [d1, d2] => { results := [.lit (.bool true)], args := [d1, d2] }
  | _ => none }
def orderEndsRow : OpenClaim := { program := "ytaphfjomlignhaadoor", sum := "bd76e5c70c803c0a0f5f92127e5f5bccca7e62fea1af272aad17942777aa2177", func := "tarmac/tarmaclaw03.OrderEnds", spec := "orderEnds", inPlace := ["internal/abi.NoEscape", "internal/bytealg.CountString", "internal/bytealg.IndexByteString", "internal/bytealg.IndexString", "internal/bytealg.MakeNoZero"], named := ["internal/bytealg.MaxLen", "unicode/utf8.first", "unicode/utf8.acceptRanges"], apart := false, laid := [("unicode/utf8.acceptRanges", laid_unicode_utf8_acceptRanges), ("unicode/utf8.first", laid_unicode_utf8_first)] }
def OrderEndsSaid : Prop := orderEndsRow.holds Tryd.pinned (OpenSpec.ofChange orderEndsSpec)

/-- ITS FALSE NEIGHBOUR: 'it returns false'. Refute it at one input. -/
def orderEndsWrong : ChangeSpec := { name := "orderEnds", fn := fun _ => fun
  | [d1, d2] => { results := [.lit (.bool false)], args := [d1, d2] }
  | _ => none }
def OrderEndsWrongFalsely : Prop := orderEndsRow.holds Tryd.pinned (OpenSpec.ofChange orderEndsWrong)

/-- 'tarmaclaw03.OrderParts': WHATEVER THE INPUT: true; the input reads as it did. -/
def orderPartsSpec : ChangeSpec := { name := "orderParts", fn := fun _ => fun
  | [d1, d2] => { results := [.lit (.bool true)], args := [d1, d2] }
  | _ => none }
def orderPartsRow : OpenClaim := { program := "ytaphfjomlignhaadoor", sum := "bd76e5c70c803c0a0f5f92127e5f5bccca7e62fea1af272aad17942777aa2177", func := "tarmac/tarmaclaw03.OrderParts", spec := "orderParts", inPlace := ["internal/abi.NoEscape", "internal/bytealg.CountString", "internal/bytealg.IndexByteString", "internal/bytealg.IndexString", "internal/bytealg.MakeNoZero"], named := ["internal/bytealg.MaxLen", "unicode/utf8.first", "unicode/utf8.acceptRanges"], apart := false, laid := [("unicode/utf8.acceptRanges", laid_unicode_utf8_acceptRanges), ("unicode/utf8.first", laid_unicode_utf8_first)] }
def OrderPartsSaid : Prop := orderPartsRow.holds Tryd.pinned (OpenSpec.ofChange orderPartsSpec)

/-- ITS FALSE NEIGHBOUR: 'it returns false'. Refute it at one input. -/
def orderPartsWrong : ChangeSpec := { name := "orderParts", fn := fun _ => fun
  | [d1, d2] => { results := [.lit (.bool false)], args := [d1, d2] }
  | _ => none }
def OrderPartsWrongFalsely : Prop := orderPartsRow.holds Tryd.pinned (OpenSpec.ofChange orderPartsWrong)

/-- 'tarmaclaw03.OrderKeys': WHATEVER THE INPUT: true; the input reads as it did. -/
def orderKeysSpec : ChangeSpec := { name := "orderKeys", fn := fun _ => fun
  | [d1, d2] => { results := [.lit (.bool true)], args := [d1, d2] }
  | _ => none }
def orderKeysRow : OpenClaim := { program := "ytaphfjomlignhaadoor", sum := "bd76e5c70c803c0a0f5f92127e5f5bccca7e62fea1af272aad17942777aa2177", func := "tarmac/tarmaclaw03.OrderKeys", spec := "orderKeys", inPlace := ["internal/abi.NoEscape", "internal/bytealg.CountString", "internal/bytealg.IndexByteString", "internal/bytealg.IndexString", "internal/bytealg.MakeNoZero"], named := ["internal/bytealg.MaxLen", "unicode/utf8.first", "unicode/utf8.acceptRanges"], apart := false, laid := [("unicode/utf8.acceptRanges", laid_unicode_utf8_acceptRanges), ("unicode/utf8.first", laid_unicode_utf8_first)] }
def OrderKeysSaid : Prop := orderKeysRow.holds Tryd.pinned (OpenSpec.ofChange orderKeysSpec)

/-- ITS FALSE NEIGHBOUR: 'it returns false'. Refute it at one input. -/
def orderKeysWrong : ChangeSpec := { name := "orderKeys", fn := fun _ => fun
  | [d1, d2] => { results := [.lit (.bool false)], args := [d1, d2] }
  | _ => none }
def OrderKeysWrongFalsely : Prop := orderKeysRow.holds Tryd.pinned (OpenSpec.ofChange orderKeysWrong)

/-- 'tarmaclaw03.OrderBack': WHATEVER THE INPUT: true; the input reads as it did. -/
def orderBackSpec : ChangeSpec := { name := "orderBack", fn := fun _ => fun
  | [d1, d2] => { results := [.lit (.bool true)], args := [d1, d2] }
  | _ => none }
def orderBackRow : OpenClaim := { program := "ytaphfjomlignhaadoor", sum := "bd76e5c70c803c0a0f5f92127e5f5bccca7e62fea1af272aad17942777aa2177", func := "tarmac/tarmaclaw03.OrderBack", spec := "orderBack", inPlace := ["internal/abi.NoEscape", "internal/bytealg.CountString", "internal/bytealg.IndexByteString", "internal/bytealg.IndexString", "internal/bytealg.MakeNoZero"], named := ["internal/bytealg.MaxLen", "unicode/utf8.first", "unicode/utf8.acceptRanges"], apart := false, laid := [("unicode/utf8.acceptRanges", laid_unicode_utf8_acceptRanges), ("unicode/utf8.first", laid_unicode_utf8_first)] }
def OrderBackSaid : Prop := orderBackRow.holds Tryd.pinned (OpenSpec.ofChange orderBackSpec)

/-- ITS FALSE NEIGHBOUR: 'it returns false'. Refute it at one input. -/
def orderBackWrong : ChangeSpec := { name := "orderBack", fn := fun _ => fun
  | [d1, d2] => { results := [.lit (.bool false)], args := [d1, d2] }
  | _ => none }
def OrderBackWrongFalsely : Prop := orderBackRow.holds Tryd.pinned (OpenSpec.ofChange orderBackWrong)

/-- 'tarmaclaw03.OrderRises': WHATEVER THE INPUT: true; the input reads as it did. -/
def orderRisesSpec : ChangeSpec := { name := "orderRises", fn := fun _ => fun
  | [d1, d2] => { results := [.lit (.bool true)], args := [d1, d2] }
  | _ => none }
def orderRisesRow : OpenClaim := { program := "ytaphfjomlignhaadoor", sum := "bd76e5c70c803c0a0f5f92127e5f5bccca7e62fea1af272aad17942777aa2177", func := "tarmac/tarmaclaw03.OrderRises", spec := "orderRises", inPlace := ["internal/abi.NoEscape", "internal/bytealg.CountString", "internal/bytealg.IndexByteString", "internal/bytealg.IndexString", "internal/bytealg.MakeNoZero", "internal/bytealg.abigen_runtime_cmpstring"], unfollowed := true, recurses := true, named := ["internal/bytealg.MaxLen", "unicode/utf8.first", "unicode/utf8.acceptRanges"], apart := false, laid := [("unicode/utf8.acceptRanges", laid_unicode_utf8_acceptRanges), ("unicode/utf8.first", laid_unicode_utf8_first)] }
def OrderRisesSaid : Prop := orderRisesRow.holds Tryd.pinned (OpenSpec.ofChange orderRisesSpec)

/-- ITS FALSE NEIGHBOUR: 'it returns false'. Refute it at one input. -/
def orderRisesWrong : ChangeSpec := { name := "orderRises", fn := fun _ => fun
  | [d1, d2] => { results := [.lit (.bool false)], args := [d1, d2] }
  | _ => none }
def OrderRisesWrongFalsely : Prop := orderRisesRow.holds Tryd.pinned (OpenSpec.ofChange orderRisesWrong)

/-- 'tarmaclaw03.OrderRanges': WHATEVER THE INPUT: true; the input reads as it did. -/
def orderRangesSpec : ChangeSpec := { name := "orderRanges", fn := fun _ => fun
  | [d1, d2, d3] => { results := [.lit (.bool true)], args := [d1, d2, d3] }
  | _ => none }
def orderRangesRow : OpenClaim := { program := "ytaphfjomlignhaadoor", sum := "bd76e5c70c803c0a0f5f92127e5f5bccca7e62fea1af272aad17942777aa2177", func := "tarmac/tarmaclaw03.OrderRanges", spec := "orderRanges", inPlace := ["internal/abi.NoEscape", "internal/bytealg.CountString", "internal/bytealg.IndexByteString", "internal/bytealg.IndexString", "internal/bytealg.MakeNoZero", "internal/bytealg.abigen_runtime_cmpstring"], unfollowed := true, recurses := true, named := ["internal/bytealg.MaxLen", "unicode/utf8.first", "unicode/utf8.acceptRanges"], apart := false, laid := [("unicode/utf8.acceptRanges", laid_unicode_utf8_acceptRanges), ("unicode/utf8.first", laid_unicode_utf8_first)] }
def OrderRangesSaid : Prop := orderRangesRow.holds Tryd.pinned (OpenSpec.ofChange orderRangesSpec)

/-- ITS FALSE NEIGHBOUR: 'it returns false'. Refute it at one input. -/
def orderRangesWrong : ChangeSpec := { name := "orderRanges", fn := fun _ => fun
  | [d1, d2, d3] => { results := [.lit (.bool false)], args := [d1, d2, d3] }
  | _ => none }
def OrderRangesWrongFalsely : Prop := orderRangesRow.holds Tryd.pinned (OpenSpec.ofChange orderRangesWrong)

/- THE SECOND FORM. 'bulk': how many values and letters a reading holds, each counted each time it is reached (what is shared counts as often as it is met; a slice's spare places count too). A statement '..UptoSaid' is the law's where the arguments, and the package variables that the reading takes, are together of bulk at most 1048576: NARROWER than '..Said'. Prove '..Said' where nothing that the law and all that it calls make is longer than what came in: it says more and counts as full. Else prove '..UptoSaid'. A law counts once. -/
mutual
def uptoBulk {H : Type} : DataW H → Nat
  | .lit (.string bytes) => bytes.length + 1
  | .lit _ => 1
  | .nil => 1
  | .ptr d => uptoBulk d + 1
  | .slice elems spare => uptoBulkAll elems + uptoBulkAll spare + 1
  | .agg parts => uptoBulkAll parts + 1
  | .iface _ d => uptoBulk d + 1
  | .map entries => uptoBulkEntries entries + 1
  | .held _ => 1
def uptoBulkAll {H : Type} : List (DataW H) → Nat
  | [] => 0
  | d :: r => uptoBulk d + uptoBulkAll r
def uptoBulkEntries {H : Type} : List (Lit × DataW H) → Nat
  | [] => 0
  | x :: r => uptoBulkEntry x + uptoBulkEntries r
def uptoBulkEntry {H : Type} : Lit × DataW H → Nat
  | (.string bytes, d) => bytes.length + uptoBulk d + 1
  | (_, d) => uptoBulk d + 1
 end
def uptoSmall : (H : Type) → List (DataW H) → Bool := fun _ ds => decide (uptoBulkAll ds ≤ 1048576)
def OpenSpec.upto (s : _root_.Go.ChangeSpec) : _root_.Go.OpenSpec := { _root_.Go.OpenSpec.ofChange s with cond := some uptoSmall }

/-- 'tarmaclaw03.OrderEnds', WHERE WHAT IT READS IS OF BULK AT MOST 1048576: true; the input reads as it did. -/
def orderEndsUptoRow : OpenClaim := { program := "ytaphfjomlignhaadoor", sum := "bd76e5c70c803c0a0f5f92127e5f5bccca7e62fea1af272aad17942777aa2177", func := "tarmac/tarmaclaw03.OrderEnds", spec := "orderEnds", inPlace := ["internal/abi.NoEscape", "internal/bytealg.CountString", "internal/bytealg.IndexByteString", "internal/bytealg.IndexString", "internal/bytealg.MakeNoZero"], named := ["internal/bytealg.MaxLen", "unicode/utf8.first", "unicode/utf8.acceptRanges"], apart := false, laid := [("unicode/utf8.acceptRanges", laid_unicode_utf8_acceptRanges), ("unicode/utf8.first", laid_unicode_utf8_first)], narrowed := true }
def OrderEndsUptoSaid : Prop := orderEndsUptoRow.holds Tryd.pinned (OpenSpec.upto orderEndsSpec)

/-- 'tarmaclaw03.OrderParts', WHERE WHAT IT READS IS OF BULK AT MOST 1048576: true; the input reads as it did. -/
def orderPartsUptoRow : OpenClaim := { program := "ytaphfjomlignhaadoor", sum := "bd76e5c70c803c0a0f5f92127e5f5bccca7e62fea1af272aad17942777aa2177", func := "tarmac/tarmaclaw03.OrderParts", spec := "orderParts", inPlace := ["internal/abi.NoEscape", "internal/bytealg.CountString", "internal/bytealg.IndexByteString", "internal/bytealg.IndexString", "internal/bytealg.MakeNoZero"], named := ["internal/bytealg.MaxLen", "unicode/utf8.first", "unicode/utf8.acceptRanges"], apart := false, laid := [("unicode/utf8.acceptRanges", laid_unicode_utf8_acceptRanges), ("unicode/utf8.first", laid_unicode_utf8_first)], narrowed := true }
def OrderPartsUptoSaid : Prop := orderPartsUptoRow.holds Tryd.pinned (OpenSpec.upto orderPartsSpec)

/-- 'tarmaclaw03.OrderKeys', WHERE WHAT IT READS IS OF BULK AT MOST 1048576: true; the input reads as it did. -/
def orderKeysUptoRow : OpenClaim := { program := "ytaphfjomlignhaadoor", sum := "bd76e5c70c803c0a0f5f92127e5f5bccca7e62fea1af272aad17942777aa2177", func := "tarmac/tarmaclaw03.OrderKeys", spec := "orderKeys", inPlace := ["internal/abi.NoEscape", "internal/bytealg.CountString", "internal/bytealg.IndexByteString", "internal/bytealg.IndexString", "internal/bytealg.MakeNoZero"], named := ["internal/bytealg.MaxLen", "unicode/utf8.first", "unicode/utf8.acceptRanges"], apart := false, laid := [("unicode/utf8.acceptRanges", laid_unicode_utf8_acceptRanges), ("unicode/utf8.first", laid_unicode_utf8_first)], narrowed := true }
def OrderKeysUptoSaid : Prop := orderKeysUptoRow.holds Tryd.pinned (OpenSpec.upto orderKeysSpec)

/-- 'tarmaclaw03.OrderBack', WHERE WHAT IT READS IS OF BULK AT MOST 1048576: true; the input reads as it did. -/
def orderBackUptoRow : OpenClaim := { program := "ytaphfjomlignhaadoor", sum := "bd76e5c70c803c0a0f5f92127e5f5bccca7e62fea1af272aad17942777aa2177", func := "tarmac/tarmaclaw03.OrderBack", spec := "orderBack", inPlace := ["internal/abi.NoEscape", "internal/bytealg.CountString", "internal/bytealg.IndexByteString", "internal/bytealg.IndexString", "internal/bytealg.MakeNoZero"], named := ["internal/bytealg.MaxLen", "unicode/utf8.first", "unicode/utf8.acceptRanges"], apart := false, laid := [("unicode/utf8.acceptRanges", laid_unicode_utf8_acceptRanges), ("unicode/utf8.first", laid_unicode_utf8_first)], narrowed := true }
def OrderBackUptoSaid : Prop := orderBackUptoRow.holds Tryd.pinned (OpenSpec.upto orderBackSpec)

/-- 'tarmaclaw03.OrderRises', WHERE WHAT IT READS IS OF BULK AT MOST 1048576: true; the input reads as it did. -/
def orderRisesUptoRow : OpenClaim := { program := "ytaphfjomlignhaadoor", sum := "bd76e5c70c803c0a0f5f92127e5f5bccca7e62fea1af272aad17942777aa2177", func := "tarmac/tarmaclaw03.OrderRises", spec := "orderRises", inPlace := ["internal/abi.NoEscape", "internal/bytealg.CountString", "internal/bytealg.IndexByteString", "internal/bytealg.IndexString", "internal/bytealg.MakeNoZero", "internal/bytealg.abigen_runtime_cmpstring"], unfollowed := true, recurses := true, named := ["internal/bytealg.MaxLen", "unicode/utf8.first", "unicode/utf8.acceptRanges"], apart := false, laid := [("unicode/utf8.acceptRanges", laid_unicode_utf8_acceptRanges), ("unicode/utf8.first", laid_unicode_utf8_first)], narrowed := true }
def OrderRisesUptoSaid : Prop := orderRisesUptoRow.holds Tryd.pinned (OpenSpec.upto orderRisesSpec)

/-- 'tarmaclaw03.OrderRanges', WHERE WHAT IT READS IS OF BULK AT MOST 1048576: true; the input reads as it did. -/
def orderRangesUptoRow : OpenClaim := { program := "ytaphfjomlignhaadoor", sum := "bd76e5c70c803c0a0f5f92127e5f5bccca7e62fea1af272aad17942777aa2177", func := "tarmac/tarmaclaw03.OrderRanges", spec := "orderRanges", inPlace := ["internal/abi.NoEscape", "internal/bytealg.CountString", "internal/bytealg.IndexByteString", "internal/bytealg.IndexString", "internal/bytealg.MakeNoZero", "internal/bytealg.abigen_runtime_cmpstring"], unfollowed := true, recurses := true, named := ["internal/bytealg.MaxLen", "unicode/utf8.first", "unicode/utf8.acceptRanges"], apart := false, laid := [("unicode/utf8.acceptRanges", laid_unicode_utf8_acceptRanges), ("unicode/utf8.first", laid_unicode_utf8_first)], narrowed := true }
def OrderRangesUptoSaid : Prop := orderRangesUptoRow.holds Tryd.pinned (OpenSpec.upto orderRangesSpec)

end Rows
end Go.Proofs.YtaphfjomlignhaaDoor
