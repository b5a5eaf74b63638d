/-
  DERIVED. GIVEN WITH THE SEED: THE CARDS: each row of YtaphfjomlignhaaDoorRows.lean that lists a variable, with what it lists TIED to the program's text (the seventh form; the later family's looks); each row that meets fmt, with fmt's text TOLD by the authors' own Lean function (tested against real Go, not proved from fmt's source: count such statements apart). THE CARD IS WHAT COUNTS. Prove the row's statement (the work); the ties are given (YtaphfjomlignhaaDoorTie.lean); close each card by the builder's one call (the guide's Derived/Test/ToyasCard.lean, 'card_holds'). Laid BY PROGRAM, IN A SANDBOX (cutbox-door.mjs). By AI agents, Wed Nov 11 2026. No macro, syntax, notation, axiom, sorry.
-/
import Derived.Test.YtaphfjomlignhaaDoorRows
import GoSem.ClaimSeven
namespace Go.Proofs.YtaphfjomlignhaaDoor
namespace Rows

/-- THE TIED CARD OF 'tarmaclaw03.OrderEnds'. -/
def orderEndsCard : Claim7 := { stood := { row := orderEndsRow, standIns := [], harness := (true, "c854ebf5d876bcce554025c7ee16466a176acec19fda0be808057954ccea4221"), looks := false }, kinds := [], alts := [], laidByText := true, laidKinds := [.data, .pinned], laidTests := true, laidLooks := .later }
def OrderEndsCardSaid : Prop := Claim7.holds Tryd.pinned (.plain (OpenSpec.ofChange orderEndsSpec)) orderEndsCard

/-- THE TIED CARD OF 'tarmaclaw03.OrderParts'. -/
def orderPartsCard : Claim7 := { stood := { row := orderPartsRow, standIns := [], harness := (true, "c854ebf5d876bcce554025c7ee16466a176acec19fda0be808057954ccea4221"), looks := false }, kinds := [], alts := [], laidByText := true, laidKinds := [.data, .pinned], laidTests := true, laidLooks := .later }
def OrderPartsCardSaid : Prop := Claim7.holds Tryd.pinned (.plain (OpenSpec.ofChange orderPartsSpec)) orderPartsCard

/-- THE TIED CARD OF 'tarmaclaw03.OrderKeys'. -/
def orderKeysCard : Claim7 := { stood := { row := orderKeysRow, standIns := [], harness := (true, "c854ebf5d876bcce554025c7ee16466a176acec19fda0be808057954ccea4221"), looks := false }, kinds := [], alts := [], laidByText := true, laidKinds := [.data, .pinned], laidTests := true, laidLooks := .later }
def OrderKeysCardSaid : Prop := Claim7.holds Tryd.pinned (.plain (OpenSpec.ofChange orderKeysSpec)) orderKeysCard

/-- THE TIED CARD OF 'tarmaclaw03.OrderBack'. -/
def orderBackCard : Claim7 := { stood := { row := orderBackRow, standIns := [], harness := (true, "c854ebf5d876bcce554025c7ee16466a176acec19fda0be808057954ccea4221"), looks := false }, kinds := [], alts := [], laidByText := true, laidKinds := [.data, .pinned], laidTests := true, laidLooks := .later }
def OrderBackCardSaid : Prop := Claim7.holds Tryd.pinned (.plain (OpenSpec.ofChange orderBackSpec)) orderBackCard

/-- THE TIED CARD OF 'tarmaclaw03.OrderRises'. -/
def orderRisesCard : Claim7 := { stood := { row := orderRisesRow, standIns := [], harness := (true, "c854ebf5d876bcce554025c7ee16466a176acec19fda0be808057954ccea4221"), looks := false }, kinds := [], alts := [], laidByText := true, laidKinds := [.data, .pinned], laidTests := true, laidLooks := .later }
def OrderRisesCardSaid : Prop := Claim7.holds Tryd.pinned (.plain (OpenSpec.ofChange orderRisesSpec)) orderRisesCard

/-- THE TIED CARD OF 'tarmaclaw03.OrderRanges'. -/
def orderRangesCard : Claim7 := { stood := { row := orderRangesRow, standIns := [], harness := (true, "c854ebf5d876bcce554025c7ee16466a176acec19fda0be808057954ccea4221"), looks := false }, kinds := [], alts := [], laidByText := true, laidKinds := [.data, .pinned], laidTests := true, laidLooks := .later }
def OrderRangesCardSaid : Prop := Claim7.holds Tryd.pinned (.plain (OpenSpec.ofChange orderRangesSpec)) orderRangesCard

/-- THE SECOND FORM's CARD OF 'tarmaclaw03.OrderEnds'. -/
def orderEndsUptoCard : Claim7 := { stood := { row := orderEndsUptoRow, standIns := [], harness := (true, "c854ebf5d876bcce554025c7ee16466a176acec19fda0be808057954ccea4221"), looks := false }, kinds := [], alts := [], laidByText := true, laidKinds := [.data, .pinned], laidTests := true, laidLooks := .later }
def OrderEndsUptoCardSaid : Prop := Claim7.holds Tryd.pinned (.plain (OpenSpec.upto orderEndsSpec)) orderEndsUptoCard

/-- THE SECOND FORM's CARD OF 'tarmaclaw03.OrderParts'. -/
def orderPartsUptoCard : Claim7 := { stood := { row := orderPartsUptoRow, standIns := [], harness := (true, "c854ebf5d876bcce554025c7ee16466a176acec19fda0be808057954ccea4221"), looks := false }, kinds := [], alts := [], laidByText := true, laidKinds := [.data, .pinned], laidTests := true, laidLooks := .later }
def OrderPartsUptoCardSaid : Prop := Claim7.holds Tryd.pinned (.plain (OpenSpec.upto orderPartsSpec)) orderPartsUptoCard

/-- THE SECOND FORM's CARD OF 'tarmaclaw03.OrderKeys'. -/
def orderKeysUptoCard : Claim7 := { stood := { row := orderKeysUptoRow, standIns := [], harness := (true, "c854ebf5d876bcce554025c7ee16466a176acec19fda0be808057954ccea4221"), looks := false }, kinds := [], alts := [], laidByText := true, laidKinds := [.data, .pinned], laidTests := true, laidLooks := .later }
def OrderKeysUptoCardSaid : Prop := Claim7.holds Tryd.pinned (.plain (OpenSpec.upto orderKeysSpec)) orderKeysUptoCard

/-- THE SECOND FORM's CARD OF 'tarmaclaw03.OrderBack'. -/
def orderBackUptoCard : Claim7 := { stood := { row := orderBackUptoRow, standIns := [], harness := (true, "c854ebf5d876bcce554025c7ee16466a176acec19fda0be808057954ccea4221"), looks := false }, kinds := [], alts := [], laidByText := true, laidKinds := [.data, .pinned], laidTests := true, laidLooks := .later }
def OrderBackUptoCardSaid : Prop := Claim7.holds Tryd.pinned (.plain (OpenSpec.upto orderBackSpec)) orderBackUptoCard

/-- THE SECOND FORM's CARD OF 'tarmaclaw03.OrderRises'. -/
def orderRisesUptoCard : Claim7 := { stood := { row := orderRisesUptoRow, standIns := [], harness := (true, "c854ebf5d876bcce554025c7ee16466a176acec19fda0be808057954ccea4221"), looks := false }, kinds := [], alts := [], laidByText := true, laidKinds := [.data, .pinned], laidTests := true, laidLooks := .later }
def OrderRisesUptoCardSaid : Prop := Claim7.holds Tryd.pinned (.plain (OpenSpec.upto orderRisesSpec)) orderRisesUptoCard

/-- THE SECOND FORM's CARD OF 'tarmaclaw03.OrderRanges'. -/
def orderRangesUptoCard : Claim7 := { stood := { row := orderRangesUptoRow, standIns := [], harness := (true, "c854ebf5d876bcce554025c7ee16466a176acec19fda0be808057954ccea4221"), looks := false }, kinds := [], alts := [], laidByText := true, laidKinds := [.data, .pinned], laidTests := true, laidLooks := .later }
def OrderRangesUptoCardSaid : Prop := Claim7.holds Tryd.pinned (.plain (OpenSpec.upto orderRangesSpec)) orderRangesUptoCard
end Rows
end Go.Proofs.YtaphfjomlignhaaDoor
