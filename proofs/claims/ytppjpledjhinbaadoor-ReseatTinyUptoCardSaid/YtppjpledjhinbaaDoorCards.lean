/-
  DERIVED. GIVEN WITH THE SEED: THE CARDS: each row of YtppjpledjhinbaaDoorRows.lean that lists a variable, with what it lists TIED to the program's text (the seventh form; the later family's looks); each row that meets fmt, with fmt's text TOLD by the authors' own Lean function (tested against real Go, not proved from fmt's source: count such statements apart). THE CARD IS WHAT COUNTS. Prove the row's statement (the work); the ties are given (YtppjpledjhinbaaDoorTie.lean); close each card by the builder's one call (the guide's Derived/Test/ToyasCard.lean, 'card_holds'). Laid BY PROGRAM, IN A SANDBOX (cutbox-door.mjs). By AI agents, Wed Nov 11 2026. No macro, syntax, notation, axiom, sorry.
-/
import Derived.Test.YtppjpledjhinbaaDoorRows
import GoSem.ClaimSeven
namespace Go.Proofs.YtppjpledjhinbaaDoor
namespace Rows

/-- THE TIED CARD OF 'tarmaclaw17.ReseatExact'. -/
def reseatExactCard : Claim7 := { stood := { row := reseatExactRow, standIns := [], harness := (true, "e53679fca4f7d8dc19ef08404b5c1a8ee5e0c67cdc46f9a5f6e022a829f6ff66"), looks := false }, kinds := [], alts := [], laidByText := true, laidKinds := [.data, .pinned, .pinned], laidTests := true, laidLooks := .later }
def ReseatExactCardSaid : Prop := Claim7.holds Tryd.pinned (.plain (OpenSpec.ofChange reseatExactSpec)) reseatExactCard

/-- THE TIED CARD OF 'tarmaclaw17.ReseatValid'. -/
def reseatValidCard : Claim7 := { stood := { row := reseatValidRow, standIns := [], harness := (true, "e53679fca4f7d8dc19ef08404b5c1a8ee5e0c67cdc46f9a5f6e022a829f6ff66"), looks := false }, kinds := [], alts := [], laidByText := true, laidKinds := [.data, .pinned, .pinned], laidTests := true, laidLooks := .later }
def ReseatValidCardSaid : Prop := Claim7.holds Tryd.pinned (.plain (OpenSpec.ofChange reseatValidSpec)) reseatValidCard

/-- THE TIED CARD OF 'tarmaclaw17.ReseatTiny'. -/
def reseatTinyCard : Claim7 := { stood := { row := reseatTinyRow, standIns := [], harness := (true, "e53679fca4f7d8dc19ef08404b5c1a8ee5e0c67cdc46f9a5f6e022a829f6ff66"), looks := false }, kinds := [], alts := [], laidByText := true, laidKinds := [.data, .pinned, .pinned], laidTests := true, laidLooks := .later }
def ReseatTinyCardSaid : Prop := Claim7.holds Tryd.pinned (.plain (OpenSpec.ofChange reseatTinySpec)) reseatTinyCard

/-- THE TIED CARD OF 'tarmaclaw17.ReseatStays'. -/
def reseatStaysCard : Claim7 := { stood := { row := reseatStaysRow, standIns := [], harness := (true, "e53679fca4f7d8dc19ef08404b5c1a8ee5e0c67cdc46f9a5f6e022a829f6ff66"), looks := false }, kinds := [], alts := [], laidByText := true, laidKinds := [.data, .pinned, .pinned], laidTests := true, laidLooks := .later }
def ReseatStaysCardSaid : Prop := Claim7.holds Tryd.pinned (.plain (OpenSpec.ofChange reseatStaysSpec)) reseatStaysCard

/-- THE TIED CARD OF 'tarmaclaw17.ReseatFirst'. -/
def reseatFirstCard : Claim7 := { stood := { row := reseatFirstRow, standIns := [], harness := (true, "e53679fca4f7d8dc19ef08404b5c1a8ee5e0c67cdc46f9a5f6e022a829f6ff66"), looks := false }, kinds := [], alts := [], laidByText := true, laidKinds := [.data, .pinned, .pinned], laidTests := true, laidLooks := .later }
def ReseatFirstCardSaid : Prop := Claim7.holds Tryd.pinned (.plain (OpenSpec.ofChange reseatFirstSpec)) reseatFirstCard

/-- THE TIED CARD OF 'tarmaclaw17.ReseatMore'. -/
def reseatMoreCard : Claim7 := { stood := { row := reseatMoreRow, standIns := [], harness := (true, "e53679fca4f7d8dc19ef08404b5c1a8ee5e0c67cdc46f9a5f6e022a829f6ff66"), looks := false }, kinds := [], alts := [], laidByText := true, laidKinds := [.data, .pinned, .pinned], laidTests := true, laidLooks := .later }
def ReseatMoreCardSaid : Prop := Claim7.holds Tryd.pinned (.plain (OpenSpec.ofChange reseatMoreSpec)) reseatMoreCard

/-- THE TIED CARD OF 'tarmaclaw17.ReseatOrder'. -/
def reseatOrderCard : Claim7 := { stood := { row := reseatOrderRow, standIns := [], harness := (true, "e53679fca4f7d8dc19ef08404b5c1a8ee5e0c67cdc46f9a5f6e022a829f6ff66"), looks := false }, kinds := [], alts := [], laidByText := true, laidKinds := [.data, .pinned, .pinned], laidTests := true, laidLooks := .later }
def ReseatOrderCardSaid : Prop := Claim7.holds Tryd.pinned (.plain (OpenSpec.ofChange reseatOrderSpec)) reseatOrderCard

/-- THE TIED CARD OF 'tarmaclaw18.GateCalm'. -/
def gateCalmCard : Claim7 := { stood := { row := gateCalmRow, standIns := [], harness := (true, "e53679fca4f7d8dc19ef08404b5c1a8ee5e0c67cdc46f9a5f6e022a829f6ff66"), looks := false }, kinds := [], alts := [], laidByText := true, laidKinds := [.data, .pinned, .pinned], laidTests := true, laidLooks := .later }
def GateCalmCardSaid : Prop := Claim7.holds Tryd.pinned (.plain (OpenSpec.ofChange gateCalmSpec)) gateCalmCard

/-- THE TIED CARD OF 'tarmaclaw18.GateDenies'. -/
def gateDeniesCard : Claim7 := { stood := { row := gateDeniesRow, standIns := [], harness := (true, "e53679fca4f7d8dc19ef08404b5c1a8ee5e0c67cdc46f9a5f6e022a829f6ff66"), looks := false }, kinds := [], alts := [], laidByText := true, laidKinds := [.data, .pinned, .pinned], laidTests := true, laidLooks := .later }
def GateDeniesCardSaid : Prop := Claim7.holds Tryd.pinned (.plain (OpenSpec.ofChange gateDeniesSpec)) gateDeniesCard

/-- THE TIED CARD OF 'tarmaclaw18.GateClears'. -/
def gateClearsCard : Claim7 := { stood := { row := gateClearsRow, standIns := [], harness := (true, "e53679fca4f7d8dc19ef08404b5c1a8ee5e0c67cdc46f9a5f6e022a829f6ff66"), looks := false }, kinds := [], alts := [], laidByText := true, laidKinds := [.data, .pinned, .pinned], laidTests := true, laidLooks := .later }
def GateClearsCardSaid : Prop := Claim7.holds Tryd.pinned (.plain (OpenSpec.ofChange gateClearsSpec)) gateClearsCard

/-- THE SECOND FORM's CARD OF 'tarmaclaw17.ReseatExact'. -/
def reseatExactUptoCard : Claim7 := { stood := { row := reseatExactUptoRow, standIns := [], harness := (true, "e53679fca4f7d8dc19ef08404b5c1a8ee5e0c67cdc46f9a5f6e022a829f6ff66"), looks := false }, kinds := [], alts := [], laidByText := true, laidKinds := [.data, .pinned, .pinned], laidTests := true, laidLooks := .later }
def ReseatExactUptoCardSaid : Prop := Claim7.holds Tryd.pinned (.plain (OpenSpec.upto reseatExactSpec)) reseatExactUptoCard

/-- THE SECOND FORM's CARD OF 'tarmaclaw17.ReseatValid'. -/
def reseatValidUptoCard : Claim7 := { stood := { row := reseatValidUptoRow, standIns := [], harness := (true, "e53679fca4f7d8dc19ef08404b5c1a8ee5e0c67cdc46f9a5f6e022a829f6ff66"), looks := false }, kinds := [], alts := [], laidByText := true, laidKinds := [.data, .pinned, .pinned], laidTests := true, laidLooks := .later }
def ReseatValidUptoCardSaid : Prop := Claim7.holds Tryd.pinned (.plain (OpenSpec.upto reseatValidSpec)) reseatValidUptoCard

/-- THE SECOND FORM's CARD OF 'tarmaclaw17.ReseatTiny'. -/
def reseatTinyUptoCard : Claim7 := { stood := { row := reseatTinyUptoRow, standIns := [], harness := (true, "e53679fca4f7d8dc19ef08404b5c1a8ee5e0c67cdc46f9a5f6e022a829f6ff66"), looks := false }, kinds := [], alts := [], laidByText := true, laidKinds := [.data, .pinned, .pinned], laidTests := true, laidLooks := .later }
def ReseatTinyUptoCardSaid : Prop := Claim7.holds Tryd.pinned (.plain (OpenSpec.upto reseatTinySpec)) reseatTinyUptoCard

/-- THE SECOND FORM's CARD OF 'tarmaclaw17.ReseatStays'. -/
def reseatStaysUptoCard : Claim7 := { stood := { row := reseatStaysUptoRow, standIns := [], harness := (true, "e53679fca4f7d8dc19ef08404b5c1a8ee5e0c67cdc46f9a5f6e022a829f6ff66"), looks := false }, kinds := [], alts := [], laidByText := true, laidKinds := [.data, .pinned, .pinned], laidTests := true, laidLooks := .later }
def ReseatStaysUptoCardSaid : Prop := Claim7.holds Tryd.pinned (.plain (OpenSpec.upto reseatStaysSpec)) reseatStaysUptoCard

/-- THE SECOND FORM's CARD OF 'tarmaclaw17.ReseatFirst'. -/
def reseatFirstUptoCard : Claim7 := { stood := { row := reseatFirstUptoRow, standIns := [], harness := (true, "e53679fca4f7d8dc19ef08404b5c1a8ee5e0c67cdc46f9a5f6e022a829f6ff66"), looks := false }, kinds := [], alts := [], laidByText := true, laidKinds := [.data, .pinned, .pinned], laidTests := true, laidLooks := .later }
def ReseatFirstUptoCardSaid : Prop := Claim7.holds Tryd.pinned (.plain (OpenSpec.upto reseatFirstSpec)) reseatFirstUptoCard

/-- THE SECOND FORM's CARD OF 'tarmaclaw17.ReseatMore'. -/
def reseatMoreUptoCard : Claim7 := { stood := { row := reseatMoreUptoRow, standIns := [], harness := (true, "e53679fca4f7d8dc19ef08404b5c1a8ee5e0c67cdc46f9a5f6e022a829f6ff66"), looks := false }, kinds := [], alts := [], laidByText := true, laidKinds := [.data, .pinned, .pinned], laidTests := true, laidLooks := .later }
def ReseatMoreUptoCardSaid : Prop := Claim7.holds Tryd.pinned (.plain (OpenSpec.upto reseatMoreSpec)) reseatMoreUptoCard

/-- THE SECOND FORM's CARD OF 'tarmaclaw17.ReseatOrder'. -/
def reseatOrderUptoCard : Claim7 := { stood := { row := reseatOrderUptoRow, standIns := [], harness := (true, "e53679fca4f7d8dc19ef08404b5c1a8ee5e0c67cdc46f9a5f6e022a829f6ff66"), looks := false }, kinds := [], alts := [], laidByText := true, laidKinds := [.data, .pinned, .pinned], laidTests := true, laidLooks := .later }
def ReseatOrderUptoCardSaid : Prop := Claim7.holds Tryd.pinned (.plain (OpenSpec.upto reseatOrderSpec)) reseatOrderUptoCard

/-- THE SECOND FORM's CARD OF 'tarmaclaw18.GateCalm'. -/
def gateCalmUptoCard : Claim7 := { stood := { row := gateCalmUptoRow, standIns := [], harness := (true, "e53679fca4f7d8dc19ef08404b5c1a8ee5e0c67cdc46f9a5f6e022a829f6ff66"), looks := false }, kinds := [], alts := [], laidByText := true, laidKinds := [.data, .pinned, .pinned], laidTests := true, laidLooks := .later }
def GateCalmUptoCardSaid : Prop := Claim7.holds Tryd.pinned (.plain (OpenSpec.upto gateCalmSpec)) gateCalmUptoCard

/-- THE SECOND FORM's CARD OF 'tarmaclaw18.GateDenies'. -/
def gateDeniesUptoCard : Claim7 := { stood := { row := gateDeniesUptoRow, standIns := [], harness := (true, "e53679fca4f7d8dc19ef08404b5c1a8ee5e0c67cdc46f9a5f6e022a829f6ff66"), looks := false }, kinds := [], alts := [], laidByText := true, laidKinds := [.data, .pinned, .pinned], laidTests := true, laidLooks := .later }
def GateDeniesUptoCardSaid : Prop := Claim7.holds Tryd.pinned (.plain (OpenSpec.upto gateDeniesSpec)) gateDeniesUptoCard

/-- THE SECOND FORM's CARD OF 'tarmaclaw18.GateClears'. -/
def gateClearsUptoCard : Claim7 := { stood := { row := gateClearsUptoRow, standIns := [], harness := (true, "e53679fca4f7d8dc19ef08404b5c1a8ee5e0c67cdc46f9a5f6e022a829f6ff66"), looks := false }, kinds := [], alts := [], laidByText := true, laidKinds := [.data, .pinned, .pinned], laidTests := true, laidLooks := .later }
def GateClearsUptoCardSaid : Prop := Claim7.holds Tryd.pinned (.plain (OpenSpec.upto gateClearsSpec)) gateClearsUptoCard
end Rows
end Go.Proofs.YtppjpledjhinbaaDoor
