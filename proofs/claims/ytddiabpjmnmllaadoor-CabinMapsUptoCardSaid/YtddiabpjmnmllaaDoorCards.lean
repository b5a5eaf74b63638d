/-
  DERIVED. GIVEN WITH THE SEED: THE CARDS: each row of YtddiabpjmnmllaaDoorRows.lean that lists a variable, with what it lists TIED to the program's text (the seventh form; the later family's looks); each row that meets fmt, with fmt's text TOLD by the authors' own Lean function (tested against real Go, not proved from fmt's source: count such statements apart). THE CARD IS WHAT COUNTS. Prove the row's statement (the work); the ties are given (YtddiabpjmnmllaaDoorTie.lean); close each card by the builder's one call (the guide's Derived/Test/ToyasCard.lean, 'card_holds'). Laid BY PROGRAM, IN A SANDBOX (cutbox-door.mjs). By AI agents, Wed Nov 11 2026. No macro, syntax, notation, axiom, sorry.
-/
import Derived.Test.YtddiabpjmnmllaaDoorRows
import GoSem.ClaimSeven
namespace Go.Proofs.YtddiabpjmnmllaaDoor
namespace Rows

/-- THE TIED CARD OF 'tarmaclaw14.FitLess'. -/
def fitLessCard : Claim7 := { stood := { row := fitLessRow, standIns := [], harness := (true, "1c89045e98ea77550b2276d9c652f95be6f9ce541c9f7565cbdc03da77973e6a"), looks := true }, kinds := [], alts := [], laidByText := true, laidKinds := [.data, .pinned, .pinned], laidTests := true, laidLooks := .later }
def FitLessCardSaid : Prop := Claim7.holds Tryd.pinned (.plain (OpenSpec.ofChange fitLessSpec)) fitLessCard

/-- THE TIED CARD OF 'tarmaclaw14.FitOne'. -/
def fitOneCard : Claim7 := { stood := { row := fitOneRow, standIns := [], harness := (true, "1c89045e98ea77550b2276d9c652f95be6f9ce541c9f7565cbdc03da77973e6a"), looks := true }, kinds := [], alts := [], laidByText := true, laidKinds := [.data, .pinned, .pinned], laidTests := true, laidLooks := .later }
def FitOneCardSaid : Prop := Claim7.holds Tryd.pinned (.plain (OpenSpec.ofChange fitOneSpec)) fitOneCard

/-- THE TIED CARD OF 'tarmaclaw14.FitAll'. -/
def fitAllCard : Claim7 := { stood := { row := fitAllRow, standIns := [], harness := (true, "1c89045e98ea77550b2276d9c652f95be6f9ce541c9f7565cbdc03da77973e6a"), looks := true }, kinds := [], alts := [], laidByText := true, laidKinds := [.data, .pinned, .pinned], laidTests := true, laidLooks := .later }
def FitAllCardSaid : Prop := Claim7.holds Tryd.pinned (.plain (OpenSpec.ofChange fitAllSpec)) fitAllCard

/-- THE TIED CARD OF 'tarmaclaw14.FitFree'. -/
def fitFreeCard : Claim7 := { stood := { row := fitFreeRow, standIns := [], harness := (true, "1c89045e98ea77550b2276d9c652f95be6f9ce541c9f7565cbdc03da77973e6a"), looks := true }, kinds := [], alts := [], laidByText := true, laidKinds := [.data, .pinned, .pinned], laidTests := true, laidLooks := .later }
def FitFreeCardSaid : Prop := Claim7.holds Tryd.pinned (.plain (OpenSpec.ofChange fitFreeSpec)) fitFreeCard

/-- THE TIED CARD OF 'tarmaclaw14.FitOrder'. -/
def fitOrderCard : Claim7 := { stood := { row := fitOrderRow, standIns := [], harness := (true, "1c89045e98ea77550b2276d9c652f95be6f9ce541c9f7565cbdc03da77973e6a"), looks := true }, kinds := [], alts := [], laidByText := true, laidKinds := [.data, .pinned, .pinned], laidTests := true, laidLooks := .later }
def FitOrderCardSaid : Prop := Claim7.holds Tryd.pinned (.plain (OpenSpec.ofChange fitOrderSpec)) fitOrderCard

/-- THE TIED CARD OF 'tarmaclaw13.CabinMaps'. -/
def cabinMapsCard : Claim7 := { stood := { row := cabinMapsRow, standIns := [], harness := (true, "1c89045e98ea77550b2276d9c652f95be6f9ce541c9f7565cbdc03da77973e6a"), looks := true }, kinds := [], alts := [], laidByText := true, laidKinds := [.data, .data, .data, .data, .pinned, .pinned], laidTests := true, laidLooks := .later }
def CabinMapsCardSaid : Prop := Claim7.holds Tryd.pinned (.plain (OpenSpec.ofChange cabinMapsSpec)) cabinMapsCard

/-- THE TIED CARD OF 'tarmaclaw13.CabinFinds'. -/
def cabinFindsCard : Claim7 := { stood := { row := cabinFindsRow, standIns := [], harness := (true, "1c89045e98ea77550b2276d9c652f95be6f9ce541c9f7565cbdc03da77973e6a"), looks := true }, kinds := [], alts := [], laidByText := true, laidKinds := [.data, .data, .data, .data, .pinned, .pinned], laidTests := true, laidLooks := .later }
def CabinFindsCardSaid : Prop := Claim7.holds Tryd.pinned (.plain (OpenSpec.ofChange cabinFindsSpec)) cabinFindsCard

/-- THE TIED CARD OF 'tarmaclaw13.CabinParts'. -/
def cabinPartsCard : Claim7 := { stood := { row := cabinPartsRow, standIns := [], harness := (true, "1c89045e98ea77550b2276d9c652f95be6f9ce541c9f7565cbdc03da77973e6a"), looks := true }, kinds := [], alts := [], laidByText := true, laidKinds := [.data, .data, .data, .data, .pinned, .pinned], laidTests := true, laidLooks := .later }
def CabinPartsCardSaid : Prop := Claim7.holds Tryd.pinned (.plain (OpenSpec.ofChange cabinPartsSpec)) cabinPartsCard

/-- THE TIED CARD OF 'tarmaclaw13.CabinLabels'. -/
def cabinLabelsCard : Claim7 := { stood := { row := cabinLabelsRow, standIns := [], harness := (true, "1c89045e98ea77550b2276d9c652f95be6f9ce541c9f7565cbdc03da77973e6a"), looks := true }, kinds := [], alts := [], laidByText := true, laidKinds := [.data, .data, .data, .data, .sentinel, .sentinel, .pinned, .pinned], laidTests := true, laidLooks := .later }
def CabinLabelsCardSaid : Prop := Claim7.holds Tryd.pinned (.plain (OpenSpec.ofChange cabinLabelsSpec)) cabinLabelsCard

/-- THE SECOND FORM's CARD OF 'tarmaclaw14.FitLess'. -/
def fitLessUptoCard : Claim7 := { stood := { row := fitLessUptoRow, standIns := [], harness := (true, "1c89045e98ea77550b2276d9c652f95be6f9ce541c9f7565cbdc03da77973e6a"), looks := true }, kinds := [], alts := [], laidByText := true, laidKinds := [.data, .pinned, .pinned], laidTests := true, laidLooks := .later }
def FitLessUptoCardSaid : Prop := Claim7.holds Tryd.pinned (.plain (OpenSpec.upto fitLessSpec)) fitLessUptoCard

/-- THE SECOND FORM's CARD OF 'tarmaclaw14.FitOne'. -/
def fitOneUptoCard : Claim7 := { stood := { row := fitOneUptoRow, standIns := [], harness := (true, "1c89045e98ea77550b2276d9c652f95be6f9ce541c9f7565cbdc03da77973e6a"), looks := true }, kinds := [], alts := [], laidByText := true, laidKinds := [.data, .pinned, .pinned], laidTests := true, laidLooks := .later }
def FitOneUptoCardSaid : Prop := Claim7.holds Tryd.pinned (.plain (OpenSpec.upto fitOneSpec)) fitOneUptoCard

/-- THE SECOND FORM's CARD OF 'tarmaclaw14.FitAll'. -/
def fitAllUptoCard : Claim7 := { stood := { row := fitAllUptoRow, standIns := [], harness := (true, "1c89045e98ea77550b2276d9c652f95be6f9ce541c9f7565cbdc03da77973e6a"), looks := true }, kinds := [], alts := [], laidByText := true, laidKinds := [.data, .pinned, .pinned], laidTests := true, laidLooks := .later }
def FitAllUptoCardSaid : Prop := Claim7.holds Tryd.pinned (.plain (OpenSpec.upto fitAllSpec)) fitAllUptoCard

/-- THE SECOND FORM's CARD OF 'tarmaclaw14.FitFree'. -/
def fitFreeUptoCard : Claim7 := { stood := { row := fitFreeUptoRow, standIns := [], harness := (true, "1c89045e98ea77550b2276d9c652f95be6f9ce541c9f7565cbdc03da77973e6a"), looks := true }, kinds := [], alts := [], laidByText := true, laidKinds := [.data, .pinned, .pinned], laidTests := true, laidLooks := .later }
def FitFreeUptoCardSaid : Prop := Claim7.holds Tryd.pinned (.plain (OpenSpec.upto fitFreeSpec)) fitFreeUptoCard

/-- THE SECOND FORM's CARD OF 'tarmaclaw14.FitOrder'. -/
def fitOrderUptoCard : Claim7 := { stood := { row := fitOrderUptoRow, standIns := [], harness := (true, "1c89045e98ea77550b2276d9c652f95be6f9ce541c9f7565cbdc03da77973e6a"), looks := true }, kinds := [], alts := [], laidByText := true, laidKinds := [.data, .pinned, .pinned], laidTests := true, laidLooks := .later }
def FitOrderUptoCardSaid : Prop := Claim7.holds Tryd.pinned (.plain (OpenSpec.upto fitOrderSpec)) fitOrderUptoCard

/-- THE SECOND FORM's CARD OF 'tarmaclaw13.CabinMaps'. -/
def cabinMapsUptoCard : Claim7 := { stood := { row := cabinMapsUptoRow, standIns := [], harness := (true, "1c89045e98ea77550b2276d9c652f95be6f9ce541c9f7565cbdc03da77973e6a"), looks := true }, kinds := [], alts := [], laidByText := true, laidKinds := [.data, .data, .data, .data, .pinned, .pinned], laidTests := true, laidLooks := .later }
def CabinMapsUptoCardSaid : Prop := Claim7.holds Tryd.pinned (.plain (OpenSpec.upto cabinMapsSpec)) cabinMapsUptoCard

/-- THE SECOND FORM's CARD OF 'tarmaclaw13.CabinFinds'. -/
def cabinFindsUptoCard : Claim7 := { stood := { row := cabinFindsUptoRow, standIns := [], harness := (true, "1c89045e98ea77550b2276d9c652f95be6f9ce541c9f7565cbdc03da77973e6a"), looks := true }, kinds := [], alts := [], laidByText := true, laidKinds := [.data, .data, .data, .data, .pinned, .pinned], laidTests := true, laidLooks := .later }
def CabinFindsUptoCardSaid : Prop := Claim7.holds Tryd.pinned (.plain (OpenSpec.upto cabinFindsSpec)) cabinFindsUptoCard

/-- THE SECOND FORM's CARD OF 'tarmaclaw13.CabinParts'. -/
def cabinPartsUptoCard : Claim7 := { stood := { row := cabinPartsUptoRow, standIns := [], harness := (true, "1c89045e98ea77550b2276d9c652f95be6f9ce541c9f7565cbdc03da77973e6a"), looks := true }, kinds := [], alts := [], laidByText := true, laidKinds := [.data, .data, .data, .data, .pinned, .pinned], laidTests := true, laidLooks := .later }
def CabinPartsUptoCardSaid : Prop := Claim7.holds Tryd.pinned (.plain (OpenSpec.upto cabinPartsSpec)) cabinPartsUptoCard

/-- THE SECOND FORM's CARD OF 'tarmaclaw13.CabinLabels'. -/
def cabinLabelsUptoCard : Claim7 := { stood := { row := cabinLabelsUptoRow, standIns := [], harness := (true, "1c89045e98ea77550b2276d9c652f95be6f9ce541c9f7565cbdc03da77973e6a"), looks := true }, kinds := [], alts := [], laidByText := true, laidKinds := [.data, .data, .data, .data, .sentinel, .sentinel, .pinned, .pinned], laidTests := true, laidLooks := .later }
def CabinLabelsUptoCardSaid : Prop := Claim7.holds Tryd.pinned (.plain (OpenSpec.upto cabinLabelsSpec)) cabinLabelsUptoCard
end Rows
end Go.Proofs.YtddiabpjmnmllaaDoor
