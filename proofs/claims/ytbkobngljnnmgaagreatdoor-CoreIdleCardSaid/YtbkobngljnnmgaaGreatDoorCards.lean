/-
  DERIVED. GIVEN WITH THE SEED: THE CARDS: each row of YtbkobngljnnmgaaGreatDoorRows.lean that lists a variable, with what it lists TIED to the program's text (the seventh form; the later family's looks); each row that meets fmt, with fmt's text TOLD by the authors' own Lean function (tested against real Go, not proved from fmt's source: count such statements apart). THE CARD IS WHAT COUNTS. Prove the row's statement (the work); the ties are given (YtbkobngljnnmgaaGreatDoorTie.lean); close each card by the builder's one call (the guide's Derived/Test/ToyasCard.lean, 'card_holds'). Laid BY PROGRAM, IN A SANDBOX (cutbox-door.mjs). By AI agents, Wed Nov 11 2026. No macro, syntax, notation, axiom, sorry.
-/
import Derived.Test.YtbkobngljnnmgaaGreatDoorRows
import GoSem.ClaimSeven
namespace Go.Proofs.YtbkobngljnnmgaaGreatDoor
namespace Rows

/-- THE TIED CARD OF 'chandlerlaw24.CoreDecides'. -/
def coreDecidesCard : Claim7 := { stood := { row := coreDecidesRow, standIns := [], harness := (true, "6459f2493e025c75550ef21a53204a3bb8323862647675f74bd4f8ac01da9bcf"), looks := false }, kinds := [], alts := [], laidByText := true, laidKinds := [.data, .data, .pinned], laidTests := true, laidLooks := .later }
def CoreDecidesCardSaid : Prop := Claim7.holds Tryz.pinned (.plain (OpenSpec.ofChange coreDecidesSpec)) coreDecidesCard

/-- THE TIED CARD OF 'chandlerlaw24.CoreBudget'. -/
def coreBudgetCard : Claim7 := { stood := { row := coreBudgetRow, standIns := [], harness := (true, "6459f2493e025c75550ef21a53204a3bb8323862647675f74bd4f8ac01da9bcf"), looks := false }, kinds := [], alts := [], laidByText := true, laidKinds := [.data, .data, .pinned], laidTests := true, laidLooks := .later }
def CoreBudgetCardSaid : Prop := Claim7.holds Tryz.pinned (.plain (OpenSpec.ofChange coreBudgetSpec)) coreBudgetCard

/-- THE TIED CARD OF 'chandlerlaw24.CorePlans'. -/
def corePlansCard : Claim7 := { stood := { row := corePlansRow, standIns := [], harness := (true, "6459f2493e025c75550ef21a53204a3bb8323862647675f74bd4f8ac01da9bcf"), looks := false }, kinds := [], alts := [], laidByText := true, laidKinds := [.data, .data, .pinned], laidTests := true, laidLooks := .later }
def CorePlansCardSaid : Prop := Claim7.holds Tryz.pinned (.plain (OpenSpec.ofChange corePlansSpec)) corePlansCard

/-- THE TIED CARD OF 'chandlerlaw24.CoreBest'. -/
def coreBestCard : Claim7 := { stood := { row := coreBestRow, standIns := [], harness := (true, "6459f2493e025c75550ef21a53204a3bb8323862647675f74bd4f8ac01da9bcf"), looks := false }, kinds := [], alts := [], laidByText := true, laidKinds := [.data, .data, .pinned], laidTests := true, laidLooks := .later }
def CoreBestCardSaid : Prop := Claim7.holds Tryz.pinned (.plain (OpenSpec.ofChange coreBestSpec)) coreBestCard

/-- THE TIED CARD OF 'chandlerlaw24.CoreBroken'. -/
def coreBrokenCard : Claim7 := { stood := { row := coreBrokenRow, standIns := [], harness := (true, "6459f2493e025c75550ef21a53204a3bb8323862647675f74bd4f8ac01da9bcf"), looks := false }, kinds := [], alts := [], laidByText := true, laidKinds := [.data, .data, .pinned], laidTests := true, laidLooks := .later }
def CoreBrokenCardSaid : Prop := Claim7.holds Tryz.pinned (.plain (OpenSpec.ofChange coreBrokenSpec)) coreBrokenCard

/-- THE TIED CARD OF 'chandlerlaw24.CoreTurned'. -/
def coreTurnedCard : Claim7 := { stood := { row := coreTurnedRow, standIns := [], harness := (true, "6459f2493e025c75550ef21a53204a3bb8323862647675f74bd4f8ac01da9bcf"), looks := false }, kinds := [], alts := [], laidByText := true, laidKinds := [.data, .data, .pinned], laidTests := true, laidLooks := .later }
def CoreTurnedCardSaid : Prop := Claim7.holds Tryz.pinned (.plain (OpenSpec.ofChange coreTurnedSpec)) coreTurnedCard

/-- THE TIED CARD OF 'chandlerlaw24.CoreIdle'. -/
def coreIdleCard : Claim7 := { stood := { row := coreIdleRow, standIns := [], harness := (true, "6459f2493e025c75550ef21a53204a3bb8323862647675f74bd4f8ac01da9bcf"), looks := false }, kinds := [], alts := [], laidByText := true, laidKinds := [.data, .data, .pinned], laidTests := true, laidLooks := .later }
def CoreIdleCardSaid : Prop := Claim7.holds Tryz.pinned (.plain (OpenSpec.ofChange coreIdleSpec)) coreIdleCard

/-- THE SECOND FORM's CARD OF 'chandlerlaw24.CoreDecides'. -/
def coreDecidesUptoCard : Claim7 := { stood := { row := coreDecidesUptoRow, standIns := [], harness := (true, "6459f2493e025c75550ef21a53204a3bb8323862647675f74bd4f8ac01da9bcf"), looks := false }, kinds := [], alts := [], laidByText := true, laidKinds := [.data, .data, .pinned], laidTests := true, laidLooks := .later }
def CoreDecidesUptoCardSaid : Prop := Claim7.holds Tryz.pinned (.plain (OpenSpec.upto coreDecidesSpec)) coreDecidesUptoCard

/-- THE SECOND FORM's CARD OF 'chandlerlaw24.CoreBudget'. -/
def coreBudgetUptoCard : Claim7 := { stood := { row := coreBudgetUptoRow, standIns := [], harness := (true, "6459f2493e025c75550ef21a53204a3bb8323862647675f74bd4f8ac01da9bcf"), looks := false }, kinds := [], alts := [], laidByText := true, laidKinds := [.data, .data, .pinned], laidTests := true, laidLooks := .later }
def CoreBudgetUptoCardSaid : Prop := Claim7.holds Tryz.pinned (.plain (OpenSpec.upto coreBudgetSpec)) coreBudgetUptoCard

/-- THE SECOND FORM's CARD OF 'chandlerlaw24.CorePlans'. -/
def corePlansUptoCard : Claim7 := { stood := { row := corePlansUptoRow, standIns := [], harness := (true, "6459f2493e025c75550ef21a53204a3bb8323862647675f74bd4f8ac01da9bcf"), looks := false }, kinds := [], alts := [], laidByText := true, laidKinds := [.data, .data, .pinned], laidTests := true, laidLooks := .later }
def CorePlansUptoCardSaid : Prop := Claim7.holds Tryz.pinned (.plain (OpenSpec.upto corePlansSpec)) corePlansUptoCard

/-- THE SECOND FORM's CARD OF 'chandlerlaw24.CoreBest'. -/
def coreBestUptoCard : Claim7 := { stood := { row := coreBestUptoRow, standIns := [], harness := (true, "6459f2493e025c75550ef21a53204a3bb8323862647675f74bd4f8ac01da9bcf"), looks := false }, kinds := [], alts := [], laidByText := true, laidKinds := [.data, .data, .pinned], laidTests := true, laidLooks := .later }
def CoreBestUptoCardSaid : Prop := Claim7.holds Tryz.pinned (.plain (OpenSpec.upto coreBestSpec)) coreBestUptoCard

/-- THE SECOND FORM's CARD OF 'chandlerlaw24.CoreBroken'. -/
def coreBrokenUptoCard : Claim7 := { stood := { row := coreBrokenUptoRow, standIns := [], harness := (true, "6459f2493e025c75550ef21a53204a3bb8323862647675f74bd4f8ac01da9bcf"), looks := false }, kinds := [], alts := [], laidByText := true, laidKinds := [.data, .data, .pinned], laidTests := true, laidLooks := .later }
def CoreBrokenUptoCardSaid : Prop := Claim7.holds Tryz.pinned (.plain (OpenSpec.upto coreBrokenSpec)) coreBrokenUptoCard

/-- THE SECOND FORM's CARD OF 'chandlerlaw24.CoreTurned'. -/
def coreTurnedUptoCard : Claim7 := { stood := { row := coreTurnedUptoRow, standIns := [], harness := (true, "6459f2493e025c75550ef21a53204a3bb8323862647675f74bd4f8ac01da9bcf"), looks := false }, kinds := [], alts := [], laidByText := true, laidKinds := [.data, .data, .pinned], laidTests := true, laidLooks := .later }
def CoreTurnedUptoCardSaid : Prop := Claim7.holds Tryz.pinned (.plain (OpenSpec.upto coreTurnedSpec)) coreTurnedUptoCard

/-- THE SECOND FORM's CARD OF 'chandlerlaw24.CoreIdle'. -/
def coreIdleUptoCard : Claim7 := { stood := { row := coreIdleUptoRow, standIns := [], harness := (true, "6459f2493e025c75550ef21a53204a3bb8323862647675f74bd4f8ac01da9bcf"), looks := false }, kinds := [], alts := [], laidByText := true, laidKinds := [.data, .data, .pinned], laidTests := true, laidLooks := .later }
def CoreIdleUptoCardSaid : Prop := Claim7.holds Tryz.pinned (.plain (OpenSpec.upto coreIdleSpec)) coreIdleUptoCard
end Rows
end Go.Proofs.YtbkobngljnnmgaaGreatDoor
