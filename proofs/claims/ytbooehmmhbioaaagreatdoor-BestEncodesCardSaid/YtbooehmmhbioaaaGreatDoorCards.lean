/-
  DERIVED. GIVEN WITH THE SEED: THE CARDS: each row of YtbooehmmhbioaaaGreatDoorRows.lean that lists a variable, with what it lists TIED to the program's text (the seventh form; the later family's looks); each row that meets fmt, with fmt's text TOLD by the authors' own Lean function (tested against real Go, not proved from fmt's source: count such statements apart). THE CARD IS WHAT COUNTS. Prove the row's statement (the work); the ties are given (YtbooehmmhbioaaaGreatDoorTie.lean); close each card by the builder's one call (the guide's Derived/Test/ToyasCard.lean, 'card_holds'). Laid BY PROGRAM, IN A SANDBOX (cutbox-door.mjs). By AI agents, Wed Nov 11 2026. No macro, syntax, notation, axiom, sorry.
-/
import Derived.Test.YtbooehmmhbioaaaGreatDoorRows
import GoSem.ClaimSeven
namespace Go.Proofs.YtbooehmmhbioaaaGreatDoor
namespace Rows

/-- THE TIED CARD OF 'chandlerlaw18.BestAll'. -/
def bestAllCard : Claim7 := { stood := { row := bestAllRow, standIns := [], harness := (true, "d40fd9f8196828ae7b8d20b2d13d6c93f32cd89493bebf8b2fc3548e635ac0b8"), looks := false }, kinds := [], alts := [], laidByText := true, laidKinds := [.data, .data, .pinned], laidTests := true, laidLooks := .later }
def BestAllCardSaid : Prop := Claim7.holds Tryz.pinned (.plain (OpenSpec.ofChange bestAllSpec)) bestAllCard

/-- THE TIED CARD OF 'chandlerlaw18.BestNew'. -/
def bestNewCard : Claim7 := { stood := { row := bestNewRow, standIns := [], harness := (true, "d40fd9f8196828ae7b8d20b2d13d6c93f32cd89493bebf8b2fc3548e635ac0b8"), looks := false }, kinds := [], alts := [], laidByText := true, laidKinds := [.data, .data, .pinned], laidTests := true, laidLooks := .later }
def BestNewCardSaid : Prop := Claim7.holds Tryz.pinned (.plain (OpenSpec.ofChange bestNewSpec)) bestNewCard

/-- THE TIED CARD OF 'chandlerlaw18.BestRises'. -/
def bestRisesCard : Claim7 := { stood := { row := bestRisesRow, standIns := [], harness := (true, "d40fd9f8196828ae7b8d20b2d13d6c93f32cd89493bebf8b2fc3548e635ac0b8"), looks := false }, kinds := [], alts := [], laidByText := true, laidKinds := [.data, .data, .pinned], laidTests := true, laidLooks := .later }
def BestRisesCardSaid : Prop := Claim7.holds Tryz.pinned (.plain (OpenSpec.ofChange bestRisesSpec)) bestRisesCard

/-- THE TIED CARD OF 'chandlerlaw18.BestBudget'. -/
def bestBudgetCard : Claim7 := { stood := { row := bestBudgetRow, standIns := [], harness := (true, "d40fd9f8196828ae7b8d20b2d13d6c93f32cd89493bebf8b2fc3548e635ac0b8"), looks := false }, kinds := [], alts := [], laidByText := true, laidKinds := [.data, .data, .pinned], laidTests := true, laidLooks := .later }
def BestBudgetCardSaid : Prop := Claim7.holds Tryz.pinned (.plain (OpenSpec.ofChange bestBudgetSpec)) bestBudgetCard

/-- THE TIED CARD OF 'chandlerlaw18.BestEncodes'. -/
def bestEncodesCard : Claim7 := { stood := { row := bestEncodesRow, standIns := [], harness := (true, "d40fd9f8196828ae7b8d20b2d13d6c93f32cd89493bebf8b2fc3548e635ac0b8"), looks := false }, kinds := [], alts := [], laidByText := true, laidKinds := [.data, .data, .pinned], laidTests := true, laidLooks := .later }
def BestEncodesCardSaid : Prop := Claim7.holds Tryz.pinned (.plain (OpenSpec.ofChange bestEncodesSpec)) bestEncodesCard

/-- THE TIED CARD OF 'chandlerlaw18.BestNil'. -/
def bestNilCard : Claim7 := { stood := { row := bestNilRow, standIns := [], harness := (true, "d40fd9f8196828ae7b8d20b2d13d6c93f32cd89493bebf8b2fc3548e635ac0b8"), looks := false }, kinds := [], alts := [], laidByText := true, laidKinds := [.data, .data, .pinned], laidTests := true, laidLooks := .later }
def BestNilCardSaid : Prop := Claim7.holds Tryz.pinned (.plain (OpenSpec.ofChange bestNilSpec)) bestNilCard

/-- THE SECOND FORM's CARD OF 'chandlerlaw18.BestAll'. -/
def bestAllUptoCard : Claim7 := { stood := { row := bestAllUptoRow, standIns := [], harness := (true, "d40fd9f8196828ae7b8d20b2d13d6c93f32cd89493bebf8b2fc3548e635ac0b8"), looks := false }, kinds := [], alts := [], laidByText := true, laidKinds := [.data, .data, .pinned], laidTests := true, laidLooks := .later }
def BestAllUptoCardSaid : Prop := Claim7.holds Tryz.pinned (.plain (OpenSpec.upto bestAllSpec)) bestAllUptoCard

/-- THE SECOND FORM's CARD OF 'chandlerlaw18.BestNew'. -/
def bestNewUptoCard : Claim7 := { stood := { row := bestNewUptoRow, standIns := [], harness := (true, "d40fd9f8196828ae7b8d20b2d13d6c93f32cd89493bebf8b2fc3548e635ac0b8"), looks := false }, kinds := [], alts := [], laidByText := true, laidKinds := [.data, .data, .pinned], laidTests := true, laidLooks := .later }
def BestNewUptoCardSaid : Prop := Claim7.holds Tryz.pinned (.plain (OpenSpec.upto bestNewSpec)) bestNewUptoCard

/-- THE SECOND FORM's CARD OF 'chandlerlaw18.BestRises'. -/
def bestRisesUptoCard : Claim7 := { stood := { row := bestRisesUptoRow, standIns := [], harness := (true, "d40fd9f8196828ae7b8d20b2d13d6c93f32cd89493bebf8b2fc3548e635ac0b8"), looks := false }, kinds := [], alts := [], laidByText := true, laidKinds := [.data, .data, .pinned], laidTests := true, laidLooks := .later }
def BestRisesUptoCardSaid : Prop := Claim7.holds Tryz.pinned (.plain (OpenSpec.upto bestRisesSpec)) bestRisesUptoCard

/-- THE SECOND FORM's CARD OF 'chandlerlaw18.BestBudget'. -/
def bestBudgetUptoCard : Claim7 := { stood := { row := bestBudgetUptoRow, standIns := [], harness := (true, "d40fd9f8196828ae7b8d20b2d13d6c93f32cd89493bebf8b2fc3548e635ac0b8"), looks := false }, kinds := [], alts := [], laidByText := true, laidKinds := [.data, .data, .pinned], laidTests := true, laidLooks := .later }
def BestBudgetUptoCardSaid : Prop := Claim7.holds Tryz.pinned (.plain (OpenSpec.upto bestBudgetSpec)) bestBudgetUptoCard

/-- THE SECOND FORM's CARD OF 'chandlerlaw18.BestEncodes'. -/
def bestEncodesUptoCard : Claim7 := { stood := { row := bestEncodesUptoRow, standIns := [], harness := (true, "d40fd9f8196828ae7b8d20b2d13d6c93f32cd89493bebf8b2fc3548e635ac0b8"), looks := false }, kinds := [], alts := [], laidByText := true, laidKinds := [.data, .data, .pinned], laidTests := true, laidLooks := .later }
def BestEncodesUptoCardSaid : Prop := Claim7.holds Tryz.pinned (.plain (OpenSpec.upto bestEncodesSpec)) bestEncodesUptoCard

/-- THE SECOND FORM's CARD OF 'chandlerlaw18.BestNil'. -/
def bestNilUptoCard : Claim7 := { stood := { row := bestNilUptoRow, standIns := [], harness := (true, "d40fd9f8196828ae7b8d20b2d13d6c93f32cd89493bebf8b2fc3548e635ac0b8"), looks := false }, kinds := [], alts := [], laidByText := true, laidKinds := [.data, .data, .pinned], laidTests := true, laidLooks := .later }
def BestNilUptoCardSaid : Prop := Claim7.holds Tryz.pinned (.plain (OpenSpec.upto bestNilSpec)) bestNilUptoCard
end Rows
end Go.Proofs.YtbooehmmhbioaaaGreatDoor
