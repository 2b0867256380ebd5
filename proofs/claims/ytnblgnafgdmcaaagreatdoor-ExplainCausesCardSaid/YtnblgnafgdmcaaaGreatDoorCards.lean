/-
  DERIVED. GIVEN WITH THE SEED: THE CARDS: each row of YtnblgnafgdmcaaaGreatDoorRows.lean that lists a variable, with what it lists TIED to the program's text (the seventh form; the later family's looks); each row that meets fmt, with fmt's text TOLD by the authors' own Lean function (tested against real Go, not proved from fmt's source: count such statements apart). THE CARD IS WHAT COUNTS. Prove the row's statement (the work); the ties are given (YtnblgnafgdmcaaaGreatDoorTie.lean); close each card by the builder's one call (the guide's Derived/Test/ToyasCard.lean, 'card_holds'). Laid BY PROGRAM, IN A SANDBOX (cutbox-door.mjs). By AI agents, Wed Nov 11 2026. No macro, syntax, notation, axiom, sorry.
-/
import Derived.Test.YtnblgnafgdmcaaaGreatDoorRows
import GoSem.ClaimSeven
namespace Go.Proofs.YtnblgnafgdmcaaaGreatDoor
namespace Rows

/-- THE TIED CARD OF 'chandlerlaw20.ExplainWhy'. -/
def explainWhyCard : Claim7 := { stood := { row := explainWhyRow, standIns := [], harness := (true, "83ddb09b93966585852126873e3c9e2643e5cc3bdd98c29fa4d1190c6f8775bd"), looks := false }, kinds := [], alts := [], laidByText := true, laidKinds := [.data, .pinned], laidTests := true, laidLooks := .later }
def ExplainWhyCardSaid : Prop := Claim7.holds Tryz.pinned (.plain (OpenSpec.ofChange explainWhySpec)) explainWhyCard

/-- THE TIED CARD OF 'chandlerlaw20.ExplainLeast'. -/
def explainLeastCard : Claim7 := { stood := { row := explainLeastRow, standIns := [], harness := (true, "83ddb09b93966585852126873e3c9e2643e5cc3bdd98c29fa4d1190c6f8775bd"), looks := false }, kinds := [], alts := [], laidByText := true, laidKinds := [.data, .pinned], laidTests := true, laidLooks := .later }
def ExplainLeastCardSaid : Prop := Claim7.holds Tryz.pinned (.plain (OpenSpec.ofChange explainLeastSpec)) explainLeastCard

/-- THE TIED CARD OF 'chandlerlaw20.ExplainHolds'. -/
def explainHoldsCard : Claim7 := { stood := { row := explainHoldsRow, standIns := [], harness := (true, "83ddb09b93966585852126873e3c9e2643e5cc3bdd98c29fa4d1190c6f8775bd"), looks := false }, kinds := [], alts := [], laidByText := true, laidKinds := [.data, .pinned], laidTests := true, laidLooks := .later }
def ExplainHoldsCardSaid : Prop := Claim7.holds Tryz.pinned (.plain (OpenSpec.ofChange explainHoldsSpec)) explainHoldsCard

/-- THE TIED CARD OF 'chandlerlaw20.ExplainLess'. -/
def explainLessCard : Claim7 := { stood := { row := explainLessRow, standIns := [], harness := (true, "83ddb09b93966585852126873e3c9e2643e5cc3bdd98c29fa4d1190c6f8775bd"), looks := false }, kinds := [], alts := [], laidByText := true, laidKinds := [.data, .pinned], laidTests := true, laidLooks := .later }
def ExplainLessCardSaid : Prop := Claim7.holds Tryz.pinned (.plain (OpenSpec.ofChange explainLessSpec)) explainLessCard

/-- THE TIED CARD OF 'chandlerlaw20.ExplainCauses'. -/
def explainCausesCard : Claim7 := { stood := { row := explainCausesRow, standIns := [], harness := (true, "83ddb09b93966585852126873e3c9e2643e5cc3bdd98c29fa4d1190c6f8775bd"), looks := false }, kinds := [], alts := [], laidByText := true, laidKinds := [.data, .pinned], laidTests := true, laidLooks := .later }
def ExplainCausesCardSaid : Prop := Claim7.holds Tryz.pinned (.plain (OpenSpec.ofChange explainCausesSpec)) explainCausesCard

/-- THE SECOND FORM's CARD OF 'chandlerlaw20.ExplainWhy'. -/
def explainWhyUptoCard : Claim7 := { stood := { row := explainWhyUptoRow, standIns := [], harness := (true, "83ddb09b93966585852126873e3c9e2643e5cc3bdd98c29fa4d1190c6f8775bd"), looks := false }, kinds := [], alts := [], laidByText := true, laidKinds := [.data, .pinned], laidTests := true, laidLooks := .later }
def ExplainWhyUptoCardSaid : Prop := Claim7.holds Tryz.pinned (.plain (OpenSpec.upto explainWhySpec)) explainWhyUptoCard

/-- THE SECOND FORM's CARD OF 'chandlerlaw20.ExplainLeast'. -/
def explainLeastUptoCard : Claim7 := { stood := { row := explainLeastUptoRow, standIns := [], harness := (true, "83ddb09b93966585852126873e3c9e2643e5cc3bdd98c29fa4d1190c6f8775bd"), looks := false }, kinds := [], alts := [], laidByText := true, laidKinds := [.data, .pinned], laidTests := true, laidLooks := .later }
def ExplainLeastUptoCardSaid : Prop := Claim7.holds Tryz.pinned (.plain (OpenSpec.upto explainLeastSpec)) explainLeastUptoCard

/-- THE SECOND FORM's CARD OF 'chandlerlaw20.ExplainHolds'. -/
def explainHoldsUptoCard : Claim7 := { stood := { row := explainHoldsUptoRow, standIns := [], harness := (true, "83ddb09b93966585852126873e3c9e2643e5cc3bdd98c29fa4d1190c6f8775bd"), looks := false }, kinds := [], alts := [], laidByText := true, laidKinds := [.data, .pinned], laidTests := true, laidLooks := .later }
def ExplainHoldsUptoCardSaid : Prop := Claim7.holds Tryz.pinned (.plain (OpenSpec.upto explainHoldsSpec)) explainHoldsUptoCard

/-- THE SECOND FORM's CARD OF 'chandlerlaw20.ExplainLess'. -/
def explainLessUptoCard : Claim7 := { stood := { row := explainLessUptoRow, standIns := [], harness := (true, "83ddb09b93966585852126873e3c9e2643e5cc3bdd98c29fa4d1190c6f8775bd"), looks := false }, kinds := [], alts := [], laidByText := true, laidKinds := [.data, .pinned], laidTests := true, laidLooks := .later }
def ExplainLessUptoCardSaid : Prop := Claim7.holds Tryz.pinned (.plain (OpenSpec.upto explainLessSpec)) explainLessUptoCard

/-- THE SECOND FORM's CARD OF 'chandlerlaw20.ExplainCauses'. -/
def explainCausesUptoCard : Claim7 := { stood := { row := explainCausesUptoRow, standIns := [], harness := (true, "83ddb09b93966585852126873e3c9e2643e5cc3bdd98c29fa4d1190c6f8775bd"), looks := false }, kinds := [], alts := [], laidByText := true, laidKinds := [.data, .pinned], laidTests := true, laidLooks := .later }
def ExplainCausesUptoCardSaid : Prop := Claim7.holds Tryz.pinned (.plain (OpenSpec.upto explainCausesSpec)) explainCausesUptoCard
end Rows
end Go.Proofs.YtnblgnafgdmcaaaGreatDoor
