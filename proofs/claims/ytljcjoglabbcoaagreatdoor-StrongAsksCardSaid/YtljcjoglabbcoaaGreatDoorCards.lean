/-
  DERIVED. GIVEN WITH THE SEED: THE CARDS: each row of YtljcjoglabbcoaaGreatDoorRows.lean that lists a variable, with what it lists TIED to the program's text (the seventh form; the later family's looks); each row that meets fmt, with fmt's text TOLD by the authors' own Lean function (tested against real Go, not proved from fmt's source: count such statements apart). THE CARD IS WHAT COUNTS. Prove the row's statement (the work); the ties are given (YtljcjoglabbcoaaGreatDoorTie.lean); close each card by the builder's one call (the guide's Derived/Test/ToyasCard.lean, 'card_holds'). Laid BY PROGRAM, IN A SANDBOX (cutbox-door.mjs). By AI agents, Wed Nov 11 2026. No macro, syntax, notation, axiom, sorry.
-/
import Derived.Test.YtljcjoglabbcoaaGreatDoorRows
import GoSem.ClaimSeven
namespace Go.Proofs.YtljcjoglabbcoaaGreatDoor
namespace Rows

/-- THE TIED CARD OF 'chandlerlaw19.StrongReports'. -/
def strongReportsCard : Claim7 := { stood := { row := strongReportsRow, standIns := [], harness := (true, "cb9961509f7c9b2f7469e571af65b242ea1f9a8286e3fadc15b7b17f6208d27c"), looks := false }, kinds := [], alts := [], laidByText := true, laidKinds := [.data, .pinned], laidTests := true, laidLooks := .later }
def StrongReportsCardSaid : Prop := Claim7.holds Tryz.pinned (.plain (OpenSpec.ofChange strongReportsSpec)) strongReportsCard

/-- THE TIED CARD OF 'chandlerlaw19.StrongGoesOn'. -/
def strongGoesOnCard : Claim7 := { stood := { row := strongGoesOnRow, standIns := [], harness := (true, "cb9961509f7c9b2f7469e571af65b242ea1f9a8286e3fadc15b7b17f6208d27c"), looks := false }, kinds := [], alts := [], laidByText := true, laidKinds := [.data, .pinned], laidTests := true, laidLooks := .later }
def StrongGoesOnCardSaid : Prop := Claim7.holds Tryz.pinned (.plain (OpenSpec.ofChange strongGoesOnSpec)) strongGoesOnCard

/-- THE TIED CARD OF 'chandlerlaw19.StrongTurned'. -/
def strongTurnedCard : Claim7 := { stood := { row := strongTurnedRow, standIns := [], harness := (true, "cb9961509f7c9b2f7469e571af65b242ea1f9a8286e3fadc15b7b17f6208d27c"), looks := false }, kinds := [], alts := [], laidByText := true, laidKinds := [.data, .pinned], laidTests := true, laidLooks := .later }
def StrongTurnedCardSaid : Prop := Claim7.holds Tryz.pinned (.plain (OpenSpec.ofChange strongTurnedSpec)) strongTurnedCard

/-- THE TIED CARD OF 'chandlerlaw19.StrongAlone'. -/
def strongAloneCard : Claim7 := { stood := { row := strongAloneRow, standIns := [], harness := (true, "cb9961509f7c9b2f7469e571af65b242ea1f9a8286e3fadc15b7b17f6208d27c"), looks := false }, kinds := [], alts := [], laidByText := true, laidKinds := [.data, .pinned], laidTests := true, laidLooks := .later }
def StrongAloneCardSaid : Prop := Claim7.holds Tryz.pinned (.plain (OpenSpec.ofChange strongAloneSpec)) strongAloneCard

/-- THE TIED CARD OF 'chandlerlaw19.StrongAsks'. -/
def strongAsksCard : Claim7 := { stood := { row := strongAsksRow, standIns := [], harness := (true, "cb9961509f7c9b2f7469e571af65b242ea1f9a8286e3fadc15b7b17f6208d27c"), looks := false }, kinds := [], alts := [], laidByText := true, laidKinds := [.data, .pinned], laidTests := true, laidLooks := .later }
def StrongAsksCardSaid : Prop := Claim7.holds Tryz.pinned (.plain (OpenSpec.ofChange strongAsksSpec)) strongAsksCard

/-- THE SECOND FORM's CARD OF 'chandlerlaw19.StrongReports'. -/
def strongReportsUptoCard : Claim7 := { stood := { row := strongReportsUptoRow, standIns := [], harness := (true, "cb9961509f7c9b2f7469e571af65b242ea1f9a8286e3fadc15b7b17f6208d27c"), looks := false }, kinds := [], alts := [], laidByText := true, laidKinds := [.data, .pinned], laidTests := true, laidLooks := .later }
def StrongReportsUptoCardSaid : Prop := Claim7.holds Tryz.pinned (.plain (OpenSpec.upto strongReportsSpec)) strongReportsUptoCard

/-- THE SECOND FORM's CARD OF 'chandlerlaw19.StrongGoesOn'. -/
def strongGoesOnUptoCard : Claim7 := { stood := { row := strongGoesOnUptoRow, standIns := [], harness := (true, "cb9961509f7c9b2f7469e571af65b242ea1f9a8286e3fadc15b7b17f6208d27c"), looks := false }, kinds := [], alts := [], laidByText := true, laidKinds := [.data, .pinned], laidTests := true, laidLooks := .later }
def StrongGoesOnUptoCardSaid : Prop := Claim7.holds Tryz.pinned (.plain (OpenSpec.upto strongGoesOnSpec)) strongGoesOnUptoCard

/-- THE SECOND FORM's CARD OF 'chandlerlaw19.StrongTurned'. -/
def strongTurnedUptoCard : Claim7 := { stood := { row := strongTurnedUptoRow, standIns := [], harness := (true, "cb9961509f7c9b2f7469e571af65b242ea1f9a8286e3fadc15b7b17f6208d27c"), looks := false }, kinds := [], alts := [], laidByText := true, laidKinds := [.data, .pinned], laidTests := true, laidLooks := .later }
def StrongTurnedUptoCardSaid : Prop := Claim7.holds Tryz.pinned (.plain (OpenSpec.upto strongTurnedSpec)) strongTurnedUptoCard

/-- THE SECOND FORM's CARD OF 'chandlerlaw19.StrongAlone'. -/
def strongAloneUptoCard : Claim7 := { stood := { row := strongAloneUptoRow, standIns := [], harness := (true, "cb9961509f7c9b2f7469e571af65b242ea1f9a8286e3fadc15b7b17f6208d27c"), looks := false }, kinds := [], alts := [], laidByText := true, laidKinds := [.data, .pinned], laidTests := true, laidLooks := .later }
def StrongAloneUptoCardSaid : Prop := Claim7.holds Tryz.pinned (.plain (OpenSpec.upto strongAloneSpec)) strongAloneUptoCard

/-- THE SECOND FORM's CARD OF 'chandlerlaw19.StrongAsks'. -/
def strongAsksUptoCard : Claim7 := { stood := { row := strongAsksUptoRow, standIns := [], harness := (true, "cb9961509f7c9b2f7469e571af65b242ea1f9a8286e3fadc15b7b17f6208d27c"), looks := false }, kinds := [], alts := [], laidByText := true, laidKinds := [.data, .pinned], laidTests := true, laidLooks := .later }
def StrongAsksUptoCardSaid : Prop := Claim7.holds Tryz.pinned (.plain (OpenSpec.upto strongAsksSpec)) strongAsksUptoCard
end Rows
end Go.Proofs.YtljcjoglabbcoaaGreatDoor
