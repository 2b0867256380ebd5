/-
  DERIVED. GIVEN WITH THE SEED: THE CARDS: each row of YtekjlnodoelblaaGreatDoorRows.lean that lists a variable, with what it lists TIED to the program's text (the seventh form; the later family's looks); each row that meets fmt, with fmt's text TOLD by the authors' own Lean function (tested against real Go, not proved from fmt's source: count such statements apart). THE CARD IS WHAT COUNTS. Prove the row's statement (the work); the ties are given (YtekjlnodoelblaaGreatDoorTie.lean); close each card by the builder's one call (the guide's Derived/Test/ToyasCard.lean, 'card_holds'). Laid BY PROGRAM, IN A SANDBOX (cutbox-door.mjs). By AI agents, Wed Nov 11 2026. No macro, syntax, notation, axiom, sorry.
-/
import Derived.Test.YtekjlnodoelblaaGreatDoorRows
import GoSem.ClaimSeven
namespace Go.Proofs.YtekjlnodoelblaaGreatDoor
namespace Rows

/-- THE TIED CARD OF 'chandlerlaw9.RecordOf'. -/
def recordOfCard : Claim7 := { stood := { row := recordOfRow, standIns := [], harness := (true, "b2ca7450a825f5e34920ffeac8918c382025cc0b638682f65cff0c436dd1a004"), looks := true }, kinds := [], alts := [], laidByText := true, laidKinds := [.data, .pinned], laidTests := true, laidLooks := .later }
def RecordOfCardSaid : Prop := Claim7.holds Tryz.pinned (.plain (OpenSpec.ofChange recordOfSpec)) recordOfCard

/-- THE TIED CARD OF 'chandlerlaw9.RecordMany'. -/
def recordManyCard : Claim7 := { stood := { row := recordManyRow, standIns := [], harness := (true, "b2ca7450a825f5e34920ffeac8918c382025cc0b638682f65cff0c436dd1a004"), looks := true }, kinds := [], alts := [], laidByText := true, laidKinds := [.data, .pinned], laidTests := true, laidLooks := .later }
def RecordManyCardSaid : Prop := Claim7.holds Tryz.pinned (.plain (OpenSpec.ofChange recordManySpec)) recordManyCard

/-- THE TIED CARD OF 'chandlerlaw9.RecordReads'. -/
def recordReadsCard : Claim7 := { stood := { row := recordReadsRow, standIns := [], harness := (true, "b2ca7450a825f5e34920ffeac8918c382025cc0b638682f65cff0c436dd1a004"), looks := true }, kinds := [], alts := [], laidByText := true, laidKinds := [.data, .pinned], laidTests := true, laidLooks := .later }
def RecordReadsCardSaid : Prop := Claim7.holds Tryz.pinned (.plain (OpenSpec.ofChange recordReadsSpec)) recordReadsCard

/-- THE TIED CARD OF 'chandlerlaw9.RecordMay'. -/
def recordMayCard : Claim7 := { stood := { row := recordMayRow, standIns := [], harness := (true, "b2ca7450a825f5e34920ffeac8918c382025cc0b638682f65cff0c436dd1a004"), looks := true }, kinds := [], alts := [], laidByText := true, laidKinds := [.data, .pinned], laidTests := true, laidLooks := .later }
def RecordMayCardSaid : Prop := Claim7.holds Tryz.pinned (.plain (OpenSpec.ofChange recordMaySpec)) recordMayCard

/-- THE TIED CARD OF 'chandlerlaw9.RecordTurned'. -/
def recordTurnedCard : Claim7 := { stood := { row := recordTurnedRow, standIns := [], harness := (true, "b2ca7450a825f5e34920ffeac8918c382025cc0b638682f65cff0c436dd1a004"), looks := true }, kinds := [], alts := [], laidByText := true, laidKinds := [.data, .data, .data, .data, .pinned], laidTests := true, laidLooks := .later }
def RecordTurnedCardSaid : Prop := Claim7.holds Tryz.pinned (.plain (OpenSpec.ofChange recordTurnedSpec)) recordTurnedCard

/-- THE TIED CARD OF 'chandlerlaw9.RecordStanzas'. -/
def recordStanzasCard : Claim7 := { stood := { row := recordStanzasRow, standIns := [], harness := (true, "b2ca7450a825f5e34920ffeac8918c382025cc0b638682f65cff0c436dd1a004"), looks := true }, kinds := [], alts := [], laidByText := true, laidKinds := [.data, .data, .data, .data, .pinned], laidTests := true, laidLooks := .later }
def RecordStanzasCardSaid : Prop := Claim7.holds Tryz.pinned (.plain (OpenSpec.ofChange recordStanzasSpec)) recordStanzasCard

/-- THE TIED CARD OF 'chandlerlaw9.RecordOnce'. -/
def recordOnceCard : Claim7 := { stood := { row := recordOnceRow, standIns := [], harness := (true, "b2ca7450a825f5e34920ffeac8918c382025cc0b638682f65cff0c436dd1a004"), looks := true }, kinds := [], alts := [], laidByText := true, laidKinds := [.data, .data, .data, .data, .pinned], laidTests := true, laidLooks := .later }
def RecordOnceCardSaid : Prop := Claim7.holds Tryz.pinned (.plain (OpenSpec.ofChange recordOnceSpec)) recordOnceCard

/-- THE TIED CARD OF 'chandlerlaw9.RecordStatus'. -/
def recordStatusCard : Claim7 := { stood := { row := recordStatusRow, standIns := [], harness := (true, "b2ca7450a825f5e34920ffeac8918c382025cc0b638682f65cff0c436dd1a004"), looks := true }, kinds := [], alts := [], laidByText := true, laidKinds := [.data, .data, .data, .data, .pinned], laidTests := true, laidLooks := .later }
def RecordStatusCardSaid : Prop := Claim7.holds Tryz.pinned (.plain (OpenSpec.ofChange recordStatusSpec)) recordStatusCard

/-- THE TIED CARD OF 'chandlerlaw9.RecordBack'. -/
def recordBackCard : Claim7 := { stood := { row := recordBackRow, standIns := [], harness := (true, "b2ca7450a825f5e34920ffeac8918c382025cc0b638682f65cff0c436dd1a004"), looks := true }, kinds := [], alts := [], laidByText := true, laidKinds := [.data, .data, .data, .data, .pinned], laidTests := true, laidLooks := .later }
def RecordBackCardSaid : Prop := Claim7.holds Tryz.pinned (.plain (OpenSpec.ofChange recordBackSpec)) recordBackCard

/-- THE SECOND FORM's CARD OF 'chandlerlaw9.RecordOf'. -/
def recordOfUptoCard : Claim7 := { stood := { row := recordOfUptoRow, standIns := [], harness := (true, "b2ca7450a825f5e34920ffeac8918c382025cc0b638682f65cff0c436dd1a004"), looks := true }, kinds := [], alts := [], laidByText := true, laidKinds := [.data, .pinned], laidTests := true, laidLooks := .later }
def RecordOfUptoCardSaid : Prop := Claim7.holds Tryz.pinned (.plain (OpenSpec.upto recordOfSpec)) recordOfUptoCard

/-- THE SECOND FORM's CARD OF 'chandlerlaw9.RecordMany'. -/
def recordManyUptoCard : Claim7 := { stood := { row := recordManyUptoRow, standIns := [], harness := (true, "b2ca7450a825f5e34920ffeac8918c382025cc0b638682f65cff0c436dd1a004"), looks := true }, kinds := [], alts := [], laidByText := true, laidKinds := [.data, .pinned], laidTests := true, laidLooks := .later }
def RecordManyUptoCardSaid : Prop := Claim7.holds Tryz.pinned (.plain (OpenSpec.upto recordManySpec)) recordManyUptoCard

/-- THE SECOND FORM's CARD OF 'chandlerlaw9.RecordReads'. -/
def recordReadsUptoCard : Claim7 := { stood := { row := recordReadsUptoRow, standIns := [], harness := (true, "b2ca7450a825f5e34920ffeac8918c382025cc0b638682f65cff0c436dd1a004"), looks := true }, kinds := [], alts := [], laidByText := true, laidKinds := [.data, .pinned], laidTests := true, laidLooks := .later }
def RecordReadsUptoCardSaid : Prop := Claim7.holds Tryz.pinned (.plain (OpenSpec.upto recordReadsSpec)) recordReadsUptoCard

/-- THE SECOND FORM's CARD OF 'chandlerlaw9.RecordMay'. -/
def recordMayUptoCard : Claim7 := { stood := { row := recordMayUptoRow, standIns := [], harness := (true, "b2ca7450a825f5e34920ffeac8918c382025cc0b638682f65cff0c436dd1a004"), looks := true }, kinds := [], alts := [], laidByText := true, laidKinds := [.data, .pinned], laidTests := true, laidLooks := .later }
def RecordMayUptoCardSaid : Prop := Claim7.holds Tryz.pinned (.plain (OpenSpec.upto recordMaySpec)) recordMayUptoCard

/-- THE SECOND FORM's CARD OF 'chandlerlaw9.RecordTurned'. -/
def recordTurnedUptoCard : Claim7 := { stood := { row := recordTurnedUptoRow, standIns := [], harness := (true, "b2ca7450a825f5e34920ffeac8918c382025cc0b638682f65cff0c436dd1a004"), looks := true }, kinds := [], alts := [], laidByText := true, laidKinds := [.data, .data, .data, .data, .pinned], laidTests := true, laidLooks := .later }
def RecordTurnedUptoCardSaid : Prop := Claim7.holds Tryz.pinned (.plain (OpenSpec.upto recordTurnedSpec)) recordTurnedUptoCard

/-- THE SECOND FORM's CARD OF 'chandlerlaw9.RecordStanzas'. -/
def recordStanzasUptoCard : Claim7 := { stood := { row := recordStanzasUptoRow, standIns := [], harness := (true, "b2ca7450a825f5e34920ffeac8918c382025cc0b638682f65cff0c436dd1a004"), looks := true }, kinds := [], alts := [], laidByText := true, laidKinds := [.data, .data, .data, .data, .pinned], laidTests := true, laidLooks := .later }
def RecordStanzasUptoCardSaid : Prop := Claim7.holds Tryz.pinned (.plain (OpenSpec.upto recordStanzasSpec)) recordStanzasUptoCard

/-- THE SECOND FORM's CARD OF 'chandlerlaw9.RecordOnce'. -/
def recordOnceUptoCard : Claim7 := { stood := { row := recordOnceUptoRow, standIns := [], harness := (true, "b2ca7450a825f5e34920ffeac8918c382025cc0b638682f65cff0c436dd1a004"), looks := true }, kinds := [], alts := [], laidByText := true, laidKinds := [.data, .data, .data, .data, .pinned], laidTests := true, laidLooks := .later }
def RecordOnceUptoCardSaid : Prop := Claim7.holds Tryz.pinned (.plain (OpenSpec.upto recordOnceSpec)) recordOnceUptoCard

/-- THE SECOND FORM's CARD OF 'chandlerlaw9.RecordStatus'. -/
def recordStatusUptoCard : Claim7 := { stood := { row := recordStatusUptoRow, standIns := [], harness := (true, "b2ca7450a825f5e34920ffeac8918c382025cc0b638682f65cff0c436dd1a004"), looks := true }, kinds := [], alts := [], laidByText := true, laidKinds := [.data, .data, .data, .data, .pinned], laidTests := true, laidLooks := .later }
def RecordStatusUptoCardSaid : Prop := Claim7.holds Tryz.pinned (.plain (OpenSpec.upto recordStatusSpec)) recordStatusUptoCard

/-- THE SECOND FORM's CARD OF 'chandlerlaw9.RecordBack'. -/
def recordBackUptoCard : Claim7 := { stood := { row := recordBackUptoRow, standIns := [], harness := (true, "b2ca7450a825f5e34920ffeac8918c382025cc0b638682f65cff0c436dd1a004"), looks := true }, kinds := [], alts := [], laidByText := true, laidKinds := [.data, .data, .data, .data, .pinned], laidTests := true, laidLooks := .later }
def RecordBackUptoCardSaid : Prop := Claim7.holds Tryz.pinned (.plain (OpenSpec.upto recordBackSpec)) recordBackUptoCard
end Rows
end Go.Proofs.YtekjlnodoelblaaGreatDoor
