/-
  NARROWER THAN 'FOR EVERY INPUT', by the rows' own cells (each row's printed sentence says how): StrongReports: laid · StrongGoesOn: laid · StrongTurned: laid · StrongAlone: laid · StrongAsks: laid.
  DERIVED. THE GIVEN ROWS OF THIS SEAT. 5 by the template 'for every input the law returns true; each argument reads behind the call as it read before'; 0 by the template 'total and deterministic' (their statements: YtljcjoglabbcoaaGreatDoorTotals.lean).
  GIVEN WITH THE SEED: the statements are not yours to turn. If you find one false, say at which input.
  Laid BY PROGRAM, IN A SANDBOX (cutbox-rows.mjs): the forced cells as the released guide's own fill.sh prints them over the translation 3fac5794697e20c3… (all of the seat's roots in one cut). By AI agents, Wed Nov 11 2026. No macro, syntax, notation, axiom, sorry.
-/
import Derived.Test.YtljcjoglabbcoaaGreatDoorChecked
import GoSem.PinnedTables
import GoSem.Claim
import GoSem.ClaimJoined
import GoSem.ClaimMapViews
import Derived.JoinedTies
import Derived.KernelRfl
namespace Go.Proofs.YtljcjoglabbcoaaGreatDoor
/- THE CELL 'sum', in the pinned program and in every row, IS THE sha256 OF THE DUMP (.gsa) THAT YtljcjoglabbcoaaGreatDoorProg.lean LOADS. Nothing in Lean hashes anything: it is a label: what it is worth is what the hold of that sum in a sandbox is worth. -/
noncomputable def Tryz.pinned : Pinned := { name := "ytljcjoglabbcoaagreatdoor", sum := "3fac5794697e20c34a71992c03f996bff33c9a9800fba7fe056a7c0bcfb86cbb", checked := Tryz.checked }
namespace Rows
def none {H : Type} : Left H := { results := [], args := [] }

/- WHAT THE LISTED PACKAGE-LEVEL VARIABLES READ AS WHEN THE CALL BEGINS. Each datum BY PROGRAM (the guide's laid-datum.mjs) off the statement by which the dump's own 'gosem.cut.vars' lays the variable. In a bare row this is a premise. The card (YtljcjoglabbcoaaGreatDoorCards.lean) ties it to the program's text. -/
def laid_unicode_utf8_acceptRanges {H : Type} : DataW H := .agg [.agg [.lit (.int .u8 128), .lit (.int .u8 191)], .agg [.lit (.int .u8 160), .lit (.int .u8 191)], .agg [.lit (.int .u8 128), .lit (.int .u8 159)], .agg [.lit (.int .u8 144), .lit (.int .u8 191)], .agg [.lit (.int .u8 128), .lit (.int .u8 143)], .agg [.lit (.int .u8 0), .lit (.int .u8 0)], .agg [.lit (.int .u8 0), .lit (.int .u8 0)], .agg [.lit (.int .u8 0), .lit (.int .u8 0)], .agg [.lit (.int .u8 0), .lit (.int .u8 0)], .agg [.lit (.int .u8 0), .lit (.int .u8 0)], .agg [.lit (.int .u8 0), .lit (.int .u8 0)], .agg [.lit (.int .u8 0), .lit (.int .u8 0)], .agg [.lit (.int .u8 0), .lit (.int .u8 0)], .agg [.lit (.int .u8 0), .lit (.int .u8 0)], .agg [.lit (.int .u8 0), .lit (.int .u8 0)], .agg [.lit (.int .u8 0), .lit (.int .u8 0)]]
/-- One of Go's own tables, pinned by name: the form's constant. -/
def laid_unicode_utf8_first : DataW Unit := Go.Pinned.utf8First

/-- 'chandlerlaw19.StrongReports': WHATEVER THE INPUT: true; the input reads as it did. -/
def strongReportsSpec : ChangeSpec := { name := "strongReports", fn := fun _ => fun
  | [d] => { results := [.lit (.bool true)], args := [d] }
  | _ => none }
def strongReportsRow : OpenClaim := { program := "ytljcjoglabbcoaagreatdoor", sum := "3fac5794697e20c34a71992c03f996bff33c9a9800fba7fe056a7c0bcfb86cbb", func := "chandler/chandlerlaw19.StrongReports", spec := "strongReports", inPlace := ["internal/bytealg.IndexByteString", "internal/bytealg.IndexString"], unfollowed := true, recurses := true, named := ["internal/bytealg.MaxLen", "unicode/utf8.first", "unicode/utf8.acceptRanges"], apart := false, laid := [("unicode/utf8.acceptRanges", laid_unicode_utf8_acceptRanges), ("unicode/utf8.first", laid_unicode_utf8_first)] }
def StrongReportsSaid : Prop := strongReportsRow.holds Tryz.pinned (OpenSpec.ofChange strongReportsSpec)

/-- ITS FALSE NEIGHBOUR: 'it returns false'. Refute it at one input. -/
def strongReportsWrong : ChangeSpec := { name := "strongReports", fn := fun _ => fun
  | [d] => { results := [.lit (.bool false)], args := [d] }
  | _ => none }
def StrongReportsWrongFalsely : Prop := strongReportsRow.holds Tryz.pinned (OpenSpec.ofChange strongReportsWrong)

/-- 'chandlerlaw19.StrongGoesOn': WHATEVER THE INPUT: true; the input reads as it did. -/
def strongGoesOnSpec : ChangeSpec := { name := "strongGoesOn", fn := fun _ => fun
  | [d] => { results := [.lit (.bool true)], args := [d] }
  | _ => none }
def strongGoesOnRow : OpenClaim := { program := "ytljcjoglabbcoaagreatdoor", sum := "3fac5794697e20c34a71992c03f996bff33c9a9800fba7fe056a7c0bcfb86cbb", func := "chandler/chandlerlaw19.StrongGoesOn", spec := "strongGoesOn", inPlace := ["internal/bytealg.IndexByteString", "internal/bytealg.IndexString"], unfollowed := true, recurses := true, named := ["internal/bytealg.MaxLen", "unicode/utf8.first", "unicode/utf8.acceptRanges"], apart := false, laid := [("unicode/utf8.acceptRanges", laid_unicode_utf8_acceptRanges), ("unicode/utf8.first", laid_unicode_utf8_first)] }
def StrongGoesOnSaid : Prop := strongGoesOnRow.holds Tryz.pinned (OpenSpec.ofChange strongGoesOnSpec)

/-- ITS FALSE NEIGHBOUR: 'it returns false'. Refute it at one input. -/
def strongGoesOnWrong : ChangeSpec := { name := "strongGoesOn", fn := fun _ => fun
  | [d] => { results := [.lit (.bool false)], args := [d] }
  | _ => none }
def StrongGoesOnWrongFalsely : Prop := strongGoesOnRow.holds Tryz.pinned (OpenSpec.ofChange strongGoesOnWrong)

/-- 'chandlerlaw19.StrongTurned': WHATEVER THE INPUT: true; the input reads as it did. -/
def strongTurnedSpec : ChangeSpec := { name := "strongTurned", fn := fun _ => fun
  | [d] => { results := [.lit (.bool true)], args := [d] }
  | _ => none }
def strongTurnedRow : OpenClaim := { program := "ytljcjoglabbcoaagreatdoor", sum := "3fac5794697e20c34a71992c03f996bff33c9a9800fba7fe056a7c0bcfb86cbb", func := "chandler/chandlerlaw19.StrongTurned", spec := "strongTurned", inPlace := ["internal/bytealg.IndexByteString", "internal/bytealg.IndexString"], unfollowed := true, recurses := true, named := ["internal/bytealg.MaxLen", "unicode/utf8.first", "unicode/utf8.acceptRanges"], apart := false, laid := [("unicode/utf8.acceptRanges", laid_unicode_utf8_acceptRanges), ("unicode/utf8.first", laid_unicode_utf8_first)] }
def StrongTurnedSaid : Prop := strongTurnedRow.holds Tryz.pinned (OpenSpec.ofChange strongTurnedSpec)

/-- ITS FALSE NEIGHBOUR: 'it returns false'. Refute it at one input. -/
def strongTurnedWrong : ChangeSpec := { name := "strongTurned", fn := fun _ => fun
  | [d] => { results := [.lit (.bool false)], args := [d] }
  | _ => none }
def StrongTurnedWrongFalsely : Prop := strongTurnedRow.holds Tryz.pinned (OpenSpec.ofChange strongTurnedWrong)

/-- 'chandlerlaw19.StrongAlone': WHATEVER THE INPUT: true; the input reads as it did. -/
def strongAloneSpec : ChangeSpec := { name := "strongAlone", fn := fun _ => fun
  | [d1, d2] => { results := [.lit (.bool true)], args := [d1, d2] }
  | _ => none }
def strongAloneRow : OpenClaim := { program := "ytljcjoglabbcoaagreatdoor", sum := "3fac5794697e20c34a71992c03f996bff33c9a9800fba7fe056a7c0bcfb86cbb", func := "chandler/chandlerlaw19.StrongAlone", spec := "strongAlone", inPlace := ["internal/bytealg.IndexByteString", "internal/bytealg.IndexString"], unfollowed := true, recurses := true, named := ["internal/bytealg.MaxLen", "unicode/utf8.first", "unicode/utf8.acceptRanges"], apart := false, laid := [("unicode/utf8.acceptRanges", laid_unicode_utf8_acceptRanges), ("unicode/utf8.first", laid_unicode_utf8_first)] }
def StrongAloneSaid : Prop := strongAloneRow.holds Tryz.pinned (OpenSpec.ofChange strongAloneSpec)

/-- ITS FALSE NEIGHBOUR: 'it returns false'. Refute it at one input. -/
def strongAloneWrong : ChangeSpec := { name := "strongAlone", fn := fun _ => fun
  | [d1, d2] => { results := [.lit (.bool false)], args := [d1, d2] }
  | _ => none }
def StrongAloneWrongFalsely : Prop := strongAloneRow.holds Tryz.pinned (OpenSpec.ofChange strongAloneWrong)

/-- 'chandlerlaw19.StrongAsks': WHATEVER THE INPUT: true; the input reads as it did. -/
def strongAsksSpec : ChangeSpec := { name := "strongAsks", fn := fun _ => fun
  | [d1, d2, d3] => { results := [.lit (.bool true)], args := [d1, d2, d3] }
  | _ => none }
def strongAsksRow : OpenClaim := { program := "ytljcjoglabbcoaagreatdoor", sum := "3fac5794697e20c34a71992c03f996bff33c9a9800fba7fe056a7c0bcfb86cbb", func := "chandler/chandlerlaw19.StrongAsks", spec := "strongAsks", inPlace := ["internal/bytealg.IndexByteString", "internal/bytealg.IndexString"], unfollowed := true, recurses := true, named := ["internal/bytealg.MaxLen", "unicode/utf8.first", "unicode/utf8.acceptRanges"], apart := false, laid := [("unicode/utf8.acceptRanges", laid_unicode_utf8_acceptRanges), ("unicode/utf8.first", laid_unicode_utf8_first)] }
def StrongAsksSaid : Prop := strongAsksRow.holds Tryz.pinned (OpenSpec.ofChange strongAsksSpec)

/-- ITS FALSE NEIGHBOUR: 'it returns false'. Refute it at one input. -/
def strongAsksWrong : ChangeSpec := { name := "strongAsks", fn := fun _ => fun
  | [d1, d2, d3] => { results := [.lit (.bool false)], args := [d1, d2, d3] }
  | _ => none }
def StrongAsksWrongFalsely : Prop := strongAsksRow.holds Tryz.pinned (OpenSpec.ofChange strongAsksWrong)

/- THE SECOND FORM. 'bulk': how many values and letters a reading holds, each counted each time it is reached (what is shared counts as often as it is met; a slice's spare places count too). A statement '..UptoSaid' is the law's where the arguments, and the package variables that the reading takes, are together of bulk at most 1048576: NARROWER than '..Said'. Prove '..Said' where nothing that the law and all that it calls make is longer than what came in: it says more and counts as full. Else prove '..UptoSaid'. A law counts once. -/
mutual
def uptoBulk {H : Type} : DataW H → Nat
  | .lit (.string bytes) => bytes.length + 1
  | .lit _ => 1
  | .nil => 1
  | .ptr d => uptoBulk d + 1
  | .slice elems spare => uptoBulkAll elems + uptoBulkAll spare + 1
  | .agg parts => uptoBulkAll parts + 1
  | .iface _ d => uptoBulk d + 1
  | .map entries => uptoBulkEntries entries + 1
  | .held _ => 1
def uptoBulkAll {H : Type} : List (DataW H) → Nat
  | [] => 0
  | d :: r => uptoBulk d + uptoBulkAll r
def uptoBulkEntries {H : Type} : List (Lit × DataW H) → Nat
  | [] => 0
  | x :: r => uptoBulkEntry x + uptoBulkEntries r
def uptoBulkEntry {H : Type} : Lit × DataW H → Nat
  | (.string bytes, d) => bytes.length + uptoBulk d + 1
  | (_, d) => uptoBulk d + 1
 end
def uptoSmall : (H : Type) → List (DataW H) → Bool := fun _ ds => decide (uptoBulkAll ds ≤ 1048576)
def OpenSpec.upto (s : _root_.Go.ChangeSpec) : _root_.Go.OpenSpec := { _root_.Go.OpenSpec.ofChange s with cond := some uptoSmall }

/-- 'chandlerlaw19.StrongReports', WHERE WHAT IT READS IS OF BULK AT MOST 1048576: true; the input reads as it did. -/
def strongReportsUptoRow : OpenClaim := { program := "ytljcjoglabbcoaagreatdoor", sum := "3fac5794697e20c34a71992c03f996bff33c9a9800fba7fe056a7c0bcfb86cbb", func := "chandler/chandlerlaw19.StrongReports", spec := "strongReports", inPlace := ["internal/bytealg.IndexByteString", "internal/bytealg.IndexString"], unfollowed := true, recurses := true, named := ["internal/bytealg.MaxLen", "unicode/utf8.first", "unicode/utf8.acceptRanges"], apart := false, laid := [("unicode/utf8.acceptRanges", laid_unicode_utf8_acceptRanges), ("unicode/utf8.first", laid_unicode_utf8_first)], narrowed := true }
def StrongReportsUptoSaid : Prop := strongReportsUptoRow.holds Tryz.pinned (OpenSpec.upto strongReportsSpec)

/-- 'chandlerlaw19.StrongGoesOn', WHERE WHAT IT READS IS OF BULK AT MOST 1048576: true; the input reads as it did. -/
def strongGoesOnUptoRow : OpenClaim := { program := "ytljcjoglabbcoaagreatdoor", sum := "3fac5794697e20c34a71992c03f996bff33c9a9800fba7fe056a7c0bcfb86cbb", func := "chandler/chandlerlaw19.StrongGoesOn", spec := "strongGoesOn", inPlace := ["internal/bytealg.IndexByteString", "internal/bytealg.IndexString"], unfollowed := true, recurses := true, named := ["internal/bytealg.MaxLen", "unicode/utf8.first", "unicode/utf8.acceptRanges"], apart := false, laid := [("unicode/utf8.acceptRanges", laid_unicode_utf8_acceptRanges), ("unicode/utf8.first", laid_unicode_utf8_first)], narrowed := true }
def StrongGoesOnUptoSaid : Prop := strongGoesOnUptoRow.holds Tryz.pinned (OpenSpec.upto strongGoesOnSpec)

/-- 'chandlerlaw19.StrongTurned', WHERE WHAT IT READS IS OF BULK AT MOST 1048576: true; the input reads as it did. -/
def strongTurnedUptoRow : OpenClaim := { program := "ytljcjoglabbcoaagreatdoor", sum := "3fac5794697e20c34a71992c03f996bff33c9a9800fba7fe056a7c0bcfb86cbb", func := "chandler/chandlerlaw19.StrongTurned", spec := "strongTurned", inPlace := ["internal/bytealg.IndexByteString", "internal/bytealg.IndexString"], unfollowed := true, recurses := true, named := ["internal/bytealg.MaxLen", "unicode/utf8.first", "unicode/utf8.acceptRanges"], apart := false, laid := [("unicode/utf8.acceptRanges", laid_unicode_utf8_acceptRanges), ("unicode/utf8.first", laid_unicode_utf8_first)], narrowed := true }
def StrongTurnedUptoSaid : Prop := strongTurnedUptoRow.holds Tryz.pinned (OpenSpec.upto strongTurnedSpec)

/-- 'chandlerlaw19.StrongAlone', WHERE WHAT IT READS IS OF BULK AT MOST 1048576: true; the input reads as it did. -/
def strongAloneUptoRow : OpenClaim := { program := "ytljcjoglabbcoaagreatdoor", sum := "3fac5794697e20c34a71992c03f996bff33c9a9800fba7fe056a7c0bcfb86cbb", func := "chandler/chandlerlaw19.StrongAlone", spec := "strongAlone", inPlace := ["internal/bytealg.IndexByteString", "internal/bytealg.IndexString"], unfollowed := true, recurses := true, named := ["internal/bytealg.MaxLen", "unicode/utf8.first", "unicode/utf8.acceptRanges"], apart := false, laid := [("unicode/utf8.acceptRanges", laid_unicode_utf8_acceptRanges), ("unicode/utf8.first", laid_unicode_utf8_first)], narrowed := true }
def StrongAloneUptoSaid : Prop := strongAloneUptoRow.holds Tryz.pinned (OpenSpec.upto strongAloneSpec)

/-- 'chandlerlaw19.StrongAsks', WHERE WHAT IT READS IS OF BULK AT MOST 1048576: true; the input reads as it did. -/
def strongAsksUptoRow : OpenClaim := { program := "ytljcjoglabbcoaagreatdoor", sum := "3fac5794697e20c34a71992c03f996bff33c9a9800fba7fe056a7c0bcfb86cbb", func := "chandler/chandlerlaw19.StrongAsks", spec := "strongAsks", inPlace := ["internal/bytealg.IndexByteString", "internal/bytealg.IndexString"], unfollowed := true, recurses := true, named := ["internal/bytealg.MaxLen", "unicode/utf8.first", "unicode/utf8.acceptRanges"], apart := false, laid := [("unicode/utf8.acceptRanges", laid_unicode_utf8_acceptRanges), ("unicode/utf8.first", laid_unicode_utf8_first)], narrowed := true }
def StrongAsksUptoSaid : Prop := strongAsksUptoRow.holds Tryz.pinned (OpenSpec.upto strongAsksSpec)

end Rows
end Go.Proofs.YtljcjoglabbcoaaGreatDoor
