/-
  NARROWER THAN 'FOR EVERY INPUT', by the rows' own cells (each row's printed sentence says how): ExplainWhy: laid · ExplainLeast: laid · ExplainHolds: laid · ExplainLess: laid · ExplainCauses: laid.
  DERIVED. THE GIVEN ROWS OF THIS SEAT. 5 by the template 'for every input the law returns true; each argument reads behind the call as it read before'; 0 by the template 'total and deterministic' (their statements: YtnblgnafgdmcaaaGreatDoorTotals.lean).
  GIVEN WITH THE SEED: the statements are not yours to turn. If you find one false, say at which input.
  Laid BY PROGRAM, IN A SANDBOX (cutbox-rows.mjs): the forced cells as the released guide's own fill.sh prints them over the translation b944edfb56469b14… (all of the seat's roots in one cut). By AI agents, Wed Nov 11 2026. No macro, syntax, notation, axiom, sorry.
-/
import Derived.Test.YtnblgnafgdmcaaaGreatDoorChecked
import GoSem.PinnedTables
import GoSem.Claim
import GoSem.ClaimJoined
import GoSem.ClaimMapViews
import Derived.JoinedTies
import Derived.KernelRfl
namespace Go.Proofs.YtnblgnafgdmcaaaGreatDoor
/- THE CELL 'sum', in the pinned program and in every row, IS THE sha256 OF THE DUMP (.gsa) THAT YtnblgnafgdmcaaaGreatDoorProg.lean LOADS. Nothing in Lean hashes anything: it is a label: what it is worth is what the hold of that sum in a sandbox is worth. -/
noncomputable def Tryz.pinned : Pinned := { name := "ytnblgnafgdmcaaagreatdoor", sum := "b944edfb56469b1484c27ae5723044ac82024ea977267609bf92f542d7c958d6", checked := Tryz.checked }
namespace Rows
def none {H : Type} : Left H := { results := [], args := [] }

/- WHAT THE LISTED PACKAGE-LEVEL VARIABLES READ AS WHEN THE CALL BEGINS. Each datum BY PROGRAM (the guide's laid-datum.mjs) off the statement by which the dump's own 'gosem.cut.vars' lays the variable. In a bare row this is a premise. The card (YtnblgnafgdmcaaaGreatDoorCards.lean) ties it to the program's text. -/
def laid_unicode_utf8_acceptRanges {H : Type} : DataW H := .agg [.agg [.lit (.int .u8 128), .lit (.int .u8 191)], .agg [.lit (.int .u8 160), .lit (.int .u8 191)], .agg [.lit (.int .u8 128), .lit (.int .u8 159)], .agg [.lit (.int .u8 144), .lit (.int .u8 191)], .agg [.lit (.int .u8 128), .lit (.int .u8 143)], .agg [.lit (.int .u8 0), .lit (.int .u8 0)], .agg [.lit (.int .u8 0), .lit (.int .u8 0)], .agg [.lit (.int .u8 0), .lit (.int .u8 0)], .agg [.lit (.int .u8 0), .lit (.int .u8 0)], .agg [.lit (.int .u8 0), .lit (.int .u8 0)], .agg [.lit (.int .u8 0), .lit (.int .u8 0)], .agg [.lit (.int .u8 0), .lit (.int .u8 0)], .agg [.lit (.int .u8 0), .lit (.int .u8 0)], .agg [.lit (.int .u8 0), .lit (.int .u8 0)], .agg [.lit (.int .u8 0), .lit (.int .u8 0)], .agg [.lit (.int .u8 0), .lit (.int .u8 0)]]
/-- One of Go's own tables, pinned by name: the form's constant. -/
def laid_unicode_utf8_first : DataW Unit := Go.Pinned.utf8First

/-- 'chandlerlaw20.ExplainWhy': WHATEVER THE INPUT: true; the input reads as it did. -/
def explainWhySpec : ChangeSpec := { name := "explainWhy", fn := fun _ => fun
  | [d1, d2] => { results := [.lit (.bool true)], args := [d1, d2] }
  | _ => none }
def explainWhyRow : OpenClaim := { program := "ytnblgnafgdmcaaagreatdoor", sum := "b944edfb56469b1484c27ae5723044ac82024ea977267609bf92f542d7c958d6", func := "chandler/chandlerlaw20.ExplainWhy", spec := "explainWhy", inPlace := ["internal/bytealg.IndexByteString", "internal/bytealg.IndexString"], unfollowed := true, recurses := true, named := ["internal/bytealg.MaxLen", "unicode/utf8.first", "unicode/utf8.acceptRanges"], plainKeys := false, apart := false, laid := [("unicode/utf8.acceptRanges", laid_unicode_utf8_acceptRanges), ("unicode/utf8.first", laid_unicode_utf8_first)] }
def ExplainWhySaid : Prop := explainWhyRow.holds Tryz.pinned (OpenSpec.ofChange explainWhySpec)

/-- ITS FALSE NEIGHBOUR: 'it returns false'. Refute it at one input. -/
def explainWhyWrong : ChangeSpec := { name := "explainWhy", fn := fun _ => fun
  | [d1, d2] => { results := [.lit (.bool false)], args := [d1, d2] }
  | _ => none }
def ExplainWhyWrongFalsely : Prop := explainWhyRow.holds Tryz.pinned (OpenSpec.ofChange explainWhyWrong)

/-- 'chandlerlaw20.ExplainLeast': WHATEVER THE INPUT: true; the input reads as it did. -/
def explainLeastSpec : ChangeSpec := { name := "explainLeast", fn := fun _ => fun
  | [d1, d2] => { results := [.lit (.bool true)], args := [d1, d2] }
  | _ => none }
def explainLeastRow : OpenClaim := { program := "ytnblgnafgdmcaaagreatdoor", sum := "b944edfb56469b1484c27ae5723044ac82024ea977267609bf92f542d7c958d6", func := "chandler/chandlerlaw20.ExplainLeast", spec := "explainLeast", inPlace := ["internal/bytealg.IndexByteString", "internal/bytealg.IndexString"], unfollowed := true, recurses := true, named := ["internal/bytealg.MaxLen", "unicode/utf8.first", "unicode/utf8.acceptRanges"], plainKeys := false, apart := false, laid := [("unicode/utf8.acceptRanges", laid_unicode_utf8_acceptRanges), ("unicode/utf8.first", laid_unicode_utf8_first)] }
def ExplainLeastSaid : Prop := explainLeastRow.holds Tryz.pinned (OpenSpec.ofChange explainLeastSpec)

/-- ITS FALSE NEIGHBOUR: 'it returns false'. Refute it at one input. -/
def explainLeastWrong : ChangeSpec := { name := "explainLeast", fn := fun _ => fun
  | [d1, d2] => { results := [.lit (.bool false)], args := [d1, d2] }
  | _ => none }
def ExplainLeastWrongFalsely : Prop := explainLeastRow.holds Tryz.pinned (OpenSpec.ofChange explainLeastWrong)

/-- 'chandlerlaw20.ExplainHolds': WHATEVER THE INPUT: true; the input reads as it did. -/
def explainHoldsSpec : ChangeSpec := { name := "explainHolds", fn := fun _ => fun
  | [d1, d2, d3, d4] => { results := [.lit (.bool true)], args := [d1, d2, d3, d4] }
  | _ => none }
def explainHoldsRow : OpenClaim := { program := "ytnblgnafgdmcaaagreatdoor", sum := "b944edfb56469b1484c27ae5723044ac82024ea977267609bf92f542d7c958d6", func := "chandler/chandlerlaw20.ExplainHolds", spec := "explainHolds", inPlace := ["internal/bytealg.IndexByteString", "internal/bytealg.IndexString"], unfollowed := true, recurses := true, named := ["internal/bytealg.MaxLen", "unicode/utf8.first", "unicode/utf8.acceptRanges"], plainKeys := false, apart := false, laid := [("unicode/utf8.acceptRanges", laid_unicode_utf8_acceptRanges), ("unicode/utf8.first", laid_unicode_utf8_first)] }
def ExplainHoldsSaid : Prop := explainHoldsRow.holds Tryz.pinned (OpenSpec.ofChange explainHoldsSpec)

/-- ITS FALSE NEIGHBOUR: 'it returns false'. Refute it at one input. -/
def explainHoldsWrong : ChangeSpec := { name := "explainHolds", fn := fun _ => fun
  | [d1, d2, d3, d4] => { results := [.lit (.bool false)], args := [d1, d2, d3, d4] }
  | _ => none }
def ExplainHoldsWrongFalsely : Prop := explainHoldsRow.holds Tryz.pinned (OpenSpec.ofChange explainHoldsWrong)

/-- 'chandlerlaw20.ExplainLess': WHATEVER THE INPUT: true; the input reads as it did. -/
def explainLessSpec : ChangeSpec := { name := "explainLess", fn := fun _ => fun
  | [d1, d2, d3] => { results := [.lit (.bool true)], args := [d1, d2, d3] }
  | _ => none }
def explainLessRow : OpenClaim := { program := "ytnblgnafgdmcaaagreatdoor", sum := "b944edfb56469b1484c27ae5723044ac82024ea977267609bf92f542d7c958d6", func := "chandler/chandlerlaw20.ExplainLess", spec := "explainLess", inPlace := ["internal/bytealg.IndexByteString", "internal/bytealg.IndexString"], unfollowed := true, recurses := true, named := ["internal/bytealg.MaxLen", "unicode/utf8.first", "unicode/utf8.acceptRanges"], plainKeys := false, apart := false, laid := [("unicode/utf8.acceptRanges", laid_unicode_utf8_acceptRanges), ("unicode/utf8.first", laid_unicode_utf8_first)] }
def ExplainLessSaid : Prop := explainLessRow.holds Tryz.pinned (OpenSpec.ofChange explainLessSpec)

/-- ITS FALSE NEIGHBOUR: 'it returns false'. Refute it at one input. -/
def explainLessWrong : ChangeSpec := { name := "explainLess", fn := fun _ => fun
  | [d1, d2, d3] => { results := [.lit (.bool false)], args := [d1, d2, d3] }
  | _ => none }
def ExplainLessWrongFalsely : Prop := explainLessRow.holds Tryz.pinned (OpenSpec.ofChange explainLessWrong)

/-- 'chandlerlaw20.ExplainCauses': WHATEVER THE INPUT: true; the input reads as it did. -/
def explainCausesSpec : ChangeSpec := { name := "explainCauses", fn := fun _ => fun
  | [d1, d2] => { results := [.lit (.bool true)], args := [d1, d2] }
  | _ => none }
def explainCausesRow : OpenClaim := { program := "ytnblgnafgdmcaaagreatdoor", sum := "b944edfb56469b1484c27ae5723044ac82024ea977267609bf92f542d7c958d6", func := "chandler/chandlerlaw20.ExplainCauses", spec := "explainCauses", inPlace := ["internal/bytealg.IndexByteString", "internal/bytealg.IndexString", "internal/abi.NoEscape", "internal/bytealg.MakeNoZero"], unfollowed := true, recurses := true, named := ["internal/bytealg.MaxLen", "unicode/utf8.first", "unicode/utf8.acceptRanges"], plainKeys := false, apart := false, laid := [("unicode/utf8.acceptRanges", laid_unicode_utf8_acceptRanges), ("unicode/utf8.first", laid_unicode_utf8_first)] }
def ExplainCausesSaid : Prop := explainCausesRow.holds Tryz.pinned (OpenSpec.ofChange explainCausesSpec)

/-- ITS FALSE NEIGHBOUR: 'it returns false'. Refute it at one input. -/
def explainCausesWrong : ChangeSpec := { name := "explainCauses", fn := fun _ => fun
  | [d1, d2] => { results := [.lit (.bool false)], args := [d1, d2] }
  | _ => none }
def ExplainCausesWrongFalsely : Prop := explainCausesRow.holds Tryz.pinned (OpenSpec.ofChange explainCausesWrong)

/- THE SECOND FORM. 'bulk': how many values and letters a reading holds, each counted each time it is reached (what is shared counts as often as it is met; a slice's spare places count too). A statement '..UptoSaid' is the law's where the arguments, and the package variables that the reading takes, are together of bulk at most 1048576: NARROWER than '..Said'. Prove '..Said' where nothing that the law and all that it calls make is longer than what came in: it says more and counts as full. Else prove '..UptoSaid'. A law counts once. -/
mutual
def uptoBulk {H : Type} : DataW H → Nat
  | .lit (.string bytes) => bytes.length + 1
  | .lit _ => 1
  | .nil => 1
  | .ptr d => uptoBulk d + 1
  | .slice elems spare => uptoBulkAll elems + uptoBulkAll spare + 1
  | .agg parts => uptoBulkAll parts + 1
  | .iface _ d => uptoBulk d + 1
  | .map entries => uptoBulkEntries entries + 1
  | .held _ => 1
def uptoBulkAll {H : Type} : List (DataW H) → Nat
  | [] => 0
  | d :: r => uptoBulk d + uptoBulkAll r
def uptoBulkEntries {H : Type} : List (Lit × DataW H) → Nat
  | [] => 0
  | x :: r => uptoBulkEntry x + uptoBulkEntries r
def uptoBulkEntry {H : Type} : Lit × DataW H → Nat
  | (.string bytes, d) => bytes.length + uptoBulk d + 1
  | (_, d) => uptoBulk d + 1
 end
def uptoSmall : (H : Type) → List (DataW H) → Bool := fun _ ds => decide (uptoBulkAll ds ≤ 1048576)
def OpenSpec.upto (s : _root_.Go.ChangeSpec) : _root_.Go.OpenSpec := { _root_.Go.OpenSpec.ofChange s with cond := some uptoSmall }

/-- 'chandlerlaw20.ExplainWhy', WHERE WHAT IT READS IS OF BULK AT MOST 1048576: true; the input reads as it did. -/
def explainWhyUptoRow : OpenClaim := { program := "ytnblgnafgdmcaaagreatdoor", sum := "b944edfb56469b1484c27ae5723044ac82024ea977267609bf92f542d7c958d6", func := "chandler/chandlerlaw20.ExplainWhy", spec := "explainWhy", inPlace := ["internal/bytealg.IndexByteString", "internal/bytealg.IndexString"], unfollowed := true, recurses := true, named := ["internal/bytealg.MaxLen", "unicode/utf8.first", "unicode/utf8.acceptRanges"], plainKeys := false, apart := false, laid := [("unicode/utf8.acceptRanges", laid_unicode_utf8_acceptRanges), ("unicode/utf8.first", laid_unicode_utf8_first)], narrowed := true }
def ExplainWhyUptoSaid : Prop := explainWhyUptoRow.holds Tryz.pinned (OpenSpec.upto explainWhySpec)

/-- 'chandlerlaw20.ExplainLeast', WHERE WHAT IT READS IS OF BULK AT MOST 1048576: true; the input reads as it did. -/
def explainLeastUptoRow : OpenClaim := { program := "ytnblgnafgdmcaaagreatdoor", sum := "b944edfb56469b1484c27ae5723044ac82024ea977267609bf92f542d7c958d6", func := "chandler/chandlerlaw20.ExplainLeast", spec := "explainLeast", inPlace := ["internal/bytealg.IndexByteString", "internal/bytealg.IndexString"], unfollowed := true, recurses := true, named := ["internal/bytealg.MaxLen", "unicode/utf8.first", "unicode/utf8.acceptRanges"], plainKeys := false, apart := false, laid := [("unicode/utf8.acceptRanges", laid_unicode_utf8_acceptRanges), ("unicode/utf8.first", laid_unicode_utf8_first)], narrowed := true }
def ExplainLeastUptoSaid : Prop := explainLeastUptoRow.holds Tryz.pinned (OpenSpec.upto explainLeastSpec)

/-- 'chandlerlaw20.ExplainHolds', WHERE WHAT IT READS IS OF BULK AT MOST 1048576: true; the input reads as it did. -/
def explainHoldsUptoRow : OpenClaim := { program := "ytnblgnafgdmcaaagreatdoor", sum := "b944edfb56469b1484c27ae5723044ac82024ea977267609bf92f542d7c958d6", func := "chandler/chandlerlaw20.ExplainHolds", spec := "explainHolds", inPlace := ["internal/bytealg.IndexByteString", "internal/bytealg.IndexString"], unfollowed := true, recurses := true, named := ["internal/bytealg.MaxLen", "unicode/utf8.first", "unicode/utf8.acceptRanges"], plainKeys := false, apart := false, laid := [("unicode/utf8.acceptRanges", laid_unicode_utf8_acceptRanges), ("unicode/utf8.first", laid_unicode_utf8_first)], narrowed := true }
def ExplainHoldsUptoSaid : Prop := explainHoldsUptoRow.holds Tryz.pinned (OpenSpec.upto explainHoldsSpec)

/-- 'chandlerlaw20.ExplainLess', WHERE WHAT IT READS IS OF BULK AT MOST 1048576: true; the input reads as it did. -/
def explainLessUptoRow : OpenClaim := { program := "ytnblgnafgdmcaaagreatdoor", sum := "b944edfb56469b1484c27ae5723044ac82024ea977267609bf92f542d7c958d6", func := "chandler/chandlerlaw20.ExplainLess", spec := "explainLess", inPlace := ["internal/bytealg.IndexByteString", "internal/bytealg.IndexString"], unfollowed := true, recurses := true, named := ["internal/bytealg.MaxLen", "unicode/utf8.first", "unicode/utf8.acceptRanges"], plainKeys := false, apart := false, laid := [("unicode/utf8.acceptRanges", laid_unicode_utf8_acceptRanges), ("unicode/utf8.first", laid_unicode_utf8_first)], narrowed := true }
def ExplainLessUptoSaid : Prop := explainLessUptoRow.holds Tryz.pinned (OpenSpec.upto explainLessSpec)

/-- 'chandlerlaw20.ExplainCauses', WHERE WHAT IT READS IS OF BULK AT MOST 1048576: true; the input reads as it did. -/
def explainCausesUptoRow : OpenClaim := { program := "ytnblgnafgdmcaaagreatdoor", sum := "b944edfb56469b1484c27ae5723044ac82024ea977267609bf92f542d7c958d6", func := "chandler/chandlerlaw20.ExplainCauses", spec := "explainCauses", inPlace := ["internal/bytealg.IndexByteString", "internal/bytealg.IndexString", "internal/abi.NoEscape", "internal/bytealg.MakeNoZero"], unfollowed := true, recurses := true, named := ["internal/bytealg.MaxLen", "unicode/utf8.first", "unicode/utf8.acceptRanges"], plainKeys := false, apart := false, laid := [("unicode/utf8.acceptRanges", laid_unicode_utf8_acceptRanges), ("unicode/utf8.first", laid_unicode_utf8_first)], narrowed := true }
def ExplainCausesUptoSaid : Prop := explainCausesUptoRow.holds Tryz.pinned (OpenSpec.upto explainCausesSpec)

end Rows
end Go.Proofs.YtnblgnafgdmcaaaGreatDoor
