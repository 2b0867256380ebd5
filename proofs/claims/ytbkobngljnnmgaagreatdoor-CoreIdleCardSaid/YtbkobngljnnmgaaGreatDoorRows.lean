/-
  NARROWER THAN 'FOR EVERY INPUT', by the rows' own cells (each row's printed sentence says how): CoreDecides: laid · CoreBudget: laid · CorePlans: laid · CoreBest: laid · CoreBroken: laid · CoreTurned: laid · CoreIdle: laid.
  DERIVED. THE GIVEN ROWS OF THIS SEAT. 7 by the template 'for every input the law returns true; each argument reads behind the call as it read before'; 0 by the template 'total and deterministic' (their statements: YtbkobngljnnmgaaGreatDoorTotals.lean).
  GIVEN WITH THE SEED: the statements are not yours to turn. If you find one false, say at which input.
  Laid BY PROGRAM, IN A SANDBOX (cutbox-rows.mjs): the forced cells as the released guide's own fill.sh prints them over the translation c9d1295ab4a1027e… (all of the seat's roots in one cut). By AI agents, Wed Nov 11 2026. No macro, syntax, notation, axiom, sorry.
-/
import Derived.Test.YtbkobngljnnmgaaGreatDoorChecked
import GoSem.PinnedTables
import GoSem.Claim
import GoSem.ClaimJoined
import GoSem.ClaimMapViews
import Derived.JoinedTies
import Derived.KernelRfl
namespace Go.Proofs.YtbkobngljnnmgaaGreatDoor
/- THE CELL 'sum', in the pinned program and in every row, IS THE sha256 OF THE DUMP (.gsa) THAT YtbkobngljnnmgaaGreatDoorProg.lean LOADS. Nothing in Lean hashes anything: it is a label: what it is worth is what the hold of that sum in a sandbox is worth. -/
noncomputable def Tryz.pinned : Pinned := { name := "ytbkobngljnnmgaagreatdoor", sum := "c9d1295ab4a1027e5819c35a90d809dee35dd556c60211192d8ae6b0851ff675", checked := Tryz.checked }
namespace Rows
def none {H : Type} : Left H := { results := [], args := [] }

/- WHAT THE LISTED PACKAGE-LEVEL VARIABLES READ AS WHEN THE CALL BEGINS. Each datum BY PROGRAM (the guide's laid-datum.mjs) off the statement by which the dump's own 'gosem.cut.vars' lays the variable. In a bare row this is a premise. The card (YtbkobngljnnmgaaGreatDoorCards.lean) ties it to the program's text. -/
def laid_math_bits_deBruijn32tab {H : Type} : DataW H := .agg [.lit (.int .u8 0), .lit (.int .u8 1), .lit (.int .u8 28), .lit (.int .u8 2), .lit (.int .u8 29), .lit (.int .u8 14), .lit (.int .u8 24), .lit (.int .u8 3), .lit (.int .u8 30), .lit (.int .u8 22), .lit (.int .u8 20), .lit (.int .u8 15), .lit (.int .u8 25), .lit (.int .u8 17), .lit (.int .u8 4), .lit (.int .u8 8), .lit (.int .u8 31), .lit (.int .u8 27), .lit (.int .u8 13), .lit (.int .u8 23), .lit (.int .u8 21), .lit (.int .u8 19), .lit (.int .u8 16), .lit (.int .u8 7), .lit (.int .u8 26), .lit (.int .u8 12), .lit (.int .u8 18), .lit (.int .u8 6), .lit (.int .u8 11), .lit (.int .u8 5), .lit (.int .u8 10), .lit (.int .u8 9)]
def laid_unicode_utf8_acceptRanges {H : Type} : DataW H := .agg [.agg [.lit (.int .u8 128), .lit (.int .u8 191)], .agg [.lit (.int .u8 160), .lit (.int .u8 191)], .agg [.lit (.int .u8 128), .lit (.int .u8 159)], .agg [.lit (.int .u8 144), .lit (.int .u8 191)], .agg [.lit (.int .u8 128), .lit (.int .u8 143)], .agg [.lit (.int .u8 0), .lit (.int .u8 0)], .agg [.lit (.int .u8 0), .lit (.int .u8 0)], .agg [.lit (.int .u8 0), .lit (.int .u8 0)], .agg [.lit (.int .u8 0), .lit (.int .u8 0)], .agg [.lit (.int .u8 0), .lit (.int .u8 0)], .agg [.lit (.int .u8 0), .lit (.int .u8 0)], .agg [.lit (.int .u8 0), .lit (.int .u8 0)], .agg [.lit (.int .u8 0), .lit (.int .u8 0)], .agg [.lit (.int .u8 0), .lit (.int .u8 0)], .agg [.lit (.int .u8 0), .lit (.int .u8 0)], .agg [.lit (.int .u8 0), .lit (.int .u8 0)]]
/-- One of Go's own tables, pinned by name: the form's constant. -/
def laid_unicode_utf8_first : DataW Unit := Go.Pinned.utf8First

/-- 'chandlerlaw24.CoreDecides': WHATEVER THE INPUT: true; the input reads as it did. -/
def coreDecidesSpec : ChangeSpec := { name := "coreDecides", fn := fun _ => fun
  | [d1, d2, d3] => { results := [.lit (.bool true)], args := [d1, d2, d3] }
  | _ => none }
def coreDecidesRow : OpenClaim := { program := "ytbkobngljnnmgaagreatdoor", sum := "c9d1295ab4a1027e5819c35a90d809dee35dd556c60211192d8ae6b0851ff675", func := "chandler/chandlerlaw24.CoreDecides", spec := "coreDecides", inPlace := ["internal/bytealg.IndexByteString", "internal/bytealg.IndexString"], unfollowed := true, recurses := true, named := ["internal/bytealg.MaxLen", "unicode/utf8.first", "unicode/utf8.acceptRanges", "math/bits.deBruijn32tab"], apart := false, laid := [("math/bits.deBruijn32tab", laid_math_bits_deBruijn32tab), ("unicode/utf8.acceptRanges", laid_unicode_utf8_acceptRanges), ("unicode/utf8.first", laid_unicode_utf8_first)] }
def CoreDecidesSaid : Prop := coreDecidesRow.holds Tryz.pinned (OpenSpec.ofChange coreDecidesSpec)

/-- ITS FALSE NEIGHBOUR: 'it returns false'. Refute it at one input. -/
def coreDecidesWrong : ChangeSpec := { name := "coreDecides", fn := fun _ => fun
  | [d1, d2, d3] => { results := [.lit (.bool false)], args := [d1, d2, d3] }
  | _ => none }
def CoreDecidesWrongFalsely : Prop := coreDecidesRow.holds Tryz.pinned (OpenSpec.ofChange coreDecidesWrong)

/-- 'chandlerlaw24.CoreBudget': WHATEVER THE INPUT: true; the input reads as it did. -/
def coreBudgetSpec : ChangeSpec := { name := "coreBudget", fn := fun _ => fun
  | [d1, d2, d3, d4, d5] => { results := [.lit (.bool true)], args := [d1, d2, d3, d4, d5] }
  | _ => none }
def coreBudgetRow : OpenClaim := { program := "ytbkobngljnnmgaagreatdoor", sum := "c9d1295ab4a1027e5819c35a90d809dee35dd556c60211192d8ae6b0851ff675", func := "chandler/chandlerlaw24.CoreBudget", spec := "coreBudget", inPlace := ["internal/bytealg.IndexByteString", "internal/bytealg.IndexString"], unfollowed := true, recurses := true, named := ["internal/bytealg.MaxLen", "unicode/utf8.first", "unicode/utf8.acceptRanges", "math/bits.deBruijn32tab"], apart := false, laid := [("math/bits.deBruijn32tab", laid_math_bits_deBruijn32tab), ("unicode/utf8.acceptRanges", laid_unicode_utf8_acceptRanges), ("unicode/utf8.first", laid_unicode_utf8_first)] }
def CoreBudgetSaid : Prop := coreBudgetRow.holds Tryz.pinned (OpenSpec.ofChange coreBudgetSpec)

/-- ITS FALSE NEIGHBOUR: 'it returns false'. Refute it at one input. -/
def coreBudgetWrong : ChangeSpec := { name := "coreBudget", fn := fun _ => fun
  | [d1, d2, d3, d4, d5] => { results := [.lit (.bool false)], args := [d1, d2, d3, d4, d5] }
  | _ => none }
def CoreBudgetWrongFalsely : Prop := coreBudgetRow.holds Tryz.pinned (OpenSpec.ofChange coreBudgetWrong)

/-- 'chandlerlaw24.CorePlans': WHATEVER THE INPUT: true; the input reads as it did. -/
def corePlansSpec : ChangeSpec := { name := "corePlans", fn := fun _ => fun
  | [d1, d2, d3] => { results := [.lit (.bool true)], args := [d1, d2, d3] }
  | _ => none }
def corePlansRow : OpenClaim := { program := "ytbkobngljnnmgaagreatdoor", sum := "c9d1295ab4a1027e5819c35a90d809dee35dd556c60211192d8ae6b0851ff675", func := "chandler/chandlerlaw24.CorePlans", spec := "corePlans", inPlace := ["internal/bytealg.IndexByteString", "internal/bytealg.IndexString"], unfollowed := true, recurses := true, named := ["internal/bytealg.MaxLen", "unicode/utf8.first", "unicode/utf8.acceptRanges", "math/bits.deBruijn32tab"], apart := false, laid := [("math/bits.deBruijn32tab", laid_math_bits_deBruijn32tab), ("unicode/utf8.acceptRanges", laid_unicode_utf8_acceptRanges), ("unicode/utf8.first", laid_unicode_utf8_first)] }
def CorePlansSaid : Prop := corePlansRow.holds Tryz.pinned (OpenSpec.ofChange corePlansSpec)

/-- ITS FALSE NEIGHBOUR: 'it returns false'. Refute it at one input. -/
def corePlansWrong : ChangeSpec := { name := "corePlans", fn := fun _ => fun
  | [d1, d2, d3] => { results := [.lit (.bool false)], args := [d1, d2, d3] }
  | _ => none }
def CorePlansWrongFalsely : Prop := corePlansRow.holds Tryz.pinned (OpenSpec.ofChange corePlansWrong)

/-- 'chandlerlaw24.CoreBest': WHATEVER THE INPUT: true; the input reads as it did. -/
def coreBestSpec : ChangeSpec := { name := "coreBest", fn := fun _ => fun
  | [d1, d2, d3, d4] => { results := [.lit (.bool true)], args := [d1, d2, d3, d4] }
  | _ => none }
def coreBestRow : OpenClaim := { program := "ytbkobngljnnmgaagreatdoor", sum := "c9d1295ab4a1027e5819c35a90d809dee35dd556c60211192d8ae6b0851ff675", func := "chandler/chandlerlaw24.CoreBest", spec := "coreBest", inPlace := ["internal/bytealg.IndexByteString", "internal/bytealg.IndexString"], unfollowed := true, recurses := true, named := ["internal/bytealg.MaxLen", "unicode/utf8.first", "unicode/utf8.acceptRanges", "math/bits.deBruijn32tab"], apart := false, laid := [("math/bits.deBruijn32tab", laid_math_bits_deBruijn32tab), ("unicode/utf8.acceptRanges", laid_unicode_utf8_acceptRanges), ("unicode/utf8.first", laid_unicode_utf8_first)] }
def CoreBestSaid : Prop := coreBestRow.holds Tryz.pinned (OpenSpec.ofChange coreBestSpec)

/-- ITS FALSE NEIGHBOUR: 'it returns false'. Refute it at one input. -/
def coreBestWrong : ChangeSpec := { name := "coreBest", fn := fun _ => fun
  | [d1, d2, d3, d4] => { results := [.lit (.bool false)], args := [d1, d2, d3, d4] }
  | _ => none }
def CoreBestWrongFalsely : Prop := coreBestRow.holds Tryz.pinned (OpenSpec.ofChange coreBestWrong)

/-- 'chandlerlaw24.CoreBroken': WHATEVER THE INPUT: true; the input reads as it did. -/
def coreBrokenSpec : ChangeSpec := { name := "coreBroken", fn := fun _ => fun
  | [d1, d2, d3] => { results := [.lit (.bool true)], args := [d1, d2, d3] }
  | _ => none }
def coreBrokenRow : OpenClaim := { program := "ytbkobngljnnmgaagreatdoor", sum := "c9d1295ab4a1027e5819c35a90d809dee35dd556c60211192d8ae6b0851ff675", func := "chandler/chandlerlaw24.CoreBroken", spec := "coreBroken", inPlace := ["internal/bytealg.IndexByteString", "internal/bytealg.IndexString"], unfollowed := true, recurses := true, named := ["internal/bytealg.MaxLen", "unicode/utf8.first", "unicode/utf8.acceptRanges", "math/bits.deBruijn32tab"], apart := false, laid := [("math/bits.deBruijn32tab", laid_math_bits_deBruijn32tab), ("unicode/utf8.acceptRanges", laid_unicode_utf8_acceptRanges), ("unicode/utf8.first", laid_unicode_utf8_first)] }
def CoreBrokenSaid : Prop := coreBrokenRow.holds Tryz.pinned (OpenSpec.ofChange coreBrokenSpec)

/-- ITS FALSE NEIGHBOUR: 'it returns false'. Refute it at one input. -/
def coreBrokenWrong : ChangeSpec := { name := "coreBroken", fn := fun _ => fun
  | [d1, d2, d3] => { results := [.lit (.bool false)], args := [d1, d2, d3] }
  | _ => none }
def CoreBrokenWrongFalsely : Prop := coreBrokenRow.holds Tryz.pinned (OpenSpec.ofChange coreBrokenWrong)

/-- 'chandlerlaw24.CoreTurned': WHATEVER THE INPUT: true; the input reads as it did. -/
def coreTurnedSpec : ChangeSpec := { name := "coreTurned", fn := fun _ => fun
  | [d1, d2, d3] => { results := [.lit (.bool true)], args := [d1, d2, d3] }
  | _ => none }
def coreTurnedRow : OpenClaim := { program := "ytbkobngljnnmgaagreatdoor", sum := "c9d1295ab4a1027e5819c35a90d809dee35dd556c60211192d8ae6b0851ff675", func := "chandler/chandlerlaw24.CoreTurned", spec := "coreTurned", inPlace := ["internal/bytealg.IndexByteString", "internal/bytealg.IndexString"], unfollowed := true, recurses := true, named := ["internal/bytealg.MaxLen", "unicode/utf8.first", "unicode/utf8.acceptRanges", "math/bits.deBruijn32tab"], apart := false, laid := [("math/bits.deBruijn32tab", laid_math_bits_deBruijn32tab), ("unicode/utf8.acceptRanges", laid_unicode_utf8_acceptRanges), ("unicode/utf8.first", laid_unicode_utf8_first)] }
def CoreTurnedSaid : Prop := coreTurnedRow.holds Tryz.pinned (OpenSpec.ofChange coreTurnedSpec)

/-- ITS FALSE NEIGHBOUR: 'it returns false'. Refute it at one input. -/
def coreTurnedWrong : ChangeSpec := { name := "coreTurned", fn := fun _ => fun
  | [d1, d2, d3] => { results := [.lit (.bool false)], args := [d1, d2, d3] }
  | _ => none }
def CoreTurnedWrongFalsely : Prop := coreTurnedRow.holds Tryz.pinned (OpenSpec.ofChange coreTurnedWrong)

/-- 'chandlerlaw24.CoreIdle': WHATEVER THE INPUT: true; the input reads as it did. -/
def coreIdleSpec : ChangeSpec := { name := "coreIdle", fn := fun _ => fun
  | [d1, d2] => { results := [.lit (.bool true)], args := [d1, d2] }
  | _ => none }
def coreIdleRow : OpenClaim := { program := "ytbkobngljnnmgaagreatdoor", sum := "c9d1295ab4a1027e5819c35a90d809dee35dd556c60211192d8ae6b0851ff675", func := "chandler/chandlerlaw24.CoreIdle", spec := "coreIdle", inPlace := ["internal/bytealg.IndexByteString", "internal/bytealg.IndexString"], unfollowed := true, recurses := true, named := ["internal/bytealg.MaxLen", "unicode/utf8.first", "unicode/utf8.acceptRanges", "math/bits.deBruijn32tab"], apart := false, laid := [("math/bits.deBruijn32tab", laid_math_bits_deBruijn32tab), ("unicode/utf8.acceptRanges", laid_unicode_utf8_acceptRanges), ("unicode/utf8.first", laid_unicode_utf8_first)] }
def CoreIdleSaid : Prop := coreIdleRow.holds Tryz.pinned (OpenSpec.ofChange coreIdleSpec)

/-- ITS FALSE NEIGHBOUR: 'it returns false'. Refute it at one input. -/
def coreIdleWrong : ChangeSpec := { name := "coreIdle", fn := fun _ => fun
  | [d1, d2] => { results := [.lit (.bool false)], args := [d1, d2] }
  | _ => none }
def CoreIdleWrongFalsely : Prop := coreIdleRow.holds Tryz.pinned (OpenSpec.ofChange coreIdleWrong)

/- THE SECOND FORM. 'bulk': how many values and letters a reading holds, each counted each time it is reached (what is shared counts as often as it is met; a slice's spare places count too). A statement '..UptoSaid' is the law's where the arguments, and the package variables that the reading takes, are together of bulk at most 1048576: NARROWER than '..Said'. Prove '..Said' where nothing that the law and all that it calls make is longer than what came in: it says more and counts as full. Else prove '..UptoSaid'. A law counts once. -/
mutual
def uptoBulk {H : Type} : DataW H → Nat
  | .lit (.string bytes) => bytes.length + 1
  | .lit _ => 1
  | .nil => 1
  | .ptr d => uptoBulk d + 1
  | .slice elems spare => uptoBulkAll elems + uptoBulkAll spare + 1
  | .agg parts => uptoBulkAll parts + 1
  | .iface _ d => uptoBulk d + 1
  | .map entries => uptoBulkEntries entries + 1
  | .held _ => 1
def uptoBulkAll {H : Type} : List (DataW H) → Nat
  | [] => 0
  | d :: r => uptoBulk d + uptoBulkAll r
def uptoBulkEntries {H : Type} : List (Lit × DataW H) → Nat
  | [] => 0
  | x :: r => uptoBulkEntry x + uptoBulkEntries r
def uptoBulkEntry {H : Type} : Lit × DataW H → Nat
  | (.string bytes, d) => bytes.length + uptoBulk d + 1
  | (_, d) => uptoBulk d + 1
 end
def uptoSmall : (H : Type) → List (DataW H) → Bool := fun _ ds => decide (uptoBulkAll ds ≤ 1048576)
def OpenSpec.upto (s : _root_.Go.ChangeSpec) : _root_.Go.OpenSpec := { _root_.Go.OpenSpec.ofChange s with cond := some uptoSmall }

/-- 'chandlerlaw24.CoreDecides', WHERE WHAT IT READS IS OF BULK AT MOST 1048576: true; the input reads as it did. -/
def coreDecidesUptoRow : OpenClaim := { program := "ytbkobngljnnmgaagreatdoor", sum := "c9d1295ab4a1027e5819c35a90d809dee35dd556c60211192d8ae6b0851ff675", func := "chandler/chandlerlaw24.CoreDecides", spec := "coreDecides", inPlace := ["internal/bytealg.IndexByteString", "internal/bytealg.IndexString"], unfollowed := true, recurses := true, named := ["internal/bytealg.MaxLen", "unicode/utf8.first", "unicode/utf8.acceptRanges", "math/bits.deBruijn32tab"], apart := false, laid := [("math/bits.deBruijn32tab", laid_math_bits_deBruijn32tab), ("unicode/utf8.acceptRanges", laid_unicode_utf8_acceptRanges), ("unicode/utf8.first", laid_unicode_utf8_first)], narrowed := true }
def CoreDecidesUptoSaid : Prop := coreDecidesUptoRow.holds Tryz.pinned (OpenSpec.upto coreDecidesSpec)

/-- 'chandlerlaw24.CoreBudget', WHERE WHAT IT READS IS OF BULK AT MOST 1048576: true; the input reads as it did. -/
def coreBudgetUptoRow : OpenClaim := { program := "ytbkobngljnnmgaagreatdoor", sum := "c9d1295ab4a1027e5819c35a90d809dee35dd556c60211192d8ae6b0851ff675", func := "chandler/chandlerlaw24.CoreBudget", spec := "coreBudget", inPlace := ["internal/bytealg.IndexByteString", "internal/bytealg.IndexString"], unfollowed := true, recurses := true, named := ["internal/bytealg.MaxLen", "unicode/utf8.first", "unicode/utf8.acceptRanges", "math/bits.deBruijn32tab"], apart := false, laid := [("math/bits.deBruijn32tab", laid_math_bits_deBruijn32tab), ("unicode/utf8.acceptRanges", laid_unicode_utf8_acceptRanges), ("unicode/utf8.first", laid_unicode_utf8_first)], narrowed := true }
def CoreBudgetUptoSaid : Prop := coreBudgetUptoRow.holds Tryz.pinned (OpenSpec.upto coreBudgetSpec)

/-- 'chandlerlaw24.CorePlans', WHERE WHAT IT READS IS OF BULK AT MOST 1048576: true; the input reads as it did. -/
def corePlansUptoRow : OpenClaim := { program := "ytbkobngljnnmgaagreatdoor", sum := "c9d1295ab4a1027e5819c35a90d809dee35dd556c60211192d8ae6b0851ff675", func := "chandler/chandlerlaw24.CorePlans", spec := "corePlans", inPlace := ["internal/bytealg.IndexByteString", "internal/bytealg.IndexString"], unfollowed := true, recurses := true, named := ["internal/bytealg.MaxLen", "unicode/utf8.first", "unicode/utf8.acceptRanges", "math/bits.deBruijn32tab"], apart := false, laid := [("math/bits.deBruijn32tab", laid_math_bits_deBruijn32tab), ("unicode/utf8.acceptRanges", laid_unicode_utf8_acceptRanges), ("unicode/utf8.first", laid_unicode_utf8_first)], narrowed := true }
def CorePlansUptoSaid : Prop := corePlansUptoRow.holds Tryz.pinned (OpenSpec.upto corePlansSpec)

/-- 'chandlerlaw24.CoreBest', WHERE WHAT IT READS IS OF BULK AT MOST 1048576: true; the input reads as it did. -/
def coreBestUptoRow : OpenClaim := { program := "ytbkobngljnnmgaagreatdoor", sum := "c9d1295ab4a1027e5819c35a90d809dee35dd556c60211192d8ae6b0851ff675", func := "chandler/chandlerlaw24.CoreBest", spec := "coreBest", inPlace := ["internal/bytealg.IndexByteString", "internal/bytealg.IndexString"], unfollowed := true, recurses := true, named := ["internal/bytealg.MaxLen", "unicode/utf8.first", "unicode/utf8.acceptRanges", "math/bits.deBruijn32tab"], apart := false, laid := [("math/bits.deBruijn32tab", laid_math_bits_deBruijn32tab), ("unicode/utf8.acceptRanges", laid_unicode_utf8_acceptRanges), ("unicode/utf8.first", laid_unicode_utf8_first)], narrowed := true }
def CoreBestUptoSaid : Prop := coreBestUptoRow.holds Tryz.pinned (OpenSpec.upto coreBestSpec)

/-- 'chandlerlaw24.CoreBroken', WHERE WHAT IT READS IS OF BULK AT MOST 1048576: true; the input reads as it did. -/
def coreBrokenUptoRow : OpenClaim := { program := "ytbkobngljnnmgaagreatdoor", sum := "c9d1295ab4a1027e5819c35a90d809dee35dd556c60211192d8ae6b0851ff675", func := "chandler/chandlerlaw24.CoreBroken", spec := "coreBroken", inPlace := ["internal/bytealg.IndexByteString", "internal/bytealg.IndexString"], unfollowed := true, recurses := true, named := ["internal/bytealg.MaxLen", "unicode/utf8.first", "unicode/utf8.acceptRanges", "math/bits.deBruijn32tab"], apart := false, laid := [("math/bits.deBruijn32tab", laid_math_bits_deBruijn32tab), ("unicode/utf8.acceptRanges", laid_unicode_utf8_acceptRanges), ("unicode/utf8.first", laid_unicode_utf8_first)], narrowed := true }
def CoreBrokenUptoSaid : Prop := coreBrokenUptoRow.holds Tryz.pinned (OpenSpec.upto coreBrokenSpec)

/-- 'chandlerlaw24.CoreTurned', WHERE WHAT IT READS IS OF BULK AT MOST 1048576: true; the input reads as it did. -/
def coreTurnedUptoRow : OpenClaim := { program := "ytbkobngljnnmgaagreatdoor", sum := "c9d1295ab4a1027e5819c35a90d809dee35dd556c60211192d8ae6b0851ff675", func := "chandler/chandlerlaw24.CoreTurned", spec := "coreTurned", inPlace := ["internal/bytealg.IndexByteString", "internal/bytealg.IndexString"], unfollowed := true, recurses := true, named := ["internal/bytealg.MaxLen", "unicode/utf8.first", "unicode/utf8.acceptRanges", "math/bits.deBruijn32tab"], apart := false, laid := [("math/bits.deBruijn32tab", laid_math_bits_deBruijn32tab), ("unicode/utf8.acceptRanges", laid_unicode_utf8_acceptRanges), ("unicode/utf8.first", laid_unicode_utf8_first)], narrowed := true }
def CoreTurnedUptoSaid : Prop := coreTurnedUptoRow.holds Tryz.pinned (OpenSpec.upto coreTurnedSpec)

/-- 'chandlerlaw24.CoreIdle', WHERE WHAT IT READS IS OF BULK AT MOST 1048576: true; the input reads as it did. -/
def coreIdleUptoRow : OpenClaim := { program := "ytbkobngljnnmgaagreatdoor", sum := "c9d1295ab4a1027e5819c35a90d809dee35dd556c60211192d8ae6b0851ff675", func := "chandler/chandlerlaw24.CoreIdle", spec := "coreIdle", inPlace := ["internal/bytealg.IndexByteString", "internal/bytealg.IndexString"], unfollowed := true, recurses := true, named := ["internal/bytealg.MaxLen", "unicode/utf8.first", "unicode/utf8.acceptRanges", "math/bits.deBruijn32tab"], apart := false, laid := [("math/bits.deBruijn32tab", laid_math_bits_deBruijn32tab), ("unicode/utf8.acceptRanges", laid_unicode_utf8_acceptRanges), ("unicode/utf8.first", laid_unicode_utf8_first)], narrowed := true }
def CoreIdleUptoSaid : Prop := coreIdleUptoRow.holds Tryz.pinned (OpenSpec.upto coreIdleSpec)

end Rows
end Go.Proofs.YtbkobngljnnmgaaGreatDoor
