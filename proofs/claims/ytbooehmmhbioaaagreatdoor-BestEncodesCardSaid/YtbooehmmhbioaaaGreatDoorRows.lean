/-
  NARROWER THAN 'FOR EVERY INPUT', by the rows' own cells (each row's printed sentence says how): BestAll: laid · BestNew: laid · BestRises: laid · BestBudget: laid · BestEncodes: laid · BestNil: laid.
  DERIVED. THE GIVEN ROWS OF THIS SEAT. 6 by the template 'for every input the law returns true; each argument reads behind the call as it read before'; 0 by the template 'total and deterministic' (their statements: YtbooehmmhbioaaaGreatDoorTotals.lean).
  GIVEN WITH THE SEED: the statements are not yours to turn. If you find one false, say at which input.
  Laid BY PROGRAM, IN A SANDBOX (cutbox-rows.mjs): the forced cells as the released guide's own fill.sh prints them over the translation d8781e753dc9da87… (all of the seat's roots in one cut). By AI agents, Wed Nov 11 2026. No macro, syntax, notation, axiom, sorry.
-/
import Derived.Test.YtbooehmmhbioaaaGreatDoorChecked
import GoSem.PinnedTables
import GoSem.Claim
import GoSem.ClaimJoined
import GoSem.ClaimMapViews
import Derived.JoinedTies
import Derived.KernelRfl
namespace Go.Proofs.YtbooehmmhbioaaaGreatDoor
/- THE CELL 'sum', in the pinned program and in every row, IS THE sha256 OF THE DUMP (.gsa) THAT YtbooehmmhbioaaaGreatDoorProg.lean LOADS. Nothing in Lean hashes anything: it is a label: what it is worth is what the hold of that sum in a sandbox is worth. -/
noncomputable def Tryz.pinned : Pinned := { name := "ytbooehmmhbioaaagreatdoor", sum := "d8781e753dc9da8745a228c386adaccd11eb28bc88a223365a35d841cf4cbd9f", checked := Tryz.checked }
namespace Rows
def none {H : Type} : Left H := { results := [], args := [] }

/- WHAT THE LISTED PACKAGE-LEVEL VARIABLES READ AS WHEN THE CALL BEGINS. Each datum BY PROGRAM (the guide's laid-datum.mjs) off the statement by which the dump's own 'gosem.cut.vars' lays the variable. In a bare row this is a premise. The card (YtbooehmmhbioaaaGreatDoorCards.lean) ties it to the program's text. -/
def laid_math_bits_deBruijn32tab {H : Type} : DataW H := .agg [.lit (.int .u8 0), .lit (.int .u8 1), .lit (.int .u8 28), .lit (.int .u8 2), .lit (.int .u8 29), .lit (.int .u8 14), .lit (.int .u8 24), .lit (.int .u8 3), .lit (.int .u8 30), .lit (.int .u8 22), .lit (.int .u8 20), .lit (.int .u8 15), .lit (.int .u8 25), .lit (.int .u8 17), .lit (.int .u8 4), .lit (.int .u8 8), .lit (.int .u8 31), .lit (.int .u8 27), .lit (.int .u8 13), .lit (.int .u8 23), .lit (.int .u8 21), .lit (.int .u8 19), .lit (.int .u8 16), .lit (.int .u8 7), .lit (.int .u8 26), .lit (.int .u8 12), .lit (.int .u8 18), .lit (.int .u8 6), .lit (.int .u8 11), .lit (.int .u8 5), .lit (.int .u8 10), .lit (.int .u8 9)]
def laid_unicode_utf8_acceptRanges {H : Type} : DataW H := .agg [.agg [.lit (.int .u8 128), .lit (.int .u8 191)], .agg [.lit (.int .u8 160), .lit (.int .u8 191)], .agg [.lit (.int .u8 128), .lit (.int .u8 159)], .agg [.lit (.int .u8 144), .lit (.int .u8 191)], .agg [.lit (.int .u8 128), .lit (.int .u8 143)], .agg [.lit (.int .u8 0), .lit (.int .u8 0)], .agg [.lit (.int .u8 0), .lit (.int .u8 0)], .agg [.lit (.int .u8 0), .lit (.int .u8 0)], .agg [.lit (.int .u8 0), .lit (.int .u8 0)], .agg [.lit (.int .u8 0), .lit (.int .u8 0)], .agg [.lit (.int .u8 0), .lit (.int .u8 0)], .agg [.lit (.int .u8 0), .lit (.int .u8 0)], .agg [.lit (.int .u8 0), .lit (.int .u8 0)], .agg [.lit (.int .u8 0), .lit (.int .u8 0)], .agg [.lit (.int .u8 0), .lit (.int .u8 0)], .agg [.lit (.int .u8 0), .lit (.int .u8 0)]]
/-- One of Go's own tables, pinned by name: the form's constant. -/
def laid_unicode_utf8_first : DataW Unit := Go.Pinned.utf8First

/-- 'chandlerlaw18.BestAll': WHATEVER THE INPUT: true; the input reads as it did. -/
def bestAllSpec : ChangeSpec := { name := "bestAll", fn := fun _ => fun
  | [d1, d2, d3] => { results := [.lit (.bool true)], args := [d1, d2, d3] }
  | _ => none }
def bestAllRow : OpenClaim := { program := "ytbooehmmhbioaaagreatdoor", sum := "d8781e753dc9da8745a228c386adaccd11eb28bc88a223365a35d841cf4cbd9f", func := "chandler/chandlerlaw18.BestAll", spec := "bestAll", inPlace := ["internal/bytealg.IndexByteString", "internal/bytealg.IndexString"], unfollowed := true, recurses := true, named := ["internal/bytealg.MaxLen", "unicode/utf8.first", "unicode/utf8.acceptRanges", "math/bits.deBruijn32tab"], apart := false, laid := [("math/bits.deBruijn32tab", laid_math_bits_deBruijn32tab), ("unicode/utf8.acceptRanges", laid_unicode_utf8_acceptRanges), ("unicode/utf8.first", laid_unicode_utf8_first)] }
def BestAllSaid : Prop := bestAllRow.holds Tryz.pinned (OpenSpec.ofChange bestAllSpec)

/-- ITS FALSE NEIGHBOUR: 'it returns false'. Refute it at one input. -/
def bestAllWrong : ChangeSpec := { name := "bestAll", fn := fun _ => fun
  | [d1, d2, d3] => { results := [.lit (.bool false)], args := [d1, d2, d3] }
  | _ => none }
def BestAllWrongFalsely : Prop := bestAllRow.holds Tryz.pinned (OpenSpec.ofChange bestAllWrong)

/-- 'chandlerlaw18.BestNew': WHATEVER THE INPUT: true; the input reads as it did. -/
def bestNewSpec : ChangeSpec := { name := "bestNew", fn := fun _ => fun
  | [d1, d2, d3] => { results := [.lit (.bool true)], args := [d1, d2, d3] }
  | _ => none }
def bestNewRow : OpenClaim := { program := "ytbooehmmhbioaaagreatdoor", sum := "d8781e753dc9da8745a228c386adaccd11eb28bc88a223365a35d841cf4cbd9f", func := "chandler/chandlerlaw18.BestNew", spec := "bestNew", inPlace := ["internal/bytealg.IndexByteString", "internal/bytealg.IndexString"], unfollowed := true, recurses := true, named := ["internal/bytealg.MaxLen", "unicode/utf8.first", "unicode/utf8.acceptRanges", "math/bits.deBruijn32tab"], apart := false, laid := [("math/bits.deBruijn32tab", laid_math_bits_deBruijn32tab), ("unicode/utf8.acceptRanges", laid_unicode_utf8_acceptRanges), ("unicode/utf8.first", laid_unicode_utf8_first)] }
def BestNewSaid : Prop := bestNewRow.holds Tryz.pinned (OpenSpec.ofChange bestNewSpec)

/-- ITS FALSE NEIGHBOUR: 'it returns false'. Refute it at one input. -/
def bestNewWrong : ChangeSpec := { name := "bestNew", fn := fun _ => fun
  | [d1, d2, d3] => { results := [.lit (.bool false)], args := [d1, d2, d3] }
  | _ => none }
def BestNewWrongFalsely : Prop := bestNewRow.holds Tryz.pinned (OpenSpec.ofChange bestNewWrong)

/-- 'chandlerlaw18.BestRises': WHATEVER THE INPUT: true; the input reads as it did. -/
def bestRisesSpec : ChangeSpec := { name := "bestRises", fn := fun _ => fun
  | [d1, d2, d3] => { results := [.lit (.bool true)], args := [d1, d2, d3] }
  | _ => none }
def bestRisesRow : OpenClaim := { program := "ytbooehmmhbioaaagreatdoor", sum := "d8781e753dc9da8745a228c386adaccd11eb28bc88a223365a35d841cf4cbd9f", func := "chandler/chandlerlaw18.BestRises", spec := "bestRises", inPlace := ["internal/bytealg.IndexByteString", "internal/bytealg.IndexString"], unfollowed := true, recurses := true, named := ["internal/bytealg.MaxLen", "unicode/utf8.first", "unicode/utf8.acceptRanges", "math/bits.deBruijn32tab"], apart := false, laid := [("math/bits.deBruijn32tab", laid_math_bits_deBruijn32tab), ("unicode/utf8.acceptRanges", laid_unicode_utf8_acceptRanges), ("unicode/utf8.first", laid_unicode_utf8_first)] }
def BestRisesSaid : Prop := bestRisesRow.holds Tryz.pinned (OpenSpec.ofChange bestRisesSpec)

/-- ITS FALSE NEIGHBOUR: 'it returns false'. Refute it at one input. -/
def bestRisesWrong : ChangeSpec := { name := "bestRises", fn := fun _ => fun
  | [d1, d2, d3] => { results := [.lit (.bool false)], args := [d1, d2, d3] }
  | _ => none }
def BestRisesWrongFalsely : Prop := bestRisesRow.holds Tryz.pinned (OpenSpec.ofChange bestRisesWrong)

/-- 'chandlerlaw18.BestBudget': WHATEVER THE INPUT: true; the input reads as it did. -/
def bestBudgetSpec : ChangeSpec := { name := "bestBudget", fn := fun _ => fun
  | [d1, d2, d3, d4, d5] => { results := [.lit (.bool true)], args := [d1, d2, d3, d4, d5] }
  | _ => none }
def bestBudgetRow : OpenClaim := { program := "ytbooehmmhbioaaagreatdoor", sum := "d8781e753dc9da8745a228c386adaccd11eb28bc88a223365a35d841cf4cbd9f", func := "chandler/chandlerlaw18.BestBudget", spec := "bestBudget", inPlace := ["internal/bytealg.IndexByteString", "internal/bytealg.IndexString"], unfollowed := true, recurses := true, named := ["internal/bytealg.MaxLen", "unicode/utf8.first", "unicode/utf8.acceptRanges", "math/bits.deBruijn32tab"], apart := false, laid := [("math/bits.deBruijn32tab", laid_math_bits_deBruijn32tab), ("unicode/utf8.acceptRanges", laid_unicode_utf8_acceptRanges), ("unicode/utf8.first", laid_unicode_utf8_first)] }
def BestBudgetSaid : Prop := bestBudgetRow.holds Tryz.pinned (OpenSpec.ofChange bestBudgetSpec)

/-- ITS FALSE NEIGHBOUR: 'it returns false'. Refute it at one input. -/
def bestBudgetWrong : ChangeSpec := { name := "bestBudget", fn := fun _ => fun
  | [d1, d2, d3, d4, d5] => { results := [.lit (.bool false)], args := [d1, d2, d3, d4, d5] }
  | _ => none }
def BestBudgetWrongFalsely : Prop := bestBudgetRow.holds Tryz.pinned (OpenSpec.ofChange bestBudgetWrong)

/-- 'chandlerlaw18.BestEncodes': WHATEVER THE INPUT: true; the input reads as it did. -/
def bestEncodesSpec : ChangeSpec := { name := "bestEncodes", fn := fun _ => fun
  | [d1, d2, d3] => { results := [.lit (.bool true)], args := [d1, d2, d3] }
  | _ => none }
def bestEncodesRow : OpenClaim := { program := "ytbooehmmhbioaaagreatdoor", sum := "d8781e753dc9da8745a228c386adaccd11eb28bc88a223365a35d841cf4cbd9f", func := "chandler/chandlerlaw18.BestEncodes", spec := "bestEncodes", inPlace := ["internal/bytealg.IndexByteString", "internal/bytealg.IndexString"], unfollowed := true, recurses := true, named := ["internal/bytealg.MaxLen", "unicode/utf8.first", "unicode/utf8.acceptRanges", "math/bits.deBruijn32tab"], apart := false, laid := [("math/bits.deBruijn32tab", laid_math_bits_deBruijn32tab), ("unicode/utf8.acceptRanges", laid_unicode_utf8_acceptRanges), ("unicode/utf8.first", laid_unicode_utf8_first)] }
def BestEncodesSaid : Prop := bestEncodesRow.holds Tryz.pinned (OpenSpec.ofChange bestEncodesSpec)

/-- ITS FALSE NEIGHBOUR: 'it returns false'. Refute it at one input. -/
def bestEncodesWrong : ChangeSpec := { name := "bestEncodes", fn := fun _ => fun
  | [d1, d2, d3] => { results := [.lit (.bool false)], args := [d1, d2, d3] }
  | _ => none }
def BestEncodesWrongFalsely : Prop := bestEncodesRow.holds Tryz.pinned (OpenSpec.ofChange bestEncodesWrong)

/-- 'chandlerlaw18.BestNil': WHATEVER THE INPUT: true; the input reads as it did. -/
def bestNilSpec : ChangeSpec := { name := "bestNil", fn := fun _ => fun
  | [d] => { results := [.lit (.bool true)], args := [d] }
  | _ => none }
def bestNilRow : OpenClaim := { program := "ytbooehmmhbioaaagreatdoor", sum := "d8781e753dc9da8745a228c386adaccd11eb28bc88a223365a35d841cf4cbd9f", func := "chandler/chandlerlaw18.BestNil", spec := "bestNil", inPlace := ["internal/bytealg.IndexByteString", "internal/bytealg.IndexString"], unfollowed := true, recurses := true, named := ["math/bits.deBruijn32tab", "internal/bytealg.MaxLen", "unicode/utf8.first", "unicode/utf8.acceptRanges"], apart := false, laid := [("math/bits.deBruijn32tab", laid_math_bits_deBruijn32tab), ("unicode/utf8.acceptRanges", laid_unicode_utf8_acceptRanges), ("unicode/utf8.first", laid_unicode_utf8_first)] }
def BestNilSaid : Prop := bestNilRow.holds Tryz.pinned (OpenSpec.ofChange bestNilSpec)

/-- ITS FALSE NEIGHBOUR: 'it returns false'. Refute it at one input. -/
def bestNilWrong : ChangeSpec := { name := "bestNil", fn := fun _ => fun
  | [d] => { results := [.lit (.bool false)], args := [d] }
  | _ => none }
def BestNilWrongFalsely : Prop := bestNilRow.holds Tryz.pinned (OpenSpec.ofChange bestNilWrong)

/- THE SECOND FORM. 'bulk': how many values and letters a reading holds, each counted each time it is reached (what is shared counts as often as it is met; a slice's spare places count too). A statement '..UptoSaid' is the law's where the arguments, and the package variables that the reading takes, are together of bulk at most 1048576: NARROWER than '..Said'. Prove '..Said' where nothing that the law and all that it calls make is longer than what came in: it says more and counts as full. Else prove '..UptoSaid'. A law counts once. -/
mutual
def uptoBulk {H : Type} : DataW H → Nat
  | .lit (.string bytes) => bytes.length + 1
  | .lit _ => 1
  | .nil => 1
  | .ptr d => uptoBulk d + 1
  | .slice elems spare => uptoBulkAll elems + uptoBulkAll spare + 1
  | .agg parts => uptoBulkAll parts + 1
  | .iface _ d => uptoBulk d + 1
  | .map entries => uptoBulkEntries entries + 1
  | .held _ => 1
def uptoBulkAll {H : Type} : List (DataW H) → Nat
  | [] => 0
  | d :: r => uptoBulk d + uptoBulkAll r
def uptoBulkEntries {H : Type} : List (Lit × DataW H) → Nat
  | [] => 0
  | x :: r => uptoBulkEntry x + uptoBulkEntries r
def uptoBulkEntry {H : Type} : Lit × DataW H → Nat
  | (.string bytes, d) => bytes.length + uptoBulk d + 1
  | (_, d) => uptoBulk d + 1
 end
def uptoSmall : (H : Type) → List (DataW H) → Bool := fun _ ds => decide (uptoBulkAll ds ≤ 1048576)
def OpenSpec.upto (s : _root_.Go.ChangeSpec) : _root_.Go.OpenSpec := { _root_.Go.OpenSpec.ofChange s with cond := some uptoSmall }

/-- 'chandlerlaw18.BestAll', WHERE WHAT IT READS IS OF BULK AT MOST 1048576: true; the input reads as it did. -/
def bestAllUptoRow : OpenClaim := { program := "ytbooehmmhbioaaagreatdoor", sum := "d8781e753dc9da8745a228c386adaccd11eb28bc88a223365a35d841cf4cbd9f", func := "chandler/chandlerlaw18.BestAll", spec := "bestAll", inPlace := ["internal/bytealg.IndexByteString", "internal/bytealg.IndexString"], unfollowed := true, recurses := true, named := ["internal/bytealg.MaxLen", "unicode/utf8.first", "unicode/utf8.acceptRanges", "math/bits.deBruijn32tab"], apart := false, laid := [("math/bits.deBruijn32tab", laid_math_bits_deBruijn32tab), ("unicode/utf8.acceptRanges", laid_unicode_utf8_acceptRanges), ("unicode/utf8.first", laid_unicode_utf8_first)], narrowed := true }
def BestAllUptoSaid : Prop := bestAllUptoRow.holds Tryz.pinned (OpenSpec.upto bestAllSpec)

/-- 'chandlerlaw18.BestNew', WHERE WHAT IT READS IS OF BULK AT MOST 1048576: true; the input reads as it did. -/
def bestNewUptoRow : OpenClaim := { program := "ytbooehmmhbioaaagreatdoor", sum := "d8781e753dc9da8745a228c386adaccd11eb28bc88a223365a35d841cf4cbd9f", func := "chandler/chandlerlaw18.BestNew", spec := "bestNew", inPlace := ["internal/bytealg.IndexByteString", "internal/bytealg.IndexString"], unfollowed := true, recurses := true, named := ["internal/bytealg.MaxLen", "unicode/utf8.first", "unicode/utf8.acceptRanges", "math/bits.deBruijn32tab"], apart := false, laid := [("math/bits.deBruijn32tab", laid_math_bits_deBruijn32tab), ("unicode/utf8.acceptRanges", laid_unicode_utf8_acceptRanges), ("unicode/utf8.first", laid_unicode_utf8_first)], narrowed := true }
def BestNewUptoSaid : Prop := bestNewUptoRow.holds Tryz.pinned (OpenSpec.upto bestNewSpec)

/-- 'chandlerlaw18.BestRises', WHERE WHAT IT READS IS OF BULK AT MOST 1048576: true; the input reads as it did. -/
def bestRisesUptoRow : OpenClaim := { program := "ytbooehmmhbioaaagreatdoor", sum := "d8781e753dc9da8745a228c386adaccd11eb28bc88a223365a35d841cf4cbd9f", func := "chandler/chandlerlaw18.BestRises", spec := "bestRises", inPlace := ["internal/bytealg.IndexByteString", "internal/bytealg.IndexString"], unfollowed := true, recurses := true, named := ["internal/bytealg.MaxLen", "unicode/utf8.first", "unicode/utf8.acceptRanges", "math/bits.deBruijn32tab"], apart := false, laid := [("math/bits.deBruijn32tab", laid_math_bits_deBruijn32tab), ("unicode/utf8.acceptRanges", laid_unicode_utf8_acceptRanges), ("unicode/utf8.first", laid_unicode_utf8_first)], narrowed := true }
def BestRisesUptoSaid : Prop := bestRisesUptoRow.holds Tryz.pinned (OpenSpec.upto bestRisesSpec)

/-- 'chandlerlaw18.BestBudget', WHERE WHAT IT READS IS OF BULK AT MOST 1048576: true; the input reads as it did. -/
def bestBudgetUptoRow : OpenClaim := { program := "ytbooehmmhbioaaagreatdoor", sum := "d8781e753dc9da8745a228c386adaccd11eb28bc88a223365a35d841cf4cbd9f", func := "chandler/chandlerlaw18.BestBudget", spec := "bestBudget", inPlace := ["internal/bytealg.IndexByteString", "internal/bytealg.IndexString"], unfollowed := true, recurses := true, named := ["internal/bytealg.MaxLen", "unicode/utf8.first", "unicode/utf8.acceptRanges", "math/bits.deBruijn32tab"], apart := false, laid := [("math/bits.deBruijn32tab", laid_math_bits_deBruijn32tab), ("unicode/utf8.acceptRanges", laid_unicode_utf8_acceptRanges), ("unicode/utf8.first", laid_unicode_utf8_first)], narrowed := true }
def BestBudgetUptoSaid : Prop := bestBudgetUptoRow.holds Tryz.pinned (OpenSpec.upto bestBudgetSpec)

/-- 'chandlerlaw18.BestEncodes', WHERE WHAT IT READS IS OF BULK AT MOST 1048576: true; the input reads as it did. -/
def bestEncodesUptoRow : OpenClaim := { program := "ytbooehmmhbioaaagreatdoor", sum := "d8781e753dc9da8745a228c386adaccd11eb28bc88a223365a35d841cf4cbd9f", func := "chandler/chandlerlaw18.BestEncodes", spec := "bestEncodes", inPlace := ["internal/bytealg.IndexByteString", "internal/bytealg.IndexString"], unfollowed := true, recurses := true, named := ["internal/bytealg.MaxLen", "unicode/utf8.first", "unicode/utf8.acceptRanges", "math/bits.deBruijn32tab"], apart := false, laid := [("math/bits.deBruijn32tab", laid_math_bits_deBruijn32tab), ("unicode/utf8.acceptRanges", laid_unicode_utf8_acceptRanges), ("unicode/utf8.first", laid_unicode_utf8_first)], narrowed := true }
def BestEncodesUptoSaid : Prop := bestEncodesUptoRow.holds Tryz.pinned (OpenSpec.upto bestEncodesSpec)

/-- 'chandlerlaw18.BestNil', WHERE WHAT IT READS IS OF BULK AT MOST 1048576: true; the input reads as it did. -/
def bestNilUptoRow : OpenClaim := { program := "ytbooehmmhbioaaagreatdoor", sum := "d8781e753dc9da8745a228c386adaccd11eb28bc88a223365a35d841cf4cbd9f", func := "chandler/chandlerlaw18.BestNil", spec := "bestNil", inPlace := ["internal/bytealg.IndexByteString", "internal/bytealg.IndexString"], unfollowed := true, recurses := true, named := ["math/bits.deBruijn32tab", "internal/bytealg.MaxLen", "unicode/utf8.first", "unicode/utf8.acceptRanges"], apart := false, laid := [("math/bits.deBruijn32tab", laid_math_bits_deBruijn32tab), ("unicode/utf8.acceptRanges", laid_unicode_utf8_acceptRanges), ("unicode/utf8.first", laid_unicode_utf8_first)], narrowed := true }
def BestNilUptoSaid : Prop := bestNilUptoRow.holds Tryz.pinned (OpenSpec.upto bestNilSpec)

end Rows
end Go.Proofs.YtbooehmmhbioaaaGreatDoor
