/- Texts that the last one of this claim rests on: a layer over the guide's own conditions for code; contracts of the functions that the law reaches, one by one. No conditions beside those of the given rows. -/
import Derived.Deep.DeepHandedRow
import Derived.SevenTiedAt
import Derived.JoinedCond
import Derived.Test.YtekjlnodoelblaaGreatDoorCards
import Derived.Test.YtekjlnodoelblaaGreatDoorTie
import Derived.Test.YtekjlnodoelblaaGreatDoorWal
set_option linter.unusedSimpArgs false
set_option linter.unusedVariables false
section
namespace Go.Proofs.YtekjlnodoelblaaGreatDoor
open Go Go.Av Go.ChangeShapes Go.WideShapes Go.ChangeAt Go.RowKit
set_option maxRecDepth 100000

theorem ownK : ownKnob Tryz.prog.godebug = none:=by kernel_rfl
theorem laidOutP : laidOutB Tryz.prog = true:=by kernel_rfl

noncomputable def fillRow (l : List Nat) : Obj → Obj
 | .cells _ t frozen=>.cells (l.map fun n=>Value.int .u8 (n : Nat)).toArray t frozen
 | o=>o
noncomputable def laidWorld (os : Os) : World :=
 { World.holding Tryz.prog os ⟨#[],#[],[]⟩ with heap:=((World.holding Tryz.prog os ⟨#[],#[],[]⟩).heap.modify 1 (fillRow Pinned.utf8FirstZ)).modify 2 (fillRow [128,191,160,191,128,159,144,191,128,143,0,0,0,0,0,0,0,0,0,0,0,0,0,0,0,0,0,0,0,0,0,0]) }
end Go.Proofs.YtekjlnodoelblaaGreatDoor
end
