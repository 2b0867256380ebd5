/- What the last text of this claim rests on. No conditions. -/
import Derived.Deep.DeepHandedRow
import Derived.SevenTiedAt
import Derived.JoinedCond
import Derived.Test.YtbkobngljnnmgaaGreatDoorCards
import Derived.Test.YtbkobngljnnmgaaGreatDoorTie
import Derived.Test.YtbkobngljnnmgaaGreatDoorWaj
set_option linter.unusedSimpArgs false
set_option linter.unusedVariables false
section
namespace Go.Proofs.YtbkobngljnnmgaaGreatDoor
open Go Go.Av Go.ChangeShapes Go.WideShapes Go.ChangeAt Go.RowKit
set_option maxRecDepth 100000
theorem acv :ownKnob Tryz.prog.godebug=none:=by kernel_rfl
theorem Po :laidOutB Tryz.prog=true:=by kernel_rfl
noncomputable def BL (l:List Nat):Obj->Obj
 | .cells _ t frozen=>.cells (l.map λn=>Value.int .u8 (n:Nat)).toArray t frozen
 |o=>o
noncomputable def An (os:Os):World:=
 { World.holding Tryz.prog os ⟨#[],#[],[]⟩with heap:=((World.holding Tryz.prog os ⟨#[],#[],[]⟩).heap.modify 2 (BL Pinned.utf8FirstZ)).modify 3 (BL [128,191,160,191,128,159,144,191,128,143,0,0,0,0,0,0,0,0,0,0,0,0,0,0,0,0,0,0,0,0,0,0]) }
end Go.Proofs.YtbkobngljnnmgaaGreatDoor
end
