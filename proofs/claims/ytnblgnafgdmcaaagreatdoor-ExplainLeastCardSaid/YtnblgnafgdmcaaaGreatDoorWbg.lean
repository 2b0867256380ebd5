/- Texts that the last one of this claim rests on: a layer over the guide's own conditions for code; contracts of the functions that the law reaches, one by one. No conditions beside those of the given rows. -/
import Derived.Test.YtnblgnafgdmcaaaGreatDoorWbe
import Derived.Test.YtnblgnafgdmcaaaGreatDoorWbf
section
set_option linter.unusedSimpArgs false
set_option linter.unusedVariables false
namespace Go.Proofs.Tryz
open Go Go.Av
set_option maxRecDepth 10000
set_option linter.unusedSimpArgs false
set_option linter.unusedVariables false
variable {W0 : World}

end Go.Proofs.Tryz
end
section
set_option linter.unusedSimpArgs false
set_option linter.unusedVariables false
namespace Go.Proofs.Tryz
open Go Go.Av
set_option maxRecDepth 10000
set_option linter.unusedSimpArgs false
set_option linter.unusedVariables false
variable {W0 : World}

/-- Can those places hold together? -/
noncomputable def canE (all : List Pkg) (asm : List Int) : Bool := satB all.length (allL all 0 all) asm
theorem satB_congr {n : Nat} {cls cls' : List (List Int)} {asm : List Int} (h : ∀ M, setT M cls = setT M cls') : satB n cls asm = satB n cls' asm := by
  have : satA n cls asm ↔ satA n cls' asm := by unfold satA; simp only [h]
  by_cases hs : satA n cls asm
  · rw [satB_true hs, satB_true (this.1 hs)]
  · rw [satB_false hs, satB_false (fun h => hs (this.2 h))]
/-- Places that there aren't; packages that may not be. -/
def errE (all : List Pkg) (places : List Int) : Int := if mayAll all ≠ 0 then mayAll all else if (places.any fun i => decide (i < 0) || decide ((all.length : Int) ≤ i)) = true then 1 else 0

def pairAV (b : Bool) (e : Int) : AV := .tup [.bool b, .int .i64 e]
theorem pairAV_ids (b : Bool) (e : Int) : IdsLt 0 (pairAV b e) := by
  refine .tup fun x hx => ?_
  simp at hx
  rcases hx with rfl | rfl
  · exact .bool _
  · exact .int _ _

end Go.Proofs.Tryz
end
