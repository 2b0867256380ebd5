/- Texts that the last one of this claim rests on: a layer over the guide's own conditions for code; contracts of the functions that the law reaches, one by one. No conditions beside those of the given rows. -/
import Derived.Test.YtbooehmmhbioaaaGreatDoorWae
import Derived.Test.YtbooehmmhbioaaaGreatDoorWaf
set_option linter.unusedSimpArgs false
set_option linter.unusedVariables false
section
namespace Go.Proofs.Tryz
open Go Go.Av
set_option maxRecDepth 10000
variable {W0 : World}

theorem wG {s : List UInt8} {f : UInt8 → Bool} {i : Nat} {c : UInt8} (h : (s.take i).all f = true) (hc : s[i]? = some c) (hf : f c = true) : (s.take (i + 1)).all f = true:=by
 rw [ak hc,List.all_append,h]; simp [hf]

end Go.Proofs.Tryz
end
