/- Texts that the last one of this claim rests on: a layer over the guide's own conditions for code; contracts of the functions that the law reaches, one by one. No conditions beside those of the given rows. -/
import Derived.Test.YtbkobngljnnmgaaGreatDoorWah
set_option linter.unusedSimpArgs false
set_option linter.unusedVariables false
section
namespace Go.Proofs.Tryz
open Go Go.Av
def there (all:List Pkg)(c:Nat×Nat×Nat)(t:List Nat):List Nat:=(EE all c).filter λm=>decide (m∈t)
end Go.Proofs.Tryz
end
