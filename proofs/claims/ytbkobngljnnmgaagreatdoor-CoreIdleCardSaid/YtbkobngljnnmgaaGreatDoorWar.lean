/- What the last text of this claim rests on. No conditions. -/
import Derived.Test.YtbkobngljnnmgaaGreatDoorWah
set_option linter.unusedSimpArgs false
set_option linter.unusedVariables false
section
namespace Go.Proofs.Tryz
open Go Go.Av
def there (all:List Pkg)(c:Nat×Nat×Nat)(t:List Nat):List Nat:=(Hi all c).filter λm=>decide (m∈t)
end Go.Proofs.Tryz
end
