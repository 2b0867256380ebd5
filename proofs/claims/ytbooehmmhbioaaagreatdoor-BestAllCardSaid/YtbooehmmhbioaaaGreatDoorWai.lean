/- Texts that the last one of this claim rests on: a layer over the guide's own conditions for code; contracts of the functions that the law reaches, one by one. No conditions beside those of the given rows. -/
import Derived.WideKeyPair
import Derived.DeepKeys4
import Derived.Test.YtbooehmmhbioaaaGreatDoorWah
set_option linter.unusedSimpArgs false
set_option linter.unusedVariables false
section
namespace Go.Proofs.Tryz
open Go Go.Av
set_option maxRecDepth 10000
variable {W0 :World}
def dt (cls:List (List Int))(a b:Nat):Prop:=∀ M,gv M cls=true→M (a+1)=true→M (b+1)=true→False
end Go.Proofs.Tryz
end
section
namespace Go.Av
def ou (st:ab)(v:AV)(e:TypeId)(xs:List AV):Prop:=Bld st v e xs∨v= .sl e xs
section
variable {st :ab}{v:AV}{e:TypeId}{xs:List AV}
theorem ou.notM (h:ou st v e xs):cY v:=by
 rcases h with h|rfl
 ·exact h.notM
 ·trivial
theorem ou.ok (h:ou st v e xs)(g:Option Bool):okM g v=True:=bY h.notM
theorem ou.un (h:ou st v e xs):unm v=v:=cH h.notM
theorem ou.len (h:ou st v e xs):mZ v= .int .i64 xs.length:=by
 rcases h with h|rfl
 ·exact h.len
 ·rfl
theorem ou.fP (h:ou st v e xs)(P:Program)(t:TypeId):fP P t v=((elT P t).isSome=true):=by
 rcases h with h|rfl
 ·exact h.fP P t
 ·rfl
theorem ou.cy (h:ou st v e xs):cT v (.sl e xs):=by
 rcases h with h|rfl
 ·exact h.cy
 ·exact .refl _
theorem ou.more (h:ou st v e xs)(l:ab):ou (st++l) v e xs:=by
 rcases h with h|h
 ·exact .inl (h.ei λj hj=>List.getElem?_append_left (h.lt j hj))
 ·exact .inr h
end
end Go.Av
namespace Go.Proofs.Tryz
open Go Go.Av
set_option maxRecDepth 10000
variable {W0 :World}
end Go.Proofs.Tryz
end
