/- Texts that the last one of this claim rests on: a layer over the guide's own conditions for code; contracts of the functions that the law reaches, one by one. No conditions beside those of the given rows. -/
import Derived.WideKeyPair
import Derived.DeepKeys4
import Derived.Test.YtbooehmmhbioaaaGreatDoorWai
set_option linter.unusedSimpArgs false
set_option linter.unusedVariables false
section
namespace Go.Proofs.Tryz
open Go Go.Av
set_option maxRecDepth 10000
variable {W0 :World}
def de (cls:List (List Int))(a b:Nat):Prop:=∀ M,fX M cls=true→M (a+1)=true→M (b+1)=true→False
end Go.Proofs.Tryz
end
section
namespace Go.Av
def mW (st:ab)(v:AV)(e:TypeId)(xs:List AV):Prop:=Bld st v e xs∨v= .sl e xs
section
variable {st :ab}{v:AV}{e:TypeId}{xs:List AV}
theorem mW.notM (h:mW st v e xs):cL v:=by
 rcases h with h|rfl
 ·exact h.notM
 ·trivial
theorem mW.ok (h:mW st v e xs)(g:Option Bool):okM g v=True:=bT h.notM
theorem mW.un (h:mW st v e xs):unm v=v:=cA h.notM
theorem mW.len (h:mW st v e xs):oI v= .int .i64 xs.length:=by
 rcases h with h|rfl
 ·exact h.len
 ·rfl
theorem mW.gA (h:mW st v e xs)(P:Program)(t:TypeId):gA P t v=((elT P t).isSome=true):=by
 rcases h with h|rfl
 ·exact h.gA P t
 ·rfl
theorem mW.cU (h:mW st v e xs):cR v (.sl e xs):=by
 rcases h with h|rfl
 ·exact h.cU
 ·exact .refl _
theorem mW.more (h:mW st v e xs)(l:ab):mW (st++l) v e xs:=by
 rcases h with h|h
 ·exact .inl (h.eC λj hj=>List.getElem?_append_left (h.lt j hj))
 ·exact .inr h
end
end Go.Av
namespace Go.Proofs.Tryz
open Go Go.Av
set_option maxRecDepth 10000
variable {W0 :World}
end Go.Proofs.Tryz
end
