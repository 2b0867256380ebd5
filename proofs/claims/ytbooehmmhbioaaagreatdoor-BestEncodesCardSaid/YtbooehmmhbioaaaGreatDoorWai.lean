/- Texts that the last one of this claim rests on: a layer over the guide's own conditions for code; contracts of the functions that the law reaches, one by one. No conditions beside those of the given rows. -/
import Derived.WideKeyPair
import Derived.DeepKeys4
import Derived.Test.YtbooehmmhbioaaaGreatDoorWah
set_option linter.unusedSimpArgs false
set_option linter.unusedVariables false
section
namespace Go.Proofs.Tryz
open Go Go.Av
set_option maxRecDepth 10000
variable {W0 :World}
def da (cls:List (List Int))(a b:Nat):Prop:=∀ M,dh M cls=true→M (a+1)=true→M (b+1)=true→False
end Go.Proofs.Tryz
end
section
namespace Go.Av
def oe (st:ab)(v:AV)(e:TypeId)(xs:List AV):Prop:=Bld st v e xs∨v= .sl e xs
section
variable {st :ab}{v:AV}{e:TypeId}{xs:List AV}
theorem oe.notM (h:oe st v e xs):cJ v:=by
 rcases h with h|rfl
 ·exact h.notM
 ·trivial
theorem oe.ok (h:oe st v e xs)(g:Option Bool):okM g v=True:=bR h.notM
theorem oe.un (h:oe st v e xs):unm v=v:=cp h.notM
theorem oe.len (h:oe st v e xs):lX v= .int .i64 xs.length:=by
 rcases h with h|rfl
 ·exact h.len
 ·rfl
theorem oe.fO (h:oe st v e xs)(P:Program)(t:TypeId):fO P t v=((elT P t).isSome=true):=by
 rcases h with h|rfl
 ·exact h.fO P t
 ·rfl
theorem oe.bZ (h:oe st v e xs):cR v (.sl e xs):=by
 rcases h with h|rfl
 ·exact h.bZ
 ·exact .refl _
theorem oe.more (h:oe st v e xs)(l:ab):oe (st++l) v e xs:=by
 rcases h with h|h
 ·exact .inl (h.eC λj hj=>List.getElem?_append_left (h.lt j hj))
 ·exact .inr h
end
end Go.Av
namespace Go.Proofs.Tryz
open Go Go.Av
set_option maxRecDepth 10000
variable {W0 :World}
end Go.Proofs.Tryz
end
