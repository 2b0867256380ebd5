/- Texts that the last one of this claim rests on: a layer over the guide's own conditions for code; contracts of the functions that the law reaches, one by one. No conditions beside those of the given rows. -/
import Derived.WideKeyPair
import Derived.DeepKeys4
import Derived.Test.YtbooehmmhbioaaaGreatDoorWah
set_option linter.unusedSimpArgs false
set_option linter.unusedVariables false
section
namespace Go.Proofs.Tryz
open Go Go.Av
set_option maxRecDepth 10000
variable {W0 :World}
def da (cls:List (List Int))(a b:Nat):Prop:=∀ M,fN M cls=true→M (a+1)=true→M (b+1)=true→False
end Go.Proofs.Tryz
end
section
namespace Go.Av
def nE (st:ab)(v:AV)(e:TypeId)(xs:List AV):Prop:=Bld st v e xs∨v= .sl e xs
section
variable {st :ab}{v:AV}{e:TypeId}{xs:List AV}
theorem nE.notM (h:nE st v e xs):cQ v:=by
 rcases h with h|rfl
 ·exact h.notM
 ·trivial
theorem nE.ok (h:nE st v e xs)(g:Option Bool):okM g v=True:=bT h.notM
theorem nE.un (h:nE st v e xs):unm v=v:=cw h.notM
theorem nE.len (h:nE st v e xs):lV v= .int .i64 xs.length:=by
 rcases h with h|rfl
 ·exact h.len
 ·rfl
theorem nE.fQ (h:nE st v e xs)(P:Program)(t:TypeId):fQ P t v=((elT P t).isSome=true):=by
 rcases h with h|rfl
 ·exact h.fQ P t
 ·rfl
theorem nE.cG (h:nE st v e xs):cT v (.sl e xs):=by
 rcases h with h|rfl
 ·exact h.cG
 ·exact .refl _
theorem nE.more (h:nE st v e xs)(l:ab):nE (st++l) v e xs:=by
 rcases h with h|h
 ·exact .inl (h.ey λj hj=>List.getElem?_append_left (h.lt j hj))
 ·exact .inr h
end
end Go.Av
namespace Go.Proofs.Tryz
open Go Go.Av
set_option maxRecDepth 10000
variable {W0 :World}
end Go.Proofs.Tryz
end
