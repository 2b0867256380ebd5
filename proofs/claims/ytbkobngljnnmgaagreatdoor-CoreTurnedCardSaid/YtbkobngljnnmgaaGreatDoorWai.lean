/- What the last text of this claim rests on. No conditions. -/
import Derived.WideKeyPair
import Derived.DeepKeys4
import Derived.Test.YtbkobngljnnmgaaGreatDoorWah
set_option linter.unusedSimpArgs false
set_option linter.unusedVariables false
section
namespace Go.Proofs.Tryz
open Go Go.Av
set_option maxRecDepth 10000
variable {W0 :World}
def dz (cls:List (List Int))(a b:Nat):Prop:=∀ M,ig M cls=true->M (a+1)=true->M (b+1)=true->False
end Go.Proofs.Tryz
end
section
namespace Go.Av
def qp (st:ab)(v:AV)(e:TypeId)(xs:List AV):Prop:=Bld st v e xs\/v= .sl e xs
section
variable {st :ab}{v:AV}{e:TypeId}{xs:List AV}
theorem qp.notM (h:qp st v e xs):dc v:=by
 rcases h with h|rfl
 .exact h.notM
 .trivial
theorem qp.ok (h:qp st v e xs)(g:Option Bool):okM g v=True:=cp h.notM
theorem qp.un (h:qp st v e xs):unm v=v:=c8 h.notM
theorem qp.len (h:qp st v e xs):oK v= .int .i64 xs.length:=by
 rcases h with h|rfl
 .exact h.len
 .rfl
theorem qp.fY (h:qp st v e xs)(P:Program)(t:TypeId):fY P t v=((elT P t).isSome=true):=by
 rcases h with h|rfl
 .exact h.fY P t
 .rfl
theorem qp.bT (h:qp st v e xs):df v (.sl e xs):=by
 rcases h with h|rfl
 .exact h.bT
 .exact .refl _
theorem qp.more (h:qp st v e xs)(l:ab):qp (st++l) v e xs:=by
 rcases h with h|h
 .exact .inl (h.keep λj hj=>List.getElem?_append_left (h.lt j hj))
 .exact .inr h
end
end Go.Av
end
section
namespace Go.Proofs.Tryz
open Go Go.Av
set_option maxRecDepth 10000
variable {W0 :World}
end Go.Proofs.Tryz
end
