/- Texts that the last one of this claim rests on: a layer over the guide's own conditions for code; contracts of the functions that the law reaches, one by one. No conditions beside those of the given rows. -/
import Derived.WideKeyPair
import Derived.DeepKeys4
import Derived.Test.YtbkobngljnnmgaaGreatDoorWah
set_option linter.unusedSimpArgs false
set_option linter.unusedVariables false
section
namespace Go.Proofs.Tryz
open Go Go.Av
set_option maxRecDepth 10000
variable {W0 :World}
def du (cls:List (List Int))(a b:Nat):Prop:=∀ M,iq M cls=true->M (a+1)=true->M (b+1)=true->False
end Go.Proofs.Tryz
end
section
namespace Go.Av
def pS (st:ab)(v:AV)(e:TypeId)(xs:List AV):Prop:=Bld st v e xs\/v= .sl e xs
section
variable {st :ab}{v:AV}{e:TypeId}{xs:List AV}
theorem pS.notM (h:pS st v e xs):dd v:=by
 rcases h with h|rfl
 .exact h.notM
 .trivial
theorem pS.ok (h:pS st v e xs)(g:Option Bool):okM g v=True:=cq h.notM
theorem pS.un (h:pS st v e xs):unm v=v:=cY h.notM
theorem pS.len (h:pS st v e xs):oh v= .int .i64 xs.length:=by
 rcases h with h|rfl
 .exact h.len
 .rfl
theorem pS.fR (h:pS st v e xs)(P:Program)(t:TypeId):fR P t v=((elT P t).isSome=true):=by
 rcases h with h|rfl
 .exact h.fR P t
 .rfl
theorem pS.cb (h:pS st v e xs):dc v (.sl e xs):=by
 rcases h with h|rfl
 .exact h.cb
 .exact .refl _
theorem pS.more (h:pS st v e xs)(l:ab):pS (st++l) v e xs:=by
 rcases h with h|h
 .exact .inl (h.keep λj hj=>List.getElem?_append_left (h.lt j hj))
 .exact .inr h
end
end Go.Av
end
section
namespace Go.Proofs.Tryz
open Go Go.Av
set_option maxRecDepth 10000
variable {W0 :World}
end Go.Proofs.Tryz
end
