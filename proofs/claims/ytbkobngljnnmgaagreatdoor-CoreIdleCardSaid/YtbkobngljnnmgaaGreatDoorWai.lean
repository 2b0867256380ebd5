/- What the last text of this claim rests on. No conditions. -/
import Derived.WideKeyPair
import Derived.DeepKeys4
import Derived.Test.YtbkobngljnnmgaaGreatDoorWah
set_option linter.unusedSimpArgs false
set_option linter.unusedVariables false
section
namespace Go.Proofs.Tryz
open Go Go.Av
set_option maxRecDepth 10000
variable {W0 :World}
def dF (cls:List (List Int))(a b:Nat):Prop:=∀ M,iD M cls=true->M (a+1)=true->M (b+1)=true->False
end Go.Proofs.Tryz
end
section
namespace Go.Av
def qx (st:ab)(v:AV)(e:TypeId)(xs:List AV):Prop:=Bld st v e xs\/v= .sl e xs
section
variable {st :ab}{v:AV}{e:TypeId}{xs:List AV}
theorem qx.notM (h:qx st v e xs):dm v:=by
 rcases h with h|rfl
 .exact h.notM
 .trivial
theorem qx.ok (h:qx st v e xs)(g:Option Bool):okM g v=True:=ct h.notM
theorem qx.un (h:qx st v e xs):unm v=v:=da h.notM
theorem qx.len (h:qx st v e xs):oA v= .int .i64 xs.length:=by
 rcases h with h|rfl
 .exact h.len
 .rfl
theorem qx.fR (h:qx st v e xs)(P:Program)(t:TypeId):fR P t v=((elT P t).isSome=true):=by
 rcases h with h|rfl
 .exact h.fR P t
 .rfl
theorem qx.cb (h:qx st v e xs):dq v (.sl e xs):=by
 rcases h with h|rfl
 .exact h.cb
 .exact .refl _
theorem qx.more (h:qx st v e xs)(l:ab):qx (st++l) v e xs:=by
 rcases h with h|h
 .exact .inl (h.keep λj hj=>List.getElem?_append_left (h.lt j hj))
 .exact .inr h
end
end Go.Av
end
section
namespace Go.Proofs.Tryz
open Go Go.Av
set_option maxRecDepth 10000
variable {W0 :World}
end Go.Proofs.Tryz
end
