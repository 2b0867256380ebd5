/- What the last text of this claim rests on. No conditions. -/
import Derived.WideKeyPair
import Derived.DeepKeys4
import Derived.Test.YtbkobngljnnmgaaGreatDoorWah
set_option linter.unusedSimpArgs false
set_option linter.unusedVariables false
section
namespace Go.Proofs.Tryz
open Go Go.Av
set_option maxRecDepth 10000
variable {W0 :World}
def dB (cls:List (List Int))(a b:Nat):Prop:=∀ M,ie M cls=true->M (a+1)=true->M (b+1)=true->False
end Go.Proofs.Tryz
end
section
namespace Go.Av
def qw (st:ab)(v:AV)(e:TypeId)(xs:List AV):Prop:=Bld st v e xs\/v= .sl e xs
section
variable {st :ab}{v:AV}{e:TypeId}{xs:List AV}
theorem qw.notM (h:qw st v e xs):df v:=by
 rcases h with h|rfl
 .exact h.notM
 .trivial
theorem qw.ok (h:qw st v e xs)(g:Option Bool):okM g v=True:=cr h.notM
theorem qw.un (h:qw st v e xs):unm v=v:=cX h.notM
theorem qw.len (h:qw st v e xs):oU v= .int .i64 xs.length:=by
 rcases h with h|rfl
 .exact h.len
 .rfl
theorem qw.gn (h:qw st v e xs)(P:Program)(t:TypeId):gn P t v=((elT P t).isSome=true):=by
 rcases h with h|rfl
 .exact h.gn P t
 .rfl
theorem qw.bS (h:qw st v e xs):dj v (.sl e xs):=by
 rcases h with h|rfl
 .exact h.bS
 .exact .refl _
theorem qw.more (h:qw st v e xs)(l:ab):qw (st++l) v e xs:=by
 rcases h with h|h
 .exact .inl (h.keep λj hj=>List.getElem?_append_left (h.lt j hj))
 .exact .inr h
end
end Go.Av
end
section
namespace Go.Proofs.Tryz
open Go Go.Av
set_option maxRecDepth 10000
variable {W0 :World}
end Go.Proofs.Tryz
end
