/- Texts that the last one of this claim rests on: a layer over the guide's own conditions for code; contracts of the functions that the law reaches, one by one. No conditions beside those of the given rows. -/
import Derived.WideKeyPair
import Derived.DeepKeys4
import Derived.Test.YtbooehmmhbioaaaGreatDoorWai
set_option linter.unusedSimpArgs false
set_option linter.unusedVariables false
section
namespace Go.Proofs.Tryz
open Go Go.Av
set_option maxRecDepth 10000
variable {W0 : World}

def cW (cls : List (List Int)) (a b : Nat) : Prop:=∀ M,fC M cls = true → M (a + 1) = true → M (b + 1) = true → False
end Go.Proofs.Tryz
end
section
namespace Go.Av
def mH (st : ab) (v : AV) (e : TypeId) (xs : List AV) : Prop:=Bld st v e xs ∨ v = .sl e xs
section
variable {st : ab} {v : AV} {e : TypeId} {xs : List AV}
theorem mH.notM (h : mH st v e xs) : cD v:=by
 rcases h with h | rfl
 ·exact h.notM
 ·trivial
theorem mH.ok (h : mH st v e xs) (g : Option Bool) : okM g v = True:=bP h.notM
theorem mH.un (h : mH st v e xs) : unm v = v:=cp h.notM
theorem mH.len (h : mH st v e xs) : oL v = .int .i64 xs.length:=by
 rcases h with h | rfl
 ·exact h.len
 ·rfl
theorem mH.gT (h : mH st v e xs) (P : Program) (t : TypeId) : gT P t v = ((elT P t).isSome = true):=by
 rcases h with h | rfl
 ·exact h.gT P t
 ·rfl
theorem mH.cK (h : mH st v e xs) : cI v (.sl e xs):=by
 rcases h with h | rfl
 ·exact h.cK
 ·exact .refl _
theorem mH.more (h : mH st v e xs) (l : ab) : mH (st ++ l) v e xs:=by
 rcases h with h | h
 ·exact .inl (h.ez fun j hj=>List.getElem?_append_left (h.lt j hj))
 ·exact .inr h
end
end Go.Av
namespace Go.Proofs.Tryz
open Go Go.Av
set_option maxRecDepth 10000
variable {W0 : World}

end Go.Proofs.Tryz
end
