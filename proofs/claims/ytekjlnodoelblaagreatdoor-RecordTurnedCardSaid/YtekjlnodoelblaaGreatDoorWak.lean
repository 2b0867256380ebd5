/- Texts that the last one of this claim rests on: a layer over the guide's own conditions for code; contracts of the functions that the law reaches, one by one. No conditions beside those of the given rows. -/
import Derived.WideKeyPair
import Derived.DeepKeys4
import Derived.Test.YtekjlnodoelblaaGreatDoorWaj
set_option linter.unusedSimpArgs false
set_option linter.unusedVariables false
section
namespace Go.Av
def LstV (st : Store) (v : AV) (e : TypeId) (xs : List AV) : Prop:=Bld st v e xs ∨ v = .sl e xs
section
variable {st : Store} {v : AV} {e : TypeId} {xs : List AV}
theorem LstV.notM (h : LstV st v e xs) : NotM v:=by
 rcases h with h | rfl
 ·exact h.notM
 ·trivial
theorem LstV.ok (h : LstV st v e xs) (g : Option Bool) : okM g v = True:=okM_notM h.notM
theorem LstV.un (h : LstV st v e xs) : unm v = v:=unm_notM h.notM
theorem LstV.len (h : LstV st v e xs) : lenV v = .int .i64 xs.length:=by
 rcases h with h | rfl
 ·exact h.len
 ·rfl
theorem LstV.lenC (h : LstV st v e xs) (P : Program) (t : TypeId) : lenC P t v = ((elT P t).isSome = true):=by
 rcases h with h | rfl
 ·exact h.lenC P t
 ·rfl
theorem LstV.weak (h : LstV st v e xs) : Weak v (.sl e xs):=by
 rcases h with h | rfl
 ·exact h.weak
 ·exact .refl _
theorem LstV.more (h : LstV st v e xs) (l : Store) : LstV (st ++ l) v e xs:=by
 rcases h with h | h
 ·exact .inl (h.keep fun j hj=>List.getElem?_append_left (h.lt j hj))
 ·exact .inr h
end
end Go.Av
namespace Go.Proofs.Tryz
open Go Go.Av
set_option maxRecDepth 10000
variable {W0 : World}

end Go.Proofs.Tryz
end
