/- Texts that the last one of this claim rests on: a layer over the guide's own conditions for code; contracts of the functions that the law reaches, one by one. No conditions beside those of the given rows. -/
import Derived.WideKeyPair
import Derived.DeepKeys4
import Derived.Test.YtekjlnodoelblaaGreatDoorWal
set_option linter.unusedSimpArgs false
set_option linter.unusedVariables false
section
namespace Go.Av
def LstV (st : Store) (v : AV) (e : TypeId) (xs : List AV) : Prop:=Bld st v e xs ∨ v = .sl e xs
section
variable {st : Store} {v : AV} {e : TypeId} {xs : List AV}
theorem LstV.notM (h : LstV st v e xs) : NotM v:=by
 rcases h with h | rfl
 ·exact h.notM
 ·trivial
theorem LstV.ok (h : LstV st v e xs) (g : Option Bool) : okM g v = True:=okM_notM h.notM
theorem LstV.un (h : LstV st v e xs) : unm v = v:=unm_notM h.notM
theorem LstV.len (h : LstV st v e xs) : lenV v = .int .i64 xs.length:=by
 rcases h with h | rfl
 ·exact h.len
 ·rfl
theorem LstV.lenC (h : LstV st v e xs) (P : Program) (t : TypeId) : lenC P t v = ((elT P t).isSome = true):=by
 rcases h with h | rfl
 ·exact h.lenC P t
 ·rfl
theorem LstV.idxV (h : LstV st v e xs) (h0 : 0 < xs.length) (P : Program) (t : TypeId) (i : Int) : indexAddrV P t i v = .loc e (atV xs i):=by
 rcases h with h | rfl
 ·exact h.idxV h0 P t i
 ·rfl
theorem LstV.idxC (h : LstV st v e xs) (h0 : 0 < xs.length) (P : Program) (gd : Option Bool) (σ : Store) (t : TypeId) (i : Int) : indexAddrC P gd σ t i v = (elT P t = some e ∧ 0 < szOf P e ∧ imp gd (0 ≤ i ∧ i.toNat < xs.length)):=by
 rcases h with h | rfl
 ·exact h.idxC h0 P gd σ t i
 ·rfl
theorem LstV.weak (h : LstV st v e xs) : Weak v (.sl e xs):=by
 rcases h with h | rfl
 ·exact h.weak
 ·exact .refl _
theorem LstV.more (h : LstV st v e xs) (l : Store) : LstV (st ++ l) v e xs:=by
 rcases h with h | h
 ·exact .inl (h.keep fun j hj=>List.getElem?_append_left (h.lt j hj))
 ·exact .inr h
end
end Go.Av
namespace Go.Proofs.Tryz
open Go Go.Av
set_option maxRecDepth 10000
variable {W0 : World}

theorem ids_tup3 {x y z : AV} (h1 : IdsLt 0 x) (h2 : IdsLt 0 y) (h3 : IdsLt 0 z) : IdsLt 0 (.tup [x,y,z]):=.tup fun a ha=>by
 simp at ha
 rcases ha with rfl | rfl | rfl
 ·exact h1
 ·exact h2
 ·exact h3
end Go.Proofs.Tryz
end
