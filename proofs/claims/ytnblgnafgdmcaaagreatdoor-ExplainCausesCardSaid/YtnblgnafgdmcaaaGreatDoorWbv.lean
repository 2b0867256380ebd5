/- Texts that the last one of this claim rests on: a layer over the guide's own conditions for code; contracts of the functions that the law reaches, one by one. No conditions beside those of the given rows. -/
import Derived.Test.YtnblgnafgdmcaaaGreatDoorWbj
import Derived.Test.YtnblgnafgdmcaaaGreatDoorWbk
import Derived.Test.YtnblgnafgdmcaaaGreatDoorWbl
section
set_option linter.unusedSimpArgs false
set_option linter.unusedVariables false
namespace Go.Proofs.Tryz
open Go Go.Av
set_option linter.unusedSimpArgs false

end Go.Proofs.Tryz
end
section
set_option linter.unusedSimpArgs false
set_option linter.unusedVariables false
namespace Go.Av
/-- Two lists that a call has built. -/
structure Two (σ st : Store) (v : AV) (e : TypeId) (xs : List AV) (w : AV) (d : TypeId) (ys : List AV) : Prop where
  a : Built σ st v e xs
  b : Built σ st w d ys
  ne : ∀ t, tokOf v = some t → tokOf w ≠ some t
theorem Built.lt {σ st : Store} {v : AV} {e : TypeId} {xs : List AV} (h : Built σ st v e xs) {t : Nat} (ht : tokOf v = some t) : t < st.length := h.bld.lt t ((foot_tok h.bld).2 ht)
theorem Built.beside {σ st st' : Store} {v v' w : AV} {e d : TypeId} {zs ys : List AV} (h : Built σ st w d ys) (ha : App st v e zs v' st') (hx : Ext σ st') (hn : ∀ t, tokOf w = some t → tokOf v ≠ some t) : Built σ st' w d ys :=
  ⟨h.bld.keep fun j hj => ha.old j (h.bld.lt j hj) (hn j ((foot_tok h.bld).1 hj)), hx, h.tok⟩
theorem Two.more {σ st : Store} {v w : AV} {e d : TypeId} {xs ys : List AV} (h : Two σ st v e xs w d ys) (l : Store) : Two σ (st ++ l) v e xs w d ys := ⟨h.a.more l, h.b.more l, h.ne⟩
theorem Two.nil {σ st : Store} (h : Ext σ st) (e d : TypeId) : Two σ st .nils e [] .nils d [] := ⟨.nil h e, .nil h d, fun t h => by cases h⟩
end Go.Av
namespace Go.Proofs.Tryz
open Go Go.Av
set_option maxRecDepth 10000
set_option linter.unusedSimpArgs false
set_option linter.unusedVariables false
variable {W0 : World}

end Go.Proofs.Tryz
end
section
set_option linter.unusedSimpArgs false
set_option linter.unusedVariables false
namespace Go.Proofs.Tryz
open Go Go.Av
set_option linter.unusedSimpArgs false
set_option linter.unusedVariables false

end Go.Proofs.Tryz
end
