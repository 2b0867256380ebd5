/- Texts that the last one of this claim rests on: a layer over the guide's own conditions for code; contracts of the functions that the law reaches, one by one. No conditions beside those of the given rows. -/
import Derived.Test.YtnblgnafgdmcaaaGreatDoorWav
import Derived.Test.YtnblgnafgdmcaaaGreatDoorWaw
section
set_option linter.unusedSimpArgs false
set_option linter.unusedVariables false
namespace Go.Proofs.Tryz
open Go Go.Av
set_option maxRecDepth 10000
set_option linter.unusedSimpArgs false
set_option linter.unusedVariables false
variable {W0 : World}

@[go_sem] theorem okM_atomAV (g : Option Bool) (p : Atom) : okM g (atomAV p) = True := eq_true trivial
@[go_sem] theorem unm_atomAV (p : Atom) : unm (atomAV p) = atomAV p := rfl
@[go_sem] theorem fits_atomAV (p : Atom) : fitsB prog 50 (atomAV p) = true := by kernel_rfl
@[go_sem] theorem fits_pkgAV (p : Pkg) : fitsB prog 56 (pkgAV p) = true := by kernel_rfl
@[go_sem] theorem fits_provAV (p : Prov) : fitsB prog 112 (provAV p) = true := by kernel_rfl
@[go_sem] theorem okM_provAV (g : Option Bool) (p : Prov) : okM g (provAV p) = True := eq_true trivial
@[go_sem] theorem unm_provAV (p : Prov) : unm (provAV p) = provAV p := rfl
theorem NotM.prov (p : Prov) : NotM (provAV p) := trivial

theorem ix_sat1 (a : Atom) (v : Prov) : PureFn prog W0 81 [provAV v, .loc 50 (atomAV a)] (.bool (v.name == a.name && (a.rel == 0 || holdsV a.rel v.ver a.ver))) := by
  refine fn_pure [3] [2] func81 rfl rfl ntmps81 rfl rfl (.bool _) fun hs σ => ?_
  simp only [go_sem, simprocAttr, ↓reduceIte, provAV, atomAV]
  refine CallP.fnG (fun _ => ve_holds a.rel v.ver a.ver) ?_
  simp only [go_sem, simprocAttr, ↓reduceIte]

theorem ix_sat (p : Pkg) (a : Atom) : PureFn prog W0 51 [pkgAV p, atomAV a] (.bool (satP p a)) := by
  refine fn_pure [4] [2, 3] func51 rfl rfl ntmps51 rfl rfl (.bool _) fun hs σ => ?_
  simp only [go_sem, simprocAttr, ↓reduceIte, pkgAV, atomAV]
  refine CallA.fn (rl_mayAtom a) ?_
  simp only [go_sem, simprocAttr, ↓reduceIte, pkgAV, atomAV]
  refine ⟨fun h => weak_bool (by rw [satP, h]; rfl), fun h => CallP.fnG (fun _ => ve_holds a.rel p.ver a.ver) ?_⟩
  simp only [go_sem, simprocAttr, ↓reduceIte, pkgAV, atomAV]
  refine ⟨fun h2 => weak_bool (by rw [satP, h, h2]; rfl), fun h2 => CallA.fn (anProv provAV NotM.prov p.prov _ _ [.loc 50 (atomAV a)] (fun q _ => ix_sat1 a q)) ?_⟩
  simp only [go_sem, simprocAttr, ↓reduceIte]
  exact weak_bool (by rw [satP, h, h2]; simp)

end Go.Proofs.Tryz
end
