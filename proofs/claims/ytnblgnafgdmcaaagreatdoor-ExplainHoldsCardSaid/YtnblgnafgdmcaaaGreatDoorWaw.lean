/- Texts that the last one of this claim rests on: a layer over the guide's own conditions for code; contracts of the functions that the law reaches, one by one. No conditions beside those of the given rows. -/
import Derived.Test.YtnblgnafgdmcaaaGreatDoorWau
import Derived.Test.YtnblgnafgdmcaaaGreatDoorWav
section
set_option linter.unusedSimpArgs false
set_option linter.unusedVariables false
namespace Go.Proofs.Tryz
open Go Go.Av
set_option maxRecDepth 10000
set_option linter.unusedSimpArgs false
set_option linter.unusedVariables false
variable {W0 : World}

@[go_sem] theorem okM_atomAV (g : Option Bool) (p : Atom) : okM g (atomAV p) = True := eq_true trivial
@[go_sem] theorem unm_atomAV (p : Atom) : unm (atomAV p) = atomAV p := rfl
@[go_sem] theorem fits_atomAV (p : Atom) : fitsB prog 50 (atomAV p) = true := by kernel_rfl
@[go_sem] theorem fits_pkgAV (p : Pkg) : fitsB prog 56 (pkgAV p) = true := by kernel_rfl
@[go_sem] theorem fits_provAV (p : Prov) : fitsB prog 112 (provAV p) = true := by kernel_rfl
@[go_sem] theorem okM_provAV (g : Option Bool) (p : Prov) : okM g (provAV p) = True := eq_true trivial
@[go_sem] theorem unm_provAV (p : Prov) : unm (provAV p) = provAV p := rfl
theorem NotM.prov (p : Prov) : NotM (provAV p) := trivial

theorem ix_sat1 (a : Atom) (v : Prov) : PureFn prog W0 81 [provAV v, .loc 50 (atomAV a)] (.bool (v.name == a.name && (a.rel == 0 || holdsV a.rel v.ver a.ver))) := by
  refine fn_pure [3] [2] func81 rfl rfl ntmps81 rfl rfl (.bool _) fun hs σ => ?_
  simp only [go_sem, simprocAttr, ↓reduceIte, provAV, atomAV]
  refine CallP.fnG (fun _ => ve_holds a.rel v.ver a.ver) ?_
  simp only [go_sem, simprocAttr, ↓reduceIte]

theorem ix_sat (p : Pkg) (a : Atom) : PureFn prog W0 51 [pkgAV p, atomAV a] (.bool (satP p a)) := by
  refine fn_pure [4] [2, 3] func51 rfl rfl ntmps51 rfl rfl (.bool _) fun hs σ => ?_
  simp only [go_sem, simprocAttr, ↓reduceIte, pkgAV, atomAV]
  refine CallA.fn (rl_mayAtom a) ?_
  simp only [go_sem, simprocAttr, ↓reduceIte, pkgAV, atomAV]
  refine ⟨fun h => weak_bool (by rw [satP, h]; rfl), fun h => CallP.fnG (fun _ => ve_holds a.rel p.ver a.ver) ?_⟩
  simp only [go_sem, simprocAttr, ↓reduceIte, pkgAV, atomAV]
  refine ⟨fun h2 => weak_bool (by rw [satP, h, h2]; rfl), fun h2 => CallA.fn (anProv provAV NotM.prov p.prov _ _ [.loc 50 (atomAV a)] (fun q _ => ix_sat1 a q)) ?_⟩
  simp only [go_sem, simprocAttr, ↓reduceIte]
  exact weak_bool (by rw [satP, h, h2]; simp)

theorem r10_sat (p : Pkg) (a : Atom) : PureFn prog W0 66 [pkgAV p, atomAV a] (.bool (satP p a)) := by
  refine fn_pure [4] [2, 3, 6] func66 rfl rfl ntmps66 rfl rfl (.bool _) fun hs σ => ?_
  have hl := (small_map (small_agg (hs _ (List.mem_cons_self ..)) (provsAV p.prov) (by simp))).1
  simp only [go_sem, simprocAttr, ↓reduceIte, pkgAV, atomAV]
  refine CallA.fn (r4_mayAtom a) ?_
  simp only [go_sem, simprocAttr, ↓reduceIte, pkgAV, atomAV]
  refine ⟨fun h => weak_bool (by rw [satP, h]; rfl), fun h => CallP.fnG (fun _ => r4_holds a.rel p.ver a.ver) ?_⟩
  simp only [go_sem, simprocAttr, ↓reduceIte, pkgAV, atomAV]
  refine ⟨fun h2 => weak_bool (by rw [satP, h, h2]; rfl), fun h2 => ?_⟩
  simp only [go_sem, simprocAttr, ↓reduceIte, provsAV, List.length_map]
  refine LoopVC.upto [3, 25, 26] (.of (by kernel_rfl)) p.prov.length (fun i A => A.env 27 = .int .i64 i ∧ Ext σ A.st ∧ (p.prov.take i).any (fun v => v.name == a.name && (a.rel == 0 || holdsV a.rel v.ver a.ver)) = false) 0 (Nat.zero_le _) ?_ fun i B hi ⟨h8, hst, hI⟩ => ?_
  · simp only [go_sem, simprocAttr, ↓reduceIte]
    simp [Ext.refl]
  simp only [go_sem, simprocAttr, ↓reduceIte, h8, List.length_map]
  refine ⟨fun hc => ⟨hc, ?_⟩, fun hc => ⟨weak_bool ?_, hst⟩⟩
  · obtain ⟨v, hv⟩ := get_some hc
    simp only [atV_map hv]
    simp only [go_sem, simprocAttr, ↓reduceIte, provAV, h8]
    refine CallP.fnG (fun _ => r4_holds a.rel v.ver a.ver) ?_
    simp only [go_sem, simprocAttr, ↓reduceIte, h8]
    have e : (v.name == a.name && (a.rel == 0 || !v.ver == [] && holdsV a.rel v.ver a.ver)) = (v.name == a.name && (a.rel == 0 || holdsV a.rel v.ver a.ver)) := by
      cases hv : v.ver with
      | nil => rw [holds_nil]; simp
      | cons c r => simp
    simp only [e]
    refine ⟨fun hq => ⟨weak_bool ?_, hst.app _⟩, fun hq => ⟨hc, int_succ hc hl, hst.app _, by rw [any_succ hv, hI, hq]; rfl⟩⟩
    rw [satP, h, h2, any_true hv hq]; rfl
  · rw [any_end hc] at hI
    rw [satP, h, h2, hI]; rfl

theorem r10_met (c : Clause) (l : List Pkg) : PureFn prog W0 65 [atomsAV c, pkgsAV l] (.bool (metP c l)) := by
  refine fn_pure [4] [6, 8] func65 rfl rfl ntmps65 rfl rfl (.bool _) fun hs σ => ?_
  have hcl := (small_map (hs _ (List.mem_cons_self ..))).1
  have hl := (small_map (hs (pkgsAV l) (by simp))).1
  simp only [go_sem, simprocAttr, ↓reduceIte, atomsAV, pkgsAV, List.length_map]
  refine LoopVC.upto [1, 9, 10] (.of (by kernel_rfl)) c.length (fun i A => A.env 11 = .int .i64 i ∧ Ext σ A.st ∧ ((c.take i).any fun a => l.any fun p => satP p a) = false) 0 (Nat.zero_le _) ?_ fun i B hi ⟨h8, hst, hI⟩ => ?_
  · simp only [go_sem, simprocAttr, ↓reduceIte]
    simp [Ext.refl]
  simp only [go_sem, simprocAttr, ↓reduceIte, h8, List.length_map]
  refine ⟨fun hc => ⟨hc, ?_⟩, fun hc => ⟨weak_bool ?_, hst⟩⟩
  · obtain ⟨a, ha⟩ := get_some hc
    simp only [atV_map ha]
    simp only [go_sem, simprocAttr, ↓reduceIte, h8, List.length_map]
    refine LoopVC.ats [1, 9, 10, 11] (.of (by kernel_rfl)) (fun A => Ext σ A.st ∧ (l.any fun p => satP p a) = false) ?_ fun A ⟨hst, hd⟩ => ?_
    · refine LoopVC.upto [1, 6, 9, 10, 11, 15, 16] (.of (by kernel_rfl)) l.length (fun j A => A.env 17 = .int .i64 j ∧ Ext σ A.st ∧ ((l.take j).any fun p => satP p a) = false) 0 (Nat.zero_le _) ?_ fun j A hj ⟨h19, hst, hJ⟩ => ?_
      · simp only [go_sem, simprocAttr, ↓reduceIte]
        simp [hst.app]
      simp only [go_sem, simprocAttr, ↓reduceIte, h19, List.length_map]
      refine ⟨fun hc' => ⟨hc', ?_⟩, fun hc' => ⟨hst, by rwa [any_end hc'] at hJ⟩⟩
      obtain ⟨p, hp⟩ := get_some hc'
      simp only [atV_map hp]
      simp only [go_sem, simprocAttr, ↓reduceIte, h19]
      refine CallA.fn (r10_sat p a) ?_
      simp only [go_sem, simprocAttr, ↓reduceIte, h19]
      refine ⟨fun hq => ⟨weak_bool ?_, hst.app _⟩, fun hq => ⟨hc', int_succ hc' hl, hst.app _, by rw [any_succ hp, hJ, hq]; rfl⟩⟩
      rw [metP, any_true ha (any_true hp hq)]
    simp only [go_sem, simprocAttr, ↓reduceIte, h8]
    exact ⟨hc, int_succ hc hcl, hst, by rw [any_succ ha, hI, hd]; rfl⟩
  · rw [any_end hc] at hI
    exact hI.symm

end Go.Proofs.Tryz
end
