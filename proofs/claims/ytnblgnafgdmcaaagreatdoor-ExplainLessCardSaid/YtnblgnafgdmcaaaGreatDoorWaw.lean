/- Texts that the last one of this claim rests on: a layer over the guide's own conditions for code; contracts of the functions that the law reaches, one by one. No conditions beside those of the given rows. -/
import Derived.Test.YtnblgnafgdmcaaaGreatDoorWau
import Derived.Test.YtnblgnafgdmcaaaGreatDoorWav
section
set_option linter.unusedSimpArgs false
set_option linter.unusedVariables false
namespace Go.Proofs.Tryz
open Go Go.Av
set_option maxRecDepth 10000
set_option linter.unusedSimpArgs false
set_option linter.unusedVariables false
variable {W0 : World}

@[go_sem] theorem okM_atomAV (g : Option Bool) (p : Atom) : okM g (atomAV p) = True := eq_true trivial
@[go_sem] theorem unm_atomAV (p : Atom) : unm (atomAV p) = atomAV p := rfl
@[go_sem] theorem fits_atomAV (p : Atom) : fitsB prog 50 (atomAV p) = true := by kernel_rfl
@[go_sem] theorem fits_pkgAV (p : Pkg) : fitsB prog 56 (pkgAV p) = true := by kernel_rfl
@[go_sem] theorem fits_provAV (p : Prov) : fitsB prog 112 (provAV p) = true := by kernel_rfl
@[go_sem] theorem okM_provAV (g : Option Bool) (p : Prov) : okM g (provAV p) = True := eq_true trivial
@[go_sem] theorem unm_provAV (p : Prov) : unm (provAV p) = provAV p := rfl
theorem NotM.prov (p : Prov) : NotM (provAV p) := trivial

theorem ix_sat1 (a : Atom) (v : Prov) : PureFn prog W0 81 [provAV v, .loc 50 (atomAV a)] (.bool (v.name == a.name && (a.rel == 0 || holdsV a.rel v.ver a.ver))) := by
  refine fn_pure [3] [2] func81 rfl rfl ntmps81 rfl rfl (.bool _) fun hs σ => ?_
  simp only [go_sem, simprocAttr, ↓reduceIte, provAV, atomAV]
  refine CallP.fnG (fun _ => ve_holds a.rel v.ver a.ver) ?_
  simp only [go_sem, simprocAttr, ↓reduceIte]

theorem ix_sat (p : Pkg) (a : Atom) : PureFn prog W0 51 [pkgAV p, atomAV a] (.bool (satP p a)) := by
  refine fn_pure [4] [2, 3] func51 rfl rfl ntmps51 rfl rfl (.bool _) fun hs σ => ?_
  simp only [go_sem, simprocAttr, ↓reduceIte, pkgAV, atomAV]
  refine CallA.fn (rl_mayAtom a) ?_
  simp only [go_sem, simprocAttr, ↓reduceIte, pkgAV, atomAV]
  refine ⟨fun h => weak_bool (by rw [satP, h]; rfl), fun h => CallP.fnG (fun _ => ve_holds a.rel p.ver a.ver) ?_⟩
  simp only [go_sem, simprocAttr, ↓reduceIte, pkgAV, atomAV]
  refine ⟨fun h2 => weak_bool (by rw [satP, h, h2]; rfl), fun h2 => CallA.fn (anProv provAV NotM.prov p.prov _ _ [.loc 50 (atomAV a)] (fun q _ => ix_sat1 a q)) ?_⟩
  simp only [go_sem, simprocAttr, ↓reduceIte]
  exact weak_bool (by rw [satP, h, h2]; simp)

theorem r10_sat (p : Pkg) (a : Atom) : PureFn prog W0 66 [pkgAV p, atomAV a] (.bool (satP p a)) := by
  refine fn_pure [4] [2, 3, 6] func66 rfl rfl ntmps66 rfl rfl (.bool _) fun hs σ => ?_
  have hl := (small_map (small_agg (hs _ (List.mem_cons_self ..)) (provsAV p.prov) (by simp))).1
  simp only [go_sem, simprocAttr, ↓reduceIte, pkgAV, atomAV]
  refine CallA.fn (r4_mayAtom a) ?_
  simp only [go_sem, simprocAttr, ↓reduceIte, pkgAV, atomAV]
  refine ⟨fun h => weak_bool (by rw [satP, h]; rfl), fun h => CallP.fnG (fun _ => r4_holds a.rel p.ver a.ver) ?_⟩
  simp only [go_sem, simprocAttr, ↓reduceIte, pkgAV, atomAV]
  refine ⟨fun h2 => weak_bool (by rw [satP, h, h2]; rfl), fun h2 => ?_⟩
  simp only [go_sem, simprocAttr, ↓reduceIte, provsAV, List.length_map]
  refine LoopVC.upto [3, 25, 26] (.of (by kernel_rfl)) p.prov.length (fun i A => A.env 27 = .int .i64 i ∧ Ext σ A.st ∧ (p.prov.take i).any (fun v => v.name == a.name && (a.rel == 0 || holdsV a.rel v.ver a.ver)) = false) 0 (Nat.zero_le _) ?_ fun i B hi ⟨h8, hst, hI⟩ => ?_
  · simp only [go_sem, simprocAttr, ↓reduceIte]
    simp [Ext.refl]
  simp only [go_sem, simprocAttr, ↓reduceIte, h8, List.length_map]
  refine ⟨fun hc => ⟨hc, ?_⟩, fun hc => ⟨weak_bool ?_, hst⟩⟩
  · obtain ⟨v, hv⟩ := get_some hc
    simp only [atV_map hv]
    simp only [go_sem, simprocAttr, ↓reduceIte, provAV, h8]
    refine CallP.fnG (fun _ => r4_holds a.rel v.ver a.ver) ?_
    simp only [go_sem, simprocAttr, ↓reduceIte, h8]
    have e : (v.name == a.name && (a.rel == 0 || !v.ver == [] && holdsV a.rel v.ver a.ver)) = (v.name == a.name && (a.rel == 0 || holdsV a.rel v.ver a.ver)) := by
      cases hv : v.ver with
      | nil => rw [holds_nil]; simp
      | cons c r => simp
    simp only [e]
    refine ⟨fun hq => ⟨weak_bool ?_, hst.app _⟩, fun hq => ⟨hc, int_succ hc hl, hst.app _, by rw [any_succ hv, hI, hq]; rfl⟩⟩
    rw [satP, h, h2, any_true hv hq]; rfl
  · rw [any_end hc] at hI
    rw [satP, h, h2, hI]; rfl

theorem r10_forbids (p q : Pkg) : PureFn prog W0 101 [pkgAV p, pkgAV q] (.bool (againstP p q)) := by
  refine fn_pure [4] [2, 3, 8] func101 rfl rfl ntmps101 rfl rfl (.bool _) fun hs σ => ?_
  have hl1 := (small_map (small_agg (hs _ (List.mem_cons_self ..)) (atomsAV p.con) (by simp))).1
  have hl2 := (small_map (small_agg (hs _ (List.mem_cons_self ..)) (atomsAV p.brk) (by simp))).1
  simp only [go_sem, simprocAttr, ↓reduceIte, pkgAV]
  let ls := [p.con, p.brk]
  have e : [atomsAV p.con, atomsAV p.brk] = ls.map atomsAV := rfl
  have hls : ∀ l ∈ ls, l.length ≤ maxLen := by simp only [ls]; simp [hl1, hl2]
  have ha : againstP p q = ls.any fun l => l.any (satP q) := by simp only [ls]; simp [againstP]
  simp only [e]
  refine LoopVC.upto [3, 13] (.of (by kernel_rfl)) 2 (fun i A => A.env 14 = .int .i64 i ∧ Ext σ A.st ∧ ((ls.take i).any fun l => l.any (satP q)) = false) 0 (Nat.zero_le _) ?_ fun i B hi ⟨h8, hst, hI⟩ => ?_
  · simp only [go_sem, simprocAttr, ↓reduceIte]
    simp [Ext.refl]
  simp only [go_sem, simprocAttr, ↓reduceIte, h8]
  refine ⟨fun hc => ?_, fun hc => ⟨weak_bool ?_, hst⟩⟩
  · have hc' : i < ls.length := by show i < 2; omega
    obtain ⟨l, hll⟩ := get_some hc'
    have hl := hls l (List.mem_of_getElem? hll)
    simp only [getD_map hll]
    simp only [go_sem, simprocAttr, ↓reduceIte, atomsAV, List.length_map]
    refine ⟨hc', LoopVC.ats [3, 13, 14] (.of (by kernel_rfl)) (fun A => Ext σ A.st ∧ l.any (satP q) = false) ?_ fun A ⟨hst, hd⟩ => ?_⟩
    · refine LoopVC.upto [3, 13, 14, 17, 18] (.of (by kernel_rfl)) l.length (fun j A => A.env 19 = .int .i64 j ∧ Ext σ A.st ∧ (l.take j).any (satP q) = false) 0 (Nat.zero_le _) ?_ fun j A hj ⟨h19, hst, hJ⟩ => ?_
      · simp only [go_sem, simprocAttr, ↓reduceIte]
        simp [hst]
      simp only [go_sem, simprocAttr, ↓reduceIte, h19, List.length_map]
      refine ⟨fun hc' => ⟨hc', ?_⟩, fun hc' => ⟨hst, by rwa [any_end hc'] at hJ⟩⟩
      obtain ⟨a, ha'⟩ := get_some hc'
      simp only [atV_map ha']
      simp only [go_sem, simprocAttr, ↓reduceIte, h19]
      refine CallA.fn (r10_sat q a) ?_
      simp only [go_sem, simprocAttr, ↓reduceIte, h19]
      refine ⟨fun hq => ⟨weak_bool ?_, hst.app _⟩, fun hq => ⟨hc', int_succ hc' hl, hst.app _, by rw [any_succ ha', hJ, hq]; rfl⟩⟩
      rw [ha, any_true hll (any_true ha' hq)]
    simp only [go_sem, simprocAttr, ↓reduceIte, h8]
    exact ⟨by omega, int_succ (show i < 2 by omega) (by rw [maxLen_eq]; omega), hst, by rw [any_succ hll, hI, hd]; rfl⟩
  · rw [any_end (by show 2 ≤ i; omega)] at hI
    rw [ha, hI]

theorem r10_clash (p q : Pkg) : PureFn prog W0 72 [pkgAV p, pkgAV q] (.bool (clashP p q)) := by
  refine fn_pure [4] [2, 3] func72 rfl rfl ntmps72 rfl rfl (.bool _) fun hs σ => ?_
  simp only [go_sem, simprocAttr, ↓reduceIte, pkgAV]
  refine CallP.fnG (fun _ => r10_forbids p q) ?_
  simp only [go_sem, simprocAttr, ↓reduceIte]
  refine CallP.fnG (fun _ => r10_forbids q p) ?_
  simp only [go_sem, simprocAttr, ↓reduceIte]
  try exact weak_bool rfl

theorem r10_met (c : Clause) (l : List Pkg) : PureFn prog W0 65 [atomsAV c, pkgsAV l] (.bool (metP c l)) := by
  refine fn_pure [4] [6, 8] func65 rfl rfl ntmps65 rfl rfl (.bool _) fun hs σ => ?_
  have hcl := (small_map (hs _ (List.mem_cons_self ..))).1
  have hl := (small_map (hs (pkgsAV l) (by simp))).1
  simp only [go_sem, simprocAttr, ↓reduceIte, atomsAV, pkgsAV, List.length_map]
  refine LoopVC.upto [1, 9, 10] (.of (by kernel_rfl)) c.length (fun i A => A.env 11 = .int .i64 i ∧ Ext σ A.st ∧ ((c.take i).any fun a => l.any fun p => satP p a) = false) 0 (Nat.zero_le _) ?_ fun i B hi ⟨h8, hst, hI⟩ => ?_
  · simp only [go_sem, simprocAttr, ↓reduceIte]
    simp [Ext.refl]
  simp only [go_sem, simprocAttr, ↓reduceIte, h8, List.length_map]
  refine ⟨fun hc => ⟨hc, ?_⟩, fun hc => ⟨weak_bool ?_, hst⟩⟩
  · obtain ⟨a, ha⟩ := get_some hc
    simp only [atV_map ha]
    simp only [go_sem, simprocAttr, ↓reduceIte, h8, List.length_map]
    refine LoopVC.ats [1, 9, 10, 11] (.of (by kernel_rfl)) (fun A => Ext σ A.st ∧ (l.any fun p => satP p a) = false) ?_ fun A ⟨hst, hd⟩ => ?_
    · refine LoopVC.upto [1, 6, 9, 10, 11, 15, 16] (.of (by kernel_rfl)) l.length (fun j A => A.env 17 = .int .i64 j ∧ Ext σ A.st ∧ ((l.take j).any fun p => satP p a) = false) 0 (Nat.zero_le _) ?_ fun j A hj ⟨h19, hst, hJ⟩ => ?_
      · simp only [go_sem, simprocAttr, ↓reduceIte]
        simp [hst.app]
      simp only [go_sem, simprocAttr, ↓reduceIte, h19, List.length_map]
      refine ⟨fun hc' => ⟨hc', ?_⟩, fun hc' => ⟨hst, by rwa [any_end hc'] at hJ⟩⟩
      obtain ⟨p, hp⟩ := get_some hc'
      simp only [atV_map hp]
      simp only [go_sem, simprocAttr, ↓reduceIte, h19]
      refine CallA.fn (r10_sat p a) ?_
      simp only [go_sem, simprocAttr, ↓reduceIte, h19]
      refine ⟨fun hq => ⟨weak_bool ?_, hst.app _⟩, fun hq => ⟨hc', int_succ hc' hl, hst.app _, by rw [any_succ hp, hJ, hq]; rfl⟩⟩
      rw [metP, any_true ha (any_true hp hq)]
    simp only [go_sem, simprocAttr, ↓reduceIte, h8]
    exact ⟨hc, int_succ hc hcl, hst, by rw [any_succ ha, hI, hd]; rfl⟩
  · rw [any_end hc] at hI
    exact hI.symm

theorem r10_healthy (l : List Pkg) : PureFn prog W0 42 [pkgsAV l] (.bool (healthyP l)) := by
  refine fn_pure [2] [4, 6] func42 rfl rfl ntmps42 rfl rfl (.bool _) fun hs σ => ?_
  have hl := (small_map (hs _ (List.mem_cons_self ..))).1
  have hls := (small_map (hs _ (List.mem_cons_self ..))).2
  simp only [go_sem, simprocAttr, ↓reduceIte, pkgsAV, List.length_map]
  refine LoopVC.upto [0, 11, 12] (.of (by kernel_rfl)) l.length (fun i A => A.env 13 = .int .i64 i ∧ Ext σ A.st ∧ sickL l (l.take i) (l.drop i) = sickL l [] l) 0 (Nat.zero_le _) ?_ fun i B hi ⟨h8, hst, hI⟩ => ?_
  · simp only [go_sem, simprocAttr, ↓reduceIte]
    simp [Ext.refl]
  simp only [go_sem, simprocAttr, ↓reduceIte, h8, List.length_map]
  refine ⟨fun hc => ⟨hc, ?_⟩, fun hc => ⟨weak_bool ?_, hst⟩⟩
  · obtain ⟨a, ha⟩ := get_some hc
    obtain ⟨hlt, hae⟩ := List.getElem?_eq_some_iff.1 ha
    have hsm := small_agg (hls a (List.mem_of_getElem? ha))
    have hpre : a.pre.length ≤ maxLen := (small_map (hsm (clausesAV a.pre) (by simp))).1
    have hdep : a.dep.length ≤ maxLen := (small_map (hsm (clausesAV a.dep) (by simp))).1
    rw [List.drop_eq_getElem_cons hc, hae, sickL] at hI
    have sick : sickP l (l.take i) a = true → false = healthyP l := fun e => by rw [healthyP, ← hI, e]; rfl
    simp only [atV_map ha]
    simp only [go_sem, simprocAttr, ↓reduceIte, h8, List.length_map]
    refine CallA.fn (r9_may a) ?_
    simp only [go_sem, simprocAttr, ↓reduceIte, h8, List.length_map]
    refine ⟨fun hq => ⟨weak_bool (sick ?_), hst.app _⟩, fun hq => ?_⟩
    · simp [sickP, hq]
    rw [← List.map_take]
    have hil : (l.take i).length = i := by rw [List.length_take]; omega
    refine ⟨⟨Nat.zero_le _, hi⟩, LoopVC.at [0, 4, 11, 12, 13] (.of (by kernel_rfl)) (fun A => Ext σ A.st ∧ (l.take i).any (fun q => q.name == a.name || clashP a q) = false) ?_ fun A ⟨hst, hn⟩ => ?_⟩
    · refine LoopVC.upto [0, 4, 11, 12, 13, 23, 24] (.of (by kernel_rfl)) i (fun j A => A.env 25 = .int .i64 j ∧ Ext σ A.st ∧ ((l.take i).take j).any (fun q => q.name == a.name || clashP a q) = false) 0 (Nat.zero_le _) ?_ fun j A hj ⟨h25, hst, hJ⟩ => ?_
      · simp only [go_sem, simprocAttr, ↓reduceIte]
        simp [hst.app]
      simp only [go_sem, simprocAttr, ↓reduceIte, h25, List.length_map]
      refine ⟨fun hj' => ⟨hj', ?_⟩, fun hj' => ⟨hst, by rwa [any_end hj'] at hJ⟩⟩
      obtain ⟨b, hbj⟩ := get_some hj'
      simp only [atV_map hbj]
      simp only [go_sem, simprocAttr, ↓reduceIte, pkgAV, h25]
      refine CallP.fnG (fun _ => r10_clash a b) ?_
      simp only [go_sem, simprocAttr, ↓reduceIte, h25]
      refine ⟨fun hq => ⟨weak_bool (sick ?_), hst.app _⟩, fun hq => ⟨by omega, int_succ (show j < i by omega) (by omega), hst.app _, by rw [any_succ hbj, hJ, hq]; rfl⟩⟩
      rw [sickP, any_true hbj hq]; simp
    simp only [go_sem, simprocAttr, ↓reduceIte, pkgAV, h8]
    let ls := [a.pre, a.dep]
    have e : [clausesAV a.pre, clausesAV a.dep] = ls.map clausesAV := rfl
    have hls : ∀ l ∈ ls, l.length ≤ maxLen := by simp only [ls]; simp [hpre, hdep]
    have hms : (a.pre.any (fun c => !metP c l) || a.dep.any (fun c => !metP c l)) = ls.any fun d => d.any fun c => !metP c l := by simp only [ls]; simp
    simp only [e]
    refine LoopVC.ats [0, 11, 12, 13] (.of (by kernel_rfl)) (fun A => Ext σ A.st ∧ (ls.any fun d => d.any fun c => !metP c l) = false) ?_ fun A ⟨hst, hd⟩ => ?_
    · refine LoopVC.upto [0, 11, 12, 13, 44] (.of (by kernel_rfl)) 2 (fun k A => A.env 45 = .int .i64 k ∧ Ext σ A.st ∧ ((ls.take k).any fun d => d.any fun c => !metP c l) = false) 0 (Nat.zero_le _) ?_ fun k A hk ⟨h45, hst, hK⟩ => ?_
      · simp only [go_sem, simprocAttr, ↓reduceIte]
        simp [hst]
      simp only [go_sem, simprocAttr, ↓reduceIte, h45]
      refine ⟨fun hc => ?_, fun hc => ⟨hst, by rwa [any_end (by show 2 ≤ k; omega)] at hK⟩⟩
      have hc' : k < ls.length := by show k < 2; omega
      obtain ⟨d, hd⟩ := get_some hc'
      have hl := hls d (List.mem_of_getElem? hd)
      simp only [getD_map hd]
      simp only [go_sem, simprocAttr, ↓reduceIte, clausesAV, h45, List.length_map]
      refine ⟨hc', LoopVC.ats [0, 11, 12, 13, 44, 45] (.of (by kernel_rfl)) (fun A => Ext σ A.st ∧ (d.any fun c => !metP c l) = false) ?_ fun A ⟨hst, hd'⟩ => ?_⟩
      · refine LoopVC.upto [0, 11, 12, 13, 44, 45, 48, 49] (.of (by kernel_rfl)) d.length (fun j A => A.env 50 = .int .i64 j ∧ Ext σ A.st ∧ ((d.take j).any fun c => !metP c l) = false) 0 (Nat.zero_le _) ?_ fun j A hj ⟨h50, hst, hJ⟩ => ?_
        · simp only [go_sem, simprocAttr, ↓reduceIte]
          simp [hst]
        simp only [go_sem, simprocAttr, ↓reduceIte, h50, List.length_map]
        refine ⟨fun hc' => ⟨hc', ?_⟩, fun hc' => ⟨hst, by rwa [any_end hc'] at hJ⟩⟩
        obtain ⟨c, hcj⟩ := get_some hc'
        simp only [atV_map hcj]
        simp only [go_sem, simprocAttr, ↓reduceIte, h50]
        refine CallA.fn (r10_met c l) ?_
        simp only [go_sem, simprocAttr, ↓reduceIte, h50]
        refine ⟨fun hq => ⟨weak_bool (sick ?_), hst⟩, fun hq => ⟨hc', int_succ hc' hl, hst, by rw [any_succ hcj, hJ, hq]; rfl⟩⟩
        rw [sickP, hms, any_true hd (any_true hcj (by rw [hq]; rfl))]; simp
      simp only [go_sem, simprocAttr, ↓reduceIte, h45]
      exact ⟨by omega, int_succ (show k < 2 by omega) (by rw [maxLen_eq]; omega), hst, by rw [any_succ hd, hK, hd']; rfl⟩
    simp only [go_sem, simprocAttr, ↓reduceIte, h8]
    refine ⟨hc, int_succ hc hl, hst, ?_⟩
    have : sickP l (l.take i) a = false := by rw [sickP, hn, hms, hd, hq]; rfl
    rw [this, Bool.false_or, ← take_succ_get ha] at hI
    exact hI
  · rw [List.drop_eq_nil_of_le hc] at hI
    rw [healthyP, ← hI]; rfl
end Go.Proofs.Tryz
end
