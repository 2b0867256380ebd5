/- Texts that the last one of this claim rests on: a layer over the guide's own conditions for code; contracts of the functions that the law reaches, one by one. No conditions beside those of the given rows. -/
import Derived.Test.YtnblgnafgdmcaaaGreatDoorWat
import Derived.Test.YtnblgnafgdmcaaaGreatDoorWau
section
set_option linter.unusedSimpArgs false
set_option linter.unusedVariables false
namespace Go.Proofs.Tryz
open Go Go.Av
set_option maxRecDepth 10000
set_option linter.unusedSimpArgs false
set_option linter.unusedVariables false
variable {W0 : World}

def clause1 (a : Atom) : AV := .lit 50 [atomAV a]
theorem NotM.atom (a : Atom) : NotM (atomAV a) := trivial
theorem NotM.atoms (l : List Atom) : NotM (atomsAV l) := trivial
@[go_sem] theorem okM_atomsAV (g : Option Bool) (l : List Atom) : okM g (atomsAV l) = True := eq_true trivial
@[go_sem] theorem unm_atomsAV (l : List Atom) : unm (atomsAV l) = atomsAV l := rfl
@[go_sem] theorem fitsB_atomsAV (P : Program) (t : TypeId) (l : List Atom) : fitsB P t (atomsAV l) = prim P t := rfl
@[go_sem] theorem okM_clausesAV (g : Option Bool) (l : List Clause) : okM g (clausesAV l) = True := eq_true trivial
@[go_sem] theorem unm_clausesAV (l : List Clause) : unm (clausesAV l) = clausesAV l := rfl
@[go_sem] theorem fitsB_clausesAV (P : Program) (t : TypeId) (l : List Clause) : fitsB P t (clausesAV l) = prim P t := rfl
@[go_sem] theorem okM_provsAV (g : Option Bool) (l : List Prov) : okM g (provsAV l) = True := eq_true trivial
@[go_sem] theorem unm_provsAV (l : List Prov) : unm (provsAV l) = provsAV l := rfl
@[go_sem] theorem fitsB_provsAV (P : Program) (t : TypeId) (l : List Prov) : fitsB P t (provsAV l) = prim P t := rfl
@[go_sem] theorem okM_pkgsAV (g : Option Bool) (l : List Pkg) : okM g (pkgsAV l) = True := eq_true trivial
@[go_sem] theorem unm_pkgsAV (l : List Pkg) : unm (pkgsAV l) = pkgsAV l := rfl
@[go_sem] theorem fitsB_pkgsAV (P : Program) (t : TypeId) (l : List Pkg) : fitsB P t (pkgsAV l) = prim P t := rfl
theorem clauses_single (l : List Atom) : Sub (.sl 52 (l.map clause1)) (clausesAV (single l)) := by
  rw [clausesAV, single, List.map_map]
  exact .slmap l fun a _ => .lit _ _

theorem ids_map {α : Type} {f : α → AV} {e : TypeId} (h : ∀ a, IdsLt 0 (f a)) (l : List α) : IdsLt 0 (.sl e (l.map f)) := .sl fun x hx => by
  obtain ⟨a, _, rfl⟩ := List.mem_map.1 hx
  exact h a
theorem ids_atom (a : Atom) : IdsLt 0 (atomAV a) := .agg fun x hx => by
  simp at hx
  rcases hx with rfl | rfl | rfl
  · exact .str _
  · exact .int _ _
  · exact .str _
theorem ids_atoms (l : List Atom) : IdsLt 0 (atomsAV l) := ids_map ids_atom l
theorem ids_clauses (l : List Clause) : IdsLt 0 (clausesAV l) := ids_map ids_atoms l
theorem ids_prov (a : Prov) : IdsLt 0 (provAV a) := .agg fun x hx => by
  simp at hx
  rcases hx with rfl | rfl <;> exact .str _
theorem re_singles (l : List Atom) (hl : l.length ≤ 1048576) : PureFn prog W0 95 [atomsAV l] (clausesAV (single l)) := by
  refine fn_pure [2] [5] func95 rfl rfl ntmps95 rfl rfl (ids_clauses _) fun hs σ => ?_
  simp only [go_sem, simprocAttr, ↓reduceIte, atomsAV]
  refine LoopVC.at [6, 7] (.of (by kernel_rfl)) (fun A => ∃ v, A.env 3 = v ∧ Built σ A.st v 52 (l.map clause1)) ?_ fun B ⟨v, h3, hb⟩ => ?_
  · refine LoopVC.upto [6, 7] (.of (by kernel_rfl)) l.length (fun i A => ∃ v, A.env 3 = v ∧ A.env 8 = .int .i64 i ∧ Built σ A.st v 52 ((l.take i).map clause1)) 0 (Nat.zero_le _) ?_ fun i B hi ⟨v, h3, h8, hb⟩ => ?_
    · simp only [go_sem, simprocAttr, ↓reduceIte]
      exact ⟨_, rfl, Built.nil (.refl _) _⟩
    simp only [go_sem, simprocAttr, ↓reduceIte, h3, h8, hb.ok, hb.un, List.length_map]
    refine ⟨fun hc => ⟨hc, ?_⟩, fun hc => ?_⟩
    · obtain ⟨a, ha⟩ := get_some hc
      simp only [atV_map ha]
      simp only [go_sem, simprocAttr, ↓reduceIte, atomAV, h3, h8, hb.ok, hb.un]
      refine AppA.own 1048576 (by kernel_rfl) (hb.more _).bld (.lit _ _ _) (by simp; omega) fun v' σ' ha' => ?_
      have hb' := (hb.more _).app ha'
      simp only [go_sem, simprocAttr, ↓reduceIte, h3, h8, hb.ok, hb.un, hb'.ok, hb'.un]
      refine ⟨hc, _, rfl, int_succ hc (by rw [maxLen_eq]; omega), ?_⟩
      rw [take_succ_get ha, List.map_append]
      exact hb'
    · rw [List.take_of_length_le hc] at hb
      exact ⟨_, rfl, hb⟩
  simp only [go_sem, simprocAttr, ↓reduceIte, h3, hb.ok, hb.un]
  exact ⟨hb.weak.trans (.sub (clauses_single l)), hb.ext⟩
theorem r4_singles (l : List Atom) (hl : l.length ≤ 1048576) : PureFn prog W0 57 [atomsAV l] (clausesAV (single l)) := by
  refine fn_pure [2] [5] func57 rfl rfl ntmps57 rfl rfl (ids_clauses _) fun hs σ => ?_
  simp only [go_sem, simprocAttr, ↓reduceIte, atomsAV]
  refine LoopVC.at [6, 7] (.of (by kernel_rfl)) (fun A => ∃ v, A.env 3 = v ∧ Built σ A.st v 52 (l.map clause1)) ?_ fun B ⟨v, h3, hb⟩ => ?_
  · refine LoopVC.upto [6, 7] (.of (by kernel_rfl)) l.length (fun i A => ∃ v, A.env 3 = v ∧ A.env 8 = .int .i64 i ∧ Built σ A.st v 52 ((l.take i).map clause1)) 0 (Nat.zero_le _) ?_ fun i B hi ⟨v, h3, h8, hb⟩ => ?_
    · simp only [go_sem, simprocAttr, ↓reduceIte]
      exact ⟨_, rfl, Built.nil (.refl _) _⟩
    simp only [go_sem, simprocAttr, ↓reduceIte, h3, h8, hb.ok, hb.un, List.length_map]
    refine ⟨fun hc => ⟨hc, ?_⟩, fun hc => ?_⟩
    · obtain ⟨a, ha⟩ := get_some hc
      simp only [atV_map ha]
      simp only [go_sem, simprocAttr, ↓reduceIte, atomAV, h3, h8, hb.ok, hb.un]
      refine AppA.own 1048576 (by kernel_rfl) (hb.more _).bld (.lit _ _ _) (by simp; omega) fun v' σ' ha' => ?_
      have hb' := (hb.more _).app ha'
      simp only [go_sem, simprocAttr, ↓reduceIte, h3, h8, hb.ok, hb.un, hb'.ok, hb'.un]
      refine ⟨hc, _, rfl, int_succ hc (by rw [maxLen_eq]; omega), ?_⟩
      rw [take_succ_get ha, List.map_append]
      exact hb'
    · rw [List.take_of_length_le hc] at hb
      exact ⟨_, rfl, hb⟩
  simp only [go_sem, simprocAttr, ↓reduceIte, h3, hb.ok, hb.un]
  exact ⟨hb.weak.trans (.sub (clauses_single l)), hb.ext⟩

theorem atoms_map (l : List Atom) : Sub (.sl 50 (l.map atomAV)) (atomsAV l) := .refl _
theorem re_provided (l : List Prov) (hl : l.length ≤ 1048576) : PureFn prog W0 96 [provsAV l] (clausesAV (single (l.map provAtom))) := by
  refine fn_pure [2] [5] func96 rfl rfl ntmps96 rfl rfl (ids_clauses _) fun hs σ => ?_
  simp only [go_sem, simprocAttr, ↓reduceIte, provsAV]
  refine LoopVC.at [7, 8] (.of (by kernel_rfl)) (fun A => ∃ v, A.env 3 = v ∧ Built σ A.st v 52 (l.map fun p => clause1 (provAtom p))) ?_ fun B ⟨v, h3, hb⟩ => ?_
  · refine LoopVC.upto [7, 8] (.of (by kernel_rfl)) l.length (fun i A => ∃ v, A.env 3 = v ∧ A.env 9 = .int .i64 i ∧ Built σ A.st v 52 ((l.take i).map fun p => clause1 (provAtom p))) 0 (Nat.zero_le _) ?_ fun i B hi ⟨v, h3, h8, hb⟩ => ?_
    · simp only [go_sem, simprocAttr, ↓reduceIte]
      exact ⟨_, rfl, Built.nil (.refl _) _⟩
    simp only [go_sem, simprocAttr, ↓reduceIte, h3, h8, hb.ok, hb.un, List.length_map]
    refine ⟨fun hc => ⟨hc, ?_⟩, fun hc => ?_⟩
    · obtain ⟨a, ha⟩ := get_some hc
      simp only [atV_map ha]
      simp only [go_sem, simprocAttr, ↓reduceIte, provAV, h3, h8, hb.ok, hb.un]
      refine JoinVC.at [3, 6, 7, 8, 9] (by kernel_rfl) (fun A => A.st = B.st ++ [none, some (.cells 50 [atomAV (provAtom a)])]) (fun h => ?_) (fun h => ?_) fun A hst => ?_
      · simp only [go_sem, simprocAttr, ↓reduceIte, atomAV, provAtom]
        simp only [Bool.not_eq_true', beq_eq_false_iff_ne] at h
        rw [if_neg h]
      · simp only [go_sem, simprocAttr, ↓reduceIte, atomAV, provAtom]
        simp only [Bool.not_eq_false', beq_iff_eq] at h
        rw [if_pos h]
      have hb2 : Built σ A.st v 52 ((l.take i).map fun p => clause1 (provAtom p)) := by rw [hst]; exact hb.more _
      simp only [go_sem, simprocAttr, ↓reduceIte, h3, h8, hst, hb.ok, hb.un, atomAV]
      refine AppA.own 1048576 (by kernel_rfl) hb2.bld (.lit _ _ _) (by simp; omega) fun v' σ' ha' => ?_
      have hb' := hb2.app ha'
      simp only [go_sem, simprocAttr, ↓reduceIte, h3, h8, hb.ok, hb.un, hb'.ok, hb'.un]
      refine ⟨hc, _, rfl, int_succ hc (by rw [maxLen_eq]; omega), ?_⟩
      rw [take_succ_get ha, List.map_append]
      exact hb'
    · rw [List.take_of_length_le hc] at hb
      exact ⟨_, rfl, hb⟩
  simp only [go_sem, simprocAttr, ↓reduceIte, h3, hb.ok, hb.un]
  refine ⟨hb.weak.trans (.sub ?_), hb.ext⟩
  have := clauses_single (l.map provAtom)
  rw [List.map_map] at this
  exact this
theorem r4_provided (l : List Prov) (hl : l.length ≤ 1048576) : PureFn prog W0 59 [provsAV l] (atomsAV (l.map provAtom)) := by
  refine fn_pure [2] [5] func59 rfl rfl ntmps59 rfl rfl (ids_atoms _) fun hs σ => ?_
  simp only [go_sem, simprocAttr, ↓reduceIte, provsAV]
  refine LoopVC.at [7, 8] (.of (by kernel_rfl)) (fun A => ∃ v, A.env 3 = v ∧ Built σ A.st v 50 (l.map fun p => atomAV (provAtom p))) ?_ fun B ⟨v, h3, hb⟩ => ?_
  · refine LoopVC.upto [7, 8] (.of (by kernel_rfl)) l.length (fun i A => ∃ v, A.env 3 = v ∧ A.env 9 = .int .i64 i ∧ Built σ A.st v 50 ((l.take i).map fun p => atomAV (provAtom p))) 0 (Nat.zero_le _) ?_ fun i B hi ⟨v, h3, h8, hb⟩ => ?_
    · simp only [go_sem, simprocAttr, ↓reduceIte]
      exact ⟨_, rfl, Built.nil (.refl _) _⟩
    simp only [go_sem, simprocAttr, ↓reduceIte, h3, h8, hb.ok, hb.un, List.length_map]
    refine ⟨fun hc => ⟨hc, ?_⟩, fun hc => ?_⟩
    · obtain ⟨a, ha⟩ := get_some hc
      simp only [atV_map ha]
      simp only [go_sem, simprocAttr, ↓reduceIte, provAV, h3, h8, hb.ok, hb.un]
      refine JoinVC.at [3, 6, 7, 8, 9] (by kernel_rfl) (fun A => A.st = B.st ++ [none, some (.cells 50 [atomAV (provAtom a)])]) (fun h => ?_) (fun h => ?_) fun A hst => ?_
      · simp only [go_sem, simprocAttr, ↓reduceIte, atomAV, provAtom]
        simp only [Bool.not_eq_true', beq_eq_false_iff_ne] at h
        rw [if_neg h]
      · simp only [go_sem, simprocAttr, ↓reduceIte, atomAV, provAtom]
        simp only [Bool.not_eq_false', beq_iff_eq] at h
        rw [if_pos h]
      have hb2 : Built σ A.st v 50 ((l.take i).map fun p => atomAV (provAtom p)) := by rw [hst]; exact hb.more _
      simp only [go_sem, simprocAttr, ↓reduceIte, h3, h8, hst, hb.ok, hb.un, atomAV]
      refine AppA.own 1048576 (by kernel_rfl) hb2.bld (.lit _ _ _) (by simp; omega) fun v' σ' ha' => ?_
      have hb' := hb2.app ha'
      simp only [go_sem, simprocAttr, ↓reduceIte, h3, h8, hb.ok, hb.un, hb'.ok, hb'.un]
      refine ⟨hc, _, rfl, int_succ hc (by rw [maxLen_eq]; omega), ?_⟩
      rw [take_succ_get ha, List.map_append]
      exact hb'
    · rw [List.take_of_length_le hc] at hb
      exact ⟨_, rfl, hb⟩
  simp only [go_sem, simprocAttr, ↓reduceIte, h3, hb.ok, hb.un]
  refine ⟨hb.weak.trans (.sub ?_), hb.ext⟩
  have := atoms_map (l.map provAtom)
  rw [List.map_map] at this
  exact this


theorem lenN {α : Type} (l : List α) (n : Nat) : (((n : Nat) : Int) < (l.length : Int)) ↔ n < l.length := by omega
theorem re_long (c : Clause) : PureFn prog W0 128 [atomsAV c] (.bool (decide (6 < c.length))) := by
  refine fn_pure [2] [] func128 rfl rfl ntmps128 rfl rfl (.bool _) fun hs σ => ?_
  simp only [go_sem, simprocAttr, ↓reduceIte, atomsAV, List.length_map]
  exact weak_bool (decide_eq_decide.2 (lenN c 6))
theorem re_wrong (a : Atom) : PureFn prog W0 129 [atomAV a] (.bool (!mayAtom a)) := by
  refine fn_pure [2] [1] func129 rfl rfl ntmps129 rfl rfl (.bool _) fun hs σ => ?_
  simp only [go_sem, simprocAttr, ↓reduceIte, atomAV]
  refine CallA.fn (rl_mayAtom a) ?_
  simp only [go_sem, simprocAttr, ↓reduceIte]
  done

theorem re_mayCl (l : List Clause) : PureFn prog W0 97 [clausesAV l] (.int .i64 (mayCl l)) := by
  refine fn_pure [2] [] func97 rfl rfl ntmps97 rfl rfl (.int _ _) fun hs σ => ?_
  have hl := (small_map (hs _ (List.mem_cons_self ..))).1
  simp only [go_sem, simprocAttr, ↓reduceIte, clausesAV, List.length_map]
  refine CallP.fnG (fun _ => anClause atomsAV NotM.atoms l (fun c => decide (6 < c.length)) _ [] (fun a _ => re_long a)) ?_
  simp only [go_sem, simprocAttr, ↓reduceIte]
  have e : (decide ((12 : Int) < l.length) || l.any fun c => decide (6 < c.length)) = decide (12 < l.length ∨ (l.any fun c => decide (6 < c.length)) = true) := by
    rw [Bool.decide_or, Bool.decide_eq_true]; congr 1; exact decide_eq_decide.2 (lenN l 12)
  rw [e]
  refine ⟨fun h => weak_int (by rw [mayCl, if_pos (of_decide_eq_true h)]), fun h => ?_⟩
  have hm : mayCl l = if l.any (fun c => decide (c.length = 0) || c.any fun a => !mayAtom a) = true then 3 else 0 := by rw [mayCl, if_neg (of_decide_eq_false h)]
  refine LoopVC.upto [12, 13] (.of (by kernel_rfl)) l.length (fun i A => A.env 14 = .int .i64 i ∧ A.st = σ ∧ ∀ c ∈ l.take i, (decide (c.length = 0) || c.any fun a => !mayAtom a) = false) 0 (Nat.zero_le _) ?_ fun i B hi ⟨h8, hst, hI⟩ => ?_
  · simp only [go_sem, simprocAttr, ↓reduceIte]
    simp
  simp only [go_sem, simprocAttr, ↓reduceIte, h8, hst, List.length_map]
  refine ⟨fun hc => ⟨hc, ?_⟩, fun hc => ?_⟩
  · obtain ⟨a, ha⟩ := get_some hc
    simp only [atV_map ha]
    simp only [go_sem, simprocAttr, ↓reduceIte, atomsAV, h8, hst, List.length_map]
    refine CallP.fnG (fun _ => anAtomC atomAV NotM.atom a (fun c => !mayAtom c) _ [] (fun a _ => re_wrong a)) ?_
    simp only [go_sem, simprocAttr, ↓reduceIte, h8, hst]
    have e : ((a.length : Int) == 0) = decide (a.length = 0) := by rw [Bool.eq_iff_iff]; simp
    simp only [e]
    refine ⟨fun hb => weak_int ?_, fun hb => ⟨hc, int_succ hc hl, ?_⟩⟩
    · rw [hm, if_pos (any_true ha hb)]
    · rw [take_succ_get ha]
      intro c hcm
      rcases List.mem_append.1 hcm with hcm | hcm
      · exact hI c hcm
      · rw [List.mem_singleton.1 hcm]; exact hb
  · refine weak_int ?_
    rw [List.take_of_length_le hc] at hI
    rw [hm, if_neg]
    intro h
    obtain ⟨c, hc1, hc2⟩ := List.any_eq_true.1 h
    rw [hI c hc1] at hc2
    cases hc2
end Go.Proofs.Tryz
end
section
set_option linter.unusedSimpArgs false
set_option linter.unusedVariables false
namespace Go.Proofs.Tryz
open Go Go.Av
set_option maxRecDepth 10000
set_option linter.unusedSimpArgs false
set_option linter.unusedVariables false
variable {W0 : World}

theorem r9_mayCl (l : List Clause) : PureFn prog W0 61 [clausesAV l] (.int .i64 (mayCl l)) := by
  refine fn_pure [2] [8] func61 rfl rfl ntmps61 rfl rfl (.int _ _) fun hs σ => ?_
  have hl := (small_map (hs _ (List.mem_cons_self ..))).1
  have hls := (small_map (hs _ (List.mem_cons_self ..))).2
  simp only [go_sem, simprocAttr, ↓reduceIte, clausesAV, List.length_map]
  refine ⟨fun h => weak_int (by rw [mayCl, if_pos (.inl ((lenN l 12).1 (by simpa using h)))]), fun h => ?_⟩
  have h12 : ¬ 12 < l.length := fun e => by have := (lenN l 12).2 e; omega
  refine LoopVC.at [0] (.of (by kernel_rfl)) (fun A => A.st = σ ∧ (l.any fun c => decide (6 < c.length)) = false) ?_ fun B ⟨hst, h6⟩ => ?_
  · refine LoopVC.upto [0, 12, 13] (.of (by kernel_rfl)) l.length (fun i A => A.env 14 = .int .i64 i ∧ A.st = σ ∧ ∀ c ∈ l.take i, c.length ≤ 6) 0 (Nat.zero_le _) ?_ fun i B hi ⟨h8, hst, hI⟩ => ?_
    · simp only [go_sem, simprocAttr, ↓reduceIte]
      simp
    simp only [go_sem, simprocAttr, ↓reduceIte, h8, hst, List.length_map]
    refine ⟨fun hc => ⟨hc, ?_⟩, fun hc => ?_⟩
    · obtain ⟨a, ha⟩ := get_some hc
      simp only [atV_map ha]
      simp only [go_sem, simprocAttr, ↓reduceIte, atomsAV, h8, hst, List.length_map]
      refine ⟨fun hb => weak_int ?_, fun hb => ⟨hc, int_succ hc hl, ?_⟩⟩
      · rw [mayCl, if_pos (.inr (any_true ha (decide_eq_true ((lenN a 6).1 (by simpa using hb)))))]
      · rw [take_succ_get ha]
        intro c hcm
        rcases List.mem_append.1 hcm with hcm | hcm
        · exact hI c hcm
        · rw [List.mem_singleton.1 hcm]; omega
    · rw [List.take_of_length_le hc] at hI
      rw [List.any_eq_false]
      exact fun c hcm => by have := hI c hcm; simp; omega
  have hm : mayCl l = if l.any (fun c => decide (c.length = 0) || c.any fun a => !mayAtom a) = true then 3 else 0 := by rw [mayCl, if_neg (by rw [h6]; simp; omega)]
  simp only [go_sem, simprocAttr, ↓reduceIte, hst]
  refine LoopVC.upto [22, 23] (.of (by kernel_rfl)) l.length (fun i A => A.env 24 = .int .i64 i ∧ Ext σ A.st ∧ ∀ c ∈ l.take i, (decide (c.length = 0) || c.any fun a => !mayAtom a) = false) 0 (Nat.zero_le _) ?_ fun i B hi ⟨h8, hst, hI⟩ => ?_
  · simp only [go_sem, simprocAttr, ↓reduceIte]
    simp [hst, Ext.refl]
  simp only [go_sem, simprocAttr, ↓reduceIte, h8, List.length_map]
  refine ⟨fun hc => ⟨hc, ?_⟩, fun hc => ⟨weak_int ?_, hst⟩⟩
  · obtain ⟨c, hcc⟩ := get_some hc
    simp only [atV_map hcc]
    have hcl : c.length ≤ maxLen := (small_map (hls c (List.mem_of_getElem? hcc))).1
    simp only [go_sem, simprocAttr, ↓reduceIte, atomsAV, h8, List.length_map]
    refine ⟨fun h0 => ⟨weak_int ?_, hst⟩, fun h0 => ?_⟩
    · have : c.length = 0 := by omega
      rw [hm, if_pos (any_true hcc (by simp [this]))]
    refine LoopVC.ats [22, 23, 24] (.of (by kernel_rfl)) (fun A => Ext σ A.st ∧ (c.any fun a => !mayAtom a) = false) ?_ fun B ⟨hst, h6⟩ => ?_
    · refine LoopVC.upto [22, 23, 24, 31, 32] (.of (by kernel_rfl)) c.length (fun i A => A.env 33 = .int .i64 i ∧ Ext σ A.st ∧ ∀ a ∈ c.take i, mayAtom a = true) 0 (Nat.zero_le _) ?_ fun j B hj ⟨h33, hst, hJ⟩ => ?_
      · simp only [go_sem, simprocAttr, ↓reduceIte]
        simp [hst]
      simp only [go_sem, simprocAttr, ↓reduceIte, h33, List.length_map]
      refine ⟨fun hc' => ⟨hc', ?_⟩, fun hc' => ?_⟩
      · obtain ⟨a, ha⟩ := get_some hc'
        simp only [atV_map ha]
        simp only [go_sem, simprocAttr, ↓reduceIte, atomAV, h33]
        refine CallA.fn (r4_mayAtom a) ?_
        simp only [go_sem, simprocAttr, ↓reduceIte, h33]
        refine ⟨fun hb => ⟨weak_int ?_, hst.app _⟩, fun hb => ⟨hc', int_succ hc' hcl, hst.app _, ?_⟩⟩
        · rw [hm, if_pos (any_true hcc (by rw [any_true ha (by rw [hb]; rfl), Bool.or_true]))]
        · rw [take_succ_get ha]
          intro x hxm
          rcases List.mem_append.1 hxm with hxm | hxm
          · exact hJ x hxm
          · rw [List.mem_singleton.1 hxm]; exact hb
      · rw [List.take_of_length_le hc'] at hJ
        refine ⟨hst, ?_⟩
        rw [List.any_eq_false]
        exact fun x hxm => by rw [hJ x hxm]; simp
    simp only [go_sem, simprocAttr, ↓reduceIte, h8]
    refine ⟨hc, int_succ hc hl, hst, ?_⟩
    rw [take_succ_get hcc]
    intro x hxm
    rcases List.mem_append.1 hxm with hxm | hxm
    · exact hI x hxm
    · rw [List.mem_singleton.1 hxm, h6, Bool.or_false]; exact decide_eq_false (by omega)
  · rw [List.take_of_length_le hc] at hI
    rw [hm, if_neg]
    intro h
    obtain ⟨c, hc1, hc2⟩ := List.any_eq_true.1 h
    rw [hI c hc1] at hc2
    cases hc2


theorem getD_map {α : Type} {f : α → AV} {l : List α} {i : Nat} {a : α} {d : AV} (h : l[i]? = some a) : (l.map f)[i]?.getD d = f a := by
  rw [List.getElem?_map, h]; rfl
theorem r9_cut (l : List Atom) : PureFn prog W0 58 [.sl 50 (l.map atomAV)] (.sl 50 ((l.take 13).map atomAV)) := by
  refine fn_pure [2] [] func58 rfl rfl ntmps58 rfl rfl (ids_map ids_atom _) fun hs σ => ?_
  have e : minI (l.length : Int) 13 = ((min l.length 13 : Nat) : Int) := by unfold minI; split <;> omega
  simp only [go_sem, simprocAttr, ↓reduceIte, List.length_map, e]
  refine ⟨by omega, ?_⟩
  rw [← List.map_take, List.take_eq_take_iff.2 (show min (min l.length 13) l.length = min 13 l.length by omega)]
  exact .refl _
theorem r9_cutProv (l : List Prov) : PureFn prog W0 60 [.sl 112 (l.map provAV)] (.sl 112 ((l.take 13).map provAV)) := by
  refine fn_pure [2] [] func60 rfl rfl ntmps60 rfl rfl (ids_map ids_prov _) fun hs σ => ?_
  have e : minI (l.length : Int) 13 = ((min l.length 13 : Nat) : Int) := by unfold minI; split <;> omega
  simp only [go_sem, simprocAttr, ↓reduceIte, List.length_map, e]
  refine ⟨by omega, ?_⟩
  rw [← List.map_take, List.take_eq_take_iff.2 (show min (min l.length 13) l.length = min 13 l.length by omega)]
  exact .refl _
theorem mayCl_cut (l : List Atom) : mayCl (single (l.take 13)) = mayCl (single l) := by
  rcases Nat.lt_or_ge 12 l.length with h | h
  · rw [mayCl, mayCl, if_pos (.inl (by simp [single]; omega)), if_pos (.inl (by simpa [single] using h))]
  · rw [List.take_of_length_le (by omega)]


theorem r9_may (p : Pkg) : PureFn prog W0 27 [pkgAV p] (.int .i64 (mayPkg p)) := by
  refine fn_pure [2] [1] func27 rfl rfl ntmps27 rfl rfl (.int _ _) fun hs σ => ?_
  simp only [go_sem, simprocAttr, ↓reduceIte, pkgAV]
  refine CallA.fn (r4_name p.name) ?_
  simp only [go_sem, simprocAttr, ↓reduceIte, pkgAV]
  refine CallP.fnG (fun _ => r4_is p.ver) ?_
  simp only [go_sem, simprocAttr, ↓reduceIte, pkgAV]
  refine ⟨fun h => weak_int (by rw [mayPkg, if_pos h]), fun h => ?_⟩
  have hm : mayPkg p = orL [mayCl p.pre, mayCl p.dep, mayCl p.rcm, mayCl (single p.con), mayCl (single p.brk), mayCl (single (p.prov.map provAtom))] := by rw [mayPkg, if_neg (by rw [h]; simp)]
  refine ⟨.of (by kernel_rfl), CallP.fn (r9_cut p.con) ?_⟩
  simp only [go_sem, simprocAttr, ↓reduceIte]
  refine CallP.fn (r4_singles (p.con.take 13) (by rw [List.length_take]; omega)) ?_
  simp only [go_sem, simprocAttr, ↓reduceIte]
  refine CallP.fn (r9_cut p.brk) ?_
  simp only [go_sem, simprocAttr, ↓reduceIte]
  refine CallP.fn (r4_singles (p.brk.take 13) (by rw [List.length_take]; omega)) ?_
  simp only [go_sem, simprocAttr, ↓reduceIte]
  refine CallP.fn (r9_cutProv p.prov) ?_
  simp only [go_sem, simprocAttr, ↓reduceIte]
  refine CallP.fn (r4_provided (p.prov.take 13) (by rw [List.length_take]; omega)) ?_
  simp only [go_sem, simprocAttr, ↓reduceIte]
  refine CallP.fn (r4_singles ((p.prov.take 13).map provAtom) (by rw [List.length_map, List.length_take]; omega)) ?_
  simp only [go_sem, simprocAttr, ↓reduceIte]
  let ls := [p.pre, p.dep, p.rcm, single (p.con.take 13), single (p.brk.take 13), single ((p.prov.take 13).map provAtom)]
  have hl : orL (ls.map mayCl) = mayPkg p := by
    rw [hm]
    simp only [ls, List.map_cons, List.map_nil, mayCl_cut, List.map_take]
  have e : [clausesAV p.pre, clausesAV p.dep, clausesAV p.rcm, clausesAV (single (p.con.take 13)), clausesAV (single (p.brk.take 13)), clausesAV (single ((p.prov.take 13).map provAtom))] = ls.map clausesAV := rfl
  simp only [e]
  refine LoopVC.upto [35] (.of (by kernel_rfl)) 6 (fun i A => A.env 36 = .int .i64 i ∧ A.st = σ ∧ orL ((ls.map mayCl).drop i) = mayPkg p) 0 (Nat.zero_le _) ?_ fun i B hi ⟨h8, hst, hI⟩ => ?_
  · simp only [go_sem, simprocAttr, ↓reduceIte]
    exact hl
  simp only [go_sem, simprocAttr, ↓reduceIte, h8, hst]
  refine ⟨fun hc => ?_, fun hc => weak_int ?_⟩
  · have hc' : i < ls.length := by show i < 6; omega
    obtain ⟨c, hcc⟩ := get_some hc'
    obtain ⟨hlt, hae⟩ := List.getElem?_eq_some_iff.1 hcc
    rw [List.drop_eq_getElem_cons (by simpa using hc'), List.getElem_map, hae] at hI
    simp only [getD_map hcc]
    refine ⟨by simpa using hc', trivial, CallA.fn (r9_mayCl c) ?_⟩
    simp only [go_sem, simprocAttr, ↓reduceIte, h8, hst]
    refine ⟨fun hq => weak_int (by rw [← hI, orL, if_pos hq]), fun hq => ⟨by omega, int_succ (show i < 6 by omega) (by rw [maxLen_eq]; omega), ?_⟩⟩
    rw [← hI, orL, if_neg (by simpa using hq)]
  · rw [List.drop_eq_nil_of_le (by show 6 ≤ i; omega)] at hI
    exact hI

/-- Lists that are small enough to be copied. -/
structure MayN (p : Pkg) : Prop where
  con : p.con.length ≤ 1048576
  brk : p.brk.length ≤ 1048576
  prov : p.prov.length ≤ 1048576

theorem re_may (p : Pkg) (hp : MayN p) : PureFn prog W0 67 [pkgAV p] (.int .i64 (mayPkg p)) := by
  refine fn_pure [2] [1] func67 rfl rfl ntmps67 rfl rfl (.int _ _) fun hs σ => ?_
  simp only [go_sem, simprocAttr, ↓reduceIte, pkgAV]
  refine CallA.fn (ve_parse p.ver) ?_
  have hpv : ∃ e u r, verPAV (verP p.ver) = .tup [.str e, .str u, .str r, .int .i64 (if isVer p.ver then 0 else 3)] := by
    cases h : verP p.ver with
    | none => exact ⟨_, _, _, by rw [isVer, h]; rfl⟩
    | some v => exact ⟨_, _, _, by rw [isVer, h]; rfl⟩
  obtain ⟨e, u, r, hpv⟩ := hpv
  rw [hpv]
  simp only [go_sem, simprocAttr, ↓reduceIte, pkgAV]
  refine CallA.fn (tx_name p.name) ?_
  simp only [go_sem, simprocAttr, ↓reduceIte, pkgAV]
  have hb : (!nameOk p.name || (if isVer p.ver = true then (0 : Int) else 3) != 0) = (!nameOk p.name || !isVer p.ver) := by cases isVer p.ver <;> rfl
  simp only [hb]
  refine ⟨fun h => weak_int (by rw [mayPkg, if_pos h]), fun h => ?_⟩
  have hm : mayPkg p = orL [mayCl p.pre, mayCl p.dep, mayCl p.rcm, mayCl (single p.con), mayCl (single p.brk), mayCl (single (p.prov.map provAtom))] := by rw [mayPkg, if_neg (by rw [h]; simp)]
  refine ⟨.of (by kernel_rfl), CallP.fn (re_singles p.con hp.con) ?_⟩
  simp only [go_sem, simprocAttr, ↓reduceIte]
  refine CallP.fn (re_singles p.brk hp.brk) ?_
  simp only [go_sem, simprocAttr, ↓reduceIte]
  refine CallP.fn (re_provided p.prov hp.prov) ?_
  simp only [go_sem, simprocAttr, ↓reduceIte]
  let ls := [p.pre, p.dep, p.rcm, single p.con, single p.brk, single (p.prov.map provAtom)]
  have hl : orL (ls.map mayCl) = mayPkg p := by
    rw [hm]
    simp only [ls, List.map_cons, List.map_nil]
  have e : [clausesAV p.pre, clausesAV p.dep, clausesAV p.rcm, clausesAV (single p.con), clausesAV (single p.brk), clausesAV (single (p.prov.map provAtom))] = ls.map clausesAV := rfl
  simp only [e]
  refine LoopVC.upto [41, 42] (.of (by kernel_rfl)) 6 (fun i A => A.env 43 = .int .i64 i ∧ A.st = σ ∧ orL ((ls.map mayCl).drop i) = mayPkg p) 0 (Nat.zero_le _) ?_ fun i B hi ⟨h8, hst, hI⟩ => ?_
  · simp only [go_sem, simprocAttr, ↓reduceIte]
    exact hl
  simp only [go_sem, simprocAttr, ↓reduceIte, h8, hst]
  refine ⟨fun hc => ?_, fun hc => weak_int ?_⟩
  · have hc' : i < ls.length := by show i < 6; omega
    obtain ⟨c, hcc⟩ := get_some hc'
    obtain ⟨hlt, hae⟩ := List.getElem?_eq_some_iff.1 hcc
    rw [List.drop_eq_getElem_cons (by simpa using hc'), List.getElem_map, hae] at hI
    simp only [atV_map hcc]
    refine ⟨by simpa using hc', trivial, CallA.fn (re_mayCl c) ?_⟩
    simp only [go_sem, simprocAttr, ↓reduceIte, h8, hst]
    refine ⟨fun hq => weak_int (by rw [← hI, orL, if_pos hq]), fun hq => ⟨by omega, int_succ (show i < 6 by omega) (by rw [maxLen_eq]; omega), ?_⟩⟩
    rw [← hI, orL, if_neg (by simpa using hq)]
  · rw [List.drop_eq_nil_of_le (by show 6 ≤ i; omega)] at hI
    exact hI

theorem re_same (p q : Pkg) : PureFn prog W0 69 [pkgAV q, .loc 56 (pkgAV p)] (.bool (sameNV p q)) := by
  refine fn_pure [3] [2] func69 rfl rfl ntmps69 rfl rfl (.bool _) fun hs σ => ?_
  simp only [go_sem, simprocAttr, ↓reduceIte, pkgAV]
  refine CallP.fnG (fun _ => ve_same q.ver p.ver) ?_
  simp only [go_sem, simprocAttr, ↓reduceIte]
  exact weak_bool rfl

theorem NotM.pkg (p : Pkg) : NotM (pkgAV p) := trivial
@[go_sem] theorem okM_pkgAV (g : Option Bool) (p : Pkg) : okM g (pkgAV p) = True := eq_true trivial
@[go_sem] theorem unm_pkgAV (p : Pkg) : unm (pkgAV p) = pkgAV p := rfl

theorem re_mayAll (l : List Pkg) (hp : ∀ p ∈ l, MayN p) : PureFn prog W0 39 [pkgsAV l] (.int .i64 (mayAll l)) := by
  refine fn_pure [2] [4, 8] func39 rfl rfl ntmps39 rfl rfl (.int _ _) fun hs σ => ?_
  have hl := (small_map (hs _ (List.mem_cons_self ..))).1
  simp only [go_sem, simprocAttr, ↓reduceIte, pkgsAV, List.length_map]
  refine ⟨fun h => weak_int (by rw [mayAll, if_pos ((lenN l 24).1 (by simpa using h))]), fun h => ?_⟩
  have h24 : ¬ 24 < l.length := fun e => by have := (lenN l 24).2 e; omega
  refine LoopVC.at [0] (.of (by kernel_rfl)) (fun A => Ext σ A.st ∧ orL (l.map mayPkg) = 0) ?_ fun B ⟨hst, h6⟩ => ?_
  · refine LoopVC.upto [0, 12, 13] (.of (by kernel_rfl)) l.length (fun i A => A.env 14 = .int .i64 i ∧ Ext σ A.st ∧ orL ((l.map mayPkg).drop i) = orL (l.map mayPkg)) 0 (Nat.zero_le _) ?_ fun i B hi ⟨h8, hst, hI⟩ => ?_
    · simp only [go_sem, simprocAttr, ↓reduceIte]
      simp [Ext.refl]
    simp only [go_sem, simprocAttr, ↓reduceIte, h8, List.length_map]
    refine ⟨fun hc => ⟨hc, ?_⟩, fun hc => ?_⟩
    · obtain ⟨a, ha⟩ := get_some hc
      obtain ⟨hlt, hae⟩ := List.getElem?_eq_some_iff.1 ha
      rw [List.drop_eq_getElem_cons (by simpa using hc), List.getElem_map, hae] at hI
      simp only [atV_map ha]
      simp only [go_sem, simprocAttr, ↓reduceIte, h8, List.length_map]
      refine ⟨by kernel_rfl, CallA.fn (re_may a (hp a (List.mem_of_getElem? ha))) ?_⟩
      simp only [go_sem, simprocAttr, ↓reduceIte, h8]
      refine ⟨fun hq => ⟨weak_int ?_, hst.app _⟩, fun hq => ⟨hc, int_succ hc hl, hst.app _, ?_⟩⟩
      · rw [orL, if_pos hq] at hI
        rw [mayAll, if_neg h24, if_pos (by rw [← hI]; exact hq), hI]
      · rw [← hI, orL, if_neg (by simpa using hq)]
    · rw [List.drop_eq_nil_of_le (by simpa using hc)] at hI
      exact ⟨hst, hI.symm⟩
  have hm : mayAll l = if dupL [] l = true then 4 else if 10 < (namesL l []).length then 12 else 0 := by rw [mayAll, if_neg h24, if_neg (by simp [h6])]
  simp only [go_sem, simprocAttr, ↓reduceIte, List.length_map]
  refine LoopVC.at [0, 24, 25] (.of (by kernel_rfl)) (fun A => ∃ v, A.env 6 = v ∧ Built σ A.st v 9 ((namesL l []).map .str) ∧ dupL [] l = false) ?_ fun B ⟨v, h6, hb, hd⟩ => ?_
  · refine LoopVC.upto [0, 24, 25] (.of (by kernel_rfl)) l.length (fun i A => ∃ v acc, A.env 6 = v ∧ A.env 26 = .int .i64 i ∧ Built σ A.st v 9 (acc.map .str) ∧ namesL (l.drop i) acc = namesL l [] ∧ dupL (l.take i) (l.drop i) = dupL [] l ∧ acc.length ≤ i) 0 (Nat.zero_le _) ?_ fun i B hi ⟨v, acc, h6, h8, hb, hn, hd, hal⟩ => ?_
    · simp only [go_sem, simprocAttr, ↓reduceIte]
      exact ⟨_, [], rfl, Built.nil hst _, by simp⟩
    simp only [go_sem, simprocAttr, ↓reduceIte, h6, h8, hb.ok, hb.un, List.length_map]
    refine ⟨fun hc => ⟨hc, ?_⟩, fun hc => ?_⟩
    · obtain ⟨a, ha⟩ := get_some hc
      obtain ⟨hlt, hae⟩ := List.getElem?_eq_some_iff.1 ha
      rw [List.drop_eq_getElem_cons hc, hae] at hn hd
      simp only [atV_map ha]
      simp only [go_sem, simprocAttr, ↓reduceIte, h6, h8, hb.ok, hb.un, List.length_map]
      rw [← List.map_take]
      refine ⟨by kernel_rfl, ⟨Nat.zero_le _, hi⟩, CallA.fn (anPkg pkgAV NotM.pkg (l.take i) (sameNV a) _ [.loc 56 (pkgAV a)] (fun q _ => re_same a q)) ?_⟩
      simp only [go_sem, simprocAttr, ↓reduceIte, pkgAV, h6, h8, hb.ok, hb.un]
      rw [dupL] at hd
      refine ⟨fun hq => ⟨weak_int ?_, hb.ext.app _⟩, fun hq => CallA.fn ((an_str acc a.name).weak (.cons hb.weak (.cons (.refl _) .nil))) ?_⟩
      · rw [hm, ← hd, hq, if_pos (by simp)]
      rw [hq, Bool.false_or, ← take_succ_get ha] at hd
      simp only [go_sem, simprocAttr, ↓reduceIte, pkgAV, h6, h8, hb.ok, hb.un]
      rw [namesL] at hn
      have hb2 := (hb.more [none])
      refine ⟨fun h => ?_, fun h => ⟨hc, v, acc, rfl, int_succ hc hl, hb2, ?_, hd, by omega⟩⟩
      · refine AppA.own 1048576 (by kernel_rfl) hb2.bld (.lit _ _ _) (by simp; omega) fun v' σ' ha' => ?_
        have hb' := hb2.app ha'
        simp only [go_sem, simprocAttr, ↓reduceIte, h6, h8, hb'.ok, hb'.un]
        refine ⟨hc, _, acc ++ [a.name], rfl, int_succ hc hl, by simpa using hb', ?_, hd, by simp; omega⟩
        rw [if_neg (by simp [h])] at hn
        exact hn
      · rw [if_pos h] at hn
        exact hn
    · rw [List.drop_eq_nil_of_le hc] at hn hd
      exact ⟨_, rfl, by rw [← hn]; exact hb, hd.symm⟩
  simp only [go_sem, simprocAttr, ↓reduceIte, h6, hb.ok, hb.un, hb.len, hb.lenC, List.length_map]
  refine ⟨fun hq => ⟨weak_int ?_, hb.ext⟩, fun hq => ⟨weak_int ?_, hb.ext⟩⟩
  · rw [hm, hd, if_neg (by simp), if_pos ((lenN _ 10).1 hq)]
  · rw [hm, hd, if_neg (by simp), if_neg (fun e => hq ((lenN _ 10).2 e))]
end Go.Proofs.Tryz
end
section
set_option linter.unusedSimpArgs false
set_option linter.unusedVariables false
namespace Go.Proofs.Tryz
open Go Go.Av
set_option maxRecDepth 10000
set_option linter.unusedSimpArgs false
set_option linter.unusedVariables false
variable {W0 : World}

theorem r9_mayAll (l : List Pkg) : PureFn prog W0 11 [pkgsAV l] (.int .i64 (mayAll l)) := by
  refine fn_pure [2] [4, 8, 11] func11 rfl rfl ntmps11 rfl rfl (.int _ _) fun hs σ => ?_
  have hl := (small_map (hs _ (List.mem_cons_self ..))).1
  simp only [go_sem, simprocAttr, ↓reduceIte, pkgsAV, List.length_map]
  refine ⟨fun h => weak_int (by rw [mayAll, if_pos ((lenN l 24).1 (by simpa using h))]), fun h => ?_⟩
  have h24 : ¬ 24 < l.length := fun e => by have := (lenN l 24).2 e; omega
  refine LoopVC.at [0] (.of (by kernel_rfl)) (fun A => Ext σ A.st ∧ orL (l.map mayPkg) = 0) ?_ fun B ⟨hst, h6⟩ => ?_
  · refine LoopVC.upto [0, 15, 16] (.of (by kernel_rfl)) l.length (fun i A => A.env 17 = .int .i64 i ∧ Ext σ A.st ∧ orL ((l.map mayPkg).drop i) = orL (l.map mayPkg)) 0 (Nat.zero_le _) ?_ fun i B hi ⟨h8, hst, hI⟩ => ?_
    · simp only [go_sem, simprocAttr, ↓reduceIte]
      simp [Ext.refl]
    simp only [go_sem, simprocAttr, ↓reduceIte, h8, List.length_map]
    refine ⟨fun hc => ⟨hc, ?_⟩, fun hc => ?_⟩
    · obtain ⟨a, ha⟩ := get_some hc
      obtain ⟨hlt, hae⟩ := List.getElem?_eq_some_iff.1 ha
      rw [List.drop_eq_getElem_cons (by simpa using hc), List.getElem_map, hae] at hI
      simp only [atV_map ha]
      simp only [go_sem, simprocAttr, ↓reduceIte, h8, List.length_map]
      refine ⟨by kernel_rfl, CallA.fn (r9_may a) ?_⟩
      simp only [go_sem, simprocAttr, ↓reduceIte, h8]
      refine ⟨fun hq => ⟨weak_int ?_, hst.app _⟩, fun hq => ⟨hc, int_succ hc hl, hst.app _, ?_⟩⟩
      · rw [orL, if_pos hq] at hI
        rw [mayAll, if_neg h24, if_pos (by rw [← hI]; exact hq), hI]
      · rw [← hI, orL, if_neg (by simpa using hq)]
    · rw [List.drop_eq_nil_of_le (by simpa using hc)] at hI
      exact ⟨hst, hI.symm⟩
  have hm : mayAll l = if dupL [] l = true then 4 else if 10 < (namesL l []).length then 12 else 0 := by rw [mayAll, if_neg h24, if_neg (by simp [h6])]
  simp only [go_sem, simprocAttr, ↓reduceIte, List.length_map]
  refine LoopVC.at [0, 27, 28] (.of (by kernel_rfl)) (fun A => ∃ v, A.env 6 = v ∧ Built σ A.st v 9 ((namesL l []).map .str) ∧ dupL [] l = false) ?_ fun B ⟨v, h6, hb, hd⟩ => ?_
  · refine LoopVC.upto [0, 27, 28] (.of (by kernel_rfl)) l.length (fun i A => ∃ v acc, A.env 6 = v ∧ A.env 29 = .int .i64 i ∧ Built σ A.st v 9 (acc.map .str) ∧ namesL (l.drop i) acc = namesL l [] ∧ dupL (l.take i) (l.drop i) = dupL [] l ∧ acc.length ≤ i ∧ ∀ n, acc.any (fun x => n == x) = (l.take i).any (fun q => q.name == n)) 0 (Nat.zero_le _) ?_ fun i B hi ⟨v, acc, h6, h8, hb, hn, hd, hal, hnm⟩ => ?_
    · simp only [go_sem, simprocAttr, ↓reduceIte]
      exact ⟨_, [], rfl, Built.nil hst _, by simp⟩
    simp only [go_sem, simprocAttr, ↓reduceIte, h6, h8, hb.ok, hb.un, List.length_map]
    refine ⟨fun hc => ⟨hc, ?_⟩, fun hc => ?_⟩
    · obtain ⟨a, ha⟩ := get_some hc
      obtain ⟨hlt, hae⟩ := List.getElem?_eq_some_iff.1 ha
      rw [List.drop_eq_getElem_cons hc, hae] at hn hd
      simp only [atV_map ha]
      simp only [go_sem, simprocAttr, ↓reduceIte, h6, h8, hb.ok, hb.un, List.length_map]
      rw [← List.map_take]
      refine ⟨by kernel_rfl, ⟨Nat.zero_le _, hi⟩, ?_⟩
      rw [dupL] at hd
      rw [namesL] at hn
      have hb2 := (hb.more [none])
      have hil : (l.take i).length = i := by rw [List.length_take]; omega
      refine LoopVC.at [0, 6, 8, 27, 28, 29] (.of (by kernel_rfl)) (fun A => Ext (B.st ++ [none]) A.st ∧ A.env 9 = .bool ((l.take i).any fun q => q.name == a.name) ∧ (l.take i).any (sameNV a) = false) ?_ fun A ⟨hst, h9, hd2⟩ => ?_
      · refine LoopVC.upto [0, 6, 8, 27, 28, 29, 36, 37] (.of (by kernel_rfl)) i (fun j A => A.env 38 = .int .i64 j ∧ Ext (B.st ++ [none]) A.st ∧ A.env 9 = .bool (((l.take i).take j).any fun q => q.name == a.name) ∧ ((l.take i).take j).any (sameNV a) = false) 0 (Nat.zero_le _) ?_ fun j A hj ⟨h38, hst, h9, hd2⟩ => ?_
        · simp only [go_sem, simprocAttr, ↓reduceIte, List.length_map]
          exact ⟨.refl _, by simp, by simp⟩
        simp only [go_sem, simprocAttr, ↓reduceIte, h38, h9, List.length_map]
        refine ⟨fun hj' => ⟨hj', ?_⟩, fun hj' => ?_⟩
        · obtain ⟨b, hbj⟩ := get_some hj'
          have hjl : j < i := by omega
          simp only [atV_map hbj]
          simp only [go_sem, simprocAttr, ↓reduceIte, pkgAV, h38, h9]
          have he : ∀ f : Pkg → Bool, ((l.take i).take (j + 1)).any f = (((l.take i).take j).any f || f b) := fun f => by rw [take_succ_get hbj, List.any_append]; simp
          refine ⟨fun hq => CallA.fn (r4_sameVersion b.ver a.ver) ?_, fun hq => ?_⟩
          · simp only [go_sem, simprocAttr, ↓reduceIte, h38, h9]
            refine ⟨fun hv => ⟨weak_int ?_, hb2.ext.trans (hst.app _)⟩, fun hv => ⟨hjl, int_succ hjl (by omega), hst.app _, ?_, ?_⟩⟩
            · have : (l.take i).any (sameNV a) = true := any_true hbj (by simp [sameNV, hq, hv])
              rw [hm, ← hd, this, if_pos (by simp)]
            · rw [he]; simp [hq]
            · rw [he, hd2]; simp [sameNV, hv]
          · refine ⟨hjl, int_succ hjl (by omega), hst.app _, ?_, ?_⟩
            · rw [he]; simp [hq]
            · rw [he, hd2]; simp [sameNV, hq]
        · rw [List.take_of_length_le hj'] at h9 hd2 ⊢
          exact ⟨hst, rfl, hd2⟩
      have hb3 := hb2.on hst
      rw [hd2, Bool.false_or, ← take_succ_get ha] at hd
      have hns : ∀ acc' : List (List UInt8), acc' = (if (acc.any fun x => a.name == x) = true then acc else acc ++ [a.name]) → ∀ n, acc'.any (fun x => n == x) = (l.take (i + 1)).any (fun q => q.name == n) := fun acc' e n => by
        rw [take_succ_get ha, List.any_append, ← hnm n, e]
        by_cases hx : (acc.any fun x => a.name == x) = true
        · rw [if_pos hx]
          by_cases hna : a.name = n
          · subst hna; simp [hx]
          · simp [hna]
        · rw [if_neg hx, List.any_append]
          have : (n == a.name) = (a.name == n) := by rw [Bool.eq_iff_iff, beq_iff_eq, beq_iff_eq]; exact ⟨Eq.symm, Eq.symm⟩
          simp [this]
      simp only [go_sem, simprocAttr, ↓reduceIte, pkgAV, h6, h8, h9, hb3.ok, hb3.un]
      refine ⟨fun h => ?_, fun h => ⟨hc, v, acc, rfl, int_succ hc hl, hb3, ?_, hd, by omega, ?_⟩⟩
      · refine AppA.own 1048576 (by kernel_rfl) hb3.bld (.lit _ _ _) (by simp; omega) fun v' σ' ha' => ?_
        have hb' := hb3.app ha'
        simp only [go_sem, simprocAttr, ↓reduceIte, h6, h8, hb'.ok, hb'.un]
        rw [← hnm] at h
        rw [if_neg (by rw [h]; simp)] at hn hns
        refine ⟨hc, _, acc ++ [a.name], rfl, int_succ hc hl, by simpa using hb', hn, hd, by simp; omega, hns _ rfl⟩
      · rw [← hnm] at h
        rw [if_pos h] at hn
        exact hn
      · rw [← hnm] at h
        rw [if_pos h] at hns
        exact hns _ rfl
    · rw [List.drop_eq_nil_of_le hc] at hn hd
      exact ⟨_, rfl, by rw [← hn]; exact hb, hd.symm⟩
  simp only [go_sem, simprocAttr, ↓reduceIte, h6, hb.ok, hb.un, hb.len, hb.lenC, List.length_map]
  refine ⟨fun hq => ⟨weak_int ?_, hb.ext⟩, fun hq => ⟨weak_int ?_, hb.ext⟩⟩
  · rw [hm, hd, if_neg (by simp), if_pos ((lenN _ 10).1 hq)]
  · rw [hm, hd, if_neg (by simp), if_neg (fun e => hq ((lenN _ 10).2 e))]
end Go.Proofs.Tryz
end
