/- Texts that the last one of this claim rests on: a layer over the guide's own conditions for code; contracts of the functions that the law reaches, one by one. No conditions beside those of the given rows. -/
import Derived.Test.YtljcjoglabbcoaaGreatDoorWl
import Derived.Test.YtljcjoglabbcoaaGreatDoorWn
import Derived.Test.YtljcjoglabbcoaaGreatDoorWo
import Derived.Test.YtljcjoglabbcoaaGreatDoorWp
section
namespace Go.Proofs.Tryz
open Go Go.Av
set_option maxRecDepth 10000
set_option linter.unusedSimpArgs false
set_option linter.unusedVariables false

theorem ofT_atom {n : Nat} {a : AV} (h : OfT prog (n + 2) 48 a) : ∃ p, a = atomAV p := by
  obtain ⟨xs, rfl, g⟩ := ofT_flds (ts := [9, 3, 9]) (by kernel_rfl) h
  obtain _ | ⟨x, _ | ⟨y, _ | ⟨z, _ | _⟩⟩⟩ := xs <;> simp only [AllT, and_false, and_true] at g
  obtain ⟨h1, h2, h3⟩ := g
  obtain ⟨s, rfl, _⟩ := ofT_str (by kernel_rfl) h1
  obtain ⟨k, rfl, _⟩ := ofT_int (k := .i64) (by kernel_rfl) h2
  obtain ⟨v, rfl, _⟩ := ofT_str (by kernel_rfl) h3
  exact ⟨⟨s, k, v⟩, rfl⟩
theorem ofT_prov {n : Nat} {a : AV} (h : OfT prog (n + 2) 105 a) : ∃ p, a = provAV p := by
  obtain ⟨xs, rfl, g⟩ := ofT_flds (ts := [9, 9]) (by kernel_rfl) h
  obtain _ | ⟨x, _ | ⟨y, _ | _⟩⟩ := xs <;> simp only [AllT, and_false, and_true] at g
  obtain ⟨h1, h2⟩ := g
  obtain ⟨s, rfl, _⟩ := ofT_str (by kernel_rfl) h1
  obtain ⟨v, rfl, _⟩ := ofT_str (by kernel_rfl) h2
  exact ⟨⟨s, v⟩, rfl⟩
/-- Lists that lie in memory. -/
structure PkgR (p : Pkg) : Prop where
  name : p.name.length ≤ reachBytes
  ver : p.ver.length ≤ reachBytes
  pre : p.pre.length ≤ reachBytes
  dep : p.dep.length ≤ reachBytes
  rcm : p.rcm.length ≤ reachBytes
  con : p.con.length ≤ reachBytes
  brk : p.brk.length ≤ reachBytes
  prov : p.prov.length ≤ reachBytes
theorem ofT_atoms {n : Nat} {a : AV} (h : OfT prog (n + 3) 35 a) : ∃ p, a = atomsAV p ∧ p.length ≤ reachBytes := by
  obtain ⟨ps, rfl, hl⟩ := ofT_map (f := atomAV) (e := 48) (by kernel_rfl) (fun x => ofT_atom) h
  exact ⟨ps, rfl, hl⟩
theorem ofT_clause {n : Nat} {a : AV} (h : OfT prog (n + 3) 49 a) : ∃ p, a = atomsAV p := by
  obtain ⟨ps, rfl, _⟩ := ofT_map (f := atomAV) (e := 48) (by kernel_rfl) (fun x => ofT_atom) h
  exact ⟨ps, rfl⟩
theorem ofT_clauses {n : Nat} {a : AV} (h : OfT prog (n + 4) 34 a) : ∃ p, a = clausesAV p ∧ p.length ≤ reachBytes := by
  obtain ⟨ps, rfl, hl⟩ := ofT_map (f := atomsAV) (e := 49) (by kernel_rfl) (fun x => ofT_clause) h
  exact ⟨ps, rfl, hl⟩
theorem ofT_provs {n : Nat} {a : AV} (h : OfT prog (n + 3) 36 a) : ∃ p, a = provsAV p ∧ p.length ≤ reachBytes := by
  obtain ⟨ps, rfl, hl⟩ := ofT_map (f := provAV) (e := 105) (by kernel_rfl) (fun x => ofT_prov) h
  exact ⟨ps, rfl, hl⟩
theorem ofT_pkg {n : Nat} {a : AV} (h : OfT prog (n + 5) 38 a) : ∃ p, a = pkgAV p ∧ PkgR p := by
  obtain ⟨xs, rfl, g⟩ := ofT_flds (ts := [9, 9, 34, 34, 34, 35, 35, 36, 4]) (by kernel_rfl) h
  obtain _ | ⟨x1, _ | ⟨x2, _ | ⟨x3, _ | ⟨x4, _ | ⟨x5, _ | ⟨x6, _ | ⟨x7, _ | ⟨x8, _ | ⟨x9, _ | _⟩⟩⟩⟩⟩⟩⟩⟩⟩ := xs <;> simp only [AllT, and_false, and_true] at g
  obtain ⟨h1, h2, h3, h4, h5, h6, h7, h8, h9⟩ := g
  obtain ⟨y1, rfl, l1⟩ := ofT_str (by kernel_rfl) h1
  obtain ⟨y2, rfl, l2⟩ := ofT_str (by kernel_rfl) h2
  obtain ⟨y3, rfl, l3⟩ := ofT_clauses (n := n) h3
  obtain ⟨y4, rfl, l4⟩ := ofT_clauses (n := n) h4
  obtain ⟨y5, rfl, l5⟩ := ofT_clauses (n := n) h5
  obtain ⟨y6, rfl, l6⟩ := ofT_atoms (n := n + 1) h6
  obtain ⟨y7, rfl, l7⟩ := ofT_atoms (n := n + 1) h7
  obtain ⟨y8, rfl, l8⟩ := ofT_provs (n := n + 1) h8
  obtain ⟨y9, rfl⟩ := ofT_bool (by kernel_rfl) h9
  exact ⟨⟨y1, y2, y3, y4, y5, y6, y7, y8, y9⟩, rfl, ⟨l1, l2, l3, l4, l5, l6, l7, l8⟩⟩
theorem ofT_pkgs {n : Nat} {a : AV} (h : OfT prog (n + 6) 22 a) : ∃ l, a = pkgsAV l ∧ l.length ≤ reachBytes ∧ ∀ p ∈ l, PkgR p := by
  obtain ⟨xs, rfl, hl, hx⟩ := ofT_sl (e := 38) (by kernel_rfl) h
  obtain ⟨ps, rfl⟩ := all_map (f := fun q : { p : Pkg // PkgR p } => pkgAV q.1) fun x hm => by
    obtain ⟨p, rfl, h1⟩ := ofT_pkg (hx x hm)
    exact ⟨⟨p, h1⟩, rfl⟩
  refine ⟨ps.map (·.1), by rw [pkgsAV, List.map_map]; rfl, by simpa using hl, fun p hp => ?_⟩
  obtain ⟨q, _, rfl⟩ := List.mem_map.1 hp
  exact q.2
end Go.Proofs.Tryz
end
section
namespace Go.Proofs.Tryz
open Go Go.Av
set_option maxRecDepth 10000
set_option linter.unusedSimpArgs false
set_option linter.unusedVariables false
variable {W0 : World}

theorem reach_eq : reachBytes = 140737488351232 := by decide

theorem l19_light (l : List Pkg) (hp : ∀ p ∈ l, PkgR p) : PureFn prog W0 15 [pkgsAV l] (.bool (lightL 0 l)) := by
  refine fn_pure [2] [4] func15 rfl rfl ntmps15 rfl rfl (.bool _) fun hs σ => ?_
  have hl := (small_map (hs _ (List.mem_cons_self ..))).1
  have hls := (small_map (hs _ (List.mem_cons_self ..))).2
  simp only [go_sem, simprocAttr, ↓reduceIte, pkgsAV, List.length_map]
  refine LoopVC.upto [9, 10] (.of (by kernel_rfl)) l.length (fun i A => A.env 11 = .int .i64 i ∧ Ext σ A.st ∧ lightL i (l.drop i) = lightL 0 l) 0 (Nat.zero_le _) ?_ fun i B hi ⟨h8, hst, hI⟩ => ?_
  · simp only [go_sem, simprocAttr, ↓reduceIte]
    simp [Ext.refl]
  simp only [go_sem, simprocAttr, ↓reduceIte, h8, List.length_map]
  refine ⟨fun hc => ⟨hc, ?_⟩, fun hc => ?_⟩
  · obtain ⟨p, hpi⟩ := get_some hc
    simp only [atV_map hpi]
    have hR := hp p (List.mem_of_getElem? hpi)
    have r1 := hR.con; have r2 := hR.brk; have r3 := hR.prov
    rw [reach_eq] at r1 r2 r3
    have hw1 : IntKind.i64.wrap ((p.con.length : Int) + (p.brk.length : Int)) = ((p.con.length : Int) + (p.brk.length : Int)) := wrap_in (by omega)
    have hw2 : IntKind.i64.wrap ((p.con.length : Int) + (p.brk.length : Int) + (p.prov.length : Int)) = ((p.con.length : Int) + (p.brk.length : Int) + (p.prov.length : Int)) := wrap_in (by omega)
    rw [List.drop_eq_getElem_cons hc, lightL] at hI
    have hpe : l[i] = p := (List.getElem?_eq_some_iff.1 hpi).2
    rw [hpe] at hI
    simp only [go_sem, simprocAttr, ↓reduceIte, pkgAV, atomsAV, provsAV, h8, List.length_map, hw1, hw2]
    have e3 : [clausesAV p.pre, clausesAV p.dep, clausesAV p.rcm] = [p.pre, p.dep, p.rcm].map clausesAV := rfl
    refine ⟨fun hb => ⟨weak_bool ?_, hst.app _⟩, fun hb => ?_⟩
    · have : lightP i p = false := by
        unfold lightP
        simp only [Bool.or_eq_true, decide_eq_true_eq] at hb
        rcases hb with hb | hb
        · rw [decide_eq_false (show ¬ i < 26 by omega)]; rfl
        · rw [decide_eq_false (show ¬ p.con.length + p.brk.length + p.prov.length ≤ 40 by omega), Bool.and_false]; rfl
      rw [← hI, this]; rfl
    simp only [Bool.or_eq_false_iff, decide_eq_false_iff_not] at hb
    have hP : lightP i p = [p.pre, p.dep, p.rcm].all lightD := by
      unfold lightP
      rw [decide_eq_true (show i < 26 by omega), decide_eq_true (show p.con.length + p.brk.length + p.prov.length ≤ 40 by omega)]; rfl
    simp only [e3]
    have hds := hls p (List.mem_of_getElem? hpi)
    refine LoopVC.ats [9, 10, 11] (.of (by kernel_rfl)) (fun A => Ext σ A.st ∧ lightP i p = true) ?_ fun B2 ⟨hst, h6⟩ => ?_
    · refine LoopVC.upto [9, 10, 11, 38] (.of (by kernel_rfl)) 3 (fun j A => A.env 39 = .int .i64 j ∧ Ext σ A.st ∧ ([p.pre, p.dep, p.rcm].drop j).all lightD = [p.pre, p.dep, p.rcm].all lightD) 0 (Nat.zero_le _) ?_ fun j B2 hj ⟨h39, hst, hJ⟩ => ?_
      · simp only [go_sem, simprocAttr, ↓reduceIte]
        exact hst.app _
      simp only [go_sem, simprocAttr, ↓reduceIte, h39]
      simp only [e3]
      refine ⟨fun hc2 => ?_, fun hc2 => ?_⟩
      · have hc3 : j < [p.pre, p.dep, p.rcm].length := by show j < 3; omega
        obtain ⟨d, hdj⟩ := get_some hc3
        have hde := (List.getElem?_eq_some_iff.1 hdj).2
        rw [List.drop_eq_getElem_cons hc3, hde, List.all_cons] at hJ
        simp only [getD_map hdj]
        simp only [go_sem, simprocAttr, ↓reduceIte, clausesAV, h39, List.length_map]
        refine ⟨hc3, ?_⟩
        have hlD : lightD d = (decide (d.length ≤ 14) && d.all fun c => decide (c.length ≤ 10)) := rfl
        refine ⟨fun hb => ⟨weak_bool ?_, hst⟩, fun hb => ?_⟩
        · rw [← hI, hP, ← hJ, hlD, decide_eq_false (by omega)]; rfl
        rw [decide_eq_true (show d.length ≤ 14 by omega), Bool.true_and] at hlD
        refine LoopVC.ats [9, 10, 11, 38, 39] (.of (by kernel_rfl)) (fun A => Ext σ A.st ∧ (d.all fun c => decide (c.length ≤ 10)) = true) ?_ fun B3 ⟨hst, h6⟩ => ?_
        · refine LoopVC.upto [9, 10, 11, 38, 39, 45, 46] (.of (by kernel_rfl)) d.length (fun k A => A.env 47 = .int .i64 k ∧ Ext σ A.st ∧ ∀ c ∈ d.take k, c.length ≤ 10) 0 (Nat.zero_le _) ?_ fun k B3 hk ⟨h47, hst, hK⟩ => ?_
          · simp only [go_sem, simprocAttr, ↓reduceIte]
            simp [hst]
          simp only [go_sem, simprocAttr, ↓reduceIte, h47, List.length_map]
          refine ⟨fun hc4 => ⟨hc4, ?_⟩, fun hc4 => ?_⟩
          · obtain ⟨c, hck⟩ := get_some hc4
            simp only [atV_map hck]
            simp only [go_sem, simprocAttr, ↓reduceIte, atomsAV, h47, List.length_map]
            refine ⟨fun hb => ⟨weak_bool ?_, hst⟩, fun hb => ⟨hc4, int_succ hc4 (by rw [maxLen_eq]; omega), hst, ?_⟩⟩
            · have : (d.all fun c => decide (c.length ≤ 10)) = false := by
                rw [List.all_eq_false]
                exact ⟨c, List.mem_of_getElem? hck, by simp; omega⟩
              rw [← hI, hP, ← hJ, hlD, this]; rfl
            · rw [take_succ_get hck]
              intro x hx
              rcases List.mem_append.1 hx with hx | hx
              · exact hK x hx
              · rw [List.mem_singleton.1 hx]; omega
          · rw [List.take_of_length_le hc4] at hK
            exact ⟨hst, List.all_eq_true.2 fun c hcm => decide_eq_true (hK c hcm)⟩
        simp only [go_sem, simprocAttr, ↓reduceIte, h39]
        refine ⟨by omega, int_succ (show j < 3 by omega) (by rw [maxLen_eq]; omega), hst, ?_⟩
        rw [hlD, h6, Bool.true_and] at hJ
        simpa using hJ
      · have : j = 3 := by omega
        subst this
        exact ⟨hst, by rw [hP, ← hJ]; rfl⟩
    simp only [go_sem, simprocAttr, ↓reduceIte, h8]
    refine ⟨hc, int_succ hc hl, hst, ?_⟩
    rw [h6, Bool.true_and] at hI
    exact hI
  · have : i = l.length := by omega
    subst this
    rw [List.drop_length] at hI
    exact ⟨weak_bool hI, hst⟩

theorem l19_few (l : List Pkg) (hp : ∀ p ∈ l, PkgR p) : PureFn prog W0 8 [pkgsAV l] (.bool (lightL 0 l && decide (l.length ≤ 7))) := by
  refine fn_pure [2] [] func8 rfl rfl ntmps8 rfl rfl (.bool _) fun hs σ => ?_
  simp only [go_sem, simprocAttr, ↓reduceIte]
  refine CallA.fn (l19_light l hp) ?_
  simp only [go_sem, simprocAttr, ↓reduceIte, pkgsAV, List.length_map]
  exact weak_bool (by congr 1; exact decide_eq_decide.2 (by omega))
end Go.Proofs.Tryz
end
section
namespace Go.Proofs.Tryz
open Go Go.Av
set_option maxRecDepth 10000
set_option linter.unusedSimpArgs false
set_option linter.unusedVariables false
variable {W0 : World}

theorem canE_sel {all : List Pkg} {asm : List Int} : canE all asm = true ↔ (∀ l ∈ asm, wfL all.length l = true) ∧ ∃ S, SelOk all S ∧ ∀ l ∈ asm, litS S l := by
  rw [← satA_sel, canE]
  by_cases h : satA all.length (allL all 0 all) asm
  · rw [satB_true h]; simp [h]
  · rw [satB_false h]; simp [h]
theorem canE_sat {all : List Pkg} {asm : List Int} : canE all asm = true ↔ satA all.length (allL all 0 all) asm := by rw [canE_sel, satA_sel]

theorem aw_can {asm : List Int} (M : Nat → Bool) (h : (asm.all (wfL 3) && (setT M [[-1, 2], [-3, -2]] && asm.all (litT M))) = true) : canE awL asm = true := by
  rw [canE_sat, aw_cls]
  simp only [Bool.and_eq_true, List.all_eq_true] at h
  exact ⟨h.1, M, h.2.1, h.2.2⟩
theorem aw_not {asm : List Int} (h : ∀ M, setT M [[-1, 2], [-3, -2]] = true → asm.all (litT M) = false) : canE awL asm = false := by
  have : ¬ canE awL asm = true := fun e => by
    rw [canE_sat, aw_cls] at e
    obtain ⟨_, M, h1, h2⟩ := e
    have := h M h1
    rw [List.all_eq_true.2 h2] at this
    cases this
  simpa using this

theorem aw_rep : ∃ r1 r2, reportE awL = [⟨[97, 97], [49], true, [1], [2]⟩, r1, r2] := by
  have c1 : canE awL [litN 0] = true := aw_can (fun i => decide (i ≤ 2)) (by decide +kernel)
  have c2 : canE awL [litN 1] = true := aw_can (fun i => decide (i = 2)) (by decide +kernel)
  have c3 : canE awL [litN 2] = true := aw_can (fun i => decide (i = 3)) (by decide +kernel)
  have n1 : canE awL [litN 0, -litN 1] = false := aw_not fun M h => by
    simp [setT, claT, litT, litN] at h ⊢
    cases h1 : M 1 <;> cases h2 : M 2 <;> simp_all
  have n2 : canE awL [litN 0, -litN 2] = true := aw_can (fun i => decide (i ≤ 2)) (by decide +kernel)
  have m1 : canE awL [litN 0, litN 1] = true := aw_can (fun i => decide (i ≤ 2)) (by decide +kernel)
  have m2 : canE awL [litN 0, litN 2] = false := aw_not fun M h => by
    simp [setT, claT, litT, litN] at h ⊢
    cases h1 : M 1 <;> cases h2 : M 2 <;> cases h3 : M 3 <;> simp_all
  refine ⟨repE awL 1 awB, repE awL 2 awC, ?_⟩
  have e0 : repE awL 0 awA = ⟨[97, 97], [49], true, [1], [2]⟩ := by
    have er : List.range awL.length = [0, 1, 2] := rfl
    unfold repE
    rw [c1, er]
    have x0 : needsE awL 0 0 = false := by simp [needsE]
    have x1 : needsE awL 0 1 = true := by simp [needsE, c1, n1]
    have x2 : needsE awL 0 2 = false := by simp [needsE, c1, n2]
    have y0 : neverE awL 0 0 = false := by simp [neverE]
    have y1 : neverE awL 0 1 = false := by simp [neverE, m1]
    have y2 : neverE awL 0 2 = true := by simp [neverE, c1, c3, m2]
    simp [List.filter, x0, x1, x2, y0, y1, y2, awA]
  rw [← e0]
  rfl

theorem l19_awake : PureFn prog W0 9 [] (.bool true) := by
  refine fn_pure [0] [] func9 rfl rfl ntmps9 rfl rfl (.bool _) fun hs σ => ?_
  simp only [go_sem, simprocAttr, ↓reduceIte]
  refine CallA.fn ((st_report awL (fun p hp => ?_) (by decide)).weak (.cons (.sub (subB_sound (n := 10) (by kernel_rfl))) .nil)) ?_
  · simp [awL] at hp
    rcases hp with rfl | rfl | rfl <;> exact ⟨by decide, by decide, by decide⟩
  obtain ⟨r1, r2, hr⟩ := aw_rep
  rw [if_pos aw_may, aw_may, hr]
  have a0 : ∀ (x : AV) (l : List AV), atV (x :: l) 0 = x := fun _ _ => rfl
  simp only [go_sem, simprocAttr, ↓reduceIte, repsAV, repAV, nlAV, a0]
  done
end Go.Proofs.Tryz
end
section
namespace Go.Proofs.Tryz
open Go Go.Av
set_option maxRecDepth 10000
set_option linter.unusedSimpArgs false
set_option linter.unusedVariables false
variable {W0 : World}

theorem bare_can {all : List Pkg} {i : Nat} {p : Pkg} (hi : all[i]? = some p) (hb : bareP p = true) : canE all [litN i] = true :=
  canE_sel.2 ⟨by simp; exact wfL_lit (List.getElem?_eq_some_iff.1 hi).1, _, sel_bare hi hb, by simp; exact (litS_pos _ _).2 (by simp)⟩
theorem bare_needs {all : List Pkg} {i j : Nat} {p : Pkg} (hi : all[i]? = some p) (hb : bareP p = true) (hj : j < all.length) : canE all [litN i, -litN j] = !(i == j) := by
  by_cases e : i = j
  · subst e
    have : ¬ canE all [litN i, -litN i] = true := fun h => by
      obtain ⟨_, S, _, h2⟩ := canE_sel.1 h
      have a := (litS_pos _ _).1 (h2 (litN i) (by simp))
      have b := (litS_not _ _).1 (h2 (-litN i) (by simp))
      rw [a] at b; cases b
    simpa using this
  · have : (i == j) = false := by simp [e]
    rw [this]
    refine canE_sel.2 ⟨?_, _, sel_bare hi hb, ?_⟩
    · intro l hl
      simp at hl
      rcases hl with rfl | rfl
      · exact wfL_lit (List.getElem?_eq_some_iff.1 hi).1
      · exact wfL_not hj
    · intro l hl
      simp at hl
      rcases hl with rfl | rfl
      · exact (litS_pos _ _).2 (by simp)
      · exact (litS_not _ _).2 (by simp; omega)
theorem one_can {p : Pkg} (hm : mayPkg p = 0) : canE [p] [litN 0] = healthyP [p] := by
  rw [healthy_one hm, Bool.eq_iff_iff, decide_eq_true_eq, ← sel_one, canE_sel]
  constructor
  · rintro ⟨_, S, h1, h2⟩
    exact ⟨S, h1, (litS_pos _ _).1 (h2 _ (by simp))⟩
  · rintro ⟨S, h1, h2⟩
    exact ⟨by simp; exact wfL_lit (by simp), S, h1, by simp; exact (litS_pos _ _).2 h2⟩
theorem errE_in {all : List Pkg} {l : List Nat} (h0 : mayAll all = 0) (hl : ∀ i ∈ l, i < all.length) : errE all (l.map fun (i : Nat) => (i : Int)) = 0 := by
  rw [errE, if_neg (by simp [h0]), if_neg]
  simp only [List.any_eq_true, List.mem_map, not_exists, not_and]
  rintro x ⟨i, hi, rfl⟩
  have := hl i hi
  simp; omega
theorem light_may {all : List Pkg} (h : lightL 0 all = true) : ∀ p ∈ all, MayN p := fun p hp => by
  have := lightL_get h p hp
  exact ⟨by omega, by omega, by omega⟩

theorem l19_alone (all : List Pkg) (p : Pkg) (hp : ∀ p ∈ all, PkgR p) (hq : PkgR p) : PureFn prog W0 6 [pkgsAV all, pkgAV p] (.bool true) := by
  refine fn_pure [4] [3, 6] func6 rfl rfl ntmps6 rfl rfl (.bool _) fun hs σ => ?_
  have hl := (small_map (hs _ (List.mem_cons_self ..))).1
  simp only [go_sem, simprocAttr, ↓reduceIte]
  refine CallA.fn (l19_light all hp) ?_
  simp only [go_sem, simprocAttr, ↓reduceIte]
  refine CallP.fnG (fun _ => (l19_light [p] (by simpa using hq)).weak (.cons (.lit _ _) .nil)) ?_
  simp only [go_sem, simprocAttr, ↓reduceIte, pkgsAV, List.length_map]
  refine CallP.fnG (fun _ => r9_mayAll all) ?_
  simp only [go_sem, simprocAttr, ↓reduceIte]
  refine ⟨fun _ => CallA.fn l19_awake ?_, fun h => ?_⟩
  · simp only [go_sem, simprocAttr, ↓reduceIte]
    done
  simp only [Bool.or_eq_false_iff, Bool.not_eq_false', decide_eq_false_iff_not, bne_eq_false_iff_eq] at h
  obtain ⟨⟨⟨hla, hlp⟩, h10⟩, h0⟩ := h
  have hma := light_may hla
  have hmp : MayN p := light_may hlp p (by simp)
  have h11 : all.length ≤ 11 := by omega
  refine LoopVC.at [3] (.of (by kernel_rfl)) (fun A => Ext σ A.st) ?_ fun B hst => ?_
  · refine LoopVC.upto [0, 3, 35, 36] (.of (by kernel_rfl)) all.length (fun i A => A.env 37 = .int .i64 i ∧ Ext σ A.st) 0 (Nat.zero_le _) ?_ fun i B hi ⟨h8, hst⟩ => ?_
    · simp only [go_sem, simprocAttr, ↓reduceIte]
      exact .refl _
    simp only [go_sem, simprocAttr, ↓reduceIte, h8, List.length_map]
    refine ⟨fun hc => ⟨hc, ?_⟩, fun hc => hst⟩
    obtain ⟨q, hqi⟩ := get_some hc
    simp only [atV_map hqi]
    have hR := hp q (List.mem_of_getElem? hqi)
    have r1 := hR.pre; have r2 := hR.dep; have r3 := hR.con; have r4 := hR.brk
    rw [reach_eq] at r1 r2 r3 r4
    have hw1 : IntKind.i64.wrap ((q.pre.length : Int) + (q.dep.length : Int)) = ((q.pre.length : Int) + (q.dep.length : Int)) := wrap_in (by omega)
    have hw2 : IntKind.i64.wrap ((q.pre.length : Int) + (q.dep.length : Int) + (q.con.length : Int)) = ((q.pre.length : Int) + (q.dep.length : Int) + (q.con.length : Int)) := wrap_in (by omega)
    have hw3 : IntKind.i64.wrap ((q.pre.length : Int) + (q.dep.length : Int) + (q.con.length : Int) + (q.brk.length : Int)) = ((q.pre.length : Int) + (q.dep.length : Int) + (q.con.length : Int) + (q.brk.length : Int)) := wrap_in (by omega)
    simp only [go_sem, simprocAttr, ↓reduceIte, pkgAV, atomsAV, clausesAV, h8, List.length_map, hw1, hw2, hw3]
    refine ⟨fun _ => ⟨hc, int_succ hc hl, hst.app _⟩, fun hb => ?_⟩
    have hbare : bareP q = true := by
      unfold bareP
      exact decide_eq_true (by omega)
    have c1 := bare_can hqi hbare
    have hi1 : errE all [(i : Int)] = 0 := errE_in (l := [i]) h0 (by simpa using hc)
    refine CallA.fn (st_installable all hma h11 i) ?_
    simp only [go_sem, simprocAttr, ↓reduceIte, pairAV, h8, hi1, c1]
    refine LoopVC.ats [0, 3, 35, 36, 37] (.of (by kernel_rfl)) (fun A => Ext σ A.st) ?_ fun B2 hst => ?_
    · refine LoopVC.upto [0, 3, 5, 35, 36, 37, 71] (.of (by kernel_rfl)) all.length (fun j A => A.env 72 = .int .i64 j ∧ Ext σ A.st) 0 (Nat.zero_le _) ?_ fun j B2 hj ⟨h72, hst⟩ => ?_
      · simp only [go_sem, simprocAttr, ↓reduceIte]
        exact hst.app _
      simp only [go_sem, simprocAttr, ↓reduceIte, h72, List.length_map]
      refine ⟨fun hc2 => ?_, fun hc2 => hst⟩
      have hi2 : errE all [(i : Int), (j : Int)] = 0 := errE_in (l := [i, j]) h0 (by simp; exact ⟨hc, hc2⟩)
      have c2 := bare_needs hqi hbare hc2
      have hij : ((i : Int) == (j : Int)) = (i == j) := by rw [Bool.eq_iff_iff]; simp; omega
      refine CallA.fn (st_needs all hma h11 i j) ?_
      simp only [go_sem, simprocAttr, ↓reduceIte, pairAV, h72, hi2, c1, c2, hij]
      exact ⟨fun h => absurd (Bool.not_not _) h, fun _ => ⟨hc2, int_succ hc2 hl, hst⟩⟩
    simp only [go_sem, simprocAttr, ↓reduceIte, h8]
    exact ⟨hc, int_succ hc hl, hst⟩
  simp only [go_sem, simprocAttr, ↓reduceIte]
  refine CallA.fn ((st_installable [p] (by simpa using hmp) (by simp) 0).weak (.cons (.lit _ _) (.cons (.refl _) .nil))) ?_
  have he : errE [p] [(0 : Int)] = mayPkg p := by
    by_cases h : mayPkg p = 0
    · rw [h]; exact errE_in (all := [p]) (l := [0]) (by rw [mayAll_one]; exact h) (by simp)
    · rw [errE, mayAll_one, if_pos h]
  simp only [go_sem, simprocAttr, ↓reduceIte, pairAV, he]
  refine CallA.fn (r9_may p) ?_
  simp only [go_sem, simprocAttr, ↓reduceIte]
  refine ⟨fun hm => ?_, fun hm => ?_⟩
  · refine CallP.fnG (fun _ => l19_awake) ?_
    have e0 : (mayPkg p == 0) = false := by simp [hm]
    simp only [go_sem, simprocAttr, ↓reduceIte, e0]
    exact hst
  · refine CallP.fnG (fun _ => (r10_healthy [p]).weak (.cons (.lit _ _) .nil)) ?_
    simp only [go_sem, simprocAttr, ↓reduceIte]
    refine CallP.fnG (fun _ => l19_awake) ?_
    have e0 : (mayPkg p == 0) = true := by simp [hm]
    simp only [go_sem, simprocAttr, ↓reduceIte, e0, one_can hm]
    exact hst
end Go.Proofs.Tryz
end
