/- Texts that the last one of this claim rests on: a layer over the guide's own conditions for code; contracts of the functions that the law reaches, one by one. No conditions beside those of the given rows. -/
import Derived.Test.YtnblgnafgdmcaaaGreatDoorWbg
import Derived.Test.YtnblgnafgdmcaaaGreatDoorWbi
import Derived.Test.YtnblgnafgdmcaaaGreatDoorWbj
import Derived.Test.YtnblgnafgdmcaaaGreatDoorWbm
section
set_option linter.unusedSimpArgs false
set_option linter.unusedVariables false
namespace Go.Proofs.Tryz
open Go Go.Av
set_option maxRecDepth 10000
set_option linter.unusedSimpArgs false
set_option linter.unusedVariables false

theorem ofT_atom {n : Nat} {a : AV} (h : OfT prog (n + 2) 50 a) : ∃ p, a = atomAV p := by
  obtain ⟨xs, rfl, g⟩ := ofT_flds (ts := [9, 3, 9]) (by kernel_rfl) h
  obtain _ | ⟨x, _ | ⟨y, _ | ⟨z, _ | _⟩⟩⟩ := xs <;> simp only [AllT, and_false, and_true] at g
  obtain ⟨h1, h2, h3⟩ := g
  obtain ⟨s, rfl, _⟩ := ofT_str (by kernel_rfl) h1
  obtain ⟨k, rfl, _⟩ := ofT_int (k := .i64) (by kernel_rfl) h2
  obtain ⟨v, rfl, _⟩ := ofT_str (by kernel_rfl) h3
  exact ⟨⟨s, k, v⟩, rfl⟩
theorem ofT_prov {n : Nat} {a : AV} (h : OfT prog (n + 2) 112 a) : ∃ p, a = provAV p := by
  obtain ⟨xs, rfl, g⟩ := ofT_flds (ts := [9, 9]) (by kernel_rfl) h
  obtain _ | ⟨x, _ | ⟨y, _ | _⟩⟩ := xs <;> simp only [AllT, and_false, and_true] at g
  obtain ⟨h1, h2⟩ := g
  obtain ⟨s, rfl, _⟩ := ofT_str (by kernel_rfl) h1
  obtain ⟨v, rfl, _⟩ := ofT_str (by kernel_rfl) h2
  exact ⟨⟨s, v⟩, rfl⟩
/-- Lists that lie in memory. -/
structure PkgR (p : Pkg) : Prop where
  name : p.name.length ≤ reachBytes
  ver : p.ver.length ≤ reachBytes
  pre : p.pre.length ≤ reachBytes
  dep : p.dep.length ≤ reachBytes
  rcm : p.rcm.length ≤ reachBytes
  con : p.con.length ≤ reachBytes
  brk : p.brk.length ≤ reachBytes
  prov : p.prov.length ≤ reachBytes
theorem ofT_atoms {n : Nat} {a : AV} (h : OfT prog (n + 3) 51 a) : ∃ p, a = atomsAV p ∧ p.length ≤ reachBytes := by
  obtain ⟨ps, rfl, hl⟩ := ofT_map (f := atomAV) (e := 50) (by kernel_rfl) (fun x => ofT_atom) h
  exact ⟨ps, rfl, hl⟩
theorem ofT_clause {n : Nat} {a : AV} (h : OfT prog (n + 3) 52 a) : ∃ p, a = atomsAV p := by
  obtain ⟨ps, rfl, _⟩ := ofT_map (f := atomAV) (e := 50) (by kernel_rfl) (fun x => ofT_atom) h
  exact ⟨ps, rfl⟩
theorem ofT_clauses {n : Nat} {a : AV} (h : OfT prog (n + 4) 53 a) : ∃ p, a = clausesAV p ∧ p.length ≤ reachBytes := by
  obtain ⟨ps, rfl, hl⟩ := ofT_map (f := atomsAV) (e := 52) (by kernel_rfl) (fun x => ofT_clause) h
  exact ⟨ps, rfl, hl⟩
theorem ofT_provs {n : Nat} {a : AV} (h : OfT prog (n + 3) 54 a) : ∃ p, a = provsAV p ∧ p.length ≤ reachBytes := by
  obtain ⟨ps, rfl, hl⟩ := ofT_map (f := provAV) (e := 112) (by kernel_rfl) (fun x => ofT_prov) h
  exact ⟨ps, rfl, hl⟩
theorem ofT_pkg {n : Nat} {a : AV} (h : OfT prog (n + 5) 56 a) : ∃ p, a = pkgAV p ∧ PkgR p := by
  obtain ⟨xs, rfl, g⟩ := ofT_flds (ts := [9, 9, 53, 53, 53, 51, 51, 54, 4]) (by kernel_rfl) h
  obtain _ | ⟨x1, _ | ⟨x2, _ | ⟨x3, _ | ⟨x4, _ | ⟨x5, _ | ⟨x6, _ | ⟨x7, _ | ⟨x8, _ | ⟨x9, _ | _⟩⟩⟩⟩⟩⟩⟩⟩⟩ := xs <;> simp only [AllT, and_false, and_true] at g
  obtain ⟨h1, h2, h3, h4, h5, h6, h7, h8, h9⟩ := g
  obtain ⟨y1, rfl, l1⟩ := ofT_str (by kernel_rfl) h1
  obtain ⟨y2, rfl, l2⟩ := ofT_str (by kernel_rfl) h2
  obtain ⟨y3, rfl, l3⟩ := ofT_clauses (n := n) h3
  obtain ⟨y4, rfl, l4⟩ := ofT_clauses (n := n) h4
  obtain ⟨y5, rfl, l5⟩ := ofT_clauses (n := n) h5
  obtain ⟨y6, rfl, l6⟩ := ofT_atoms (n := n + 1) h6
  obtain ⟨y7, rfl, l7⟩ := ofT_atoms (n := n + 1) h7
  obtain ⟨y8, rfl, l8⟩ := ofT_provs (n := n + 1) h8
  obtain ⟨y9, rfl⟩ := ofT_bool (by kernel_rfl) h9
  exact ⟨⟨y1, y2, y3, y4, y5, y6, y7, y8, y9⟩, rfl, ⟨l1, l2, l3, l4, l5, l6, l7, l8⟩⟩
theorem ofT_pkgs {n : Nat} {a : AV} (h : OfT prog (n + 6) 22 a) : ∃ l, a = pkgsAV l ∧ l.length ≤ reachBytes ∧ ∀ p ∈ l, PkgR p := by
  obtain ⟨xs, rfl, hl, hx⟩ := ofT_sl (e := 56) (by kernel_rfl) h
  obtain ⟨ps, rfl⟩ := all_map (f := fun q : { p : Pkg // PkgR p } => pkgAV q.1) fun x hm => by
    obtain ⟨p, rfl, h1⟩ := ofT_pkg (hx x hm)
    exact ⟨⟨p, h1⟩, rfl⟩
  refine ⟨ps.map (·.1), by rw [pkgsAV, List.map_map]; rfl, by simpa using hl, fun p hp => ?_⟩
  obtain ⟨q, _, rfl⟩ := List.mem_map.1 hp
  exact q.2
end Go.Proofs.Tryz
end
section
set_option linter.unusedSimpArgs false
set_option linter.unusedVariables false
namespace Go.Proofs.Tryz
open Go Go.Av
set_option maxRecDepth 10000
set_option linter.unusedSimpArgs false
set_option linter.unusedVariables false
variable {W0 : World}

theorem reach_eq : reachBytes = 140737488351232 := by decide

end Go.Proofs.Tryz
end
section
set_option linter.unusedSimpArgs false
set_option linter.unusedVariables false
namespace Go.Proofs.Tryz
open Go Go.Av
set_option maxRecDepth 10000
set_option linter.unusedSimpArgs false
set_option linter.unusedVariables false
variable {W0 : World}

theorem canE_sel {all : List Pkg} {asm : List Int} : canE all asm = true ↔ (∀ l ∈ asm, wfL all.length l = true) ∧ ∃ S, SelOk all S ∧ ∀ l ∈ asm, litS S l := by
  rw [← satA_sel, canE]
  by_cases h : satA all.length (allL all 0 all) asm
  · rw [satB_true h]; simp [h]
  · rw [satB_false h]; simp [h]
theorem canE_sat {all : List Pkg} {asm : List Int} : canE all asm = true ↔ satA all.length (allL all 0 all) asm := by rw [canE_sel, satA_sel]

theorem aw_can {asm : List Int} (M : Nat → Bool) (h : (asm.all (wfL 3) && (setT M [[-1, 2], [-3, -2]] && asm.all (litT M))) = true) : canE awL asm = true := by
  rw [canE_sat, aw_cls]
  simp only [Bool.and_eq_true, List.all_eq_true] at h
  exact ⟨h.1, M, h.2.1, h.2.2⟩
theorem aw_not {asm : List Int} (h : ∀ M, setT M [[-1, 2], [-3, -2]] = true → asm.all (litT M) = false) : canE awL asm = false := by
  have : ¬ canE awL asm = true := fun e => by
    rw [canE_sat, aw_cls] at e
    obtain ⟨_, M, h1, h2⟩ := e
    have := h M h1
    rw [List.all_eq_true.2 h2] at this
    cases this
  simpa using this

theorem aw_rep : ∃ r1 r2, reportE awL = [⟨[97, 97], [49], true, [1], [2]⟩, r1, r2] := by
  have c1 : canE awL [litN 0] = true := aw_can (fun i => decide (i ≤ 2)) (by decide +kernel)
  have c2 : canE awL [litN 1] = true := aw_can (fun i => decide (i = 2)) (by decide +kernel)
  have c3 : canE awL [litN 2] = true := aw_can (fun i => decide (i = 3)) (by decide +kernel)
  have n1 : canE awL [litN 0, -litN 1] = false := aw_not fun M h => by
    simp [setT, claT, litT, litN] at h ⊢
    cases h1 : M 1 <;> cases h2 : M 2 <;> simp_all
  have n2 : canE awL [litN 0, -litN 2] = true := aw_can (fun i => decide (i ≤ 2)) (by decide +kernel)
  have m1 : canE awL [litN 0, litN 1] = true := aw_can (fun i => decide (i ≤ 2)) (by decide +kernel)
  have m2 : canE awL [litN 0, litN 2] = false := aw_not fun M h => by
    simp [setT, claT, litT, litN] at h ⊢
    cases h1 : M 1 <;> cases h2 : M 2 <;> cases h3 : M 3 <;> simp_all
  refine ⟨repE awL 1 awB, repE awL 2 awC, ?_⟩
  have e0 : repE awL 0 awA = ⟨[97, 97], [49], true, [1], [2]⟩ := by
    have er : List.range awL.length = [0, 1, 2] := rfl
    unfold repE
    rw [c1, er]
    have x0 : needsE awL 0 0 = false := by simp [needsE]
    have x1 : needsE awL 0 1 = true := by simp [needsE, c1, n1]
    have x2 : needsE awL 0 2 = false := by simp [needsE, c1, n2]
    have y0 : neverE awL 0 0 = false := by simp [neverE]
    have y1 : neverE awL 0 1 = false := by simp [neverE, m1]
    have y2 : neverE awL 0 2 = true := by simp [neverE, c1, c3, m2]
    simp [List.filter, x0, x1, x2, y0, y1, y2, awA]
  rw [← e0]
  rfl

end Go.Proofs.Tryz
end
section
set_option linter.unusedSimpArgs false
set_option linter.unusedVariables false
namespace Go.Proofs.Tryz
open Go Go.Av
set_option maxRecDepth 10000
set_option linter.unusedSimpArgs false
set_option linter.unusedVariables false
variable {W0 : World}

theorem bare_can {all : List Pkg} {i : Nat} {p : Pkg} (hi : all[i]? = some p) (hb : bareP p = true) : canE all [litN i] = true :=
  canE_sel.2 ⟨by simp; exact wfL_lit (List.getElem?_eq_some_iff.1 hi).1, _, sel_bare hi hb, by simp; exact (litS_pos _ _).2 (by simp)⟩
theorem bare_needs {all : List Pkg} {i j : Nat} {p : Pkg} (hi : all[i]? = some p) (hb : bareP p = true) (hj : j < all.length) : canE all [litN i, -litN j] = !(i == j) := by
  by_cases e : i = j
  · subst e
    have : ¬ canE all [litN i, -litN i] = true := fun h => by
      obtain ⟨_, S, _, h2⟩ := canE_sel.1 h
      have a := (litS_pos _ _).1 (h2 (litN i) (by simp))
      have b := (litS_not _ _).1 (h2 (-litN i) (by simp))
      rw [a] at b; cases b
    simpa using this
  · have : (i == j) = false := by simp [e]
    rw [this]
    refine canE_sel.2 ⟨?_, _, sel_bare hi hb, ?_⟩
    · intro l hl
      simp at hl
      rcases hl with rfl | rfl
      · exact wfL_lit (List.getElem?_eq_some_iff.1 hi).1
      · exact wfL_not hj
    · intro l hl
      simp at hl
      rcases hl with rfl | rfl
      · exact (litS_pos _ _).2 (by simp)
      · exact (litS_not _ _).2 (by simp; omega)
theorem one_can {p : Pkg} (hm : mayPkg p = 0) : canE [p] [litN 0] = healthyP [p] := by
  rw [healthy_one hm, Bool.eq_iff_iff, decide_eq_true_eq, ← sel_one, canE_sel]
  constructor
  · rintro ⟨_, S, h1, h2⟩
    exact ⟨S, h1, (litS_pos _ _).1 (h2 _ (by simp))⟩
  · rintro ⟨S, h1, h2⟩
    exact ⟨by simp; exact wfL_lit (by simp), S, h1, by simp; exact (litS_pos _ _).2 h2⟩
theorem errE_in {all : List Pkg} {l : List Nat} (h0 : mayAll all = 0) (hl : ∀ i ∈ l, i < all.length) : errE all (l.map fun (i : Nat) => (i : Int)) = 0 := by
  rw [errE, if_neg (by simp [h0]), if_neg]
  simp only [List.any_eq_true, List.mem_map, not_exists, not_and]
  rintro x ⟨i, hi, rfl⟩
  have := hl i hi
  simp; omega
theorem light_may {all : List Pkg} (h : lightL 0 all = true) : ∀ p ∈ all, MayN p := fun p hp => by
  have := lightL_get h p hp
  exact ⟨by omega, by omega, by omega⟩

end Go.Proofs.Tryz
end
