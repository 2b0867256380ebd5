/- Texts that the last one of this claim rests on: a layer over the guide's own conditions for code; contracts of the functions that the law reaches, one by one. No conditions beside those of the given rows. -/
import Derived.Test.YtljcjoglabbcoaaGreatDoorWbn
import Derived.Test.YtljcjoglabbcoaaGreatDoorWbo
section
set_option linter.unusedSimpArgs false
set_option linter.unusedVariables false
namespace Go.Proofs.Tryz
open Go Go.Av
set_option maxRecDepth 10000
set_option linter.unusedSimpArgs false
set_option linter.unusedVariables false
variable {W0 : World}

theorem bare_can {all : List Pkg} {i : Nat} {p : Pkg} (hi : all[i]? = some p) (hb : bareP p = true) : canE all [litN i] = true :=
  canE_sel.2 ⟨by simp; exact wfL_lit (List.getElem?_eq_some_iff.1 hi).1, _, sel_bare hi hb, by simp; exact (litS_pos _ _).2 (by simp)⟩
theorem bare_needs {all : List Pkg} {i j : Nat} {p : Pkg} (hi : all[i]? = some p) (hb : bareP p = true) (hj : j < all.length) : canE all [litN i, -litN j] = !(i == j) := by
  by_cases e : i = j
  · subst e
    have : ¬ canE all [litN i, -litN i] = true := fun h => by
      obtain ⟨_, S, _, h2⟩ := canE_sel.1 h
      have a := (litS_pos _ _).1 (h2 (litN i) (by simp))
      have b := (litS_not _ _).1 (h2 (-litN i) (by simp))
      rw [a] at b; cases b
    simpa using this
  · have : (i == j) = false := by simp [e]
    rw [this]
    refine canE_sel.2 ⟨?_, _, sel_bare hi hb, ?_⟩
    · intro l hl
      simp at hl
      rcases hl with rfl | rfl
      · exact wfL_lit (List.getElem?_eq_some_iff.1 hi).1
      · exact wfL_not hj
    · intro l hl
      simp at hl
      rcases hl with rfl | rfl
      · exact (litS_pos _ _).2 (by simp)
      · exact (litS_not _ _).2 (by simp; omega)
theorem one_can {p : Pkg} (hm : mayPkg p = 0) : canE [p] [litN 0] = healthyP [p] := by
  rw [healthy_one hm, Bool.eq_iff_iff, decide_eq_true_eq, ← sel_one, canE_sel]
  constructor
  · rintro ⟨_, S, h1, h2⟩
    exact ⟨S, h1, (litS_pos _ _).1 (h2 _ (by simp))⟩
  · rintro ⟨S, h1, h2⟩
    exact ⟨by simp; exact wfL_lit (by simp), S, h1, by simp; exact (litS_pos _ _).2 h2⟩
theorem errE_in {all : List Pkg} {l : List Nat} (h0 : mayAll all = 0) (hl : ∀ i ∈ l, i < all.length) : errE all (l.map fun (i : Nat) => (i : Int)) = 0 := by
  rw [errE, if_neg (by simp [h0]), if_neg]
  simp only [List.any_eq_true, List.mem_map, not_exists, not_and]
  rintro x ⟨i, hi, rfl⟩
  have := hl i hi
  simp; omega
theorem light_may {all : List Pkg} (h : lightL 0 all = true) : ∀ p ∈ all, MayN p := fun p hp => by
  have := lightL_get h p hp
  exact ⟨by omega, by omega, by omega⟩

theorem l19_alone (all : List Pkg) (p : Pkg) (hp : ∀ p ∈ all, PkgR p) (hq : PkgR p) : PureFn prog W0 6 [pkgsAV all, pkgAV p] (.bool true) := by
  refine fn_pure [4] [3, 6] func6 rfl rfl ntmps6 rfl rfl (.bool _) fun hs σ => ?_
  have hl := (small_map (hs _ (List.mem_cons_self ..))).1
  simp only [go_sem, simprocAttr, ↓reduceIte]
  refine CallA.fn (l19_light all hp) ?_
  simp only [go_sem, simprocAttr, ↓reduceIte]
  refine CallP.fnG (fun _ => (l19_light [p] (by simpa using hq)).weak (.cons (.lit _ _) .nil)) ?_
  simp only [go_sem, simprocAttr, ↓reduceIte, pkgsAV, List.length_map]
  refine CallP.fnG (fun _ => r9_mayAll all) ?_
  simp only [go_sem, simprocAttr, ↓reduceIte]
  refine ⟨fun _ => CallA.fn l19_awake ?_, fun h => ?_⟩
  · simp only [go_sem, simprocAttr, ↓reduceIte]
    done
  simp only [Bool.or_eq_false_iff, Bool.not_eq_false', decide_eq_false_iff_not, bne_eq_false_iff_eq] at h
  obtain ⟨⟨⟨hla, hlp⟩, h10⟩, h0⟩ := h
  have hma := light_may hla
  have hmp : MayN p := light_may hlp p (by simp)
  have h11 : all.length ≤ 24 := by omega
  refine LoopVC.at [3] (.of (by kernel_rfl)) (fun A => Ext σ A.st) ?_ fun B hst => ?_
  · refine LoopVC.upto [0, 3, 35, 36] (.of (by kernel_rfl)) all.length (fun i A => A.env 37 = .int .i64 i ∧ Ext σ A.st) 0 (Nat.zero_le _) ?_ fun i B hi ⟨h8, hst⟩ => ?_
    · simp only [go_sem, simprocAttr, ↓reduceIte]
      exact .refl _
    simp only [go_sem, simprocAttr, ↓reduceIte, h8, List.length_map]
    refine ⟨fun hc => ⟨hc, ?_⟩, fun hc => hst⟩
    obtain ⟨q, hqi⟩ := get_some hc
    simp only [atV_map hqi]
    have hR := hp q (List.mem_of_getElem? hqi)
    have r1 := hR.pre; have r2 := hR.dep; have r3 := hR.con; have r4 := hR.brk
    rw [reach_eq] at r1 r2 r3 r4
    have hw1 : IntKind.i64.wrap ((q.pre.length : Int) + (q.dep.length : Int)) = ((q.pre.length : Int) + (q.dep.length : Int)) := wrap_in (by omega)
    have hw2 : IntKind.i64.wrap ((q.pre.length : Int) + (q.dep.length : Int) + (q.con.length : Int)) = ((q.pre.length : Int) + (q.dep.length : Int) + (q.con.length : Int)) := wrap_in (by omega)
    have hw3 : IntKind.i64.wrap ((q.pre.length : Int) + (q.dep.length : Int) + (q.con.length : Int) + (q.brk.length : Int)) = ((q.pre.length : Int) + (q.dep.length : Int) + (q.con.length : Int) + (q.brk.length : Int)) := wrap_in (by omega)
    simp only [go_sem, simprocAttr, ↓reduceIte, pkgAV, atomsAV, clausesAV, h8, List.length_map, hw1, hw2, hw3]
    refine ⟨fun _ => ⟨hc, int_succ hc hl, hst.app _⟩, fun hb => ?_⟩
    have hbare : bareP q = true := by
      unfold bareP
      exact decide_eq_true (by omega)
    have c1 := bare_can hqi hbare
    have hi1 : errE all [(i : Int)] = 0 := errE_in (l := [i]) h0 (by simpa using hc)
    refine CallA.fn (st_installable all hma h11 i) ?_
    simp only [go_sem, simprocAttr, ↓reduceIte, pairAV, h8, hi1, c1]
    refine LoopVC.ats [0, 3, 35, 36, 37] (.of (by kernel_rfl)) (fun A => Ext σ A.st) ?_ fun B2 hst => ?_
    · refine LoopVC.upto [0, 3, 5, 35, 36, 37, 71] (.of (by kernel_rfl)) all.length (fun j A => A.env 72 = .int .i64 j ∧ Ext σ A.st) 0 (Nat.zero_le _) ?_ fun j B2 hj ⟨h72, hst⟩ => ?_
      · simp only [go_sem, simprocAttr, ↓reduceIte]
        exact hst.app _
      simp only [go_sem, simprocAttr, ↓reduceIte, h72, List.length_map]
      refine ⟨fun hc2 => ?_, fun hc2 => hst⟩
      have hi2 : errE all [(i : Int), (j : Int)] = 0 := errE_in (l := [i, j]) h0 (by simp; exact ⟨hc, hc2⟩)
      have c2 := bare_needs hqi hbare hc2
      have hij : ((i : Int) == (j : Int)) = (i == j) := by rw [Bool.eq_iff_iff]; simp; omega
      refine CallA.fn (st_needs all hma h11 i j) ?_
      simp only [go_sem, simprocAttr, ↓reduceIte, pairAV, h72, hi2, c1, c2, hij]
      exact ⟨fun h => absurd (Bool.not_not _) h, fun _ => ⟨hc2, int_succ hc2 hl, hst⟩⟩
    simp only [go_sem, simprocAttr, ↓reduceIte, h8]
    exact ⟨hc, int_succ hc hl, hst⟩
  simp only [go_sem, simprocAttr, ↓reduceIte]
  refine CallA.fn ((st_installable [p] (by simpa using hmp) (by simp) 0).weak (.cons (.lit _ _) (.cons (.refl _) .nil))) ?_
  have he : errE [p] [(0 : Int)] = mayPkg p := by
    by_cases h : mayPkg p = 0
    · rw [h]; exact errE_in (all := [p]) (l := [0]) (by rw [mayAll_one]; exact h) (by simp)
    · rw [errE, mayAll_one, if_pos h]
  simp only [go_sem, simprocAttr, ↓reduceIte, pairAV, he]
  refine CallA.fn (r9_may p) ?_
  simp only [go_sem, simprocAttr, ↓reduceIte]
  refine ⟨fun hm => ?_, fun hm => ?_⟩
  · refine CallP.fnG (fun _ => l19_awake) ?_
    have e0 : (mayPkg p == 0) = false := by simp [hm]
    simp only [go_sem, simprocAttr, ↓reduceIte, e0]
    exact hst
  · refine CallP.fnG (fun _ => (r10_healthy [p]).weak (.cons (.lit _ _) .nil)) ?_
    simp only [go_sem, simprocAttr, ↓reduceIte]
    refine CallP.fnG (fun _ => l19_awake) ?_
    have e0 : (mayPkg p == 0) = true := by simp [hm]
    simp only [go_sem, simprocAttr, ↓reduceIte, e0, one_can hm]
    exact hst
end Go.Proofs.Tryz
end
