/- Texts that the last one of this claim rests on: a layer over the guide's own conditions for code; contracts of the functions that the law reaches, one by one. No conditions beside those of the given rows. -/
import Derived.Test.YtljcjoglabbcoaaGreatDoorWbl
import Derived.Test.YtljcjoglabbcoaaGreatDoorWbm
section
set_option linter.unusedSimpArgs false
set_option linter.unusedVariables false
namespace Go.Proofs.Tryz
open Go Go.Av
set_option maxRecDepth 10000
set_option linter.unusedSimpArgs false
set_option linter.unusedVariables false
variable {W0 : World}

theorem canE_sel {all : List Pkg} {asm : List Int} : canE all asm = true ↔ (∀ l ∈ asm, wfL all.length l = true) ∧ ∃ S, SelOk all S ∧ ∀ l ∈ asm, litS S l := by
  rw [← satA_sel, canE]
  by_cases h : satA all.length (allL all 0 all) asm
  · rw [satB_true h]; simp [h]
  · rw [satB_false h]; simp [h]
theorem canE_sat {all : List Pkg} {asm : List Int} : canE all asm = true ↔ satA all.length (allL all 0 all) asm := by rw [canE_sel, satA_sel]

theorem aw_can {asm : List Int} (M : Nat → Bool) (h : (asm.all (wfL 3) && (setT M [[-1, 2], [-3, -2]] && asm.all (litT M))) = true) : canE awL asm = true := by
  rw [canE_sat, aw_cls]
  simp only [Bool.and_eq_true, List.all_eq_true] at h
  exact ⟨h.1, M, h.2.1, h.2.2⟩
theorem aw_not {asm : List Int} (h : ∀ M, setT M [[-1, 2], [-3, -2]] = true → asm.all (litT M) = false) : canE awL asm = false := by
  have : ¬ canE awL asm = true := fun e => by
    rw [canE_sat, aw_cls] at e
    obtain ⟨_, M, h1, h2⟩ := e
    have := h M h1
    rw [List.all_eq_true.2 h2] at this
    cases this
  simpa using this

theorem aw_rep : ∃ r1 r2, reportE awL = [⟨[97, 97], [49], true, [1], [2]⟩, r1, r2] := by
  have c1 : canE awL [litN 0] = true := aw_can (fun i => decide (i ≤ 2)) (by decide +kernel)
  have c2 : canE awL [litN 1] = true := aw_can (fun i => decide (i = 2)) (by decide +kernel)
  have c3 : canE awL [litN 2] = true := aw_can (fun i => decide (i = 3)) (by decide +kernel)
  have n1 : canE awL [litN 0, -litN 1] = false := aw_not fun M h => by
    simp [setT, claT, litT, litN] at h ⊢
    cases h1 : M 1 <;> cases h2 : M 2 <;> simp_all
  have n2 : canE awL [litN 0, -litN 2] = true := aw_can (fun i => decide (i ≤ 2)) (by decide +kernel)
  have m1 : canE awL [litN 0, litN 1] = true := aw_can (fun i => decide (i ≤ 2)) (by decide +kernel)
  have m2 : canE awL [litN 0, litN 2] = false := aw_not fun M h => by
    simp [setT, claT, litT, litN] at h ⊢
    cases h1 : M 1 <;> cases h2 : M 2 <;> cases h3 : M 3 <;> simp_all
  refine ⟨repE awL 1 awB, repE awL 2 awC, ?_⟩
  have e0 : repE awL 0 awA = ⟨[97, 97], [49], true, [1], [2]⟩ := by
    have er : List.range awL.length = [0, 1, 2] := rfl
    unfold repE
    rw [c1, er]
    have x0 : needsE awL 0 0 = false := by simp [needsE]
    have x1 : needsE awL 0 1 = true := by simp [needsE, c1, n1]
    have x2 : needsE awL 0 2 = false := by simp [needsE, c1, n2]
    have y0 : neverE awL 0 0 = false := by simp [neverE]
    have y1 : neverE awL 0 1 = false := by simp [neverE, m1]
    have y2 : neverE awL 0 2 = true := by simp [neverE, c1, c3, m2]
    simp [List.filter, x0, x1, x2, y0, y1, y2, awA]
  rw [← e0]
  rfl

theorem l19_awake : PureFn prog W0 9 [] (.bool true) := by
  refine fn_pure [0] [] func9 rfl rfl ntmps9 rfl rfl (.bool _) fun hs σ => ?_
  simp only [go_sem, simprocAttr, ↓reduceIte]
  refine CallA.fn ((st_report awL (fun p hp => ?_) (by decide)).weak (.cons (.sub (subB_sound (n := 10) (by kernel_rfl))) .nil)) ?_
  · simp [awL] at hp
    rcases hp with rfl | rfl | rfl <;> exact ⟨by decide, by decide, by decide⟩
  obtain ⟨r1, r2, hr⟩ := aw_rep
  rw [if_pos aw_may, aw_may, hr]
  have a0 : ∀ (x : AV) (l : List AV), atV (x :: l) 0 = x := fun _ _ => rfl
  simp only [go_sem, simprocAttr, ↓reduceIte, repsAV, repAV, nlAV, a0]
  done
end Go.Proofs.Tryz
end
