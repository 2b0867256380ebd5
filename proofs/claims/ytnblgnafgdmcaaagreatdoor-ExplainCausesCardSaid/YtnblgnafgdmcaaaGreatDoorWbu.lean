/- Texts that the last one of this claim rests on: a layer over the guide's own conditions for code; contracts of the functions that the law reaches, one by one. No conditions beside those of the given rows. -/
import Derived.Test.YtnblgnafgdmcaaaGreatDoorWbs
section
set_option linter.unusedSimpArgs false
set_option linter.unusedVariables false
namespace Go.Proofs.Tryz
open Go Go.Av
set_option maxRecDepth 10000
set_option linter.unusedSimpArgs false
set_option linter.unusedVariables false
variable {W0 : World}

end Go.Proofs.Tryz
end
section
set_option linter.unusedSimpArgs false
set_option linter.unusedVariables false
namespace Go.Proofs.Tryz
open Go Go.Av
set_option maxRecDepth 10000
set_option linter.unusedSimpArgs false
set_option linter.unusedVariables false
variable {W0 : World}

theorem lightL_len : ∀ {i : Nat} {l : List Pkg}, lightL i l = true → l = [] ∨ i + l.length ≤ 26
  | _, [], _ => .inl rfl
  | i, q :: r, h => by
    rw [lightL, Bool.and_eq_true] at h
    have h1 : i < 26 := by
      have := h.1
      unfold lightP at this
      simp only [Bool.and_eq_true, decide_eq_true_eq] at this
      exact this.1.1
    right
    rw [List.length_cons]
    rcases lightL_len h.2 with rfl | h2
    · simp only [List.length_nil]; omega
    · omega
theorem light_len {l : List Pkg} (h : lightL 0 l = true) : l.length ≤ 26 := by
  rcases lightL_len h with rfl | h
  · simp
  · omega
end Go.Proofs.Tryz
end
