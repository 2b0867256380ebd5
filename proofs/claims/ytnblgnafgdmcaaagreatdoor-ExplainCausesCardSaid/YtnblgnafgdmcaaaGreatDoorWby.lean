/- Texts that the last one of this claim rests on: a layer over the guide's own conditions for code; contracts of the functions that the law reaches, one by one. No conditions beside those of the given rows. -/
import Derived.Test.YtnblgnafgdmcaaaGreatDoorWbo
import Derived.Test.YtnblgnafgdmcaaaGreatDoorWbw
section
set_option linter.unusedSimpArgs false
set_option linter.unusedVariables false
namespace Go.Proofs.Tryz
open Go Go.Av
set_option maxRecDepth 10000
set_option linter.unusedSimpArgs false
set_option linter.unusedVariables false

theorem ofT_cause {n : Nat} {a : AV} (h : OfT prog (n + 2) 40 a) : ∃ c, a = causeI c := by
  obtain ⟨xs, rfl, g⟩ := ofT_flds (ts := [3, 3, 3]) (by kernel_rfl) h
  obtain _ | ⟨x, _ | ⟨y, _ | ⟨z, _ | _⟩⟩⟩ := xs <;> simp only [AllT, and_false, and_true] at g
  obtain ⟨h1, h2, h3⟩ := g
  obtain ⟨i, rfl, _⟩ := ofT_int (k := .i64) (by kernel_rfl) h1
  obtain ⟨j, rfl, _⟩ := ofT_int (k := .i64) (by kernel_rfl) h2
  obtain ⟨k, rfl, _⟩ := ofT_int (k := .i64) (by kernel_rfl) h3
  exact ⟨(i, j, k), rfl⟩
end Go.Proofs.Tryz
end
