/- Texts that the last one of this claim rests on: a layer over the guide's own conditions for code; contracts of the functions that the law reaches, one by one. No conditions beside those of the given rows. -/
import Derived.Test.YtnblgnafgdmcaaaGreatDoorWbe
section
set_option linter.unusedSimpArgs false
set_option linter.unusedVariables false
namespace Go.Av

def litN (i : Nat) : Int := ((i + 1 : Nat) : Int)
theorem orL_zero : ∀ {l : List Int}, orL l = 0 → ∀ x ∈ l, x = 0
  | [], _, x, hx => by simp at hx
  | y :: r, h, x, hx => by
    rw [orL] at h
    split at h
    · rename_i hy; exact absurd h hy
    · rename_i hy
      rcases List.mem_cons.1 hx with rfl | hx
      · exact Classical.not_not.1 hy
      · exact orL_zero h x hx
theorem mayAll_pkg {all : List Pkg} (h : mayAll all = 0) {p : Pkg} (hp : p ∈ all) : mayPkg p = 0 := by
  unfold mayAll at h
  split at h
  · omega
  · split at h
    · rename_i h1; exact absurd h h1
    · rename_i h1
      exact orL_zero (Classical.not_not.1 h1) _ (List.mem_map.2 ⟨p, hp, rfl⟩)
theorem mayCl_len {l : List Clause} (h : mayCl l = 0) : l.length ≤ 12 := by
  unfold mayCl at h
  split at h
  · omega
  · rename_i h1; omega
theorem litN_pos (i : Nat) : 0 < litN i := by unfold litN; omega
theorem litN_abs (i : Nat) : (litN i).natAbs = i + 1 := by unfold litN; omega
end Go.Av
end
