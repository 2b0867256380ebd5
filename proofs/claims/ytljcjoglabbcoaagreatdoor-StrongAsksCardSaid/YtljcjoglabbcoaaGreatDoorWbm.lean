/- Texts that the last one of this claim rests on: a layer over the guide's own conditions for code; contracts of the functions that the law reaches, one by one. No conditions beside those of the given rows. -/
import Derived.Test.YtljcjoglabbcoaaGreatDoorWbk
section
set_option linter.unusedSimpArgs false
set_option linter.unusedVariables false
namespace Go.Av

def all2 {α β : Type} (f : α → β → Bool) : List α → List β → Bool
  | [], [] => true
  | x :: xs, y :: ys => f x y && all2 f xs ys
  | _, _ => false
theorem all2_get {α β : Type} {f : α → β → Bool} : ∀ {xs : List α} {ys : List β}, all2 f xs ys = true → xs.length = ys.length ∧ ∀ (i : Nat) (x : α) (y : β), xs[i]? = some x → ys[i]? = some y → f x y = true
  | [], [], _ => ⟨rfl, by simp⟩
  | [], _ :: _, h => by simp [all2] at h
  | _ :: _, [], h => by simp [all2] at h
  | x :: xs, y :: ys, h => by
    rw [all2, Bool.and_eq_true] at h
    obtain ⟨h1, h2⟩ := all2_get h.2
    refine ⟨by simp [h1], fun i x' y' hx hy => ?_⟩
    cases i with
    | zero => simp at hx hy; subst hx hy; exact h.1
    | succ i => exact h2 i x' y' (by simpa using hx) (by simpa using hy)

def subB : Nat → AV → AV → Bool
  | 0, _, _ => false
  | n + 1, x, y => match x, y with
    | .int k a, .int k' b => decide (k = k') && a == b
    | .bool a, .bool b => a == b
    | .str a, .str b => a == b
    | .nil, .nil => true
    | .nils, .nils => true
    | .nils, .sl _ [] => true
    | .sl e xs, .sl e' ys => e == e' && all2 (subB n) xs ys
    | .lit e xs, .sl e' ys => e == e' && all2 (subB n) xs ys
    | .agg t xs, .agg t' ys => t == t' && all2 (subB n) xs ys
    | _, _ => false
theorem subB_sound : ∀ {n : Nat} {x y : AV}, subB n x y = true → Sub x y
  | 0, _, _, h => by simp [subB] at h
  | n + 1, x, y, h => by
    unfold subB at h
    split at h
    · simp only [Bool.and_eq_true, decide_eq_true_eq, beq_iff_eq] at h
      rw [h.1, h.2]; exact .refl _
    · rw [beq_iff_eq.1 h]; exact .refl _
    · rw [beq_iff_eq.1 h]; exact .refl _
    · exact .refl _
    · exact .refl _
    · exact .nils _
    · rw [Bool.and_eq_true, beq_iff_eq] at h
      obtain ⟨rfl, h⟩ := h
      obtain ⟨h1, h2⟩ := all2_get h
      exact .sls h1 fun i x y hx hy => subB_sound (h2 i x y hx hy)
    · rw [Bool.and_eq_true, beq_iff_eq] at h
      obtain ⟨rfl, h⟩ := h
      obtain ⟨h1, h2⟩ := all2_get h
      exact .trans (.lits h1 fun i x y hx hy => subB_sound (h2 i x y hx hy)) (.lit _ _)
    · rw [Bool.and_eq_true, beq_iff_eq] at h
      obtain ⟨rfl, h⟩ := h
      obtain ⟨h1, h2⟩ := all2_get h
      exact .agg h1 fun i x y hx hy => subB_sound (h2 i x y hx hy)
    · cases h

/-- The packages of the report that every program must know. -/
def awA : Pkg := ⟨[97, 97], [49], [], [[⟨[98, 98], 0, []⟩]], [], [], [], [], false⟩
def awB : Pkg := ⟨[98, 98], [49], [], [], [], [], [], [], false⟩
def awC : Pkg := ⟨[99, 99], [49], [], [], [], [⟨[98, 98], 0, []⟩], [], [], false⟩
def awL : List Pkg := [awA, awB, awC]
theorem aw_cls : allL awL 0 awL = [[-1, 2], [-3, -2]] := by decide +kernel
theorem aw_may : mayAll awL = 0 := by decide +kernel
end Go.Av
end
