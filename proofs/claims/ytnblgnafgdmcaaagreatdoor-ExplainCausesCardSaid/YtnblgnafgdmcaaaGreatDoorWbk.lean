/- Texts that the last one of this claim rests on: a layer over the guide's own conditions for code; contracts of the functions that the law reaches, one by one. No conditions beside those of the given rows. -/
import Derived.Test.YtnblgnafgdmcaaaGreatDoorWbg
section
set_option linter.unusedSimpArgs false
set_option linter.unusedVariables false
namespace Go.Av

/-- A choice of places that meets all that their packages ask. -/
structure SelOk (all : List Pkg) (S : Nat → Bool) : Prop where
  dep : ∀ (i : Nat) (p : Pkg), all[i]? = some p → S i = true → ∀ c ∈ p.pre ++ p.dep, ∃ (k : Nat) (q : Pkg), all[k]? = some q ∧ c.any (satP q) = true ∧ S k = true
  con : ∀ (i : Nat) (p : Pkg) (k : Nat) (q : Pkg), all[i]? = some p → all[k]? = some q → k < i → S i = true → S k = true → p.name ≠ q.name ∧ clashP p q = false

theorem litT_pos (M : Nat → Bool) (i : Nat) : litT M (litN i) = M (i + 1) := by
  unfold litT
  rw [if_pos (litN_pos i), litN_abs]
theorem litT_not (M : Nat → Bool) (i : Nat) : litT M (-litN i) = !M (i + 1) := by
  rw [litT_neg (by have := litN_pos i; omega), litT_pos]

end Go.Av
end
section
set_option linter.unusedSimpArgs false
set_option linter.unusedVariables false
namespace Go.Av

def lightD (d : List Clause) : Bool := decide (d.length ≤ 14) && d.all fun c => decide (c.length ≤ 10)
def lightP (i : Nat) (p : Pkg) : Bool := decide (i < 26) && decide (p.con.length + p.brk.length + p.prov.length ≤ 40) && [p.pre, p.dep, p.rcm].all lightD
def lightL : Nat → List Pkg → Bool
  | _, [] => true
  | i, p :: r => lightP i p && lightL (i + 1) r
theorem lightL_get : ∀ {i : Nat} {l : List Pkg}, lightL i l = true → ∀ p ∈ l, p.con.length + p.brk.length + p.prov.length ≤ 40
  | _, [], _, p, hp => by simp at hp
  | i, q :: r, h, p, hp => by
    rw [lightL, Bool.and_eq_true] at h
    rcases List.mem_cons.1 hp with rfl | hp
    · have := h.1
      simp [lightP] at this
      exact this.1.2
    · exact lightL_get h.2 p hp
end Go.Av
end
section
set_option linter.unusedSimpArgs false
set_option linter.unusedVariables false
namespace Go.Av

def all2 {α β : Type} (f : α → β → Bool) : List α → List β → Bool
  | [], [] => true
  | x :: xs, y :: ys => f x y && all2 f xs ys
  | _, _ => false
theorem all2_get {α β : Type} {f : α → β → Bool} : ∀ {xs : List α} {ys : List β}, all2 f xs ys = true → xs.length = ys.length ∧ ∀ (i : Nat) (x : α) (y : β), xs[i]? = some x → ys[i]? = some y → f x y = true
  | [], [], _ => ⟨rfl, by simp⟩
  | [], _ :: _, h => by simp [all2] at h
  | _ :: _, [], h => by simp [all2] at h
  | x :: xs, y :: ys, h => by
    rw [all2, Bool.and_eq_true] at h
    obtain ⟨h1, h2⟩ := all2_get h.2
    refine ⟨by simp [h1], fun i x' y' hx hy => ?_⟩
    cases i with
    | zero => simp at hx hy; subst hx hy; exact h.1
    | succ i => exact h2 i x' y' (by simpa using hx) (by simpa using hy)

def subB : Nat → AV → AV → Bool
  | 0, _, _ => false
  | n + 1, x, y => match x, y with
    | .int k a, .int k' b => decide (k = k') && a == b
    | .bool a, .bool b => a == b
    | .str a, .str b => a == b
    | .nil, .nil => true
    | .nils, .nils => true
    | .nils, .sl _ [] => true
    | .sl e xs, .sl e' ys => e == e' && all2 (subB n) xs ys
    | .lit e xs, .sl e' ys => e == e' && all2 (subB n) xs ys
    | .agg t xs, .agg t' ys => t == t' && all2 (subB n) xs ys
    | _, _ => false
theorem subB_sound : ∀ {n : Nat} {x y : AV}, subB n x y = true → Sub x y
  | 0, _, _, h => by simp [subB] at h
  | n + 1, x, y, h => by
    unfold subB at h
    split at h
    · simp only [Bool.and_eq_true, decide_eq_true_eq, beq_iff_eq] at h
      rw [h.1, h.2]; exact .refl _
    · rw [beq_iff_eq.1 h]; exact .refl _
    · rw [beq_iff_eq.1 h]; exact .refl _
    · exact .refl _
    · exact .refl _
    · exact .nils _
    · rw [Bool.and_eq_true, beq_iff_eq] at h
      obtain ⟨rfl, h⟩ := h
      obtain ⟨h1, h2⟩ := all2_get h
      exact .sls h1 fun i x y hx hy => subB_sound (h2 i x y hx hy)
    · rw [Bool.and_eq_true, beq_iff_eq] at h
      obtain ⟨rfl, h⟩ := h
      obtain ⟨h1, h2⟩ := all2_get h
      exact .trans (.lits h1 fun i x y hx hy => subB_sound (h2 i x y hx hy)) (.lit _ _)
    · rw [Bool.and_eq_true, beq_iff_eq] at h
      obtain ⟨rfl, h⟩ := h
      obtain ⟨h1, h2⟩ := all2_get h
      exact .agg h1 fun i x y hx hy => subB_sound (h2 i x y hx hy)
    · cases h

/-- The packages of the report that every program must know. -/
def awA : Pkg := ⟨[97, 97], [49], [], [[⟨[98, 98], 0, []⟩]], [], [], [], [], false⟩
def awB : Pkg := ⟨[98, 98], [49], [], [], [], [], [], [], false⟩
def awC : Pkg := ⟨[99, 99], [49], [], [], [], [⟨[98, 98], 0, []⟩], [], [], false⟩
end Go.Av
end
section
set_option linter.unusedSimpArgs false
set_option linter.unusedVariables false
namespace Go.Av

end Go.Av
end
section
set_option linter.unusedSimpArgs false
set_option linter.unusedVariables false
namespace Go.Av

/-- There is a choice with this one; with this one and that one; with this one and without that one. -/
def Can1 (all : List Pkg) (i : Nat) : Prop := ∃ S, SelOk all S ∧ S i = true
def Can2 (all : List Pkg) (i j : Nat) : Prop := ∃ S, SelOk all S ∧ S i = true ∧ S j = true
def CanN (all : List Pkg) (i j : Nat) : Prop := ∃ S, SelOk all S ∧ S i = true ∧ S j = false

structure NeedsP (all : List Pkg) (i j : Nat) : Prop where
  ne : i ≠ j
  can : Can1 all i
  not : ¬ CanN all i j
structure NeverP (all : List Pkg) (i j : Nat) : Prop where
  ne : i ≠ j
  can : Can1 all i
  can' : Can1 all j
  not : ¬ Can2 all i j

theorem NeedsP.sel {all : List Pkg} {i j : Nat} (h : NeedsP all i j) {S : Nat → Bool} (hS : SelOk all S) (hi : S i = true) : S j = true := by
  cases hj : S j with
  | true => rfl
  | false => exact absurd ⟨S, hS, hi, hj⟩ h.not
theorem NeedsP.trans {all : List Pkg} {i j k : Nat} (h : NeedsP all i j) (h' : NeedsP all j k) (hk : k ≠ i) : NeedsP all i k :=
  ⟨fun e => hk e.symm, h.can, fun ⟨_, hS, hi, hk⟩ => by rw [h'.sel hS (h.sel hS hi)] at hk; cases hk⟩
theorem NeedsP.never {all : List Pkg} {i j k : Nat} (h : NeedsP all i j) (h' : NeverP all j k) : NeverP all i k := by
  refine ⟨fun e => ?_, h.can, h'.can', fun ⟨S, hS, hi, hk⟩ => h'.not ⟨S, hS, h.sel hS hi, hk⟩⟩
  subst e
  obtain ⟨S, hS, hi⟩ := h.can
  exact h'.not ⟨S, hS, h.sel hS hi, hi⟩
theorem NeverP.symm {all : List Pkg} {i j : Nat} (h : NeverP all i j) : NeverP all j i :=
  ⟨fun e => h.ne e.symm, h.can', h.can, fun ⟨S, hS, hj, hi⟩ => h.not ⟨S, hS, hi, hj⟩⟩

/-- Places turned round. -/
def turn (n : Nat) (S : Nat → Bool) : Nat → Bool := fun k => if k < n then S (n - 1 - k) else false
end Go.Av
end
section
set_option linter.unusedSimpArgs false
set_option linter.unusedVariables false
namespace Go.Av

end Go.Av
end
section
set_option linter.unusedSimpArgs false
set_option linter.unusedVariables false
namespace Go.Av

structure HL (l : List Pkg) : Prop where
  may : ∀ p ∈ l, mayPkg p = 0
  pair : l.Pairwise fun p q => p.name ≠ q.name ∧ clashP p q = false
  met : ∀ p ∈ l, ∀ c ∈ p.pre ++ p.dep, ∃ q ∈ l, c.any (satP q) = true

theorem metP_iff {c : Clause} {l : List Pkg} : metP c l = true ↔ ∃ q ∈ l, c.any (satP q) = true := by
  unfold metP
  simp only [List.any_eq_true]
  constructor
  · rintro ⟨a, ha, q, hq, h⟩
    exact ⟨q, hq, a, ha, h⟩
  · rintro ⟨q, hq, a, ha, h⟩
    exact ⟨a, ha, q, hq, h⟩
/-- Those that a choice picks, from the place i on. -/
def pick (S : Nat → Bool) : Nat → List Pkg → List Pkg
  | _, [] => []
  | i, p :: r => if S i = true then p :: pick S (i + 1) r else pick S (i + 1) r
end Go.Av
end
