/- Texts that the last one of this claim rests on: a layer over the guide's own conditions for code; contracts of the functions that the law reaches, one by one. No conditions beside those of the given rows. -/
import Derived.Test.YtljcjoglabbcoaaGreatDoorWbm
section
set_option linter.unusedSimpArgs false
set_option linter.unusedVariables false
namespace Go.Av

def bareP (p : Pkg) : Bool := decide (p.pre.length + p.dep.length + p.con.length + p.brk.length = 0)
theorem bareP_nil {p : Pkg} (h : bareP p = true) : p.pre = [] ∧ p.dep = [] ∧ p.con = [] ∧ p.brk = [] := by
  simp only [bareP, decide_eq_true_eq] at h
  refine ⟨?_, ?_, ?_, ?_⟩ <;> exact List.eq_nil_of_length_eq_zero (by omega)
theorem sel_bare {all : List Pkg} {i : Nat} {p : Pkg} (hi : all[i]? = some p) (hb : bareP p = true) : SelOk all fun k => k == i := by
  obtain ⟨h1, h2, _, _⟩ := bareP_nil hb
  refine ⟨fun k q hk hS c hc => ?_, fun k q j r _ _ hjk hk hj => ?_⟩
  · rw [beq_iff_eq] at hS
    subst hS
    rw [hi] at hk
    cases hk
    rw [h1, h2] at hc
    cases hc
  · rw [beq_iff_eq] at hk hj
    omega
theorem mayAll_one (p : Pkg) : mayAll [p] = mayPkg p := by
  have h1 : orL ([p].map mayPkg) = mayPkg p := by
    simp only [List.map_cons, List.map_nil, orL]
    split
    · rfl
    · rename_i h; exact (Classical.not_not.1 h).symm
  have h2 : dupL [] [p] = false := rfl
  have h3 : (namesL [p] []).length = 1 := rfl
  unfold mayAll
  rw [if_neg (by simp), h1, h2, h3]
  by_cases h : mayPkg p = 0
  · simp [h]
  · simp [h]
theorem sel_one {p : Pkg} : (∃ S, SelOk [p] S ∧ S 0 = true) ↔ ∀ c ∈ p.pre ++ p.dep, c.any (satP p) = true := by
  constructor
  · rintro ⟨S, h, h0⟩ c hc
    obtain ⟨k, q, hk, h1, _⟩ := h.dep 0 p rfl h0 c hc
    cases k with
    | zero => simp at hk; subst hk; exact h1
    | succ k => simp at hk
  · intro h
    refine ⟨fun _ => true, ⟨fun k q hk _ c hc => ⟨0, p, rfl, ?_, rfl⟩, fun i p' k q hi hk hki _ _ => ?_⟩, rfl⟩
    · cases k with
      | zero => simp at hk; subst hk; exact h c hc
      | succ k => simp at hk
    · have := (List.getElem?_eq_some_iff.1 hi).1
      simp at this; omega
theorem healthy_one {p : Pkg} (hm : mayPkg p = 0) : healthyP [p] = decide (∀ c ∈ p.pre ++ p.dep, c.any (satP p) = true) := by
  have hmet : ∀ c : Clause, metP c [p] = c.any (satP p) := fun c => by
    unfold metP
    congr 1
    funext a
    simp
  rw [healthyP, sickL, sickL, sickP, hm, Bool.eq_iff_iff]
  simp only [hmet, List.any_nil, Bool.or_false, Bool.not_eq_true', decide_eq_true_eq, bne_self_eq_false, Bool.false_or, Bool.or_eq_false_iff, List.any_eq_false, Bool.not_eq_false', Bool.not_eq_true', List.mem_append]
  constructor
  · rintro ⟨h1, h2⟩ c (hc | hc)
    · simpa using h1 c hc
    · simpa using h2 c hc
  · intro h
    exact ⟨fun c hc => by simpa using h c (.inl hc), fun c hc => by simpa using h c (.inr hc)⟩
end Go.Av
end
