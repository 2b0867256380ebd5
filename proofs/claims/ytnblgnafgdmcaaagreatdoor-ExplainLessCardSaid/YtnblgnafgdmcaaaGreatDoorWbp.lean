/- Texts that the last one of this claim rests on: a layer over the guide's own conditions for code; contracts of the functions that the law reaches, one by one. No conditions beside those of the given rows. -/
import Derived.Test.YtnblgnafgdmcaaaGreatDoorWbk
section
set_option linter.unusedSimpArgs false
set_option linter.unusedVariables false
namespace Go.Proofs.Tryz
open Go Go.Av
set_option linter.unusedSimpArgs false
set_option linter.unusedVariables false

theorem cause_meets {all : List Pkg} {S : Nat → Bool} {c : Nat × Nat × Nat} (hc : ValidC all c) : CauseS all S c ↔ ((c.2.1 = 3 ∨ c.2.1 = 4) → ∀ m ∈ meetsL all c, m ≠ c.1 → S m = true → False) ∧ ((c.2.1 = 1 ∨ c.2.1 = 2) → ∃ m ∈ meetsL all c, S m = true) := by
  obtain ⟨p, hp, v1, v2, v3⟩ := hc
  constructor
  · intro h
    refine ⟨fun hk m hm hne hs => ?_, fun hk => ?_⟩
    · obtain ⟨q, hq, h3⟩ := meetsL_mem.1 hm
      rcases hk with hk | hk
      · rw [hk] at v3
        obtain ⟨x, hx⟩ := get_some (l := p.con) (show c.2.2 < p.con.length from v3)
        have ec : clauseO all c = [x] := by simp [clauseO, hp, hk, hx]
        rw [ec] at h3
        have := h.con hk p x hp hx m q hq hs hne
        simp [this] at h3
      · rw [hk] at v3
        obtain ⟨x, hx⟩ := get_some (l := p.brk) (show c.2.2 < p.brk.length from v3)
        have ec : clauseO all c = [x] := by simp [clauseO, hp, hk, hx]
        rw [ec] at h3
        have := h.brk hk p x hp hx m q hq hs hne
        simp [this] at h3
    · rcases hk with hk | hk
      · rw [hk] at v3
        obtain ⟨x, hx⟩ := get_some (l := p.pre) (show c.2.2 < p.pre.length from v3)
        have ec : clauseO all c = x := by simp [clauseO, hp, hk, hx]
        obtain ⟨m, q, hq, h3, h4⟩ := h.pre hk p x hp hx
        exact ⟨m, meetsL_mem.2 ⟨q, hq, by rw [ec]; exact h3⟩, h4⟩
      · rw [hk] at v3
        obtain ⟨x, hx⟩ := get_some (l := p.dep) (show c.2.2 < p.dep.length from v3)
        have ec : clauseO all c = x := by simp [clauseO, hp, hk, hx]
        obtain ⟨m, q, hq, h3, h4⟩ := h.dep hk p x hp hx
        exact ⟨m, meetsL_mem.2 ⟨q, hq, by rw [ec]; exact h3⟩, h4⟩
  · rintro ⟨h1, h2⟩
    refine ⟨fun hk p' x hp' hx => ?_, fun hk p' x hp' hx => ?_, fun hk p' x hp' hx m q hq hm hne => ?_, fun hk p' x hp' hx m q hq hm hne => ?_⟩
    · obtain ⟨m, hm, hs⟩ := h2 (.inl hk)
      obtain ⟨q, hq, h3⟩ := meetsL_mem.1 hm
      have ec : clauseO all c = x := by simp [clauseO, hp', hk, hx]
      exact ⟨m, q, hq, by rw [← ec]; exact h3, hs⟩
    · obtain ⟨m, hm, hs⟩ := h2 (.inr hk)
      obtain ⟨q, hq, h3⟩ := meetsL_mem.1 hm
      have ec : clauseO all c = x := by simp [clauseO, hp', hk, hx]
      exact ⟨m, q, hq, by rw [← ec]; exact h3, hs⟩
    · have ec : clauseO all c = [x] := by simp [clauseO, hp', hk, hx]
      cases hsat : satP q x with
      | false => rfl
      | true => exact (h1 (.inl hk) m (meetsL_mem.2 ⟨q, hq, by rw [ec]; simp [hsat]⟩) hne hm).elim
    · have ec : clauseO all c = [x] := by simp [clauseO, hp', hk, hx]
      cases hsat : satP q x with
      | false => rfl
      | true => exact (h1 (.inr hk) m (meetsL_mem.2 ⟨q, hq, by rw [ec]; simp [hsat]⟩) hne hm).elim

/-- Those in a choice who meet a relation. -/
def there (all : List Pkg) (c : Nat × Nat × Nat) (t : List Nat) : List Nat := (meetsL all c).filter fun m => decide (m ∈ t)
theorem under_there {all : List Pkg} {c : Nat × Nat × Nat} {t : List Nat} (ht : ∀ j ∈ t, j < all.length) (hc : ValidC all c) : underC all c t = if c.2.1 = 1 ∨ c.2.1 = 2 then !decide ((there all c t).length = 0) else !(there all c t).any fun m => decide (m ≠ c.1) := by
  have hS : ∀ m, m < all.length → ((fun m => decide (m ∈ t)) m = true ↔ m ∈ t) := fun m _ => by simp
  have h1 := selE_cause (S := fun m => decide (m ∈ t)) ht hS hc
  rw [cause_meets hc] at h1
  obtain ⟨p, hp, v1, v2, v3⟩ := hc
  rw [Bool.eq_iff_iff, h1]
  split
  · rename_i hk
    have hk2 : ¬ (c.2.1 = 3 ∨ c.2.1 = 4) := by omega
    rw [Bool.not_eq_true', decide_eq_false_iff_not, List.length_eq_zero_iff]
    constructor
    · rintro ⟨_, h⟩
      obtain ⟨m, hm, hs⟩ := h hk
      intro he
      have : m ∈ there all c t := List.mem_filter.2 ⟨hm, hs⟩
      rw [he] at this
      cases this
    · intro h
      refine ⟨fun h => (hk2 h).elim, fun _ => ?_⟩
      obtain ⟨m, hm⟩ := List.exists_mem_of_ne_nil _ h
      obtain ⟨g1, g2⟩ := List.mem_filter.1 hm
      exact ⟨m, g1, g2⟩
  · rename_i hk
    have hk2 : c.2.1 = 3 ∨ c.2.1 = 4 := by omega
    rw [Bool.not_eq_true', List.any_eq_false]
    constructor
    · rintro ⟨h, _⟩ m hm hne
      obtain ⟨g1, g2⟩ := List.mem_filter.1 hm
      exact h hk2 m g1 (by simpa using hne) g2
    · intro h
      refine ⟨fun _ m hm hne hs => h m (List.mem_filter.2 ⟨hm, hs⟩) (by simpa using hne), fun h => (hk h).elim⟩
end Go.Proofs.Tryz
end
