/- Texts that the last one of this claim rests on: a layer over the guide's own conditions for code; contracts of the functions that the law reaches, one by one. No conditions beside those of the given rows. -/
import Derived.Test.YtljcjoglabbcoaaGreatDoorWbf
section
set_option linter.unusedSimpArgs false
set_option linter.unusedVariables false
namespace Go.Av

/-- A choice of places that meets all that their packages ask. -/
structure SelOk (all : List Pkg) (S : Nat → Bool) : Prop where
  dep : ∀ (i : Nat) (p : Pkg), all[i]? = some p → S i = true → ∀ c ∈ p.pre ++ p.dep, ∃ (k : Nat) (q : Pkg), all[k]? = some q ∧ c.any (satP q) = true ∧ S k = true
  con : ∀ (i : Nat) (p : Pkg) (k : Nat) (q : Pkg), all[i]? = some p → all[k]? = some q → k < i → S i = true → S k = true → p.name ≠ q.name ∧ clashP p q = false

theorem litT_pos (M : Nat → Bool) (i : Nat) : litT M (litN i) = M (i + 1) := by
  unfold litT
  rw [if_pos (litN_pos i), litN_abs]
theorem litT_not (M : Nat → Bool) (i : Nat) : litT M (-litN i) = !M (i + 1) := by
  rw [litT_neg (by have := litN_pos i; omega), litT_pos]

theorem meetL_claT {M : Nat → Bool} {c : Clause} : ∀ (i : Nat) (l : List Pkg), claT M (meetL c i l) = true ↔ ∃ (k : Nat) (q : Pkg), l[k]? = some q ∧ c.any (satP q) = true ∧ M (i + k + 1) = true
  | i, [] => by simp [meetL, claT]
  | i, q :: r => by
    have ih := meetL_claT (M := M) (c := c) (i + 1) r
    have e : claT M (meetL c i (q :: r)) = (claT M (if c.any (satP q) = true then [litN i] else []) || claT M (meetL c (i + 1) r)) := by rw [meetL, claT, List.any_append]; rfl
    rw [e, Bool.or_eq_true, ih]
    constructor
    · rintro (h | ⟨k, q', h1, h2, h3⟩)
      · split at h
        · rename_i hc
          refine ⟨0, q, rfl, hc, ?_⟩
          simpa [claT, litT_pos] using h
        · simp [claT] at h
      · exact ⟨k + 1, q', by simpa using h1, h2, by rw [show i + (k + 1) + 1 = i + 1 + k + 1 by omega]; exact h3⟩
    · rintro ⟨k, q', h1, h2, h3⟩
      cases k with
      | zero =>
        simp at h1; subst h1
        left
        rw [if_pos h2]
        simpa [claT, litT_pos] using h3
      | succ k => exact .inr ⟨k, q', by simpa using h1, h2, by rw [show i + 1 + k + 1 = i + (k + 1) + 1 by omega]; exact h3⟩

theorem depL_claT {M : Nat → Bool} {all : List Pkg} {i : Nat} {c : Clause} : claT M (depL all i c) = true ↔ (M (i + 1) = true → ∃ (k : Nat) (q : Pkg), all[k]? = some q ∧ c.any (satP q) = true ∧ M (k + 1) = true) := by
  have e : claT M (depL all i c) = (litT M (-litN i) || claT M (meetL c 0 all)) := rfl
  rw [e, litT_not, Bool.or_eq_true, meetL_claT]
  simp only [Nat.zero_add]
  cases h : M (i + 1) <;> simp

theorem conL_setT {M : Nat → Bool} {p : Pkg} {i : Nat} : ∀ (j : Nat) (l : List Pkg), setT M (conL p i j l) = true ↔ ∀ (k : Nat) (q : Pkg), l[k]? = some q → (p.name == q.name || clashP p q) = true → M (i + 1) = true → M (j + k + 1) = true → False
  | j, [] => by simp [conL, setT]
  | j, q :: r => by
    have ih := conL_setT (M := M) (p := p) (i := i) (j + 1) r
    rw [conL, setT_app, Bool.and_eq_true, ih]
    constructor
    · rintro ⟨h1, h2⟩ k q' hk hc hi hj
      cases k with
      | zero =>
        simp at hk; subst hk
        rw [if_pos hc] at h1
        simp [setT, claT, litT_not] at h1
        rcases h1 with h | h
        · rw [hi] at h; cases h
        · rw [Nat.add_zero] at hj; rw [hj] at h; cases h
      | succ k => exact h2 k q' (by simpa using hk) hc hi (by rw [show j + 1 + k + 1 = j + (k + 1) + 1 by omega]; exact hj)
    · intro h
      refine ⟨?_, fun k q' hk hc hi hj => h (k + 1) q' (by simpa using hk) hc hi (by rw [show j + (k + 1) + 1 = j + 1 + k + 1 by omega]; exact hj)⟩
      split
      · rename_i hc
        have := h 0 q rfl hc
        simp only [setT, claT, List.all_cons, List.any_cons, List.any_nil, List.all_nil, litT_not, Nat.add_zero] at this ⊢
        cases h1 : M (i + 1) <;> cases h2 : M (j + 1) <;> simp_all
      · rfl

theorem allL_setT {M : Nat → Bool} {all : List Pkg} : ∀ (j : Nat) (l : List Pkg), setT M (allL all j l) = true ↔ ∀ (k : Nat) (p : Pkg), l[k]? = some p → setT M (pkgL all (j + k) p) = true
  | j, [] => by simp [allL, setT]
  | j, p :: r => by
    have ih := allL_setT (M := M) (all := all) (j + 1) r
    rw [allL, setT_app, Bool.and_eq_true, ih]
    constructor
    · rintro ⟨h1, h2⟩ k q hk
      cases k with
      | zero => simp at hk; subst hk; exact h1
      | succ k => have := h2 k q (by simpa using hk); rw [show j + (k + 1) = j + 1 + k by omega]; exact this
    · intro h
      exact ⟨h 0 p rfl, fun k q hk => by have := h (k + 1) q (by simpa using hk); rw [show j + 1 + k = j + (k + 1) by omega]; exact this⟩

theorem setT_sel {M : Nat → Bool} {all : List Pkg} : setT M (allL all 0 all) = true ↔ SelOk all fun i => M (i + 1) := by
  rw [allL_setT]
  constructor
  · intro h
    refine ⟨fun i p hp hS c hc => ?_, fun i p k q hp hq hki hi hk => ?_⟩
    · have := h i p hp
      rw [pkgL, setT_app, Bool.and_eq_true, Nat.zero_add] at this
      have := (List.all_eq_true.1 this.1) _ (List.mem_map.2 ⟨c, hc, rfl⟩)
      exact depL_claT.1 this hS
    · have := h i p hp
      rw [pkgL, setT_app, Bool.and_eq_true, Nat.zero_add] at this
      have := (conL_setT _ _).1 this.2 k q (by rw [List.getElem?_take_of_lt hki]; exact hq)
      have h2 : ¬ (p.name == q.name || clashP p q) = true := fun e => this e hi (by simpa using hk)
      simp at h2
      exact ⟨h2.1, h2.2⟩
  · intro h k p hp
    rw [pkgL, setT_app, Bool.and_eq_true, Nat.zero_add]
    refine ⟨List.all_eq_true.2 fun x hx => ?_, (conL_setT _ _).2 fun j q hj hc hi hk => ?_⟩
    · obtain ⟨c, hc, rfl⟩ := List.mem_map.1 hx
      exact depL_claT.2 fun hS => h.dep k p hp hS c hc
    · have hjk : j < k := by
        have := (List.getElem?_eq_some_iff.1 hj).1
        rw [List.length_take] at this; omega
      rw [List.getElem?_take_of_lt hjk] at hj
      have := h.con k p j q hp hj hjk hi (by simpa using hk)
      simp [this.1, this.2] at hc

/-- What a literal asks of a choice. -/
def litS (S : Nat → Bool) (l : Int) : Prop := if 0 < l then S (l.natAbs - 1) = true else S (l.natAbs - 1) = false
theorem litS_pos (S : Nat → Bool) (i : Nat) : litS S (litN i) ↔ S i = true := by
  unfold litS; rw [if_pos (litN_pos i), litN_abs]; simp
theorem litS_not (S : Nat → Bool) (i : Nat) : litS S (-litN i) ↔ S i = false := by
  unfold litS; rw [if_neg (by have := litN_pos i; omega), Int.natAbs_neg, litN_abs]; simp

theorem satA_sel {all : List Pkg} {asm : List Int} : satA all.length (allL all 0 all) asm ↔ (∀ l ∈ asm, wfL all.length l = true) ∧ ∃ S, SelOk all S ∧ ∀ l ∈ asm, litS S l := by
  have key : ∀ (M : Nat → Bool) (l : Int), l ≠ 0 → (litT M l = true ↔ litS (fun i => M (i + 1)) l) := fun M l hl => by
    have e : l.natAbs - 1 + 1 = l.natAbs := by omega
    unfold litT litS
    simp only [e]
    split <;> simp
  unfold satA
  refine ⟨fun ⟨h, M, h1, h2⟩ => ⟨h, fun i => M (i + 1), setT_sel.1 h1, fun l hl => ?_⟩, fun ⟨h, S, h1, h2⟩ => ⟨h, fun i => S (i - 1), setT_sel.2 (by simpa using h1), fun l hl => ?_⟩⟩
  · exact (key M l (by have := h l hl; simp [wfL] at this; exact this.1)).1 (h2 l hl)
  · exact (key _ l (by have := h l hl; simp [wfL] at this; exact this.1)).2 (by simpa using h2 l hl)

theorem wfL_lit {n i : Nat} (h : i < n) : wfL n (litN i) = true := by
  have := litN_pos i; have := litN_abs i
  simp [wfL]; omega
theorem wfL_not {n i : Nat} (h : i < n) : wfL n (-litN i) = true := by
  have := litN_pos i; have := litN_abs i
  simp [wfL]; omega
end Go.Av
end
section
set_option linter.unusedSimpArgs false
set_option linter.unusedVariables false
namespace Go.Av

def lightD (d : List Clause) : Bool := decide (d.length ≤ 14) && d.all fun c => decide (c.length ≤ 10)
def lightP (i : Nat) (p : Pkg) : Bool := decide (i < 26) && decide (p.con.length + p.brk.length + p.prov.length ≤ 40) && [p.pre, p.dep, p.rcm].all lightD
def lightL : Nat → List Pkg → Bool
  | _, [] => true
  | i, p :: r => lightP i p && lightL (i + 1) r
theorem lightL_get : ∀ {i : Nat} {l : List Pkg}, lightL i l = true → ∀ p ∈ l, p.con.length + p.brk.length + p.prov.length ≤ 40
  | _, [], _, p, hp => by simp at hp
  | i, q :: r, h, p, hp => by
    rw [lightL, Bool.and_eq_true] at h
    rcases List.mem_cons.1 hp with rfl | hp
    · have := h.1
      simp [lightP] at this
      exact this.1.2
    · exact lightL_get h.2 p hp
end Go.Av
end
