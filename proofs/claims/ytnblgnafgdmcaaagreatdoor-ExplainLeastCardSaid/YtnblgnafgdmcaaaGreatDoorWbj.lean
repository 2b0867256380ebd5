/- Texts that the last one of this claim rests on: a layer over the guide's own conditions for code; contracts of the functions that the law reaches, one by one. No conditions beside those of the given rows. -/
import Derived.Test.YtnblgnafgdmcaaaGreatDoorWbf
section
set_option linter.unusedSimpArgs false
set_option linter.unusedVariables false
namespace Go.Av

/-- A choice of places that meets all that their packages ask. -/
structure SelOk (all : List Pkg) (S : Nat → Bool) : Prop where
  dep : ∀ (i : Nat) (p : Pkg), all[i]? = some p → S i = true → ∀ c ∈ p.pre ++ p.dep, ∃ (k : Nat) (q : Pkg), all[k]? = some q ∧ c.any (satP q) = true ∧ S k = true
  con : ∀ (i : Nat) (p : Pkg) (k : Nat) (q : Pkg), all[i]? = some p → all[k]? = some q → k < i → S i = true → S k = true → p.name ≠ q.name ∧ clashP p q = false

theorem litT_pos (M : Nat → Bool) (i : Nat) : litT M (litN i) = M (i + 1) := by
  unfold litT
  rw [if_pos (litN_pos i), litN_abs]
theorem litT_not (M : Nat → Bool) (i : Nat) : litT M (-litN i) = !M (i + 1) := by
  rw [litT_neg (by have := litN_pos i; omega), litT_pos]

theorem meetL_claT {M : Nat → Bool} {c : Clause} : ∀ (i : Nat) (l : List Pkg), claT M (meetL c i l) = true ↔ ∃ (k : Nat) (q : Pkg), l[k]? = some q ∧ c.any (satP q) = true ∧ M (i + k + 1) = true
  | i, [] => by simp [meetL, claT]
  | i, q :: r => by
    have ih := meetL_claT (M := M) (c := c) (i + 1) r
    have e : claT M (meetL c i (q :: r)) = (claT M (if c.any (satP q) = true then [litN i] else []) || claT M (meetL c (i + 1) r)) := by rw [meetL, claT, List.any_append]; rfl
    rw [e, Bool.or_eq_true, ih]
    constructor
    · rintro (h | ⟨k, q', h1, h2, h3⟩)
      · split at h
        · rename_i hc
          refine ⟨0, q, rfl, hc, ?_⟩
          simpa [claT, litT_pos] using h
        · simp [claT] at h
      · exact ⟨k + 1, q', by simpa using h1, h2, by rw [show i + (k + 1) + 1 = i + 1 + k + 1 by omega]; exact h3⟩
    · rintro ⟨k, q', h1, h2, h3⟩
      cases k with
      | zero =>
        simp at h1; subst h1
        left
        rw [if_pos h2]
        simpa [claT, litT_pos] using h3
      | succ k => exact .inr ⟨k, q', by simpa using h1, h2, by rw [show i + 1 + k + 1 = i + (k + 1) + 1 by omega]; exact h3⟩

theorem depL_claT {M : Nat → Bool} {all : List Pkg} {i : Nat} {c : Clause} : claT M (depL all i c) = true ↔ (M (i + 1) = true → ∃ (k : Nat) (q : Pkg), all[k]? = some q ∧ c.any (satP q) = true ∧ M (k + 1) = true) := by
  have e : claT M (depL all i c) = (litT M (-litN i) || claT M (meetL c 0 all)) := rfl
  rw [e, litT_not, Bool.or_eq_true, meetL_claT]
  simp only [Nat.zero_add]
  cases h : M (i + 1) <;> simp

theorem conL_setT {M : Nat → Bool} {p : Pkg} {i : Nat} : ∀ (j : Nat) (l : List Pkg), setT M (conL p i j l) = true ↔ ∀ (k : Nat) (q : Pkg), l[k]? = some q → (p.name == q.name || clashP p q) = true → M (i + 1) = true → M (j + k + 1) = true → False
  | j, [] => by simp [conL, setT]
  | j, q :: r => by
    have ih := conL_setT (M := M) (p := p) (i := i) (j + 1) r
    rw [conL, setT_app, Bool.and_eq_true, ih]
    constructor
    · rintro ⟨h1, h2⟩ k q' hk hc hi hj
      cases k with
      | zero =>
        simp at hk; subst hk
        rw [if_pos hc] at h1
        simp [setT, claT, litT_not] at h1
        rcases h1 with h | h
        · rw [hi] at h; cases h
        · rw [Nat.add_zero] at hj; rw [hj] at h; cases h
      | succ k => exact h2 k q' (by simpa using hk) hc hi (by rw [show j + 1 + k + 1 = j + (k + 1) + 1 by omega]; exact hj)
    · intro h
      refine ⟨?_, fun k q' hk hc hi hj => h (k + 1) q' (by simpa using hk) hc hi (by rw [show j + (k + 1) + 1 = j + 1 + k + 1 by omega]; exact hj)⟩
      split
      · rename_i hc
        have := h 0 q rfl hc
        simp only [setT, claT, List.all_cons, List.any_cons, List.any_nil, List.all_nil, litT_not, Nat.add_zero] at this ⊢
        cases h1 : M (i + 1) <;> cases h2 : M (j + 1) <;> simp_all
      · rfl

theorem allL_setT {M : Nat → Bool} {all : List Pkg} : ∀ (j : Nat) (l : List Pkg), setT M (allL all j l) = true ↔ ∀ (k : Nat) (p : Pkg), l[k]? = some p → setT M (pkgL all (j + k) p) = true
  | j, [] => by simp [allL, setT]
  | j, p :: r => by
    have ih := allL_setT (M := M) (all := all) (j + 1) r
    rw [allL, setT_app, Bool.and_eq_true, ih]
    constructor
    · rintro ⟨h1, h2⟩ k q hk
      cases k with
      | zero => simp at hk; subst hk; exact h1
      | succ k => have := h2 k q (by simpa using hk); rw [show j + (k + 1) = j + 1 + k by omega]; exact this
    · intro h
      exact ⟨h 0 p rfl, fun k q hk => by have := h (k + 1) q (by simpa using hk); rw [show j + 1 + k = j + (k + 1) by omega]; exact this⟩

theorem setT_sel {M : Nat → Bool} {all : List Pkg} : setT M (allL all 0 all) = true ↔ SelOk all fun i => M (i + 1) := by
  rw [allL_setT]
  constructor
  · intro h
    refine ⟨fun i p hp hS c hc => ?_, fun i p k q hp hq hki hi hk => ?_⟩
    · have := h i p hp
      rw [pkgL, setT_app, Bool.and_eq_true, Nat.zero_add] at this
      have := (List.all_eq_true.1 this.1) _ (List.mem_map.2 ⟨c, hc, rfl⟩)
      exact depL_claT.1 this hS
    · have := h i p hp
      rw [pkgL, setT_app, Bool.and_eq_true, Nat.zero_add] at this
      have := (conL_setT _ _).1 this.2 k q (by rw [List.getElem?_take_of_lt hki]; exact hq)
      have h2 : ¬ (p.name == q.name || clashP p q) = true := fun e => this e hi (by simpa using hk)
      simp at h2
      exact ⟨h2.1, h2.2⟩
  · intro h k p hp
    rw [pkgL, setT_app, Bool.and_eq_true, Nat.zero_add]
    refine ⟨List.all_eq_true.2 fun x hx => ?_, (conL_setT _ _).2 fun j q hj hc hi hk => ?_⟩
    · obtain ⟨c, hc, rfl⟩ := List.mem_map.1 hx
      exact depL_claT.2 fun hS => h.dep k p hp hS c hc
    · have hjk : j < k := by
        have := (List.getElem?_eq_some_iff.1 hj).1
        rw [List.length_take] at this; omega
      rw [List.getElem?_take_of_lt hjk] at hj
      have := h.con k p j q hp hj hjk hi (by simpa using hk)
      simp [this.1, this.2] at hc

/-- What a literal asks of a choice. -/
def litS (S : Nat → Bool) (l : Int) : Prop := if 0 < l then S (l.natAbs - 1) = true else S (l.natAbs - 1) = false
theorem litS_pos (S : Nat → Bool) (i : Nat) : litS S (litN i) ↔ S i = true := by
  unfold litS; rw [if_pos (litN_pos i), litN_abs]; simp
theorem litS_not (S : Nat → Bool) (i : Nat) : litS S (-litN i) ↔ S i = false := by
  unfold litS; rw [if_neg (by have := litN_pos i; omega), Int.natAbs_neg, litN_abs]; simp

theorem satA_sel {all : List Pkg} {asm : List Int} : satA all.length (allL all 0 all) asm ↔ (∀ l ∈ asm, wfL all.length l = true) ∧ ∃ S, SelOk all S ∧ ∀ l ∈ asm, litS S l := by
  have key : ∀ (M : Nat → Bool) (l : Int), l ≠ 0 → (litT M l = true ↔ litS (fun i => M (i + 1)) l) := fun M l hl => by
    have e : l.natAbs - 1 + 1 = l.natAbs := by omega
    unfold litT litS
    simp only [e]
    split <;> simp
  unfold satA
  refine ⟨fun ⟨h, M, h1, h2⟩ => ⟨h, fun i => M (i + 1), setT_sel.1 h1, fun l hl => ?_⟩, fun ⟨h, S, h1, h2⟩ => ⟨h, fun i => S (i - 1), setT_sel.2 (by simpa using h1), fun l hl => ?_⟩⟩
  · exact (key M l (by have := h l hl; simp [wfL] at this; exact this.1)).1 (h2 l hl)
  · exact (key _ l (by have := h l hl; simp [wfL] at this; exact this.1)).2 (by simpa using h2 l hl)

theorem wfL_lit {n i : Nat} (h : i < n) : wfL n (litN i) = true := by
  have := litN_pos i; have := litN_abs i
  simp [wfL]; omega
theorem wfL_not {n i : Nat} (h : i < n) : wfL n (-litN i) = true := by
  have := litN_pos i; have := litN_abs i
  simp [wfL]; omega
end Go.Av
end
section
set_option linter.unusedSimpArgs false
set_option linter.unusedVariables false
namespace Go.Av

def lightD (d : List Clause) : Bool := decide (d.length ≤ 14) && d.all fun c => decide (c.length ≤ 10)
def lightP (i : Nat) (p : Pkg) : Bool := decide (i < 26) && decide (p.con.length + p.brk.length + p.prov.length ≤ 40) && [p.pre, p.dep, p.rcm].all lightD
def lightL : Nat → List Pkg → Bool
  | _, [] => true
  | i, p :: r => lightP i p && lightL (i + 1) r
theorem lightL_get : ∀ {i : Nat} {l : List Pkg}, lightL i l = true → ∀ p ∈ l, p.con.length + p.brk.length + p.prov.length ≤ 40
  | _, [], _, p, hp => by simp at hp
  | i, q :: r, h, p, hp => by
    rw [lightL, Bool.and_eq_true] at h
    rcases List.mem_cons.1 hp with rfl | hp
    · have := h.1
      simp [lightP] at this
      exact this.1.2
    · exact lightL_get h.2 p hp
end Go.Av
end
section
set_option linter.unusedSimpArgs false
set_option linter.unusedVariables false
namespace Go.Av

def all2 {α β : Type} (f : α → β → Bool) : List α → List β → Bool
  | [], [] => true
  | x :: xs, y :: ys => f x y && all2 f xs ys
  | _, _ => false
theorem all2_get {α β : Type} {f : α → β → Bool} : ∀ {xs : List α} {ys : List β}, all2 f xs ys = true → xs.length = ys.length ∧ ∀ (i : Nat) (x : α) (y : β), xs[i]? = some x → ys[i]? = some y → f x y = true
  | [], [], _ => ⟨rfl, by simp⟩
  | [], _ :: _, h => by simp [all2] at h
  | _ :: _, [], h => by simp [all2] at h
  | x :: xs, y :: ys, h => by
    rw [all2, Bool.and_eq_true] at h
    obtain ⟨h1, h2⟩ := all2_get h.2
    refine ⟨by simp [h1], fun i x' y' hx hy => ?_⟩
    cases i with
    | zero => simp at hx hy; subst hx hy; exact h.1
    | succ i => exact h2 i x' y' (by simpa using hx) (by simpa using hy)

def subB : Nat → AV → AV → Bool
  | 0, _, _ => false
  | n + 1, x, y => match x, y with
    | .int k a, .int k' b => decide (k = k') && a == b
    | .bool a, .bool b => a == b
    | .str a, .str b => a == b
    | .nil, .nil => true
    | .nils, .nils => true
    | .nils, .sl _ [] => true
    | .sl e xs, .sl e' ys => e == e' && all2 (subB n) xs ys
    | .lit e xs, .sl e' ys => e == e' && all2 (subB n) xs ys
    | .agg t xs, .agg t' ys => t == t' && all2 (subB n) xs ys
    | _, _ => false
theorem subB_sound : ∀ {n : Nat} {x y : AV}, subB n x y = true → Sub x y
  | 0, _, _, h => by simp [subB] at h
  | n + 1, x, y, h => by
    unfold subB at h
    split at h
    · simp only [Bool.and_eq_true, decide_eq_true_eq, beq_iff_eq] at h
      rw [h.1, h.2]; exact .refl _
    · rw [beq_iff_eq.1 h]; exact .refl _
    · rw [beq_iff_eq.1 h]; exact .refl _
    · exact .refl _
    · exact .refl _
    · exact .nils _
    · rw [Bool.and_eq_true, beq_iff_eq] at h
      obtain ⟨rfl, h⟩ := h
      obtain ⟨h1, h2⟩ := all2_get h
      exact .sls h1 fun i x y hx hy => subB_sound (h2 i x y hx hy)
    · rw [Bool.and_eq_true, beq_iff_eq] at h
      obtain ⟨rfl, h⟩ := h
      obtain ⟨h1, h2⟩ := all2_get h
      exact .trans (.lits h1 fun i x y hx hy => subB_sound (h2 i x y hx hy)) (.lit _ _)
    · rw [Bool.and_eq_true, beq_iff_eq] at h
      obtain ⟨rfl, h⟩ := h
      obtain ⟨h1, h2⟩ := all2_get h
      exact .agg h1 fun i x y hx hy => subB_sound (h2 i x y hx hy)
    · cases h

/-- The packages of the report that every program must know. -/
def awA : Pkg := ⟨[97, 97], [49], [], [[⟨[98, 98], 0, []⟩]], [], [], [], [], false⟩
def awB : Pkg := ⟨[98, 98], [49], [], [], [], [], [], [], false⟩
def awC : Pkg := ⟨[99, 99], [49], [], [], [], [⟨[98, 98], 0, []⟩], [], [], false⟩
def awL : List Pkg := [awA, awB, awC]
theorem aw_cls : allL awL 0 awL = [[-1, 2], [-3, -2]] := by decide +kernel
theorem aw_may : mayAll awL = 0 := by decide +kernel
end Go.Av
end
section
set_option linter.unusedSimpArgs false
set_option linter.unusedVariables false
namespace Go.Av

def bareP (p : Pkg) : Bool := decide (p.pre.length + p.dep.length + p.con.length + p.brk.length = 0)
theorem bareP_nil {p : Pkg} (h : bareP p = true) : p.pre = [] ∧ p.dep = [] ∧ p.con = [] ∧ p.brk = [] := by
  simp only [bareP, decide_eq_true_eq] at h
  refine ⟨?_, ?_, ?_, ?_⟩ <;> exact List.eq_nil_of_length_eq_zero (by omega)
theorem sel_bare {all : List Pkg} {i : Nat} {p : Pkg} (hi : all[i]? = some p) (hb : bareP p = true) : SelOk all fun k => k == i := by
  obtain ⟨h1, h2, _, _⟩ := bareP_nil hb
  refine ⟨fun k q hk hS c hc => ?_, fun k q j r _ _ hjk hk hj => ?_⟩
  · rw [beq_iff_eq] at hS
    subst hS
    rw [hi] at hk
    cases hk
    rw [h1, h2] at hc
    cases hc
  · rw [beq_iff_eq] at hk hj
    omega
theorem mayAll_one (p : Pkg) : mayAll [p] = mayPkg p := by
  have h1 : orL ([p].map mayPkg) = mayPkg p := by
    simp only [List.map_cons, List.map_nil, orL]
    split
    · rfl
    · rename_i h; exact (Classical.not_not.1 h).symm
  have h2 : dupL [] [p] = false := rfl
  have h3 : (namesL [p] []).length = 1 := rfl
  unfold mayAll
  rw [if_neg (by simp), h1, h2, h3]
  by_cases h : mayPkg p = 0
  · simp [h]
  · simp [h]
theorem sel_one {p : Pkg} : (∃ S, SelOk [p] S ∧ S 0 = true) ↔ ∀ c ∈ p.pre ++ p.dep, c.any (satP p) = true := by
  constructor
  · rintro ⟨S, h, h0⟩ c hc
    obtain ⟨k, q, hk, h1, _⟩ := h.dep 0 p rfl h0 c hc
    cases k with
    | zero => simp at hk; subst hk; exact h1
    | succ k => simp at hk
  · intro h
    refine ⟨fun _ => true, ⟨fun k q hk _ c hc => ⟨0, p, rfl, ?_, rfl⟩, fun i p' k q hi hk hki _ _ => ?_⟩, rfl⟩
    · cases k with
      | zero => simp at hk; subst hk; exact h c hc
      | succ k => simp at hk
    · have := (List.getElem?_eq_some_iff.1 hi).1
      simp at this; omega
theorem healthy_one {p : Pkg} (hm : mayPkg p = 0) : healthyP [p] = decide (∀ c ∈ p.pre ++ p.dep, c.any (satP p) = true) := by
  have hmet : ∀ c : Clause, metP c [p] = c.any (satP p) := fun c => by
    unfold metP
    congr 1
    funext a
    simp
  rw [healthyP, sickL, sickL, sickP, hm, Bool.eq_iff_iff]
  simp only [hmet, List.any_nil, Bool.or_false, Bool.not_eq_true', decide_eq_true_eq, bne_self_eq_false, Bool.false_or, Bool.or_eq_false_iff, List.any_eq_false, Bool.not_eq_false', Bool.not_eq_true', List.mem_append]
  constructor
  · rintro ⟨h1, h2⟩ c (hc | hc)
    · simpa using h1 c hc
    · simpa using h2 c hc
  · intro h
    exact ⟨fun c hc => by simpa using h c (.inl hc), fun c hc => by simpa using h c (.inr hc)⟩
end Go.Av
end
section
set_option linter.unusedSimpArgs false
set_option linter.unusedVariables false
namespace Go.Av

/-- There is a choice with this one; with this one and that one; with this one and without that one. -/
def Can1 (all : List Pkg) (i : Nat) : Prop := ∃ S, SelOk all S ∧ S i = true
def Can2 (all : List Pkg) (i j : Nat) : Prop := ∃ S, SelOk all S ∧ S i = true ∧ S j = true
def CanN (all : List Pkg) (i j : Nat) : Prop := ∃ S, SelOk all S ∧ S i = true ∧ S j = false

structure NeedsP (all : List Pkg) (i j : Nat) : Prop where
  ne : i ≠ j
  can : Can1 all i
  not : ¬ CanN all i j
structure NeverP (all : List Pkg) (i j : Nat) : Prop where
  ne : i ≠ j
  can : Can1 all i
  can' : Can1 all j
  not : ¬ Can2 all i j

theorem NeedsP.sel {all : List Pkg} {i j : Nat} (h : NeedsP all i j) {S : Nat → Bool} (hS : SelOk all S) (hi : S i = true) : S j = true := by
  cases hj : S j with
  | true => rfl
  | false => exact absurd ⟨S, hS, hi, hj⟩ h.not
theorem NeedsP.can_j {all : List Pkg} {i j : Nat} (h : NeedsP all i j) : Can1 all j := by
  obtain ⟨S, hS, hi⟩ := h.can
  exact ⟨S, hS, h.sel hS hi⟩
theorem NeedsP.not_never {all : List Pkg} {i j : Nat} (h : NeedsP all i j) : ¬ NeverP all i j := fun hn => by
  obtain ⟨S, hS, hi⟩ := h.can
  exact hn.not ⟨S, hS, hi, h.sel hS hi⟩
theorem NeedsP.trans {all : List Pkg} {i j k : Nat} (h : NeedsP all i j) (h' : NeedsP all j k) (hk : k ≠ i) : NeedsP all i k :=
  ⟨fun e => hk e.symm, h.can, fun ⟨_, hS, hi, hk⟩ => by rw [h'.sel hS (h.sel hS hi)] at hk; cases hk⟩
theorem NeedsP.never {all : List Pkg} {i j k : Nat} (h : NeedsP all i j) (h' : NeverP all j k) : NeverP all i k := by
  refine ⟨fun e => ?_, h.can, h'.can', fun ⟨S, hS, hi, hk⟩ => h'.not ⟨S, hS, h.sel hS hi, hk⟩⟩
  subst e
  obtain ⟨S, hS, hi⟩ := h.can
  exact h'.not ⟨S, hS, h.sel hS hi, hi⟩
theorem NeverP.symm {all : List Pkg} {i j : Nat} (h : NeverP all i j) : NeverP all j i :=
  ⟨fun e => h.ne e.symm, h.can', h.can, fun ⟨S, hS, hj, hi⟩ => h.not ⟨S, hS, hi, hj⟩⟩

theorem clash_symm (p q : Pkg) : clashP p q = clashP q p := by
  unfold clashP
  rw [Bool.or_comm (againstP p q)]
  congr 1
  rw [Bool.eq_iff_iff]
  simp only [bne_iff_ne, ne_eq]
  exact ⟨fun h e => h e.symm, fun h e => h e.symm⟩

/-- Places turned round. -/
def turn (n : Nat) (S : Nat → Bool) : Nat → Bool := fun k => if k < n then S (n - 1 - k) else false
theorem turn_at {n k : Nat} (S : Nat → Bool) (h : k < n) : turn n S k = S (n - 1 - k) := by simp [turn, h]
theorem rev_get {all : List Pkg} {i : Nat} (h : i < all.length) : all.reverse[i]? = all[all.length - 1 - i]? := by
  rw [List.getElem?_reverse h]
theorem sel_turn {all : List Pkg} {S : Nat → Bool} (h : SelOk all S) : SelOk all.reverse (turn all.length S) := by
  have key : ∀ {i : Nat} {p : Pkg}, all.reverse[i]? = some p → i < all.length ∧ all[all.length - 1 - i]? = some p := fun {i p} hp => by
    have hl := (List.getElem?_eq_some_iff.1 hp).1
    rw [List.length_reverse] at hl
    rw [rev_get hl] at hp
    exact ⟨hl, hp⟩
  refine ⟨fun i p hp hS c hc => ?_, fun i p k q hp hq hki hi hk => ?_⟩
  · obtain ⟨hl, hp'⟩ := key hp
    rw [turn_at _ hl] at hS
    obtain ⟨k, q, hk, h1, h2⟩ := h.dep _ p hp' hS c hc
    have hkl := (List.getElem?_eq_some_iff.1 hk).1
    refine ⟨all.length - 1 - k, q, ?_, h1, ?_⟩
    · rw [rev_get (by omega), show all.length - 1 - (all.length - 1 - k) = k by omega]; exact hk
    · rw [turn_at _ (by omega), show all.length - 1 - (all.length - 1 - k) = k by omega]; exact h2
  · obtain ⟨hl, hp'⟩ := key hp
    obtain ⟨hlk, hq'⟩ := key hq
    rw [turn_at _ hl] at hi
    rw [turn_at _ hlk] at hk
    have := h.con (all.length - 1 - k) q (all.length - 1 - i) p hq' hp' (by omega) hk hi
    exact ⟨fun e => this.1 e.symm, by rw [clash_symm]; exact this.2⟩
theorem turn_turn {n : Nat} (S : Nat → Bool) {k : Nat} (h : k < n) : turn n (turn n S) k = S k := by
  rw [turn_at _ h, turn_at _ (by omega), show n - 1 - (n - 1 - k) = k by omega]

theorem can1_turn {all : List Pkg} {i : Nat} (hi : i < all.length) (h : Can1 all i) : Can1 all.reverse (all.length - 1 - i) := by
  obtain ⟨S, hS, h1⟩ := h
  exact ⟨_, sel_turn hS, by rw [turn_at _ (by omega), show all.length - 1 - (all.length - 1 - i) = i by omega]; exact h1⟩
theorem can2_turn {all : List Pkg} {i j : Nat} (hi : i < all.length) (hj : j < all.length) (h : Can2 all i j) : Can2 all.reverse (all.length - 1 - i) (all.length - 1 - j) := by
  obtain ⟨S, hS, h1, h2⟩ := h
  exact ⟨_, sel_turn hS, by rw [turn_at _ (by omega), show all.length - 1 - (all.length - 1 - i) = i by omega]; exact h1, by rw [turn_at _ (by omega), show all.length - 1 - (all.length - 1 - j) = j by omega]; exact h2⟩
theorem canN_turn {all : List Pkg} {i j : Nat} (hi : i < all.length) (hj : j < all.length) (h : CanN all i j) : CanN all.reverse (all.length - 1 - i) (all.length - 1 - j) := by
  obtain ⟨S, hS, h1, h2⟩ := h
  exact ⟨_, sel_turn hS, by rw [turn_at _ (by omega), show all.length - 1 - (all.length - 1 - i) = i by omega]; exact h1, by rw [turn_at _ (by omega), show all.length - 1 - (all.length - 1 - j) = j by omega]; exact h2⟩
theorem can1_turn_iff {all : List Pkg} {i : Nat} (hi : i < all.length) : Can1 all.reverse (all.length - 1 - i) ↔ Can1 all i := by
  refine ⟨fun h => ?_, can1_turn hi⟩
  have := can1_turn (all := all.reverse) (by simp; omega) h
  rwa [List.reverse_reverse, List.length_reverse, show all.length - 1 - (all.length - 1 - i) = i by omega] at this
theorem can2_turn_iff {all : List Pkg} {i j : Nat} (hi : i < all.length) (hj : j < all.length) : Can2 all.reverse (all.length - 1 - i) (all.length - 1 - j) ↔ Can2 all i j := by
  refine ⟨fun h => ?_, can2_turn hi hj⟩
  have := can2_turn (all := all.reverse) (by simp; omega) (by simp; omega) h
  rwa [List.reverse_reverse, List.length_reverse, show all.length - 1 - (all.length - 1 - i) = i by omega, show all.length - 1 - (all.length - 1 - j) = j by omega] at this
theorem canN_turn_iff {all : List Pkg} {i j : Nat} (hi : i < all.length) (hj : j < all.length) : CanN all.reverse (all.length - 1 - i) (all.length - 1 - j) ↔ CanN all i j := by
  refine ⟨fun h => ?_, canN_turn hi hj⟩
  have := canN_turn (all := all.reverse) (by simp; omega) (by simp; omega) h
  rwa [List.reverse_reverse, List.length_reverse, show all.length - 1 - (all.length - 1 - i) = i by omega, show all.length - 1 - (all.length - 1 - j) = j by omega] at this

/-- Those of a turned range that meet a condition, turned. -/
theorem filter_turn (n : Nat) (p q : Nat → Bool) (h : ∀ k, k < n → q (n - 1 - k) = p k) : (List.range n).filter q = (((List.range n).filter p).map fun k => n - 1 - k).reverse := by
  rw [← List.map_reverse, ← List.filter_reverse]
  have e : (List.range n).reverse = (List.range n).map fun k => n - 1 - k := by
    refine List.ext_getElem? fun i => ?_
    by_cases hi : i < n
    · rw [List.getElem?_reverse (by simpa using hi), List.getElem?_map, List.length_range, List.getElem?_range (by omega), List.getElem?_range hi]; rfl
    · rw [List.getElem?_eq_none (by simp; omega), List.getElem?_eq_none (by simp; omega)]
  rw [e, List.filter_map, List.map_map]
  have e2 : ((fun k => n - 1 - k) ∘ fun k => n - 1 - k) = fun k => n - 1 - (n - 1 - k) := rfl
  rw [e2]
  have e3 : (List.range n).filter (p ∘ fun k => n - 1 - k) = (List.range n).filter q := by
    refine List.filter_congr fun k hk => ?_
    have hk := List.mem_range.1 hk
    have := h (n - 1 - k) (by omega)
    rw [show n - 1 - (n - 1 - k) = k by omega] at this
    simp [Function.comp, this]
  rw [e3]
  conv => lhs; rw [← List.map_id ((List.range n).filter q)]
  refine List.map_congr_left fun k hk => ?_
  have := List.mem_range.1 (List.mem_filter.1 hk).1
  simp only [id]
  omega
end Go.Av
end
section
set_option linter.unusedSimpArgs false
set_option linter.unusedVariables false
namespace Go.Av

theorem sgn_anti (a b : Int) : sgn b a = - sgn a b := by
  unfold sgn
  split <;> split <;> (try split) <;> (try split) <;> omega
theorem signsL_eq (a b : List UInt8) : signsL a b = if rk a = 0 ∧ rk b = 0 then 0 else if rk a = rk b then signsL a.tail b.tail else sgn (rk a) (rk b) := by
  by_cases h1 : rk a = 0 ∧ rk b = 0
  · rw [if_pos h1, signsL_zero h1.1 h1.2]
  · rw [if_neg h1]
    by_cases h2 : rk a = rk b
    · rw [if_pos h2, signsL_step (fun e => h1 ⟨e, by rw [← h2]; exact e⟩) h2]
    · rw [if_neg h2, signsL_ne h2]
theorem signsL_anti : ∀ (n : Nat) (a b : List UInt8), a.length ≤ n → signsL b a = - signsL a b
  | 0, a, b, h => by
    have : a = [] := List.eq_nil_of_length_eq_zero (by omega)
    subst this
    rw [signsL_eq b, signsL_eq []]
    have h0 : rk [] = 0 := rfl
    rw [h0]
    by_cases hb : rk b = 0
    · simp [hb]
    · rw [if_neg (fun e => hb e.1), if_neg hb, if_neg (fun e => hb e.2), if_neg (fun e => hb e.symm), sgn_anti]
  | n + 1, a, b, h => by
    rw [signsL_eq b, signsL_eq a]
    by_cases h1 : rk a = 0 ∧ rk b = 0
    · rw [if_pos h1, if_pos ⟨h1.2, h1.1⟩]; rfl
    · rw [if_neg h1, if_neg (fun e => h1 ⟨e.2, e.1⟩)]
      by_cases h2 : rk a = rk b
      · have ha : rk a ≠ 0 := fun e => h1 ⟨e, by rw [← h2]; exact e⟩
        obtain ⟨c, r, rfl, _⟩ := rk_ne ha
        rw [if_pos h2, if_pos h2.symm]
        exact signsL_anti n r b.tail (by simpa using h)
      · rw [if_neg h2, if_neg (fun e => h2 e.symm), sgn_anti]
theorem lexC_anti : ∀ (a b : List UInt8), lexC b a = - lexC a b
  | [], b => by cases b <;> rfl
  | x :: a, [] => rfl
  | x :: a, y :: b => by
    unfold lexC
    by_cases h : x = y
    · rw [if_pos h, if_pos h.symm]; exact lexC_anti a b
    · rw [if_neg h, if_neg (fun e => h e.symm), sgn_anti]
theorem partV_ne {a b : List UInt8} (h : ¬ (a = [] ∧ b = [])) : partV a b = if signsL a b ≠ 0 then signsL a b
    else if runS (numS a) ≠ runS (numS b) then sgn (runS (numS a)) (runS (numS b))
    else if lexC ((numS a).take (runS (numS a))) ((numS b).take (runS (numS b))) ≠ 0 then lexC ((numS a).take (runS (numS a))) ((numS b).take (runS (numS b)))
    else partV ((numS a).drop (runS (numS a))) ((numS b).drop (runS (numS b))) := by
  rw [partV, dif_neg h]
theorem partV_anti : ∀ (n : Nat) (a b : List UInt8), a.length + b.length ≤ n → partV b a = - partV a b
  | 0, a, b, h => by
    have h1 : a = [] := List.eq_nil_of_length_eq_zero (by omega)
    have h2 : b = [] := List.eq_nil_of_length_eq_zero (by omega)
    subst h1 h2
    rw [partV, dif_pos ⟨rfl, rfl⟩]; rfl
  | n + 1, a, b, h => by
    by_cases h0 : a = [] ∧ b = []
    · rw [partV, dif_pos ⟨h0.2, h0.1⟩, partV, dif_pos h0]; rfl
    · have hlt := partV_lt h0
      have ih := partV_anti n ((numS a).drop (runS (numS a))) ((numS b).drop (runS (numS b))) (by omega)
      rw [partV_ne (a := b) (b := a) (fun e => h0 ⟨e.2, e.1⟩), partV_ne h0, signsL_anti _ a b (Nat.le_refl _)]
      by_cases h1 : signsL a b = 0
      · rw [if_neg (show ¬ (- signsL a b ≠ 0) by omega), if_neg (show ¬ (signsL a b ≠ 0) by omega)]
        by_cases h2 : runS (numS a) = runS (numS b)
        · rw [if_neg (show ¬ (runS (numS b) ≠ runS (numS a)) by omega), if_neg (show ¬ (runS (numS a) ≠ runS (numS b)) by omega), lexC_anti ((numS a).take (runS (numS a)))]
          by_cases h3 : lexC ((numS a).take (runS (numS a))) ((numS b).take (runS (numS b))) = 0
          · rw [if_neg (show ¬ (- lexC ((numS a).take (runS (numS a))) ((numS b).take (runS (numS b))) ≠ 0) by omega), if_neg (show ¬ (lexC ((numS a).take (runS (numS a))) ((numS b).take (runS (numS b))) ≠ 0) by omega)]; exact ih
          · rw [if_pos (show - lexC ((numS a).take (runS (numS a))) ((numS b).take (runS (numS b))) ≠ 0 by omega), if_pos h3]
        · rw [if_pos (show runS (numS b) ≠ runS (numS a) by omega), if_pos h2, sgn_anti]
      · rw [if_pos (show - signsL a b ≠ 0 by omega), if_pos h1]
theorem partV_symm (a b : List UInt8) : partV b a = - partV a b := partV_anti _ a b (Nat.le_refl _)
theorem cmpVer_anti (a b : List UInt8) : cmpVer b a = - cmpVer a b := by
  unfold cmpVer
  rcases verP a with _ | ⟨e, u, r⟩
  · rcases verP b with _ | ⟨f, v, s⟩ <;> rfl
  · rcases verP b with _ | ⟨f, v, s⟩
    · rfl
    · show (if partV f e ≠ 0 then partV f e else if partV v u ≠ 0 then partV v u else partV s r) = - (if partV e f ≠ 0 then partV e f else if partV u v ≠ 0 then partV u v else partV r s)
      rw [partV_symm e f, partV_symm u v, partV_symm r s]
      by_cases h1 : partV e f = 0
      · by_cases h2 : partV u v = 0
        · simp [h1, h2]
        · rw [if_neg (show ¬ (- partV e f ≠ 0) by omega), if_neg (show ¬ (partV e f ≠ 0) by omega), if_pos (show - partV u v ≠ 0 by omega), if_pos h2]
      · rw [if_pos (show - partV e f ≠ 0 by omega), if_pos h1]
theorem sameVer_symm (a b : List UInt8) : sameVer b a = sameVer a b := by
  unfold sameVer
  rw [cmpVer_anti a b, Bool.and_comm (isVer b)]
  congr 1
  rw [Bool.eq_iff_iff, beq_iff_eq, beq_iff_eq]
  omega
theorem sameNV_symm (p q : Pkg) : sameNV p q = sameNV q p := by
  unfold sameNV
  rw [sameVer_symm]
  congr 1
  rw [Bool.eq_iff_iff, beq_iff_eq, beq_iff_eq]
  exact ⟨fun h => h.symm, fun h => h.symm⟩

theorem dupL_iff : ∀ (l bef : List Pkg), dupL bef l = false ↔ (∀ p ∈ l, ∀ q ∈ bef, sameNV p q = false) ∧ l.Pairwise fun x y => sameNV y x = false
  | [], bef => by simp [dupL]
  | p :: r, bef => by
    rw [dupL, Bool.or_eq_false_iff, dupL_iff r, List.pairwise_cons, List.any_eq_false]
    constructor
    · rintro ⟨h1, h2, h3⟩
      refine ⟨fun x hx q hq => ?_, fun x hx => h2 x hx p (by simp), h3⟩
      rcases List.mem_cons.1 hx with rfl | hx
      · simpa using h1 q hq
      · exact h2 x hx q (by simp [hq])
    · rintro ⟨h1, h2, h3⟩
      refine ⟨fun q hq => by simpa using h1 p (by simp) q hq, fun x hx q hq => ?_, h3⟩
      rcases List.mem_append.1 hq with hq | hq
      · exact h1 x (by simp [hx]) q hq
      · rw [List.mem_singleton.1 hq]; exact h2 x hx
theorem dupL_rev (l : List Pkg) : dupL [] l.reverse = dupL [] l := by
  have : l.Pairwise (fun a b => sameNV a b = false) ↔ l.Pairwise (fun x y => sameNV y x = false) := by
    constructor <;> intro h <;> refine h.imp fun {a b} h => by rw [sameNV_symm]; exact h
  have key : dupL [] l.reverse = false ↔ dupL [] l = false := by
    rw [dupL_iff, dupL_iff, List.pairwise_reverse]
    exact ⟨fun h => ⟨by simp, this.1 h.2⟩, fun h => ⟨by simp, this.2 h.2⟩⟩
  cases h : dupL [] l with
  | false => exact key.2 h
  | true =>
    cases h' : dupL [] l.reverse with
    | true => rfl
    | false => rw [key.1 h'] at h; cases h
theorem namesL_mem : ∀ (l : List Pkg) (acc : List (List UInt8)) (x : List UInt8), x ∈ namesL l acc ↔ x ∈ acc ∨ ∃ p ∈ l, p.name = x
  | [], acc, x => by simp [namesL]
  | p :: r, acc, x => by
    rw [namesL, namesL_mem r]
    by_cases h : acc.any (fun x => p.name == x) = true
    · rw [if_pos h]
      obtain ⟨y, hy, e⟩ := List.any_eq_true.1 h
      have e := beq_iff_eq.1 e
      constructor
      · rintro (h | ⟨q, hq, e⟩)
        · exact .inl h
        · exact .inr ⟨q, by simp [hq], e⟩
      · rintro (h | ⟨q, hq, e'⟩)
        · exact .inl h
        · rcases List.mem_cons.1 hq with rfl | hq
          · exact .inl (by rw [← e', e]; exact hy)
          · exact .inr ⟨q, hq, e'⟩
    · rw [if_neg h, List.mem_append, List.mem_singleton]
      constructor
      · rintro ((h | rfl) | ⟨q, hq, e⟩)
        · exact .inl h
        · exact .inr ⟨p, by simp, rfl⟩
        · exact .inr ⟨q, by simp [hq], e⟩
      · rintro (h | ⟨q, hq, e'⟩)
        · exact .inl (.inl h)
        · rcases List.mem_cons.1 hq with rfl | hq
          · exact .inl (.inr e'.symm)
          · exact .inr ⟨q, hq, e'⟩
theorem namesL_nodup : ∀ (l : List Pkg) (acc : List (List UInt8)), acc.Nodup → (namesL l acc).Nodup
  | [], acc, h => h
  | p :: r, acc, h => by
    rw [namesL]
    refine namesL_nodup r _ ?_
    by_cases hm : acc.any (fun x => p.name == x) = true
    · rw [if_pos hm]; exact h
    · rw [if_neg hm]
      refine List.nodup_append.2 ⟨h, by simp, fun a ha b hb e => ?_⟩
      rw [List.mem_singleton] at hb
      subst hb
      exact hm (List.any_eq_true.2 ⟨a, ha, by simp [e]⟩)
theorem nodup_len {α : Type} [DecidableEq α] : ∀ (l m : List α), l.Nodup → (∀ x ∈ l, x ∈ m) → l.length ≤ m.length
  | [], _, _, _ => Nat.zero_le _
  | x :: l, m, hn, h => by
    rw [List.nodup_cons] at hn
    have hx := h x (by simp)
    have := nodup_len l (m.erase x) hn.2 fun y hy => by
      have hne : y ≠ x := fun e => hn.1 (by rw [← e]; exact hy)
      exact (List.mem_erase_of_ne hne).2 (h y (by simp [hy]))
    rw [List.length_erase_of_mem hx] at this
    have := List.length_pos_of_mem hx
    simp; omega
theorem namesL_rev (l : List Pkg) : (namesL l.reverse []).length = (namesL l []).length := by
  have h : ∀ x, x ∈ namesL l.reverse [] ↔ x ∈ namesL l [] := fun x => by rw [namesL_mem, namesL_mem]; simp
  exact Nat.le_antisymm (nodup_len _ _ (namesL_nodup _ _ (by simp)) fun x hx => (h x).1 hx) (nodup_len _ _ (namesL_nodup _ _ (by simp)) fun x hx => (h x).2 hx)
theorem orL_iff : ∀ (l : List Int), orL l = 0 ↔ ∀ x ∈ l, x = 0
  | [] => by simp [orL]
  | y :: r => by
    constructor
    · exact orL_zero
    · intro h
      rw [orL, if_neg (by simp [h y (by simp)])]
      exact (orL_iff r).2 fun x hx => h x (by simp [hx])
theorem mayAll_rev (l : List Pkg) : mayAll l.reverse = 0 ↔ mayAll l = 0 := by
  have ho : orL (l.reverse.map mayPkg) = 0 ↔ orL (l.map mayPkg) = 0 := by rw [orL_iff, orL_iff]; simp
  unfold mayAll
  rw [List.length_reverse, dupL_rev, namesL_rev]
  by_cases h1 : 24 < l.length
  · rw [if_pos h1, if_pos h1]
  · rw [if_neg h1, if_neg h1]
    by_cases h2 : orL (l.map mayPkg) = 0
    · rw [if_neg (show ¬ (orL (l.reverse.map mayPkg) ≠ 0) from fun e => e (ho.2 h2)), if_neg (show ¬ (orL (l.map mayPkg) ≠ 0) from fun e => e h2)]
    · have h3 : orL (l.reverse.map mayPkg) ≠ 0 := fun e => h2 (ho.1 e)
      rw [if_pos h2, if_pos h3]
      exact ⟨fun e => absurd e h3, fun e => absurd e h2⟩
end Go.Av
end
section
set_option linter.unusedSimpArgs false
set_option linter.unusedVariables false
namespace Go.Av

structure HL (l : List Pkg) : Prop where
  may : ∀ p ∈ l, mayPkg p = 0
  pair : l.Pairwise fun p q => p.name ≠ q.name ∧ clashP p q = false
  met : ∀ p ∈ l, ∀ c ∈ p.pre ++ p.dep, ∃ q ∈ l, c.any (satP q) = true

theorem metP_iff {c : Clause} {l : List Pkg} : metP c l = true ↔ ∃ q ∈ l, c.any (satP q) = true := by
  unfold metP
  simp only [List.any_eq_true]
  constructor
  · rintro ⟨a, ha, q, hq, h⟩
    exact ⟨q, hq, a, ha, h⟩
  · rintro ⟨q, hq, a, ha, h⟩
    exact ⟨a, ha, q, hq, h⟩
theorem sickP_iff {l bef : List Pkg} {p : Pkg} : sickP l bef p = false ↔ mayPkg p = 0 ∧ (∀ q ∈ bef, q.name ≠ p.name ∧ clashP p q = false) ∧ ∀ c ∈ p.pre ++ p.dep, ∃ q ∈ l, c.any (satP q) = true := by
  unfold sickP
  simp only [Bool.or_eq_false_iff, bne_eq_false_iff_eq, List.any_eq_false, Bool.not_eq_true', Bool.not_eq_true, Bool.not_eq_false', List.mem_append, ← metP_iff]
  constructor
  · rintro ⟨⟨h1, h2⟩, h3, h4⟩
    refine ⟨h1, fun q hq => ?_, fun c hc => ?_⟩
    · have := h2 q hq
      simp at this
      exact this
    · rcases hc with hc | hc
      · simpa using h3 c hc
      · simpa using h4 c hc
  · rintro ⟨h1, h2, h3⟩
    refine ⟨⟨h1, fun q hq => ?_⟩, fun c hc => by simpa using h3 c (.inl hc), fun c hc => by simpa using h3 c (.inr hc)⟩
    have := h2 q hq
    simp [this]
theorem sickL_iff {l : List Pkg} : ∀ (r bef : List Pkg), sickL l bef r = false ↔ (∀ p ∈ r, mayPkg p = 0 ∧ ∀ c ∈ p.pre ++ p.dep, ∃ q ∈ l, c.any (satP q) = true) ∧ (∀ p ∈ r, ∀ q ∈ bef, q.name ≠ p.name ∧ clashP p q = false) ∧ r.Pairwise fun q p => q.name ≠ p.name ∧ clashP p q = false
  | [], bef => by simp [sickL]
  | p :: r, bef => by
    rw [sickL, Bool.or_eq_false_iff, sickP_iff, sickL_iff r, List.pairwise_cons]
    constructor
    · rintro ⟨⟨h1, h2, h3⟩, h4, h5, h6⟩
      refine ⟨fun x hx => ?_, fun x hx q hq => ?_, fun x hx => h5 x hx p (by simp), h6⟩
      · rcases List.mem_cons.1 hx with rfl | hx
        · exact ⟨h1, h3⟩
        · exact h4 x hx
      · rcases List.mem_cons.1 hx with rfl | hx
        · exact h2 q hq
        · exact h5 x hx q (by simp [hq])
    · rintro ⟨h1, h2, h3, h4⟩
      refine ⟨⟨(h1 p (by simp)).1, fun q hq => h2 p (by simp) q hq, (h1 p (by simp)).2⟩, fun x hx => h1 x (by simp [hx]), fun x hx q hq => ?_, h4⟩
      rcases List.mem_append.1 hq with hq | hq
      · exact h2 x (by simp [hx]) q hq
      · rw [List.mem_singleton.1 hq]; exact h3 x hx
theorem healthy_iff {l : List Pkg} : healthyP l = true ↔ HL l := by
  unfold healthyP
  rw [Bool.not_eq_true', sickL_iff]
  constructor
  · rintro ⟨h1, _, h3⟩
    exact ⟨fun p hp => (h1 p hp).1, h3.imp fun {a b} h => ⟨h.1, by rw [clash_symm]; exact h.2⟩, fun p hp => (h1 p hp).2⟩
  · intro h
    exact ⟨fun p hp => ⟨h.may p hp, h.met p hp⟩, by simp, h.pair.imp fun {a b} h => ⟨h.1, by rw [clash_symm]; exact h.2⟩⟩
theorem HL.perm {l m : List Pkg} (h : HL l) (hp : l.Perm m) : HL m :=
  ⟨fun p hm => h.may p (hp.symm.subset hm), hp.pairwise h.pair fun {a b} h => ⟨fun e => h.1 e.symm, by rw [clash_symm]; exact h.2⟩, fun p hm c hc => by
    obtain ⟨q, h1, h2⟩ := h.met p (hp.symm.subset hm) c hc
    exact ⟨q, hp.subset h1, h2⟩⟩

/-- Those that a choice picks, from the place i on. -/
def pick (S : Nat → Bool) : Nat → List Pkg → List Pkg
  | _, [] => []
  | i, p :: r => if S i = true then p :: pick S (i + 1) r else pick S (i + 1) r
theorem pick_mem {S : Nat → Bool} {p : Pkg} : ∀ (l : List Pkg) (i : Nat), p ∈ pick S i l ↔ ∃ k, l[k]? = some p ∧ S (i + k) = true
  | [], i => by simp [pick]
  | q :: r, i => by
    have ih := pick_mem (S := S) (p := p) r (i + 1)
    have step : (∃ k, (q :: r)[k]? = some p ∧ S (i + k) = true) ↔ (q = p ∧ S i = true) ∨ ∃ k, r[k]? = some p ∧ S (i + 1 + k) = true := by
      constructor
      · rintro ⟨k, h1, h2⟩
        cases k with
        | zero => exact .inl ⟨by simpa using h1, h2⟩
        | succ k => exact .inr ⟨k, by simpa using h1, by rw [show i + 1 + k = i + (k + 1) by omega]; exact h2⟩
      · rintro (⟨h1, h2⟩ | ⟨k, h1, h2⟩)
        · exact ⟨0, by simp [h1], h2⟩
        · exact ⟨k + 1, by simpa using h1, by rw [show i + (k + 1) = i + 1 + k by omega]; exact h2⟩
    rw [step, pick]
    split
    · rename_i hs
      rw [List.mem_cons, ih]
      constructor
      · rintro (h | h)
        · exact .inl ⟨h.symm, hs⟩
        · exact .inr h
      · rintro (h | h)
        · exact .inl h.1.symm
        · exact .inr h
    · rename_i hs
      rw [ih]
      constructor
      · exact .inr
      · rintro (h | h)
        · exact absurd h.2 hs
        · exact h
theorem pick_sub (S : Nat → Bool) : ∀ (l : List Pkg) (i : Nat), (pick S i l).Sublist l
  | [], i => .slnil
  | q :: r, i => by
    rw [pick]
    split
    · exact (pick_sub S r (i + 1)).cons_cons q
    · exact (pick_sub S r (i + 1)).cons q
theorem pick_pair {R : Pkg → Pkg → Prop} {S : Nat → Bool} : ∀ (l : List Pkg) (i : Nat), (pick S i l).Pairwise R ↔ ∀ (k m : Nat) (p q : Pkg), k < m → l[k]? = some p → l[m]? = some q → S (i + k) = true → S (i + m) = true → R p q
  | [], i => by simp [pick]
  | x :: r, i => by
    have ih := pick_pair (R := R) (S := S) r (i + 1)
    have shift : ∀ k, i + 1 + k = i + (k + 1) := fun k => by omega
    rw [pick]
    split
    · rename_i hs
      rw [List.pairwise_cons, ih]
      constructor
      · rintro ⟨h1, h2⟩ k m p q hkm hk hm sk sm
        cases m with
        | zero => omega
        | succ m =>
          cases k with
          | zero =>
            simp at hk
            subst hk
            exact h1 q ((pick_mem r (i + 1)).2 ⟨m, by simpa using hm, by rw [shift]; exact sm⟩)
          | succ k => exact h2 k m p q (by omega) (by simpa using hk) (by simpa using hm) (by rw [shift]; exact sk) (by rw [shift]; exact sm)
      · intro h
        refine ⟨fun q hq => ?_, fun k m p q hkm hk hm sk sm => h (k + 1) (m + 1) p q (by omega) (by simpa using hk) (by simpa using hm) (by rw [← shift]; exact sk) (by rw [← shift]; exact sm)⟩
        obtain ⟨m, h1, h2⟩ := (pick_mem r (i + 1)).1 hq
        exact h 0 (m + 1) x q (by omega) rfl (by simpa using h1) hs (by rw [← shift]; exact h2)
    · rename_i hs
      rw [ih]
      constructor
      · intro h k m p q hkm hk hm sk sm
        cases m with
        | zero => omega
        | succ m =>
          cases k with
          | zero => exact absurd sk hs
          | succ k => exact h k m p q (by omega) (by simpa using hk) (by simpa using hm) (by rw [shift]; exact sk) (by rw [shift]; exact sm)
      · intro h k m p q hkm hk hm sk sm
        exact h (k + 1) (m + 1) p q (by omega) (by simpa using hk) (by simpa using hm) (by rw [← shift]; exact sk) (by rw [← shift]; exact sm)
theorem sub_pick : ∀ {l L : List Pkg}, L.Sublist l → ∀ i, ∃ S, L = pick S i l
  | _, _, .slnil, i => ⟨fun _ => false, rfl⟩
  | _, _, .cons (l₂ := l) a h, i => by
    obtain ⟨S, hS⟩ := sub_pick h (i + 1)
    refine ⟨fun k => if k = i then false else S k, ?_⟩
    rw [pick, if_neg (by simp), hS]
    exact pick_congr l (i + 1) fun k hk => by simp [show k ≠ i by omega]
  | _, _, .cons_cons (l₂ := l) a h, i => by
    obtain ⟨S, hS⟩ := sub_pick h (i + 1)
    refine ⟨fun k => if k = i then true else S k, ?_⟩
    rw [pick, if_pos (by simp), hS]
    congr 1
    exact pick_congr l (i + 1) fun k hk => by simp [show k ≠ i by omega]
where
  pick_congr {S T : Nat → Bool} : ∀ (l : List Pkg) (i : Nat), (∀ k, i ≤ k → S k = T k) → pick S i l = pick T i l
    | [], i, _ => rfl
    | p :: r, i, h => by
      rw [pick, pick, h i (Nat.le_refl _), pick_congr r (i + 1) fun k hk => h k (by omega)]

theorem pick_HL {all : List Pkg} {S : Nat → Bool} (hm : ∀ p ∈ all, mayPkg p = 0) : HL (pick S 0 all) ↔ SelOk all S := by
  constructor
  · intro h
    refine ⟨fun i p hp hS c hc => ?_, fun i p k q hp hq hki hi hk => ?_⟩
    · obtain ⟨q, h1, h2⟩ := h.met p ((pick_mem all 0).2 ⟨i, hp, by simpa using hS⟩) c hc
      obtain ⟨k, h3, h4⟩ := (pick_mem all 0).1 h1
      exact ⟨k, q, h3, h2, by simpa using h4⟩
    · have := (pick_pair all 0).1 h.pair k i q p hki hq hp (by simpa using hk) (by simpa using hi)
      exact ⟨fun e => this.1 e.symm, by rw [clash_symm]; exact this.2⟩
  · intro h
    refine ⟨fun p hp => ?_, (pick_pair all 0).2 fun k m p q hkm hk hm' sk sm => ?_, fun p hp c hc => ?_⟩
    · exact hm p ((pick_sub S all 0).subset hp)
    · have := h.con m q k p hm' hk hkm (by simpa using sm) (by simpa using sk)
      exact ⟨fun e => this.1 e.symm, by rw [clash_symm]; exact this.2⟩
    · obtain ⟨i, h1, h2⟩ := (pick_mem all 0).1 hp
      obtain ⟨k, q, h3, h4, h5⟩ := h.dep i p h1 (by simpa using h2) c hc
      exact ⟨q, (pick_mem all 0).2 ⟨k, h3, by simpa using h5⟩, h4⟩

theorem mayAll_parts {all : List Pkg} (h : mayAll all = 0) : (∀ p ∈ all, mayPkg p = 0) ∧ dupL [] all = false := by
  refine ⟨fun p hp => mayAll_pkg h hp, ?_⟩
  unfold mayAll at h
  split at h
  · omega
  · split at h
    · rename_i h1; exact absurd h h1
    · split at h
      · omega
      · rename_i h2; simpa using h2
theorem mayPkg_ver {p : Pkg} (h : mayPkg p = 0) : isVer p.ver = true := by
  unfold mayPkg at h
  split at h
  · omega
  · rename_i h1
    simp at h1
    exact h1.2
theorem same_self {p : Pkg} (h : mayPkg p = 0) : sameNV p p = true := by
  have h1 := mayPkg_ver h
  have h2 := cmpVer_anti p.ver p.ver
  have h3 : cmpVer p.ver p.ver = 0 := by omega
  simp [sameNV, sameVer, h1, h3]
/-- Each package stands at one place alone. -/
theorem place_one {all : List Pkg} (h : mayAll all = 0) {i k : Nat} {p : Pkg} (hi : all[i]? = some p) (hk : all[k]? = some p) : i = k := by
  obtain ⟨hm, hd⟩ := mayAll_parts h
  have hp := ((dupL_iff all []).1 hd).2
  rw [List.pairwise_iff_getElem] at hp
  have hs := same_self (hm p (List.mem_of_getElem? hi))
  obtain ⟨li, ei⟩ := List.getElem?_eq_some_iff.1 hi
  obtain ⟨lk, ek⟩ := List.getElem?_eq_some_iff.1 hk
  rcases Nat.lt_trichotomy i k with hlt | h | hlt
  · have := hp i k li lk hlt
    rw [ei, ek, hs] at this; cases this
  · exact h
  · have := hp k i lk li hlt
    rw [ei, ek, hs] at this; cases this

/-- With both: a healthy list out of packages in whatever order. -/
theorem can2_list {all l : List Pkg} (h : mayAll all = 0) (hl : l.Perm all) {i j : Nat} {p q : Pkg} (hi : all[i]? = some p) (hj : all[j]? = some q) : Can2 all i j ↔ ∃ L : List Pkg, L.Sublist l ∧ HL L ∧ p ∈ L ∧ q ∈ L := by
  have hm := (mayAll_parts h).1
  constructor
  · rintro ⟨S, h1, h2, h3⟩
    obtain ⟨L, hp, hs⟩ := List.exists_perm_sublist (pick_sub S all 0) hl.symm
    exact ⟨L, hs, ((pick_HL hm).2 h1).perm hp.symm, hp.symm.subset ((pick_mem all 0).2 ⟨i, hi, by simpa using h2⟩), hp.symm.subset ((pick_mem all 0).2 ⟨j, hj, by simpa using h3⟩)⟩
  · rintro ⟨L, hs, hL, h2, h3⟩
    obtain ⟨M, hp, hs'⟩ := List.exists_perm_sublist hs hl
    obtain ⟨S, rfl⟩ := sub_pick hs' 0
    refine ⟨S, (pick_HL hm).1 (hL.perm hp.symm), ?_, ?_⟩
    · obtain ⟨k, h4, h5⟩ := (pick_mem all 0).1 (hp.symm.subset h2)
      rw [place_one h hi h4]; simpa using h5
    · obtain ⟨k, h4, h5⟩ := (pick_mem all 0).1 (hp.symm.subset h3)
      rw [place_one h hj h4]; simpa using h5
end Go.Av
end
