/- Texts that the last one of this claim rests on: a layer over the guide's own conditions for code; contracts of the functions that the law reaches, one by one. No conditions beside those of the given rows. -/
import Derived.Test.YtljcjoglabbcoaaGreatDoorWbo
section
set_option linter.unusedSimpArgs false
set_option linter.unusedVariables false
namespace Go.Av

/-- There is a choice with this one; with this one and that one; with this one and without that one. -/
def Can1 (all : List Pkg) (i : Nat) : Prop := ∃ S, SelOk all S ∧ S i = true
def Can2 (all : List Pkg) (i j : Nat) : Prop := ∃ S, SelOk all S ∧ S i = true ∧ S j = true
def CanN (all : List Pkg) (i j : Nat) : Prop := ∃ S, SelOk all S ∧ S i = true ∧ S j = false

structure NeedsP (all : List Pkg) (i j : Nat) : Prop where
  ne : i ≠ j
  can : Can1 all i
  not : ¬ CanN all i j
structure NeverP (all : List Pkg) (i j : Nat) : Prop where
  ne : i ≠ j
  can : Can1 all i
  can' : Can1 all j
  not : ¬ Can2 all i j

theorem NeedsP.sel {all : List Pkg} {i j : Nat} (h : NeedsP all i j) {S : Nat → Bool} (hS : SelOk all S) (hi : S i = true) : S j = true := by
  cases hj : S j with
  | true => rfl
  | false => exact absurd ⟨S, hS, hi, hj⟩ h.not
theorem NeedsP.can_j {all : List Pkg} {i j : Nat} (h : NeedsP all i j) : Can1 all j := by
  obtain ⟨S, hS, hi⟩ := h.can
  exact ⟨S, hS, h.sel hS hi⟩
theorem NeedsP.not_never {all : List Pkg} {i j : Nat} (h : NeedsP all i j) : ¬ NeverP all i j := fun hn => by
  obtain ⟨S, hS, hi⟩ := h.can
  exact hn.not ⟨S, hS, hi, h.sel hS hi⟩
theorem NeedsP.trans {all : List Pkg} {i j k : Nat} (h : NeedsP all i j) (h' : NeedsP all j k) (hk : k ≠ i) : NeedsP all i k :=
  ⟨fun e => hk e.symm, h.can, fun ⟨_, hS, hi, hk⟩ => by rw [h'.sel hS (h.sel hS hi)] at hk; cases hk⟩
theorem NeedsP.never {all : List Pkg} {i j k : Nat} (h : NeedsP all i j) (h' : NeverP all j k) : NeverP all i k := by
  refine ⟨fun e => ?_, h.can, h'.can', fun ⟨S, hS, hi, hk⟩ => h'.not ⟨S, hS, h.sel hS hi, hk⟩⟩
  subst e
  obtain ⟨S, hS, hi⟩ := h.can
  exact h'.not ⟨S, hS, h.sel hS hi, hi⟩
theorem NeverP.symm {all : List Pkg} {i j : Nat} (h : NeverP all i j) : NeverP all j i :=
  ⟨fun e => h.ne e.symm, h.can', h.can, fun ⟨S, hS, hj, hi⟩ => h.not ⟨S, hS, hi, hj⟩⟩

theorem clash_symm (p q : Pkg) : clashP p q = clashP q p := by
  unfold clashP
  rw [Bool.or_comm (againstP p q)]
  congr 1
  rw [Bool.eq_iff_iff]
  simp only [bne_iff_ne, ne_eq]
  exact ⟨fun h e => h e.symm, fun h e => h e.symm⟩

/-- Places turned round. -/
def turn (n : Nat) (S : Nat → Bool) : Nat → Bool := fun k => if k < n then S (n - 1 - k) else false
theorem turn_at {n k : Nat} (S : Nat → Bool) (h : k < n) : turn n S k = S (n - 1 - k) := by simp [turn, h]
theorem rev_get {all : List Pkg} {i : Nat} (h : i < all.length) : all.reverse[i]? = all[all.length - 1 - i]? := by
  rw [List.getElem?_reverse h]
theorem sel_turn {all : List Pkg} {S : Nat → Bool} (h : SelOk all S) : SelOk all.reverse (turn all.length S) := by
  have key : ∀ {i : Nat} {p : Pkg}, all.reverse[i]? = some p → i < all.length ∧ all[all.length - 1 - i]? = some p := fun {i p} hp => by
    have hl := (List.getElem?_eq_some_iff.1 hp).1
    rw [List.length_reverse] at hl
    rw [rev_get hl] at hp
    exact ⟨hl, hp⟩
  refine ⟨fun i p hp hS c hc => ?_, fun i p k q hp hq hki hi hk => ?_⟩
  · obtain ⟨hl, hp'⟩ := key hp
    rw [turn_at _ hl] at hS
    obtain ⟨k, q, hk, h1, h2⟩ := h.dep _ p hp' hS c hc
    have hkl := (List.getElem?_eq_some_iff.1 hk).1
    refine ⟨all.length - 1 - k, q, ?_, h1, ?_⟩
    · rw [rev_get (by omega), show all.length - 1 - (all.length - 1 - k) = k by omega]; exact hk
    · rw [turn_at _ (by omega), show all.length - 1 - (all.length - 1 - k) = k by omega]; exact h2
  · obtain ⟨hl, hp'⟩ := key hp
    obtain ⟨hlk, hq'⟩ := key hq
    rw [turn_at _ hl] at hi
    rw [turn_at _ hlk] at hk
    have := h.con (all.length - 1 - k) q (all.length - 1 - i) p hq' hp' (by omega) hk hi
    exact ⟨fun e => this.1 e.symm, by rw [clash_symm]; exact this.2⟩
theorem turn_turn {n : Nat} (S : Nat → Bool) {k : Nat} (h : k < n) : turn n (turn n S) k = S k := by
  rw [turn_at _ h, turn_at _ (by omega), show n - 1 - (n - 1 - k) = k by omega]

theorem can1_turn {all : List Pkg} {i : Nat} (hi : i < all.length) (h : Can1 all i) : Can1 all.reverse (all.length - 1 - i) := by
  obtain ⟨S, hS, h1⟩ := h
  exact ⟨_, sel_turn hS, by rw [turn_at _ (by omega), show all.length - 1 - (all.length - 1 - i) = i by omega]; exact h1⟩
theorem can2_turn {all : List Pkg} {i j : Nat} (hi : i < all.length) (hj : j < all.length) (h : Can2 all i j) : Can2 all.reverse (all.length - 1 - i) (all.length - 1 - j) := by
  obtain ⟨S, hS, h1, h2⟩ := h
  exact ⟨_, sel_turn hS, by rw [turn_at _ (by omega), show all.length - 1 - (all.length - 1 - i) = i by omega]; exact h1, by rw [turn_at _ (by omega), show all.length - 1 - (all.length - 1 - j) = j by omega]; exact h2⟩
theorem canN_turn {all : List Pkg} {i j : Nat} (hi : i < all.length) (hj : j < all.length) (h : CanN all i j) : CanN all.reverse (all.length - 1 - i) (all.length - 1 - j) := by
  obtain ⟨S, hS, h1, h2⟩ := h
  exact ⟨_, sel_turn hS, by rw [turn_at _ (by omega), show all.length - 1 - (all.length - 1 - i) = i by omega]; exact h1, by rw [turn_at _ (by omega), show all.length - 1 - (all.length - 1 - j) = j by omega]; exact h2⟩
theorem can1_turn_iff {all : List Pkg} {i : Nat} (hi : i < all.length) : Can1 all.reverse (all.length - 1 - i) ↔ Can1 all i := by
  refine ⟨fun h => ?_, can1_turn hi⟩
  have := can1_turn (all := all.reverse) (by simp; omega) h
  rwa [List.reverse_reverse, List.length_reverse, show all.length - 1 - (all.length - 1 - i) = i by omega] at this
theorem can2_turn_iff {all : List Pkg} {i j : Nat} (hi : i < all.length) (hj : j < all.length) : Can2 all.reverse (all.length - 1 - i) (all.length - 1 - j) ↔ Can2 all i j := by
  refine ⟨fun h => ?_, can2_turn hi hj⟩
  have := can2_turn (all := all.reverse) (by simp; omega) (by simp; omega) h
  rwa [List.reverse_reverse, List.length_reverse, show all.length - 1 - (all.length - 1 - i) = i by omega, show all.length - 1 - (all.length - 1 - j) = j by omega] at this
theorem canN_turn_iff {all : List Pkg} {i j : Nat} (hi : i < all.length) (hj : j < all.length) : CanN all.reverse (all.length - 1 - i) (all.length - 1 - j) ↔ CanN all i j := by
  refine ⟨fun h => ?_, canN_turn hi hj⟩
  have := canN_turn (all := all.reverse) (by simp; omega) (by simp; omega) h
  rwa [List.reverse_reverse, List.length_reverse, show all.length - 1 - (all.length - 1 - i) = i by omega, show all.length - 1 - (all.length - 1 - j) = j by omega] at this

/-- Those of a turned range that meet a condition, turned. -/
theorem filter_turn (n : Nat) (p q : Nat → Bool) (h : ∀ k, k < n → q (n - 1 - k) = p k) : (List.range n).filter q = (((List.range n).filter p).map fun k => n - 1 - k).reverse := by
  rw [← List.map_reverse, ← List.filter_reverse]
  have e : (List.range n).reverse = (List.range n).map fun k => n - 1 - k := by
    refine List.ext_getElem? fun i => ?_
    by_cases hi : i < n
    · rw [List.getElem?_reverse (by simpa using hi), List.getElem?_map, List.length_range, List.getElem?_range (by omega), List.getElem?_range hi]; rfl
    · rw [List.getElem?_eq_none (by simp; omega), List.getElem?_eq_none (by simp; omega)]
  rw [e, List.filter_map, List.map_map]
  have e2 : ((fun k => n - 1 - k) ∘ fun k => n - 1 - k) = fun k => n - 1 - (n - 1 - k) := rfl
  rw [e2]
  have e3 : (List.range n).filter (p ∘ fun k => n - 1 - k) = (List.range n).filter q := by
    refine List.filter_congr fun k hk => ?_
    have hk := List.mem_range.1 hk
    have := h (n - 1 - k) (by omega)
    rw [show n - 1 - (n - 1 - k) = k by omega] at this
    simp [Function.comp, this]
  rw [e3]
  conv => lhs; rw [← List.map_id ((List.range n).filter q)]
  refine List.map_congr_left fun k hk => ?_
  have := List.mem_range.1 (List.mem_filter.1 hk).1
  simp only [id]
  omega
end Go.Av
end
