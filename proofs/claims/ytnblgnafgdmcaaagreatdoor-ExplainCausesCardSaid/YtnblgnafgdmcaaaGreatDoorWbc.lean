/- Texts that the last one of this claim rests on: a layer over the guide's own conditions for code; contracts of the functions that the law reaches, one by one. No conditions beside those of the given rows. -/
import Derived.Test.YtnblgnafgdmcaaaGreatDoorWba
section
set_option linter.unusedSimpArgs false
set_option linter.unusedVariables false
namespace Go.Av

/-- What a literal is, given those that hold. -/
def valT (ord : List Int) (l : Int) : Int := if l ∈ ord then 1 else if -l ∈ ord then -1 else 0
/-- What the variables 0 to n are. -/
def vals (n : Nat) (ord : List Int) : List Int := (List.range (n + 1)).map fun i => valT ord (i : Nat)

structure GoodOrd (n : Nat) (ord : List Int) : Prop where
  nd : (ord.map Int.natAbs).Nodup
  wf : ∀ l ∈ ord, l ≠ 0 ∧ l.natAbs ≤ n

theorem GoodOrd.cons {n : Nat} {ord : List Int} (h : GoodOrd n ord) {l : Int} (hl : l ∈ ord) : -l ∉ ord := fun hn => by
  have h0 := (h.wf l hl).1
  obtain ⟨i, hi, he⟩ := List.getElem_of_mem hl
  obtain ⟨j, hj, he'⟩ := List.getElem_of_mem hn
  have : i = j := (List.getElem_inj (i := i) (j := j) (h₀ := by simpa using hi) (h₁ := by simpa using hj) h.nd).1 (by simp [he, he'])
  subst this
  rw [he] at he'
  omega
theorem valT_neg {n : Nat} {ord : List Int} (h : GoodOrd n ord) (l : Int) : valT ord (-l) = -valT ord l := by
  unfold valT
  rw [Int.neg_neg]
  by_cases h1 : l ∈ ord
  · rw [if_neg (h.cons h1), if_pos h1, if_pos h1]
  · by_cases h2 : -l ∈ ord
    · rw [if_pos h2, if_neg h1, if_pos h2, Int.neg_neg]
    · rw [if_neg h2, if_neg h1, if_neg h1, if_neg h2]; rfl
theorem vals_len (n : Nat) (ord : List Int) : (vals n ord).length = n + 1 := by simp [vals]
theorem vals_get {n : Nat} {ord : List Int} {i : Nat} (h : i ≤ n) : (vals n ord)[i]? = some (valT ord (i : Nat)) := by
  simp [vals, List.getElem?_range (show i < n + 1 by omega)]
theorem valT_cases (ord : List Int) (l : Int) : (valT ord l = 1 ∧ l ∈ ord) ∨ (valT ord l = -1 ∧ l ∉ ord ∧ -l ∈ ord) ∨ (valT ord l = 0 ∧ l ∉ ord ∧ -l ∉ ord) := by
  unfold valT
  by_cases h1 : l ∈ ord
  · left; simp [h1]
  · by_cases h2 : -l ∈ ord
    · right; left; simp [h1, h2]
    · right; right; simp [h1, h2]
theorem GoodOrd.nil (n : Nat) : GoodOrd n [] := ⟨by simp, by simp⟩
theorem vals_nil (n : Nat) : vals n [] = List.replicate (n + 1) 0 := by
  refine List.ext_getElem? fun i => ?_
  rw [List.getElem?_replicate]
  by_cases h : i ≤ n
  · rw [vals_get h, if_pos (by omega)]; rfl
  · rw [if_neg (by omega), List.getElem?_eq_none (by rw [vals_len]; omega)]

theorem valT_app {n : Nat} {ord : List Int} {l : Int} (h : GoodOrd n (ord ++ [l])) (i : Nat) : valT (ord ++ [l]) i = if i = l.natAbs then (if 0 < l then 1 else -1) else valT ord i := by
  have hl := h.wf l (by simp)
  have hn : ∀ m ∈ ord, m.natAbs ≠ l.natAbs := fun m hm e => by
    have := h.nd
    rw [List.map_append, List.nodup_append] at this
    exact this.2.2 _ (List.mem_map.2 ⟨m, hm, rfl⟩) _ (by simp) e
  unfold valT
  simp only [List.mem_append, List.mem_singleton]
  by_cases hi : i = l.natAbs
  · rw [if_pos hi]
    by_cases hp : 0 < l
    · rw [if_pos hp, if_pos (.inr (by omega))]
    · rw [if_neg hp, if_neg, if_pos (.inr (by omega))]
      rintro (h1 | h1)
      · exact hn _ h1 (by omega)
      · omega
  · rw [if_neg hi]
    have e1 : ((i : Int) = l) = False := eq_false fun e => hi (by omega)
    have e2 : (-(i : Int) = l) = False := eq_false fun e => hi (by omega)
    simp only [e1, e2, or_false]
theorem GoodOrd.app {n : Nat} {ord : List Int} (h : GoodOrd n ord) {l : Int} (h0 : l ≠ 0) (hn : l.natAbs ≤ n) (hv : valT ord l = 0) : GoodOrd n (ord ++ [l]) := by
  refine ⟨?_, fun m hm => ?_⟩
  · rw [List.map_append, List.nodup_append]
    refine ⟨h.nd, by simp, fun a ha b hb => ?_⟩
    obtain ⟨m, hm, rfl⟩ := List.mem_map.1 ha
    simp at hb
    subst hb
    intro e
    rcases valT_cases ord l with ⟨h1, h2⟩ | ⟨h1, h2⟩ | ⟨h1, h2, h3⟩
    · omega
    · omega
    · rcases Int.natAbs_eq_natAbs_iff.1 e with e | e
      · exact h2 (e ▸ hm)
      · exact h3 (e ▸ hm)
  · rcases List.mem_append.1 hm with h1 | h1
    · exact h.wf m h1
    · rw [List.mem_singleton.1 h1]; exact ⟨h0, hn⟩
theorem GoodOrd.take {n : Nat} {ord : List Int} (h : GoodOrd n ord) (k : Nat) : GoodOrd n (ord.take k) := ⟨by rw [List.map_take]; exact List.Nodup.sublist (List.take_sublist _ _) h.nd, fun l hl => h.wf l (List.mem_of_mem_take hl)⟩
theorem GoodOrd.sub {n : Nat} {o p : List Int} (h : GoodOrd n p) (hs : o.Sublist p) : GoodOrd n o := ⟨List.Nodup.sublist (hs.map _) h.nd, fun l hl => h.wf l (hs.subset hl)⟩
theorem vals_app {n : Nat} {ord : List Int} {l : Int} (h : GoodOrd n (ord ++ [l])) : vals n (ord ++ [l]) = (vals n ord).set l.natAbs (if 0 < l then 1 else -1) := by
  have hl := h.wf l (by simp)
  refine List.ext_getElem? fun i => ?_
  rw [List.getElem?_set]
  by_cases hi : i ≤ n
  · rw [vals_get hi, valT_app h, vals_get hi, vals_len]
    by_cases e : l.natAbs = i
    · rw [if_pos e.symm, if_pos e, if_pos (show l.natAbs < n + 1 by omega)]
    · rw [if_neg (fun x => e x.symm), if_neg e]
  · rw [if_neg (by omega), List.getElem?_eq_none (by rw [vals_len]; omega), List.getElem?_eq_none (by rw [vals_len]; omega)]
/-- One that is taken back. -/
theorem vals_drop {n : Nat} {o p : List Int} {l : Int} (h : GoodOrd n (o ++ l :: p)) : (vals n (o ++ l :: p)).set l.natAbs 0 = vals n (o ++ p) := by
  have hl := h.wf l (by simp)
  have hn : ∀ m ∈ o ++ p, m.natAbs ≠ l.natAbs := fun m hm e => by
    have h1 := h.nd
    rw [List.map_append, List.map_cons, List.nodup_append, List.nodup_cons] at h1
    rcases List.mem_append.1 hm with h2 | h2
    · exact h1.2.2 _ (List.mem_map.2 ⟨m, h2, rfl⟩) _ (List.mem_cons_self ..) e
    · exact h1.2.1.1 (by rw [← e]; exact List.mem_map.2 ⟨m, h2, rfl⟩)
  refine List.ext_getElem? fun i => ?_
  rw [List.getElem?_set]
  by_cases hi : i ≤ n
  · rw [vals_get hi, vals_get hi, vals_len]
    by_cases e : l.natAbs = i
    · rw [if_pos e, if_pos (by omega)]
      subst e
      rcases valT_cases (o ++ p) (l.natAbs : Nat) with ⟨h1, h2⟩ | ⟨h1, h2, h3⟩ | ⟨h1, _⟩
      · exact absurd (by omega) (hn _ h2)
      · exact absurd (by omega) (hn _ h3)
      · rw [h1]
    · rw [if_neg e]
      have e1 : ((i : Int) = l) = False := eq_false fun x => e (by omega)
      have e2 : (-(i : Int) = l) = False := eq_false fun x => e (by omega)
      simp only [valT, List.mem_append, List.mem_cons, e1, e2, false_or]
  · rw [if_neg (by omega), List.getElem?_eq_none (by rw [vals_len]; omega), List.getElem?_eq_none (by rw [vals_len]; omega)]

theorem nodup_le : ∀ (n : Nat) (l : List Nat), l.Nodup → (∀ x ∈ l, x < n) → l.length ≤ n
  | 0, l, _, h => by
    cases l with
    | nil => simp
    | cons x l => exact absurd (h x (by simp)) (by omega)
  | n + 1, l, hd, h => by
    have := nodup_le n (l.erase n) (hd.erase n) fun x hx => by
      have h1 := (List.Nodup.mem_erase_iff hd).1 hx
      have := h x h1.2
      have := h1.1
      omega
    rw [List.length_erase] at this
    split at this <;> omega
theorem GoodOrd.len {n : Nat} {ord : List Int} (h : GoodOrd n ord) : ord.length ≤ n := by
  have := nodup_le (n + 1) (0 :: ord.map Int.natAbs) (List.nodup_cons.2 ⟨fun h0 => by
    obtain ⟨l, hl, e⟩ := List.mem_map.1 h0
    exact (h.wf l hl).1 (Int.natAbs_eq_zero.1 e), h.nd⟩) fun x hx => by
      rcases List.mem_cons.1 hx with rfl | hx
      · omega
      · obtain ⟨l, hl, rfl⟩ := List.mem_map.1 hx
        have := (h.wf l hl).2
        omega
  simp at this
  exact this

/-- The one literal that a clause still leaves; 0: none, or it holds. -/
def forcedL (ord : List Int) : List Int → Int → Int
  | [], out => out
  | l :: c, out => if 0 < valT ord l ∨ (valT ord l = 0 ∧ out ≠ 0) then 0 else forcedL ord c (if valT ord l = 0 then l else out)

theorem forcedL_sound {ord : List Int} : ∀ (c : List Int) (out : Int), (∀ l ∈ c, l ≠ 0) → forcedL ord c out ≠ 0 → (forcedL ord c out = out ∧ ∀ l ∈ c, valT ord l = -1) ∨ (out = 0 ∧ forcedL ord c out ∈ c ∧ valT ord (forcedL ord c out) = 0 ∧ ∀ l ∈ c, l = forcedL ord c out ∨ valT ord l = -1)
  | [], out, _, _ => .inl ⟨rfl, by simp⟩
  | l :: c, out, hc, h => by
    rw [forcedL] at h ⊢
    split at h
    · exact absurd rfl h
    rename_i hx
    rw [if_neg hx]
    have hc' : ∀ l ∈ c, l ≠ 0 := fun m hm => hc m (by simp [hm])
    rcases valT_cases ord l with ⟨h1, _⟩ | ⟨h1, _⟩ | ⟨h1, _⟩
    · exact absurd (.inl (by omega)) hx
    · rw [if_neg (by omega)] at h ⊢
      rcases forcedL_sound c out hc' h with ⟨g1, g2⟩ | ⟨g1, g2, g3, g4⟩
      · exact .inl ⟨g1, fun m hm => by rcases List.mem_cons.1 hm with rfl | hm; exact h1; exact g2 m hm⟩
      · exact .inr ⟨g1, by simp [g2], g3, fun m hm => by rcases List.mem_cons.1 hm with rfl | hm; exact .inr h1; exact g4 m hm⟩
    · have ho : out = 0 := Classical.byContradiction fun e => hx (.inr ⟨h1, e⟩)
      rw [if_pos h1] at h ⊢
      rcases forcedL_sound c l hc' h with ⟨g1, g2⟩ | ⟨g1, _⟩
      · exact .inr ⟨ho, by rw [g1]; simp, by rw [g1]; exact h1, fun m hm => by rcases List.mem_cons.1 hm with rfl | hm; exact .inl g1.symm; exact .inr (g2 m hm)⟩
      · exact absurd g1 (hc l (by simp))

/-- Those that hold, hold. -/
def Agr (M : Nat → Bool) (ord : List Int) : Prop := ∀ l ∈ ord, litT M l = true
theorem Agr.neg {M : Nat → Bool} {n : Nat} {ord : List Int} (h : Agr M ord) (hg : GoodOrd n ord) {l : Int} (hv : valT ord l = -1) : litT M l = false := by
  rcases valT_cases ord l with ⟨h1, _⟩ | ⟨_, _, h2⟩ | ⟨h1, _⟩
  · omega
  · have h0 := (hg.wf _ h2).1
    have := h _ h2
    rw [litT_neg (by omega)] at this
    simpa using this
  · omega
theorem forced_agr {M : Nat → Bool} {n : Nat} {ord c : List Int} (h : Agr M ord) (hg : GoodOrd n ord) (hc : ∀ l ∈ c, l ≠ 0) (hM : claT M c = true) (hf : forcedL ord c 0 ≠ 0) : litT M (forcedL ord c 0) = true := by
  obtain ⟨l, hl, ht⟩ := List.any_eq_true.1 hM
  rcases forcedL_sound c 0 hc hf with ⟨g1, _⟩ | ⟨_, _, _, g4⟩
  · exact absurd g1 hf
  · rcases g4 l hl with e | e
    · rw [← e]; exact ht
    · rw [h.neg hg e] at ht; cases ht

/-- A clause of which nothing can hold any more. -/
def lostC (ord c : List Int) : Bool := !c.any fun l => decide (0 ≤ valT ord l)
theorem lost_none {M : Nat → Bool} {n : Nat} {ord c : List Int} (h : Agr M ord) (hg : GoodOrd n ord) (hl : lostC ord c = true) : claT M c = false := by
  rw [claT, List.any_eq_false]
  intro l hlc ht
  have : valT ord l = -1 := by
    simp only [lostC, Bool.not_eq_true', List.any_eq_false, decide_eq_true_eq] at hl
    have := hl l hlc
    rcases valT_cases ord l with ⟨h1, _⟩ | ⟨h1, _⟩ | ⟨h1, _⟩ <;> omega
  rw [h.neg hg this] at ht
  cases ht
end Go.Av
end
