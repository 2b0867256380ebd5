/- Texts that the last one of this claim rests on: a layer over the guide's own conditions for code; contracts of the functions that the law reaches, one by one. No conditions beside those of the given rows. -/
import Derived.Test.YtnblgnafgdmcaaaGreatDoorWbj
import Derived.Test.YtnblgnafgdmcaaaGreatDoorWbk
section
set_option linter.unusedSimpArgs false
set_option linter.unusedVariables false
namespace Go.Proofs.Tryz
open Go Go.Av
set_option linter.unusedSimpArgs false
set_option linter.unusedVariables false

def ProvS (all : List Pkg) (S : Nat → Bool) (x : Clause) : Prop := ∃ (m : Nat) (q : Pkg), all[m]? = some q ∧ x.any (satP q) = true ∧ S m = true
def NoneS (all : List Pkg) (S : Nat → Bool) (i : Nat) (x : Atom) : Prop := ∀ (m : Nat) (q : Pkg), all[m]? = some q → S m = true → m ≠ i → satP q x = false
/-- What a relation asks of a choice. -/
structure CauseS (all : List Pkg) (S : Nat → Bool) (c : Nat × Nat × Nat) : Prop where
  pre : c.2.1 = 1 → ∀ p x, all[c.1]? = some p → p.pre[c.2.2]? = some x → ProvS all S x
  dep : c.2.1 = 2 → ∀ p x, all[c.1]? = some p → p.dep[c.2.2]? = some x → ProvS all S x
  con : c.2.1 = 3 → ∀ p x, all[c.1]? = some p → p.con[c.2.2]? = some x → NoneS all S c.1 x
  brk : c.2.1 = 4 → ∀ p x, all[c.1]? = some p → p.brk[c.2.2]? = some x → NoneS all S c.1 x
structure SelE (all : List Pkg) (e : List (Nat × Nat × Nat)) (S : Nat → Bool) : Prop where
  name : ∀ (a b : Nat) (p q : Pkg), all[a]? = some p → all[b]? = some q → a ≠ b → S a = true → S b = true → p.name ≠ q.name
  cause : ∀ c ∈ e, S c.1 = true → CauseS all S c

theorem selE_cause {all : List Pkg} {S : Nat → Bool} {c : Nat × Nat × Nat} {t : List Nat} (ht : ∀ j ∈ t, j < all.length) (hS : ∀ m, m < all.length → (S m = true ↔ m ∈ t)) (hc : ValidC all c) : underC all c t = true ↔ CauseS all S c := by
  have hprov : ∀ x : Clause, metP x (atL all t) = true ↔ ProvS all S x := fun x => by
    rw [metP_iff]
    constructor
    · rintro ⟨q, hq, h⟩
      obtain ⟨m, hm, hq⟩ := List.mem_filterMap.1 hq
      exact ⟨m, q, hq, h, (hS m (ht m hm)).2 hm⟩
    · rintro ⟨m, q, hq, h, hm⟩
      exact ⟨q, List.mem_filterMap.2 ⟨m, (hS m (List.getElem?_eq_some_iff.1 hq).1).1 hm, hq⟩, h⟩
  have hnone : ∀ x : Atom, (t.all fun j => decide (j = c.1) || !satO all j x) = true ↔ NoneS all S c.1 x := fun x => by
    rw [List.all_eq_true]
    constructor
    · intro h m q hq hm hne
      have := h m ((hS m (List.getElem?_eq_some_iff.1 hq).1).1 hm)
      simpa [hne, satO, hq] using this
    · intro h m hm
      obtain ⟨q, hq⟩ := get_some (ht m hm)
      by_cases e : m = c.1
      · simp [e]
      · have := h m q hq ((hS m (ht m hm)).2 hm) e
        simp [e, satO, hq, this]
  obtain ⟨i, d, k⟩ := c
  obtain ⟨p, hp, h1, h4, hk⟩ := hc
  simp only at hp h1 h4 hk hnone
  obtain rfl | rfl | rfl | rfl : d = 1 ∨ d = 2 ∨ d = 3 ∨ d = 4 := by omega
  · obtain ⟨x, hx⟩ := get_some (l := p.pre) hk
    have e : underC all (i, 1, k) t = metP x (atL all t) := by simp [underC, hp, hx]
    rw [e, hprov]
    constructor
    · intro h
      refine ⟨fun _ p' x' hp' hx' => ?_, fun h => (by cases h), fun h => (by cases h), fun h => (by cases h)⟩
      rw [show all[(i, 1, k).1]? = some p from hp] at hp'; cases hp'
      rw [show p.pre[(i, 1, k).2.2]? = some x from hx] at hx'; cases hx'
      exact h
    · intro h
      exact h.pre rfl p x hp hx
  · obtain ⟨x, hx⟩ := get_some (l := p.dep) hk
    have e : underC all (i, 2, k) t = metP x (atL all t) := by simp [underC, hp, hx]
    rw [e, hprov]
    constructor
    · intro h
      refine ⟨fun h => (by cases h), fun _ p' x' hp' hx' => ?_, fun h => (by cases h), fun h => (by cases h)⟩
      rw [show all[(i, 2, k).1]? = some p from hp] at hp'; cases hp'
      rw [show p.dep[(i, 2, k).2.2]? = some x from hx] at hx'; cases hx'
      exact h
    · intro h
      exact h.dep rfl p x hp hx
  · obtain ⟨x, hx⟩ := get_some (l := p.con) hk
    have e : underC all (i, 3, k) t = (t.all fun j => decide (j = i) || !satO all j x) := by simp [underC, hp, hx]
    rw [e, hnone]
    constructor
    · intro h
      refine ⟨fun h => (by cases h), fun h => (by cases h), fun _ p' x' hp' hx' => ?_, fun h => (by cases h)⟩
      rw [show all[(i, 3, k).1]? = some p from hp] at hp'; cases hp'
      rw [show p.con[(i, 3, k).2.2]? = some x from hx] at hx'; cases hx'
      exact h
    · intro h
      exact h.con rfl p x hp hx
  · obtain ⟨x, hx⟩ := get_some (l := p.brk) hk
    have e : underC all (i, 4, k) t = (t.all fun j => decide (j = i) || !satO all j x) := by simp [underC, hp, hx]
    rw [e, hnone]
    constructor
    · intro h
      refine ⟨fun h => (by cases h), fun h => (by cases h), fun h => (by cases h), fun _ p' x' hp' hx' => ?_⟩
      rw [show all[(i, 4, k).1]? = some p from hp] at hp'; cases hp'
      rw [show p.brk[(i, 4, k).2.2]? = some x from hx] at hx'; cases hx'
      exact h
    · intro h
      exact h.brk rfl p x hp hx

theorem nameO_ne {all : List Pkg} {a b : Nat} {p q : Pkg} (hp : all[a]? = some p) (hq : all[b]? = some q) : nameO all a ≠ nameO all b ↔ p.name ≠ q.name := by simp [nameO, hp, hq]
theorem pair_any {α : Type} {R : α → α → Prop} (hs : ∀ x y, R x y → R y x) : ∀ {l : List α}, l.Pairwise R → ∀ {a b : α}, a ∈ l → b ∈ l → a ≠ b → R a b
  | [], _, a, b, ha, _, _ => by simp at ha
  | x :: l, h, a, b, ha, hb, hab => by
    rw [List.pairwise_cons] at h
    rcases List.mem_cons.1 ha with e1 | ha'
    · rcases List.mem_cons.1 hb with e2 | hb'
      · exact absurd (e1.trans e2.symm) hab
      · rw [e1]; exact h.1 _ hb'
    · rcases List.mem_cons.1 hb with e2 | hb'
      · rw [e2]; exact hs _ _ (h.1 _ ha')
      · exact pair_any hs h.2 ha' hb' hab
theorem under_sel {all : List Pkg} {e : List (Nat × Nat × Nat)} {t : List Nat} (ht : ∀ j ∈ t, j < all.length) (he : ∀ c ∈ e, ValidC all c) (h : underP all e t = true) : SelE all e fun m => decide (m ∈ t) := by
  unfold underP at h
  rw [Bool.and_eq_true, decide_eq_true_eq, List.all_eq_true] at h
  refine ⟨fun a b p q hp hq hab ha hb => ?_, fun c hc hs => ?_⟩
  · rw [decide_eq_true_eq] at ha hb
    exact (nameO_ne hp hq).1 (pair_any (fun x y h1 e => h1 e.symm) h.1 ha hb hab)
  · have := h.2 c hc
    rw [decide_eq_true_eq] at hs
    simp only [hs, decide_true, Bool.not_true, Bool.false_or] at this
    exact (selE_cause ht (fun m _ => by simp) (he c hc)).1 this

theorem some_sound {all : List Pkg} {e : List (Nat × Nat × Nat)} {i : Nat} (hi : i < all.length) : ∀ {f k : Nat} {t : List Nat}, all.length < f + k → k ≤ all.length → (∀ j ∈ t, j < all.length) → (i < k → i ∈ t) → someL all e i f k t = true → ∃ u, underP all e u = true ∧ (∀ j ∈ u, j < all.length) ∧ i ∈ u := by
  intro f
  induction f with
  | zero => intro k t h1 h2; omega
  | succ f ih =>
    intro k t h1 h2 ht hit h
    rw [someL] at h
    split at h
    · exact ⟨t, h, ht, hit (by omega)⟩
    · split at h
      · rename_i hne hki
        exact ih (by omega) (by omega) (mem_app1 ht (by omega)) (fun _ => by simp [hki]) h
      · rename_i hne hki
        rw [Bool.or_eq_true, Bool.and_eq_true] at h
        rcases h with h | h
        · exact ih (by omega) (by omega) (mem_app1 ht (by omega)) (fun hh => List.mem_append_left _ (hit (by omega))) h.2
        · exact ih (by omega) (by omega) ht (fun hh => hit (by omega)) h
def selB (S : Nat → Bool) (k : Nat) : List Nat := (List.range k).filter S
theorem selB_succ (S : Nat → Bool) (k : Nat) : selB S (k + 1) = selB S k ++ if S k = true then [k] else [] := by
  unfold selB
  rw [List.range_succ, List.filter_append]
  cases h : S k <;> simp [h]
theorem selB_mem {S : Nat → Bool} {k m : Nat} : m ∈ selB S k ↔ m < k ∧ S m = true := by simp [selB]
theorem some_has {all : List Pkg} {e : List (Nat × Nat × Nat)} {i : Nat} (hi : i < all.length) {S : Nat → Bool} (hS : SelE all e S) (hSi : S i = true) (hu : underP all e (selB S all.length) = true) : ∀ {f k : Nat}, all.length < f + k → k ≤ all.length → someL all e i f k (selB S k) = true := by
  intro f
  induction f with
  | zero => intro k h1 h2; omega
  | succ f ih =>
    intro k h1 h2
    rw [someL]
    split
    · rename_i hk
      rw [hk]; exact hu
    · rename_i hk
      obtain ⟨p, hp⟩ := get_some (show k < all.length by omega)
      obtain ⟨q, hq⟩ := get_some hi
      have h3 := ih (k := k + 1) (by omega) (by omega)
      rw [selB_succ] at h3
      split
      · rename_i hki
        subst hki
        rwa [if_pos hSi] at h3
      · rename_i hki
        cases hs : S k with
        | false =>
          rw [hs, if_neg (by simp), List.append_nil] at h3
          rw [h3, Bool.or_true]
        | true =>
          rw [hs, if_pos rfl] at h3
          have n1 : nameO all k ≠ nameO all i := (nameO_ne hp hq).2 (hS.name k i p q hp hq hki hs hSi)
          have n2 : freeB all k (selB S k) = true := by
            unfold freeB
            rw [List.all_eq_true]
            intro j hj
            obtain ⟨j1, j2⟩ := selB_mem.1 hj
            obtain ⟨r, hr⟩ := get_some (show j < all.length by omega)
            exact decide_eq_true ((nameO_ne hr hp).2 (hS.name j k r p hr hp (by omega) j2 hs))
          rw [decide_eq_true n1, n2, h3]
          rfl
theorem sel_under {all : List Pkg} {e : List (Nat × Nat × Nat)} {S : Nat → Bool} (he : ∀ c ∈ e, ValidC all c) (hS : SelE all e S) : underP all e (selB S all.length) = true := by
  unfold underP
  rw [Bool.and_eq_true, decide_eq_true_eq, List.all_eq_true]
  refine ⟨?_, fun c hc => ?_⟩
  · have hr : (selB S all.length).Pairwise fun x y => x < y := List.Pairwise.filter _ List.pairwise_lt_range
    refine List.Pairwise.imp_of_mem (fun {a b} ha hb hab => ?_) hr
    obtain ⟨a1, a2⟩ := selB_mem.1 ha
    obtain ⟨b1, b2⟩ := selB_mem.1 hb
    obtain ⟨p, hp⟩ := get_some a1
    obtain ⟨q, hq⟩ := get_some b1
    exact (nameO_ne hp hq).2 (hS.name a b p q hp hq (by omega) a2 b2)
  · by_cases hm : c.1 ∈ selB S all.length
    · have h1 := selB_mem.1 hm
      have := (selE_cause (S := S) (t := selB S all.length) (fun j hj => (selB_mem.1 hj).1) (fun m hm => by rw [selB_mem]; exact ⟨fun h => ⟨hm, h⟩, fun h => h.2⟩) (he c hc)).2 (hS.cause c hc h1.2)
      rw [this, Bool.or_true]
    · simp [hm]
theorem someA_iff {all : List Pkg} {e : List (Nat × Nat × Nat)} {i : Nat} (hi : i < all.length) (he : ∀ c ∈ e, ValidC all c) : someA all e i = true ↔ ∃ S, SelE all e S ∧ S i = true := by
  constructor
  · intro h
    obtain ⟨u, h1, h2, h3⟩ := some_sound hi (by omega) (Nat.zero_le _) (by simp) (fun h => by omega) h
    exact ⟨_, under_sel h2 he h1, by simpa using h3⟩
  · rintro ⟨S, hS, hi2⟩
    have := some_has hi hS hi2 (sel_under he hS) (f := all.length + 1) (k := 0) (by omega) (Nat.zero_le _)
    exact this

theorem causesA_valid {all : List Pkg} {n : Nat} : ∀ c ∈ causesA all n, ValidC all c := fun c hc => by
  unfold causesA at hc
  obtain ⟨i, hi, hc⟩ := List.mem_flatMap.1 hc
  unfold causesP at hc
  split at hc
  · rename_i p hp
    obtain ⟨d, hd, hc⟩ := List.mem_flatMap.1 hc
    unfold causesK at hc
    obtain ⟨k, hk, rfl⟩ := List.mem_map.1 hc
    rw [List.mem_range] at hk hd
    refine ⟨p, hp, ?_, by simp only; omega, hk⟩
    simp only
    rcases d with _ | d
    · simp [kindN] at hk
    · omega
  · cases hc

end Go.Proofs.Tryz
end
section
set_option linter.unusedSimpArgs false
set_option linter.unusedVariables false
namespace Go.Proofs.Tryz
open Go Go.Av
set_option linter.unusedSimpArgs false
set_option linter.unusedVariables false

/-- A relation's clause. -/
def clauseO (all : List Pkg) (c : Nat × Nat × Nat) : Clause := match all[c.1]? with
  | some p => (match c.2.1 with
    | 1 => (p.pre[c.2.2]?).getD []
    | 2 => (p.dep[c.2.2]?).getD []
    | 3 => ((p.con[c.2.2]?).map fun x => [x]).getD []
    | _ => ((p.brk[c.2.2]?).map fun x => [x]).getD [])
  | none => []
def meetB (all : List Pkg) (cl : Clause) (m : Nat) : Bool := match all[m]? with
  | some q => cl.any (satP q)
  | none => false
def meetsN (all : List Pkg) (cl : Clause) (n : Nat) : List Nat := (List.range n).filter (meetB all cl)
def meetsL (all : List Pkg) (c : Nat × Nat × Nat) : List Nat := meetsN all (clauseO all c) all.length
theorem meetsN_succ (all : List Pkg) (cl : Clause) (n : Nat) {q : Pkg} (hq : all[n]? = some q) : meetsN all cl (n + 1) = meetsN all cl n ++ if cl.any (satP q) = true then [n] else [] := by
  have e : meetB all cl n = cl.any (satP q) := by simp [meetB, hq]
  rw [meetsN, List.range_succ, List.filter_append, meetsN]
  congr 1
  cases h : cl.any (satP q) <;> simp [List.filter_cons, e, h]
theorem meetsN_len (all : List Pkg) (cl : Clause) (n : Nat) : (meetsN all cl n).length ≤ n := Nat.le_trans (List.length_filter_le _ _) (by simp)
theorem meetsL_mem {all : List Pkg} {c : Nat × Nat × Nat} {m : Nat} : m ∈ meetsL all c ↔ ∃ q, all[m]? = some q ∧ (clauseO all c).any (satP q) = true := by
  rw [meetsL, meetsN, List.mem_filter, List.mem_range]
  constructor
  · rintro ⟨h1, h2⟩
    obtain ⟨q, hq⟩ := get_some h1
    exact ⟨q, hq, by simpa [meetB, hq] using h2⟩
  · rintro ⟨q, hq, h⟩
    exact ⟨(List.getElem?_eq_some_iff.1 hq).1, by simpa [meetB, hq] using h⟩
theorem meetsL_lt {all : List Pkg} {c : Nat × Nat × Nat} {m : Nat} (h : m ∈ meetsL all c) : m < all.length := by
  obtain ⟨q, hq, _⟩ := meetsL_mem.1 h
  exact (List.getElem?_eq_some_iff.1 hq).1
theorem meetsL_nodup (all : List Pkg) (c : Nat × Nat × Nat) : (meetsL all c).Nodup := List.Pairwise.filter _ List.nodup_range

/-- What the program's clauses ask of a choice. -/
structure EncS (all : List Pkg) (e : List (Nat × Nat × Nat)) (S : Nat → Bool) : Prop where
  name : ∀ i k, k < i → i < all.length → nameO all k = nameO all i → S i = true → S k = true → False
  con : ∀ c ∈ e, (c.2.1 = 3 ∨ c.2.1 = 4) → ∀ m ∈ meetsL all c, m ≠ c.1 → S c.1 = true → S m = true → False
  dep : ∀ c ∈ e, (c.2.1 = 1 ∨ c.2.1 = 2) → S c.1 = true → ∃ m ∈ meetsL all c, S m = true

theorem enc_sel {all : List Pkg} {e : List (Nat × Nat × Nat)} {S : Nat → Bool} (he : ∀ c ∈ e, ValidC all c) : EncS all e S ↔ SelE all e S := by
  constructor
  · intro h
    refine ⟨fun a b p q hp hq hab ha hb hn => ?_, fun c hc hs => ?_⟩
    · have hno : nameO all a = nameO all b := by simp [nameO, hp, hq, hn]
      rcases Nat.lt_or_ge a b with hlt | hge
      · exact h.name b a hlt (List.getElem?_eq_some_iff.1 hq).1 hno hb ha
      · exact h.name a b (by omega) (List.getElem?_eq_some_iff.1 hp).1 hno.symm ha hb
    · refine ⟨fun hk p x hp hx => ?_, fun hk p x hp hx => ?_, fun hk p x hp hx m q hq hm hne => ?_, fun hk p x hp hx m q hq hm hne => ?_⟩
      · obtain ⟨m, hm, h2⟩ := h.dep c hc (.inl hk) hs
        obtain ⟨q, hq, h3⟩ := meetsL_mem.1 hm
        have ec : clauseO all c = x := by simp [clauseO, hp, hk, hx]
        exact ⟨m, q, hq, by rw [← ec]; exact h3, h2⟩
      · obtain ⟨m, hm, h2⟩ := h.dep c hc (.inr hk) hs
        obtain ⟨q, hq, h3⟩ := meetsL_mem.1 hm
        have ec : clauseO all c = x := by simp [clauseO, hp, hk, hx]
        exact ⟨m, q, hq, by rw [← ec]; exact h3, h2⟩
      · have ec : clauseO all c = [x] := by simp [clauseO, hp, hk, hx]
        cases hsat : satP q x with
        | false => rfl
        | true => exact (h.con c hc (.inl hk) m (meetsL_mem.2 ⟨q, hq, by rw [ec]; simp [hsat]⟩) hne hs hm).elim
      · have ec : clauseO all c = [x] := by simp [clauseO, hp, hk, hx]
        cases hsat : satP q x with
        | false => rfl
        | true => exact (h.con c hc (.inr hk) m (meetsL_mem.2 ⟨q, hq, by rw [ec]; simp [hsat]⟩) hne hs hm).elim
  · intro h
    refine ⟨fun i k hki hi hn h1 h2 => ?_, fun c hc hk m hm hne h1 h2 => ?_, fun c hc hk hs => ?_⟩
    · obtain ⟨p, hp⟩ := get_some hi
      obtain ⟨q, hq⟩ := get_some (l := all) (show k < all.length by omega)
      refine h.name i k p q hp hq (by omega) h1 h2 ?_
      simpa [nameO, hp, hq] using hn.symm
    · obtain ⟨q, hq, h3⟩ := meetsL_mem.1 hm
      obtain ⟨p, hp, v1, v2, v3⟩ := he c hc
      have hcs := h.cause c hc h1
      rcases hk with hk | hk
      · rw [hk] at v3
        obtain ⟨x, hx⟩ := get_some (l := p.con) (show c.2.2 < p.con.length from v3)
        have ec : clauseO all c = [x] := by simp [clauseO, hp, hk, hx]
        rw [ec] at h3
        have := hcs.con hk p x hp hx m q hq h2 hne
        simp [this] at h3
      · rw [hk] at v3
        obtain ⟨x, hx⟩ := get_some (l := p.brk) (show c.2.2 < p.brk.length from v3)
        have ec : clauseO all c = [x] := by simp [clauseO, hp, hk, hx]
        rw [ec] at h3
        have := hcs.brk hk p x hp hx m q hq h2 hne
        simp [this] at h3
    · obtain ⟨p, hp, v1, v2, v3⟩ := he c hc
      have hcs := h.cause c hc hs
      rcases hk with hk | hk
      · rw [hk] at v3
        obtain ⟨x, hx⟩ := get_some (l := p.pre) (show c.2.2 < p.pre.length from v3)
        have ec : clauseO all c = x := by simp [clauseO, hp, hk, hx]
        obtain ⟨m, q, hq, h3, h4⟩ := hcs.pre hk p x hp hx
        exact ⟨m, meetsL_mem.2 ⟨q, hq, by rw [ec]; exact h3⟩, h4⟩
      · rw [hk] at v3
        obtain ⟨x, hx⟩ := get_some (l := p.dep) (show c.2.2 < p.dep.length from v3)
        have ec : clauseO all c = x := by simp [clauseO, hp, hk, hx]
        obtain ⟨m, q, hq, h3, h4⟩ := hcs.dep hk p x hp hx
        exact ⟨m, meetsL_mem.2 ⟨q, hq, by rw [ec]; exact h3⟩, h4⟩

/-- Each in turn is left out, if it can be spared. -/
def whyF (can : List (Nat × Nat × Nat) → Bool) : Nat → List (Nat × Nat × Nat) → Nat → List (Nat × Nat × Nat)
  | 0, l, _ => l
  | f + 1, l, k => if k < l.length then (if can (l.eraseIdx k) = true then whyF can f l (k + 1) else whyF can f (l.eraseIdx k) k) else l
def whyL (all : List Pkg) (i : Nat) : List (Nat × Nat × Nat) := whyF (fun e => someA all e i) (causesA all all.length).length (causesA all all.length) 0

end Go.Proofs.Tryz
end
section
set_option linter.unusedSimpArgs false
set_option linter.unusedVariables false
namespace Go.Proofs.Tryz
open Go Go.Av
set_option maxRecDepth 10000
set_option linter.unusedSimpArgs false
set_option linter.unusedVariables false
variable {W0 : World}

theorem weak_tup2 {x y a b : AV} (h1 : Weak x y) (h2 : Weak a b) : Weak (.tup [x, a]) (.tup [y, b]) := .tup rfl fun i u v hu hv => by
  rcases i with _ | _ | i <;> simp at hu hv
  · subst hu hv; exact h1
  · subst hu hv; exact h2
theorem weak_tup3 {x y a b c d : AV} (h1 : Weak x y) (h2 : Weak a b) (h3 : Weak c d) : Weak (.tup [x, a, c]) (.tup [y, b, d]) := .tup rfl fun i u v hu hv => by
  rcases i with _ | _ | _ | i <;> simp at hu hv
  · subst hu hv; exact h1
  · subst hu hv; exact h2
  · subst hu hv; exact h3
def clI (p : Pkg) (k : Int) : List Clause := if k = 1 then p.pre else if k = 2 then p.dep else []
def atI (p : Pkg) (k : Int) : List Atom := if k = 3 then p.con else if k = 4 then p.brk else []

theorem ex_lit (i : Nat) (hi : i ≤ 1048576) : PureFn prog W0 54 [.int .i64 i] (.int .i64 (litN i)) := by
  refine fn_pure [2] [] func54 rfl rfl ntmps54 rfl rfl (.int _ _) fun hs σ => ?_
  simp only [go_sem, simprocAttr, ↓reduceIte]
  exact weak_int (wrap_succ (N := 1048577) (by omega) (by rw [maxLen_eq]; omega))
theorem ex_clauses (p : Pkg) (k : Int) : PureFn prog W0 40 [pkgAV p, .int .i64 k] (clausesAV (clI p k)) := by
  refine fn_pure [4] [2] func40 rfl rfl ntmps40 rfl rfl (ids_clauses _) fun hs σ => ?_
  simp only [go_sem, simprocAttr, ↓reduceIte, pkgAV]
  refine ⟨fun h => ?_, fun h => ⟨fun h2 => ?_, fun h2 => ?_⟩⟩
  · rw [clI, if_pos (by simpa using h)]
    exact .refl _
  · rw [clI, if_neg (by simpa using h), if_pos (by simpa using h2)]
    exact .refl _
  · rw [clI, if_neg (by simpa using h), if_neg (by simpa using h2)]
    exact .sub (.nils _)
theorem ex_atoms (p : Pkg) (k : Int) : PureFn prog W0 41 [pkgAV p, .int .i64 k] (atomsAV (atI p k)) := by
  refine fn_pure [4] [2] func41 rfl rfl ntmps41 rfl rfl (ids_atoms _) fun hs σ => ?_
  simp only [go_sem, simprocAttr, ↓reduceIte, pkgAV]
  refine ⟨fun h => ?_, fun h => ⟨fun h2 => ?_, fun h2 => ?_⟩⟩
  · rw [atI, if_pos (by simpa using h)]
    exact .refl _
  · rw [atI, if_neg (by simpa using h), if_pos (by simpa using h2)]
    exact .refl _
  · rw [atI, if_neg (by simpa using h), if_neg (by simpa using h2)]
    exact .sub (.nils _)
theorem kindN_I (p : Pkg) (d : Nat) (h : 1 ≤ d) (h5 : d < 5) : kindN p d = (clI p d).length + (atI p d).length := by
  obtain rfl | rfl | rfl | rfl : d = 1 ∨ d = 2 ∨ d = 3 ∨ d = 4 := by omega
  all_goals simp [kindN, clI, atI]

theorem ex_meets1 (q : Pkg) (a : Atom) : PureFn prog W0 50 [atomAV a, .loc 56 (pkgAV q)] (.bool (satP q a)) := by
  refine fn_pure [3] [2] func50 rfl rfl ntmps50 rfl rfl (.bool _) fun hs σ => ?_
  simp only [go_sem, simprocAttr, ↓reduceIte]
  refine CallA.fn (ix_sat q a) ?_
  simp only [go_sem, simprocAttr, ↓reduceIte]
  try exact .refl _
end Go.Proofs.Tryz
end
