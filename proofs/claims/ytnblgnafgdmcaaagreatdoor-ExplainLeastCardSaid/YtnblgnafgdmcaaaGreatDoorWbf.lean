/- Texts that the last one of this claim rests on: a layer over the guide's own conditions for code; contracts of the functions that the law reaches, one by one. No conditions beside those of the given rows. -/
import Derived.Test.YtnblgnafgdmcaaaGreatDoorWbd
section
set_option linter.unusedSimpArgs false
set_option linter.unusedVariables false
namespace Go.Av

def litN (i : Nat) : Int := ((i + 1 : Nat) : Int)
/-- One of those that meet it, from the place i on. -/
def meetL (c : Clause) : Nat → List Pkg → List Int
  | _, [] => []
  | i, q :: r => (if c.any (satP q) = true then [litN i] else []) ++ meetL c (i + 1) r
def depL (all : List Pkg) (i : Nat) (c : Clause) : List Int := -litN i :: meetL c 0 all
/-- Those ahead of it with which it can't be. -/
def conL (p : Pkg) (i : Nat) : Nat → List Pkg → List (List Int)
  | _, [] => []
  | k, q :: r => (if (p.name == q.name || clashP p q) = true then [[-litN i, -litN k]] else []) ++ conL p i (k + 1) r
/-- All clauses of one package. -/
def pkgL (all : List Pkg) (i : Nat) (p : Pkg) : List (List Int) := (p.pre ++ p.dep).map (depL all i) ++ conL p i 0 (all.take i)
def allL (all : List Pkg) : Nat → List Pkg → List (List Int)
  | _, [] => []
  | i, p :: r => pkgL all i p ++ allL all (i + 1) r

theorem meetL_mem {c : Clause} : ∀ {i : Nat} {l : List Pkg} {x : Int}, x ∈ meetL c i l → ∃ k q, l[k]? = some q ∧ x = litN (i + k)
  | i, [], x, h => by simp [meetL] at h
  | i, q :: r, x, h => by
    rw [meetL, List.mem_append] at h
    rcases h with h | h
    · split at h
      · simp at h; exact ⟨0, q, rfl, by simpa using h⟩
      · simp at h
    · obtain ⟨k, q', h1, h2⟩ := meetL_mem h
      exact ⟨k + 1, q', by simpa using h1, by rw [h2]; congr 1; omega⟩
theorem meetL_nodup {c : Clause} : ∀ (i : Nat) (l : List Pkg), (meetL c i l).Nodup ∧ ∀ x ∈ meetL c i l, litN i ≤ x
  | i, [] => by simp [meetL]
  | i, q :: r => by
    obtain ⟨h1, h2⟩ := meetL_nodup (c := c) (i + 1) r
    rw [meetL]
    refine ⟨List.nodup_append.2 ⟨by split <;> simp, h1, fun a ha b hb => ?_⟩, fun x hx => ?_⟩
    · split at ha
      · simp at ha
        have := h2 b hb
        subst ha
        unfold litN at *
        omega
      · simp at ha
    · rcases List.mem_append.1 hx with h | h
      · split at h
        · simp at h; omega
        · simp at h
      · have := h2 x h
        unfold litN at *
        omega
theorem meetL_len {c : Clause} : ∀ (i : Nat) (l : List Pkg), (meetL c i l).length ≤ l.length
  | i, [] => by simp [meetL]
  | i, q :: r => by
    have := meetL_len (c := c) (i + 1) r
    rw [meetL, List.length_append]
    split <;> simp <;> omega
theorem meetL_succ {c : Clause} : ∀ (l : List Pkg) (i k : Nat) (q : Pkg), l[k]? = some q → meetL c i (l.take (k + 1)) = meetL c i (l.take k) ++ (if c.any (satP q) = true then [litN (i + k)] else [])
  | [], i, k, q, h => by simp at h
  | p :: r, i, 0, q, h => by
    simp at h; subst h
    simp [meetL]
  | p :: r, i, k + 1, q, h => by
    rw [List.take_succ_cons, List.take_succ_cons, meetL, meetL, meetL_succ r (i + 1) k q (by simpa using h), List.append_assoc]
    have : i + 1 + k = i + (k + 1) := by omega
    rw [this]
theorem conL_succ {p : Pkg} {i : Nat} : ∀ (l : List Pkg) (j k : Nat) (q : Pkg), l[k]? = some q → conL p i j (l.take (k + 1)) = conL p i j (l.take k) ++ (if (p.name == q.name || clashP p q) = true then [[-litN i, -litN (j + k)]] else [])
  | [], j, k, q, h => by simp at h
  | p' :: r, j, 0, q, h => by
    simp at h; subst h
    simp [conL]
  | p' :: r, j, k + 1, q, h => by
    rw [List.take_succ_cons, List.take_succ_cons, conL, conL, conL_succ r (j + 1) k q (by simpa using h), List.append_assoc]
    have : j + 1 + k = j + (k + 1) := by omega
    rw [this]
theorem allL_succ (all : List Pkg) : ∀ (l : List Pkg) (j k : Nat) (p : Pkg), l[k]? = some p → allL all j (l.take (k + 1)) = allL all j (l.take k) ++ pkgL all (j + k) p
  | [], j, k, p, h => by simp at h
  | q :: r, j, 0, p, h => by
    simp at h; subst h
    simp [allL]
  | q :: r, j, k + 1, p, h => by
    rw [List.take_succ_cons, List.take_succ_cons, allL, allL, allL_succ all r (j + 1) k p (by simpa using h), List.append_assoc]
    have : j + 1 + k = j + (k + 1) := by omega
    rw [this]
theorem setT_app (M : Nat → Bool) (a b : List (List Int)) : setT M (a ++ b) = (setT M a && setT M b) := by simp [setT]
theorem mayAll_len {all : List Pkg} (h : mayAll all = 0) : all.length ≤ 24 := by
  unfold mayAll at h
  split at h
  · omega
  · omega
theorem orL_zero : ∀ {l : List Int}, orL l = 0 → ∀ x ∈ l, x = 0
  | [], _, x, hx => by simp at hx
  | y :: r, h, x, hx => by
    rw [orL] at h
    split at h
    · rename_i hy; exact absurd h hy
    · rename_i hy
      rcases List.mem_cons.1 hx with rfl | hx
      · exact Classical.not_not.1 hy
      · exact orL_zero h x hx
theorem mayAll_pkg {all : List Pkg} (h : mayAll all = 0) {p : Pkg} (hp : p ∈ all) : mayPkg p = 0 := by
  unfold mayAll at h
  split at h
  · omega
  · split at h
    · rename_i h1; exact absurd h h1
    · rename_i h1
      exact orL_zero (Classical.not_not.1 h1) _ (List.mem_map.2 ⟨p, hp, rfl⟩)
theorem mayCl_len {l : List Clause} (h : mayCl l = 0) : l.length ≤ 12 := by
  unfold mayCl at h
  split at h
  · omega
  · rename_i h1; omega
theorem mayPkg_len {p : Pkg} (h : mayPkg p = 0) : p.pre.length ≤ 12 ∧ p.dep.length ≤ 12 := by
  unfold mayPkg at h
  split at h
  · omega
  · have := orL_zero h
    exact ⟨mayCl_len (this _ (by simp)), mayCl_len (this _ (by simp))⟩
theorem litN_pos (i : Nat) : 0 < litN i := by unfold litN; omega
theorem litN_abs (i : Nat) : (litN i).natAbs = i + 1 := by unfold litN; omega
theorem depL_ok {all : List Pkg} {i : Nat} (hi : i < all.length) (c : Clause) : wfC all.length (depL all i c) = true ∧ (depL all i c).Nodup ∧ (depL all i c).length ≤ all.length + 1 := by
  refine ⟨List.all_eq_true.2 fun l hl => ?_, ?_, ?_⟩
  · have : l ≠ 0 ∧ l.natAbs ≤ all.length := by
      rcases List.mem_cons.1 hl with rfl | hl
      · have := litN_pos i; have := litN_abs i
        exact ⟨by omega, by omega⟩
      · obtain ⟨k, q, h1, rfl⟩ := meetL_mem hl
        have h2 := (List.getElem?_eq_some_iff.1 h1).1
        have := litN_pos (0 + k); have := litN_abs (0 + k)
        exact ⟨by omega, by omega⟩
    simp [wfL, this]
  · refine List.nodup_cons.2 ⟨fun h => ?_, (meetL_nodup _ _).1⟩
    have := (meetL_nodup (c := c) 0 all).2 _ h
    have := litN_pos i; have := litN_pos 0
    omega
  · have := meetL_len (c := c) 0 all
    simp [depL]; omega
theorem conP_ok {n i k : Nat} (hi : i < n) (hk : k < i) : wfC n [-litN i, -litN k] = true ∧ [-litN i, -litN k].Nodup := by
  have := litN_pos i; have := litN_abs i; have := litN_pos k; have := litN_abs k
  refine ⟨by simp [wfC, wfL]; omega, by simp; unfold litN; omega⟩
end Go.Av
end
