/- Texts that the last one of this claim rests on: a layer over the guide's own conditions for code; contracts of the functions that the law reaches, one by one. No conditions beside those of the given rows. -/
import Derived.Test.YtnblgnafgdmcaaaGreatDoorWbc
section
set_option linter.unusedSimpArgs false
set_option linter.unusedVariables false
namespace Go.Av

/-- Clauses that can hold together with assumptions, all of them of the variables 1 to n. -/
def satA (n : Nat) (cls : List (List Int)) (asm : List Int) : Prop := (∀ l ∈ asm, wfL n l = true) ∧ ∃ M, setT M cls = true ∧ Agr M asm

/-- A way that is still open: a decision that has been tried one way alone. -/
def Alts (ord : List Int) (stk : List (Nat × Int)) (M : Nat → Bool) : Prop := ∃ p ∈ stk, 0 < p.2 ∧ Agr M (ord.take p.1) ∧ litT M p.2 = true

/-- Decisions, from the place where they begin. -/
def StkOk (n : Nat) (cls : List (List Int)) (ord : List Int) : Nat → List (Nat × Int) → Prop
  | lo, [] => lo ≤ ord.length
  | lo, p :: r => lo ≤ p.1 ∧ p.1 < ord.length ∧ p.2 ≠ 0 ∧ p.2.natAbs ≤ n ∧ valT (ord.take p.1) p.2 = 0 ∧ cls.any (lostC (ord.take p.1)) = false ∧ StkOk n cls ord (p.1 + 1) r

theorem StkOk.app {n : Nat} {cls : List (List Int)} {ord : List Int} {k : Nat} {d : Int} {o2 : List Int} : ∀ {lo : Nat} {stk : List (Nat × Int)}, StkOk n cls ord lo stk → (∀ i, i ≤ ord.length → o2.take i = ord.take i) → k = ord.length → k < o2.length → d ≠ 0 → d.natAbs ≤ n → valT ord d = 0 → cls.any (lostC ord) = false → StkOk n cls o2 lo (stk ++ [(k, d)])
  | lo, [], h, ho, hk, hk2, h0, hn, hv, hc => by
    have e : o2.take k = ord := by rw [ho k (by omega), hk, List.take_length]
    refine ⟨by rw [hk]; exact h, hk2, h0, hn, by show valT (o2.take k) d = 0; rw [e]; exact hv, by show cls.any (lostC (o2.take k)) = false; rw [e]; exact hc, ?_⟩
    show k + 1 ≤ o2.length
    omega
  | lo, p :: r, ⟨h1, h2, h3, h4, h5, h6, h7⟩, ho, hk, hk2, h0, hn, hv, hc => ⟨h1, by omega, h3, h4, by rw [ho _ (by omega)]; exact h5, by rw [ho _ (by omega)]; exact h6, h7.app ho hk hk2 h0 hn hv hc⟩

theorem StkOk.le {n : Nat} {cls : List (List Int)} {ord : List Int} : ∀ {lo : Nat} {stk : List (Nat × Int)}, StkOk n cls ord lo stk → lo + stk.length ≤ ord.length
  | lo, [], h => by simp only [StkOk] at h; simpa using h
  | lo, p :: r, ⟨h1, _, _, _, _, _, h7⟩ => by have := h7.le; simp; omega

theorem StkOk.pop {n : Nat} {cls : List (List Int)} {ord : List Int} {k : Nat} {d : Int} : ∀ {lo : Nat} {stk : List (Nat × Int)}, StkOk n cls ord lo (stk ++ [(k, d)]) → StkOk n cls (ord.take k) lo stk ∧ k < ord.length ∧ d ≠ 0 ∧ d.natAbs ≤ n ∧ valT (ord.take k) d = 0 ∧ cls.any (lostC (ord.take k)) = false ∧ ∀ p ∈ stk, p.1 ≤ k
  | lo, [], ⟨h1, h2, h3, h4, h5, h6, _⟩ => ⟨by show lo ≤ (ord.take k).length; rw [List.length_take]; simp at h1 h2; omega, h2, h3, h4, h5, h6, by simp⟩
  | lo, p :: r, ⟨h1, h2, h3, h4, h5, h6, h7⟩ => by
    obtain ⟨g1, g2, g3, g4, g5, g6, g7⟩ := h7.pop
    have hp : p.1 < k := by
      have := g1.le
      rw [List.length_take] at this
      omega
    have e : (ord.take k).take p.1 = ord.take p.1 := by rw [List.take_take, Nat.min_eq_left (by omega)]
    refine ⟨⟨h1, by rw [List.length_take]; omega, h3, h4, by rw [e]; exact h5, by rw [e]; exact h6, g1⟩, g2, g3, g4, g5, g6, fun q hq => ?_⟩
    rcases List.mem_cons.1 hq with rfl | hq
    · omega
    · exact g7 q hq

/-- Every model is on the way, or on one that is still open. -/
def OpenW (cls : List (List Int)) (asm ord : List Int) (stk : List (Nat × Int)) : Prop := ∀ M, setT M cls = true → Agr M asm → Agr M ord ∨ Alts ord stk M

theorem Alts.take {ord : List Int} {stk : List (Nat × Int)} {M : Nat → Bool} {k : Nat} (hk : ∀ p ∈ stk, p.1 ≤ k) (h : Alts ord stk M) : Alts (ord.take k) stk M := by
  obtain ⟨p, h1, h2, h3, h4⟩ := h
  exact ⟨p, h1, h2, by rw [List.take_take, Nat.min_eq_left (hk p h1)]; exact h3, h4⟩
theorem Alts.more {ord o2 : List Int} {stk : List (Nat × Int)} {M : Nat → Bool} (ho : ∀ p ∈ stk, o2.take p.1 = ord.take p.1) (h : Alts ord stk M) (q : List (Nat × Int)) : Alts o2 (stk ++ q) M := by
  obtain ⟨p, h1, h2, h3, h4⟩ := h
  exact ⟨p, by simp [h1], h2, by rw [ho p h1]; exact h3, h4⟩

/-- How far the search still has to go. -/
def mu : Nat → List (Nat × Int) → Nat
  | n, [] => 3 ^ n - 1
  | 0, _ :: _ => 0
  | n + 1, p :: r => (if 0 < p.2 then 3 ^ n else 0) + mu n r

theorem mu_push : ∀ (n : Nat) (stk : List (Nat × Int)) (k : Nat) (d : Int), stk.length < n → mu n (stk ++ [(k, d)]) < mu n stk
  | 0, _, _, _, h => by omega
  | n + 1, [], k, d, _ => by
    have : 0 < 3 ^ n := Nat.pow_pos (by omega)
    simp only [List.nil_append, mu, Nat.pow_succ]
    split <;> omega
  | n + 1, p :: r, k, d, h => by
    have := mu_push n r k d (by simpa using h)
    simp only [List.cons_append, mu]
    omega
theorem mu_flip : ∀ (n : Nat) (pre tr : List (Nat × Int)) (k : Nat) (d : Int), 0 < d → pre.length < n → mu n (pre ++ [(k, -d)]) < mu n (pre ++ (k, d) :: tr)
  | 0, _, _, _, _, _, h => by omega
  | n + 1, [], tr, k, d, hd, _ => by
    have : 0 < 3 ^ n := Nat.pow_pos (by omega)
    simp only [List.nil_append, mu]
    rw [if_neg (by omega), if_pos hd]
    omega
  | n + 1, p :: r, tr, k, d, hd, h => by
    have := mu_flip n r tr k d hd (by simpa using h)
    simp only [List.cons_append, mu]
    omega

/-- All that is decided holds. -/
theorem model_of {n : Nat} {ord : List Int} {cls : List (List Int)} (hg : GoodOrd n ord) (hall : ∀ v : Nat, 0 < v → v ≤ n → valT ord (v : Nat) ≠ 0) (hc : cls.any (lostC ord) = false) (hw : ∀ c ∈ cls, ∀ l ∈ c, l ≠ 0 ∧ l.natAbs ≤ n) :
    ∃ M, setT M cls = true ∧ Agr M ord ∧ ∀ v : Nat, M v = decide (0 < valT ord (v : Nat)) := by
  refine ⟨fun v => decide (0 < valT ord (v : Nat)), ?_, ?_, fun v => rfl⟩
  · rw [setT, List.all_eq_true]
    intro c hcm
    rw [List.any_eq_false] at hc
    have h1 := hc c hcm
    simp only [lostC, Bool.not_eq_true', Bool.not_eq_false] at h1
    obtain ⟨l, hl, hv⟩ := List.any_eq_true.1 h1
    have hv := of_decide_eq_true hv
    have hlw := hw c hcm l hl
    refine List.any_eq_true.2 ⟨l, hl, ?_⟩
    have h2 := hall l.natAbs (by omega) hlw.2
    unfold litT
    rcases Int.lt_or_le 0 l with h | h
    · rw [if_pos h]
      show decide (0 < valT ord (l.natAbs : Nat)) = true
      have e : ((l.natAbs : Nat) : Int) = l := by omega
      rw [e] at h2 ⊢
      exact decide_eq_true (by omega)
    · rw [if_neg (by omega)]
      show (!decide (0 < valT ord (l.natAbs : Nat))) = true
      have e : ((l.natAbs : Nat) : Int) = -l := by omega
      rw [e, valT_neg hg] at h2 ⊢
      simp
      omega
  · intro l hl
    have hlw := hg.wf l hl
    have hv : valT ord l = 1 := by rw [valT, if_pos hl]
    unfold litT
    rcases Int.lt_or_le 0 l with h | h
    · rw [if_pos h]
      show decide (0 < valT ord (l.natAbs : Nat)) = true
      have e : ((l.natAbs : Nat) : Int) = l := by omega
      rw [e, hv]; rfl
    · rw [if_neg (by omega)]
      show (!decide (0 < valT ord (l.natAbs : Nat))) = true
      have e : ((l.natAbs : Nat) : Int) = -l := by omega
      rw [e, valT_neg hg, hv]; rfl
end Go.Av
end
