/- Texts that the last one of this claim rests on: a layer over the guide's own conditions for code; contracts of the functions that the law reaches, one by one. No conditions beside those of the given rows. -/
import Derived.Test.YtnblgnafgdmcaaaGreatDoorWaq
section
set_option linter.unusedSimpArgs false
set_option linter.unusedVariables false
namespace Go.Av

def rankP (c : UInt8) : Int := if c.toNat = 126 then -1 else if letterC c then c.toNat else c.toNat + 256
/-- A sign's rank at a text's beginning, as the program counts. -/
def rkP : List UInt8 → Int
  | [] => 0
  | c :: _ => if digitC c then 0 else rankP c

theorem letterC_le {c : UInt8} (h : letterC c = true) : 65 ≤ c.toNat ∧ c.toNat ≤ 122 := by
  simp only [letterC, smallC, Bool.or_eq_true, Bool.and_eq_true, decide_eq_true_eq] at h
  omega

theorem rk_ranges (c : UInt8) (h : digitC c = false) : (rk [c] = -1 ∧ rkP [c] = -1 ∧ c.toNat = 126) ∨ (rk [c] = 1 + c.toNat ∧ rkP [c] = c.toNat ∧ 65 ≤ c.toNat ∧ c.toNat ≤ 122) ∨ (rk [c] = 300 + c.toNat ∧ rkP [c] = 256 + c.toNat ∧ True) := by
  simp only [rk, rkP, h, Bool.false_eq_true, if_false, rankC, rankP]
  by_cases h1 : c.toNat = 126
  · left; simp [h1]
  · right
    simp only [h1, if_false]
    cases h2 : letterC c with
    | true => left; simp only [if_true, true_and]; exact letterC_le h2
    | false => right; simp only [Bool.false_eq_true, if_false, true_and, and_true]; omega

theorem rkP_all (a : List UInt8) : (rk a = 0 ∧ rkP a = 0) ∨ ∃ c r, a = c :: r ∧ digitC c = false ∧ rk a = rk [c] ∧ rkP a = rkP [c] := by
  cases a with
  | nil => exact .inl ⟨rfl, rfl⟩
  | cons c r =>
    cases h : digitC c with
    | true => left; simp [rk, rkP, h]
    | false => right; exact ⟨c, r, rfl, h, rfl, rfl⟩

theorem rkP_cmp (a b : List UInt8) : sgn (rkP a) (rkP b) = sgn (rk a) (rk b) := by
  have key : (rkP a < rkP b ↔ rk a < rk b) ∧ (rkP a > rkP b ↔ rk a > rk b) := by
    rcases rkP_all a with ⟨a1, a2⟩ | ⟨c, r, _, hc, a1, a2⟩ <;> rcases rkP_all b with ⟨b1, b2⟩ | ⟨d, r', _, hd, b1, b2⟩
    · rw [a1, a2, b1, b2]; simp
    · rcases rk_ranges d hd with h | h | h <;> rw [a1, a2, b1, b2, h.1, h.2.1] <;> omega
    · rcases rk_ranges c hc with h | h | h <;> rw [a1, a2, b1, b2, h.1, h.2.1] <;> omega
    · have hc8 := c.toNat_lt
      have hd8 := d.toNat_lt
      rcases rk_ranges c hc with h | h | h <;> rcases rk_ranges d hd with h' | h' | h' <;> rw [a1, a2, b1, b2, h.1, h.2.1, h'.1, h'.2.1] <;> omega
  unfold sgn
  simp only [key.1, key.2]

theorem sgn_zero {a b : Int} : sgn a b = 0 ↔ a = b := ⟨sgn_eq, fun h => by rw [h, sgn_self]⟩
theorem rkP_eq (a b : List UInt8) : rkP a = rkP b ↔ rk a = rk b := by rw [← sgn_zero, rkP_cmp, sgn_zero]
theorem rkP_zero (a : List UInt8) : rkP a = 0 ↔ rk a = 0 := rkP_eq a []

theorem skipD_rk {a : List UInt8} (h : rk a = 0) : skipD a = a := by
  cases a with
  | nil => rfl
  | cons c r =>
    cases hd : digitC c with
    | true => simp [skipD, hd]
    | false => exact absurd h (by simp [rk, hd, rankC_ne])

theorem skipD_tail {a : List UInt8} (h : rk a ≠ 0) : skipD a.tail = skipD a := by
  obtain ⟨c, r, rfl, hd⟩ := rk_ne h
  simp [skipD, hd]

/-- Digits at a text's beginning without noughts ahead. -/
def digsP (s : List UInt8) : List UInt8 := (s.takeWhile digitC).dropWhile (· == 48)
def restP (s : List UInt8) : List UInt8 := s.dropWhile digitC

theorem digit48 : digitC 48 = true := by decide

theorem digs_rest (s : List UInt8) : digsP s = (skip0 s).take (runS (skip0 s)) ∧ restP s = (skip0 s).drop (runS (skip0 s)) := by
  have key : ∀ s : List UInt8, s.takeWhile digitC = s.take (runS s) ∧ s.dropWhile digitC = s.drop (runS s) := fun s => by
    induction s with
    | nil => exact ⟨rfl, rfl⟩
    | cons c r ih =>
      cases h : digitC c with
      | true =>
        have e : runS (c :: r) = runS r + 1 := by simp [runS, h]
        rw [e, List.takeWhile_cons, List.dropWhile_cons, if_pos h, if_pos h, List.take_succ_cons, List.drop_succ_cons, ih.1, ih.2]
        exact ⟨rfl, rfl⟩
      | false =>
        have e : runS (c :: r) = 0 := by simp [runS, h]
        rw [e, List.takeWhile_cons, List.dropWhile_cons, h]
        exact ⟨rfl, rfl⟩
  induction s with
  | nil => exact ⟨rfl, rfl⟩
  | cons c r ih =>
    by_cases h0 : c = 48
    · subst h0
      have e1 : skip0 (48 :: r) = skip0 r := by simp [skip0]
      rw [e1, ← ih.1, ← ih.2]
      refine ⟨?_, ?_⟩
      · simp [digsP, digit48]
      · simp [restP, digit48]
    · have e1 : skip0 (c :: r) = c :: r := by simp [skip0, h0]
      rw [e1, ← (key (c :: r)).1, ← (key (c :: r)).2]
      refine ⟨?_, rfl⟩
      unfold digsP
      cases h : digitC c with
      | true => simp [List.takeWhile_cons, h, h0]
      | false => simp [List.takeWhile_cons, h]

theorem runS_len (s : List UInt8) : (s.take (runS s)).length = runS s := by
  rw [List.length_take]
  have := runS_le s
  omega

theorem cmpS_lex : ∀ (a b : List UInt8), a.length = b.length → cmpS a b = lexC a b
  | [], [], _ => rfl
  | [], _ :: _, h => by simp at h
  | _ :: _, [], h => by simp at h
  | x :: a, y :: b, h => by
    have ih := cmpS_lex a b (by simpa using h)
    unfold lexC
    by_cases hxy : x = y
    · subst hxy
      rw [if_pos rfl, ← ih]
      simp [cmpS, Op.bytesLess]
    · rw [if_neg hxy]
      have hne : x.toNat ≠ y.toNat := fun e => hxy (UInt8.toNat_inj.1 e)
      have hb : (x == y) = false := by simpa using hxy
      simp only [cmpS, Op.bytesLess, hb, Bool.false_and, Bool.or_false, List.cons.injEq, hxy, false_and, if_false, decide_eq_true_eq, UInt8.lt_iff_toNat_lt, sgn]
      by_cases hl : x.toNat < y.toNat
      · rw [if_pos hl, if_pos (by omega)]
      · rw [if_neg hl, if_neg (by omega), if_pos (by omega)]

/-- What digits at two texts' beginnings come to. -/
def numC (x y : List UInt8) : Int := if (digsP x).length ≠ (digsP y).length then sgn (digsP x).length (digsP y).length else cmpS (digsP x) (digsP y)

theorem restP_le (s : List UInt8) : (restP s).length ≤ s.length := dropWhile_le s

theorem partV_step {a b : List UInt8} (h : ¬ (a = [] ∧ b = [])) : partV a b = if signsL a b ≠ 0 then signsL a b else if numC (skipD a) (skipD b) ≠ 0 then numC (skipD a) (skipD b) else partV (restP (skipD a)) (restP (skipD b)) := by
  rw [partV, dif_neg h]
  split
  · rfl
  · have ha := digs_rest (skipD a)
    have hb := digs_rest (skipD b)
    have la : (digsP (skipD a)).length = runS (numS a) := by rw [ha.1]; exact runS_len _
    have lb : (digsP (skipD b)).length = runS (numS b) := by rw [hb.1]; exact runS_len _
    have e1 : (numS a).take (runS (numS a)) = digsP (skipD a) := ha.1.symm
    have e2 : (numS b).take (runS (numS b)) = digsP (skipD b) := hb.1.symm
    have e3 : (numS a).drop (runS (numS a)) = restP (skipD a) := ha.2.symm
    have e4 : (numS b).drop (runS (numS b)) = restP (skipD b) := hb.2.symm
    rw [e1, e2, e3, e4, ← la, ← lb]
    by_cases hl : (digsP (skipD a)).length = (digsP (skipD b)).length
    · have e : numC (skipD a) (skipD b) = lexC (digsP (skipD a)) (digsP (skipD b)) := by rw [numC, if_neg (by simp [hl]), cmpS_lex _ _ hl]
      rw [if_neg (by simp [hl]), e]
    · have : sgn ((digsP (skipD a)).length : Int) (digsP (skipD b)).length ≠ 0 := fun e => hl (by have := sgn_eq e; omega)
      have e : numC (skipD a) (skipD b) = sgn ((digsP (skipD a)).length : Int) (digsP (skipD b)).length := by rw [numC, if_pos hl]
      rw [if_pos (by simpa using hl), e, if_pos this]

theorem partV_fall {a b : List UInt8} (h : ¬ (a = [] ∧ b = [])) : (restP (skipD a)).length + (restP (skipD b)).length < a.length + b.length := by
  rw [(digs_rest (skipD a)).2, (digs_rest (skipD b)).2]
  exact partV_lt h

/-- What a version's parts read as. -/
def verPAV : Option (List UInt8 × List UInt8 × List UInt8) → AV
  | none => .tup [.str [], .str [], .str [], .int .i64 3]
  | some (e, u, r) => .tup [.str e, .str u, .str r, .int .i64 0]
theorem verPAV_ids (v : Option (List UInt8 × List UInt8 × List UInt8)) : IdsLt 0 (verPAV v) := by
  cases v <;> refine .tup fun x hx => ?_ <;> simp at hx <;> rcases hx with rfl | rfl | rfl | rfl <;> first | exact .str _ | exact .int _ _

/-- A text has signs that versions have, and such as beside alone. -/
def ofV (beside : List UInt8) (s : List UInt8) : Bool := s.all fun c => digitC c || letterC c || beside.contains c
theorem ofV_rev (s : List UInt8) : ofV [43, 46, 126] s = s.all revCh := by
  unfold ofV
  congr 1
  funext c
  have h : ∀ n : Nat, n < 256 → ((c == (n.toUInt8)) = ((c.toNat : Int) == (n : Int))) := fun n hn => by
    rw [Bool.eq_iff_iff]
    simp only [beq_iff_eq]
    constructor
    · intro e; subst e; simp [Nat.mod_eq_of_lt hn]
    · intro e; apply UInt8.toNat_inj.1; simp [Nat.mod_eq_of_lt hn]; omega
  have h1 := h 43 (by omega)
  have h2 := h 46 (by omega)
  have h3 := h 126 (by omega)
  simp only [List.contains_cons, List.contains_nil, Bool.or_false, revCh]
  rw [show (43 : UInt8) = (43 : Nat).toUInt8 from rfl, show (46 : UInt8) = (46 : Nat).toUInt8 from rfl, show (126 : UInt8) = (126 : Nat).toUInt8 from rfl, h1, h2, h3]
  cases digitC c <;> cases letterC c <;> simp [Bool.or_assoc]
theorem ofV_up (s : List UInt8) : ofV [43, 46, 126, 45, 58] s = s.all upCh := by
  unfold ofV
  congr 1
  funext c
  have h : ∀ n : Nat, n < 256 → ((c == (n.toUInt8)) = ((c.toNat : Int) == (n : Int))) := fun n hn => by
    rw [Bool.eq_iff_iff]
    simp only [beq_iff_eq]
    constructor
    · intro e; subst e; simp [Nat.mod_eq_of_lt hn]
    · intro e; apply UInt8.toNat_inj.1; simp [Nat.mod_eq_of_lt hn]; omega
  have h1 := h 43 (by omega)
  have h2 := h 46 (by omega)
  have h3 := h 126 (by omega)
  have h4 := h 45 (by omega)
  have h5 := h 58 (by omega)
  simp only [List.contains_cons, List.contains_nil, Bool.or_false, upCh]
  rw [show (43 : UInt8) = (43 : Nat).toUInt8 from rfl, show (46 : UInt8) = (46 : Nat).toUInt8 from rfl, show (126 : UInt8) = (126 : Nat).toUInt8 from rfl, show (45 : UInt8) = (45 : Nat).toUInt8 from rfl, show (58 : UInt8) = (58 : Nat).toUInt8 from rfl, h1, h2, h3, h4, h5]
  cases digitC c <;> cases letterC c <;> simp [Bool.or_assoc]

theorem verP_eq (s : List UInt8) : verP s = if s.length = 0 ∨ 48 < s.length then none else
    (let et := if 0 ≤ firstOf 58 s then (s.take (firstOf 58 s).toNat, s.drop ((firstOf 58 s).toNat + 1)) else ([48], s)
     match revP et.2 with
     | none => none
     | some (u, r) => if (decide (1 ≤ et.1.length) && decide (et.1.length ≤ 9) && et.1.all digitC) && ofV [43, 46, 126] r && startsD u && ofV [43, 46, 126, 45, 58] u then some (et.1, u, r) else none) := by
  rw [verP]
  split
  · rfl
  simp only [epochP, ofV_rev, ofV_up]
  by_cases hf : 0 ≤ firstOf 58 s
  · simp only [hf, if_true]
    by_cases he : 1 ≤ (s.take (firstOf 58 s).toNat).length ∧ (s.take (firstOf 58 s).toNat).length ≤ 9 ∧ (s.take (firstOf 58 s).toNat).all digitC = true
    · simp only [he, and_self, if_true, decide_true, Bool.and_self, Bool.true_and]
      cases revP (s.drop ((firstOf 58 s).toNat + 1)) with
      | none => rfl
      | some ur =>
        obtain ⟨u, r⟩ := ur
        simp only [Bool.and_right_comm]
    · rw [if_neg he]
      have hb : (decide (1 ≤ (s.take (firstOf 58 s).toNat).length) && decide ((s.take (firstOf 58 s).toNat).length ≤ 9) && (s.take (firstOf 58 s).toNat).all digitC) = false := by
        cases hx : (decide (1 ≤ (s.take (firstOf 58 s).toNat).length) && decide ((s.take (firstOf 58 s).toNat).length ≤ 9) && (s.take (firstOf 58 s).toNat).all digitC) with
        | false => rfl
        | true =>
          simp only [Bool.and_eq_true, decide_eq_true_eq] at hx
          exact absurd ⟨hx.1.1, hx.1.2, hx.2⟩ he
      simp only [hb, Bool.false_and, Bool.false_eq_true, if_false]
      cases revP (s.drop ((firstOf 58 s).toNat + 1)) with
      | none => rfl
      | some ur => rfl
  · simp only [hf, if_false]
    have hb : (decide (1 ≤ ([48] : List UInt8).length) && decide (([48] : List UInt8).length ≤ 9) && ([48] : List UInt8).all digitC) = true := by decide
    simp only [hb, Bool.true_and]
    cases revP s with
    | none => rfl
    | some ur =>
      obtain ⟨u, r⟩ := ur
      simp only [Bool.and_right_comm]

end Go.Av
end
