/- Texts that the last one of this claim rests on: a layer over the guide's own conditions for code; contracts of the functions that the law reaches, one by one. No conditions beside those of the given rows. -/
import Derived.Test.YtljcjoglabbcoaaGreatDoorWbq
section
set_option linter.unusedSimpArgs false
set_option linter.unusedVariables false
namespace Go.Av

theorem sgn_anti (a b : Int) : sgn b a = - sgn a b := by
  unfold sgn
  split <;> split <;> (try split) <;> (try split) <;> omega
theorem signsL_eq (a b : List UInt8) : signsL a b = if rk a = 0 ∧ rk b = 0 then 0 else if rk a = rk b then signsL a.tail b.tail else sgn (rk a) (rk b) := by
  by_cases h1 : rk a = 0 ∧ rk b = 0
  · rw [if_pos h1, signsL_zero h1.1 h1.2]
  · rw [if_neg h1]
    by_cases h2 : rk a = rk b
    · rw [if_pos h2, signsL_step (fun e => h1 ⟨e, by rw [← h2]; exact e⟩) h2]
    · rw [if_neg h2, signsL_ne h2]
theorem signsL_anti : ∀ (n : Nat) (a b : List UInt8), a.length ≤ n → signsL b a = - signsL a b
  | 0, a, b, h => by
    have : a = [] := List.eq_nil_of_length_eq_zero (by omega)
    subst this
    rw [signsL_eq b, signsL_eq []]
    have h0 : rk [] = 0 := rfl
    rw [h0]
    by_cases hb : rk b = 0
    · simp [hb]
    · rw [if_neg (fun e => hb e.1), if_neg hb, if_neg (fun e => hb e.2), if_neg (fun e => hb e.symm), sgn_anti]
  | n + 1, a, b, h => by
    rw [signsL_eq b, signsL_eq a]
    by_cases h1 : rk a = 0 ∧ rk b = 0
    · rw [if_pos h1, if_pos ⟨h1.2, h1.1⟩]; rfl
    · rw [if_neg h1, if_neg (fun e => h1 ⟨e.2, e.1⟩)]
      by_cases h2 : rk a = rk b
      · have ha : rk a ≠ 0 := fun e => h1 ⟨e, by rw [← h2]; exact e⟩
        obtain ⟨c, r, rfl, _⟩ := rk_ne ha
        rw [if_pos h2, if_pos h2.symm]
        exact signsL_anti n r b.tail (by simpa using h)
      · rw [if_neg h2, if_neg (fun e => h2 e.symm), sgn_anti]
theorem lexC_anti : ∀ (a b : List UInt8), lexC b a = - lexC a b
  | [], b => by cases b <;> rfl
  | x :: a, [] => rfl
  | x :: a, y :: b => by
    unfold lexC
    by_cases h : x = y
    · rw [if_pos h, if_pos h.symm]; exact lexC_anti a b
    · rw [if_neg h, if_neg (fun e => h e.symm), sgn_anti]
theorem partV_ne {a b : List UInt8} (h : ¬ (a = [] ∧ b = [])) : partV a b = if signsL a b ≠ 0 then signsL a b
    else if runS (numS a) ≠ runS (numS b) then sgn (runS (numS a)) (runS (numS b))
    else if lexC ((numS a).take (runS (numS a))) ((numS b).take (runS (numS b))) ≠ 0 then lexC ((numS a).take (runS (numS a))) ((numS b).take (runS (numS b)))
    else partV ((numS a).drop (runS (numS a))) ((numS b).drop (runS (numS b))) := by
  rw [partV, dif_neg h]
theorem partV_anti : ∀ (n : Nat) (a b : List UInt8), a.length + b.length ≤ n → partV b a = - partV a b
  | 0, a, b, h => by
    have h1 : a = [] := List.eq_nil_of_length_eq_zero (by omega)
    have h2 : b = [] := List.eq_nil_of_length_eq_zero (by omega)
    subst h1 h2
    rw [partV, dif_pos ⟨rfl, rfl⟩]; rfl
  | n + 1, a, b, h => by
    by_cases h0 : a = [] ∧ b = []
    · rw [partV, dif_pos ⟨h0.2, h0.1⟩, partV, dif_pos h0]; rfl
    · have hlt := partV_lt h0
      have ih := partV_anti n ((numS a).drop (runS (numS a))) ((numS b).drop (runS (numS b))) (by omega)
      rw [partV_ne (a := b) (b := a) (fun e => h0 ⟨e.2, e.1⟩), partV_ne h0, signsL_anti _ a b (Nat.le_refl _)]
      by_cases h1 : signsL a b = 0
      · rw [if_neg (show ¬ (- signsL a b ≠ 0) by omega), if_neg (show ¬ (signsL a b ≠ 0) by omega)]
        by_cases h2 : runS (numS a) = runS (numS b)
        · rw [if_neg (show ¬ (runS (numS b) ≠ runS (numS a)) by omega), if_neg (show ¬ (runS (numS a) ≠ runS (numS b)) by omega), lexC_anti ((numS a).take (runS (numS a)))]
          by_cases h3 : lexC ((numS a).take (runS (numS a))) ((numS b).take (runS (numS b))) = 0
          · rw [if_neg (show ¬ (- lexC ((numS a).take (runS (numS a))) ((numS b).take (runS (numS b))) ≠ 0) by omega), if_neg (show ¬ (lexC ((numS a).take (runS (numS a))) ((numS b).take (runS (numS b))) ≠ 0) by omega)]; exact ih
          · rw [if_pos (show - lexC ((numS a).take (runS (numS a))) ((numS b).take (runS (numS b))) ≠ 0 by omega), if_pos h3]
        · rw [if_pos (show runS (numS b) ≠ runS (numS a) by omega), if_pos h2, sgn_anti]
      · rw [if_pos (show - signsL a b ≠ 0 by omega), if_pos h1]
theorem partV_symm (a b : List UInt8) : partV b a = - partV a b := partV_anti _ a b (Nat.le_refl _)
theorem cmpVer_anti (a b : List UInt8) : cmpVer b a = - cmpVer a b := by
  unfold cmpVer
  rcases verP a with _ | ⟨e, u, r⟩
  · rcases verP b with _ | ⟨f, v, s⟩ <;> rfl
  · rcases verP b with _ | ⟨f, v, s⟩
    · rfl
    · show (if partV f e ≠ 0 then partV f e else if partV v u ≠ 0 then partV v u else partV s r) = - (if partV e f ≠ 0 then partV e f else if partV u v ≠ 0 then partV u v else partV r s)
      rw [partV_symm e f, partV_symm u v, partV_symm r s]
      by_cases h1 : partV e f = 0
      · by_cases h2 : partV u v = 0
        · simp [h1, h2]
        · rw [if_neg (show ¬ (- partV e f ≠ 0) by omega), if_neg (show ¬ (partV e f ≠ 0) by omega), if_pos (show - partV u v ≠ 0 by omega), if_pos h2]
      · rw [if_pos (show - partV e f ≠ 0 by omega), if_pos h1]
theorem sameVer_symm (a b : List UInt8) : sameVer b a = sameVer a b := by
  unfold sameVer
  rw [cmpVer_anti a b, Bool.and_comm (isVer b)]
  congr 1
  rw [Bool.eq_iff_iff, beq_iff_eq, beq_iff_eq]
  omega
theorem sameNV_symm (p q : Pkg) : sameNV p q = sameNV q p := by
  unfold sameNV
  rw [sameVer_symm]
  congr 1
  rw [Bool.eq_iff_iff, beq_iff_eq, beq_iff_eq]
  exact ⟨fun h => h.symm, fun h => h.symm⟩

theorem dupL_iff : ∀ (l bef : List Pkg), dupL bef l = false ↔ (∀ p ∈ l, ∀ q ∈ bef, sameNV p q = false) ∧ l.Pairwise fun x y => sameNV y x = false
  | [], bef => by simp [dupL]
  | p :: r, bef => by
    rw [dupL, Bool.or_eq_false_iff, dupL_iff r, List.pairwise_cons, List.any_eq_false]
    constructor
    · rintro ⟨h1, h2, h3⟩
      refine ⟨fun x hx q hq => ?_, fun x hx => h2 x hx p (by simp), h3⟩
      rcases List.mem_cons.1 hx with rfl | hx
      · simpa using h1 q hq
      · exact h2 x hx q (by simp [hq])
    · rintro ⟨h1, h2, h3⟩
      refine ⟨fun q hq => by simpa using h1 p (by simp) q hq, fun x hx q hq => ?_, h3⟩
      rcases List.mem_append.1 hq with hq | hq
      · exact h1 x (by simp [hx]) q hq
      · rw [List.mem_singleton.1 hq]; exact h2 x hx
theorem dupL_rev (l : List Pkg) : dupL [] l.reverse = dupL [] l := by
  have : l.Pairwise (fun a b => sameNV a b = false) ↔ l.Pairwise (fun x y => sameNV y x = false) := by
    constructor <;> intro h <;> refine h.imp fun {a b} h => by rw [sameNV_symm]; exact h
  have key : dupL [] l.reverse = false ↔ dupL [] l = false := by
    rw [dupL_iff, dupL_iff, List.pairwise_reverse]
    exact ⟨fun h => ⟨by simp, this.1 h.2⟩, fun h => ⟨by simp, this.2 h.2⟩⟩
  cases h : dupL [] l with
  | false => exact key.2 h
  | true =>
    cases h' : dupL [] l.reverse with
    | true => rfl
    | false => rw [key.1 h'] at h; cases h
theorem namesL_mem : ∀ (l : List Pkg) (acc : List (List UInt8)) (x : List UInt8), x ∈ namesL l acc ↔ x ∈ acc ∨ ∃ p ∈ l, p.name = x
  | [], acc, x => by simp [namesL]
  | p :: r, acc, x => by
    rw [namesL, namesL_mem r]
    by_cases h : acc.any (fun x => p.name == x) = true
    · rw [if_pos h]
      obtain ⟨y, hy, e⟩ := List.any_eq_true.1 h
      have e := beq_iff_eq.1 e
      constructor
      · rintro (h | ⟨q, hq, e⟩)
        · exact .inl h
        · exact .inr ⟨q, by simp [hq], e⟩
      · rintro (h | ⟨q, hq, e'⟩)
        · exact .inl h
        · rcases List.mem_cons.1 hq with rfl | hq
          · exact .inl (by rw [← e', e]; exact hy)
          · exact .inr ⟨q, hq, e'⟩
    · rw [if_neg h, List.mem_append, List.mem_singleton]
      constructor
      · rintro ((h | rfl) | ⟨q, hq, e⟩)
        · exact .inl h
        · exact .inr ⟨p, by simp, rfl⟩
        · exact .inr ⟨q, by simp [hq], e⟩
      · rintro (h | ⟨q, hq, e'⟩)
        · exact .inl (.inl h)
        · rcases List.mem_cons.1 hq with rfl | hq
          · exact .inl (.inr e'.symm)
          · exact .inr ⟨q, hq, e'⟩
theorem namesL_nodup : ∀ (l : List Pkg) (acc : List (List UInt8)), acc.Nodup → (namesL l acc).Nodup
  | [], acc, h => h
  | p :: r, acc, h => by
    rw [namesL]
    refine namesL_nodup r _ ?_
    by_cases hm : acc.any (fun x => p.name == x) = true
    · rw [if_pos hm]; exact h
    · rw [if_neg hm]
      refine List.nodup_append.2 ⟨h, by simp, fun a ha b hb e => ?_⟩
      rw [List.mem_singleton] at hb
      subst hb
      exact hm (List.any_eq_true.2 ⟨a, ha, by simp [e]⟩)
theorem nodup_len {α : Type} [DecidableEq α] : ∀ (l m : List α), l.Nodup → (∀ x ∈ l, x ∈ m) → l.length ≤ m.length
  | [], _, _, _ => Nat.zero_le _
  | x :: l, m, hn, h => by
    rw [List.nodup_cons] at hn
    have hx := h x (by simp)
    have := nodup_len l (m.erase x) hn.2 fun y hy => by
      have hne : y ≠ x := fun e => hn.1 (by rw [← e]; exact hy)
      exact (List.mem_erase_of_ne hne).2 (h y (by simp [hy]))
    rw [List.length_erase_of_mem hx] at this
    have := List.length_pos_of_mem hx
    simp; omega
theorem namesL_rev (l : List Pkg) : (namesL l.reverse []).length = (namesL l []).length := by
  have h : ∀ x, x ∈ namesL l.reverse [] ↔ x ∈ namesL l [] := fun x => by rw [namesL_mem, namesL_mem]; simp
  exact Nat.le_antisymm (nodup_len _ _ (namesL_nodup _ _ (by simp)) fun x hx => (h x).1 hx) (nodup_len _ _ (namesL_nodup _ _ (by simp)) fun x hx => (h x).2 hx)
theorem orL_iff : ∀ (l : List Int), orL l = 0 ↔ ∀ x ∈ l, x = 0
  | [] => by simp [orL]
  | y :: r => by
    constructor
    · exact orL_zero
    · intro h
      rw [orL, if_neg (by simp [h y (by simp)])]
      exact (orL_iff r).2 fun x hx => h x (by simp [hx])
theorem mayAll_rev (l : List Pkg) : mayAll l.reverse = 0 ↔ mayAll l = 0 := by
  have ho : orL (l.reverse.map mayPkg) = 0 ↔ orL (l.map mayPkg) = 0 := by rw [orL_iff, orL_iff]; simp
  unfold mayAll
  rw [List.length_reverse, dupL_rev, namesL_rev]
  by_cases h1 : 24 < l.length
  · rw [if_pos h1, if_pos h1]
  · rw [if_neg h1, if_neg h1]
    by_cases h2 : orL (l.map mayPkg) = 0
    · rw [if_neg (show ¬ (orL (l.reverse.map mayPkg) ≠ 0) from fun e => e (ho.2 h2)), if_neg (show ¬ (orL (l.map mayPkg) ≠ 0) from fun e => e h2)]
    · have h3 : orL (l.reverse.map mayPkg) ≠ 0 := fun e => h2 (ho.1 e)
      rw [if_pos h2, if_pos h3]
      exact ⟨fun e => absurd e h3, fun e => absurd e h2⟩
end Go.Av
end
section
set_option linter.unusedSimpArgs false
set_option linter.unusedVariables false
namespace Go.Av

structure HL (l : List Pkg) : Prop where
  may : ∀ p ∈ l, mayPkg p = 0
  pair : l.Pairwise fun p q => p.name ≠ q.name ∧ clashP p q = false
  met : ∀ p ∈ l, ∀ c ∈ p.pre ++ p.dep, ∃ q ∈ l, c.any (satP q) = true

theorem metP_iff {c : Clause} {l : List Pkg} : metP c l = true ↔ ∃ q ∈ l, c.any (satP q) = true := by
  unfold metP
  simp only [List.any_eq_true]
  constructor
  · rintro ⟨a, ha, q, hq, h⟩
    exact ⟨q, hq, a, ha, h⟩
  · rintro ⟨q, hq, a, ha, h⟩
    exact ⟨a, ha, q, hq, h⟩
theorem sickP_iff {l bef : List Pkg} {p : Pkg} : sickP l bef p = false ↔ mayPkg p = 0 ∧ (∀ q ∈ bef, q.name ≠ p.name ∧ clashP p q = false) ∧ ∀ c ∈ p.pre ++ p.dep, ∃ q ∈ l, c.any (satP q) = true := by
  unfold sickP
  simp only [Bool.or_eq_false_iff, bne_eq_false_iff_eq, List.any_eq_false, Bool.not_eq_true', Bool.not_eq_true, Bool.not_eq_false', List.mem_append, ← metP_iff]
  constructor
  · rintro ⟨⟨h1, h2⟩, h3, h4⟩
    refine ⟨h1, fun q hq => ?_, fun c hc => ?_⟩
    · have := h2 q hq
      simp at this
      exact this
    · rcases hc with hc | hc
      · simpa using h3 c hc
      · simpa using h4 c hc
  · rintro ⟨h1, h2, h3⟩
    refine ⟨⟨h1, fun q hq => ?_⟩, fun c hc => by simpa using h3 c (.inl hc), fun c hc => by simpa using h3 c (.inr hc)⟩
    have := h2 q hq
    simp [this]
theorem sickL_iff {l : List Pkg} : ∀ (r bef : List Pkg), sickL l bef r = false ↔ (∀ p ∈ r, mayPkg p = 0 ∧ ∀ c ∈ p.pre ++ p.dep, ∃ q ∈ l, c.any (satP q) = true) ∧ (∀ p ∈ r, ∀ q ∈ bef, q.name ≠ p.name ∧ clashP p q = false) ∧ r.Pairwise fun q p => q.name ≠ p.name ∧ clashP p q = false
  | [], bef => by simp [sickL]
  | p :: r, bef => by
    rw [sickL, Bool.or_eq_false_iff, sickP_iff, sickL_iff r, List.pairwise_cons]
    constructor
    · rintro ⟨⟨h1, h2, h3⟩, h4, h5, h6⟩
      refine ⟨fun x hx => ?_, fun x hx q hq => ?_, fun x hx => h5 x hx p (by simp), h6⟩
      · rcases List.mem_cons.1 hx with rfl | hx
        · exact ⟨h1, h3⟩
        · exact h4 x hx
      · rcases List.mem_cons.1 hx with rfl | hx
        · exact h2 q hq
        · exact h5 x hx q (by simp [hq])
    · rintro ⟨h1, h2, h3, h4⟩
      refine ⟨⟨(h1 p (by simp)).1, fun q hq => h2 p (by simp) q hq, (h1 p (by simp)).2⟩, fun x hx => h1 x (by simp [hx]), fun x hx q hq => ?_, h4⟩
      rcases List.mem_append.1 hq with hq | hq
      · exact h2 x (by simp [hx]) q hq
      · rw [List.mem_singleton.1 hq]; exact h3 x hx
theorem healthy_iff {l : List Pkg} : healthyP l = true ↔ HL l := by
  unfold healthyP
  rw [Bool.not_eq_true', sickL_iff]
  constructor
  · rintro ⟨h1, _, h3⟩
    exact ⟨fun p hp => (h1 p hp).1, h3.imp fun {a b} h => ⟨h.1, by rw [clash_symm]; exact h.2⟩, fun p hp => (h1 p hp).2⟩
  · intro h
    exact ⟨fun p hp => ⟨h.may p hp, h.met p hp⟩, by simp, h.pair.imp fun {a b} h => ⟨h.1, by rw [clash_symm]; exact h.2⟩⟩
theorem HL.perm {l m : List Pkg} (h : HL l) (hp : l.Perm m) : HL m :=
  ⟨fun p hm => h.may p (hp.symm.subset hm), hp.pairwise h.pair fun {a b} h => ⟨fun e => h.1 e.symm, by rw [clash_symm]; exact h.2⟩, fun p hm c hc => by
    obtain ⟨q, h1, h2⟩ := h.met p (hp.symm.subset hm) c hc
    exact ⟨q, hp.subset h1, h2⟩⟩

/-- Those that a choice picks, from the place i on. -/
def pick (S : Nat → Bool) : Nat → List Pkg → List Pkg
  | _, [] => []
  | i, p :: r => if S i = true then p :: pick S (i + 1) r else pick S (i + 1) r
theorem pick_mem {S : Nat → Bool} {p : Pkg} : ∀ (l : List Pkg) (i : Nat), p ∈ pick S i l ↔ ∃ k, l[k]? = some p ∧ S (i + k) = true
  | [], i => by simp [pick]
  | q :: r, i => by
    have ih := pick_mem (S := S) (p := p) r (i + 1)
    have step : (∃ k, (q :: r)[k]? = some p ∧ S (i + k) = true) ↔ (q = p ∧ S i = true) ∨ ∃ k, r[k]? = some p ∧ S (i + 1 + k) = true := by
      constructor
      · rintro ⟨k, h1, h2⟩
        cases k with
        | zero => exact .inl ⟨by simpa using h1, h2⟩
        | succ k => exact .inr ⟨k, by simpa using h1, by rw [show i + 1 + k = i + (k + 1) by omega]; exact h2⟩
      · rintro (⟨h1, h2⟩ | ⟨k, h1, h2⟩)
        · exact ⟨0, by simp [h1], h2⟩
        · exact ⟨k + 1, by simpa using h1, by rw [show i + (k + 1) = i + 1 + k by omega]; exact h2⟩
    rw [step, pick]
    split
    · rename_i hs
      rw [List.mem_cons, ih]
      constructor
      · rintro (h | h)
        · exact .inl ⟨h.symm, hs⟩
        · exact .inr h
      · rintro (h | h)
        · exact .inl h.1.symm
        · exact .inr h
    · rename_i hs
      rw [ih]
      constructor
      · exact .inr
      · rintro (h | h)
        · exact absurd h.2 hs
        · exact h
theorem pick_sub (S : Nat → Bool) : ∀ (l : List Pkg) (i : Nat), (pick S i l).Sublist l
  | [], i => .slnil
  | q :: r, i => by
    rw [pick]
    split
    · exact (pick_sub S r (i + 1)).cons_cons q
    · exact (pick_sub S r (i + 1)).cons q
theorem pick_pair {R : Pkg → Pkg → Prop} {S : Nat → Bool} : ∀ (l : List Pkg) (i : Nat), (pick S i l).Pairwise R ↔ ∀ (k m : Nat) (p q : Pkg), k < m → l[k]? = some p → l[m]? = some q → S (i + k) = true → S (i + m) = true → R p q
  | [], i => by simp [pick]
  | x :: r, i => by
    have ih := pick_pair (R := R) (S := S) r (i + 1)
    have shift : ∀ k, i + 1 + k = i + (k + 1) := fun k => by omega
    rw [pick]
    split
    · rename_i hs
      rw [List.pairwise_cons, ih]
      constructor
      · rintro ⟨h1, h2⟩ k m p q hkm hk hm sk sm
        cases m with
        | zero => omega
        | succ m =>
          cases k with
          | zero =>
            simp at hk
            subst hk
            exact h1 q ((pick_mem r (i + 1)).2 ⟨m, by simpa using hm, by rw [shift]; exact sm⟩)
          | succ k => exact h2 k m p q (by omega) (by simpa using hk) (by simpa using hm) (by rw [shift]; exact sk) (by rw [shift]; exact sm)
      · intro h
        refine ⟨fun q hq => ?_, fun k m p q hkm hk hm sk sm => h (k + 1) (m + 1) p q (by omega) (by simpa using hk) (by simpa using hm) (by rw [← shift]; exact sk) (by rw [← shift]; exact sm)⟩
        obtain ⟨m, h1, h2⟩ := (pick_mem r (i + 1)).1 hq
        exact h 0 (m + 1) x q (by omega) rfl (by simpa using h1) hs (by rw [← shift]; exact h2)
    · rename_i hs
      rw [ih]
      constructor
      · intro h k m p q hkm hk hm sk sm
        cases m with
        | zero => omega
        | succ m =>
          cases k with
          | zero => exact absurd sk hs
          | succ k => exact h k m p q (by omega) (by simpa using hk) (by simpa using hm) (by rw [shift]; exact sk) (by rw [shift]; exact sm)
      · intro h k m p q hkm hk hm sk sm
        exact h (k + 1) (m + 1) p q (by omega) (by simpa using hk) (by simpa using hm) (by rw [← shift]; exact sk) (by rw [← shift]; exact sm)
theorem sub_pick : ∀ {l L : List Pkg}, L.Sublist l → ∀ i, ∃ S, L = pick S i l
  | _, _, .slnil, i => ⟨fun _ => false, rfl⟩
  | _, _, .cons (l₂ := l) a h, i => by
    obtain ⟨S, hS⟩ := sub_pick h (i + 1)
    refine ⟨fun k => if k = i then false else S k, ?_⟩
    rw [pick, if_neg (by simp), hS]
    exact pick_congr l (i + 1) fun k hk => by simp [show k ≠ i by omega]
  | _, _, .cons_cons (l₂ := l) a h, i => by
    obtain ⟨S, hS⟩ := sub_pick h (i + 1)
    refine ⟨fun k => if k = i then true else S k, ?_⟩
    rw [pick, if_pos (by simp), hS]
    congr 1
    exact pick_congr l (i + 1) fun k hk => by simp [show k ≠ i by omega]
where
  pick_congr {S T : Nat → Bool} : ∀ (l : List Pkg) (i : Nat), (∀ k, i ≤ k → S k = T k) → pick S i l = pick T i l
    | [], i, _ => rfl
    | p :: r, i, h => by
      rw [pick, pick, h i (Nat.le_refl _), pick_congr r (i + 1) fun k hk => h k (by omega)]

theorem pick_HL {all : List Pkg} {S : Nat → Bool} (hm : ∀ p ∈ all, mayPkg p = 0) : HL (pick S 0 all) ↔ SelOk all S := by
  constructor
  · intro h
    refine ⟨fun i p hp hS c hc => ?_, fun i p k q hp hq hki hi hk => ?_⟩
    · obtain ⟨q, h1, h2⟩ := h.met p ((pick_mem all 0).2 ⟨i, hp, by simpa using hS⟩) c hc
      obtain ⟨k, h3, h4⟩ := (pick_mem all 0).1 h1
      exact ⟨k, q, h3, h2, by simpa using h4⟩
    · have := (pick_pair all 0).1 h.pair k i q p hki hq hp (by simpa using hk) (by simpa using hi)
      exact ⟨fun e => this.1 e.symm, by rw [clash_symm]; exact this.2⟩
  · intro h
    refine ⟨fun p hp => ?_, (pick_pair all 0).2 fun k m p q hkm hk hm' sk sm => ?_, fun p hp c hc => ?_⟩
    · exact hm p ((pick_sub S all 0).subset hp)
    · have := h.con m q k p hm' hk hkm (by simpa using sm) (by simpa using sk)
      exact ⟨fun e => this.1 e.symm, by rw [clash_symm]; exact this.2⟩
    · obtain ⟨i, h1, h2⟩ := (pick_mem all 0).1 hp
      obtain ⟨k, q, h3, h4, h5⟩ := h.dep i p h1 (by simpa using h2) c hc
      exact ⟨q, (pick_mem all 0).2 ⟨k, h3, by simpa using h5⟩, h4⟩

theorem mayAll_parts {all : List Pkg} (h : mayAll all = 0) : (∀ p ∈ all, mayPkg p = 0) ∧ dupL [] all = false := by
  refine ⟨fun p hp => mayAll_pkg h hp, ?_⟩
  unfold mayAll at h
  split at h
  · omega
  · split at h
    · rename_i h1; exact absurd h h1
    · split at h
      · omega
      · rename_i h2; simpa using h2
theorem mayPkg_ver {p : Pkg} (h : mayPkg p = 0) : isVer p.ver = true := by
  unfold mayPkg at h
  split at h
  · omega
  · rename_i h1
    simp at h1
    exact h1.2
theorem same_self {p : Pkg} (h : mayPkg p = 0) : sameNV p p = true := by
  have h1 := mayPkg_ver h
  have h2 := cmpVer_anti p.ver p.ver
  have h3 : cmpVer p.ver p.ver = 0 := by omega
  simp [sameNV, sameVer, h1, h3]
/-- Each package stands at one place alone. -/
theorem place_one {all : List Pkg} (h : mayAll all = 0) {i k : Nat} {p : Pkg} (hi : all[i]? = some p) (hk : all[k]? = some p) : i = k := by
  obtain ⟨hm, hd⟩ := mayAll_parts h
  have hp := ((dupL_iff all []).1 hd).2
  rw [List.pairwise_iff_getElem] at hp
  have hs := same_self (hm p (List.mem_of_getElem? hi))
  obtain ⟨li, ei⟩ := List.getElem?_eq_some_iff.1 hi
  obtain ⟨lk, ek⟩ := List.getElem?_eq_some_iff.1 hk
  rcases Nat.lt_trichotomy i k with hlt | h | hlt
  · have := hp i k li lk hlt
    rw [ei, ek, hs] at this; cases this
  · exact h
  · have := hp k i lk li hlt
    rw [ei, ek, hs] at this; cases this

/-- With both: a healthy list out of packages in whatever order. -/
theorem can2_list {all l : List Pkg} (h : mayAll all = 0) (hl : l.Perm all) {i j : Nat} {p q : Pkg} (hi : all[i]? = some p) (hj : all[j]? = some q) : Can2 all i j ↔ ∃ L : List Pkg, L.Sublist l ∧ HL L ∧ p ∈ L ∧ q ∈ L := by
  have hm := (mayAll_parts h).1
  constructor
  · rintro ⟨S, h1, h2, h3⟩
    obtain ⟨L, hp, hs⟩ := List.exists_perm_sublist (pick_sub S all 0) hl.symm
    exact ⟨L, hs, ((pick_HL hm).2 h1).perm hp.symm, hp.symm.subset ((pick_mem all 0).2 ⟨i, hi, by simpa using h2⟩), hp.symm.subset ((pick_mem all 0).2 ⟨j, hj, by simpa using h3⟩)⟩
  · rintro ⟨L, hs, hL, h2, h3⟩
    obtain ⟨M, hp, hs'⟩ := List.exists_perm_sublist hs hl
    obtain ⟨S, rfl⟩ := sub_pick hs' 0
    refine ⟨S, (pick_HL hm).1 (hL.perm hp.symm), ?_, ?_⟩
    · obtain ⟨k, h4, h5⟩ := (pick_mem all 0).1 (hp.symm.subset h2)
      rw [place_one h hi h4]; simpa using h5
    · obtain ⟨k, h4, h5⟩ := (pick_mem all 0).1 (hp.symm.subset h3)
      rw [place_one h hj h4]; simpa using h5
end Go.Av
end
