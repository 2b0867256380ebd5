/- Texts that the last one of this claim rests on: a layer over the guide's own conditions for code; contracts of the functions that the law reaches, one by one. No conditions beside those of the given rows. -/
import Derived.Test.YtljcjoglabbcoaaGreatDoorWbq
section
set_option linter.unusedSimpArgs false
set_option linter.unusedVariables false
namespace Go.Av

theorem sgn_anti (a b : Int) : sgn b a = - sgn a b := by
  unfold sgn
  split <;> split <;> (try split) <;> (try split) <;> omega
theorem signsL_eq (a b : List UInt8) : signsL a b = if rk a = 0 ∧ rk b = 0 then 0 else if rk a = rk b then signsL a.tail b.tail else sgn (rk a) (rk b) := by
  by_cases h1 : rk a = 0 ∧ rk b = 0
  · rw [if_pos h1, signsL_zero h1.1 h1.2]
  · rw [if_neg h1]
    by_cases h2 : rk a = rk b
    · rw [if_pos h2, signsL_step (fun e => h1 ⟨e, by rw [← h2]; exact e⟩) h2]
    · rw [if_neg h2, signsL_ne h2]
theorem signsL_anti : ∀ (n : Nat) (a b : List UInt8), a.length ≤ n → signsL b a = - signsL a b
  | 0, a, b, h => by
    have : a = [] := List.eq_nil_of_length_eq_zero (by omega)
    subst this
    rw [signsL_eq b, signsL_eq []]
    have h0 : rk [] = 0 := rfl
    rw [h0]
    by_cases hb : rk b = 0
    · simp [hb]
    · rw [if_neg (fun e => hb e.1), if_neg hb, if_neg (fun e => hb e.2), if_neg (fun e => hb e.symm), sgn_anti]
  | n + 1, a, b, h => by
    rw [signsL_eq b, signsL_eq a]
    by_cases h1 : rk a = 0 ∧ rk b = 0
    · rw [if_pos h1, if_pos ⟨h1.2, h1.1⟩]; rfl
    · rw [if_neg h1, if_neg (fun e => h1 ⟨e.2, e.1⟩)]
      by_cases h2 : rk a = rk b
      · have ha : rk a ≠ 0 := fun e => h1 ⟨e, by rw [← h2]; exact e⟩
        obtain ⟨c, r, rfl, _⟩ := rk_ne ha
        rw [if_pos h2, if_pos h2.symm]
        exact signsL_anti n r b.tail (by simpa using h)
      · rw [if_neg h2, if_neg (fun e => h2 e.symm), sgn_anti]
theorem lexC_anti : ∀ (a b : List UInt8), lexC b a = - lexC a b
  | [], b => by cases b <;> rfl
  | x :: a, [] => rfl
  | x :: a, y :: b => by
    unfold lexC
    by_cases h : x = y
    · rw [if_pos h, if_pos h.symm]; exact lexC_anti a b
    · rw [if_neg h, if_neg (fun e => h e.symm), sgn_anti]
theorem partV_ne {a b : List UInt8} (h : ¬ (a = [] ∧ b = [])) : partV a b = if signsL a b ≠ 0 then signsL a b
    else if runS (numS a) ≠ runS (numS b) then sgn (runS (numS a)) (runS (numS b))
    else if lexC ((numS a).take (runS (numS a))) ((numS b).take (runS (numS b))) ≠ 0 then lexC ((numS a).take (runS (numS a))) ((numS b).take (runS (numS b)))
    else partV ((numS a).drop (runS (numS a))) ((numS b).drop (runS (numS b))) := by
  rw [partV, dif_neg h]
theorem partV_anti : ∀ (n : Nat) (a b : List UInt8), a.length + b.length ≤ n → partV b a = - partV a b
  | 0, a, b, h => by
    have h1 : a = [] := List.eq_nil_of_length_eq_zero (by omega)
    have h2 : b = [] := List.eq_nil_of_length_eq_zero (by omega)
    subst h1 h2
    rw [partV, dif_pos ⟨rfl, rfl⟩]; rfl
  | n + 1, a, b, h => by
    by_cases h0 : a = [] ∧ b = []
    · rw [partV, dif_pos ⟨h0.2, h0.1⟩, partV, dif_pos h0]; rfl
    · have hlt := partV_lt h0
      have ih := partV_anti n ((numS a).drop (runS (numS a))) ((numS b).drop (runS (numS b))) (by omega)
      rw [partV_ne (a := b) (b := a) (fun e => h0 ⟨e.2, e.1⟩), partV_ne h0, signsL_anti _ a b (Nat.le_refl _)]
      by_cases h1 : signsL a b = 0
      · rw [if_neg (show ¬ (- signsL a b ≠ 0) by omega), if_neg (show ¬ (signsL a b ≠ 0) by omega)]
        by_cases h2 : runS (numS a) = runS (numS b)
        · rw [if_neg (show ¬ (runS (numS b) ≠ runS (numS a)) by omega), if_neg (show ¬ (runS (numS a) ≠ runS (numS b)) by omega), lexC_anti ((numS a).take (runS (numS a)))]
          by_cases h3 : lexC ((numS a).take (runS (numS a))) ((numS b).take (runS (numS b))) = 0
          · rw [if_neg (show ¬ (- lexC ((numS a).take (runS (numS a))) ((numS b).take (runS (numS b))) ≠ 0) by omega), if_neg (show ¬ (lexC ((numS a).take (runS (numS a))) ((numS b).take (runS (numS b))) ≠ 0) by omega)]; exact ih
          · rw [if_pos (show - lexC ((numS a).take (runS (numS a))) ((numS b).take (runS (numS b))) ≠ 0 by omega), if_pos h3]
        · rw [if_pos (show runS (numS b) ≠ runS (numS a) by omega), if_pos h2, sgn_anti]
      · rw [if_pos (show - signsL a b ≠ 0 by omega), if_pos h1]
theorem partV_symm (a b : List UInt8) : partV b a = - partV a b := partV_anti _ a b (Nat.le_refl _)
theorem cmpVer_anti (a b : List UInt8) : cmpVer b a = - cmpVer a b := by
  unfold cmpVer
  rcases verP a with _ | ⟨e, u, r⟩
  · rcases verP b with _ | ⟨f, v, s⟩ <;> rfl
  · rcases verP b with _ | ⟨f, v, s⟩
    · rfl
    · show (if partV f e ≠ 0 then partV f e else if partV v u ≠ 0 then partV v u else partV s r) = - (if partV e f ≠ 0 then partV e f else if partV u v ≠ 0 then partV u v else partV r s)
      rw [partV_symm e f, partV_symm u v, partV_symm r s]
      by_cases h1 : partV e f = 0
      · by_cases h2 : partV u v = 0
        · simp [h1, h2]
        · rw [if_neg (show ¬ (- partV e f ≠ 0) by omega), if_neg (show ¬ (partV e f ≠ 0) by omega), if_pos (show - partV u v ≠ 0 by omega), if_pos h2]
      · rw [if_pos (show - partV e f ≠ 0 by omega), if_pos h1]
theorem sameVer_symm (a b : List UInt8) : sameVer b a = sameVer a b := by
  unfold sameVer
  rw [cmpVer_anti a b, Bool.and_comm (isVer b)]
  congr 1
  rw [Bool.eq_iff_iff, beq_iff_eq, beq_iff_eq]
  omega
theorem sameNV_symm (p q : Pkg) : sameNV p q = sameNV q p := by
  unfold sameNV
  rw [sameVer_symm]
  congr 1
  rw [Bool.eq_iff_iff, beq_iff_eq, beq_iff_eq]
  exact ⟨fun h => h.symm, fun h => h.symm⟩

theorem dupL_iff : ∀ (l bef : List Pkg), dupL bef l = false ↔ (∀ p ∈ l, ∀ q ∈ bef, sameNV p q = false) ∧ l.Pairwise fun x y => sameNV y x = false
  | [], bef => by simp [dupL]
  | p :: r, bef => by
    rw [dupL, Bool.or_eq_false_iff, dupL_iff r, List.pairwise_cons, List.any_eq_false]
    constructor
    · rintro ⟨h1, h2, h3⟩
      refine ⟨fun x hx q hq => ?_, fun x hx => h2 x hx p (by simp), h3⟩
      rcases List.mem_cons.1 hx with rfl | hx
      · simpa using h1 q hq
      · exact h2 x hx q (by simp [hq])
    · rintro ⟨h1, h2, h3⟩
      refine ⟨fun q hq => by simpa using h1 p (by simp) q hq, fun x hx q hq => ?_, h3⟩
      rcases List.mem_append.1 hq with hq | hq
      · exact h1 x (by simp [hx]) q hq
      · rw [List.mem_singleton.1 hq]; exact h2 x hx
theorem dupL_rev (l : List Pkg) : dupL [] l.reverse = dupL [] l := by
  have : l.Pairwise (fun a b => sameNV a b = false) ↔ l.Pairwise (fun x y => sameNV y x = false) := by
    constructor <;> intro h <;> refine h.imp fun {a b} h => by rw [sameNV_symm]; exact h
  have key : dupL [] l.reverse = false ↔ dupL [] l = false := by
    rw [dupL_iff, dupL_iff, List.pairwise_reverse]
    exact ⟨fun h => ⟨by simp, this.1 h.2⟩, fun h => ⟨by simp, this.2 h.2⟩⟩
  cases h : dupL [] l with
  | false => exact key.2 h
  | true =>
    cases h' : dupL [] l.reverse with
    | true => rfl
    | false => rw [key.1 h'] at h; cases h
theorem namesL_mem : ∀ (l : List Pkg) (acc : List (List UInt8)) (x : List UInt8), x ∈ namesL l acc ↔ x ∈ acc ∨ ∃ p ∈ l, p.name = x
  | [], acc, x => by simp [namesL]
  | p :: r, acc, x => by
    rw [namesL, namesL_mem r]
    by_cases h : acc.any (fun x => p.name == x) = true
    · rw [if_pos h]
      obtain ⟨y, hy, e⟩ := List.any_eq_true.1 h
      have e := beq_iff_eq.1 e
      constructor
      · rintro (h | ⟨q, hq, e⟩)
        · exact .inl h
        · exact .inr ⟨q, by simp [hq], e⟩
      · rintro (h | ⟨q, hq, e'⟩)
        · exact .inl h
        · rcases List.mem_cons.1 hq with rfl | hq
          · exact .inl (by rw [← e', e]; exact hy)
          · exact .inr ⟨q, hq, e'⟩
    · rw [if_neg h, List.mem_append, List.mem_singleton]
      constructor
      · rintro ((h | rfl) | ⟨q, hq, e⟩)
        · exact .inl h
        · exact .inr ⟨p, by simp, rfl⟩
        · exact .inr ⟨q, by simp [hq], e⟩
      · rintro (h | ⟨q, hq, e'⟩)
        · exact .inl (.inl h)
        · rcases List.mem_cons.1 hq with rfl | hq
          · exact .inl (.inr e'.symm)
          · exact .inr ⟨q, hq, e'⟩
theorem namesL_nodup : ∀ (l : List Pkg) (acc : List (List UInt8)), acc.Nodup → (namesL l acc).Nodup
  | [], acc, h => h
  | p :: r, acc, h => by
    rw [namesL]
    refine namesL_nodup r _ ?_
    by_cases hm : acc.any (fun x => p.name == x) = true
    · rw [if_pos hm]; exact h
    · rw [if_neg hm]
      refine List.nodup_append.2 ⟨h, by simp, fun a ha b hb e => ?_⟩
      rw [List.mem_singleton] at hb
      subst hb
      exact hm (List.any_eq_true.2 ⟨a, ha, by simp [e]⟩)
theorem nodup_len {α : Type} [DecidableEq α] : ∀ (l m : List α), l.Nodup → (∀ x ∈ l, x ∈ m) → l.length ≤ m.length
  | [], _, _, _ => Nat.zero_le _
  | x :: l, m, hn, h => by
    rw [List.nodup_cons] at hn
    have hx := h x (by simp)
    have := nodup_len l (m.erase x) hn.2 fun y hy => by
      have hne : y ≠ x := fun e => hn.1 (by rw [← e]; exact hy)
      exact (List.mem_erase_of_ne hne).2 (h y (by simp [hy]))
    rw [List.length_erase_of_mem hx] at this
    have := List.length_pos_of_mem hx
    simp; omega
theorem namesL_rev (l : List Pkg) : (namesL l.reverse []).length = (namesL l []).length := by
  have h : ∀ x, x ∈ namesL l.reverse [] ↔ x ∈ namesL l [] := fun x => by rw [namesL_mem, namesL_mem]; simp
  exact Nat.le_antisymm (nodup_len _ _ (namesL_nodup _ _ (by simp)) fun x hx => (h x).1 hx) (nodup_len _ _ (namesL_nodup _ _ (by simp)) fun x hx => (h x).2 hx)
theorem orL_iff : ∀ (l : List Int), orL l = 0 ↔ ∀ x ∈ l, x = 0
  | [] => by simp [orL]
  | y :: r => by
    constructor
    · exact orL_zero
    · intro h
      rw [orL, if_neg (by simp [h y (by simp)])]
      exact (orL_iff r).2 fun x hx => h x (by simp [hx])
theorem mayAll_rev (l : List Pkg) : mayAll l.reverse = 0 ↔ mayAll l = 0 := by
  have ho : orL (l.reverse.map mayPkg) = 0 ↔ orL (l.map mayPkg) = 0 := by rw [orL_iff, orL_iff]; simp
  unfold mayAll
  rw [List.length_reverse, dupL_rev, namesL_rev]
  by_cases h1 : 24 < l.length
  · rw [if_pos h1, if_pos h1]
  · rw [if_neg h1, if_neg h1]
    by_cases h2 : orL (l.map mayPkg) = 0
    · rw [if_neg (show ¬ (orL (l.reverse.map mayPkg) ≠ 0) from fun e => e (ho.2 h2)), if_neg (show ¬ (orL (l.map mayPkg) ≠ 0) from fun e => e h2)]
    · have h3 : orL (l.reverse.map mayPkg) ≠ 0 := fun e => h2 (ho.1 e)
      rw [if_pos h2, if_pos h3]
      exact ⟨fun e => absurd e h3, fun e => absurd e h2⟩
end Go.Av
end
