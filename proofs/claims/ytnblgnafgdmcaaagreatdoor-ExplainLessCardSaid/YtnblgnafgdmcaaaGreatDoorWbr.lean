/- Texts that the last one of this claim rests on: a layer over the guide's own conditions for code; contracts of the functions that the law reaches, one by one. No conditions beside those of the given rows. -/
import Derived.Test.YtnblgnafgdmcaaaGreatDoorWbi
import Derived.Test.YtnblgnafgdmcaaaGreatDoorWbj
import Derived.Test.YtnblgnafgdmcaaaGreatDoorWbk
section
set_option linter.unusedSimpArgs false
set_option linter.unusedVariables false
namespace Go.Proofs.Tryz
open Go Go.Av
set_option linter.unusedSimpArgs false

end Go.Proofs.Tryz
end
section
set_option linter.unusedSimpArgs false
set_option linter.unusedVariables false
namespace Go.Av
/-- Two lists that a call has built. -/
structure Two (σ st : Store) (v : AV) (e : TypeId) (xs : List AV) (w : AV) (d : TypeId) (ys : List AV) : Prop where
  a : Built σ st v e xs
  b : Built σ st w d ys
  ne : ∀ t, tokOf v = some t → tokOf w ≠ some t
theorem Built.lt {σ st : Store} {v : AV} {e : TypeId} {xs : List AV} (h : Built σ st v e xs) {t : Nat} (ht : tokOf v = some t) : t < st.length := h.bld.lt t ((foot_tok h.bld).2 ht)
theorem Built.beside {σ st st' : Store} {v v' w : AV} {e d : TypeId} {zs ys : List AV} (h : Built σ st w d ys) (ha : App st v e zs v' st') (hx : Ext σ st') (hn : ∀ t, tokOf w = some t → tokOf v ≠ some t) : Built σ st' w d ys :=
  ⟨h.bld.keep fun j hj => ha.old j (h.bld.lt j hj) (hn j ((foot_tok h.bld).1 hj)), hx, h.tok⟩
theorem Two.more {σ st : Store} {v w : AV} {e d : TypeId} {xs ys : List AV} (h : Two σ st v e xs w d ys) (l : Store) : Two σ (st ++ l) v e xs w d ys := ⟨h.a.more l, h.b.more l, h.ne⟩
theorem Two.nil {σ st : Store} (h : Ext σ st) (e d : TypeId) : Two σ st .nils e [] .nils d [] := ⟨.nil h e, .nil h d, fun t h => by cases h⟩
end Go.Av
namespace Go.Proofs.Tryz
open Go Go.Av
set_option maxRecDepth 10000
set_option linter.unusedSimpArgs false
set_option linter.unusedVariables false
variable {W0 : World}

end Go.Proofs.Tryz
end
section
set_option linter.unusedSimpArgs false
set_option linter.unusedVariables false
namespace Go.Proofs.Tryz
open Go Go.Av
set_option linter.unusedSimpArgs false
set_option linter.unusedVariables false

theorem selE_all {all : List Pkg} {S : Nat → Bool} : SelE all (causesA all all.length) S ↔ SelOk all S := by
  have key : ∀ {p : Pkg} {l : List Atom} {q : Pkg}, l.any (satP q) = true ↔ ∃ k x, l[k]? = some x ∧ satP q x = true := fun {p l q} => by
    rw [List.any_eq_true]
    constructor
    · rintro ⟨x, hx, h⟩
      obtain ⟨k, hk⟩ := List.mem_iff_getElem?.1 hx
      exact ⟨k, x, hk, h⟩
    · rintro ⟨k, x, hk, h⟩
      exact ⟨x, List.mem_of_getElem? hk, h⟩
  constructor
  · intro h
    have hag : ∀ (i k : Nat) (p q : Pkg), all[i]? = some p → all[k]? = some q → k ≠ i → S i = true → S k = true → againstP p q = false := fun i k p q hp hq hne hi hk => by
      unfold againstP
      rw [Bool.or_eq_false_iff, List.any_eq_false, List.any_eq_false]
      refine ⟨fun x hx => ?_, fun x hx => ?_⟩
      · obtain ⟨m, hm⟩ := List.mem_iff_getElem?.1 hx
        have hc := h.cause (i, 3, m) (causesA_mem hp (by omega) (List.getElem?_eq_some_iff.1 hm).1) hi
        rw [hc.con rfl p x hp hm k q hq hk hne]
        simp
      · obtain ⟨m, hm⟩ := List.mem_iff_getElem?.1 hx
        have hc := h.cause (i, 4, m) (causesA_mem hp (by omega) (List.getElem?_eq_some_iff.1 hm).1) hi
        rw [hc.brk rfl p x hp hm k q hq hk hne]
        simp
    refine ⟨fun i p hp hS c hc => ?_, fun i p k q hp hq hki hi hk => ⟨h.name i k p q hp hq (by omega) hi hk, ?_⟩⟩
    · rcases List.mem_append.1 hc with hc | hc
      · obtain ⟨m, hm⟩ := List.mem_iff_getElem?.1 hc
        exact (h.cause (i, 1, m) (causesA_mem hp (by omega) (List.getElem?_eq_some_iff.1 hm).1) hS).pre rfl p c hp hm
      · obtain ⟨m, hm⟩ := List.mem_iff_getElem?.1 hc
        exact (h.cause (i, 2, m) (causesA_mem hp (by omega) (List.getElem?_eq_some_iff.1 hm).1) hS).dep rfl p c hp hm
    · unfold clashP
      rw [hag i k p q hp hq (by omega) hi hk, hag k i q p hq hp (by omega) hk hi]
      simp
  · intro h
    have hn : ∀ (a b : Nat) (p q : Pkg), all[a]? = some p → all[b]? = some q → a ≠ b → S a = true → S b = true → p.name ≠ q.name ∧ clashP p q = false := fun a b p q hp hq hab ha hb => by
      rcases Nat.lt_or_ge b a with hlt | hge
      · exact h.con a p b q hp hq hlt ha hb
      · have := h.con b q a p hq hp (by omega) hb ha
        exact ⟨fun e => this.1 e.symm, by rw [clash_symm]; exact this.2⟩
    have hag : ∀ (i k : Nat) (p q : Pkg), all[i]? = some p → all[k]? = some q → k ≠ i → S i = true → S k = true → againstP p q = false := fun i k p q hp hq hne hi hk => by
      obtain ⟨h1, h2⟩ := hn i k p q hp hq (fun e => hne e.symm) hi hk
      unfold clashP at h2
      simp only [bne_iff_ne.2 h1, Bool.true_and, Bool.or_eq_false_iff] at h2
      exact h2.1
    refine ⟨fun a b p q hp hq hab ha hb => (hn a b p q hp hq hab ha hb).1, fun c hc hs => ⟨fun _ p x hp hx => ?_, fun _ p x hp hx => ?_, fun _ p x hp hx m q hq hm hne => ?_, fun _ p x hp hx m q hq hm hne => ?_⟩⟩
    · exact h.dep c.1 p hp hs x (List.mem_append_left _ (List.mem_of_getElem? hx))
    · exact h.dep c.1 p hp hs x (List.mem_append_right _ (List.mem_of_getElem? hx))
    · have := hag c.1 m p q hp hq hne hs hm
      unfold againstP at this
      rw [Bool.or_eq_false_iff, List.any_eq_false] at this
      simpa using this.1 x (List.mem_of_getElem? hx)
    · have := hag c.1 m p q hp hq hne hs hm
      unfold againstP at this
      rw [Bool.or_eq_false_iff, List.any_eq_false, List.any_eq_false] at this
      simpa using this.2 x (List.mem_of_getElem? hx)

end Go.Proofs.Tryz
end
