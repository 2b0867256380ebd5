/- Texts that the last one of this claim rests on: a layer over the guide's own conditions for code; contracts of the functions that the law reaches, one by one. No conditions beside those of the given rows. -/
import Derived.Test.YtnblgnafgdmcaaaGreatDoorWbg
section
set_option linter.unusedSimpArgs false
set_option linter.unusedVariables false
namespace Go.Av

/-- A row that a call has made, the whole of it, or none yet. -/
structure OutR (σ st : Store) (v : AV) (e : TypeId) (xs : List AV) : Prop where
  row : (v = .nils ∧ xs = []) ∨ ∃ id, v = .row e id 0 xs.length ∧ st[id]? = some (some (.cells e xs)) ∧ σ.length ≤ id
  ext : Ext σ st

theorem OutR.nil {σ st : Store} (h : Ext σ st) (e : TypeId) : OutR σ st .nils e [] := ⟨.inl ⟨rfl, rfl⟩, h⟩
theorem OutR.st {σ st : Store} {v : AV} {e : TypeId} {xs : List AV} (h : OutR σ st v e xs) : RowSt st v e xs := by
  rcases h.row with h | ⟨id, rfl, h1, _⟩
  · exact .inl h
  · exact .inr (.inr ⟨id, 0, _, xs, rfl, h1, by simp, by simp⟩)
theorem OutR.more {σ st : Store} {v : AV} {e : TypeId} {xs : List AV} (h : OutR σ st v e xs) (l : Store) : OutR σ (st ++ l) v e xs := by
  refine ⟨?_, h.ext.app l⟩
  rcases h.row with h1 | ⟨id, h1, h2, h3⟩
  · exact .inl h1
  · exact .inr ⟨id, h1, by rw [List.getElem?_append_left ((List.getElem?_eq_some_iff.1 h2).1)]; exact h2, h3⟩
theorem AppA.out {P : Program} {A : AState} {σ : Store} {t u e : TypeId} {x y : AV} {xs ys : List AV} {dst : Option Nat} {k : AState → Prop} (N : Nat) (ho : appB P t u e N = true) (h : OutR σ A.st x e xs) (hy : ReadL A.st y e ys) (hN : xs.length + ys.length ≤ N)
    (hk : ∀ v st', OutR σ st' v e (xs ++ ys) → k ((A.put dst v).withSt st')) : AppA P [t, u] [x, y] dst A k .mk := by
  have hkl : (killOf x A.st).length = A.st.length := by unfold killOf; split <;> simp
  refine AppA.row N ho h.st hy hN (fun he => hk _ _ (by rw [he, List.append_nil]; exact h)) fun he => hk _ _ ⟨.inr ⟨A.st.length, by simp, ?_, h.ext.le⟩, ?_⟩
  · rw [← hkl, List.getElem?_append_right (Nat.le_refl _), Nat.sub_self]
    rfl
  · refine Ext.app ?_ _
    rcases h.row with ⟨rfl, _⟩ | ⟨id, rfl, _, h3⟩
    · exact h.ext
    · exact h.ext.set h3 _
end Go.Av
end
