/- Texts that the last one of this claim rests on: a layer over the guide's own conditions for code; contracts of the functions that the law reaches, one by one. No conditions beside those of the given rows. -/
import Derived.Test.YtnblgnafgdmcaaaGreatDoorWaw
section
set_option linter.unusedSimpArgs false
set_option linter.unusedVariables false
namespace Go.Av
section
variable {P : Program} {W0 : World} {A : AState}

def rowId : AV → Option Nat
  | .row _ id _ _ => some id
  | _ => none

/-- A row that a call has made since the store was σ, or none yet. -/
structure Rowed (σ st : Store) (v : AV) (e : TypeId) (xs : List AV) : Prop where
  row : RowSt st v e xs
  ext : Ext σ st
  low : ∀ id, rowId v = some id → σ.length ≤ id

theorem Rowed.nil {σ st : Store} (h : Ext σ st) (e : TypeId) : Rowed σ st .nils e [] := ⟨.inl ⟨rfl, rfl⟩, h, fun t h => by cases h⟩
theorem Rowed.notM {σ st : Store} {v : AV} {e : TypeId} {xs : List AV} (h : Rowed σ st v e xs) : NotM v := by
  rcases h.row with ⟨rfl, rfl⟩ | rfl | ⟨_, _, _, _, rfl, _⟩ <;> trivial
theorem Rowed.ok {σ st : Store} {v : AV} {e : TypeId} {xs : List AV} (h : Rowed σ st v e xs) (g : Option Bool) : okM g v = True := okM_notM h.notM
theorem Rowed.un {σ st : Store} {v : AV} {e : TypeId} {xs : List AV} (h : Rowed σ st v e xs) : unm v = v := unm_notM h.notM
theorem RowSt.len {st : Store} {v : AV} {e : TypeId} {xs : List AV} (h : RowSt st v e xs) : lenV v = .int .i64 xs.length := by
  rcases h with ⟨rfl, rfl⟩ | rfl | ⟨id, off, m, zs, rfl, _, h1, rfl⟩
  · rfl
  · rfl
  · have : ((zs.drop off).take m).length = m := by simp; omega
    rw [this]; rfl
theorem RowSt.lenC {st : Store} {v : AV} {e : TypeId} {xs : List AV} (h : RowSt st v e xs) (P : Program) (t : TypeId) : lenC P t v = ((elT P t).isSome = true) := by
  rcases h with ⟨rfl, rfl⟩ | rfl | ⟨id, off, m, zs, rfl, _, h1, rfl⟩ <;> rfl
theorem RowSt.read {st : Store} {v : AV} {e : TypeId} {xs : List AV} (h : RowSt st v e xs) : ReadL st v e xs := by
  rcases h with h | rfl | h
  · exact .inr (.inl h)
  · exact .inl rfl
  · exact .inr (.inr h)

theorem Rowed.more {σ st : Store} {v : AV} {e : TypeId} {xs : List AV} (h : Rowed σ st v e xs) (l : Store) : Rowed σ (st ++ l) v e xs := by
  refine ⟨?_, h.ext.app l, h.low⟩
  rcases h.row with h1 | h1 | ⟨id, off, m, zs, h1, h2, h3⟩
  · exact .inl h1
  · exact .inr (.inl h1)
  · exact .inr (.inr ⟨id, off, m, zs, h1, by rw [List.getElem?_append_left ((List.getElem?_eq_some_iff.1 h2).1)]; exact h2, h3⟩)

end
end Go.Av
end
