/- Texts that the last one of this claim rests on: a layer over the guide's own conditions for code; contracts of the functions that the law reaches, one by one. No conditions beside those of the given rows. -/
import Derived.Test.YtnblgnafgdmcaaaGreatDoorWbp
import Derived.Test.YtnblgnafgdmcaaaGreatDoorWbr
section
set_option linter.unusedSimpArgs false
set_option linter.unusedVariables false
namespace Go.Av
/-- A list: by value, or a row that is whole. -/
def LstR (st : Store) (v : AV) (e : TypeId) (xs : List AV) : Prop := v = .sl e xs ∨ ∃ id, v = .row e id 0 xs.length ∧ st[id]? = some (some (.cells e xs))
/-- Where an element lies. -/
def slotV (e : TypeId) (xs : List AV) (i : Int) : AV → AV
  | .row _ id off _ => .ptr e id (off + i.toNat) []
  | _ => .loc e (atV xs i)
section
variable {σ st : Store} {v : AV} {e : TypeId} {xs : List AV}
theorem LstR.notM (h : LstR st v e xs) : NotM v := by
  rcases h with rfl | ⟨_, rfl, _⟩ <;> trivial
theorem LstR.ok (h : LstR st v e xs) (g : Option Bool) : okM g v = True := okM_notM h.notM
theorem LstR.un (h : LstR st v e xs) : unm v = v := unm_notM h.notM
theorem LstR.len (h : LstR st v e xs) : lenV v = .int .i64 xs.length := by
  rcases h with rfl | ⟨_, rfl, _⟩ <;> rfl
theorem LstR.ext (h : LstR σ v e xs) (hx : Ext σ st) : LstR st v e xs := by
  rcases h with h | ⟨id, h1, h2⟩
  · exact .inl h
  · exact .inr ⟨id, h1, by rw [(Fr.ext (F := []) hx).old id (List.getElem?_eq_some_iff.1 h2).1 (by simp)]; exact h2⟩
theorem LstR.lenC (h : LstR st v e xs) (P : Program) (t : TypeId) : lenC P t v = ((elT P t).isSome = true) := by
  rcases h with rfl | ⟨_, rfl, _⟩ <;> rfl
theorem LstR.idxV (h : LstR st v e xs) (P : Program) (t : TypeId) (i : Int) : indexAddrV P t i v = slotV e xs i v := by
  rcases h with rfl | ⟨_, rfl, _⟩ <;> rfl
theorem LstR.idxC (h : LstR st v e xs) (P : Program) (gd : Option Bool) (t : TypeId) (i : Int) : indexAddrC P gd st t i v = (elT P t = some e ∧ 0 < szOf P e ∧ imp gd (0 ≤ i ∧ i.toNat < xs.length)) := by
  rcases h with rfl | ⟨id, rfl, h⟩
  · rfl
  · refine propext ⟨fun ⟨h1, h2, h3, _⟩ => ⟨h1, h2, h3⟩, fun ⟨h1, h2, h3⟩ => ⟨h1, h2, h3, _, _, h⟩⟩
end
end Go.Av
namespace Go.Proofs.Tryz
open Go Go.Av
set_option maxRecDepth 10000
set_option linter.unusedSimpArgs false
set_option linter.unusedVariables false
variable {W0 : World}

theorem ex_isI (all : List Pkg) (c : Int × Int × Int) : PureFn prog W0 32 [pkgsAV all, causeI c] (.bool (isB all c)) := by
  obtain ⟨i, d, k⟩ := c
  by_cases hg : 0 ≤ i ∧ i < all.length ∧ 0 ≤ k
  case neg =>
    have hf : isB all (i, d, k) = false := by
      cases h : isB all (i, d, k) with
      | false => rfl
      | true =>
        obtain ⟨⟨a, b, c⟩, he, p, hp, _⟩ := isB_iff.1 h
        simp only [natI, Prod.mk.injEq] at he hp
        have := (List.getElem?_eq_some_iff.1 hp).1
        omega
    rw [hf]
    refine fn_pure [4] [3] func32 rfl rfl ntmps32 rfl rfl (.bool _) fun hs σ => ?_
    simp only [go_sem, simprocAttr, ↓reduceIte, pkgsAV, causeI, List.length_map]
    intro h
    exfalso
    simp only [Bool.or_eq_false_iff, decide_eq_false_iff_not] at h
    omega
  obtain ⟨g1, g2, g3⟩ := hg
  obtain ⟨i, rfl⟩ : ∃ n : Nat, i = n := ⟨i.toNat, by omega⟩
  obtain ⟨k, rfl⟩ : ∃ n : Nat, k = n := ⟨k.toNat, by omega⟩
  have hi : i < all.length := by omega
  obtain ⟨p, hp⟩ := get_some hi
  have hv : isB all ((i : Nat), d, (k : Nat)) = (decide ((k : Int) < (clI p d).length) || decide ((k : Int) < (atI p d).length)) := by
    rw [Bool.eq_iff_iff, Bool.or_eq_true, decide_eq_true_eq, decide_eq_true_eq]
    constructor
    · intro h
      obtain ⟨⟨a, b, c⟩, he, p', hp', h1, h2, h3⟩ := isB_iff.1 h
      simp only [natI, Prod.mk.injEq] at he hp' h1 h2 h3
      obtain ⟨e1, rfl, e3⟩ := he
      have ea : a = i := by omega
      have ec : c = k := by omega
      subst ea ec
      rw [hp] at hp'
      cases hp'
      obtain rfl | rfl | rfl | rfl : b = 1 ∨ b = 2 ∨ b = 3 ∨ b = 4 := by omega
      all_goals (simp [kindN] at h3; simp [clI, atI]; omega)
    · intro h
      have hd : d = 1 ∨ d = 2 ∨ d = 3 ∨ d = 4 := by
        refine Classical.byContradiction fun hn => ?_
        have n1 : ¬ d = 1 := fun e => hn (.inl e)
        have n2 : ¬ d = 2 := fun e => hn (.inr (.inl e))
        have n3 : ¬ d = 3 := fun e => hn (.inr (.inr (.inl e)))
        have n4 : ¬ d = 4 := fun e => hn (.inr (.inr (.inr e)))
        have c0 : clI p d = [] := by unfold clI; rw [if_neg n1, if_neg n2]
        have a0 : atI p d = [] := by unfold atI; rw [if_neg n3, if_neg n4]
        rw [c0, a0] at h
        simp only [List.length_nil] at h
        omega
      refine isB_iff.2 ⟨(i, d.toNat, k), ?_, p, hp, ?_, ?_, ?_⟩
      · have hdn : ((d.toNat : Nat) : Int) = d := by omega
        show (((i : Nat) : Int), ((d.toNat : Nat) : Int), ((k : Nat) : Int)) = _
        rw [hdn]
      · show 1 ≤ d.toNat
        omega
      · show d.toNat ≤ 4
        omega
      · rcases hd with rfl | rfl | rfl | rfl <;> (simp [clI, atI] at h; simp [kindN]; omega)
  rw [hv]
  refine fn_pure [4] [3] func32 rfl rfl ntmps32 rfl rfl (.bool _) fun hs σ => ?_
  have e1 : decide ((i : Int) < 0) = false := decide_eq_false (by omega)
  have e5 : decide ((k : Int) < 0) = false := decide_eq_false (by omega)
  simp only [go_sem, simprocAttr, ↓reduceIte, pkgsAV, causeI, List.length_map, e1, e5, atV_map hp]
  refine ⟨fun h => absurd hi (by omega), fun _ => ⟨.of (by kernel_rfl), hi, CallP.fn (ex_clauses p d) ?_⟩⟩
  simp only [go_sem, simprocAttr, ↓reduceIte, clausesAV, List.length_map]
  rw [atV_map hp]
  refine ⟨fun _ => hi, CallP.fnG (fun _ => ex_atoms p d) ?_⟩
  simp only [go_sem, simprocAttr, ↓reduceIte, atomsAV, List.length_map]
end Go.Proofs.Tryz
end
