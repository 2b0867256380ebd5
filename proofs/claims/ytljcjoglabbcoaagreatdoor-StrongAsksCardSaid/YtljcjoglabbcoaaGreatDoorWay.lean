/- Texts that the last one of this claim rests on: a layer over the guide's own conditions for code; contracts of the functions that the law reaches, one by one. No conditions beside those of the given rows. -/
import Derived.Test.YtljcjoglabbcoaaGreatDoorWaw
import Derived.Test.YtljcjoglabbcoaaGreatDoorWax
section
set_option linter.unusedSimpArgs false
set_option linter.unusedVariables false
namespace Go.Proofs.Tryz
open Go Go.Av
set_option maxRecDepth 10000
set_option linter.unusedSimpArgs false
set_option linter.unusedVariables false
variable {W0 : World}

theorem sl_grow (σ : Store) (n : Nat) (hn : n ≤ 1048576) :
    ACall prog W0 71 [.nils, .int .i64 n] σ fun r σ' => Rowed σ σ' r 49 [] := by
  refine fn_call [4] [] func71 rfl rfl ntmps71 rfl rfl fun hs => ?_
  simp only [go_sem, simprocAttr, ↓reduceIte]
  refine JoinVC.at [0, 1] (by kernel_rfl) (fun A => A.st = σ) (fun h => absurd (of_decide_eq_true h) (by omega)) (fun _ => ?_) fun B hst => ?_
  · simp only [go_sem, simprocAttr, ↓reduceIte]
  simp only [go_sem, simprocAttr, ↓reduceIte, hst]
  have hw : IntKind.i64.wrap ((n : Int) - 0) = n := by rw [Int.sub_zero, wrap_in (by omega)]
  simp only [hw]
  refine JoinVC.at [] (by kernel_rfl) (fun A => Rowed σ A.st (A.env 0) 49 []) (fun h => ?_) (fun _ => ?_) fun B hb => ?_
  · simp only [go_sem, simprocAttr, ↓reduceIte, hst]
    refine AppA.zero (e := 49) 1048576 (by kernel_rfl) (kn := .i64) (by kernel_rfl) (z := .nils) (by kernel_rfl) (by kernel_rfl) (by have := of_decide_eq_true h; omega) hn ?_
    simp only [go_sem, simprocAttr, ↓reduceIte, hst]
    exact ⟨Nat.zero_le _, .inr (.inr ⟨_, 0, 0, List.replicate n .nils, rfl, by simp, by simp, rfl⟩), (Ext.refl _).app _, fun id h => by cases h; exact Nat.le_refl _⟩
  · simp only [go_sem, simprocAttr, ↓reduceIte, hst]
    exact .nil (.refl _) _
  simp only [go_sem, simprocAttr, ↓reduceIte, hb.ok, hb.un]
  refine EndR.ret ?_
  simp only [go_sem, simprocAttr, ↓reduceIte]
  exact ⟨_, .refl _, hb.ext.le, hb⟩

theorem flat_succ {α : Type} {ls : List (List α)} {i : Nat} {l : List α} (h : ls[i]? = some l) : (ls.take (i + 1)).flatten = (ls.take i).flatten ++ l := by
  rw [take_succ_get h, List.flatten_append]; simp

theorem sl_concat (ls : List (List Clause)) (hls : ls.length ≤ 1048576) (hn : ls.flatten.length ≤ 1048576) :
    PureFn prog W0 46 [.sl 34 (ls.map clausesAV)] (clausesAV ls.flatten) := by
  refine fn_pureZ [2] [] func46 rfl rfl ntmps46 rfl rfl (ids_clauses _) fun hs σ => ?_
  have hfl : ∀ i, (ls.take i).flatten.length ≤ 1048576 := fun i => by
    have : ls.flatten.length = (ls.take i).flatten.length + (ls.drop i).flatten.length := by
      rw [← List.length_append, ← List.flatten_append, List.take_append_drop]
    omega
  simp only [go_sem, simprocAttr, ↓reduceIte, List.length_map]
  refine LoopVC.at [0] (.of (by kernel_rfl)) (fun A => A.env 3 = .int .i64 ls.flatten.length ∧ A.st = σ) ?_ fun B ⟨h3, hst⟩ => ?_
  · refine LoopVC.upto [0, 9, 10] (.of (by kernel_rfl)) ls.length (fun i A => A.env 11 = .int .i64 i ∧ A.st = σ ∧ A.env 3 = .int .i64 (ls.take i).flatten.length) 0 (Nat.zero_le _) ?_ fun i B hi ⟨h8, hst, h3⟩ => ?_
    · simp only [go_sem, simprocAttr, ↓reduceIte]
      try simp
    simp only [go_sem, simprocAttr, ↓reduceIte, h8, h3, hst, List.length_map]
    refine ⟨fun hc => ⟨hc, ?_⟩, fun hc => by rw [List.take_of_length_le hc]⟩
    obtain ⟨l, hl⟩ := get_some hc
    simp only [atV_map hl]
    have h1 := hfl i
    have h2 := hfl (i + 1)
    rw [flat_succ hl, List.length_append] at h2
    have hw : IntKind.i64.wrap (((ls.take i).flatten.length : Int) + (l.length : Int)) = (((ls.take (i + 1)).flatten.length : Nat) : Int) := by
      rw [flat_succ hl, List.length_append, wrap_in (by omega), Int.natCast_add]
    simp only [go_sem, simprocAttr, ↓reduceIte, clausesAV, h8, h3, hst, List.length_map, hw]
    exact ⟨fun h => absurd h (by omega), fun _ => ⟨hc, int_succ hc (by rw [maxLen_eq]; omega)⟩⟩
  simp only [go_sem, simprocAttr, ↓reduceIte, h3, hst]
  refine CallA.goes (by simp only [go_sem, simprocAttr, ↓reduceIte, hst]) (sl_grow σ _ hn) fun r σ' hr => ?_
  simp only [go_sem, simprocAttr, ↓reduceIte, h3, hst, hr.ok, hr.un, List.length_map]
  refine LoopVC.at [] (.of (by kernel_rfl)) (fun A => ∃ v, A.env 6 = v ∧ Rowed σ A.st v 49 (ls.flatten.map atomsAV)) ?_ fun B ⟨v, h6, hb⟩ => ?_
  · refine LoopVC.upto [25, 26] (.of (by kernel_rfl)) ls.length (fun i A => A.env 27 = .int .i64 i ∧ ∃ v, A.env 6 = v ∧ Rowed σ A.st v 49 ((ls.take i).flatten.map atomsAV)) 0 (Nat.zero_le _) ?_ fun i B hi ⟨h8, v, h6, hb⟩ => ?_
    · simp only [go_sem, simprocAttr, ↓reduceIte]
      exact ⟨_, rfl, hr⟩
    simp only [go_sem, simprocAttr, ↓reduceIte, h8, h6, List.length_map]
    refine ⟨fun hc => ⟨hc, ?_⟩, fun hc => ⟨_, rfl, by rw [List.take_of_length_le hc] at hb; exact hb⟩⟩
    obtain ⟨l, hl⟩ := get_some hc
    have h2 := hfl (i + 1)
    rw [flat_succ hl, List.length_append] at h2
    simp only [atV_map hl]
    simp only [go_sem, simprocAttr, ↓reduceIte, clausesAV, h8, h6, hb.ok, hb.un, List.length_map]
    refine AppA.rowed 1048576 (by kernel_rfl) hb (.sl _ _ _) (by rw [List.length_map, List.length_map]; exact h2) fun v' st' hb' => ?_
    simp only [go_sem, simprocAttr, ↓reduceIte, h8]
    refine ⟨hc, int_succ hc (by rw [maxLen_eq]; omega), _, rfl, ?_⟩
    rw [flat_succ hl, List.map_append]
    exact hb'
  simp only [go_sem, simprocAttr, ↓reduceIte, h6, hb.ok, hb.un]
  exact Rowed.endr (hb) (.inl rfl) (by simp only [go_sem, simprocAttr, ↓reduceIte])
end Go.Proofs.Tryz
end
