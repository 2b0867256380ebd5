/- Texts that the last one of this claim rests on: a layer over the guide's own conditions for code; contracts of the functions that the law reaches, one by one. No conditions beside those of the given rows. -/
import Derived.Test.YtnblgnafgdmcaaaGreatDoorWbm
import Derived.Test.YtnblgnafgdmcaaaGreatDoorWbo
section
set_option linter.unusedSimpArgs false
set_option linter.unusedVariables false
namespace Go.Proofs.Tryz
open Go Go.Av
set_option maxRecDepth 10000
set_option linter.unusedSimpArgs false
set_option linter.unusedVariables false
variable {W0 : World}

theorem l20_light (l : List Pkg) (hp : ∀ p ∈ l, PkgR p) : PureFn prog W0 16 [pkgsAV l] (.bool (lightL 0 l)) := by
  refine fn_pure [2] [4] func16 rfl rfl ntmps16 rfl rfl (.bool _) fun hs σ => ?_
  have hl := (small_map (hs _ (List.mem_cons_self ..))).1
  have hls := (small_map (hs _ (List.mem_cons_self ..))).2
  simp only [go_sem, simprocAttr, ↓reduceIte, pkgsAV, List.length_map]
  refine LoopVC.upto [9, 10] (.of (by kernel_rfl)) l.length (fun i A => A.env 11 = .int .i64 i ∧ Ext σ A.st ∧ lightL i (l.drop i) = lightL 0 l) 0 (Nat.zero_le _) ?_ fun i B hi ⟨h8, hst, hI⟩ => ?_
  · simp only [go_sem, simprocAttr, ↓reduceIte]
    simp [Ext.refl]
  simp only [go_sem, simprocAttr, ↓reduceIte, h8, List.length_map]
  refine ⟨fun hc => ⟨hc, ?_⟩, fun hc => ?_⟩
  · obtain ⟨p, hpi⟩ := get_some hc
    simp only [atV_map hpi]
    have hR := hp p (List.mem_of_getElem? hpi)
    have r1 := hR.con; have r2 := hR.brk; have r3 := hR.prov
    rw [reach_eq] at r1 r2 r3
    have hw1 : IntKind.i64.wrap ((p.con.length : Int) + (p.brk.length : Int)) = ((p.con.length : Int) + (p.brk.length : Int)) := wrap_in (by omega)
    have hw2 : IntKind.i64.wrap ((p.con.length : Int) + (p.brk.length : Int) + (p.prov.length : Int)) = ((p.con.length : Int) + (p.brk.length : Int) + (p.prov.length : Int)) := wrap_in (by omega)
    rw [List.drop_eq_getElem_cons hc, lightL] at hI
    have hpe : l[i] = p := (List.getElem?_eq_some_iff.1 hpi).2
    rw [hpe] at hI
    simp only [go_sem, simprocAttr, ↓reduceIte, pkgAV, atomsAV, provsAV, h8, List.length_map, hw1, hw2]
    have e3 : [clausesAV p.pre, clausesAV p.dep, clausesAV p.rcm] = [p.pre, p.dep, p.rcm].map clausesAV := rfl
    refine ⟨fun hb => ⟨weak_bool ?_, hst.app _⟩, fun hb => ?_⟩
    · have : lightP i p = false := by
        unfold lightP
        simp only [Bool.or_eq_true, decide_eq_true_eq] at hb
        rcases hb with hb | hb
        · rw [decide_eq_false (show ¬ i < 26 by omega)]; rfl
        · rw [decide_eq_false (show ¬ p.con.length + p.brk.length + p.prov.length ≤ 40 by omega), Bool.and_false]; rfl
      rw [← hI, this]; rfl
    simp only [Bool.or_eq_false_iff, decide_eq_false_iff_not] at hb
    have hP : lightP i p = [p.pre, p.dep, p.rcm].all lightD := by
      unfold lightP
      rw [decide_eq_true (show i < 26 by omega), decide_eq_true (show p.con.length + p.brk.length + p.prov.length ≤ 40 by omega)]; rfl
    simp only [e3]
    have hds := hls p (List.mem_of_getElem? hpi)
    refine LoopVC.ats [9, 10, 11] (.of (by kernel_rfl)) (fun A => Ext σ A.st ∧ lightP i p = true) ?_ fun B2 ⟨hst, h6⟩ => ?_
    · refine LoopVC.upto [9, 10, 11, 38] (.of (by kernel_rfl)) 3 (fun j A => A.env 39 = .int .i64 j ∧ Ext σ A.st ∧ ([p.pre, p.dep, p.rcm].drop j).all lightD = [p.pre, p.dep, p.rcm].all lightD) 0 (Nat.zero_le _) ?_ fun j B2 hj ⟨h39, hst, hJ⟩ => ?_
      · simp only [go_sem, simprocAttr, ↓reduceIte]
        exact hst.app _
      simp only [go_sem, simprocAttr, ↓reduceIte, h39]
      simp only [e3]
      refine ⟨fun hc2 => ?_, fun hc2 => ?_⟩
      · have hc3 : j < [p.pre, p.dep, p.rcm].length := by show j < 3; omega
        obtain ⟨d, hdj⟩ := get_some hc3
        have hde := (List.getElem?_eq_some_iff.1 hdj).2
        rw [List.drop_eq_getElem_cons hc3, hde, List.all_cons] at hJ
        simp only [getD_map hdj]
        simp only [go_sem, simprocAttr, ↓reduceIte, clausesAV, h39, List.length_map]
        refine ⟨hc3, ?_⟩
        have hlD : lightD d = (decide (d.length ≤ 14) && d.all fun c => decide (c.length ≤ 10)) := rfl
        refine ⟨fun hb => ⟨weak_bool ?_, hst⟩, fun hb => ?_⟩
        · rw [← hI, hP, ← hJ, hlD, decide_eq_false (by omega)]; rfl
        rw [decide_eq_true (show d.length ≤ 14 by omega), Bool.true_and] at hlD
        refine LoopVC.ats [9, 10, 11, 38, 39] (.of (by kernel_rfl)) (fun A => Ext σ A.st ∧ (d.all fun c => decide (c.length ≤ 10)) = true) ?_ fun B3 ⟨hst, h6⟩ => ?_
        · refine LoopVC.upto [9, 10, 11, 38, 39, 45, 46] (.of (by kernel_rfl)) d.length (fun k A => A.env 47 = .int .i64 k ∧ Ext σ A.st ∧ ∀ c ∈ d.take k, c.length ≤ 10) 0 (Nat.zero_le _) ?_ fun k B3 hk ⟨h47, hst, hK⟩ => ?_
          · simp only [go_sem, simprocAttr, ↓reduceIte]
            simp [hst]
          simp only [go_sem, simprocAttr, ↓reduceIte, h47, List.length_map]
          refine ⟨fun hc4 => ⟨hc4, ?_⟩, fun hc4 => ?_⟩
          · obtain ⟨c, hck⟩ := get_some hc4
            simp only [atV_map hck]
            simp only [go_sem, simprocAttr, ↓reduceIte, atomsAV, h47, List.length_map]
            refine ⟨fun hb => ⟨weak_bool ?_, hst⟩, fun hb => ⟨hc4, int_succ hc4 (by rw [maxLen_eq]; omega), hst, ?_⟩⟩
            · have : (d.all fun c => decide (c.length ≤ 10)) = false := by
                rw [List.all_eq_false]
                exact ⟨c, List.mem_of_getElem? hck, by simp; omega⟩
              rw [← hI, hP, ← hJ, hlD, this]; rfl
            · rw [take_succ_get hck]
              intro x hx
              rcases List.mem_append.1 hx with hx | hx
              · exact hK x hx
              · rw [List.mem_singleton.1 hx]; omega
          · rw [List.take_of_length_le hc4] at hK
            exact ⟨hst, List.all_eq_true.2 fun c hcm => decide_eq_true (hK c hcm)⟩
        simp only [go_sem, simprocAttr, ↓reduceIte, h39]
        refine ⟨by omega, int_succ (show j < 3 by omega) (by rw [maxLen_eq]; omega), hst, ?_⟩
        rw [hlD, h6, Bool.true_and] at hJ
        simpa using hJ
      · have : j = 3 := by omega
        subst this
        exact ⟨hst, by rw [hP, ← hJ]; rfl⟩
    simp only [go_sem, simprocAttr, ↓reduceIte, h8]
    refine ⟨hc, int_succ hc hl, hst, ?_⟩
    rw [h6, Bool.true_and] at hI
    exact hI
  · have : i = l.length := by omega
    subst this
    rw [List.drop_length] at hI
    exact ⟨weak_bool hI, hst⟩

end Go.Proofs.Tryz
end
section
set_option linter.unusedSimpArgs false
set_option linter.unusedVariables false
namespace Go.Proofs.Tryz
open Go Go.Av
set_option maxRecDepth 10000
set_option linter.unusedSimpArgs false
set_option linter.unusedVariables false
variable {W0 : World}

theorem shape_cause : eqShape prog 40 = some [1, 1, 1] := by kernel_rfl
theorem cause_neq (a b : Nat × Nat × Nat) : binV prog .neq 40 (causeAV a) (causeAV b) = .bool (!decide (a = b)) := by
  obtain ⟨a1, a2, a3⟩ := a
  obtain ⟨b1, b2, b3⟩ := b
  simp only [causeAV, binV_aneq, eqAgg_K shape_cause, eqKs, eqK1, if_true, Option.map_some, Option.bind_some, Option.getD_some, Prod.mk.injEq, Bool.and_true]
  congr 1
  rw [Bool.eq_iff_iff]
  simp
  omega
theorem cause_ceq (a b : Nat × Nat × Nat) : binC prog .neq 40 (causeAV a) (causeAV b) = True := by
  simp [causeAV, binC_aneq, eqAgg_K shape_cause, eqKs, eqK1]
theorem cause_ok (g : Option Bool) (a : Nat × Nat × Nat) : okM g (causeAV a) = True := rfl
theorem cause_un (a : Nat × Nat × Nat) : unm (causeAV a) = causeAV a := rfl

theorem l20_same (a b : List (Nat × Nat × Nat)) : PureFn prog W0 13 [causesAV a, causesAV b] (.bool (decide (a = b))) := by
  refine fn_pure [4] [] func13 rfl rfl ntmps13 rfl rfl (.bool _) fun hs σ => ?_
  have hl := (small_map (hs _ (List.mem_cons_self ..))).1
  simp only [go_sem, simprocAttr, ↓reduceIte, causesAV, List.length_map]
  refine ⟨fun h => weak_bool (decide_eq_false fun e => h (by rw [e])).symm, fun h => ?_⟩
  have hab : a.length = b.length := by omega
  refine LoopVC.upto [0, 1, 12] (.of (by kernel_rfl)) a.length (fun i A => A.env 13 = .int .i64 i ∧ A.st = σ ∧ a.take i = b.take i) 0 (Nat.zero_le _) ?_ fun i B hi ⟨h13, hst, hI⟩ => ?_
  · simp only [go_sem, simprocAttr, ↓reduceIte]
    simp
  simp only [go_sem, simprocAttr, ↓reduceIte, h13, hst, List.length_map]
  refine ⟨fun hc => ?_, fun hc => weak_bool ?_⟩
  · obtain ⟨x, hx⟩ := get_some hc
    obtain ⟨y, hy⟩ := get_some (show i < b.length by omega)
    simp only [go_sem, simprocAttr, ↓reduceIte, h13, hst, List.length_map, atV_map hx, atV_map hy, cause_neq, cause_ceq, cause_ok, cause_un]
    exact ⟨.of (by kernel_rfl), hc, by omega, fun hne => weak_bool (decide_eq_false (ne_of_get hx hy hne)).symm, fun e => ⟨hc, int_succ hc hl, take_eq_succ hI hx (e ▸ hy)⟩⟩
  · rw [List.take_of_length_le hc, List.take_of_length_le (by omega)] at hI
    exact (decide_eq_true hI).symm

/-- The packages that every program must know. -/
def axA : Pkg := { awA with dep := [[⟨[98, 98], 0, []⟩], [⟨[99, 99], 0, []⟩]], con := [] }
def axB : Pkg := { awB with dep := [], con := [⟨[99, 99], 0, []⟩] }
def axC : Pkg := { awC with dep := [], con := [] }
def axL : List Pkg := [axA, axB, axC]
theorem ax_may : mayAll axL = 0 := by decide +kernel
theorem ax_some : someA axL (causesA axL 3) 0 = false := by decide +kernel
theorem ax_why : whyL axL 0 = [(0, 2, 0), (0, 2, 1), (1, 3, 0)] := by decide +kernel

theorem l20_awake : PureFn prog W0 9 [] (.bool true) := by
  refine fn_pure [0] [] func9 rfl rfl ntmps9 rfl rfl (.bool _) fun hs σ => ?_
  simp only [go_sem, simprocAttr, ↓reduceIte]
  refine CallA.fn ((ex_why axL (fun p hp => ?_) (by decide) 0).weak (.cons (.sub (subB_sound (n := 10) (by kernel_rfl))) (.cons (.refl _) .nil))) ?_
  · simp [axL] at hp
    rcases hp with rfl | rfl | rfl <;> exact ⟨by decide, by decide, by decide⟩
  have e : whyAV axL 0 = .tup [causesAV [(0, 2, 0), (0, 2, 1), (1, 3, 0)], .bool true, .int .i64 0] := by
    unfold whyAV
    rw [if_pos ax_may, if_pos (by decide), if_neg (by rw [show ((0 : Int).toNat) = 0 from rfl, show axL.length = 3 from rfl, ax_some]; simp)]
    rw [show ((0 : Int).toNat) = 0 from rfl, ax_why]
  rw [e]
  have a2 : ∀ (x y z : AV) (l : List AV), atV (x :: y :: z :: l) 2 = z := fun _ _ _ _ => rfl
  simp only [go_sem, simprocAttr, ↓reduceIte, causesAV, causeAV, a2, binV_aeql, eqAgg_K shape_cause, eqKs, eqK1, Option.map_some, Option.getD_some, Option.isSome_some]
  done
end Go.Proofs.Tryz
end
section
set_option linter.unusedSimpArgs false
set_option linter.unusedVariables false
namespace Go.Proofs.Tryz
open Go Go.Av
set_option maxRecDepth 10000
set_option linter.unusedSimpArgs false
set_option linter.unusedVariables false
variable {W0 : World}

end Go.Proofs.Tryz
end
section
set_option linter.unusedSimpArgs false
set_option linter.unusedVariables false
namespace Go.Proofs.Tryz
open Go Go.Av
set_option maxRecDepth 10000
set_option linter.unusedSimpArgs false
set_option linter.unusedVariables false
variable {W0 : World}

end Go.Proofs.Tryz
end
section
set_option linter.unusedSimpArgs false
set_option linter.unusedVariables false
namespace Go.Proofs.Tryz
open Go Go.Av
set_option maxRecDepth 10000
set_option linter.unusedSimpArgs false
set_option linter.unusedVariables false
variable {W0 : World}

def natI (c : Nat × Nat × Nat) : Int × Int × Int := ((c.1 : Nat), (c.2.1 : Nat), (c.2.2 : Nat))
def causeI (c : Int × Int × Int) : AV := .agg 40 [.int .i64 c.1, .int .i64 c.2.1, .int .i64 c.2.2]
/-- Is that a relation? -/
def isB (all : List Pkg) (c : Int × Int × Int) : Bool := decide (0 ≤ c.1 ∧ 1 ≤ c.2.1 ∧ c.2.1 ≤ 4 ∧ 0 ≤ c.2.2) && (match all[c.1.toNat]? with
  | some p => decide (c.2.2 < kindN p c.2.1.toNat)
  | none => false)
theorem isB_iff {all : List Pkg} {c : Int × Int × Int} : isB all c = true ↔ ∃ d, natI d = c ∧ ValidC all d := by
  obtain ⟨i, d, k⟩ := c
  unfold isB
  simp only [Bool.and_eq_true, decide_eq_true_eq]
  constructor
  · rintro ⟨⟨h1, h2, h3, h4⟩, h5⟩
    split at h5
    · rename_i p hp
      simp only [decide_eq_true_eq] at h5
      refine ⟨(i.toNat, d.toNat, k.toNat), ?_, p, hp, by simp only; omega, by simp only; omega, by simp only; omega⟩
      simp only [natI, Prod.mk.injEq]
      omega
    · cases h5
  · rintro ⟨⟨a, b, c⟩, he, p, hp, h1, h2, h3⟩
    simp only [natI, Prod.mk.injEq] at he hp h1 h2 h3
    obtain ⟨rfl, rfl, rfl⟩ := he
    simp only [Int.toNat_natCast, hp, decide_eq_true_eq]
    exact ⟨by omega, by omega⟩
theorem r10_isI (all : List Pkg) (c : Int × Int × Int) : PureFn prog W0 37 [pkgsAV all, causeI c] (.bool (isB all c)) := by
  by_cases hv : isB all c = true
  · obtain ⟨⟨i, d, k⟩, rfl, p, hp, h1, h2, h3⟩ := isB_iff.1 hv
    rw [hv]
    exact r10_is all hp h1 h2 h3
  obtain ⟨i, d, k⟩ := c
  have hf : isB all (i, d, k) = false := by simpa using hv
  rw [hf]
  by_cases hg : 0 ≤ i ∧ i < all.length ∧ 1 ≤ d ∧ d ≤ 4 ∧ 0 ≤ k
  case neg =>
    refine fn_pure [4] [3, 5] func37 rfl rfl ntmps37 rfl rfl (.bool _) fun hs σ => ?_
    simp only [go_sem, simprocAttr, ↓reduceIte, pkgsAV, causeI, List.length_map]
    intro h
    exfalso
    simp only [Bool.or_eq_false_iff, decide_eq_false_iff_not] at h
    omega
  obtain ⟨g1, g2, g3, g4, g5⟩ := hg
  obtain ⟨i, rfl⟩ : ∃ n : Nat, i = n := ⟨i.toNat, by omega⟩
  obtain ⟨d, rfl⟩ : ∃ n : Nat, d = n := ⟨d.toNat, by omega⟩
  obtain ⟨k, rfl⟩ : ∃ n : Nat, k = n := ⟨k.toNat, by omega⟩
  have hi : i < all.length := by omega
  obtain ⟨p, hp⟩ := get_some hi
  have hk : ¬ k < kindN p d := fun h => hv (isB_iff.2 ⟨(i, d, k), rfl, p, hp, by simp only; omega, by simp only; omega, h⟩)
  refine fn_pure [4] [3, 5] func37 rfl rfl ntmps37 rfl rfl (.bool _) fun hs σ => ?_
  have e1 : decide ((i : Int) < 0) = false := decide_eq_false (by omega)
  have e2 : decide ((all.length : Int) ≤ i) = false := decide_eq_false (by omega)
  have e3 : decide ((d : Int) < 1) = false := decide_eq_false (by omega)
  have e4 : decide ((4 : Int) < d) = false := decide_eq_false (by omega)
  have e5 : decide ((k : Int) < 0) = false := decide_eq_false (by omega)
  have e8 : d < 5 := by omega
  have e6 := kind_ix (p := p) e8
  have e7 : ¬ (k : Int) < kindN p d := by omega
  simp only [go_sem, simprocAttr, ↓reduceIte, pkgsAV, causeI, List.length_map, e1, e2, e3, e4, e5]
  refine fun _ => ⟨hi, ?_⟩
  simp only [go_sem, simprocAttr, ↓reduceIte, pkgAV, atV_map hp, clausesAV, atomsAV, List.length_map, e6, e7, e8]
  exact .of (by kernel_rfl)

end Go.Proofs.Tryz
end
section
set_option linter.unusedSimpArgs false
set_option linter.unusedVariables false
namespace Go.Av
/-- A row that a call has made since the store was σ, whole; or none yet. -/
def RowX (σ st : Store) (v : AV) (e : TypeId) (xs : List AV) : Prop := (v = .nils ∧ xs = []) ∨ ∃ id, v = .row e id 0 xs.length ∧ st[id]? = some (some (.cells e xs)) ∧ σ.length ≤ id
section
variable {P : Program} {σ st : Store} {v : AV} {e : TypeId} {xs : List AV}
theorem RowX.more (h : RowX σ st v e xs) (l : Store) : RowX σ (st ++ l) v e xs := by
  rcases h with h | ⟨id, h1, h2, h3⟩
  · exact .inl h
  · exact .inr ⟨id, h1, by rw [List.getElem?_append_left ((List.getElem?_eq_some_iff.1 h2).1)]; exact h2, h3⟩
end
end Go.Av
namespace Go.Proofs.Tryz
open Go Go.Av
set_option maxRecDepth 10000
set_option linter.unusedSimpArgs false
set_option linter.unusedVariables false
variable {W0 : World}

end Go.Proofs.Tryz
end
section
set_option linter.unusedSimpArgs false
set_option linter.unusedVariables false
namespace Go.Proofs.Tryz
open Go Go.Av
set_option maxRecDepth 10000
set_option linter.unusedSimpArgs false
set_option linter.unusedVariables false
variable {W0 : World}

end Go.Proofs.Tryz
end
