/- Texts that the last one of this claim rests on: a layer over the guide's own conditions for code; contracts of the functions that the law reaches, one by one. No conditions beside those of the given rows. -/
import Derived.Test.YtnblgnafgdmcaaaGreatDoorWbl
import Derived.Test.YtnblgnafgdmcaaaGreatDoorWbn
section
set_option linter.unusedSimpArgs false
set_option linter.unusedVariables false
namespace Go.Proofs.Tryz
open Go Go.Av
set_option maxRecDepth 10000
set_option linter.unusedSimpArgs false
set_option linter.unusedVariables false
variable {W0 : World}

theorem l20_light (l : List Pkg) (hp : ∀ p ∈ l, PkgR p) : PureFn prog W0 16 [pkgsAV l] (.bool (lightL 0 l)) := by
  refine fn_pure [2] [4] func16 rfl rfl ntmps16 rfl rfl (.bool _) fun hs σ => ?_
  have hl := (small_map (hs _ (List.mem_cons_self ..))).1
  have hls := (small_map (hs _ (List.mem_cons_self ..))).2
  simp only [go_sem, simprocAttr, ↓reduceIte, pkgsAV, List.length_map]
  refine LoopVC.upto [9, 10] (.of (by kernel_rfl)) l.length (fun i A => A.env 11 = .int .i64 i ∧ Ext σ A.st ∧ lightL i (l.drop i) = lightL 0 l) 0 (Nat.zero_le _) ?_ fun i B hi ⟨h8, hst, hI⟩ => ?_
  · simp only [go_sem, simprocAttr, ↓reduceIte]
    simp [Ext.refl]
  simp only [go_sem, simprocAttr, ↓reduceIte, h8, List.length_map]
  refine ⟨fun hc => ⟨hc, ?_⟩, fun hc => ?_⟩
  · obtain ⟨p, hpi⟩ := get_some hc
    simp only [atV_map hpi]
    have hR := hp p (List.mem_of_getElem? hpi)
    have r1 := hR.con; have r2 := hR.brk; have r3 := hR.prov
    rw [reach_eq] at r1 r2 r3
    have hw1 : IntKind.i64.wrap ((p.con.length : Int) + (p.brk.length : Int)) = ((p.con.length : Int) + (p.brk.length : Int)) := wrap_in (by omega)
    have hw2 : IntKind.i64.wrap ((p.con.length : Int) + (p.brk.length : Int) + (p.prov.length : Int)) = ((p.con.length : Int) + (p.brk.length : Int) + (p.prov.length : Int)) := wrap_in (by omega)
    rw [List.drop_eq_getElem_cons hc, lightL] at hI
    have hpe : l[i] = p := (List.getElem?_eq_some_iff.1 hpi).2
    rw [hpe] at hI
    simp only [go_sem, simprocAttr, ↓reduceIte, pkgAV, atomsAV, provsAV, h8, List.length_map, hw1, hw2]
    have e3 : [clausesAV p.pre, clausesAV p.dep, clausesAV p.rcm] = [p.pre, p.dep, p.rcm].map clausesAV := rfl
    refine ⟨fun hb => ⟨weak_bool ?_, hst.app _⟩, fun hb => ?_⟩
    · have : lightP i p = false := by
        unfold lightP
        simp only [Bool.or_eq_true, decide_eq_true_eq] at hb
        rcases hb with hb | hb
        · rw [decide_eq_false (show ¬ i < 26 by omega)]; rfl
        · rw [decide_eq_false (show ¬ p.con.length + p.brk.length + p.prov.length ≤ 40 by omega), Bool.and_false]; rfl
      rw [← hI, this]; rfl
    simp only [Bool.or_eq_false_iff, decide_eq_false_iff_not] at hb
    have hP : lightP i p = [p.pre, p.dep, p.rcm].all lightD := by
      unfold lightP
      rw [decide_eq_true (show i < 26 by omega), decide_eq_true (show p.con.length + p.brk.length + p.prov.length ≤ 40 by omega)]; rfl
    simp only [e3]
    have hds := hls p (List.mem_of_getElem? hpi)
    refine LoopVC.ats [9, 10, 11] (.of (by kernel_rfl)) (fun A => Ext σ A.st ∧ lightP i p = true) ?_ fun B2 ⟨hst, h6⟩ => ?_
    · refine LoopVC.upto [9, 10, 11, 38] (.of (by kernel_rfl)) 3 (fun j A => A.env 39 = .int .i64 j ∧ Ext σ A.st ∧ ([p.pre, p.dep, p.rcm].drop j).all lightD = [p.pre, p.dep, p.rcm].all lightD) 0 (Nat.zero_le _) ?_ fun j B2 hj ⟨h39, hst, hJ⟩ => ?_
      · simp only [go_sem, simprocAttr, ↓reduceIte]
        exact hst.app _
      simp only [go_sem, simprocAttr, ↓reduceIte, h39]
      simp only [e3]
      refine ⟨fun hc2 => ?_, fun hc2 => ?_⟩
      · have hc3 : j < [p.pre, p.dep, p.rcm].length := by show j < 3; omega
        obtain ⟨d, hdj⟩ := get_some hc3
        have hde := (List.getElem?_eq_some_iff.1 hdj).2
        rw [List.drop_eq_getElem_cons hc3, hde, List.all_cons] at hJ
        simp only [getD_map hdj]
        simp only [go_sem, simprocAttr, ↓reduceIte, clausesAV, h39, List.length_map]
        refine ⟨hc3, ?_⟩
        have hlD : lightD d = (decide (d.length ≤ 14) && d.all fun c => decide (c.length ≤ 10)) := rfl
        refine ⟨fun hb => ⟨weak_bool ?_, hst⟩, fun hb => ?_⟩
        · rw [← hI, hP, ← hJ, hlD, decide_eq_false (by omega)]; rfl
        rw [decide_eq_true (show d.length ≤ 14 by omega), Bool.true_and] at hlD
        refine LoopVC.ats [9, 10, 11, 38, 39] (.of (by kernel_rfl)) (fun A => Ext σ A.st ∧ (d.all fun c => decide (c.length ≤ 10)) = true) ?_ fun B3 ⟨hst, h6⟩ => ?_
        · refine LoopVC.upto [9, 10, 11, 38, 39, 45, 46] (.of (by kernel_rfl)) d.length (fun k A => A.env 47 = .int .i64 k ∧ Ext σ A.st ∧ ∀ c ∈ d.take k, c.length ≤ 10) 0 (Nat.zero_le _) ?_ fun k B3 hk ⟨h47, hst, hK⟩ => ?_
          · simp only [go_sem, simprocAttr, ↓reduceIte]
            simp [hst]
          simp only [go_sem, simprocAttr, ↓reduceIte, h47, List.length_map]
          refine ⟨fun hc4 => ⟨hc4, ?_⟩, fun hc4 => ?_⟩
          · obtain ⟨c, hck⟩ := get_some hc4
            simp only [atV_map hck]
            simp only [go_sem, simprocAttr, ↓reduceIte, atomsAV, h47, List.length_map]
            refine ⟨fun hb => ⟨weak_bool ?_, hst⟩, fun hb => ⟨hc4, int_succ hc4 (by rw [maxLen_eq]; omega), hst, ?_⟩⟩
            · have : (d.all fun c => decide (c.length ≤ 10)) = false := by
                rw [List.all_eq_false]
                exact ⟨c, List.mem_of_getElem? hck, by simp; omega⟩
              rw [← hI, hP, ← hJ, hlD, this]; rfl
            · rw [take_succ_get hck]
              intro x hx
              rcases List.mem_append.1 hx with hx | hx
              · exact hK x hx
              · rw [List.mem_singleton.1 hx]; omega
          · rw [List.take_of_length_le hc4] at hK
            exact ⟨hst, List.all_eq_true.2 fun c hcm => decide_eq_true (hK c hcm)⟩
        simp only [go_sem, simprocAttr, ↓reduceIte, h39]
        refine ⟨by omega, int_succ (show j < 3 by omega) (by rw [maxLen_eq]; omega), hst, ?_⟩
        rw [hlD, h6, Bool.true_and] at hJ
        simpa using hJ
      · have : j = 3 := by omega
        subst this
        exact ⟨hst, by rw [hP, ← hJ]; rfl⟩
    simp only [go_sem, simprocAttr, ↓reduceIte, h8]
    refine ⟨hc, int_succ hc hl, hst, ?_⟩
    rw [h6, Bool.true_and] at hI
    exact hI
  · have : i = l.length := by omega
    subst this
    rw [List.drop_length] at hI
    exact ⟨weak_bool hI, hst⟩

end Go.Proofs.Tryz
end
section
set_option linter.unusedSimpArgs false
set_option linter.unusedVariables false
namespace Go.Proofs.Tryz
open Go Go.Av
set_option maxRecDepth 10000
set_option linter.unusedSimpArgs false
set_option linter.unusedVariables false
variable {W0 : World}

theorem shape_cause : eqShape prog 40 = some [1, 1, 1] := by kernel_rfl
/-- The packages that every program must know. -/
def axA : Pkg := { awA with dep := [[⟨[98, 98], 0, []⟩], [⟨[99, 99], 0, []⟩]], con := [] }
def axB : Pkg := { awB with dep := [], con := [⟨[99, 99], 0, []⟩] }
def axC : Pkg := { awC with dep := [], con := [] }
def axL : List Pkg := [axA, axB, axC]
theorem ax_may : mayAll axL = 0 := by decide +kernel
theorem ax_some : someA axL (causesA axL 3) 0 = false := by decide +kernel
theorem ax_why : whyL axL 0 = [(0, 2, 0), (0, 2, 1), (1, 3, 0)] := by decide +kernel

theorem l20_awake : PureFn prog W0 9 [] (.bool true) := by
  refine fn_pure [0] [] func9 rfl rfl ntmps9 rfl rfl (.bool _) fun hs σ => ?_
  simp only [go_sem, simprocAttr, ↓reduceIte]
  refine CallA.fn ((ex_why axL (fun p hp => ?_) (by decide) 0).weak (.cons (.sub (subB_sound (n := 10) (by kernel_rfl))) (.cons (.refl _) .nil))) ?_
  · simp [axL] at hp
    rcases hp with rfl | rfl | rfl <;> exact ⟨by decide, by decide, by decide⟩
  have e : whyAV axL 0 = .tup [causesAV [(0, 2, 0), (0, 2, 1), (1, 3, 0)], .bool true, .int .i64 0] := by
    unfold whyAV
    rw [if_pos ax_may, if_pos (by decide), if_neg (by rw [show ((0 : Int).toNat) = 0 from rfl, show axL.length = 3 from rfl, ax_some]; simp)]
    rw [show ((0 : Int).toNat) = 0 from rfl, ax_why]
  rw [e]
  have a2 : ∀ (x y z : AV) (l : List AV), atV (x :: y :: z :: l) 2 = z := fun _ _ _ _ => rfl
  simp only [go_sem, simprocAttr, ↓reduceIte, causesAV, causeAV, a2, binV_aeql, eqAgg_K shape_cause, eqKs, eqK1, Option.map_some, Option.getD_some, Option.isSome_some]
  done
end Go.Proofs.Tryz
end
section
set_option linter.unusedSimpArgs false
set_option linter.unusedVariables false
namespace Go.Proofs.Tryz
open Go Go.Av
set_option maxRecDepth 10000
set_option linter.unusedSimpArgs false
set_option linter.unusedVariables false
variable {W0 : World}

theorem light_con {all : List Pkg} (h : lightL 0 all = true) : ∀ p ∈ all, p.con.length ≤ 1000 := fun p hp => by
  have := lightL_get h p hp
  omega
end Go.Proofs.Tryz
end
section
set_option linter.unusedSimpArgs false
set_option linter.unusedVariables false
namespace Go.Proofs.Tryz
open Go Go.Av
set_option maxRecDepth 10000
set_option linter.unusedSimpArgs false
set_option linter.unusedVariables false
variable {W0 : World}

end Go.Proofs.Tryz
end
section
set_option linter.unusedSimpArgs false
set_option linter.unusedVariables false
namespace Go.Proofs.Tryz
open Go Go.Av
set_option maxRecDepth 10000
set_option linter.unusedSimpArgs false
set_option linter.unusedVariables false
variable {W0 : World}

def natI (c : Nat × Nat × Nat) : Int × Int × Int := ((c.1 : Nat), (c.2.1 : Nat), (c.2.2 : Nat))
def causeI (c : Int × Int × Int) : AV := .agg 40 [.int .i64 c.1, .int .i64 c.2.1, .int .i64 c.2.2]
def causesI (l : List (Int × Int × Int)) : AV := .sl 40 (l.map causeI)
def intsAV (l : List Int) : AV := .sl 3 (l.map (.int .i64))
def nameI (all : List Pkg) (i : Int) : Option (List UInt8) := nameO all i.toNat
def inR (all : List Pkg) (t : List Int) : Prop := ∀ i ∈ t, 0 ≤ i ∧ i < all.length
/-- Is that a relation? -/
def isB (all : List Pkg) (c : Int × Int × Int) : Bool := decide (0 ≤ c.1 ∧ 1 ≤ c.2.1 ∧ c.2.1 ≤ 4 ∧ 0 ≤ c.2.2) && (match all[c.1.toNat]? with
  | some p => decide (c.2.2 < kindN p c.2.1.toNat)
  | none => false)
theorem isB_iff {all : List Pkg} {c : Int × Int × Int} : isB all c = true ↔ ∃ d, natI d = c ∧ ValidC all d := by
  obtain ⟨i, d, k⟩ := c
  unfold isB
  simp only [Bool.and_eq_true, decide_eq_true_eq]
  constructor
  · rintro ⟨⟨h1, h2, h3, h4⟩, h5⟩
    split at h5
    · rename_i p hp
      simp only [decide_eq_true_eq] at h5
      refine ⟨(i.toNat, d.toNat, k.toNat), ?_, p, hp, by simp only; omega, by simp only; omega, by simp only; omega⟩
      simp only [natI, Prod.mk.injEq]
      omega
    · cases h5
  · rintro ⟨⟨a, b, c⟩, he, p, hp, h1, h2, h3⟩
    simp only [natI, Prod.mk.injEq] at he hp h1 h2 h3
    obtain ⟨rfl, rfl, rfl⟩ := he
    simp only [Int.toNat_natCast, hp, decide_eq_true_eq]
    exact ⟨by omega, by omega⟩
theorem isB_nat {all : List Pkg} : ∀ {e : List (Int × Int × Int)}, (∀ c ∈ e, isB all c = true) → ∃ en : List (Nat × Nat × Nat), e = en.map natI ∧ ∀ c ∈ en, ValidC all c
  | [], _ => ⟨[], rfl, by simp⟩
  | c :: e, h => by
    obtain ⟨en, h1, h2⟩ := isB_nat (e := e) fun x hx => h x (by simp [hx])
    obtain ⟨d, h3, h4⟩ := isB_iff.1 (h c (by simp))
    refine ⟨d :: en, by rw [h1, ← h3]; rfl, fun x hx => ?_⟩
    rcases List.mem_cons.1 hx with rfl | hx
    · exact h4
    · exact h2 x hx
theorem inR_nat {all : List Pkg} {t : List Int} (h : inR all t) : ∃ tn : List Nat, t = tn.map (fun j : Nat => (j : Int)) ∧ ∀ j ∈ tn, j < all.length := by
  refine ⟨t.map Int.toNat, ?_, fun j hj => ?_⟩
  · rw [List.map_map]
    refine (List.map_id t).symm.trans (List.map_congr_left fun x hx => ?_)
    have := h x hx
    simp only [Function.comp, id]
    omega
  · obtain ⟨x, hx, rfl⟩ := List.mem_map.1 hj
    have := h x hx
    omega
/-- Do places hold under relations, whatever they are? -/
def holdsI (all : List Pkg) (e : List (Int × Int × Int)) (t : List Int) : Bool := (t.all fun i => decide (0 ≤ i ∧ i < all.length)) && e.all (isB all) && underP all (e.map fun c => (c.1.toNat, c.2.1.toNat, c.2.2.toNat)) (t.map Int.toNat)
theorem holdsI_nat {all : List Pkg} {e : List (Nat × Nat × Nat)} {t : List Nat} (ht : ∀ j ∈ t, j < all.length) (he : ∀ c ∈ e, ValidC all c) : holdsI all (e.map natI) (t.map fun j : Nat => (j : Int)) = underP all e t := by
  have h1 : (t.map fun j : Nat => (j : Int)).all (fun i => decide (0 ≤ i ∧ i < all.length)) = true := by
    rw [List.all_eq_true]
    intro x hx
    obtain ⟨j, hj, rfl⟩ := List.mem_map.1 hx
    have := ht j hj
    simp only [decide_eq_true_eq]
    omega
  have h2 : (e.map natI).all (isB all) = true := by
    rw [List.all_eq_true]
    intro x hx
    obtain ⟨c, hc, rfl⟩ := List.mem_map.1 hx
    exact isB_iff.2 ⟨c, rfl, he c hc⟩
  have h3 : (e.map natI).map (fun c => (c.1.toNat, c.2.1.toNat, c.2.2.toNat)) = e := by
    rw [List.map_map]
    exact (List.map_congr_left fun c _ => by simp [natI]).trans (List.map_id e)
  have h4 : (t.map fun j : Nat => (j : Int)).map Int.toNat = t := by
    rw [List.map_map]
    exact (List.map_congr_left fun c _ => by simp).trans (List.map_id t)
  rw [holdsI, h1, h2, h3, h4]
  rfl
theorem holdsI_out {all : List Pkg} {e : List (Int × Int × Int)} {t : List Int} {i : Int} (hi : i ∈ t) (h : i < 0 ∨ (all.length : Int) ≤ i) : holdsI all e t = false := by
  have : (t.all fun i => decide (0 ≤ i ∧ i < all.length)) = false := by
    rw [List.all_eq_false]
    refine ⟨i, hi, ?_⟩
    simp only [decide_eq_true_eq]
    omega
  rw [holdsI, this]
  rfl
theorem holdsI_bad {all : List Pkg} {e : List (Int × Int × Int)} {t : List Int} {c : Int × Int × Int} (hc : c ∈ e) (h : isB all c = false) : holdsI all e t = false := by
  have : e.all (isB all) = false := by
    rw [List.all_eq_false]
    exact ⟨c, hc, by simp [h]⟩
  rw [holdsI, this, Bool.and_false]
  rfl
theorem holdsI_dup {all : List Pkg} {e : List (Int × Int × Int)} {t : List Int} {b : Nat} {i j : Int} (hi : t[b]? = some i) (hj : j ∈ t.take b) (h : nameI all j = nameI all i) : holdsI all e t = false := by
  have h1 : (t.map Int.toNat)[b]? = some i.toNat := by rw [List.getElem?_map, hi]; rfl
  have h2 : j.toNat ∈ (t.map Int.toNat).take b := by rw [← List.map_take]; exact List.mem_map.2 ⟨j, hj, rfl⟩
  rw [holdsI, underP_ff h1 h2 h, Bool.and_false]

theorem r10_isI (all : List Pkg) (c : Int × Int × Int) : PureFn prog W0 37 [pkgsAV all, causeI c] (.bool (isB all c)) := by
  by_cases hv : isB all c = true
  · obtain ⟨⟨i, d, k⟩, rfl, p, hp, h1, h2, h3⟩ := isB_iff.1 hv
    rw [hv]
    exact r10_is all hp h1 h2 h3
  obtain ⟨i, d, k⟩ := c
  have hf : isB all (i, d, k) = false := by simpa using hv
  rw [hf]
  by_cases hg : 0 ≤ i ∧ i < all.length ∧ 1 ≤ d ∧ d ≤ 4 ∧ 0 ≤ k
  case neg =>
    refine fn_pure [4] [3, 5] func37 rfl rfl ntmps37 rfl rfl (.bool _) fun hs σ => ?_
    simp only [go_sem, simprocAttr, ↓reduceIte, pkgsAV, causeI, List.length_map]
    intro h
    exfalso
    simp only [Bool.or_eq_false_iff, decide_eq_false_iff_not] at h
    omega
  obtain ⟨g1, g2, g3, g4, g5⟩ := hg
  obtain ⟨i, rfl⟩ : ∃ n : Nat, i = n := ⟨i.toNat, by omega⟩
  obtain ⟨d, rfl⟩ : ∃ n : Nat, d = n := ⟨d.toNat, by omega⟩
  obtain ⟨k, rfl⟩ : ∃ n : Nat, k = n := ⟨k.toNat, by omega⟩
  have hi : i < all.length := by omega
  obtain ⟨p, hp⟩ := get_some hi
  have hk : ¬ k < kindN p d := fun h => hv (isB_iff.2 ⟨(i, d, k), rfl, p, hp, by simp only; omega, by simp only; omega, h⟩)
  refine fn_pure [4] [3, 5] func37 rfl rfl ntmps37 rfl rfl (.bool _) fun hs σ => ?_
  have e1 : decide ((i : Int) < 0) = false := decide_eq_false (by omega)
  have e2 : decide ((all.length : Int) ≤ i) = false := decide_eq_false (by omega)
  have e3 : decide ((d : Int) < 1) = false := decide_eq_false (by omega)
  have e4 : decide ((4 : Int) < d) = false := decide_eq_false (by omega)
  have e5 : decide ((k : Int) < 0) = false := decide_eq_false (by omega)
  have e8 : d < 5 := by omega
  have e6 := kind_ix (p := p) e8
  have e7 : ¬ (k : Int) < kindN p d := by omega
  simp only [go_sem, simprocAttr, ↓reduceIte, pkgsAV, causeI, List.length_map, e1, e2, e3, e4, e5]
  refine fun _ => ⟨hi, ?_⟩
  simp only [go_sem, simprocAttr, ↓reduceIte, pkgAV, atV_map hp, clausesAV, atomsAV, List.length_map, e6, e7, e8]
  exact .of (by kernel_rfl)

theorem r10_UnderI (all : List Pkg) (e : List (Int × Int × Int)) (t : List Int) (hn : t.length ≤ 1048576) (hl : ∀ p ∈ all, p.con.length ≤ 1000) (hel : e.length ≤ 1048576) : PureFn prog W0 18 [pkgsAV all, causesI e, intsAV t] (.bool (holdsI all e t)) := by
  refine fn_pure [6] [12, 14] func18 rfl rfl ntmps18 rfl rfl (.bool _) fun hs σ => ?_
  simp only [go_sem, simprocAttr, ↓reduceIte, pkgsAV, causesI, intsAV, List.length_map]
  refine LoopVC.at [0, 1, 2] (.of (by kernel_rfl)) (fun A => Ext σ A.st ∧ inR all t ∧ t.Pairwise fun x y => nameI all x ≠ nameI all y) ?_ fun B ⟨hst, hR, hP⟩ => ?_
  · refine LoopVC.upto [0, 1, 2, 17, 18] (.of (by kernel_rfl)) t.length (fun b A => A.env 19 = .int .i64 b ∧ Ext σ A.st ∧ inR all (t.take b) ∧ (t.take b).Pairwise fun x y => nameI all x ≠ nameI all y) 0 (Nat.zero_le _) ?_ fun b B hb ⟨h19, hst, hR, hP⟩ => ?_
    · simp only [go_sem, simprocAttr, ↓reduceIte]
      exact ⟨.refl _, fun x hx => by simp at hx, by simp⟩
    simp only [go_sem, simprocAttr, ↓reduceIte, h19, List.length_map]
    refine ⟨fun hb2 => ?_, fun hb2 => ?_⟩
    · obtain ⟨i, hi⟩ := get_some hb2
      simp only [go_sem, simprocAttr, ↓reduceIte, h19, atV_map hi, List.length_map]
      have hlen : (t.take b).length = b := by rw [List.length_take]; omega
      simp only [← List.map_take, List.length_map, hlen]
      refine ⟨hb2, fun h => ⟨weak_bool (holdsI_out (List.mem_of_getElem? hi) ?_).symm, hst⟩, fun h => ⟨⟨Nat.zero_le _, hb⟩, ?_⟩⟩
      · simp only [Bool.or_eq_true, decide_eq_true_eq] at h
        omega
      have hil : 0 ≤ i ∧ i < all.length := by
        simp only [Bool.or_eq_false_iff, decide_eq_false_iff_not] at h
        omega
      obtain ⟨p, hp⟩ := get_some (l := all) (show i.toNat < all.length by omega)
      have hit : ((i.toNat : Nat) : Int) = i := by omega
      refine LoopVC.ats [0, 1, 2, 17, 18, 19] (.of (by kernel_rfl)) (fun A => Ext σ A.st ∧ ∀ y ∈ t.take b, nameI all y ≠ nameI all i) ?_ fun C ⟨hst, hQ⟩ => ?_
      · refine LoopVC.upto [0, 1, 2, 8, 17, 18, 19, 34, 35] (.of (by kernel_rfl)) b (fun a A => A.env 36 = .int .i64 a ∧ Ext σ A.st ∧ ∀ y ∈ (t.take b).take a, nameI all y ≠ nameI all i) 0 (Nat.zero_le _) ?_ fun a C ha ⟨h36, hst, hQ⟩ => ?_
        · simp only [go_sem, simprocAttr, ↓reduceIte]
          exact ⟨hst, fun y hy => by simp at hy⟩
        simp only [go_sem, simprocAttr, ↓reduceIte, h36]
        refine ⟨fun ha2 => ?_, fun ha2 => ?_⟩
        · obtain ⟨j, hj⟩ := get_some (l := t.take b) (show a < (t.take b).length by rw [hlen]; exact ha2)
          have hjt : j ∈ t := List.mem_of_mem_take (List.mem_of_getElem? hj)
          have hjl := hR j (List.mem_of_getElem? hj)
          obtain ⟨q, hq⟩ := get_some (l := all) (show j.toNat < all.length by omega)
          have aq : atV (all.map pkgAV) j = pkgAV q := by have := atV_map (f := pkgAV) hq; rwa [show ((j.toNat : Nat) : Int) = j by omega] at this
          have ap : atV (all.map pkgAV) i = pkgAV p := by have := atV_map (f := pkgAV) hp; rwa [hit] at this
          have n1 : i.toNat < all.length := by omega
          have n2 : j.toNat < all.length := by omega
          simp only [go_sem, simprocAttr, ↓reduceIte, h36, atV_map hj, hlen, List.length_map, aq, ap, pkgAV, hil.1, hjl.1, n1, n2]
          have en : nameI all j = nameI all i ↔ q.name = p.name := by simp [nameI, nameO, hq, hp]
          refine ⟨ha2, .of (by kernel_rfl), fun h => ⟨weak_bool ?_, hst⟩, fun h => ⟨ha2, int_succ ha2 (by rw [maxLen_eq]; omega), hst, fun y hy => ?_⟩⟩
          · rw [holdsI_dup hi (List.mem_of_getElem? hj)]
            rcases (Bool.or_eq_true _ _ ▸ h : _ = true ∨ _ = true) with h | h
            · have : j = i := eq_of_beq h
              rw [this]
            · exact en.2 (by simpa using h)
          · rw [take_succ_get hj] at hy
            rcases List.mem_append.1 hy with h1 | h1
            · exact hQ y h1
            · rw [List.mem_singleton.1 h1, en]
              intro h2
              simp [h2] at h
        · rw [List.take_of_length_le (by omega)] at hQ
          exact ⟨hst, hQ⟩
      simp only [go_sem, simprocAttr, ↓reduceIte, h19]
      refine ⟨hb2, int_succ hb2 (by rw [maxLen_eq]; omega), hst, fun x hx => ?_, (pair_take hi).2 ⟨hP, hQ⟩⟩
      rw [take_succ_get hi] at hx
      rcases List.mem_append.1 hx with h1 | h1
      · exact hR x h1
      · rw [List.mem_singleton.1 h1]; exact hil
    · rw [List.take_of_length_le hb2] at hP hR
      exact ⟨hst, hR, hP⟩
  simp only [go_sem, simprocAttr, ↓reduceIte, causesI, List.length_map]
  refine LoopVC.at [0, 1, 2] (.of (by kernel_rfl)) (fun A => Ext σ A.st ∧ ∀ c ∈ e, isB all c = true) ?_ fun B ⟨hst, hE⟩ => ?_
  · refine LoopVC.upto [0, 1, 2, 58, 59] (.of (by kernel_rfl)) e.length (fun b A => A.env 60 = .int .i64 b ∧ Ext σ A.st ∧ ∀ c ∈ e.take b, isB all c = true) 0 (Nat.zero_le _) ?_ fun b B hb ⟨h60, hst, hE⟩ => ?_
    · simp only [go_sem, simprocAttr, ↓reduceIte]
      exact ⟨hst, fun c hc => by simp at hc⟩
    simp only [go_sem, simprocAttr, ↓reduceIte, h60, List.length_map]
    refine ⟨fun hb2 => ?_, fun hb2 => ⟨hst, by rw [List.take_of_length_le hb2] at hE; exact hE⟩⟩
    obtain ⟨c, hc⟩ := get_some hb2
    simp only [go_sem, simprocAttr, ↓reduceIte, h60, atV_map hc, causeI]
    refine ⟨hb2, CallA.fn (r10_isI all c) ?_⟩
    simp only [go_sem, simprocAttr, ↓reduceIte, h60]
    refine ⟨fun hf => ⟨weak_bool (holdsI_bad (List.mem_of_getElem? hc) hf).symm, hst.app _⟩, fun ht => ⟨hb2, int_succ hb2 (by rw [maxLen_eq]; omega), hst.app _, fun x hx => ?_⟩⟩
    rw [take_succ_get hc] at hx
    rcases List.mem_append.1 hx with h1 | h1
    · exact hE x h1
    · rw [List.mem_singleton.1 h1]; exact ht
  obtain ⟨tn, rfl, htn⟩ := inR_nat hR
  obtain ⟨en, rfl, hen⟩ := isB_nat hE
  rw [holdsI_nat htn hen]
  have hP2 : tn.Pairwise fun x y => nameO all x ≠ nameO all y := by
    rw [List.pairwise_map] at hP
    exact hP
  rw [List.length_map] at hn hel
  clear hP hR hE
  generalize tn = t at *
  generalize en = e at *
  have ht := htn
  have he := hen
  have hP := hP2
  have ec : (e.map natI).map causeI = e.map causeAV := by rw [List.map_map]; rfl
  have et : (t.map fun j : Nat => (j : Int)).map (AV.int .i64) = t.map fun k : Nat => AV.int .i64 (k : Nat) := by rw [List.map_map]; rfl
  simp only [go_sem, simprocAttr, ↓reduceIte, causesI, intsAV, List.length_map, ec, et]
  refine LoopVC.at [] (.of (by kernel_rfl)) (fun A => Ext σ A.st ∧ ∀ c ∈ e, (!decide (c.1 ∈ t) || underC all c t) = true) ?_ fun B ⟨hst, hQ⟩ => ?_
  · refine LoopVC.upto [0, 2, 69, 70] (.of (by kernel_rfl)) e.length (fun b A => A.env 71 = .int .i64 b ∧ Ext σ A.st ∧ ∀ c ∈ e.take b, (!decide (c.1 ∈ t) || underC all c t) = true) 0 (Nat.zero_le _) ?_ fun b B hb ⟨h71, hst, hQ⟩ => ?_
    · simp only [go_sem, simprocAttr, ↓reduceIte]
      exact ⟨hst, fun c hc => by simp at hc⟩
    simp only [go_sem, simprocAttr, ↓reduceIte, h71, List.length_map]
    refine ⟨fun hb2 => ?_, fun hb2 => ?_⟩
    · obtain ⟨c, hc⟩ := get_some hb2
      have hv := he c (List.mem_of_getElem? hc)
      have hcall := r10_underC (W0 := W0) all t ht hn hl hv
      simp only [go_sem, simprocAttr, ↓reduceIte, h71, atV_map hc, causeAV, nlAV, List.length_map]
      refine ⟨hb2, ?_⟩
      refine LoopVC.ats [0, 2, 69, 70, 71] (.of (by kernel_rfl)) (fun A => Ext σ A.st ∧ (!decide (c.1 ∈ t) || underC all c t) = true) ?_ fun C ⟨hst, hR⟩ => ?_
      · refine LoopVC.upto [0, 2, 14, 69, 70, 71, 75, 76] (.of (by kernel_rfl)) t.length (fun a A => A.env 77 = .int .i64 a ∧ Ext σ A.st ∧ (c.1 ∈ t.take a → underC all c t = true)) 0 (Nat.zero_le _) ?_ fun a C ha ⟨h77, hst, hR⟩ => ?_
        · simp only [go_sem, simprocAttr, ↓reduceIte]
          exact ⟨hst.app _, fun h => by simp at h⟩
        simp only [go_sem, simprocAttr, ↓reduceIte, h77, List.length_map]
        refine ⟨fun ha2 => ?_, fun ha2 => ?_⟩
        · obtain ⟨j, hj⟩ := get_some ha2
          simp only [go_sem, simprocAttr, ↓reduceIte, h77, atV_map hj, List.length_map]
          refine ⟨ha2, CallP.fnG (fun _ => hcall) ?_⟩
          simp only [go_sem, simprocAttr, ↓reduceIte, h77]
          refine ⟨fun h => ⟨weak_bool ?_, hst⟩, fun h => ⟨ha2, int_succ ha2 (by rw [maxLen_eq]; omega), hst, fun hm => ?_⟩⟩
          · simp only [Bool.and_eq_true, beq_iff_eq] at h
            have ej : c.1 = j := by omega
            unfold underP
            rw [eq_comm, Bool.and_eq_false_iff]
            right
            rw [List.all_eq_false]
            refine ⟨c, List.mem_of_getElem? hc, ?_⟩
            have hm : c.1 ∈ t := by rw [ej]; exact List.mem_of_getElem? hj
            have h2 := h.2
            simp [hm]
            simpa using h2
          · rw [take_succ_get hj] at hm
            rcases List.mem_append.1 hm with h1 | h1
            · exact hR h1
            · rw [List.mem_singleton.1 h1] at h
              simpa using h
        · rw [List.take_of_length_le ha2] at hR
          refine ⟨hst, ?_⟩
          by_cases hm : c.1 ∈ t
          · simp [hR hm]
          · simp [hm]
      simp only [go_sem, simprocAttr, ↓reduceIte, h71]
      refine ⟨hb2, int_succ hb2 (by rw [maxLen_eq]; omega), hst, fun x hx => ?_⟩
      rw [take_succ_get hc] at hx
      rcases List.mem_append.1 hx with h1 | h1
      · exact hQ x h1
      · rw [List.mem_singleton.1 h1]
        exact hR
    · rw [List.take_of_length_le hb2] at hQ
      exact ⟨hst, hQ⟩
  simp only [go_sem, simprocAttr, ↓reduceIte]
  refine ⟨weak_bool ?_, hst⟩
  unfold underP
  rw [decide_eq_true hP, Bool.true_and, eq_comm, List.all_eq_true]
  exact hQ
end Go.Proofs.Tryz
end
section
set_option linter.unusedSimpArgs false
set_option linter.unusedVariables false
namespace Go.Av
/-- A row that a call has made since the store was σ, whole; or none yet. -/
def RowX (σ st : Store) (v : AV) (e : TypeId) (xs : List AV) : Prop := (v = .nils ∧ xs = []) ∨ ∃ id, v = .row e id 0 xs.length ∧ st[id]? = some (some (.cells e xs)) ∧ σ.length ≤ id
section
variable {P : Program} {σ st : Store} {v : AV} {e : TypeId} {xs : List AV}
theorem RowX.rs (h : RowX σ st v e xs) : RowSt st v e xs := by
  rcases h with h | ⟨id, rfl, h, _⟩
  · exact .inl h
  · exact .inr (.inr ⟨id, 0, _, xs, rfl, h, by omega, by rw [List.drop_zero, List.take_of_length_le (Nat.le_refl _)]⟩)
theorem RowX.more (h : RowX σ st v e xs) (l : Store) : RowX σ (st ++ l) v e xs := by
  rcases h with h | ⟨id, h1, h2, h3⟩
  · exact .inl h
  · exact .inr ⟨id, h1, by rw [List.getElem?_append_left ((List.getElem?_eq_some_iff.1 h2).1)]; exact h2, h3⟩
end
theorem AppA.rowX {P : Program} {A : AState} {σ : Store} {t u e : TypeId} {x y : AV} {xs ys : List AV} {dst : Option Nat} {k : AState → Prop} (N : Nat) (ho : appB P t u e N = true) (hx : Ext σ A.st) (h : RowX σ A.st x e xs) (hy : ReadL A.st y e ys) (hN : xs.length + ys.length ≤ N)
    (hk : ∀ v st', Ext σ st' → RowX σ st' v e (xs ++ ys) → k ((A.put dst v).withSt st')) : AppA P [t, u] [x, y] dst A k .mk := by
  refine AppA.row N ho h.rs hy hN (fun he => hk _ _ hx (by rw [he, List.append_nil]; exact h)) fun he => hk _ _ ?_ (.inr ⟨A.st.length, by rw [List.length_append], ?_, hx.le⟩)
  · refine Ext.app ?_ _
    rcases h with ⟨rfl, _⟩ | ⟨id, rfl, _, h3⟩
    · exact hx
    · exact hx.set h3 _
  · have : (killOf x A.st).length = A.st.length := by unfold killOf; split <;> simp
    rw [← this, List.getElem?_append_right (Nat.le_refl _), Nat.sub_self]
    rfl
end Go.Av
namespace Go.Proofs.Tryz
open Go Go.Av
set_option maxRecDepth 10000
set_option linter.unusedSimpArgs false
set_option linter.unusedVariables false
variable {W0 : World}

/-- Those that meet a relation, as a row that may be written. -/
theorem ex_meetsR (all : List Pkg) {c : Nat × Nat × Nat} (hc : ValidC all c) (hal : all.length ≤ 1000000) (σ : Store) : ACall prog W0 23 [pkgsAV all, causeAV c] σ fun r σ' => Ext σ σ' ∧ RowX σ σ' r 3 ((meetsL all c).map fun m => .int .i64 (m : Nat)) := by
  obtain ⟨p, hp, v1, v2, v3⟩ := hc
  obtain ⟨i, d, k⟩ := c
  simp only at hp v1 v2 v3
  have hi := (List.getElem?_eq_some_iff.1 hp).1
  refine fn_call [4] [3, 8] func23 rfl rfl ntmps23 rfl rfl fun hs => ?_
  simp only [go_sem, simprocAttr, ↓reduceIte, pkgsAV, causeAV]
  refine JoinVC.at [0, 5] (by kernel_rfl) (fun A => (∃ v, A.env 6 = v ∧ (v = atomsAV (clauseO all (i, d, k)) ∨ v = .lit 50 ((clauseO all (i, d, k)).map atomAV))) ∧ A.st = σ) (fun h => ?_) (fun h => ?_) fun B ⟨⟨v, h6, hv⟩, hst⟩ => ?_
  · have hd : d = 1 ∨ d = 2 := by
      simp only [Bool.or_eq_true, beq_iff_eq] at h
      omega
    simp only [go_sem, simprocAttr, ↓reduceIte, List.length_map, atV_map hp]
    refine ⟨.of (by kernel_rfl), hi, ?_⟩
    have hg := clI_get hp hd v3
    have hgl := (List.getElem?_eq_some_iff.1 hg).1
    refine CallP.fn (ex_clauses p d) ?_
    simp only [go_sem, simprocAttr, ↓reduceIte, clausesAV, List.length_map, atV_map hg]
    exact ⟨hgl, _, rfl, .inl rfl⟩
  · have hd : d = 3 ∨ d = 4 := by
      simp only [Bool.or_eq_false_iff, beq_eq_false_iff_ne] at h
      omega
    simp only [go_sem, simprocAttr, ↓reduceIte, List.length_map, atV_map hp]
    refine ⟨.of (by kernel_rfl), hi, ?_⟩
    obtain ⟨a, hg, hca⟩ := atI_get hp hd v3
    have hgl := (List.getElem?_eq_some_iff.1 hg).1
    refine CallP.fn (ex_atoms p d) ?_
    simp only [go_sem, simprocAttr, ↓reduceIte, atomsAV, List.length_map, atV_map hg]
    exact ⟨hgl, _, rfl, .inr (by rw [hca]; rfl)⟩
  generalize hcl : clauseO all (i, d, k) = cl at hv
  have hvw : Weak v (atomsAV cl) := by
    rcases hv with rfl | rfl
    · exact .refl _
    · exact .lit _ _
  have hvo : ∀ g, okM g v = True := fun g => by rcases hv with rfl | rfl <;> rfl
  have hvu : unm v = v := by rcases hv with rfl | rfl <;> rfl
  have hml : meetsL all (i, d, k) = meetsN all cl all.length := by rw [meetsL, hcl]
  rw [hml]
  simp only [go_sem, simprocAttr, ↓reduceIte, h6, hst, hvo, hvu, List.length_map]
  refine LoopVC.at [6, 43, 44] (.of (by kernel_rfl)) (fun A => ∃ u, A.env 5 = u ∧ Ext σ A.st ∧ RowX σ A.st u 3 ((meetsN all cl all.length).map fun m => .int .i64 (m : Nat))) ?_ fun B2 ⟨u, h5, hst, hb⟩ => ?_
  · refine LoopVC.upto [6, 43, 44] (.of (by kernel_rfl)) all.length (fun m A => A.env 45 = .int .i64 m ∧ ∃ u, A.env 5 = u ∧ Ext σ A.st ∧ RowX σ A.st u 3 ((meetsN all cl m).map fun m => .int .i64 (m : Nat))) 0 (Nat.zero_le _) ?_ fun m B2 hm ⟨h45, u, h5, hst2, hb⟩ => ?_
    · simp only [go_sem, simprocAttr, ↓reduceIte, hst]
      exact ⟨_, rfl, .refl _, .inl ⟨rfl, rfl⟩⟩
    have o1 := hb.rs.ok
    have o2 := hb.rs.un
    simp only [go_sem, simprocAttr, ↓reduceIte, h45, h5, o1, o2, List.length_map, h6]
    refine ⟨fun hlt => ⟨hlt, ?_⟩, fun hge => ⟨_, rfl, hst2, (show m = all.length by omega) ▸ hb⟩⟩
    obtain ⟨q, hq⟩ := get_some hlt
    simp only [go_sem, simprocAttr, ↓reduceIte, atV_map hq, h45, h5, o1, o2, h6, hvo, hvu]
    refine CallA.fn ((anAtomC atomAV NotM.atom cl (satP q) _ [.loc 56 (pkgAV q)] (fun a _ => ex_meets1 q a)).weak (.cons hvw (.cons (.refl _) .nil))) ?_
    simp only [go_sem, simprocAttr, ↓reduceIte, h45, h5, o1, o2]
    have hn := meetsN_succ all cl m hq
    have hln := meetsN_len all cl m
    refine ⟨fun hs => ?_, fun hs => ⟨hlt, int_succ hlt (by rw [maxLen_eq]; omega), _, rfl, hst2.app _, by rw [hn, hs, if_neg (by simp), List.append_nil]; exact hb.more _⟩⟩
    refine AppA.rowX (σ := σ) 1048576 (by kernel_rfl) (hst2.app _) (hb.more _) (.inl rfl) (by simp; omega) fun v' σ' hx' hb' => ?_
    simp only [go_sem, simprocAttr, ↓reduceIte, h45, hb'.rs.ok, hb'.rs.un]
    refine ⟨hlt, int_succ hlt (by rw [maxLen_eq]; omega), _, rfl, hx', ?_⟩
    rw [hn, hs, if_pos rfl, List.map_append]
    exact hb'
  simp only [go_sem, simprocAttr, ↓reduceIte, h5, hb.rs.ok, hb.rs.un]
  refine EndR.ret ?_
  simp only [go_sem, simprocAttr, ↓reduceIte, h5]
  exact ⟨_, .refl _, hst.le, hst, hb⟩
end Go.Proofs.Tryz
end
section
set_option linter.unusedSimpArgs false
set_option linter.unusedVariables false
namespace Go.Proofs.Tryz
open Go Go.Av
set_option maxRecDepth 10000
set_option linter.unusedSimpArgs false
set_option linter.unusedVariables false
variable {W0 : World}

def eN (m : Nat) : AV := .int .i64 (m : Nat)
theorem NotM.eN (m : Nat) : NotM (eN m) := trivial
theorem idx_cases (q : Nat → Bool) (l : List Nat) : (idxL q l = -1 ∧ ∀ a ∈ l, q a = false) ∨ ∃ i a, l[i]? = some a ∧ q a = true ∧ (∀ b ∈ l.take i, q b = false) ∧ idxL q l = (i : Nat) := by
  by_cases h : ∀ a ∈ l, q a = false
  · exact .inl ⟨idxL_none h, h⟩
  · right
    have hex : ∃ a ∈ l, q a = true := by
      refine Classical.byContradiction fun hn => h fun a ha => ?_
      cases hq : q a with
      | false => rfl
      | true => exact (hn ⟨a, ha, hq⟩).elim
    have hlt : l.findIdx q < l.length := List.findIdx_lt_length.2 hex
    obtain ⟨a, ha⟩ := get_some hlt
    have hqa : q a = true := by
      have := List.findIdx_getElem (w := hlt)
      rwa [(List.getElem?_eq_some_iff.1 ha).2] at this
    have hb : ∀ b ∈ l.take (l.findIdx q), q b = false := fun b hb => by
      obtain ⟨m, hm⟩ := List.mem_iff_getElem?.1 hb
      rw [List.getElem?_take] at hm
      split at hm
      · rename_i hml
        have := List.not_of_lt_findIdx hml
        rw [(List.getElem?_eq_some_iff.1 hm).2] at this
        simpa using this
      · cases hm
    exact ⟨_, a, ha, hqa, hb, idxL_at ha hqa hb⟩

theorem ix_rowI (σ : Store) (id : Nat) (l : List Nat) (hid : σ[id]? = some (some (.cells 3 (l.map eN)))) (q : Nat → Bool) (g : FuncId) (caps : List AV) (h : ∀ a ∈ l, PureFn prog W0 g ([eN a] ++ caps) (.bool (q a))) :
    ACall prog W0 63 [.row 3 id 0 l.length, .fn g caps] σ fun r σ' => r = .int .i64 (idxL q l) ∧ σ' = σ := by
  refine fn_st [4] [] func63 rfl rfl ntmps63 rfl rfl (.int _ _) fun hs => ?_
  have hl : l.length ≤ maxLen := by have := hs _ (List.mem_cons_self ..); cases this with | row h => exact h
  simp only [go_sem, simprocAttr, ↓reduceIte]
  refine LoopVC.upto [0, 1, 7] (.of (by kernel_rfl)) l.length (fun i A => A.env 8 = .int .i64 i ∧ A.st = σ ∧ ∀ a ∈ l.take i, q a = false) 0 (Nat.zero_le _) ?_ fun i B hi ⟨h8, hst, hI⟩ => ?_
  · simp only [go_sem, simprocAttr, ↓reduceIte]
    all_goals simp
  simp only [go_sem, simprocAttr, ↓reduceIte, h8, hst]
  refine ⟨fun hc => ?_, fun hc => EndR.ret ?_⟩
  · obtain ⟨a, ha⟩ := get_some hc
    have hla : Av.look σ id i [] = some (eN a) := by rw [look_id hid, List.getElem?_map, ha]; rfl
    simp only [go_sem, simprocAttr, ↓reduceIte, h8, hst, Nat.zero_add, hla, live_id hid, eN]
    refine ⟨hc, CallA.pure (h a (List.mem_of_getElem? ha)) ?_⟩
    simp only [go_sem, simprocAttr, ↓reduceIte, h8, hst]
    refine ⟨fun hq => EndR.ret ?_, fun hq => ⟨hc, int_succ hc hl, ?_⟩⟩
    · simp only [go_sem, simprocAttr, ↓reduceIte, hst]
      exact weak_int (idxL_at ha hq hI).symm
    rw [take_succ_get ha]
    intro b hb
    rcases List.mem_append.1 hb with hb | hb
    · exact hI b hb
    · rw [List.mem_singleton.1 hb]; exact hq
  · simp only [go_sem, simprocAttr, ↓reduceIte, hst]
    rw [idxL_none (by rwa [List.take_of_length_le hc] at hI)]
    exact .refl _

theorem sl_delInt {τ σ : Store} {v : AV} {l : List Nat} (hx : Ext τ σ) (hv : RowX τ σ v 3 (l.map eN)) (q : Nat → Bool) (g : FuncId) (caps : List AV) (h : ∀ a ∈ l, PureFn prog W0 g ([eN a] ++ caps) (.bool (q a))) :
    ACall prog W0 34 [v, .fn g caps] σ fun r σ' => Ext τ σ' ∧ r = nlAV (l.filter fun a => !q a) := by
  rcases hv with ⟨rfl, he⟩ | ⟨id, rfl, hid, hlo⟩
  · have hl0 : l = [] := by simpa using he
    subst hl0
    refine fn_call [4] [] func34 rfl rfl ntmps34 rfl rfl fun hs => ?_
    simp only [go_sem, simprocAttr, ↓reduceIte]
    refine CallA.fn ((ixInt eN NotM.eN [] q g caps (by simp)).weak (.cons (.nils _) (.cons (.refl _) .nil))) ?_
    rw [show idxL q [] = -1 from idxL_none (by simp)]
    simp only [go_sem, simprocAttr, ↓reduceIte]
    refine EndR.ret ?_
    simp only [go_sem, simprocAttr, ↓reduceIte]
    exact ⟨_, .nils _, hx, rfl⟩
  rw [List.length_map]
  have hidl : id < σ.length := (List.getElem?_eq_some_iff.1 hid).1
  refine fn_call [4] [] func34 rfl rfl ntmps34 rfl rfl fun hs => ?_
  have hl : l.length ≤ maxLen := by have := hs _ (List.mem_cons_self ..); cases this with | row h => exact h
  simp only [go_sem, simprocAttr, ↓reduceIte]
  refine CallA.goes (by simp only [go_sem, simprocAttr, ↓reduceIte]) (ix_rowI σ id l hid q g caps h) fun r σ' ⟨hr, hσ⟩ => ?_
  subst hr hσ
  rcases idx_cases q l with ⟨hi, hall⟩ | ⟨i, a, ha, hqa, hbef, hi⟩
  · rw [hi]
    simp only [go_sem, simprocAttr, ↓reduceIte]
    have hfl : (l.filter fun a => !q a) = l := List.filter_eq_self.2 fun a ha => by simp [hall a ha]
    refine EndR.frz (e := 3) (te := 3) (id := id) (off := 0) (m := l.length) (xs := l.map eN) 4 (by simp only [go_sem, simprocAttr, ↓reduceIte]) (by simp only [go_sem, simprocAttr, ↓reduceIte]; exact hid) (by simp) (EndR.ret ?_)
    simp only [go_sem, simprocAttr, ↓reduceIte]
    rw [hfl, List.take_of_length_le (by simp)]
    exact ⟨_, .refl _, by simp, hx.set hlo _, rfl⟩
  · rw [hi]
    have hil := (List.getElem?_eq_some_iff.1 ha).1
    have hne : ((i : Int) == -1) = false := by rw [beq_eq_false_iff_ne]; omega
    simp only [go_sem, simprocAttr, ↓reduceIte, hne]
    have hw : IntKind.i64.wrap ((i : Int) + 1) = ((i + 1 : Nat) : Int) := by rw [wrap_in (by rw [maxLen_eq] at hl; omega)]; omega
    rw [hw]
    refine LoopVC.at [0] (.of (by kernel_rfl)) (fun A => ∃ (p : Nat) (zs : List AV), A.env 5 = .int .i64 p ∧ A.st = σ'.set id (some (.cells 3 zs)) ∧ zs.length = l.length ∧ p ≤ l.length ∧ zs.take p = (l.filter fun a => !q a).map eN) ?_ fun B ⟨p, zs, h5, hst, hzl, hpl, hzt⟩ => ?_
    · refine LoopVC.upto [0, 1] (.of (by kernel_rfl)) l.length (fun j A => i < j ∧ A.env 6 = .int .i64 j ∧ ∃ (p : Nat) (zs : List AV), A.env 5 = .int .i64 p ∧ A.st = σ'.set id (some (.cells 3 zs)) ∧ zs.length = l.length ∧ p < j ∧ zs.take p = ((l.take j).filter fun a => !q a).map eN ∧ ∀ m, j ≤ m → zs[m]? = (l.map eN)[m]?) (i + 1) (by omega) ?_ fun j B hj ⟨hij, h6, p, zs, h5, hst, hzl, hpj, hzt, hzr⟩ => ?_
      · simp only [go_sem, simprocAttr, ↓reduceIte]
        refine ⟨by omega, i, l.map eN, rfl, (set_id hid).symm, by simp, by omega, ?_, fun m _ => rfl⟩
        rw [take_succ_get ha, List.filter_append, List.filter_eq_self.2 fun b hb => by simp [hbef b hb], List.map_append]
        simp [hqa, List.map_take]
      have hidl2 : id < (σ'.set id (some (.cells 3 zs))).length := by simpa using hidl
      simp only [go_sem, simprocAttr, ↓reduceIte, h6, h5, hst]
      refine ⟨fun hjl => ?_, fun hjl => ?_⟩
      · obtain ⟨b, hb⟩ := get_some hjl
        have hzj : zs[j]? = some (eN b) := by rw [hzr j (Nat.le_refl _), List.getElem?_map, hb]; rfl
        have hlk : Av.look (σ'.set id (some (.cells 3 zs))) id j [] = some (eN b) := by rw [look_set hidl, hzj]; rfl
        simp only [go_sem, simprocAttr, ↓reduceIte, h6, h5, hst, Nat.zero_add, hlk, live_set hidl, eN]
        refine ⟨hjl, CallA.pure (h b (List.mem_of_getElem? hb)) ?_⟩
        simp only [go_sem, simprocAttr, ↓reduceIte, h6, h5, hst]
        have hpl : p < l.length := by omega
        have hzp : (zs[p]?).isSome = true := by rw [List.getElem?_eq_getElem (by omega)]; rfl
        obtain ⟨y, hy⟩ := Option.isSome_iff_exists.1 hzp
        have hlp : Av.look (σ'.set id (some (.cells 3 zs))) id p [] = some y := by rw [look_set hidl, hy]; cases y <;> rfl
        refine ⟨fun hqb => ?_, fun hqb => ?_⟩
        · have hwp : IntKind.i64.wrap ((p : Int) + 1) = ((p + 1 : Nat) : Int) := by rw [wrap_in (by rw [maxLen_eq] at hl; omega)]; omega
          simp only [go_sem, simprocAttr, ↓reduceIte, h6, h5, hst, Nat.zero_add, hlp, live_set hidl, setLook_set hidl, hwp]
          refine ⟨by omega, hjl, by omega, int_succ hjl hl, p + 1, zs.set p (.int .i64 (b : Nat)), rfl, rfl, by simpa using hzl, by omega, ?_, fun m hm => ?_⟩
          · rw [take_succ_get hb, List.filter_append, List.map_append, ← hzt]
            have e1 : (zs.set p (AV.int .i64 (b : Nat)))[p]? = some (.int .i64 (b : Nat)) := List.getElem?_set_self (by omega)
            rw [take_succ_get e1, List.take_set_of_le (Nat.le_refl _)]
            simp [hqb]
            rfl
          · rw [List.getElem?_set_ne (by omega)]
            exact hzr m (by omega)
        · refine ⟨hjl, by omega, int_succ hjl hl, p, zs, rfl, rfl, hzl, by omega, ?_, fun m hm => hzr m (by omega)⟩
          rw [take_succ_get hb, List.filter_append, List.map_append, ← hzt]
          simp [hqb]
      · rw [List.take_of_length_le hjl] at hzt
        exact ⟨p, zs, rfl, rfl, hzl, by omega, hzt⟩
    simp only [go_sem, simprocAttr, ↓reduceIte, h5, hst]
    rw [Nat.zero_add]
    refine ⟨hpl, ClearA.row (v := .int .i64 0) (by kernel_rfl) (by simp only [go_sem, simprocAttr, ↓reduceIte]) (by kernel_rfl) (zs := zs) (by simp only [go_sem, simprocAttr, ↓reduceIte, hst]; simp [hidl]) (by omega) ?_⟩
    have hzc : (laidL zs p (List.replicate (l.length - p) (.int .i64 0))).take p = zs.take p := by
      unfold laidL
      rw [List.append_assoc, List.take_append_of_le_length (by simp; omega), List.take_of_length_le (by simp; omega)]
    simp only [go_sem, simprocAttr, ↓reduceIte, h5, hst, List.set_set]
    refine ⟨⟨Nat.zero_le _, hpl⟩, EndR.frz (e := 3) (te := 3) (id := id) (off := 0) (m := p) (xs := laidL zs p (List.replicate (l.length - p) (.int .i64 0))) 4 (by simp only [go_sem, simprocAttr, ↓reduceIte, Nat.sub_zero]) (by simp only [go_sem, simprocAttr, ↓reduceIte, hst]; simp [hidl]) (by rw [laidL_len (by simp; omega)]; omega) (EndR.ret ?_)⟩
    simp only [go_sem, simprocAttr, ↓reduceIte, hst, List.set_set]
    rw [hzc, hzt]
    exact ⟨_, .refl _, by simp, hx.set hlo _, rfl⟩
end Go.Proofs.Tryz
end
