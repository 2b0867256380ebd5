/- Texts that the last one of this claim rests on: a layer over the guide's own conditions for code; contracts of the functions that the law reaches, one by one. No conditions beside those of the given rows. -/
import Derived.Test.YtnblgnafgdmcaaaGreatDoorWbl
import Derived.Test.YtnblgnafgdmcaaaGreatDoorWbn
section
set_option linter.unusedSimpArgs false
set_option linter.unusedVariables false
namespace Go.Proofs.Tryz
open Go Go.Av
set_option maxRecDepth 10000
set_option linter.unusedSimpArgs false
set_option linter.unusedVariables false
variable {W0 : World}

theorem l20_light (l : List Pkg) (hp : ∀ p ∈ l, PkgR p) : PureFn prog W0 16 [pkgsAV l] (.bool (lightL 0 l)) := by
  refine fn_pure [2] [4] func16 rfl rfl ntmps16 rfl rfl (.bool _) fun hs σ => ?_
  have hl := (small_map (hs _ (List.mem_cons_self ..))).1
  have hls := (small_map (hs _ (List.mem_cons_self ..))).2
  simp only [go_sem, simprocAttr, ↓reduceIte, pkgsAV, List.length_map]
  refine LoopVC.upto [9, 10] (.of (by kernel_rfl)) l.length (fun i A => A.env 11 = .int .i64 i ∧ Ext σ A.st ∧ lightL i (l.drop i) = lightL 0 l) 0 (Nat.zero_le _) ?_ fun i B hi ⟨h8, hst, hI⟩ => ?_
  · simp only [go_sem, simprocAttr, ↓reduceIte]
    simp [Ext.refl]
  simp only [go_sem, simprocAttr, ↓reduceIte, h8, List.length_map]
  refine ⟨fun hc => ⟨hc, ?_⟩, fun hc => ?_⟩
  · obtain ⟨p, hpi⟩ := get_some hc
    simp only [atV_map hpi]
    have hR := hp p (List.mem_of_getElem? hpi)
    have r1 := hR.con; have r2 := hR.brk; have r3 := hR.prov
    rw [reach_eq] at r1 r2 r3
    have hw1 : IntKind.i64.wrap ((p.con.length : Int) + (p.brk.length : Int)) = ((p.con.length : Int) + (p.brk.length : Int)) := wrap_in (by omega)
    have hw2 : IntKind.i64.wrap ((p.con.length : Int) + (p.brk.length : Int) + (p.prov.length : Int)) = ((p.con.length : Int) + (p.brk.length : Int) + (p.prov.length : Int)) := wrap_in (by omega)
    rw [List.drop_eq_getElem_cons hc, lightL] at hI
    have hpe : l[i] = p := (List.getElem?_eq_some_iff.1 hpi).2
    rw [hpe] at hI
    simp only [go_sem, simprocAttr, ↓reduceIte, pkgAV, atomsAV, provsAV, h8, List.length_map, hw1, hw2]
    have e3 : [clausesAV p.pre, clausesAV p.dep, clausesAV p.rcm] = [p.pre, p.dep, p.rcm].map clausesAV := rfl
    refine ⟨fun hb => ⟨weak_bool ?_, hst.app _⟩, fun hb => ?_⟩
    · have : lightP i p = false := by
        unfold lightP
        simp only [Bool.or_eq_true, decide_eq_true_eq] at hb
        rcases hb with hb | hb
        · rw [decide_eq_false (show ¬ i < 26 by omega)]; rfl
        · rw [decide_eq_false (show ¬ p.con.length + p.brk.length + p.prov.length ≤ 40 by omega), Bool.and_false]; rfl
      rw [← hI, this]; rfl
    simp only [Bool.or_eq_false_iff, decide_eq_false_iff_not] at hb
    have hP : lightP i p = [p.pre, p.dep, p.rcm].all lightD := by
      unfold lightP
      rw [decide_eq_true (show i < 26 by omega), decide_eq_true (show p.con.length + p.brk.length + p.prov.length ≤ 40 by omega)]; rfl
    simp only [e3]
    have hds := hls p (List.mem_of_getElem? hpi)
    refine LoopVC.ats [9, 10, 11] (.of (by kernel_rfl)) (fun A => Ext σ A.st ∧ lightP i p = true) ?_ fun B2 ⟨hst, h6⟩ => ?_
    · refine LoopVC.upto [9, 10, 11, 38] (.of (by kernel_rfl)) 3 (fun j A => A.env 39 = .int .i64 j ∧ Ext σ A.st ∧ ([p.pre, p.dep, p.rcm].drop j).all lightD = [p.pre, p.dep, p.rcm].all lightD) 0 (Nat.zero_le _) ?_ fun j B2 hj ⟨h39, hst, hJ⟩ => ?_
      · simp only [go_sem, simprocAttr, ↓reduceIte]
        exact hst.app _
      simp only [go_sem, simprocAttr, ↓reduceIte, h39]
      simp only [e3]
      refine ⟨fun hc2 => ?_, fun hc2 => ?_⟩
      · have hc3 : j < [p.pre, p.dep, p.rcm].length := by show j < 3; omega
        obtain ⟨d, hdj⟩ := get_some hc3
        have hde := (List.getElem?_eq_some_iff.1 hdj).2
        rw [List.drop_eq_getElem_cons hc3, hde, List.all_cons] at hJ
        simp only [getD_map hdj]
        simp only [go_sem, simprocAttr, ↓reduceIte, clausesAV, h39, List.length_map]
        refine ⟨hc3, ?_⟩
        have hlD : lightD d = (decide (d.length ≤ 14) && d.all fun c => decide (c.length ≤ 10)) := rfl
        refine ⟨fun hb => ⟨weak_bool ?_, hst⟩, fun hb => ?_⟩
        · rw [← hI, hP, ← hJ, hlD, decide_eq_false (by omega)]; rfl
        rw [decide_eq_true (show d.length ≤ 14 by omega), Bool.true_and] at hlD
        refine LoopVC.ats [9, 10, 11, 38, 39] (.of (by kernel_rfl)) (fun A => Ext σ A.st ∧ (d.all fun c => decide (c.length ≤ 10)) = true) ?_ fun B3 ⟨hst, h6⟩ => ?_
        · refine LoopVC.upto [9, 10, 11, 38, 39, 45, 46] (.of (by kernel_rfl)) d.length (fun k A => A.env 47 = .int .i64 k ∧ Ext σ A.st ∧ ∀ c ∈ d.take k, c.length ≤ 10) 0 (Nat.zero_le _) ?_ fun k B3 hk ⟨h47, hst, hK⟩ => ?_
          · simp only [go_sem, simprocAttr, ↓reduceIte]
            simp [hst]
          simp only [go_sem, simprocAttr, ↓reduceIte, h47, List.length_map]
          refine ⟨fun hc4 => ⟨hc4, ?_⟩, fun hc4 => ?_⟩
          · obtain ⟨c, hck⟩ := get_some hc4
            simp only [atV_map hck]
            simp only [go_sem, simprocAttr, ↓reduceIte, atomsAV, h47, List.length_map]
            refine ⟨fun hb => ⟨weak_bool ?_, hst⟩, fun hb => ⟨hc4, int_succ hc4 (by rw [maxLen_eq]; omega), hst, ?_⟩⟩
            · have : (d.all fun c => decide (c.length ≤ 10)) = false := by
                rw [List.all_eq_false]
                exact ⟨c, List.mem_of_getElem? hck, by simp; omega⟩
              rw [← hI, hP, ← hJ, hlD, this]; rfl
            · rw [take_succ_get hck]
              intro x hx
              rcases List.mem_append.1 hx with hx | hx
              · exact hK x hx
              · rw [List.mem_singleton.1 hx]; omega
          · rw [List.take_of_length_le hc4] at hK
            exact ⟨hst, List.all_eq_true.2 fun c hcm => decide_eq_true (hK c hcm)⟩
        simp only [go_sem, simprocAttr, ↓reduceIte, h39]
        refine ⟨by omega, int_succ (show j < 3 by omega) (by rw [maxLen_eq]; omega), hst, ?_⟩
        rw [hlD, h6, Bool.true_and] at hJ
        simpa using hJ
      · have : j = 3 := by omega
        subst this
        exact ⟨hst, by rw [hP, ← hJ]; rfl⟩
    simp only [go_sem, simprocAttr, ↓reduceIte, h8]
    refine ⟨hc, int_succ hc hl, hst, ?_⟩
    rw [h6, Bool.true_and] at hI
    exact hI
  · have : i = l.length := by omega
    subst this
    rw [List.drop_length] at hI
    exact ⟨weak_bool hI, hst⟩

theorem l20_few (l : List Pkg) (hp : ∀ p ∈ l, PkgR p) : PureFn prog W0 8 [pkgsAV l] (.bool (lightL 0 l && decide (l.length ≤ 8))) := by
  refine fn_pure [2] [] func8 rfl rfl ntmps8 rfl rfl (.bool _) fun hs σ => ?_
  simp only [go_sem, simprocAttr, ↓reduceIte]
  refine CallA.fn (l20_light l hp) ?_
  simp only [go_sem, simprocAttr, ↓reduceIte, pkgsAV, List.length_map]
  exact weak_bool (by congr 1; exact decide_eq_decide.2 (by omega))
end Go.Proofs.Tryz
end
section
set_option linter.unusedSimpArgs false
set_option linter.unusedVariables false
namespace Go.Proofs.Tryz
open Go Go.Av
set_option maxRecDepth 10000
set_option linter.unusedSimpArgs false
set_option linter.unusedVariables false
variable {W0 : World}

theorem shape_cause : eqShape prog 40 = some [1, 1, 1] := by kernel_rfl
theorem cause_neq (a b : Nat × Nat × Nat) : binV prog .neq 40 (causeAV a) (causeAV b) = .bool (!decide (a = b)) := by
  obtain ⟨a1, a2, a3⟩ := a
  obtain ⟨b1, b2, b3⟩ := b
  simp only [causeAV, binV_aneq, eqAgg_K shape_cause, eqKs, eqK1, if_true, Option.map_some, Option.bind_some, Option.getD_some, Prod.mk.injEq, Bool.and_true]
  congr 1
  rw [Bool.eq_iff_iff]
  simp
  omega
theorem cause_ceq (a b : Nat × Nat × Nat) : binC prog .neq 40 (causeAV a) (causeAV b) = True := by
  simp [causeAV, binC_aneq, eqAgg_K shape_cause, eqKs, eqK1]
theorem cause_ok (g : Option Bool) (a : Nat × Nat × Nat) : okM g (causeAV a) = True := rfl
theorem cause_un (a : Nat × Nat × Nat) : unm (causeAV a) = causeAV a := rfl

theorem l20_same (a b : List (Nat × Nat × Nat)) : PureFn prog W0 13 [causesAV a, causesAV b] (.bool (decide (a = b))) := by
  refine fn_pure [4] [] func13 rfl rfl ntmps13 rfl rfl (.bool _) fun hs σ => ?_
  have hl := (small_map (hs _ (List.mem_cons_self ..))).1
  simp only [go_sem, simprocAttr, ↓reduceIte, causesAV, List.length_map]
  refine ⟨fun h => weak_bool (decide_eq_false fun e => h (by rw [e])).symm, fun h => ?_⟩
  have hab : a.length = b.length := by omega
  refine LoopVC.upto [0, 1, 12] (.of (by kernel_rfl)) a.length (fun i A => A.env 13 = .int .i64 i ∧ A.st = σ ∧ a.take i = b.take i) 0 (Nat.zero_le _) ?_ fun i B hi ⟨h13, hst, hI⟩ => ?_
  · simp only [go_sem, simprocAttr, ↓reduceIte]
    simp
  simp only [go_sem, simprocAttr, ↓reduceIte, h13, hst, List.length_map]
  refine ⟨fun hc => ?_, fun hc => weak_bool ?_⟩
  · obtain ⟨x, hx⟩ := get_some hc
    obtain ⟨y, hy⟩ := get_some (show i < b.length by omega)
    simp only [go_sem, simprocAttr, ↓reduceIte, h13, hst, List.length_map, atV_map hx, atV_map hy, cause_neq, cause_ceq, cause_ok, cause_un]
    exact ⟨.of (by kernel_rfl), hc, by omega, fun hne => weak_bool (decide_eq_false (ne_of_get hx hy hne)).symm, fun e => ⟨hc, int_succ hc hl, take_eq_succ hI hx (e ▸ hy)⟩⟩
  · rw [List.take_of_length_le hc, List.take_of_length_le (by omega)] at hI
    exact (decide_eq_true hI).symm

/-- The packages that every program must know. -/
def axA : Pkg := { awA with dep := [[⟨[98, 98], 0, []⟩], [⟨[99, 99], 0, []⟩]], con := [] }
def axB : Pkg := { awB with dep := [], con := [⟨[99, 99], 0, []⟩] }
def axC : Pkg := { awC with dep := [], con := [] }
def axL : List Pkg := [axA, axB, axC]
theorem ax_may : mayAll axL = 0 := by decide +kernel
theorem ax_some : someA axL (causesA axL 3) 0 = false := by decide +kernel
theorem ax_why : whyL axL 0 = [(0, 2, 0), (0, 2, 1), (1, 3, 0)] := by decide +kernel

theorem l20_awake : PureFn prog W0 9 [] (.bool true) := by
  refine fn_pure [0] [] func9 rfl rfl ntmps9 rfl rfl (.bool _) fun hs σ => ?_
  simp only [go_sem, simprocAttr, ↓reduceIte]
  refine CallA.fn ((ex_why axL (fun p hp => ?_) (by decide) 0).weak (.cons (.sub (subB_sound (n := 10) (by kernel_rfl))) (.cons (.refl _) .nil))) ?_
  · simp [axL] at hp
    rcases hp with rfl | rfl | rfl <;> exact ⟨by decide, by decide, by decide⟩
  have e : whyAV axL 0 = .tup [causesAV [(0, 2, 0), (0, 2, 1), (1, 3, 0)], .bool true, .int .i64 0] := by
    unfold whyAV
    rw [if_pos ax_may, if_pos (by decide), if_neg (by rw [show ((0 : Int).toNat) = 0 from rfl, show axL.length = 3 from rfl, ax_some]; simp)]
    rw [show ((0 : Int).toNat) = 0 from rfl, ax_why]
  rw [e]
  have a2 : ∀ (x y z : AV) (l : List AV), atV (x :: y :: z :: l) 2 = z := fun _ _ _ _ => rfl
  simp only [go_sem, simprocAttr, ↓reduceIte, causesAV, causeAV, a2, binV_aeql, eqAgg_K shape_cause, eqKs, eqK1, Option.map_some, Option.getD_some, Option.isSome_some]
  done
end Go.Proofs.Tryz
end
section
set_option linter.unusedSimpArgs false
set_option linter.unusedVariables false
namespace Go.Proofs.Tryz
open Go Go.Av
set_option maxRecDepth 10000
set_option linter.unusedSimpArgs false
set_option linter.unusedVariables false
variable {W0 : World}

theorem light_con {all : List Pkg} (h : lightL 0 all = true) : ∀ p ∈ all, p.con.length ≤ 1000 := fun p hp => by
  have := lightL_get h p hp
  omega
theorem why_may {all : List Pkg} {i : Int} (h : ¬ mayAll all = 0) : whyAV all i = .tup [causesAV [], .bool false, .int .i64 (mayAll all)] := by unfold whyAV; rw [if_neg h]
theorem why_out {all : List Pkg} {i : Int} (h : mayAll all = 0) (hi : ¬ (0 ≤ i ∧ i < all.length)) : whyAV all i = .tup [causesAV [], .bool false, .int .i64 1] := by unfold whyAV; rw [if_pos h, if_neg hi]
theorem why_can {all : List Pkg} {n : Nat} (h : mayAll all = 0) (hn : n < all.length) (hs : someA all (causesA all all.length) n = true) : whyAV all n = .tup [causesAV [], .bool false, .int .i64 0] := by
  unfold whyAV
  rw [if_pos h, if_pos ⟨by omega, by omega⟩, show ((n : Nat) : Int).toNat = n by omega, if_pos hs]
theorem why_not {all : List Pkg} {n : Nat} (h : mayAll all = 0) (hn : n < all.length) (hs : someA all (causesA all all.length) n = false) : whyAV all n = .tup [causesAV (whyL all n), .bool true, .int .i64 0] := by
  unfold whyAV
  rw [if_pos h, if_pos ⟨by omega, by omega⟩, show ((n : Nat) : Int).toNat = n by omega, if_neg (by simp [hs])]

theorem l20_why (all : List Pkg) (hp : ∀ p ∈ all, PkgR p) (i : Int) : PureFn prog W0 3 [pkgsAV all, .int .i64 i] (.bool true) := by
  refine fn_pure [4] [] func3 rfl rfl ntmps3 rfl rfl (.bool _) fun hs σ => ?_
  simp only [go_sem, simprocAttr, ↓reduceIte]
  refine CallA.fn (l20_few all hp) ?_
  simp only [go_sem, simprocAttr, ↓reduceIte, pkgsAV, List.length_map]
  refine ⟨fun _ => CallA.fn l20_awake ?_, fun h => ?_⟩
  · simp only [go_sem, simprocAttr, ↓reduceIte]
    done
  simp only [Bool.and_eq_true, decide_eq_true_eq, Bool.not_eq_false'] at h
  obtain ⟨hla, h8⟩ := h
  have hma := light_may hla
  have hcon := light_con hla
  refine CallA.fn (ex_why all hma h8 i) ?_
  by_cases h0 : mayAll all = 0
  case neg =>
    rw [why_may h0]
    simp only [go_sem, simprocAttr, ↓reduceIte, causesAV]
    refine CallA.fn (r9_mayAll all) ?_
    simp only [go_sem, simprocAttr, ↓reduceIte, causesAV, List.length_map]
    refine ⟨fun _ => CallP.fnG (fun _ => l20_awake) ?_, fun h => absurd h h0⟩
    simp only [go_sem, simprocAttr, ↓reduceIte]
    done
  by_cases hi : 0 ≤ i ∧ i < all.length
  case neg =>
    rw [why_out h0 hi]
    simp only [go_sem, simprocAttr, ↓reduceIte, causesAV]
    refine CallA.fn (r9_mayAll all) ?_
    rw [h0]
    simp only [go_sem, simprocAttr, ↓reduceIte, causesAV, List.length_map]
    refine ⟨fun _ => CallP.fnG (fun _ => l20_awake) ?_, fun h => ?_⟩
    · simp only [go_sem, simprocAttr, ↓reduceIte]
      done
    · exfalso
      simp only [Bool.or_eq_false_iff, decide_eq_false_iff_not] at h
      omega
  obtain ⟨n, rfl⟩ : ∃ n : Nat, i = n := ⟨i.toNat, by omega⟩
  have hn : n < all.length := by omega
  have hr := r10_why (W0 := W0) all h0 h8 hcon n hn
  cases hsm : someA all (causesA all all.length) n with
  | true =>
    rw [why_can h0 hn hsm]
    rw [if_pos hsm] at hr
    simp only [go_sem, simprocAttr, ↓reduceIte, causesAV]
    refine CallA.fn (r9_mayAll all) ?_
    rw [h0]
    simp only [go_sem, simprocAttr, ↓reduceIte, causesAV, List.length_map]
    refine ⟨fun h => ?_, fun _ => CallA.fn hr ?_⟩
    · exfalso
      simp only [Bool.or_eq_true, decide_eq_true_eq] at h
      omega
    simp only [go_sem, simprocAttr, ↓reduceIte, causesAV]
    refine CallP.fnG (fun _ => l20_same [] []) ?_
    simp only [go_sem, simprocAttr, ↓reduceIte]
    refine CallP.fnG (fun _ => l20_awake) ?_
    simp only [go_sem, simprocAttr, ↓reduceIte]
    done
  | false =>
    rw [why_not h0 hn hsm]
    rw [if_neg (by simp [hsm])] at hr
    simp only [go_sem, simprocAttr, ↓reduceIte, causesAV]
    refine CallA.fn (r9_mayAll all) ?_
    rw [h0]
    simp only [go_sem, simprocAttr, ↓reduceIte, causesAV, List.length_map]
    refine ⟨fun h => ?_, fun _ => CallA.fn hr ?_⟩
    · exfalso
      simp only [Bool.or_eq_true, decide_eq_true_eq] at h
      omega
    simp only [go_sem, simprocAttr, ↓reduceIte, causesAV]
    refine CallP.fnG (fun _ => l20_same (whyL all n) (whyL all n)) ?_
    simp only [go_sem, simprocAttr, ↓reduceIte]
    refine CallP.fnG (fun _ => l20_awake) ?_
    simp only [go_sem, simprocAttr, ↓reduceIte]
    done
end Go.Proofs.Tryz
end
section
set_option linter.unusedSimpArgs false
set_option linter.unusedVariables false
namespace Go.Proofs.Tryz
open Go Go.Av
set_option maxRecDepth 10000
set_option linter.unusedSimpArgs false
set_option linter.unusedVariables false
variable {W0 : World}

theorem ext_app2L {σ0 σ σ1 σ2 : Store} {e : TypeId} {xs zs ws : List AV} {v1 v2 : AV} (h : Ext σ0 σ) (a1 : App σ (.lit e xs) e zs v1 σ1) (a2 : App σ1 v1 e ws v2 σ2) : Ext σ0 σ2 := by
  have f12 : Fr [] σ σ2 := (a1.fr.mono (by simp [foot])).trans a2.fr fun j hj => by
    have := a1.foot (.inr (.inl rfl)) j hj
    simpa [foot] using this
  exact f12.toExt h (by simp)
theorem l20_least (all : List Pkg) (hp : ∀ p ∈ all, PkgR p) (i : Int) : PureFn prog W0 4 [pkgsAV all, .int .i64 i] (.bool true) := by
  refine fn_pure [4] [2000071, 2000076, 2000078, 2000079] func4 rfl rfl ntmps4 rfl rfl (.bool _) fun hs σ => ?_
  simp only [go_sem, simprocAttr, ↓reduceIte]
  refine CallA.fn (l20_few all hp) ?_
  simp only [go_sem, simprocAttr, ↓reduceIte]
  refine CallP.fnG (fun _ => r9_mayAll all) ?_
  simp only [go_sem, simprocAttr, ↓reduceIte, pkgsAV, List.length_map]
  refine ⟨fun _ => CallA.fn l20_awake ?_, fun h => ?_⟩
  · simp only [go_sem, simprocAttr, ↓reduceIte]
    done
  simp only [Bool.or_eq_false_iff, Bool.not_eq_false', Bool.and_eq_true, decide_eq_true_eq, decide_eq_false_iff_not, bne_eq_false_iff_eq] at h
  obtain ⟨⟨⟨⟨hla, h8⟩, h0⟩, hi1⟩, hi2⟩ := h
  have hma := light_may hla
  have hcon := light_con hla
  obtain ⟨n, rfl⟩ : ∃ n : Nat, i = n := ⟨i.toNat, by omega⟩
  have hn : n < all.length := by omega
  refine CallA.fn (ex_why all hma h8 n) ?_
  have hcl := causesA_len (fun p hp => mayAll_pkg h0 hp) all.length
  cases hsm : someA all (causesA all all.length) n with
  | true =>
    rw [why_can h0 hn hsm]
    simp only [go_sem, simprocAttr, ↓reduceIte, causesAV]
    refine CallP.fnG (fun _ => r10_causes all (fun p hp => mayAll_pkg h0 hp) (by omega)) ?_
    simp only [go_sem, simprocAttr, ↓reduceIte, causesAV]
    refine CallP.fnG (fun _ => r10_Some all (causesA all all.length) n hn (by omega) hcon (fun c hc => causesA_valid c hc) (by omega)) ?_
    rw [hsm]
    simp only [go_sem, simprocAttr, ↓reduceIte]
    refine CallP.fnG (fun _ => l20_awake) ?_
    simp only [go_sem, simprocAttr, ↓reduceIte]
    done
  | false =>
    rw [why_not h0 hn hsm]
    obtain ⟨w1, w2, w3⟩ := whyL_least hn hsm
    have hwv : ∀ c ∈ whyL all n, ValidC all c := fun c hc => causesA_valid c (w2.subset hc)
    have hwl : (whyL all n).length ≤ 480 := by have := w2.length_le; omega
    have hw0 : ¬ (whyL all n).length = 0 := fun e => by
      rw [List.length_eq_zero_iff.1 e, someA_nil hn] at w1
      cases w1
    generalize whyL all n = R at w1 w3 hwv hwl hw0
    simp only [go_sem, simprocAttr, ↓reduceIte, causesAV]
    refine CallA.fn (r10_Some all R n hn (by omega) hcon hwv (by omega)) ?_
    rw [w1]
    simp only [go_sem, simprocAttr, ↓reduceIte, List.length_map]
    refine ⟨fun h => absurd h (by omega), fun _ => ?_⟩
    refine LoopVC.at [] (.of (by kernel_rfl)) (fun A => Ext σ A.st) ?_ fun C hst => ?_
    · refine LoopVC.upto [0, 1, 5, 62] (.of (by kernel_rfl)) R.length (fun k A => A.env 63 = .int .i64 k ∧ Ext σ A.st) 0 (Nat.zero_le _) ?_ fun k C hk ⟨h63, hst⟩ => ?_
      · simp only [go_sem, simprocAttr, ↓reduceIte]
        exact .refl _
      have hw1 : IntKind.i64.wrap ((k : Int) + 1) = ((k + 1 : Nat) : Int) := by rw [wrap_in (by omega)]; omega
      have hml : (R.map causeAV).length = R.length := List.length_map ..
      simp only [go_sem, simprocAttr, ↓reduceIte, h63, hw1]
      refine ⟨fun hlt => ?_, fun hge => hst⟩
      refine ⟨.of (by kernel_rfl), ⟨by omega, by omega⟩, by omega, AppA.ownS (σ := C.st) (by simp only [go_sem, simprocAttr, ↓reduceIte]) 1048576 (by kernel_rfl) (.inr (.inl rfl)) (.sl _ _ _) (by simp; omega) fun v1 σ1 a1 => ?_⟩
      have p1 := a1.bld.ok
      have p2 := a1.bld.un
      simp only [go_sem, simprocAttr, ↓reduceIte, p1, p2]
      refine AppA.ownS (σ := σ1) (by simp only [go_sem, simprocAttr, ↓reduceIte]) 1048576 (by kernel_rfl) a1.bld (.sl _ _ _) (by simp; omega) fun v2 σ2 a2 => ?_
      have p3 := a2.bld.ok
      have p4 := a2.bld.un
      have hb2 : Weak v2 (causesAV (R.eraseIdx k)) := by
        have := a2.bld.weak
        rwa [List.nil_append, ← List.eraseIdx_eq_take_drop_succ, erase_map] at this
      have hev : ∀ c ∈ R.eraseIdx k, ValidC all c := fun c hc => hwv c ((List.eraseIdx_sublist R k).subset hc)
      have hel : (R.eraseIdx k).length = R.length - 1 := List.length_eraseIdx_of_lt hlt
      simp only [go_sem, simprocAttr, ↓reduceIte, p3, p4]
      refine CallA.fn ((r10_Some all (R.eraseIdx k) n hn (by omega) hcon hev (by omega)).weak (.cons (.refl _) (.cons hb2 (.cons (.refl _) .nil)))) ?_
      rw [w3 k hlt]
      simp only [go_sem, simprocAttr, ↓reduceIte, h63]
      exact ⟨hlt, int_succ hlt (by rw [maxLen_eq]; omega), ext_app2L hst a1 a2⟩
    simp only [go_sem, simprocAttr, ↓reduceIte]
    refine CallA.fn l20_awake ?_
    simp only [go_sem, simprocAttr, ↓reduceIte]
    exact hst
end Go.Proofs.Tryz
end
