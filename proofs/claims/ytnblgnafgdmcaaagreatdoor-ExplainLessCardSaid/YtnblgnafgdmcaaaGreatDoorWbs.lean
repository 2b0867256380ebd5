/- Texts that the last one of this claim rests on: a layer over the guide's own conditions for code; contracts of the functions that the law reaches, one by one. No conditions beside those of the given rows. -/
import Derived.Test.YtnblgnafgdmcaaaGreatDoorWbn
import Derived.Test.YtnblgnafgdmcaaaGreatDoorWbo
import Derived.Test.YtnblgnafgdmcaaaGreatDoorWbq
import Derived.Test.YtnblgnafgdmcaaaGreatDoorWbr
section
set_option linter.unusedSimpArgs false
set_option linter.unusedVariables false
namespace Go.Proofs.Tryz
open Go Go.Av
set_option linter.unusedSimpArgs false
set_option linter.unusedVariables false

theorem selOk_healthy {all : List Pkg} {t : List Nat} (hm : ∀ p ∈ all, mayPkg p = 0) (ht : ∀ j ∈ t, j < all.length) (hP : t.Pairwise fun x y => nameO all x ≠ nameO all y) : SelOk all (fun m => decide (m ∈ t)) ↔ HL (atL all t) := by
  constructor
  · intro h
    refine ⟨fun p hp => ?_, ?_, fun p hp c hc => ?_⟩
    · obtain ⟨j, _, hj⟩ := List.mem_filterMap.1 hp
      exact hm p (List.mem_of_getElem? hj)
    · unfold atL
      rw [List.pairwise_filterMap]
      refine hP.imp_of_mem fun {x y} hx hy hne p hp q hq => ?_
      have hn := (nameO_ne hp hq).1 hne
      refine ⟨hn, ?_⟩
      rcases Nat.lt_trichotomy x y with hlt | rfl | hgt
      · rw [clash_symm]
        exact (h.con y q x p hq hp hlt (by simpa using hy) (by simpa using hx)).2
      · rw [hp] at hq
        cases hq
        exact absurd rfl hn
      · exact (h.con x p y q hp hq hgt (by simpa using hx) (by simpa using hy)).2
    · obtain ⟨j, hjt, hj⟩ := List.mem_filterMap.1 hp
      obtain ⟨m, q, hq, h1, h2⟩ := h.dep j p hj (by simpa using hjt) c hc
      exact ⟨q, List.mem_filterMap.2 ⟨m, by simpa using h2, hq⟩, h1⟩
  · intro h
    have hpr : t.Pairwise fun x y => ∀ p, all[x]? = some p → ∀ q, all[y]? = some q → p.name ≠ q.name ∧ clashP p q = false := by
      have := h.pair
      unfold atL at this
      rw [List.pairwise_filterMap] at this
      exact this.imp fun {x y} h p hp q hq => h p hp q hq
    refine ⟨fun i p hp hS c hc => ?_, fun i p k q hp hq hki hi hk => ?_⟩
    · obtain ⟨q, hq, h1⟩ := h.met p (List.mem_filterMap.2 ⟨i, by simpa using hS, hp⟩) c hc
      obtain ⟨m, hmt, hq⟩ := List.mem_filterMap.1 hq
      exact ⟨m, q, hq, h1, by simpa using hmt⟩
    · exact pair_any (fun x y h p hp q hq => by
        obtain ⟨h1, h2⟩ := h q hq p hp
        exact ⟨fun e => h1 e.symm, by rw [clash_symm]; exact h2⟩) hpr (by simpa using hi) (by simpa using hk) (by omega) p hp q hq
theorem under_iff {all : List Pkg} {e : List (Nat × Nat × Nat)} {t : List Nat} (ht : ∀ j ∈ t, j < all.length) (he : ∀ c ∈ e, ValidC all c) : underP all e t = true ↔ (t.Pairwise fun x y => nameO all x ≠ nameO all y) ∧ SelE all e fun m => decide (m ∈ t) := by
  constructor
  · intro h
    refine ⟨?_, under_sel ht he h⟩
    unfold underP at h
    rw [Bool.and_eq_true, decide_eq_true_eq] at h
    exact h.1
  · rintro ⟨h1, h2⟩
    unfold underP
    rw [Bool.and_eq_true, decide_eq_true_eq, List.all_eq_true]
    refine ⟨h1, fun c hc => ?_⟩
    by_cases hin : c.1 ∈ t
    · rw [(selE_cause ht (fun m _ => by simp) (he c hc)).2 (h2.cause c hc (by simpa using hin)), Bool.or_true]
    · simp [hin]
/-- All relations hold just where places are a healthy set. -/
theorem under_healthy {all : List Pkg} {t : List Nat} (hm : ∀ p ∈ all, mayPkg p = 0) (ht : ∀ j ∈ t, j < all.length) (h0 : underP all [] t = true) : underP all (causesA all all.length) t = healthyP (atL all t) := by
  have hP := ((under_iff ht (by simp)).1 h0).1
  rw [Bool.eq_iff_iff, under_iff ht fun c hc => causesA_valid c hc, selE_all, healthy_iff, selOk_healthy hm ht hP]
  exact ⟨fun h => h.2, fun h => ⟨hP, h⟩⟩
theorem holdsI_nil (all : List Pkg) {e : List (Nat × Nat × Nat)} (he : ∀ c ∈ e, ValidC all c) : holdsI all (e.map natI) [] = true := by
  have := holdsI_nat (all := all) (e := e) (t := []) (by simp) he
  rw [List.map_nil] at this
  rw [this, under_iff (by simp) he]
  exact ⟨.nil, fun a b p q _ _ _ h => by simp at h, fun c _ h => by simp at h⟩
theorem holdsI_sub {all : List Pkg} {e f : List (Int × Int × Int)} {t : List Int} (hs : ∀ c ∈ f, c ∈ e) (h : holdsI all e t = true) : holdsI all f t = true := by
  unfold holdsI underP at h ⊢
  simp only [Bool.and_eq_true, List.all_eq_true, List.mem_map, forall_exists_index, and_imp, forall_apply_eq_imp_iff₂] at h ⊢
  obtain ⟨⟨h1, h2⟩, h3, h4⟩ := h
  exact ⟨⟨h1, fun c hc => h2 c (hs c hc)⟩, h3, fun c hc => h4 c (hs c hc)⟩
/-- Of places that hold under no relation: they are places. -/
theorem holdsI_range {all : List Pkg} {e : List (Int × Int × Int)} {t : List Int} (h : holdsI all e t = true) : inR all t := fun i hi => by
  unfold holdsI at h
  simp only [Bool.and_eq_true, List.all_eq_true, decide_eq_true_eq] at h
  exact h.1.1 i hi
theorem holdsI_all {all : List Pkg} {t : List Nat} (hm : ∀ p ∈ all, mayPkg p = 0) (ht : ∀ j ∈ t, j < all.length) (h0 : holdsI all [] (t.map fun j : Nat => (j : Int)) = true) : holdsI all ((causesA all all.length).map natI) (t.map fun j : Nat => (j : Int)) = healthyP (atL all t) := by
  rw [holdsI_nat ht fun c hc => causesA_valid c hc]
  have := holdsI_nat (all := all) (e := []) ht (by simp)
  rw [List.map_nil] at this
  rw [this] at h0
  exact under_healthy hm ht h0
end Go.Proofs.Tryz
end
section
set_option linter.unusedSimpArgs false
set_option linter.unusedVariables false
namespace Go.Proofs.Tryz
open Go Go.Av
set_option maxRecDepth 10000
set_option linter.unusedSimpArgs false
set_option linter.unusedVariables false
variable {W0 : World}

theorem ints_nl (t : List Nat) : intsAV (t.map fun j : Nat => (j : Int)) = nlAV t := by
  unfold intsAV nlAV
  rw [List.map_map]
  rfl
theorem l20_healthy (all : List Pkg) (t : List Nat) (ht : ∀ j ∈ t, j < all.length) (hn : t.length ≤ 1048576) : PureFn prog W0 20 [pkgsAV all, intsAV (t.map fun j : Nat => (j : Int))] (.bool (healthyP (atL all t))) := by
  rw [ints_nl]
  refine fn_pure [4] [] func20 rfl rfl ntmps20 rfl rfl (.bool _) fun hs σ => ?_
  simp only [go_sem, simprocAttr, ↓reduceIte, nlAV]
  refine CallA.fn (r10_at all t ht hn) ?_
  simp only [go_sem, simprocAttr, ↓reduceIte]
  refine CallA.fn (r10_healthy (atL all t)) ?_
  simp only [go_sem, simprocAttr, ↓reduceIte]

theorem l20_less (all : List Pkg) (hp : ∀ p ∈ all, PkgR p) (pick : List Bool) (t : List Int) : PureFn prog W0 6 [pkgsAV all, boolsAV pick, intsAV t] (.bool true) := by
  refine fn_pure [6] [11] func6 rfl rfl ntmps6 rfl rfl (.bool _) fun hs σ => ?_
  simp only [go_sem, simprocAttr, ↓reduceIte]
  refine CallA.fn (l20_light all hp) ?_
  simp only [go_sem, simprocAttr, ↓reduceIte]
  refine CallP.fnG (fun _ => r9_mayAll all) ?_
  simp only [go_sem, simprocAttr, ↓reduceIte, intsAV, List.length_map]
  refine ⟨fun _ => CallA.fn l20_awake ?_, fun h => ?_⟩
  · simp only [go_sem, simprocAttr, ↓reduceIte]
    done
  simp only [Bool.or_eq_false_iff, Bool.not_eq_false', decide_eq_false_iff_not, bne_eq_false_iff_eq] at h
  obtain ⟨⟨hla, h0⟩, ht⟩ := h
  have h26 := light_len hla
  have hcon := light_con hla
  have hm : ∀ p ∈ all, mayPkg p = 0 := fun p hp => mayAll_pkg h0 hp
  have hcl := causesA_len hm all.length
  have hc1 := ex_causes (W0 := W0) all (light_may hla) h26
  rw [if_pos h0] at hc1
  refine CallA.fn hc1 ?_
  have hval : ∀ c ∈ causesA all all.length, ValidC all c := fun c hc => causesA_valid c hc
  have hall : ∀ t : List Nat, (∀ j ∈ t, j < all.length) → holdsI all [] (t.map fun j : Nat => (j : Int)) = true → holdsI all ((causesA all all.length).map natI) (t.map fun j : Nat => (j : Int)) = healthyP (atL all t) := fun t => holdsI_all hm
  generalize causesA all all.length = C at hcl hval hall
  simp only [go_sem, simprocAttr, ↓reduceIte, causesAV, List.length_map]
  refine LoopVC.at [0, 2, 7] (.of (by kernel_rfl)) (fun A => ∃ v L, A.env 9 = v ∧ L.length ≤ 2000 ∧ (∀ c ∈ L, c ∈ C) ∧ Built σ A.st v 40 ((L : List (Nat × Nat × Nat)).map causeAV)) ?_ fun B ⟨v, L, h9, hL, hsub, hv⟩ => ?_
  · refine LoopVC.upto [0, 1, 2, 7, 33, 34] (.of (by kernel_rfl)) C.length (fun b A => ∃ v L, A.env 9 = v ∧ A.env 35 = .int .i64 b ∧ L.length ≤ b ∧ (∀ c ∈ L, c ∈ C) ∧ Built σ A.st v 40 ((L : List (Nat × Nat × Nat)).map causeAV)) 0 (Nat.zero_le _) ?_ fun b B hb ⟨v, L, h9, h34, hL, hsub, hv⟩ => ?_
    · simp only [go_sem, simprocAttr, ↓reduceIte]
      exact ⟨_, [], rfl, by simp, by simp, Built.nil (.refl _) _⟩
    have v1 := hv.ok
    have v2 := hv.un
    simp only [go_sem, simprocAttr, ↓reduceIte, h9, h34, v1, v2, List.length_map]
    refine ⟨fun hb2 => ⟨hb2, ?_⟩, fun hb2 => ⟨_, L, rfl, by omega, hsub, hv⟩⟩
    obtain ⟨c, hc⟩ := get_some hb2
    by_cases hbp : b < pick.length
    case neg =>
      have e1 : decide (b < pick.length) = false := decide_eq_false hbp
      simp only [go_sem, simprocAttr, ↓reduceIte, h9, h34, v1, v2, atV_map hc, causeAV, boolsAV, List.length_map, e1, pickV_f]
      exact ⟨hb2, _, L, rfl, int_succ hb2 (by rw [maxLen_eq]; omega), by omega, hsub, hv.more _⟩
    obtain ⟨g, hg⟩ := get_some hbp
    have e1 : decide (b < pick.length) = true := decide_eq_true hbp
    simp only [go_sem, simprocAttr, ↓reduceIte, h9, h34, v1, v2, atV_map hc, atV_map hg, causeAV, boolsAV, List.length_map, e1]
    refine ⟨hbp, fun _ => AppA.ownS (σ := B.st ++ [none]) (by simp only [go_sem, simprocAttr, ↓reduceIte]) 1048576 (by kernel_rfl) (hv.more [none]).bld (.lit _ _ _) (by simp; omega) fun v' σ' ha' => ?_, fun _ => ⟨hb2, _, L, rfl, int_succ hb2 (by rw [maxLen_eq]; omega), by omega, hsub, hv.more _⟩⟩
    have hb' := (hv.more [none]).app ha'
    have v3 := hb'.ok
    have v4 := hb'.un
    simp only [go_sem, simprocAttr, ↓reduceIte, h9, h34, v3, v4]
    refine ⟨hb2, _, L ++ [c], rfl, int_succ hb2 (by rw [maxLen_eq]; omega), by simp; omega, fun x hx => ?_, by rw [List.map_append]; exact hb'⟩
    rcases List.mem_append.1 hx with hx | hx
    · exact hsub x hx
    · rw [List.mem_singleton.1 hx]; exact List.mem_of_getElem? hc
  have v1 := hv.ok
  have v2 := hv.un
  have hw : Weak v (causesI (L.map natI)) := by unfold causesI; rw [map_nat]; exact hv.weak
  have hC : causesI (C.map natI) = .sl 40 (C.map causeAV) := by unfold causesI; rw [map_nat]
  have c1 := ex_holds (W0 := W0) all (C.map natI) t (by omega) (by omega) (by simp; omega)
  have c2 := ex_holds (W0 := W0) all (L.map natI) t (by omega) (by omega) (by simp; omega)
  have c3 := ex_holds (W0 := W0) all (C.map natI) [] (by omega) (by simp) (by simp; omega)
  have c4 := r10_UnderI (W0 := W0) all [] t (by omega) hcon (by simp)
  rw [hC] at c1 c3
  rw [holdsI_nil all hval] at c3
  simp only [go_sem, simprocAttr, ↓reduceIte, h9, v1, v2]
  refine CallA.fn c1 ?_
  simp only [go_sem, simprocAttr, ↓reduceIte, h9, v1, v2]
  refine CallP.fnG (fun _ => c2.weak (.cons (.refl _) (.cons hw (.cons (.refl _) .nil)))) ?_
  have e0 : (!holdsI all (C.map natI) t || holdsI all (L.map natI) t) = true := by
    cases hh : holdsI all (C.map natI) t with
    | false => rfl
    | true =>
      rw [holdsI_sub (fun c hc => ?_) hh]
      · rfl
      · obtain ⟨d, hd, rfl⟩ := List.mem_map.1 hc
        exact List.mem_map.2 ⟨d, hsub d hd, rfl⟩
  simp only [go_sem, simprocAttr, ↓reduceIte, h9, v1, v2, e0]
  refine CallP.fnG (fun _ => c3.weak (.cons (.refl _) (.cons (.refl _) (.cons (.nils _) .nil)))) ?_
  simp only [go_sem, simprocAttr, ↓reduceIte, h9, v1, v2, e0]
  refine CallP.fnG (fun _ => c1) ?_
  simp only [go_sem, simprocAttr, ↓reduceIte, h9, v1, v2, e0]
  refine CallP.fnG (fun _ => c4.weak (.cons (.refl _) (.cons (.nils _) (.cons (.refl _) .nil)))) ?_
  simp only [go_sem, simprocAttr, ↓reduceIte, h9, v1, v2, e0]
  by_cases hn : holdsI all [] t = true
  · obtain ⟨tn, rfl, htn⟩ := inR_nat (holdsI_range hn)
    have c5 := l20_healthy (W0 := W0) all tn htn (by rw [List.length_map] at ht; omega)
    rw [hall tn htn hn, hn]
    refine CallP.fnG (fun _ => c5) ?_
    simp only [go_sem, simprocAttr, ↓reduceIte]
    refine CallP.fnG (fun _ => l20_awake) ?_
    simp only [go_sem, simprocAttr, ↓reduceIte]
    exact hv.ext
  · have hn' : holdsI all [] t = false := by simpa using hn
    have hC0 : holdsI all (C.map natI) t = false := by
      cases hh : holdsI all (C.map natI) t with
      | false => rfl
      | true => exact absurd (holdsI_sub (by simp) hh) hn
    rw [hC0, hn']
    refine CallP.fnG (r := .bool false) (fun h => (Bool.false_ne_true h).elim) ?_
    simp only [go_sem, simprocAttr, ↓reduceIte]
    refine CallP.fnG (fun _ => l20_awake) ?_
    simp only [go_sem, simprocAttr, ↓reduceIte]
    exact hv.ext
end Go.Proofs.Tryz
end
section
set_option linter.unusedSimpArgs false
set_option linter.unusedVariables false
namespace Go.Proofs.Tryz
open Go Go.Av
set_option maxRecDepth 10000
set_option linter.unusedSimpArgs false
set_option linter.unusedVariables false

theorem ofT_ints {n : Nat} {a : AV} (h : OfT prog (n + 2) 37 a) : ∃ l, a = intsAV l := by
  obtain ⟨l, rfl, _⟩ := ofT_map (f := AV.int .i64) (e := 3) (by kernel_rfl) (fun x h => by
    obtain ⟨k, rfl, _⟩ := ofT_int (k := .i64) (by kernel_rfl) h
    exact ⟨k, rfl⟩) h
  exact ⟨l, rfl⟩
theorem ofT_bools {n : Nat} {a : AV} (h : OfT prog (n + 2) 36 a) : ∃ l, a = boolsAV l := by
  obtain ⟨l, rfl, _⟩ := ofT_map (f := AV.bool) (e := 4) (by kernel_rfl) (fun x h => ofT_bool (by kernel_rfl) h) h
  exact ⟨l, rfl⟩
end Go.Proofs.Tryz
end
