/- Texts that the last one of this claim rests on: a layer over the guide's own conditions for code; contracts of the functions that the law reaches, one by one. No conditions beside those of the given rows. -/
import Derived.Test.YtljcjoglabbcoaaGreatDoorWbp
import Derived.Test.YtljcjoglabbcoaaGreatDoorWbq
section
set_option linter.unusedSimpArgs false
set_option linter.unusedVariables false
namespace Go.Proofs.Tryz
open Go Go.Av
set_option maxRecDepth 10000
set_option linter.unusedSimpArgs false
set_option linter.unusedVariables false
variable {W0 : World}

theorem canE1 {all : List Pkg} {i : Nat} (hi : i < all.length) : canE all [litN i] = true ↔ Can1 all i := by
  rw [canE_sel]
  constructor
  · rintro ⟨_, S, h1, h2⟩
    exact ⟨S, h1, (litS_pos _ _).1 (h2 _ (by simp))⟩
  · rintro ⟨S, h1, h2⟩
    exact ⟨by simp; exact wfL_lit hi, S, h1, by simp; exact (litS_pos _ _).2 h2⟩
theorem canE2 {all : List Pkg} {i j : Nat} (hi : i < all.length) (hj : j < all.length) : canE all [litN i, litN j] = true ↔ Can2 all i j := by
  rw [canE_sel]
  constructor
  · rintro ⟨_, S, h1, h2⟩
    exact ⟨S, h1, (litS_pos _ _).1 (h2 _ (by simp)), (litS_pos _ _).1 (h2 _ (by simp))⟩
  · rintro ⟨S, h1, h2, h3⟩
    exact ⟨by simp; exact ⟨wfL_lit hi, wfL_lit hj⟩, S, h1, by simp; exact ⟨(litS_pos _ _).2 h2, (litS_pos _ _).2 h3⟩⟩
theorem canEN {all : List Pkg} {i j : Nat} (hi : i < all.length) (hj : j < all.length) : canE all [litN i, -litN j] = true ↔ CanN all i j := by
  rw [canE_sel]
  constructor
  · rintro ⟨_, S, h1, h2⟩
    exact ⟨S, h1, (litS_pos _ _).1 (h2 _ (by simp)), (litS_not _ _).1 (h2 _ (by simp))⟩
  · rintro ⟨S, h1, h2, h3⟩
    exact ⟨by simp; exact ⟨wfL_lit hi, wfL_not hj⟩, S, h1, by simp; exact ⟨(litS_pos _ _).2 h2, (litS_not _ _).2 h3⟩⟩
theorem needsE_iff {all : List Pkg} {i j : Nat} (hi : i < all.length) (hj : j < all.length) : needsE all i j = true ↔ NeedsP all i j := by
  unfold needsE
  rw [Bool.and_eq_true, Bool.and_eq_true, Bool.not_eq_true', canE1 hi, ← Bool.not_eq_true, canEN hi hj, bne_iff_ne]
  exact ⟨fun h => ⟨h.1.1, h.1.2, h.2⟩, fun h => ⟨⟨h.1, h.2⟩, h.3⟩⟩
theorem neverE_iff {all : List Pkg} {i j : Nat} (hi : i < all.length) (hj : j < all.length) : neverE all i j = true ↔ NeverP all i j := by
  unfold neverE
  rw [Bool.and_eq_true, Bool.and_eq_true, Bool.and_eq_true, Bool.not_eq_true', canE1 hi, canE1 hj, ← Bool.not_eq_true, canE2 hi hj, bne_iff_ne]
  exact ⟨fun h => ⟨h.1.1.1, h.1.1.2, h.1.2, h.2⟩, fun h => ⟨⟨⟨h.1, h.2⟩, h.3⟩, h.4⟩⟩

theorem rep_get {all : List Pkg} {i : Nat} (hi : i < all.length) : (reportE all)[i]? = some (repE all i all[i]) := by
  unfold reportE
  rw [List.getElem?_mapIdx, List.getElem?_eq_getElem hi]; rfl
theorem rep_len (all : List Pkg) : (reportE all).length = all.length := by unfold reportE; simp
theorem rep_needs {all : List Pkg} {i k : Nat} {p : Pkg} (hi : i < all.length) : k ∈ (repE all i p).needs ↔ k < all.length ∧ NeedsP all i k := by
  show k ∈ (List.range all.length).filter (needsE all i) ↔ _
  rw [List.mem_filter, List.mem_range]
  exact ⟨fun h => ⟨h.1, (needsE_iff hi h.1).1 h.2⟩, fun h => ⟨h.1, (needsE_iff hi h.1).2 h.2⟩⟩
theorem rep_never {all : List Pkg} {i k : Nat} {p : Pkg} (hi : i < all.length) : k ∈ (repE all i p).never ↔ k < all.length ∧ NeverP all i k := by
  show k ∈ (List.range all.length).filter (neverE all i) ↔ _
  rw [List.mem_filter, List.mem_range]
  exact ⟨fun h => ⟨h.1, (neverE_iff hi h.1).1 h.2⟩, fun h => ⟨h.1, (neverE_iff hi h.1).2 h.2⟩⟩
theorem rep_can {all : List Pkg} {i : Nat} {p : Pkg} (hi : i < all.length) : (repE all i p).can = true ↔ Can1 all i := canE1 hi

theorem l19_in (x : Nat) (l : List Nat) : PureFn prog W0 16 [.int .i64 x, nlAV l] (.bool (l.contains x)) := by
  refine fn_pure [4] [] func16 rfl rfl ntmps16 rfl rfl (.bool _) fun hs σ => ?_
  have hl := (small_map (hs _ (List.mem_cons_of_mem _ (List.mem_cons_self ..)))).1
  simp only [go_sem, simprocAttr, ↓reduceIte, nlAV, List.length_map]
  refine LoopVC.upto [0, 7, 8] (.of (by kernel_rfl)) l.length (fun i A => A.env 9 = .int .i64 i ∧ A.st = σ ∧ ∀ k ∈ l.take i, k ≠ x) 0 (Nat.zero_le _) ?_ fun i B hi ⟨h9, hst, hI⟩ => ?_
  · simp only [go_sem, simprocAttr, ↓reduceIte]
    simp
  simp only [go_sem, simprocAttr, ↓reduceIte, h9, hst, List.length_map]
  refine ⟨fun hc => ⟨hc, ?_⟩, fun hc => weak_bool ?_⟩
  · obtain ⟨k, hk⟩ := get_some hc
    simp only [atV_map hk]
    simp only [go_sem, simprocAttr, ↓reduceIte, h9, hst]
    refine ⟨fun he => weak_bool ?_, fun he => ⟨hc, int_succ hc hl, ?_⟩⟩
    · have : x = k := by omega
      subst this
      exact (List.contains_iff_mem.2 (List.mem_of_getElem? hk)).symm
    · rw [take_succ_get hk]
      intro b hb
      rcases List.mem_append.1 hb with hb | hb
      · exact hI b hb
      · rw [List.mem_singleton.1 hb]; omega
  · rw [List.take_of_length_le hc] at hI
    have : ¬ l.contains x = true := fun h => hI x (by simpa using h) rfl
    simpa using this

theorem l19_goesOn (all : List Pkg) (hp : ∀ p ∈ all, PkgR p) : PureFn prog W0 4 [pkgsAV all] (.bool true) := by
  refine fn_pure [2] [7] func4 rfl rfl ntmps4 rfl rfl (.bool _) fun hs σ => ?_
  have hl := (small_map (hs _ (List.mem_cons_self ..))).1
  simp only [go_sem, simprocAttr, ↓reduceIte]
  refine CallA.fn (l19_light all hp) ?_
  simp only [go_sem, simprocAttr, ↓reduceIte, pkgsAV, List.length_map]
  refine ⟨fun _ => CallA.fn l19_awake ?_, fun h => ?_⟩
  · simp only [go_sem, simprocAttr, ↓reduceIte]
    done
  simp only [Bool.or_eq_false_iff, Bool.not_eq_false', decide_eq_false_iff_not] at h
  obtain ⟨hla, h14⟩ := h
  have hma := light_may hla
  have hr := st_report (W0 := W0) all hma (by omega)
  by_cases h0 : mayAll all = 0
  case neg =>
    rw [if_neg h0] at hr
    refine CallA.fn hr ?_
    have e0 : (mayAll all != 0) = true := by simp [h0]
    simp only [go_sem, simprocAttr, ↓reduceIte, e0]
    refine CallP.fnG (fun _ => l19_awake) ?_
    simp only [go_sem, simprocAttr, ↓reduceIte]
    done
  rw [if_pos h0, h0] at hr
  refine CallA.fn hr ?_
  simp only [go_sem, simprocAttr, ↓reduceIte, repsAV, List.length_map, rep_len]
  refine LoopVC.at [] (.of (by kernel_rfl)) (fun A => Ext σ A.st) ?_ fun B hst => ?_
  · refine LoopVC.upto [3, 5, 38, 39] (.of (by kernel_rfl)) all.length (fun i A => A.env 40 = .int .i64 i ∧ Ext σ A.st) 0 (Nat.zero_le _) ?_ fun i B hi ⟨h40, hst⟩ => ?_
    · simp only [go_sem, simprocAttr, ↓reduceIte]
      exact .refl _
    simp only [go_sem, simprocAttr, ↓reduceIte, h40, List.length_map, rep_len]
    refine ⟨fun hc => ⟨hc, ?_⟩, fun hc => hst⟩
    simp only [atV_map (rep_get hc)]
    obtain ⟨r, hr⟩ : ∃ r, r = repE all i all[i] := ⟨_, rfl⟩
    have hcan : r.can = true ↔ Can1 all i := by rw [hr]; exact rep_can hc
    have hnd : ∀ k, k ∈ r.needs ↔ k < all.length ∧ NeedsP all i k := fun k => by rw [hr]; exact rep_needs hc
    have hnv : ∀ k, k ∈ r.never ↔ k < all.length ∧ NeverP all i k := fun k => by rw [hr]; exact rep_never hc
    have hln : r.needs.length ≤ all.length := by
      rw [hr]
      exact Nat.le_trans (List.length_filter_le _ _) (by simp)
    have hlv : r.never.length ≤ all.length := by
      rw [hr]
      exact Nat.le_trans (List.length_filter_le _ _) (by simp)
    rw [← hr]
    have hw1 : IntKind.i64.wrap ((r.needs.length : Int) + (r.never.length : Int)) = ((r.needs.length : Int) + (r.never.length : Int)) := wrap_in (by omega)
    simp only [go_sem, simprocAttr, ↓reduceIte, repAV, nlAV, List.length_map, hw1, h40]
    refine ⟨fun hb => ?_, fun _ => ?_⟩
    · exfalso
      simp only [Bool.and_eq_true, Bool.not_eq_true', decide_eq_true_eq] at hb
      have n1 : r.needs = [] := by
        cases e : r.needs with
        | nil => rfl
        | cons k t =>
          have h1 := (hnd k).1 (by rw [e]; simp)
          rw [hcan.2 h1.2.can] at hb
          exact absurd hb.1 (by simp)
      have n2 : r.never = [] := by
        cases e : r.never with
        | nil => rfl
        | cons k t =>
          have h1 := (hnv k).1 (by rw [e]; simp)
          rw [hcan.2 h1.2.can] at hb
          exact absurd hb.1 (by simp)
      rw [n1, n2] at hb
      simp at hb
    have hnl : AV.sl 3 (r.needs.map fun k => .int .i64 ((k : Nat) : Int)) = nlAV r.needs := rfl
    have hvl : AV.sl 3 (r.never.map fun k => .int .i64 ((k : Nat) : Int)) = nlAV r.never := rfl
    refine LoopVC.at [3, 5, 6, 7, 38, 39, 40] (.of (by kernel_rfl)) (fun A => Ext σ A.st) ?_ fun B2 hst => ?_
    · refine LoopVC.upto [3, 5, 6, 7, 38, 39, 40, 59, 60] (.of (by kernel_rfl)) r.needs.length (fun a A => A.env 61 = .int .i64 a ∧ Ext σ A.st) 0 (Nat.zero_le _) ?_ fun a B2 ha ⟨h61, hst⟩ => ?_
      · simp only [go_sem, simprocAttr, ↓reduceIte]
        exact hst.app _
      simp only [go_sem, simprocAttr, ↓reduceIte, h61, List.length_map]
      refine ⟨fun hc2 => ⟨hc2, ?_⟩, fun hc2 => hst⟩
      obtain ⟨j, hj⟩ := get_some hc2
      have hjn := (hnd j).1 (List.mem_of_getElem? hj)
      have hj1 := hjn.1
      have d1 : decide ((j : Int) < 0) = false := decide_eq_false (by omega)
      have d2 : decide ((all.length : Int) ≤ (j : Int)) = false := decide_eq_false (by omega)
      have hgj := rep_get hj1
      obtain ⟨q, hq⟩ : ∃ q, q = repE all j all[j] := ⟨_, rfl⟩
      have hqcan : q.can = true := by rw [hq]; exact (rep_can hj1).2 hjn.2.can_j
      have hqnd : ∀ k, k ∈ q.needs ↔ k < all.length ∧ NeedsP all j k := fun k => by rw [hq]; exact rep_needs hj1
      have hqnv : ∀ k, k ∈ q.never ↔ k < all.length ∧ NeverP all j k := fun k => by rw [hq]; exact rep_never hj1
      have hqln : q.needs.length ≤ all.length := by
        rw [hq]
        exact Nat.le_trans (List.length_filter_le _ _) (by simp)
      have hqlv : q.never.length ≤ all.length := by
        rw [hq]
        exact Nat.le_trans (List.length_filter_le _ _) (by simp)
      rw [← hq] at hgj
      simp only [atV_map hj]
      have d3 : decide (all.length ≤ j) = false := decide_eq_false (by omega)
      have hnc : r.never.contains j = false := by
        have : ¬ r.never.contains j = true := fun h => hjn.2.not_never ((hnv j).1 (by simpa using h)).2
        simpa using this
      simp only [go_sem, simprocAttr, ↓reduceIte, h61, d1, d2, d3, List.length_map, rep_len, atV_map hgj, repAV, nlAV, hqcan]
      refine ⟨hj1, CallP.fnG (fun _ => l19_in j r.never) ?_⟩
      simp only [go_sem, simprocAttr, ↓reduceIte, hnc, h61, d3, List.length_map, rep_len, atV_map hgj, repAV, nlAV]
      refine ⟨by omega, ?_⟩
      refine LoopVC.at [3, 5, 6, 7, 9, 38, 39, 40, 59, 60, 61] (.of (by kernel_rfl)) (fun A => Ext σ A.st) ?_ fun B3 hst => ?_
      · refine LoopVC.upto [3, 5, 6, 7, 9, 38, 39, 40, 59, 60, 61, 92, 93] (.of (by kernel_rfl)) q.needs.length (fun b A => A.env 94 = .int .i64 b ∧ Ext σ A.st) 0 (Nat.zero_le _) ?_ fun b B3 hb ⟨h94, hst⟩ => ?_
        · simp only [go_sem, simprocAttr, ↓reduceIte]
          exact hst
        simp only [go_sem, simprocAttr, ↓reduceIte, h94, List.length_map]
        refine ⟨fun hc3 => ⟨hc3, ?_⟩, fun hc3 => hst⟩
        obtain ⟨k, hk⟩ := get_some hc3
        have hkn := (hqnd k).1 (List.mem_of_getElem? hk)
        simp only [atV_map hk]
        simp only [go_sem, simprocAttr, ↓reduceIte, h94]
        refine CallP.fnG (fun _ => l19_in k r.needs) ?_
        simp only [go_sem, simprocAttr, ↓reduceIte, h94]
        refine ⟨fun hb => ?_, fun _ => ⟨hc3, int_succ hc3 (by rw [maxLen_eq]; omega), hst⟩⟩
        exfalso
        simp only [Bool.and_eq_true, Bool.not_eq_true', bne_iff_ne, ne_eq] at hb
        have : r.needs.contains k = true := by
          simpa using (hnd k).2 ⟨hkn.1, hjn.2.trans hkn.2 (by omega)⟩
        rw [this] at hb
        exact absurd hb.2 (by simp)
      simp only [go_sem, simprocAttr, ↓reduceIte, List.length_map, rep_len, atV_map hgj, repAV, nlAV]
      refine ⟨hj1, ?_⟩
      refine LoopVC.ats [3, 5, 6, 7, 38, 39, 40, 59, 60, 61] (.of (by kernel_rfl)) (fun A => Ext σ A.st) ?_ fun B3 hst => ?_
      · refine LoopVC.upto [3, 5, 6, 7, 38, 39, 40, 59, 60, 61, 114, 115] (.of (by kernel_rfl)) q.never.length (fun b A => A.env 116 = .int .i64 b ∧ Ext σ A.st) 0 (Nat.zero_le _) ?_ fun b B3 hb ⟨h94, hst⟩ => ?_
        · simp only [go_sem, simprocAttr, ↓reduceIte]
          exact hst
        simp only [go_sem, simprocAttr, ↓reduceIte, h94, List.length_map]
        refine ⟨fun hc3 => ⟨hc3, ?_⟩, fun hc3 => hst⟩
        obtain ⟨k, hk⟩ := get_some hc3
        have hkn := (hqnv k).1 (List.mem_of_getElem? hk)
        have hck : r.never.contains k = true := by
          simpa using (hnv k).2 ⟨hkn.1, hjn.2.never hkn.2⟩
        simp only [atV_map hk]
        simp only [go_sem, simprocAttr, ↓reduceIte, h94]
        refine CallA.fn (l19_in k r.never) ?_
        simp only [go_sem, simprocAttr, ↓reduceIte, h94, hck]
        exact ⟨hc3, int_succ hc3 (by rw [maxLen_eq]; omega), hst⟩
      simp only [go_sem, simprocAttr, ↓reduceIte, h61]
      exact ⟨hc2, int_succ hc2 (by rw [maxLen_eq]; omega), hst⟩
    simp only [go_sem, simprocAttr, ↓reduceIte, List.length_map]
    refine LoopVC.ats [3, 5, 38, 39, 40] (.of (by kernel_rfl)) (fun A => Ext σ A.st) ?_ fun B3 hst => ?_
    · refine LoopVC.upto [3, 5, 6, 38, 39, 40, 129, 130] (.of (by kernel_rfl)) r.never.length (fun b A => A.env 131 = .int .i64 b ∧ Ext σ A.st) 0 (Nat.zero_le _) ?_ fun b B3 hb ⟨h94, hst⟩ => ?_
      · simp only [go_sem, simprocAttr, ↓reduceIte]
        exact hst
      simp only [go_sem, simprocAttr, ↓reduceIte, h94, List.length_map]
      refine ⟨fun hc3 => ⟨hc3, ?_⟩, fun hc3 => hst⟩
      obtain ⟨j, hj⟩ := get_some hc3
      have hjn := (hnv j).1 (List.mem_of_getElem? hj)
      have hj1 := hjn.1
      have d1 : decide ((j : Int) < 0) = false := decide_eq_false (by omega)
      have d2 : decide ((all.length : Int) ≤ (j : Int)) = false := decide_eq_false (by omega)
      have d3 : decide (all.length ≤ j) = false := decide_eq_false (by omega)
      have hgj := rep_get hj1
      obtain ⟨q, hq⟩ : ∃ q, q = repE all j all[j] := ⟨_, rfl⟩
      have hqnv : ∀ k, k ∈ q.never ↔ k < all.length ∧ NeverP all j k := fun k => by rw [hq]; exact rep_never hj1
      rw [← hq] at hgj
      have hck : q.never.contains i = true := by
        simpa using (hqnv i).2 ⟨hc, hjn.2.symm⟩
      simp only [atV_map hj]
      simp only [go_sem, simprocAttr, ↓reduceIte, h94, d1, d2, d3, List.length_map, rep_len, atV_map hgj, repAV, nlAV]
      refine ⟨hj1, CallP.fnG (fun _ => l19_in i q.never) ?_⟩
      simp only [go_sem, simprocAttr, ↓reduceIte, h94, hck]
      exact ⟨hc3, int_succ hc3 (by rw [maxLen_eq]; omega), hst⟩
    simp only [go_sem, simprocAttr, ↓reduceIte, h40]
    exact ⟨hc, int_succ hc hl, hst⟩
  simp only [go_sem, simprocAttr, ↓reduceIte]
  refine CallA.fn l19_awake ?_
  simp only [go_sem, simprocAttr, ↓reduceIte]
  exact hst
end Go.Proofs.Tryz
end
