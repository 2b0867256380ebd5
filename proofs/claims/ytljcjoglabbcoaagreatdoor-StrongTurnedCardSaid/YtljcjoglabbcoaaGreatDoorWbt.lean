/- Texts that the last one of this claim rests on: a layer over the guide's own conditions for code; contracts of the functions that the law reaches, one by one. No conditions beside those of the given rows. -/
import Derived.Test.YtljcjoglabbcoaaGreatDoorWbr
import Derived.Test.YtljcjoglabbcoaaGreatDoorWbs
section
set_option linter.unusedSimpArgs false
set_option linter.unusedVariables false
namespace Go.Proofs.Tryz
open Go Go.Av
set_option maxRecDepth 10000
set_option linter.unusedSimpArgs false
set_option linter.unusedVariables false
variable {W0 : World}

theorem canE1_turn {all : List Pkg} {i : Nat} (hi : i < all.length) : canE all.reverse [litN (all.length - 1 - i)] = canE all [litN i] := by
  rw [Bool.eq_iff_iff, canE1 (by simp; omega), canE1 hi, can1_turn_iff hi]
theorem canE2_turn {all : List Pkg} {i j : Nat} (hi : i < all.length) (hj : j < all.length) : canE all.reverse [litN (all.length - 1 - i), litN (all.length - 1 - j)] = canE all [litN i, litN j] := by
  rw [Bool.eq_iff_iff, canE2 (by simp; omega) (by simp; omega), canE2 hi hj, can2_turn_iff hi hj]
theorem canEN_turn {all : List Pkg} {i j : Nat} (hi : i < all.length) (hj : j < all.length) : canE all.reverse [litN (all.length - 1 - i), -litN (all.length - 1 - j)] = canE all [litN i, -litN j] := by
  rw [Bool.eq_iff_iff, canEN (by simp; omega) (by simp; omega), canEN hi hj, canN_turn_iff hi hj]
theorem bne_turn {n i j : Nat} (hi : i < n) (hj : j < n) : (n - 1 - i != n - 1 - j) = (i != j) := by
  rw [Bool.eq_iff_iff, bne_iff_ne, bne_iff_ne]
  omega
theorem needs_turn {all : List Pkg} {i : Nat} (hi : i < all.length) (p : Pkg) : (repE all.reverse (all.length - 1 - i) p).needs = ((repE all i p).needs.map fun k => all.length - 1 - k).reverse := by
  show (List.range all.reverse.length).filter (needsE all.reverse (all.length - 1 - i)) = _
  rw [List.length_reverse]
  refine filter_turn all.length (needsE all i) _ fun k hk => ?_
  unfold needsE
  rw [bne_turn hi hk, canE1_turn hi, canEN_turn hi hk]
theorem never_turn {all : List Pkg} {i : Nat} (hi : i < all.length) (p : Pkg) : (repE all.reverse (all.length - 1 - i) p).never = ((repE all i p).never.map fun k => all.length - 1 - k).reverse := by
  show (List.range all.reverse.length).filter (neverE all.reverse (all.length - 1 - i)) = _
  rw [List.length_reverse]
  refine filter_turn all.length (neverE all i) _ fun k hk => ?_
  unfold neverE
  rw [bne_turn hi hk, canE1_turn hi, canE1_turn hk, canE2_turn hi hk]
theorem rep_turn {all : List Pkg} {i : Nat} (hi : i < all.length) : (reportE all.reverse)[all.length - 1 - i]? = some (repE all.reverse (all.length - 1 - i) all[i]) := by
  rw [rep_get (all := all.reverse) (by simp; omega)]
  congr 2
  have h := rev_get (all := all) (i := all.length - 1 - i) (by omega)
  rw [show all.length - 1 - (all.length - 1 - i) = i by omega, List.getElem?_eq_getElem hi, List.getElem?_eq_getElem (by simp; omega)] at h
  exact Option.some.inj h
theorem last_turn {l : List Nat} {n k j : Nat} (hk : l[k]? = some j) : ((l.map fun x => n - 1 - x).reverse)[l.length - 1 - k]? = some (n - 1 - j) := by
  have hl := (List.getElem?_eq_some_iff.1 hk).1
  rw [List.getElem?_reverse (by simp; omega), List.length_map, show l.length - 1 - (l.length - 1 - k) = k by omega, List.getElem?_map, hk]
  rfl

theorem l19_turned (all : List Pkg) (hp : ∀ p ∈ all, PkgR p) : PureFn prog W0 5 [pkgsAV all] (.bool true) := by
  refine fn_pure [2] [11, 12] func5 rfl rfl ntmps5 rfl rfl (.bool _) fun hs σ => ?_
  have hl := (small_map (hs _ (List.mem_cons_self ..))).1
  simp only [go_sem, simprocAttr, ↓reduceIte]
  refine CallA.fn (l19_light all hp) ?_
  simp only [go_sem, simprocAttr, ↓reduceIte, pkgsAV, List.length_map]
  refine ⟨fun _ => CallA.fn l19_awake ?_, fun h => ?_⟩
  · simp only [go_sem, simprocAttr, ↓reduceIte]
    done
  simp only [Bool.or_eq_false_iff, Bool.not_eq_false', decide_eq_false_iff_not] at h
  obtain ⟨hla, h14⟩ := h
  have hma := light_may hla
  have hmr : ∀ p ∈ all.reverse, MayN p := fun p hp => hma p (by simpa using hp)
  refine LoopVC.at [0, 3] (.of (by kernel_rfl)) (fun A => ∃ v, A.env 4 = v ∧ Built σ A.st v 38 (all.reverse.map pkgAV)) ?_ fun B ⟨v, h4, hv⟩ => ?_
  · refine LoopVC.upto [0, 3, 29] (.of (by kernel_rfl)) all.length (fun i A => A.env 30 = .int .i64 i ∧ ∃ v, A.env 4 = v ∧ Built σ A.st v 38 ((all.reverse.take i).map pkgAV)) 0 (Nat.zero_le _) ?_ fun i B hi ⟨h30, v, h4, hv⟩ => ?_
    · simp only [go_sem, simprocAttr, ↓reduceIte]
      exact ⟨_, rfl, Built.nil (.refl _) _⟩
    simp only [go_sem, simprocAttr, ↓reduceIte, h30, h4, List.length_map, hv.ok, hv.un]
    refine ⟨fun hc => ?_, fun hc => ?_⟩
    · have hw1 : IntKind.i64.wrap ((all.length : Int) - 1) = ((all.length - 1 : Nat) : Int) := by rw [wrap_in (by omega)]; omega
      have hw2 : IntKind.i64.wrap (((all.length - 1 : Nat) : Int) - (i : Int)) = ((all.length - 1 - i : Nat) : Int) := by rw [wrap_in (by omega)]; omega
      obtain ⟨p, hpi⟩ := get_some (show all.length - 1 - i < all.length by omega)
      simp only [go_sem, simprocAttr, ↓reduceIte, h30, h4, hv.ok, hv.un, hw1, hw2, List.length_map, atV_map hpi]
      refine ⟨by omega, AppA.own 1048576 (by kernel_rfl) hv.bld (.lit _ _ _) (by simp; omega) fun v' σ' ha' => ?_⟩
      have hv' := hv.app ha'
      simp only [go_sem, simprocAttr, ↓reduceIte, h30, hv'.ok, hv'.un]
      refine ⟨hc, int_succ hc hl, _, rfl, ?_⟩
      have e : all.reverse.take (i + 1) = all.reverse.take i ++ [p] := take_succ_get (by rw [rev_get hc]; exact hpi)
      rw [e, List.map_append]
      exact hv'
    · rw [List.take_of_length_le (by simp; omega)] at hv
      exact ⟨_, rfl, hv⟩
  have hr := st_report (W0 := W0) all hma (by omega)
  have hr2 := st_report (W0 := W0) all.reverse hmr (by simp; omega)
  by_cases h0 : mayAll all = 0
  case neg =>
    have h0' : mayAll all.reverse ≠ 0 := fun e => h0 ((mayAll_rev all).1 e)
    rw [if_neg h0] at hr
    rw [if_neg h0'] at hr2
    simp only [go_sem, simprocAttr, ↓reduceIte, h4, hv.ok, hv.un]
    refine CallA.fn hr ?_
    simp only [go_sem, simprocAttr, ↓reduceIte, h4, hv.ok, hv.un]
    refine CallA.fn (hr2.weak (.cons hv.weak .nil)) ?_
    have e0 : (mayAll all != 0) = true := by simp [h0]
    have e1 : (mayAll all.reverse != 0) = true := by simp [h0']
    simp only [go_sem, simprocAttr, ↓reduceIte, e0, e1]
    refine CallP.fnG (fun _ => r9_mayAll all) ?_
    simp only [go_sem, simprocAttr, ↓reduceIte, e0]
    refine CallP.fnG (fun _ => l19_awake) ?_
    simp only [go_sem, simprocAttr, ↓reduceIte]
    exact hv.ext
  rw [if_pos h0, h0] at hr
  rw [if_pos ((mayAll_rev all).2 h0), (mayAll_rev all).2 h0] at hr2
  simp only [go_sem, simprocAttr, ↓reduceIte, h4, hv.ok, hv.un]
  refine CallA.fn hr ?_
  simp only [go_sem, simprocAttr, ↓reduceIte, h4, hv.ok, hv.un]
  refine CallA.fn (hr2.weak (.cons hv.weak .nil)) ?_
  have hlr : (reportE all.reverse).length = all.length := by rw [rep_len, List.length_reverse]
  simp only [go_sem, simprocAttr, ↓reduceIte, repsAV, List.length_map, rep_len, hlr]
  refine ⟨fun hb => absurd hb (by simp), fun _ => ?_⟩
  have hw1 : 0 < all.length → IntKind.i64.wrap ((all.length : Int) - 1) = ((all.length - 1 : Nat) : Int) := fun h => by rw [wrap_in (by omega)]; omega
  refine LoopVC.at [] (.of (by kernel_rfl)) (fun A => Ext σ A.st) ?_ fun B2 hst => ?_
  · refine LoopVC.upto [3, 8, 84, 85] (.of (by kernel_rfl)) all.length (fun i A => A.env 86 = .int .i64 i ∧ Ext σ A.st) 0 (Nat.zero_le _) ?_ fun i B2 hi ⟨h86, hst⟩ => ?_
    · simp only [go_sem, simprocAttr, ↓reduceIte]
      exact hv.ext
    simp only [go_sem, simprocAttr, ↓reduceIte, h86, List.length_map, rep_len]
    refine ⟨fun hc => ⟨hc, ?_⟩, fun hc => hst⟩
    have hw1 := hw1 (by omega)
    have hw2 : IntKind.i64.wrap (((all.length - 1 : Nat) : Int) - (i : Int)) = ((all.length - 1 - i : Nat) : Int) := by rw [wrap_in (by omega)]; omega
    have hgi := rep_get hc
    have hgt := rep_turn hc
    obtain ⟨r, hr⟩ : ∃ r, r = repE all i all[i] := ⟨_, rfl⟩
    obtain ⟨s, hs⟩ : ∃ s, s = repE all.reverse (all.length - 1 - i) all[i] := ⟨_, rfl⟩
    have hnd : ∀ k, k ∈ r.needs ↔ k < all.length ∧ NeedsP all i k := fun k => by rw [hr]; exact rep_needs hc
    have hnv : ∀ k, k ∈ r.never ↔ k < all.length ∧ NeverP all i k := fun k => by rw [hr]; exact rep_never hc
    have hln : r.needs.length ≤ all.length := by
      rw [hr]
      exact Nat.le_trans (List.length_filter_le _ _) (by simp)
    have hlv : r.never.length ≤ all.length := by
      rw [hr]
      exact Nat.le_trans (List.length_filter_le _ _) (by simp)
    have e1 : s.name = r.name := by rw [hs, hr]; rfl
    have e2 : s.can = r.can := by rw [hs, hr]; exact canE1_turn hc
    have e3 : s.needs = (r.needs.map fun k => all.length - 1 - k).reverse := by rw [hs, hr]; exact needs_turn hc _
    have e4 : s.never = (r.never.map fun k => all.length - 1 - k).reverse := by rw [hs, hr]; exact never_turn hc _
    rw [← hr] at hgi
    rw [← hs] at hgt
    simp only [atV_map hgi]
    have b1 : ∀ x : List UInt8, (x == x) = true := fun x => by simp
    have b2 : ∀ x : Bool, (x == x) = true := fun x => by simp
    have b3 : ∀ x : Int, (x != x) = false := fun x => by simp
    simp only [go_sem, simprocAttr, ↓reduceIte, repAV, nlAV, List.length_map, hw1, hw2, h86, rep_len, hlr, atV_map hgt, e1, e2, e3, e4, List.length_reverse, b1, b2, b3]
    refine ⟨by omega, ?_⟩
    refine LoopVC.at [3, 8, 11, 12, 84, 85, 86] (.of (by kernel_rfl)) (fun A => Ext σ A.st) ?_ fun B3 hst => ?_
    · refine LoopVC.upto [3, 8, 11, 12, 84, 85, 86, 129, 130] (.of (by kernel_rfl)) r.needs.length (fun b A => A.env 131 = .int .i64 b ∧ Ext σ A.st) 0 (Nat.zero_le _) ?_ fun b B3 hb ⟨h94, hst⟩ => ?_
      · simp only [go_sem, simprocAttr, ↓reduceIte]
        exact hst.app _
      simp only [go_sem, simprocAttr, ↓reduceIte, h94, List.length_map]
      refine ⟨fun hc3 => ⟨hc3, ?_⟩, fun hc3 => hst⟩
      obtain ⟨j, hj⟩ := get_some hc3
      have hjn : j < all.length := ((hnd j).1 (List.mem_of_getElem? hj)).1
      have hlt := last_turn (n := all.length) hj
      have u1 : IntKind.i64.wrap ((r.needs.length : Int) - 1) = ((r.needs.length - 1 : Nat) : Int) := by rw [wrap_in (by omega)]; omega
      have u2 : IntKind.i64.wrap (((r.needs.length - 1 : Nat) : Int) - (b : Int)) = ((r.needs.length - 1 - b : Nat) : Int) := by rw [wrap_in (by omega)]; omega
      have u3 : IntKind.i64.wrap (((all.length - 1 : Nat) : Int) - (j : Int)) = ((all.length - 1 - j : Nat) : Int) := by rw [wrap_in (by omega)]; omega
      simp only [atV_map hj]
      simp only [go_sem, simprocAttr, ↓reduceIte, h94, hw1, u1, u2, u3, List.length_map, List.length_reverse, e3, atV_map hlt]
      refine ⟨by omega, hc3, int_succ hc3 (by rw [maxLen_eq]; omega), hst⟩
    simp only [go_sem, simprocAttr, ↓reduceIte, List.length_map]
    refine LoopVC.ats [3, 8, 84, 85, 86] (.of (by kernel_rfl)) (fun A => Ext σ A.st) ?_ fun B3 hst => ?_
    · refine LoopVC.upto [3, 8, 12, 84, 85, 86, 153, 154] (.of (by kernel_rfl)) r.never.length (fun b A => A.env 155 = .int .i64 b ∧ Ext σ A.st) 0 (Nat.zero_le _) ?_ fun b B3 hb ⟨h94, hst⟩ => ?_
      · simp only [go_sem, simprocAttr, ↓reduceIte]
        exact hst
      simp only [go_sem, simprocAttr, ↓reduceIte, h94, List.length_map]
      refine ⟨fun hc3 => ⟨hc3, ?_⟩, fun hc3 => hst⟩
      obtain ⟨j, hj⟩ := get_some hc3
      have hjn : j < all.length := ((hnv j).1 (List.mem_of_getElem? hj)).1
      have hlt := last_turn (n := all.length) hj
      have u1 : IntKind.i64.wrap ((r.never.length : Int) - 1) = ((r.never.length - 1 : Nat) : Int) := by rw [wrap_in (by omega)]; omega
      have u2 : IntKind.i64.wrap (((r.never.length - 1 : Nat) : Int) - (b : Int)) = ((r.never.length - 1 - b : Nat) : Int) := by rw [wrap_in (by omega)]; omega
      have u3 : IntKind.i64.wrap (((all.length - 1 : Nat) : Int) - (j : Int)) = ((all.length - 1 - j : Nat) : Int) := by rw [wrap_in (by omega)]; omega
      simp only [atV_map hj]
      simp only [go_sem, simprocAttr, ↓reduceIte, h94, hw1, u1, u2, u3, List.length_map, List.length_reverse, e4, atV_map hlt]
      refine ⟨by omega, hc3, int_succ hc3 (by rw [maxLen_eq]; omega), hst⟩
    simp only [go_sem, simprocAttr, ↓reduceIte, h86]
    exact ⟨hc, int_succ hc hl, hst⟩
  simp only [go_sem, simprocAttr, ↓reduceIte]
  refine CallA.fn l19_awake ?_
  simp only [go_sem, simprocAttr, ↓reduceIte]
  exact hst
end Go.Proofs.Tryz
end
