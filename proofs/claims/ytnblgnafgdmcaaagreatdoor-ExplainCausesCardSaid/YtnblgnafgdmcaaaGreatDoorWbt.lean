/- Texts that the last one of this claim rests on: a layer over the guide's own conditions for code; contracts of the functions that the law reaches, one by one. No conditions beside those of the given rows. -/
import Derived.Test.YtnblgnafgdmcaaaGreatDoorWbq
import Derived.Test.YtnblgnafgdmcaaaGreatDoorWbs
section
set_option linter.unusedSimpArgs false
set_option linter.unusedVariables false
namespace Go.Proofs.Tryz
open Go Go.Av
set_option maxRecDepth 10000
set_option linter.unusedSimpArgs false
set_option linter.unusedVariables false
variable {W0 : World}

def wordT (d : Int) : List UInt8 := if d = 1 then [80, 114, 101, 45, 68, 101, 112, 101, 110, 100, 115] else if d = 2 then [68, 101, 112, 101, 110, 100, 115] else if d = 3 then [67, 111, 110, 102, 108, 105, 99, 116, 115] else [66, 114, 101, 97, 107, 115]
def whatT (p : Pkg) (d k : Nat) : List UInt8 := if d = 1 ∨ d = 2 then (match (clI p d)[k]? with | some x => textL [x] | none => []) else (match (atI p d)[k]? with | some a => atomT a | none => [])
def causeT (all : List Pkg) (d : Nat × Nat × Nat) : List UInt8 := match all[d.1]? with
  | some p => p.name ++ ([32] ++ (p.ver ++ ([32] ++ (wordT d.2.1 ++ ([58, 32] ++ whatT p d.2.1 d.2.2)))))
  | none => []
/-- The text of whatever is given as a cause. -/
def causeTI (all : List Pkg) (c : Int × Int × Int) : List UInt8 := if isB all c = true then causeT all (c.1.toNat, c.2.1.toNat, c.2.2.toNat) else []
theorem textL_len (l : List Clause) : (textL l).length ≤ 5856 := by
  unfold textL
  split
  · simp
  · rename_i h
    refine joinC_len ?_ ?_
    · cases hh : l.all goodCl with
      | true => rfl
      | false => exact absurd (.inr hh) h
    · exact Nat.le_of_not_lt fun hl => h (.inl hl)
theorem wordT_len (d : Int) : (wordT d).length ≤ 11 := by
  unfold wordT
  repeat' split
  all_goals decide
theorem whatT_len (p : Pkg) (d k : Nat) : (whatT p d k).length ≤ 5856 := by
  unfold whatT
  split
  · split
    · exact textL_len _
    · simp
  · split
    · exact Nat.le_trans (atomT_len _) (by omega)
    · simp
theorem pkg_lens {p : Pkg} (h : mayPkg p = 0) : p.name.length ≤ 24 ∧ p.ver.length ≤ 48 := by
  unfold mayPkg at h
  split at h
  · cases h
  · rename_i hn
    simp only [Bool.or_eq_true, Bool.not_eq_true', not_or, Bool.not_eq_false] at hn
    exact ⟨nameOk_len hn.1, isVer_len hn.2⟩

theorem ex_word (d : Int) : PureFn prog W0 46 [.int .i64 d] (.str (wordT d)) := by
  refine fn_pure [2] [] func46 rfl rfl ntmps46 rfl rfl (.str _) fun hs σ => ?_
  simp only [go_sem, simprocAttr, ↓reduceIte]
  refine ⟨fun h => ?_, fun h => ⟨fun h2 => ?_, fun h2 => ⟨fun h3 => ?_, fun h3 => ?_⟩⟩⟩
  all_goals exact weak_str (by simp [wordT, *])

theorem ex_text (all : List Pkg) (hm : ∀ p ∈ all, mayPkg p = 0) (c : Int × Int × Int) : PureFn prog W0 21 [pkgsAV all, causeI c] (.str (causeTI all c)) := by
  refine fn_pure [4] [3, 5] func21 rfl rfl ntmps21 rfl rfl (.str _) fun hs σ => ?_
  simp only [go_sem, simprocAttr, ↓reduceIte, causeI]
  refine CallA.fn (ex_isI all c) ?_
  simp only [go_sem, simprocAttr, ↓reduceIte]
  refine ⟨fun hf => weak_str (by unfold causeTI; rw [hf]; rfl), fun hv => ?_⟩
  obtain ⟨⟨i, d, k⟩, rfl, hdv⟩ := isB_iff.1 hv
  have hT : causeTI all (natI (i, d, k)) = causeT all (i, d, k) := by
    unfold causeTI
    rw [if_pos hv]
    rfl
  rw [hT]
  have hdv' := hdv
  obtain ⟨p, hp, h1, h4, hk⟩ := hdv
  simp only at hp h1 h4 hk
  obtain ⟨n1, n2⟩ := pkg_lens (hm p (List.mem_of_getElem? hp))
  have n3 := wordT_len d
  have n4 := whatT_len p d k
  have hil := (List.getElem?_eq_some_iff.1 hp).1
  have hk1 : ((natI (i, d, k)).2.1 == 1) = decide (d = 1) := by rw [Bool.eq_iff_iff]; simp [natI]; omega
  have hk2 : ((natI (i, d, k)).2.1 == 2) = decide (d = 2) := by rw [Bool.eq_iff_iff]; simp [natI]; omega
  have hi1 : (natI (i, d, k)).1 = (i : Nat) := rfl
  simp only [go_sem, simprocAttr, ↓reduceIte, pkgsAV, hi1, atV_map hp, List.length_map, hk1, hk2]
  refine ⟨hil, JoinVC.at [3, 5] (by kernel_rfl) (fun A => A.env 6 = .str (whatT p d k) ∧ Ext σ A.st) (fun h => ?_) (fun h => ?_) fun B ⟨h6, hst⟩ => ?_⟩
  · have hd : d = 1 ∨ d = 2 := by simpa using h
    have hx := clI_get hp hd hk
    have hwt : whatT p d k = textL [clauseO all (i, d, k)] := by
      unfold whatT
      rw [if_pos hd, hx]
    simp only [go_sem, simprocAttr, ↓reduceIte, pkgsAV]
    refine ⟨.of (by kernel_rfl), CallP.fn (ex_clauses p d) ?_⟩
    have hki : (natI (i, d, k)).2.2 = (k : Nat) := rfl
    simp only [go_sem, simprocAttr, ↓reduceIte, clausesAV, hki, atV_map hx, List.length_map]
    refine ⟨(List.getElem?_eq_some_iff.1 hx).1, CallP.fn ((rl_text [clauseO all (i, d, k)]).weak (.cons (.lit _ _) .nil)) ?_⟩
    simp only [go_sem, simprocAttr, ↓reduceIte]
    exact ⟨by rw [hwt], (Ext.refl _).app _⟩
  · have hd : d = 3 ∨ d = 4 := by
      have : ¬ (d = 1 ∨ d = 2) := by simpa using h
      omega
    obtain ⟨a, hx, _⟩ := atI_get hp hd hk
    have hwt : whatT p d k = atomT a := by
      unfold whatT
      rw [if_neg (by omega), hx]
    simp only [go_sem, simprocAttr, ↓reduceIte, pkgsAV]
    refine ⟨.of (by kernel_rfl), CallP.fn (ex_atoms p d) ?_⟩
    have hki : (natI (i, d, k)).2.2 = (k : Nat) := rfl
    simp only [go_sem, simprocAttr, ↓reduceIte, atomsAV, hki, atV_map hx, List.length_map]
    refine ⟨(List.getElem?_eq_some_iff.1 hx).1, CallP.fn (rl_atom a) ?_⟩
    simp only [go_sem, simprocAttr, ↓reduceIte]
    exact ⟨by rw [hwt], (Ext.refl _).app _⟩
  have hcT : causeT all (i, d, k) = p.name ++ ([32] ++ (p.ver ++ ([32] ++ (wordT d ++ ([58, 32] ++ whatT p d k))))) := by
    unfold causeT
    rw [hp]
  have hkd : (natI (i, d, k)).2.1 = (d : Nat) := rfl
  generalize whatT p d k = W at n4 h6 hcT
  generalize hwd : wordT d = D at n3 hcT
  have c1 : p.name.length + 1 ≤ maxLen := by rw [maxLen_eq]; omega
  have c2 : (p.name ++ [32]).length + p.ver.length ≤ maxLen := by rw [maxLen_eq]; simp only [List.length_append, List.length_cons, List.length_nil]; omega
  have c3 : ((p.name ++ [32]) ++ p.ver).length + 1 ≤ maxLen := by rw [maxLen_eq]; simp only [List.length_append, List.length_cons, List.length_nil]; omega
  have c4 : (((p.name ++ [32]) ++ p.ver) ++ [32]).length + D.length ≤ maxLen := by rw [maxLen_eq]; simp only [List.length_append, List.length_cons, List.length_nil]; omega
  have c5 : ((((p.name ++ [32]) ++ p.ver) ++ [32]) ++ D).length + 2 ≤ maxLen := by rw [maxLen_eq]; simp only [List.length_append, List.length_cons, List.length_nil]; omega
  have c6 : (((((p.name ++ [32]) ++ p.ver) ++ [32]) ++ D) ++ [58, 32]).length + W.length ≤ maxLen := by rw [maxLen_eq]; simp only [List.length_append, List.length_cons, List.length_nil]; omega
  simp only [go_sem, simprocAttr, ↓reduceIte] at c2 c3 c4 c5 c6
  simp only [go_sem, simprocAttr, ↓reduceIte, h6, pkgAV, hkd, c1, c2, c3]
  refine ⟨.of (by kernel_rfl), CallP.fn (ex_word d) ?_⟩
  rw [hwd]
  simp only [go_sem, simprocAttr, ↓reduceIte, h6, c1, c2, c3, c4, c5, c6]
  refine ⟨weak_str ?_, hst⟩
  rw [hcT]
  simp only [List.append_assoc, List.cons_append, List.nil_append]
end Go.Proofs.Tryz
end
section
set_option linter.unusedSimpArgs false
set_option linter.unusedVariables false
namespace Go.Proofs.Tryz
open Go Go.Av
set_option maxRecDepth 10000
set_option linter.unusedSimpArgs false
set_option linter.unusedVariables false
variable {W0 : World}

theorem r10_text (all : List Pkg) (hm : ∀ p ∈ all, mayPkg p = 0) (c : Int × Int × Int) : PureFn prog W0 22 [pkgsAV all, causeI c] (.str (causeTI all c)) := by
  refine fn_pure [4] [3, 5] func22 rfl rfl ntmps22 rfl rfl (.str _) fun hs σ => ?_
  simp only [go_sem, simprocAttr, ↓reduceIte, causeI]
  refine CallA.fn (r10_isI all c) ?_
  simp only [go_sem, simprocAttr, ↓reduceIte]
  refine ⟨fun hf => weak_str (by unfold causeTI; rw [hf]; rfl), fun hv => ?_⟩
  obtain ⟨⟨i, d, k⟩, rfl, hdv⟩ := isB_iff.1 hv
  have hT : causeTI all (natI (i, d, k)) = causeT all (i, d, k) := by
    unfold causeTI
    rw [if_pos hv]
    rfl
  rw [hT]
  obtain ⟨p, hp, h1, h4, hk⟩ := hdv
  simp only at hp h1 h4 hk
  obtain ⟨n1, n2⟩ := pkg_lens (hm p (List.mem_of_getElem? hp))
  have n4 := whatT_len p d k
  have hil := (List.getElem?_eq_some_iff.1 hp).1
  have hi1 : (natI (i, d, k)).1 = (i : Nat) := rfl
  have hd1 : (natI (i, d, k)).2.1 = (d : Nat) := rfl
  have hk1 : (natI (i, d, k)).2.2 = (k : Nat) := rfl
  have c1 : p.name.length + 1 ≤ maxLen := by rw [maxLen_eq]; omega
  have c2 : (p.name ++ [32]).length + p.ver.length ≤ maxLen := by rw [maxLen_eq]; simp only [List.length_append, List.length_cons, List.length_nil]; omega
  have c3 : ((p.name ++ [32]) ++ p.ver).length + 1 ≤ maxLen := by rw [maxLen_eq]; simp only [List.length_append, List.length_cons, List.length_nil]; omega
  have c4 : (((p.name ++ [32]) ++ p.ver) ++ [32]).length + 13 ≤ maxLen := by rw [maxLen_eq]; simp only [List.length_append, List.length_cons, List.length_nil]; omega
  have c5 : (((p.name ++ [32]) ++ p.ver) ++ [32]).length + 9 ≤ maxLen := by rw [maxLen_eq]; simp only [List.length_append, List.length_cons, List.length_nil]; omega
  have c6 : (((p.name ++ [32]) ++ p.ver) ++ [32]).length + 11 ≤ maxLen := by rw [maxLen_eq]; simp only [List.length_append, List.length_cons, List.length_nil]; omega
  have c7 : (((p.name ++ [32]) ++ p.ver) ++ [32]).length + 8 ≤ maxLen := by rw [maxLen_eq]; simp only [List.length_append, List.length_cons, List.length_nil]; omega
  have hcT : causeT all (i, d, k) = p.name ++ ([32] ++ (p.ver ++ ([32] ++ (wordT d ++ ([58, 32] ++ whatT p d k))))) := by
    unfold causeT
    rw [hp]
  rw [hcT]
  simp only [go_sem, simprocAttr, ↓reduceIte] at c2 c3 c4 c5 c6 c7
  obtain rfl | rfl | rfl | rfl : d = 1 ∨ d = 2 ∨ d = 3 ∨ d = 4 := by omega
  · obtain ⟨x, hx⟩ := get_some (l := p.pre) (show k < p.pre.length from hk)
    have hw : whatT p 1 k = textL [x] := by simp [whatT, clI, hx]
    rw [hw] at n4 ⊢
    have c8 : ((((p.name ++ [32]) ++ p.ver) ++ [32]) ++ [80, 114, 101, 45, 68, 101, 112, 101, 110, 100, 115, 58, 32]).length + (textL [x]).length ≤ maxLen := by rw [maxLen_eq]; simp only [List.length_append, List.length_cons, List.length_nil]; omega
    simp only [go_sem, simprocAttr, ↓reduceIte] at c8
    simp only [go_sem, simprocAttr, ↓reduceIte, pkgsAV, hi1, hd1, hk1, atV_map hp, List.length_map, pkgAV, clausesAV, atV_map hx, c1, c2, c3, c4]
    refine ⟨hil, (List.getElem?_eq_some_iff.1 hx).1, CallA.fn ((r4_text [x]).weak (.cons (.lit _ _) .nil)) ?_⟩
    simp only [go_sem, simprocAttr, ↓reduceIte, c1, c2, c3, c4, c8]
    refine weak_str ?_
    simp only [wordT, List.append_assoc, List.cons_append, List.nil_append, Int.reduceEq, ↓reduceIte, Int.cast_ofNat_Int]
  · obtain ⟨x, hx⟩ := get_some (l := p.dep) (show k < p.dep.length from hk)
    have hw : whatT p 2 k = textL [x] := by simp [whatT, clI, hx]
    rw [hw] at n4 ⊢
    have c8 : ((((p.name ++ [32]) ++ p.ver) ++ [32]) ++ [68, 101, 112, 101, 110, 100, 115, 58, 32]).length + (textL [x]).length ≤ maxLen := by rw [maxLen_eq]; simp only [List.length_append, List.length_cons, List.length_nil]; omega
    simp only [go_sem, simprocAttr, ↓reduceIte] at c8
    simp only [go_sem, simprocAttr, ↓reduceIte, pkgsAV, hi1, hd1, hk1, atV_map hp, List.length_map, pkgAV, clausesAV, atV_map hx, c1, c2, c3, c5]
    refine ⟨hil, (List.getElem?_eq_some_iff.1 hx).1, CallA.fn ((r4_text [x]).weak (.cons (.lit _ _) .nil)) ?_⟩
    simp only [go_sem, simprocAttr, ↓reduceIte, c1, c2, c3, c5, c8]
    refine weak_str ?_
    simp only [wordT, List.append_assoc, List.cons_append, List.nil_append, Int.reduceEq, ↓reduceIte, Int.cast_ofNat_Int]
  · obtain ⟨x, hx⟩ := get_some (l := p.con) (show k < p.con.length from hk)
    have hw : whatT p 3 k = atomT x := by simp [whatT, atI, hx]
    rw [hw] at n4 ⊢
    have c8 : ((((p.name ++ [32]) ++ p.ver) ++ [32]) ++ [67, 111, 110, 102, 108, 105, 99, 116, 115, 58, 32]).length + (atomT x).length ≤ maxLen := by rw [maxLen_eq]; simp only [List.length_append, List.length_cons, List.length_nil]; omega
    simp only [go_sem, simprocAttr, ↓reduceIte] at c8
    simp only [go_sem, simprocAttr, ↓reduceIte, pkgsAV, hi1, hd1, hk1, atV_map hp, List.length_map, pkgAV, atomsAV, atV_map hx, c1, c2, c3, c6]
    refine ⟨hil, (List.getElem?_eq_some_iff.1 hx).1, CallA.fn (r4_Atom x) ?_⟩
    simp only [go_sem, simprocAttr, ↓reduceIte, c1, c2, c3, c6, c8]
    refine weak_str ?_
    simp only [wordT, List.append_assoc, List.cons_append, List.nil_append, Int.reduceEq, ↓reduceIte, Int.cast_ofNat_Int]
  · obtain ⟨x, hx⟩ := get_some (l := p.brk) (show k < p.brk.length from hk)
    have hw : whatT p 4 k = atomT x := by simp [whatT, atI, hx]
    rw [hw] at n4 ⊢
    have c8 : ((((p.name ++ [32]) ++ p.ver) ++ [32]) ++ [66, 114, 101, 97, 107, 115, 58, 32]).length + (atomT x).length ≤ maxLen := by rw [maxLen_eq]; simp only [List.length_append, List.length_cons, List.length_nil]; omega
    simp only [go_sem, simprocAttr, ↓reduceIte] at c8
    simp only [go_sem, simprocAttr, ↓reduceIte, pkgsAV, hi1, hd1, hk1, atV_map hp, List.length_map, pkgAV, atomsAV, atV_map hx, c1, c2, c3, c7]
    refine ⟨hil, (List.getElem?_eq_some_iff.1 hx).1, CallA.fn (r4_Atom x) ?_⟩
    simp only [go_sem, simprocAttr, ↓reduceIte, c1, c2, c3, c7, c8]
    refine weak_str ?_
    simp only [wordT, List.append_assoc, List.cons_append, List.nil_append, Int.reduceEq, ↓reduceIte, Int.cast_ofNat_Int]
end Go.Proofs.Tryz
end
