/- Texts that the last one of this claim rests on: a layer over the guide's own conditions for code; contracts of the functions that the law reaches, one by one. No conditions beside those of the given rows. -/
import Derived.Test.YtljcjoglabbcoaaGreatDoorWbr
import Derived.Test.YtljcjoglabbcoaaGreatDoorWbu
section
set_option linter.unusedSimpArgs false
set_option linter.unusedVariables false
namespace Go.Proofs.Tryz
open Go Go.Av
set_option maxRecDepth 10000
set_option linter.unusedSimpArgs false
set_option linter.unusedVariables false
variable {W0 : World}

def togF (all : List Pkg) (i j : Nat) (p q : Pkg) : Bool := if i ≠ j ∧ p.name = q.name then false else togE all p q
theorem togF_iff {all : List Pkg} (h : mayAll all = 0) {i j : Nat} {p q : Pkg} (hi : all[i]? = some p) (hj : all[j]? = some q) : togF all i j p q = true ↔ Can2 all i j := by
  unfold togF
  split
  · rename_i hn
    constructor
    · intro h; cases h
    · rintro ⟨S, hS, h1, h2⟩
      exfalso
      rcases Nat.lt_or_ge j i with hlt | hge
      · exact (hS.con i p j q hi hj hlt h1 h2).1 hn.2
      · exact (hS.con j q i p hj hi (by omega) h2 h1).1 hn.2.symm
  · exact togE_iff h hi hj
theorem togF_self {all : List Pkg} (h : mayAll all = 0) {i : Nat} {p : Pkg} (hi : all[i]? = some p) : togF all i i p p = canE all [litN i] := by
  have hl := (List.getElem?_eq_some_iff.1 hi).1
  rw [Bool.eq_iff_iff, togF_iff h hi hi, canE1 hl]
  exact ⟨fun ⟨S, h1, h2, _⟩ => ⟨S, h1, h2⟩, fun ⟨S, h1, h2⟩ => ⟨S, h1, h2, h2⟩⟩
theorem togF_can {all : List Pkg} (h : mayAll all = 0) {i j : Nat} {p q : Pkg} (hi : all[i]? = some p) (hj : all[j]? = some q) : togF all i j p q = canE all [litN i, litN j] := by
  rw [Bool.eq_iff_iff, togF_iff h hi hj, canE2 (List.getElem?_eq_some_iff.1 hi).1 (List.getElem?_eq_some_iff.1 hj).1]
theorem needsA_E {all : List Pkg} {i j : Nat} (hi : i < all.length) (hj : j < all.length) (hij : i ≠ j) : needsA all i j = needsE all i j := by
  rw [Bool.eq_iff_iff, needsA_iff hi hij, needsE_iff hi hj]
theorem may_pkg {all : List Pkg} (h : mayAll all = 0) : ∀ p ∈ all, mayPkg p = 0 := fun p hp => by
  unfold mayAll at h
  split at h
  · cases h
  · split at h
    · rename_i hn; exact absurd h hn
    · rename_i hn
      have := orL_zero (by simpa using hn : orL (all.map mayPkg) = 0)
      exact this (mayPkg p) (List.mem_map.2 ⟨p, hp, rfl⟩)

theorem filt_succ (f : Nat → Bool) (j : Nat) : (List.range j ++ [j]).filter f = (List.range j).filter f ++ if f j = true then [j] else [] := by
  rw [List.filter_append]
  cases h : f j <;> simp [h]
theorem filt_len (f : Nat → Bool) (j : Nat) : ((List.range j).filter f).length ≤ j := Nat.le_trans (List.length_filter_le _ _) (by simp)
theorem l19_reports (all : List Pkg) (hp : ∀ p ∈ all, PkgR p) : PureFn prog W0 3 [pkgsAV all] (.bool true) := by
  refine fn_pure [2] [7] func3 rfl rfl ntmps3 rfl rfl (.bool _) fun hs σ => ?_
  simp only [go_sem, simprocAttr, ↓reduceIte]
  refine CallA.fn (l19_few all hp) ?_
  simp only [go_sem, simprocAttr, ↓reduceIte, pkgsAV, List.length_map]
  refine ⟨fun _ => CallA.fn l19_awake ?_, fun h => ?_⟩
  · simp only [go_sem, simprocAttr, ↓reduceIte]
    done
  simp only [Bool.and_eq_true, decide_eq_true_eq, Bool.not_eq_false'] at h
  obtain ⟨hla, h7⟩ := h
  have hma := light_may hla
  have hr := st_report (W0 := W0) all hma (by omega)
  by_cases h0 : mayAll all = 0
  case neg =>
    rw [if_neg h0] at hr
    refine CallA.fn hr ?_
    have e0 : (mayAll all != 0) = true := by simp [h0]
    simp only [go_sem, simprocAttr, ↓reduceIte, e0]
    refine CallA.fn (r9_mayAll all) ?_
    simp only [go_sem, simprocAttr, ↓reduceIte, e0]
    refine CallP.fnG (fun _ => l19_awake) ?_
    simp only [go_sem, simprocAttr, ↓reduceIte]
    done
  rw [if_pos h0, h0] at hr
  refine CallA.fn hr ?_
  simp only [go_sem, simprocAttr, ↓reduceIte, repsAV]
  refine CallA.fn (r9_mayAll all) ?_
  rw [h0]
  have b3 : ∀ x : Int, (x != x) = false := fun x => by simp
  simp only [go_sem, simprocAttr, ↓reduceIte, List.length_map, rep_len, b3]
  refine LoopVC.at [] (.of (by kernel_rfl)) (fun A => Ext σ A.st) ?_ fun B hst => ?_
  · refine LoopVC.upto [0, 45, 46] (.of (by kernel_rfl)) all.length (fun i A => A.env 47 = .int .i64 i ∧ Ext σ A.st) 0 (Nat.zero_le _) ?_ fun i B hi ⟨h47, hst⟩ => ?_
    · simp only [go_sem, simprocAttr, ↓reduceIte]
      exact .refl _
    simp only [go_sem, simprocAttr, ↓reduceIte, h47, List.length_map, rep_len]
    refine ⟨fun hc => ⟨hc, ?_⟩, fun hc => hst⟩
    obtain ⟨p, hpi⟩ := get_some hc
    have hgi := rep_get hc
    rw [show all[i] = p from by rw [List.getElem?_eq_getElem hc] at hpi; exact Option.some.inj hpi] at hgi
    simp only [atV_map hgi]
    simp only [go_sem, simprocAttr, ↓reduceIte, repAV, nlAV, h47]
    refine CallA.fn (l19_together all h7 hpi hpi) ?_
    rw [show (if i ≠ i ∧ p.name = p.name then false else togE all p p) = canE all [litN i] from togF_self h0 hpi]
    simp only [go_sem, simprocAttr, ↓reduceIte, h47, repE, List.length_map]
    refine LoopVC.at [0, 6, 7, 10, 45, 46, 47] (.of (by kernel_rfl)) (fun A => ∃ v w, A.env 8 = v ∧ A.env 9 = w ∧ Two σ A.st v 3 (((List.range all.length).filter (needsE all i)).map fun k => .int .i64 (k : Nat)) w 3 (((List.range all.length).filter (neverE all i)).map fun k => .int .i64 (k : Nat))) ?_ fun C ⟨v, w, h8, h9, hb⟩ => ?_
    · refine LoopVC.upto [0, 6, 7, 10, 45, 46, 47, 57] (.of (by kernel_rfl)) all.length (fun j A => A.env 58 = .int .i64 j ∧ ∃ v w, A.env 8 = v ∧ A.env 9 = w ∧ Two σ A.st v 3 (((List.range j).filter (needsE all i)).map fun k => .int .i64 (k : Nat)) w 3 (((List.range j).filter (neverE all i)).map fun k => .int .i64 (k : Nat))) 0 (Nat.zero_le _) ?_ fun j C hj ⟨h58, v, w, h8, h9, hb⟩ => ?_
      · simp only [go_sem, simprocAttr, ↓reduceIte]
        exact ⟨_, _, rfl, rfl, Two.nil (hst.app _) _ _⟩
      have o1 := hb.a.ok
      have o2 := hb.a.un
      have o3 := hb.b.ok
      have o4 := hb.b.un
      simp only [go_sem, simprocAttr, ↓reduceIte, h58, h8, h9, o1, o2, o3, o4]
      refine ⟨fun hj1 => ?_, fun hj1 => ⟨_, _, rfl, rfl, (show j = all.length by omega) ▸ hb⟩⟩
      have y1 := filt_len (needsE all i) j
      have y2 := filt_len (neverE all i) j
      obtain ⟨q, hq⟩ := get_some hj1
      refine ⟨fun hx => ?_, fun hx => ?_⟩
      · refine ⟨hj1, int_succ hj1 (by rw [maxLen_eq]; omega), _, _, rfl, rfl, ?_⟩
        have z : needsE all i j = false ∧ neverE all i j = false := by
          unfold needsE neverE
          rcases (Bool.or_eq_true _ _ ▸ hx : _ = true ∨ _ = true) with h | h
          · have : i = j := by have := eq_of_beq h; omega
            simp [this]
          · have : canE all [litN i] = false := by simpa using h
            simp [this]
        rw [filt_succ, filt_succ, z.1, z.2]
        simpa using hb
      rw [Bool.or_eq_false_iff, Bool.not_eq_false'] at hx
      have hij : i ≠ j := fun e => by have h1 := hx.1; rw [e] at h1; simp at h1
      have z1 : needsA all i j = needsE all i j := needsA_E hc hj1 hij
      have z2 : (canE all [litN j] && !canE all [litN i, litN j]) = neverE all i j := by
        unfold neverE
        rw [hx.2, bne_iff_ne.2 hij]
        simp
      refine CallA.fn (r27_needs all (may_pkg h0) (by omega) hc) ?_
      rw [z1]
      simp only [go_sem, simprocAttr, ↓reduceIte]
      refine JoinVC.at [0, 6, 7, 9, 10, 11, 45, 46, 47, 57, 58] (by kernel_rfl) (fun A => ∃ v, A.env 8 = v ∧ Two σ A.st v 3 (((List.range j ++ [j]).filter (needsE all i)).map fun k => .int .i64 (k : Nat)) w 3 (((List.range j).filter (neverE all i)).map fun k => .int .i64 (k : Nat))) (fun hn => ?_) (fun hn => ?_) fun D ⟨v, h8, hb⟩ => ?_
      · simp only [go_sem, simprocAttr, ↓reduceIte, h8, o1, o2]
        refine AppA.ownS (σ := C.st) (by simp only [go_sem, simprocAttr, ↓reduceIte]) 1048576 (by kernel_rfl) hb.a.bld (.lit _ _ _) (by simp; omega) fun v1 σ1 a1 => ?_
        have t1 := hb.app1 a1
        have p1 := t1.a.ok
        have p2 := t1.a.un
        simp only [go_sem, simprocAttr, ↓reduceIte, p1, p2]
        refine ⟨v1, rfl, ?_⟩
        rw [filt_succ, if_pos hn]
        simpa using t1
      · simp only [go_sem, simprocAttr, ↓reduceIte]
        refine ⟨v, h8, ?_⟩
        rw [filt_succ, if_neg (by simp [hn])]
        simpa using hb
      have o1 := hb.a.ok
      have o2 := hb.a.un
      simp only [go_sem, simprocAttr, ↓reduceIte]
      refine CallA.fn (l19_together all h7 hq hq) ?_
      rw [show (if j ≠ j ∧ q.name = q.name then false else togE all q q) = canE all [litN j] from togF_self h0 hq]
      simp only [go_sem, simprocAttr, ↓reduceIte]
      refine CallP.fnG (fun _ => l19_together all h7 hpi hq) ?_
      rw [show (if i ≠ j ∧ p.name = q.name then false else togE all p q) = canE all [litN i, litN j] from togF_can h0 hpi hq]
      simp only [go_sem, simprocAttr, ↓reduceIte, z2, h58, h8, h9, o1, o2, o3, o4]
      refine ⟨fun hn => ?_, fun hn => ⟨hj1, int_succ hj1 (by rw [maxLen_eq]; omega), _, _, rfl, rfl, ?_⟩⟩
      · refine AppA.ownS (σ := D.st) (by simp only [go_sem, simprocAttr, ↓reduceIte]) 1048576 (by kernel_rfl) hb.b.bld (.lit _ _ _) (by simp; omega) fun v1 σ1 a1 => ?_
        have t1 := hb.app2 a1
        have p1 := t1.b.ok
        have p2 := t1.b.un
        simp only [go_sem, simprocAttr, ↓reduceIte, p1, p2, h58, h8, h9, o1, o2, o3, o4]
        refine ⟨hj1, int_succ hj1 (by rw [maxLen_eq]; omega), _, _, rfl, rfl, ?_⟩
        rw [filt_succ (neverE all i), if_pos hn]
        simpa using t1
      · rw [filt_succ (neverE all i), if_neg (by simp [hn])]
        simpa using hb
    have o1 := hb.a.ok
    have o2 := hb.a.un
    have o3 := hb.b.ok
    have o4 := hb.b.un
    have w1 : Weak v (nlAV ((List.range all.length).filter (needsE all i))) := hb.a.weak
    have w2 : Weak w (nlAV ((List.range all.length).filter (neverE all i))) := hb.b.weak
    simp only [go_sem, simprocAttr, ↓reduceIte, h47, h8, h9, o1, o2, o3, o4, atV_map hpi, pkgAV, hc, List.length_map]
    refine ⟨.of (by kernel_rfl), CallP.fnG (fun _ => (r4_sameInts ((List.range all.length).filter (needsE all i)) ((List.range all.length).filter (needsE all i))).weak (.cons (.refl _) (.cons w1 .nil))) ?_⟩
    simp only [go_sem, simprocAttr, ↓reduceIte, h47, h8, h9, o1, o2, o3, o4]
    refine CallP.fnG (fun _ => (r4_sameInts ((List.range all.length).filter (neverE all i)) ((List.range all.length).filter (neverE all i))).weak (.cons (.refl _) (.cons w2 .nil))) ?_
    simp only [go_sem, simprocAttr, ↓reduceIte, h47]
    exact ⟨hc, int_succ hc (by rw [maxLen_eq]; omega), hb.a.ext⟩
  simp only [go_sem, simprocAttr, ↓reduceIte]
  refine CallA.fn l19_awake ?_
  simp only [go_sem, simprocAttr, ↓reduceIte]
  exact hst
end Go.Proofs.Tryz
end
section
set_option linter.unusedSimpArgs false
set_option linter.unusedVariables false
namespace Go.Proofs.Tryz
open Go Go.Av
set_option maxRecDepth 10000
set_option linter.unusedSimpArgs false
set_option linter.unusedVariables false
variable {W0 : World}

theorem l19_asks (all : List Pkg) (hp : ∀ p ∈ all, PkgR p) (i j : Int) : PureFn prog W0 7 [pkgsAV all, .int .i64 i, .int .i64 j] (.bool true) := by
  refine fn_pure [6] [] func7 rfl rfl ntmps7 rfl rfl (.bool _) fun hs σ => ?_
  simp only [go_sem, simprocAttr, ↓reduceIte]
  refine CallA.fn (l19_few all hp) ?_
  simp only [go_sem, simprocAttr, ↓reduceIte, pkgsAV, List.length_map]
  refine ⟨fun _ => CallA.fn l19_awake ?_, fun h => ?_⟩
  · simp only [go_sem, simprocAttr, ↓reduceIte]
    done
  simp only [Bool.and_eq_true, decide_eq_true_eq, Bool.not_eq_false'] at h
  obtain ⟨hla, h7⟩ := h
  have hma := light_may hla
  have c1 := st_installable (W0 := W0) all hma (by omega) i
  have c2 := st_together (W0 := W0) all hma (by omega) i j
  have c3 := st_needs (W0 := W0) all hma (by omega) i j
  have c4 := r9_mayAll (W0 := W0) all
  by_cases h0 : mayAll all = 0
  case neg =>
    have e1 : errE all [i] = mayAll all := by rw [errE, if_pos h0]
    have e2 : errE all [i, j] = mayAll all := by rw [errE, if_pos h0]
    have e3 : (mayAll all == 0) = false := by simp [h0]
    have e4 : (mayAll all != 0) = true := by simp [h0]
    have e5 : (mayAll all == mayAll all) = true := by simp
    rw [e1, e3, Bool.false_and] at c1
    rw [e2, e3, Bool.false_and] at c2 c3
    refine CallA.fn c1 ?_
    simp only [go_sem, simprocAttr, ↓reduceIte, pairAV]
    refine CallA.fn c2 ?_
    simp only [go_sem, simprocAttr, ↓reduceIte, pairAV]
    refine CallA.fn c3 ?_
    simp only [go_sem, simprocAttr, ↓reduceIte, pairAV]
    refine CallA.fn c4 ?_
    simp only [go_sem, simprocAttr, ↓reduceIte, e4, e5]
    refine CallP.fnG (fun _ => l19_awake) ?_
    simp only [go_sem, simprocAttr, ↓reduceIte]
    done
  rw [h0] at c4
  have e0 : errE all [i] = if i < 0 ∨ (all.length : Int) ≤ i then 1 else 0 := by
    simp [errE, h0]
  have e1 : errE all [i, j] = if (i < 0 ∨ (all.length : Int) ≤ i) ∨ j < 0 ∨ (all.length : Int) ≤ j then 1 else 0 := by
    simp [errE, h0]
  by_cases hi : i < 0 ∨ (all.length : Int) ≤ i
  · rw [if_pos hi] at e0
    rw [if_pos (.inl hi)] at e1
    rw [e0, show ((1 : Int) == 0) = false from rfl, Bool.false_and] at c1
    rw [e1, show ((1 : Int) == 0) = false from rfl, Bool.false_and] at c2 c3
    refine CallA.fn c1 ?_
    simp only [go_sem, simprocAttr, ↓reduceIte, pairAV]
    refine CallA.fn c2 ?_
    simp only [go_sem, simprocAttr, ↓reduceIte, pairAV]
    refine CallA.fn c3 ?_
    simp only [go_sem, simprocAttr, ↓reduceIte, pairAV]
    refine CallA.fn c4 ?_
    have e6 : (decide (i < 0) || decide ((all.length : Int) ≤ i)) = true := by simpa using hi
    simp only [go_sem, simprocAttr, ↓reduceIte, e6, List.length_map]
    refine CallP.fnG (fun _ => l19_awake) ?_
    simp only [go_sem, simprocAttr, ↓reduceIte]
    done
  rw [if_neg hi] at e0
  have hin : i.toNat < all.length := by omega
  obtain ⟨p, hpi⟩ := get_some hin
  have ei : i = (i.toNat : Int) := by omega
  generalize i.toNat = m at *
  subst ei
  have z1 : decide ((m : Int) < 0) = false := decide_eq_false (by omega)
  have z2 : decide (all.length ≤ m) = false := decide_eq_false (by omega)
  have b3 : ∀ x : Bool, (x != x) = false := fun x => by simp
  have b4 : ∀ x : Bool, (x == x) = true := fun x => by simp
  rw [e0, show ((0 : Int) == 0) = true from rfl, Bool.true_and] at c1
  by_cases hj : j < 0 ∨ (all.length : Int) ≤ j
  · rw [if_pos (.inr hj)] at e1
    rw [e1, show ((1 : Int) == 0) = false from rfl, Bool.false_and] at c2 c3
    refine CallA.fn c1 ?_
    simp only [go_sem, simprocAttr, ↓reduceIte, pairAV]
    refine CallA.fn c2 ?_
    simp only [go_sem, simprocAttr, ↓reduceIte, pairAV]
    refine CallA.fn c3 ?_
    simp only [go_sem, simprocAttr, ↓reduceIte, pairAV]
    refine CallA.fn c4 ?_
    have e6 : (decide (j < 0) || decide ((all.length : Int) ≤ j)) = true := by simpa using hj
    simp only [go_sem, simprocAttr, ↓reduceIte, z1, z2, List.length_map]
    refine CallP.fnG (fun _ => l19_together all h7 hpi hpi) ?_
    rw [show (if m ≠ m ∧ p.name = p.name then false else togE all p p) = canE all [litN m] from togF_self h0 hpi]
    simp only [go_sem, simprocAttr, ↓reduceIte, b3, e6, List.length_map]
    refine CallP.fnG (fun _ => l19_awake) ?_
    simp only [go_sem, simprocAttr, ↓reduceIte]
    done
  rw [if_neg (fun h => h.elim hi hj)] at e1
  have hjn : j.toNat < all.length := by omega
  obtain ⟨q, hqj⟩ := get_some hjn
  have ej : j = (j.toNat : Int) := by omega
  generalize j.toNat = k at *
  subst ej
  have z3 : decide ((k : Int) < 0) = false := decide_eq_false (by omega)
  have z4 : decide (all.length ≤ k) = false := decide_eq_false (by omega)
  rw [e1, show ((0 : Int) == 0) = true from rfl, Bool.true_and] at c2 c3
  refine CallA.fn c1 ?_
  simp only [go_sem, simprocAttr, ↓reduceIte, pairAV]
  refine CallA.fn c2 ?_
  simp only [go_sem, simprocAttr, ↓reduceIte, pairAV]
  refine CallA.fn c3 ?_
  simp only [go_sem, simprocAttr, ↓reduceIte, pairAV]
  refine CallA.fn c4 ?_
  simp only [go_sem, simprocAttr, ↓reduceIte, z1, z2, List.length_map]
  refine CallP.fnG (fun _ => l19_together all h7 hpi hpi) ?_
  rw [show (if m ≠ m ∧ p.name = p.name then false else togE all p p) = canE all [litN m] from togF_self h0 hpi]
  simp only [go_sem, simprocAttr, ↓reduceIte, b3, z3, z4, List.length_map]
  refine CallP.fnG (fun _ => l19_together all h7 hpi hqj) ?_
  rw [show (if m ≠ k ∧ p.name = q.name then false else togE all p q) = canE all [litN m, litN k] from togF_can h0 hpi hqj]
  simp only [go_sem, simprocAttr, ↓reduceIte, b4]
  have hfin : ((canE all [litN m] && !canE all [litN m, -litN k]) == (canE all [litN m] && ((m : Int) == (k : Int) || needsA all m k))) = true := by
    rw [beq_iff_eq]
    cases hm : canE all [litN m] with
    | false => rfl
    | true =>
      rw [Bool.true_and, Bool.true_and]
      by_cases hmk : m = k
      · subst hmk
        have : canE all [litN m, -litN m] = false := by
          rw [← Bool.not_eq_true, canEN hin hin]
          rintro ⟨S, _, h1, h2⟩
          rw [h1] at h2
          cases h2
        simp [this]
      · have e2 : ((m : Int) == (k : Int)) = false := by
          rw [← Bool.not_eq_true]
          simp
          omega
        rw [e2, Bool.false_or, needsA_E hin hjn hmk, needsE, hm, bne_iff_ne.2 hmk, Bool.true_and, Bool.true_and]
  refine CallP.fnG (fun _ => r27_needs all (may_pkg h0) (by omega) hin) ?_
  simp only [go_sem, simprocAttr, ↓reduceIte, hfin]
  refine CallP.fnG (fun _ => l19_awake) ?_
  simp only [go_sem, simprocAttr, ↓reduceIte]
  done
end Go.Proofs.Tryz
end
