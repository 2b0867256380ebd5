/- Texts that the last one of this claim rests on: a layer over the guide's own conditions for code; contracts of the functions that the law reaches, one by one. No conditions beside those of the given rows. -/
import Derived.Test.YtnblgnafgdmcaaaGreatDoorWbh
import Derived.Test.YtnblgnafgdmcaaaGreatDoorWbi
section
set_option linter.unusedSimpArgs false
set_option linter.unusedVariables false
namespace Go.Proofs.Tryz
open Go Go.Av
set_option maxRecDepth 10000
set_option linter.unusedSimpArgs false
set_option linter.unusedVariables false
variable {W0 : World}

/-- What a report tells of one package. -/
structure Rep where
  name : List UInt8
  ver : List UInt8
  can : Bool
  needs : List Nat
  never : List Nat

def nlAV (l : List Nat) : AV := .sl 3 (l.map fun k => .int .i64 (k : Nat))
end Go.Proofs.Tryz
end
section
set_option linter.unusedSimpArgs false
set_option linter.unusedVariables false
namespace Go.Av
open Go
/-- The kinds of a plain struct's fields. -/
def eqK (P : Program) (ty : TypeId) : Nat := match P.underlying ty with | some (.int _) => 1 | some .string => 2 | some .bool => 3 | _ => 0
def eqShape (P : Program) (t : TypeId) : Option (List Nat) := match P.underlying t with
  | some (.struct fl) => if fl.toList.all (fun f => f.name != "_") && (!P.stoodInHeld t && !P.eqGuardType P.depth t) then (flds P t).map fun ts => ts.map (eqK P) else none
  | _ => none
def eqK1 : Nat → AV → AV → Option Bool
  | 1, .int k a, .int k' b => if k = k' then some (a == b) else none
  | 2, .str a, .str b => some (a == b)
  | 3, .bool a, .bool b => some (a == b)
  | _, _, _ => none
def eqKs : List Nat → List AV → List AV → Option Bool
  | [], [], [] => some true
  | ty :: ts, x :: xs, y :: ys => (eqK1 ty x y).bind fun b => (eqKs ts xs ys).map fun c => b && c
  | _, _, _ => none
theorem eq1_K (P : Program) (ty : TypeId) (x y : AV) : eq1 P ty x y = eqK1 (eqK P ty) x y := by
  unfold eq1 eqK
  cases h : P.underlying ty with
  | none => cases x <;> cases y <;> rfl
  | some u => cases u <;> cases x <;> cases y <;> rfl
theorem eqFs_K (P : Program) : ∀ (ts : List TypeId) (xs ys : List AV), eqFs P ts xs ys = eqKs (ts.map (eqK P)) xs ys
  | [], [], [] => rfl
  | [], [], _ :: _ => rfl
  | [], _ :: _, [] => rfl
  | [], _ :: _, _ :: _ => rfl
  | _ :: _, [], [] => rfl
  | _ :: _, [], _ :: _ => rfl
  | _ :: _, _ :: _, [] => rfl
  | ty :: ts, x :: xs, y :: ys => by
    simp only [eqFs, List.map_cons, eqKs, eq1_K, eqFs_K P ts xs ys]
theorem eqAgg_K {P : Program} {t : TypeId} {ks : List Nat} (h : eqShape P t = some ks) (fs gs : List AV) : eqAgg P t fs gs = eqKs ks fs gs := by
  unfold eqShape at h
  unfold eqAgg
  split at h
  · rename_i fl hu
    simp only [hu]
    split at h
    · rename_i hc
      rw [if_pos hc]
      cases hf : flds P t with
      | none => rw [hf] at h; cases h
      | some ts =>
        rw [hf] at h
        simp only [Option.map_some, Option.some.injEq] at h
        simp only [Option.bind_some, eqFs_K, h]
    · cases h
  · cases h
end Go.Av
namespace Go.Proofs.Tryz
open Go Go.Av
set_option maxRecDepth 10000
set_option linter.unusedSimpArgs false
set_option linter.unusedVariables false
variable {W0 : World}

theorem take_eq_succ {α : Type} {a b : List α} {i : Nat} {x : α} (h : a.take i = b.take i) (hx : a[i]? = some x) (hy : b[i]? = some x) : a.take (i + 1) = b.take (i + 1) := by
  rw [take_succ_get hx, take_succ_get hy, h]
theorem ne_of_get {α : Type} {a b : List α} {i : Nat} {x y : α} (hx : a[i]? = some x) (hy : b[i]? = some y) (h : x ≠ y) : a ≠ b := by
  rintro rfl
  rw [hx] at hy
  exact h (Option.some.inj hy)

theorem shape_atom : eqShape prog 50 = some [2, 1, 2] := by kernel_rfl
theorem shape_prov : eqShape prog 112 = some [2, 2] := by kernel_rfl
@[go_sem] theorem atom_eql (a b : Atom) : binV prog .eql 50 (atomAV a) (atomAV b) = .bool (decide (a = b)) := by
  obtain ⟨a1, a2, a3⟩ := a
  obtain ⟨b1, b2, b3⟩ := b
  simp only [atomAV, binV_aeql, eqAgg_K shape_atom, eqKs, eqK1, if_true, Option.map_some, Option.bind_some, Option.getD_some, Atom.mk.injEq, Bool.and_true]
  congr 1
  rw [Bool.eq_iff_iff]
  simp
@[go_sem] theorem atom_neq (a b : Atom) : binV prog .neq 50 (atomAV a) (atomAV b) = .bool (!decide (a = b)) := by
  obtain ⟨a1, a2, a3⟩ := a
  obtain ⟨b1, b2, b3⟩ := b
  simp only [atomAV, binV_aneq, eqAgg_K shape_atom, eqKs, eqK1, if_true, Option.map_some, Option.bind_some, Option.getD_some, Atom.mk.injEq, Bool.and_true]
  congr 1
  rw [Bool.eq_iff_iff]
  simp
@[go_sem] theorem atom_ceq (a b : Atom) : binC prog .neq 50 (atomAV a) (atomAV b) = True := by
  simp [atomAV, binC_aneq, eqAgg_K shape_atom, eqKs, eqK1]
@[go_sem] theorem prov_neq (a b : Prov) : binV prog .neq 112 (provAV a) (provAV b) = .bool (!decide (a = b)) := by
  obtain ⟨a1, a2⟩ := a
  obtain ⟨b1, b2⟩ := b
  simp only [provAV, binV_aneq, eqAgg_K shape_prov, eqKs, eqK1, if_true, Option.map_some, Option.bind_some, Option.getD_some, Prov.mk.injEq, Bool.and_true]
  congr 1
  rw [Bool.eq_iff_iff]
  simp
@[go_sem] theorem prov_ceq (a b : Prov) : binC prog .neq 112 (provAV a) (provAV b) = True := by
  simp [provAV, binC_aneq, eqAgg_K shape_prov, eqKs, eqK1]

def atL (all : List Pkg) (t : List Nat) : List Pkg := t.filterMap fun i => all[i]?
end Go.Proofs.Tryz
end
section
set_option linter.unusedSimpArgs false
set_option linter.unusedVariables false
namespace Go.Proofs.Tryz
open Go Go.Av
set_option maxRecDepth 10000
set_option linter.unusedSimpArgs false
set_option linter.unusedVariables false
variable {W0 : World}

/-- A row made since the store was σ. -/
structure OutR (σ st : Store) (v : AV) (e : TypeId) (xs : List AV) : Prop where
  row : RowV st v e xs
  ext : Ext σ st
  low : ∀ j ∈ foot v, σ.length ≤ j
theorem OutR.app {σ st st' : Store} {x v : AV} {e : TypeId} {xs zs : List AV} (h : OutR σ st x e xs) (ha : AppR st x e zs v st') : OutR σ st' v e zs := ⟨ha.row, ha.fr.toExt h.ext h.low, fun j hj => by
  rcases ha.foot j hj with h1 | h1
  · exact h.low j h1
  · exact Nat.le_trans h.ext.le h1⟩
theorem OutR.nil {σ st : Store} (h : Ext σ st) (e : TypeId) : OutR σ st .nils e [] := ⟨.inl ⟨rfl, rfl⟩, h, fun j hj => by simp [foot] at hj⟩

theorem OutR.more {σ st : Store} {v : AV} {e : TypeId} {xs : List AV} (h : OutR σ st v e xs) (l : Store) : OutR σ (st ++ l) v e xs := ⟨h.row.keep fun j hj => by rw [List.getElem?_append_left (h.row.lt j hj)], h.ext.app l, h.low⟩

end Go.Proofs.Tryz
end
section
set_option linter.unusedSimpArgs false
set_option linter.unusedVariables false
namespace Go.Proofs.Tryz
open Go Go.Av
set_option maxRecDepth 10000
set_option linter.unusedSimpArgs false
set_option linter.unusedVariables false
variable {W0 : World}

inductive SubL : List AV → List AV → Prop
  | nil : SubL [] []
  | cons {x y : AV} {xs ys : List AV} : Sub x y → SubL xs ys → SubL (x :: xs) (y :: ys)
theorem SubL.append {a b c d : List AV} (h : SubL a b) (k : SubL c d) : SubL (a ++ c) (b ++ d) := by
  induction h with
  | nil => exact k
  | cons h1 _ ih => exact .cons h1 ih
theorem SubL.get {a b : List AV} (h : SubL a b) : a.length = b.length ∧ ∀ (i : Nat) (x y : AV), a[i]? = some x → b[i]? = some y → Sub x y := by
  induction h with
  | nil => exact ⟨rfl, fun i x y hx _ => by simp at hx⟩
  | cons h1 _ ih =>
    refine ⟨by simp [ih.1], fun i x y hx hy => ?_⟩
    cases i with
    | zero => simp at hx hy; subst hx hy; exact h1
    | succ i => exact ih.2 i x y (by simpa using hx) (by simpa using hy)
theorem SubL.sl {a b : List AV} (h : SubL a b) (e : TypeId) : Sub (.sl e a) (.sl e b) := .sls h.get.1 h.get.2
theorem room {d m : Nat} : (d + 1) * 2 ^ m ≤ 2 ^ (d + m) := by
  rw [Nat.pow_add]
  exact Nat.mul_le_mul_right _ (Nat.lt_two_pow_self)

end Go.Proofs.Tryz
end
section
set_option linter.unusedSimpArgs false
set_option linter.unusedVariables false
namespace Go.Proofs.Tryz
open Go Go.Av
set_option maxRecDepth 10000
set_option linter.unusedSimpArgs false
set_option linter.unusedVariables false
variable {W0 : World}

end Go.Proofs.Tryz
end
section
set_option linter.unusedSimpArgs false
set_option linter.unusedVariables false
namespace Go.Proofs.Tryz
open Go Go.Av
set_option maxRecDepth 10000
set_option linter.unusedSimpArgs false
set_option linter.unusedVariables false
variable {W0 : World}

def causeAV (c : Nat × Nat × Nat) : AV := .agg 40 [.int .i64 (c.1 : Nat), .int .i64 (c.2.1 : Nat), .int .i64 (c.2.2 : Nat)]
def causesAV (l : List (Nat × Nat × Nat)) : AV := .sl 40 (l.map causeAV)
def kindN (p : Pkg) (d : Nat) : Nat := [0, p.pre.length, p.dep.length, p.con.length, p.brk.length][d]?.getD 0
def causesK (p : Pkg) (i d : Nat) : List (Nat × Nat × Nat) := (List.range (kindN p d)).map fun k => (i, d, k)
def causesP (all : List Pkg) (i : Nat) : List (Nat × Nat × Nat) := match all[i]? with
  | some p => (List.range 5).flatMap fun d => causesK p i d
  | none => []
def causesA (all : List Pkg) (n : Nat) : List (Nat × Nat × Nat) := (List.range n).flatMap (causesP all)
theorem kind_le {p : Pkg} (h : mayPkg p = 0) (d : Nat) : kindN p d ≤ 12 := by
  unfold mayPkg at h
  split at h
  · omega
  · have h1 := orL_zero h
    have e1 := mayCl_len (h1 (mayCl p.pre) (by simp))
    have e2 := mayCl_len (h1 (mayCl p.dep) (by simp))
    have e3 := mayCl_len (h1 (mayCl (single p.con)) (by simp))
    have e4 := mayCl_len (h1 (mayCl (single p.brk)) (by simp))
    simp only [single, List.length_map] at e3 e4
    unfold kindN
    rcases d with _ | _ | _ | _ | _ | d <;> simp <;> omega
theorem causesA_succ {all : List Pkg} {i : Nat} {p : Pkg} (h : all[i]? = some p) : causesA all (i + 1) = causesA all i ++ (List.range 5).flatMap fun d => causesK p i d := by
  rw [causesA, List.range_succ, List.flatMap_append]
  simp [causesA, causesP, h]
theorem causesR_len {p : Pkg} (h : mayPkg p = 0) (i : Nat) : ∀ n, ((List.range n).flatMap fun d => causesK p i d).length ≤ n * 12
  | 0 => by simp
  | n + 1 => by
    have h1 := causesR_len h i n
    have h2 := kind_le h n
    rw [List.range_succ, List.flatMap_append, List.length_append, Nat.succ_mul]
    have h3 : ([n].flatMap fun d => causesK p i d).length = kindN p n := by simp [causesK]
    omega
theorem causesA_len {all : List Pkg} (h : ∀ p ∈ all, mayPkg p = 0) : ∀ n, (causesA all n).length ≤ n * 60
  | 0 => by simp [causesA]
  | n + 1 => by
    have h1 := causesA_len h n
    rw [causesA, List.range_succ, List.flatMap_append, List.length_append, Nat.succ_mul]
    rw [causesA] at h1
    have h2 : (causesP all n).length ≤ 60 := by
      unfold causesP
      split
      · rename_i p hp
        exact causesR_len (h p (List.mem_of_getElem? hp)) n 5
      · simp
    have h3 : ([n].flatMap (causesP all)).length = (causesP all n).length := by simp
    omega
theorem r10_causes (all : List Pkg) (hm : ∀ p ∈ all, mayPkg p = 0) (h24 : all.length ≤ 26) : PureFn prog W0 15 [pkgsAV all] (causesAV (causesA all all.length)) := by
  refine fn_pure [2] [5] func15 rfl rfl ntmps15 rfl rfl (ids_map (fun c => .agg fun x hx => by simp at hx; rcases hx with rfl | rfl | rfl <;> exact .int _ _) _) fun hs σ => ?_
  simp only [go_sem, simprocAttr, ↓reduceIte, pkgsAV]
  refine LoopVC.at [9, 10] (.of (by kernel_rfl)) (fun A => ∃ v, A.env 3 = v ∧ Built σ A.st v 40 ((causesA all all.length).map causeAV)) ?_ fun B ⟨v, h3, hb⟩ => ?_
  · refine LoopVC.upto [9, 10] (.of (by kernel_rfl)) all.length (fun i A => ∃ v, A.env 3 = v ∧ A.env 11 = .int .i64 i ∧ Built σ A.st v 40 ((causesA all i).map causeAV)) 0 (Nat.zero_le _) ?_ fun i B hi ⟨v, h3, h11, hb⟩ => ?_
    · simp only [go_sem, simprocAttr, ↓reduceIte]
      exact ⟨_, rfl, Built.nil (.refl _) _⟩
    have o1 := hb.ok
    have o2 := hb.un
    simp only [go_sem, simprocAttr, ↓reduceIte, h3, h11, o1, o2, List.length_map]
    refine ⟨fun hc => ?_, fun hc => ⟨_, rfl, (show i = all.length by omega) ▸ hb⟩⟩
    obtain ⟨p, hp⟩ := get_some hc
    have hcl := causesA_len hm i
    have hpm := hm p (List.mem_of_getElem? hp)
    simp only [go_sem, simprocAttr, ↓reduceIte, atV_map hp, pkgAV, h3, h11, o1, o2, clausesAV, atomsAV, List.length_map]
    refine ⟨hc, LoopVC.ats [9, 10, 11] (.of (by kernel_rfl)) (fun A => ∃ v, A.env 3 = v ∧ Built σ A.st v 40 ((causesA all (i + 1)).map causeAV)) ?_ fun C ⟨v2, h3, hb2⟩ => ?_⟩
    · refine LoopVC.upto [4, 9, 10, 11, 28] (.of (by kernel_rfl)) 5 (fun d A => A.env 29 = .int .i64 d ∧ ∃ v, A.env 3 = v ∧ Built σ A.st v 40 ((causesA all i ++ (List.range d).flatMap fun d => causesK p i d).map causeAV)) 0 (Nat.zero_le _) ?_ fun d C hd ⟨h29, v2, h3, hb2⟩ => ?_
      · simp only [go_sem, simprocAttr, ↓reduceIte]
        exact ⟨v, h3, by simpa using hb.more [none]⟩
      have hix : d < 5 → ([AV.int IntKind.i64 0, AV.int IntKind.i64 ↑p.pre.length, AV.int IntKind.i64 ↑p.dep.length, AV.int IntKind.i64 ↑p.con.length, AV.int IntKind.i64 ↑p.brk.length][d]?).getD .undef = .int .i64 (kindN p d) := fun h => by
        rcases d with _ | _ | _ | _ | _ | d
        · rfl
        · rfl
        · rfl
        · rfl
        · rfl
        · omega
      have o3 := hb2.ok
      have o4 := hb2.un
      have hrl := causesR_len hpm i d
      rcases Nat.lt_or_ge d 5 with hd5 | hd5
      · have hd6 : (d : Int) < 5 := by omega
        have hkl := kind_le hpm d
        simp only [go_sem, simprocAttr, ↓reduceIte, h29, h3, o3, o4, hix hd5, hd6]
        refine ⟨hd5, LoopVC.ats [4, 9, 10, 11, 28, 29] (.of (by kernel_rfl)) (fun A => ∃ v, A.env 3 = v ∧ Built σ A.st v 40 ((causesA all i ++ (List.range (d + 1)).flatMap fun d => causesK p i d).map causeAV)) ?_ fun D ⟨v3, h3, hb3⟩ => ?_⟩
        · refine LoopVC.upto [4, 6, 9, 10, 11, 28, 29, 33] (.of (by kernel_rfl)) (kindN p d) (fun k A => A.env 34 = .int .i64 k ∧ ∃ v, A.env 3 = v ∧ Built σ A.st v 40 (((causesA all i ++ (List.range d).flatMap fun d => causesK p i d) ++ (List.range k).map fun k => (i, d, k)).map causeAV)) 0 (Nat.zero_le _) ?_ fun k D hk ⟨h34, v3, h3, hb3⟩ => ?_
          · simp only [go_sem, simprocAttr, ↓reduceIte]
            exact ⟨v2, h3, by simpa using hb2⟩
          have o5 := hb3.ok
          have o6 := hb3.un
          simp only [go_sem, simprocAttr, ↓reduceIte, h34, h3, h29, o5, o6]
          refine ⟨fun hkd => ?_, fun hkd => ⟨_, rfl, ?_⟩⟩
          · have hlen : ((causesA all i ++ (List.range d).flatMap fun d => causesK p i d) ++ (List.range k).map fun k => (i, d, k)).length ≤ 2000 := by
              rw [List.length_append, List.length_append, List.length_map, List.length_range]
              omega
            refine AppA.ownS (σ := D.st) (by simp only [go_sem, simprocAttr, ↓reduceIte]) 1048576 (by kernel_rfl) hb3.bld (.lit _ _ _) (Nat.le_trans (Nat.add_le_add_right (by rw [List.length_map]; exact hlen) 1) (by decide)) fun v' σ' ha' => ?_
            have hb' := hb3.app ha'
            have o7 := hb'.ok
            have o8 := hb'.un
            simp only [go_sem, simprocAttr, ↓reduceIte, h34, h3, h29, o5, o6, o7, o8]
            refine ⟨hkd, int_succ hkd (by rw [maxLen_eq]; omega), _, rfl, ?_⟩
            simpa [List.range_succ, causeAV] using hb'
          · have e : k = kindN p d := by omega
            rw [List.flatMap_append, List.flatMap_singleton, causesK, ← e, ← List.append_assoc]
            exact hb3
        simp only [go_sem, simprocAttr, ↓reduceIte, h3, h29]
        exact ⟨hd5, int_succ hd5 (by rw [maxLen_eq]; omega), _, rfl, by rw [← List.range_succ]; exact hb3⟩
      · have hd6 : ¬(d : Int) < 5 := by omega
        simp only [go_sem, simprocAttr, ↓reduceIte, h29, h3, o3, o4, hd6]
        have e5 : d = 5 := by omega
        refine ⟨_, rfl, ?_⟩
        rw [causesA_succ hp, ← e5]
        exact hb2
    simp only [go_sem, simprocAttr, ↓reduceIte, h3, h11, hb2.ok, hb2.un]
    exact ⟨hc, _, rfl, int_succ hc (by rw [maxLen_eq]; omega), hb2⟩
  simp only [go_sem, simprocAttr, ↓reduceIte, h3, hb.ok, hb.un]
  exact ⟨hb.weak, hb.ext⟩
end Go.Proofs.Tryz
end
section
set_option linter.unusedSimpArgs false
set_option linter.unusedVariables false
namespace Go.Proofs.Tryz
open Go Go.Av
set_option maxRecDepth 10000
set_option linter.unusedSimpArgs false
set_option linter.unusedVariables false
variable {W0 : World}

theorem kind_ix {p : Pkg} {d : Nat} (h : d < 5) : ([AV.int IntKind.i64 0, AV.int IntKind.i64 ↑p.pre.length, AV.int IntKind.i64 ↑p.dep.length, AV.int IntKind.i64 ↑p.con.length, AV.int IntKind.i64 ↑p.brk.length][d]?).getD .undef = .int .i64 (kindN p d) := by
  rcases d with _ | _ | _ | _ | _ | d
  · rfl
  · rfl
  · rfl
  · rfl
  · rfl
  · omega
theorem r10_is (all : List Pkg) {i d k : Nat} {p : Pkg} (hp : all[i]? = some p) (hd : 1 ≤ d) (hd4 : d ≤ 4) (hk : k < kindN p d) : PureFn prog W0 37 [pkgsAV all, causeAV (i, d, k)] (.bool true) := by
  refine fn_pure [4] [3, 5] func37 rfl rfl ntmps37 rfl rfl (.bool _) fun hs σ => ?_
  have hi := (List.getElem?_eq_some_iff.1 hp).1
  have e1 : decide ((i : Int) < 0) = false := decide_eq_false (by omega)
  have e2 : decide ((all.length : Int) ≤ i) = false := decide_eq_false (by omega)
  have e3 : decide ((d : Int) < 1) = false := decide_eq_false (by omega)
  have e4 : decide ((4 : Int) < d) = false := decide_eq_false (by omega)
  have e5 : decide ((k : Int) < 0) = false := decide_eq_false (by omega)
  have e6 := kind_ix (p := p) (show d < 5 by omega)
  have e7 : (k : Int) < kindN p d := by omega
  have e8 : d < 5 := by omega
  simp only [go_sem, simprocAttr, ↓reduceIte, pkgsAV, causeAV, List.length_map, e1, e2, e3, e4, e5]
  refine ⟨fun h => absurd hi (by omega), fun _ => ⟨hi, ?_⟩⟩
  simp only [go_sem, simprocAttr, ↓reduceIte, pkgAV, atV_map hp, clausesAV, atomsAV, List.length_map, e6, e7, e8]
  exact .of (by kernel_rfl)
end Go.Proofs.Tryz
end
section
set_option linter.unusedSimpArgs false
set_option linter.unusedVariables false
namespace Go.Proofs.Tryz
open Go Go.Av
set_option maxRecDepth 10000
set_option linter.unusedSimpArgs false
set_option linter.unusedVariables false
variable {W0 : World}

def satO (all : List Pkg) (j : Nat) (a : Atom) : Bool := match all[j]? with
  | some q => satP q a
  | none => false
end Go.Proofs.Tryz
end
section
set_option linter.unusedSimpArgs false
set_option linter.unusedVariables false
namespace Go.Proofs.Tryz
open Go Go.Av
set_option maxRecDepth 10000
set_option linter.unusedSimpArgs false
set_option linter.unusedVariables false
variable {W0 : World}

def nameO (all : List Pkg) (j : Nat) : Option (List UInt8) := (all[j]?).map fun p => p.name
def ValidC (all : List Pkg) (c : Nat × Nat × Nat) : Prop := ∃ p, all[c.1]? = some p ∧ 1 ≤ c.2.1 ∧ c.2.1 ≤ 4 ∧ c.2.2 < kindN p c.2.1
def underC (all : List Pkg) (c : Nat × Nat × Nat) (t : List Nat) : Bool := match all[c.1]? with
  | some p => (match c.2.1 with
    | 1 => (match p.pre[c.2.2]? with | some x => metP x (atL all t) | none => false)
    | 2 => (match p.dep[c.2.2]? with | some x => metP x (atL all t) | none => false)
    | 3 => (match p.con[c.2.2]? with | some x => t.all fun j => decide (j = c.1) || !satO all j x | none => false)
    | _ => (match p.brk[c.2.2]? with | some x => t.all fun j => decide (j = c.1) || !satO all j x | none => false))
  | none => false
def underP (all : List Pkg) (e : List (Nat × Nat × Nat)) (t : List Nat) : Bool := decide (t.Pairwise fun x y => nameO all x ≠ nameO all y) && e.all fun c => !decide (c.1 ∈ t) || underC all c t

end Go.Proofs.Tryz
end
section
set_option linter.unusedSimpArgs false
set_option linter.unusedVariables false
namespace Go.Proofs.Tryz
open Go Go.Av
set_option maxRecDepth 10000
set_option linter.unusedSimpArgs false
set_option linter.unusedVariables false
variable {W0 : World}

def freeB (all : List Pkg) (k : Nat) (t : List Nat) : Bool := t.all fun j => decide (nameO all j ≠ nameO all k)
def someL (all : List Pkg) (e : List (Nat × Nat × Nat)) (i : Nat) : Nat → Nat → List Nat → Bool
  | 0, _, t => underP all e t
  | f + 1, k, t => if k = all.length then underP all e t else if k = i then someL all e i f (k + 1) (t ++ [k]) else
      (decide (nameO all k ≠ nameO all i) && freeB all k t && someL all e i f (k + 1) (t ++ [k])) || someL all e i f (k + 1) t
theorem mem_app1 {n k : Nat} {t : List Nat} (h : ∀ j ∈ t, j < n) (hk : k < n) : ∀ j ∈ t ++ [k], j < n := fun j hj => by
  rcases List.mem_append.1 hj with h1 | h1
  · exact h j h1
  · rw [List.mem_singleton.1 h1]; exact hk

def someA (all : List Pkg) (e : List (Nat × Nat × Nat)) (i : Nat) : Bool := someL all e i (all.length + 1) 0 []
end Go.Proofs.Tryz
end
