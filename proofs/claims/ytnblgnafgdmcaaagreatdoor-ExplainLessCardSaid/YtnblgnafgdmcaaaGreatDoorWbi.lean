/- Texts that the last one of this claim rests on: a layer over the guide's own conditions for code; contracts of the functions that the law reaches, one by one. No conditions beside those of the given rows. -/
import Derived.Test.YtnblgnafgdmcaaaGreatDoorWbg
import Derived.Test.YtnblgnafgdmcaaaGreatDoorWbh
section
set_option linter.unusedSimpArgs false
set_option linter.unusedVariables false
namespace Go.Proofs.Tryz
open Go Go.Av
set_option maxRecDepth 10000
set_option linter.unusedSimpArgs false
set_option linter.unusedVariables false
variable {W0 : World}

/-- What a report tells of one package. -/
structure Rep where
  name : List UInt8
  ver : List UInt8
  can : Bool
  needs : List Nat
  never : List Nat

def nlAV (l : List Nat) : AV := .sl 3 (l.map fun k => .int .i64 (k : Nat))
end Go.Proofs.Tryz
end
section
set_option linter.unusedSimpArgs false
set_option linter.unusedVariables false
namespace Go.Av
open Go
/-- The kinds of a plain struct's fields. -/
def eqK (P : Program) (ty : TypeId) : Nat := match P.underlying ty with | some (.int _) => 1 | some .string => 2 | some .bool => 3 | _ => 0
def eqShape (P : Program) (t : TypeId) : Option (List Nat) := match P.underlying t with
  | some (.struct fl) => if fl.toList.all (fun f => f.name != "_") && (!P.stoodInHeld t && !P.eqGuardType P.depth t) then (flds P t).map fun ts => ts.map (eqK P) else none
  | _ => none
def eqK1 : Nat → AV → AV → Option Bool
  | 1, .int k a, .int k' b => if k = k' then some (a == b) else none
  | 2, .str a, .str b => some (a == b)
  | 3, .bool a, .bool b => some (a == b)
  | _, _, _ => none
def eqKs : List Nat → List AV → List AV → Option Bool
  | [], [], [] => some true
  | ty :: ts, x :: xs, y :: ys => (eqK1 ty x y).bind fun b => (eqKs ts xs ys).map fun c => b && c
  | _, _, _ => none
theorem eq1_K (P : Program) (ty : TypeId) (x y : AV) : eq1 P ty x y = eqK1 (eqK P ty) x y := by
  unfold eq1 eqK
  cases h : P.underlying ty with
  | none => cases x <;> cases y <;> rfl
  | some u => cases u <;> cases x <;> cases y <;> rfl
theorem eqFs_K (P : Program) : ∀ (ts : List TypeId) (xs ys : List AV), eqFs P ts xs ys = eqKs (ts.map (eqK P)) xs ys
  | [], [], [] => rfl
  | [], [], _ :: _ => rfl
  | [], _ :: _, [] => rfl
  | [], _ :: _, _ :: _ => rfl
  | _ :: _, [], [] => rfl
  | _ :: _, [], _ :: _ => rfl
  | _ :: _, _ :: _, [] => rfl
  | ty :: ts, x :: xs, y :: ys => by
    simp only [eqFs, List.map_cons, eqKs, eq1_K, eqFs_K P ts xs ys]
theorem eqAgg_K {P : Program} {t : TypeId} {ks : List Nat} (h : eqShape P t = some ks) (fs gs : List AV) : eqAgg P t fs gs = eqKs ks fs gs := by
  unfold eqShape at h
  unfold eqAgg
  split at h
  · rename_i fl hu
    simp only [hu]
    split at h
    · rename_i hc
      rw [if_pos hc]
      cases hf : flds P t with
      | none => rw [hf] at h; cases h
      | some ts =>
        rw [hf] at h
        simp only [Option.map_some, Option.some.injEq] at h
        simp only [Option.bind_some, eqFs_K, h]
    · cases h
  · cases h
end Go.Av
namespace Go.Proofs.Tryz
open Go Go.Av
set_option maxRecDepth 10000
set_option linter.unusedSimpArgs false
set_option linter.unusedVariables false
variable {W0 : World}

theorem shape_atom : eqShape prog 50 = some [2, 1, 2] := by kernel_rfl
theorem shape_prov : eqShape prog 112 = some [2, 2] := by kernel_rfl
@[go_sem] theorem atom_eql (a b : Atom) : binV prog .eql 50 (atomAV a) (atomAV b) = .bool (decide (a = b)) := by
  obtain ⟨a1, a2, a3⟩ := a
  obtain ⟨b1, b2, b3⟩ := b
  simp only [atomAV, binV_aeql, eqAgg_K shape_atom, eqKs, eqK1, if_true, Option.map_some, Option.bind_some, Option.getD_some, Atom.mk.injEq, Bool.and_true]
  congr 1
  rw [Bool.eq_iff_iff]
  simp
@[go_sem] theorem atom_neq (a b : Atom) : binV prog .neq 50 (atomAV a) (atomAV b) = .bool (!decide (a = b)) := by
  obtain ⟨a1, a2, a3⟩ := a
  obtain ⟨b1, b2, b3⟩ := b
  simp only [atomAV, binV_aneq, eqAgg_K shape_atom, eqKs, eqK1, if_true, Option.map_some, Option.bind_some, Option.getD_some, Atom.mk.injEq, Bool.and_true]
  congr 1
  rw [Bool.eq_iff_iff]
  simp
@[go_sem] theorem atom_ceq (a b : Atom) : binC prog .neq 50 (atomAV a) (atomAV b) = True := by
  simp [atomAV, binC_aneq, eqAgg_K shape_atom, eqKs, eqK1]
@[go_sem] theorem prov_neq (a b : Prov) : binV prog .neq 112 (provAV a) (provAV b) = .bool (!decide (a = b)) := by
  obtain ⟨a1, a2⟩ := a
  obtain ⟨b1, b2⟩ := b
  simp only [provAV, binV_aneq, eqAgg_K shape_prov, eqKs, eqK1, if_true, Option.map_some, Option.bind_some, Option.getD_some, Prov.mk.injEq, Bool.and_true]
  congr 1
  rw [Bool.eq_iff_iff]
  simp
@[go_sem] theorem prov_ceq (a b : Prov) : binC prog .neq 112 (provAV a) (provAV b) = True := by
  simp [provAV, binC_aneq, eqAgg_K shape_prov, eqKs, eqK1]

def atL (all : List Pkg) (t : List Nat) : List Pkg := t.filterMap fun i => all[i]?
theorem atL_succ {all : List Pkg} {t : List Nat} {i x : Nat} {p : Pkg} (hx : t[i]? = some x) (hp : all[x]? = some p) : atL all (t.take (i + 1)) = atL all (t.take i) ++ [p] := by
  simp [atL, take_succ_get hx, List.filterMap_append, hp]
theorem atL_len (all : List Pkg) (t : List Nat) : (atL all t).length ≤ t.length := List.length_filterMap_le _ _
theorem r10_at (all : List Pkg) (t : List Nat) (ht : ∀ i ∈ t, i < all.length) (hn : t.length ≤ 1048576) : PureFn prog W0 43 [pkgsAV all, nlAV t] (pkgsAV (atL all t)) := by
  refine fn_pure [4] [] func43 rfl rfl ntmps43 rfl rfl (ids_pkgs _) fun hs σ => ?_
  simp only [go_sem, simprocAttr, ↓reduceIte, pkgsAV, nlAV]
  refine LoopVC.at [0, 8, 9] (.of (by kernel_rfl)) (fun A => ∃ v, A.env 5 = v ∧ Built σ A.st v 56 ((atL all t).map pkgAV)) ?_ fun B ⟨v, h5, hb⟩ => ?_
  · refine LoopVC.upto [0, 8, 9] (.of (by kernel_rfl)) t.length (fun i A => ∃ v, A.env 5 = v ∧ A.env 10 = .int .i64 i ∧ Built σ A.st v 56 ((atL all (t.take i)).map pkgAV)) 0 (Nat.zero_le _) ?_ fun i B hi ⟨v, h5, h10, hb⟩ => ?_
    · simp only [go_sem, simprocAttr, ↓reduceIte]
      exact ⟨_, rfl, Built.nil (.refl _) _⟩
    simp only [go_sem, simprocAttr, ↓reduceIte, h5, h10, hb.ok, hb.un, List.length_map]
    refine ⟨fun hc => ⟨hc, ?_⟩, fun hc => ?_⟩
    · obtain ⟨x, hx⟩ := get_some hc
      obtain ⟨p, hp⟩ := get_some (ht x (List.mem_of_getElem? hx))
      simp only [go_sem, simprocAttr, ↓reduceIte, h5, h10, hb.ok, hb.un, List.length_map, atV_map hx, atV_map hp]
      refine ⟨ht x (List.mem_of_getElem? hx), ?_⟩
      have hlen := atL_len all (t.take i)
      rw [List.length_take] at hlen
      refine AppA.own 1048576 (by kernel_rfl) hb.bld (.lit _ _ _) (by simp; omega) fun v' σ' ha' => ?_
      have hb' := hb.app ha'
      simp only [go_sem, simprocAttr, ↓reduceIte, h5, h10, hb.ok, hb.un, hb'.ok, hb'.un]
      refine ⟨hc, _, rfl, int_succ hc (by rw [maxLen_eq]; omega), ?_⟩
      rw [atL_succ hx hp, List.map_append]
      exact hb'
    · rw [List.take_of_length_le hc] at hb
      exact ⟨_, rfl, hb⟩
  simp only [go_sem, simprocAttr, ↓reduceIte, h5, hb.ok, hb.un]
  exact ⟨hb.weak, hb.ext⟩
end Go.Proofs.Tryz
end
section
set_option linter.unusedSimpArgs false
set_option linter.unusedVariables false
namespace Go.Proofs.Tryz
open Go Go.Av
set_option maxRecDepth 10000
set_option linter.unusedSimpArgs false
set_option linter.unusedVariables false
variable {W0 : World}

/-- A row made since the store was σ. -/
structure OutR (σ st : Store) (v : AV) (e : TypeId) (xs : List AV) : Prop where
  row : RowV st v e xs
  ext : Ext σ st
  low : ∀ j ∈ foot v, σ.length ≤ j
theorem OutR.app {σ st st' : Store} {x v : AV} {e : TypeId} {xs zs : List AV} (h : OutR σ st x e xs) (ha : AppR st x e zs v st') : OutR σ st' v e zs := ⟨ha.row, ha.fr.toExt h.ext h.low, fun j hj => by
  rcases ha.foot j hj with h1 | h1
  · exact h.low j h1
  · exact Nat.le_trans h.ext.le h1⟩
theorem OutR.nil {σ st : Store} (h : Ext σ st) (e : TypeId) : OutR σ st .nils e [] := ⟨.inl ⟨rfl, rfl⟩, h, fun j hj => by simp [foot] at hj⟩

theorem OutR.more {σ st : Store} {v : AV} {e : TypeId} {xs : List AV} (h : OutR σ st v e xs) (l : Store) : OutR σ (st ++ l) v e xs := ⟨h.row.keep fun j hj => by rw [List.getElem?_append_left (h.row.lt j hj)], h.ext.app l, h.low⟩

end Go.Proofs.Tryz
end
section
set_option linter.unusedSimpArgs false
set_option linter.unusedVariables false
namespace Go.Proofs.Tryz
open Go Go.Av
set_option maxRecDepth 10000
set_option linter.unusedSimpArgs false
set_option linter.unusedVariables false
variable {W0 : World}

theorem pickV_f (u v : AV) : pickV false u v = v := by
  unfold pickV pickAV
  split <;> simp [pickB]
inductive SubL : List AV → List AV → Prop
  | nil : SubL [] []
  | cons {x y : AV} {xs ys : List AV} : Sub x y → SubL xs ys → SubL (x :: xs) (y :: ys)
theorem SubL.append {a b c d : List AV} (h : SubL a b) (k : SubL c d) : SubL (a ++ c) (b ++ d) := by
  induction h with
  | nil => exact k
  | cons h1 _ ih => exact .cons h1 ih
theorem SubL.get {a b : List AV} (h : SubL a b) : a.length = b.length ∧ ∀ (i : Nat) (x y : AV), a[i]? = some x → b[i]? = some y → Sub x y := by
  induction h with
  | nil => exact ⟨rfl, fun i x y hx _ => by simp at hx⟩
  | cons h1 _ ih =>
    refine ⟨by simp [ih.1], fun i x y hx hy => ?_⟩
    cases i with
    | zero => simp at hx hy; subst hx hy; exact h1
    | succ i => exact ih.2 i x y (by simpa using hx) (by simpa using hy)
theorem SubL.sl {a b : List AV} (h : SubL a b) (e : TypeId) : Sub (.sl e a) (.sl e b) := .sls h.get.1 h.get.2
theorem room {d m : Nat} : (d + 1) * 2 ^ m ≤ 2 ^ (d + m) := by
  rw [Nat.pow_add]
  exact Nat.mul_le_mul_right _ (Nat.lt_two_pow_self)

end Go.Proofs.Tryz
end
section
set_option linter.unusedSimpArgs false
set_option linter.unusedVariables false
namespace Go.Proofs.Tryz
open Go Go.Av
set_option maxRecDepth 10000
set_option linter.unusedSimpArgs false
set_option linter.unusedVariables false
variable {W0 : World}

end Go.Proofs.Tryz
end
section
set_option linter.unusedSimpArgs false
set_option linter.unusedVariables false
namespace Go.Proofs.Tryz
open Go Go.Av
set_option maxRecDepth 10000
set_option linter.unusedSimpArgs false
set_option linter.unusedVariables false
variable {W0 : World}

def causeAV (c : Nat × Nat × Nat) : AV := .agg 40 [.int .i64 (c.1 : Nat), .int .i64 (c.2.1 : Nat), .int .i64 (c.2.2 : Nat)]
def causesAV (l : List (Nat × Nat × Nat)) : AV := .sl 40 (l.map causeAV)
def kindN (p : Pkg) (d : Nat) : Nat := [0, p.pre.length, p.dep.length, p.con.length, p.brk.length][d]?.getD 0
def causesK (p : Pkg) (i d : Nat) : List (Nat × Nat × Nat) := (List.range (kindN p d)).map fun k => (i, d, k)
def causesP (all : List Pkg) (i : Nat) : List (Nat × Nat × Nat) := match all[i]? with
  | some p => (List.range 5).flatMap fun d => causesK p i d
  | none => []
def causesA (all : List Pkg) (n : Nat) : List (Nat × Nat × Nat) := (List.range n).flatMap (causesP all)
theorem kind_le {p : Pkg} (h : mayPkg p = 0) (d : Nat) : kindN p d ≤ 12 := by
  unfold mayPkg at h
  split at h
  · omega
  · have h1 := orL_zero h
    have e1 := mayCl_len (h1 (mayCl p.pre) (by simp))
    have e2 := mayCl_len (h1 (mayCl p.dep) (by simp))
    have e3 := mayCl_len (h1 (mayCl (single p.con)) (by simp))
    have e4 := mayCl_len (h1 (mayCl (single p.brk)) (by simp))
    simp only [single, List.length_map] at e3 e4
    unfold kindN
    rcases d with _ | _ | _ | _ | _ | d <;> simp <;> omega
theorem causesA_succ {all : List Pkg} {i : Nat} {p : Pkg} (h : all[i]? = some p) : causesA all (i + 1) = causesA all i ++ (List.range 5).flatMap fun d => causesK p i d := by
  rw [causesA, List.range_succ, List.flatMap_append]
  simp [causesA, causesP, h]
theorem causesR_len {p : Pkg} (h : mayPkg p = 0) (i : Nat) : ∀ n, ((List.range n).flatMap fun d => causesK p i d).length ≤ n * 12
  | 0 => by simp
  | n + 1 => by
    have h1 := causesR_len h i n
    have h2 := kind_le h n
    rw [List.range_succ, List.flatMap_append, List.length_append, Nat.succ_mul]
    have h3 : ([n].flatMap fun d => causesK p i d).length = kindN p n := by simp [causesK]
    omega
theorem causesA_len {all : List Pkg} (h : ∀ p ∈ all, mayPkg p = 0) : ∀ n, (causesA all n).length ≤ n * 60
  | 0 => by simp [causesA]
  | n + 1 => by
    have h1 := causesA_len h n
    rw [causesA, List.range_succ, List.flatMap_append, List.length_append, Nat.succ_mul]
    rw [causesA] at h1
    have h2 : (causesP all n).length ≤ 60 := by
      unfold causesP
      split
      · rename_i p hp
        exact causesR_len (h p (List.mem_of_getElem? hp)) n 5
      · simp
    have h3 : ([n].flatMap (causesP all)).length = (causesP all n).length := by simp
    omega
end Go.Proofs.Tryz
end
section
set_option linter.unusedSimpArgs false
set_option linter.unusedVariables false
namespace Go.Proofs.Tryz
open Go Go.Av
set_option maxRecDepth 10000
set_option linter.unusedSimpArgs false
set_option linter.unusedVariables false
variable {W0 : World}

theorem kind_ix {p : Pkg} {d : Nat} (h : d < 5) : ([AV.int IntKind.i64 0, AV.int IntKind.i64 ↑p.pre.length, AV.int IntKind.i64 ↑p.dep.length, AV.int IntKind.i64 ↑p.con.length, AV.int IntKind.i64 ↑p.brk.length][d]?).getD .undef = .int .i64 (kindN p d) := by
  rcases d with _ | _ | _ | _ | _ | d
  · rfl
  · rfl
  · rfl
  · rfl
  · rfl
  · omega
theorem r10_is (all : List Pkg) {i d k : Nat} {p : Pkg} (hp : all[i]? = some p) (hd : 1 ≤ d) (hd4 : d ≤ 4) (hk : k < kindN p d) : PureFn prog W0 37 [pkgsAV all, causeAV (i, d, k)] (.bool true) := by
  refine fn_pure [4] [3, 5] func37 rfl rfl ntmps37 rfl rfl (.bool _) fun hs σ => ?_
  have hi := (List.getElem?_eq_some_iff.1 hp).1
  have e1 : decide ((i : Int) < 0) = false := decide_eq_false (by omega)
  have e2 : decide ((all.length : Int) ≤ i) = false := decide_eq_false (by omega)
  have e3 : decide ((d : Int) < 1) = false := decide_eq_false (by omega)
  have e4 : decide ((4 : Int) < d) = false := decide_eq_false (by omega)
  have e5 : decide ((k : Int) < 0) = false := decide_eq_false (by omega)
  have e6 := kind_ix (p := p) (show d < 5 by omega)
  have e7 : (k : Int) < kindN p d := by omega
  have e8 : d < 5 := by omega
  simp only [go_sem, simprocAttr, ↓reduceIte, pkgsAV, causeAV, List.length_map, e1, e2, e3, e4, e5]
  refine ⟨fun h => absurd hi (by omega), fun _ => ⟨hi, ?_⟩⟩
  simp only [go_sem, simprocAttr, ↓reduceIte, pkgAV, atV_map hp, clausesAV, atomsAV, List.length_map, e6, e7, e8]
  exact .of (by kernel_rfl)
end Go.Proofs.Tryz
end
section
set_option linter.unusedSimpArgs false
set_option linter.unusedVariables false
namespace Go.Proofs.Tryz
open Go Go.Av
set_option maxRecDepth 10000
set_option linter.unusedSimpArgs false
set_option linter.unusedVariables false
variable {W0 : World}

theorem r10_under1 (all : List Pkg) (t : List Nat) (ht : ∀ j ∈ t, j < all.length) (hn : t.length ≤ 1048576) {i k : Nat} {p : Pkg} {c : Clause} (hp : all[i]? = some p) (hc : p.pre[k]? = some c) : PureFn prog W0 38 [pkgsAV all, causeAV (i, 1, k), nlAV t] (.bool (metP c (atL all t))) := by
  refine fn_pure [6] [4, 7] func38 rfl rfl ntmps38 rfl rfl (.bool _) fun hs σ => ?_
  have hi := (List.getElem?_eq_some_iff.1 hp).1
  have hk := (List.getElem?_eq_some_iff.1 hc).1
  simp only [go_sem, simprocAttr, ↓reduceIte, pkgsAV, causeAV, nlAV, List.length_map, atV_map hp]
  refine ⟨hi, ?_⟩
  simp only [go_sem, simprocAttr, ↓reduceIte, pkgAV, clausesAV, atV_map hc, List.length_map]
  refine ⟨.of (by kernel_rfl), hk, CallP.fn (r10_at all t ht hn) ?_⟩
  simp only [go_sem, simprocAttr, ↓reduceIte]
  refine CallP.fn (r10_met c (atL all t)) ?_
  simp only [go_sem, simprocAttr, ↓reduceIte]
theorem r10_under2 (all : List Pkg) (t : List Nat) (ht : ∀ j ∈ t, j < all.length) (hn : t.length ≤ 1048576) {i k : Nat} {p : Pkg} {c : Clause} (hp : all[i]? = some p) (hc : p.dep[k]? = some c) : PureFn prog W0 38 [pkgsAV all, causeAV (i, 2, k), nlAV t] (.bool (metP c (atL all t))) := by
  refine fn_pure [6] [4, 7] func38 rfl rfl ntmps38 rfl rfl (.bool _) fun hs σ => ?_
  have hi := (List.getElem?_eq_some_iff.1 hp).1
  have hk := (List.getElem?_eq_some_iff.1 hc).1
  simp only [go_sem, simprocAttr, ↓reduceIte, pkgsAV, causeAV, nlAV, List.length_map, atV_map hp]
  refine ⟨hi, ?_⟩
  simp only [go_sem, simprocAttr, ↓reduceIte, pkgAV, clausesAV, atV_map hc, List.length_map]
  refine ⟨.of (by kernel_rfl), hk, CallP.fn (r10_at all t ht hn) ?_⟩
  simp only [go_sem, simprocAttr, ↓reduceIte]
  refine CallP.fn (r10_met c (atL all t)) ?_
  simp only [go_sem, simprocAttr, ↓reduceIte]
def satO (all : List Pkg) (j : Nat) (a : Atom) : Bool := match all[j]? with
  | some q => satP q a
  | none => false
theorem r10_under3 (all : List Pkg) (t : List Nat) (ht : ∀ j ∈ t, j < all.length) (hn : t.length ≤ 1048576) {i k : Nat} {p : Pkg} {c : Atom} (hp : all[i]? = some p) (hc : p.con[k]? = some c) (hl : p.con.length ≤ 1000) : PureFn prog W0 38 [pkgsAV all, causeAV (i, 3, k), nlAV t] (.bool (t.all fun j => decide (j = i) || !satO all j c)) := by
  refine fn_pure [6] [4, 7] func38 rfl rfl ntmps38 rfl rfl (.bool _) fun hs σ => ?_
  have hi := (List.getElem?_eq_some_iff.1 hp).1
  have hk := (List.getElem?_eq_some_iff.1 hc).1
  simp only [go_sem, simprocAttr, ↓reduceIte, pkgsAV, causeAV, nlAV, List.length_map, atV_map hp]
  refine ⟨hi, ?_⟩
  simp only [go_sem, simprocAttr, ↓reduceIte, pkgAV, atomsAV, List.length_map]
  refine AppA.rowS (σ := σ ++ [none]) (by simp only [go_sem, simprocAttr, ↓reduceIte]) 1048576 (by kernel_rfl) (.inl ⟨rfl, rfl⟩) (.sl _ _ _) (by simp; omega) fun v1 σ1 a1 => ?_
  have r1 := (OutR.nil ((Ext.refl σ).app [none]) 50).app a1
  have q1 := r1.row.st.ok
  have q2 := r1.row.st.un
  have ht2 : elT prog 51 = some 50 := by kernel_rfl
  simp only [go_sem, simprocAttr, ↓reduceIte, q1, q2, r1.row.cutV, r1.row.cutC ht2]
  refine ⟨Nat.zero_le _, JoinVC.both (fun _ => ?_) (fun h => by cases h)⟩
  have r2 : RowV σ1 (cutR 0 0 v1) 50 [] := by simpa using r1.row.cut (Nat.le_refl 0) (Nat.zero_le _)
  have r3 : OutR σ σ1 (cutR 0 0 v1) 50 [] := ⟨r2, r1.ext, fun j hj => r1.low j (by rwa [foot_cutR] at hj)⟩
  have q3 := r3.row.st.ok
  have q4 := r3.row.st.un
  simp only [go_sem, simprocAttr, ↓reduceIte, pkgAV, atomsAV, List.length_map, atV_map hc, q3, q4]
  refine ⟨hk, AppA.rowS (σ := σ1) (by simp only [go_sem, simprocAttr, ↓reduceIte]) 1048576 (by kernel_rfl) r2 (.lit _ _ _) (by simp) fun v2 σ2 a2 => ?_⟩
  have r4 : OutR σ σ2 v2 50 [atomAV c] := r3.app a2
  have q5 := r4.row.st.ok
  have q6 := r4.row.st.un
  simp only [go_sem, simprocAttr, ↓reduceIte, q5, q6, nlAV, List.length_map]
  obtain ⟨id, off, m, zs, rfl, g1, g2, g3⟩ : ∃ id off m zs, v2 = .row 50 id off m ∧ σ2[id]? = some (some (.cells 50 zs)) ∧ off + m ≤ zs.length ∧ [atomAV c] = (zs.drop off).take m := by
    rcases r4.row with ⟨_, h⟩ | h
    · cases h
    · exact h
  have hm : m = 1 := (RowV.len' (σ := σ) (e := 50) (id := id) g2 g3).symm
  have hz : zs[off]? = some (atomAV c) := by
    have h1 : ((zs.drop off).take m)[0]? = some (atomAV c) := by rw [← g3]; rfl
    rw [List.getElem?_take_of_lt (by omega), List.getElem?_drop] at h1
    exact h1
  have hk0 : Av.look σ2 id off [] = some (atomAV c) := by
    unfold Av.look
    rw [g1]
    simp only [hz, Option.bind_some]
    rfl
  have hlv : live σ2 id := by rw [live_id g1]; trivial
  refine LoopVC.upto [0, 4, 8, 67, 68] (.of (by kernel_rfl)) t.length (fun b A => A.env 69 = .int .i64 b ∧ A.st = σ2 ∧ ∀ j ∈ t.take b, (decide (j = i) || !satO all j c) = true) 0 (Nat.zero_le _) ?_ fun b B hb ⟨h69, hst, hI⟩ => ?_
  · simp only [go_sem, simprocAttr, ↓reduceIte]
    exact fun j hj => by simp at hj
  simp only [go_sem, simprocAttr, ↓reduceIte, h69, hst, List.length_map]
  refine ⟨fun hb2 => ?_, fun hb2 => ?_⟩
  · obtain ⟨j, hj⟩ := get_some hb2
    have hjl := ht j (List.mem_of_getElem? hj)
    obtain ⟨q, hq⟩ := get_some hjl
    simp only [go_sem, simprocAttr, ↓reduceIte, h69, hst, List.length_map, atV_map hj, hm, hk0, hlv, atV_map hq, hjl, Nat.add_zero]
    refine ⟨hb2, .of (by kernel_rfl), CallP.fnG (fun _ => r10_sat q c) ?_⟩
    have es : satO all j c = satP q c := by simp [satO, hq]
    have ej : ((j : Int) != (i : Int)) = !decide (j = i) := by
      rw [Bool.eq_iff_iff]
      simp
      omega
    simp only [go_sem, simprocAttr, ↓reduceIte, h69, hst, List.length_map, ej]
    refine ⟨fun h => ⟨weak_bool ?_, r4.ext⟩, fun h => ⟨hb2, int_succ hb2 (by rw [maxLen_eq]; omega), fun x hx => ?_⟩⟩
    · rw [eq_comm, List.all_eq_false]
      refine ⟨j, List.mem_of_getElem? hj, ?_⟩
      rw [es]
      revert h
      cases decide (j = i) <;> cases satP q c <;> simp
    · rw [take_succ_get hj] at hx
      rcases List.mem_append.1 hx with h1 | h1
      · exact hI x h1
      · rw [List.mem_singleton.1 h1, es]
        revert h
        cases decide (j = i) <;> cases satP q c <;> simp
  · rw [List.take_of_length_le hb2] at hI
    refine ⟨weak_bool ?_, r4.ext⟩
    rw [eq_comm, List.all_eq_true]
    exact hI
theorem r10_under4 (all : List Pkg) (t : List Nat) (ht : ∀ j ∈ t, j < all.length) (hn : t.length ≤ 1048576) {i k : Nat} {p : Pkg} {c : Atom} (hp : all[i]? = some p) (hc : p.brk[k]? = some c) (hl : p.con.length ≤ 1000) : PureFn prog W0 38 [pkgsAV all, causeAV (i, 4, k), nlAV t] (.bool (t.all fun j => decide (j = i) || !satO all j c)) := by
  refine fn_pure [6] [4, 7] func38 rfl rfl ntmps38 rfl rfl (.bool _) fun hs σ => ?_
  have hi := (List.getElem?_eq_some_iff.1 hp).1
  have hk := (List.getElem?_eq_some_iff.1 hc).1
  simp only [go_sem, simprocAttr, ↓reduceIte, pkgsAV, causeAV, nlAV, List.length_map, atV_map hp]
  refine ⟨hi, ?_⟩
  simp only [go_sem, simprocAttr, ↓reduceIte, pkgAV, atomsAV, List.length_map]
  refine AppA.rowS (σ := σ ++ [none]) (by simp only [go_sem, simprocAttr, ↓reduceIte]) 1048576 (by kernel_rfl) (.inl ⟨rfl, rfl⟩) (.sl _ _ _) (by simp; omega) fun v1 σ1 a1 => ?_
  have r1 := (OutR.nil ((Ext.refl σ).app [none]) 50).app a1
  have q1 := r1.row.st.ok
  have q2 := r1.row.st.un
  have ht2 : elT prog 51 = some 50 := by kernel_rfl
  simp only [go_sem, simprocAttr, ↓reduceIte, q1, q2, r1.row.cutV, r1.row.cutC ht2]
  refine ⟨Nat.zero_le _, JoinVC.both (fun h => by cases h) (fun _ => ?_)⟩
  have r2 : RowV σ1 (cutR 0 0 v1) 50 [] := by simpa using r1.row.cut (Nat.le_refl 0) (Nat.zero_le _)
  have r3 : OutR σ σ1 (cutR 0 0 v1) 50 [] := ⟨r2, r1.ext, fun j hj => r1.low j (by rwa [foot_cutR] at hj)⟩
  have q3 := r3.row.st.ok
  have q4 := r3.row.st.un
  simp only [go_sem, simprocAttr, ↓reduceIte, pkgAV, atomsAV, List.length_map, atV_map hc, q3, q4]
  refine ⟨hk, AppA.rowS (σ := σ1) (by simp only [go_sem, simprocAttr, ↓reduceIte]) 1048576 (by kernel_rfl) r2 (.lit _ _ _) (by simp) fun v2 σ2 a2 => ?_⟩
  have r4 : OutR σ σ2 v2 50 [atomAV c] := r3.app a2
  have q5 := r4.row.st.ok
  have q6 := r4.row.st.un
  simp only [go_sem, simprocAttr, ↓reduceIte, q5, q6, nlAV, List.length_map]
  obtain ⟨id, off, m, zs, rfl, g1, g2, g3⟩ : ∃ id off m zs, v2 = .row 50 id off m ∧ σ2[id]? = some (some (.cells 50 zs)) ∧ off + m ≤ zs.length ∧ [atomAV c] = (zs.drop off).take m := by
    rcases r4.row with ⟨_, h⟩ | h
    · cases h
    · exact h
  have hm : m = 1 := (RowV.len' (σ := σ) (e := 50) (id := id) g2 g3).symm
  have hz : zs[off]? = some (atomAV c) := by
    have h1 : ((zs.drop off).take m)[0]? = some (atomAV c) := by rw [← g3]; rfl
    rw [List.getElem?_take_of_lt (by omega), List.getElem?_drop] at h1
    exact h1
  have hk0 : Av.look σ2 id off [] = some (atomAV c) := by
    unfold Av.look
    rw [g1]
    simp only [hz, Option.bind_some]
    rfl
  have hlv : live σ2 id := by rw [live_id g1]; trivial
  refine LoopVC.upto [0, 4, 8, 67, 68] (.of (by kernel_rfl)) t.length (fun b A => A.env 69 = .int .i64 b ∧ A.st = σ2 ∧ ∀ j ∈ t.take b, (decide (j = i) || !satO all j c) = true) 0 (Nat.zero_le _) ?_ fun b B hb ⟨h69, hst, hI⟩ => ?_
  · simp only [go_sem, simprocAttr, ↓reduceIte]
    exact fun j hj => by simp at hj
  simp only [go_sem, simprocAttr, ↓reduceIte, h69, hst, List.length_map]
  refine ⟨fun hb2 => ?_, fun hb2 => ?_⟩
  · obtain ⟨j, hj⟩ := get_some hb2
    have hjl := ht j (List.mem_of_getElem? hj)
    obtain ⟨q, hq⟩ := get_some hjl
    simp only [go_sem, simprocAttr, ↓reduceIte, h69, hst, List.length_map, atV_map hj, hm, hk0, hlv, atV_map hq, hjl, Nat.add_zero]
    refine ⟨hb2, .of (by kernel_rfl), CallP.fnG (fun _ => r10_sat q c) ?_⟩
    have es : satO all j c = satP q c := by simp [satO, hq]
    have ej : ((j : Int) != (i : Int)) = !decide (j = i) := by
      rw [Bool.eq_iff_iff]
      simp
      omega
    simp only [go_sem, simprocAttr, ↓reduceIte, h69, hst, List.length_map, ej]
    refine ⟨fun h => ⟨weak_bool ?_, r4.ext⟩, fun h => ⟨hb2, int_succ hb2 (by rw [maxLen_eq]; omega), fun x hx => ?_⟩⟩
    · rw [eq_comm, List.all_eq_false]
      refine ⟨j, List.mem_of_getElem? hj, ?_⟩
      rw [es]
      revert h
      cases decide (j = i) <;> cases satP q c <;> simp
    · rw [take_succ_get hj] at hx
      rcases List.mem_append.1 hx with h1 | h1
      · exact hI x h1
      · rw [List.mem_singleton.1 h1, es]
        revert h
        cases decide (j = i) <;> cases satP q c <;> simp
  · rw [List.take_of_length_le hb2] at hI
    refine ⟨weak_bool ?_, r4.ext⟩
    rw [eq_comm, List.all_eq_true]
    exact hI
end Go.Proofs.Tryz
end
section
set_option linter.unusedSimpArgs false
set_option linter.unusedVariables false
namespace Go.Proofs.Tryz
open Go Go.Av
set_option maxRecDepth 10000
set_option linter.unusedSimpArgs false
set_option linter.unusedVariables false
variable {W0 : World}

def nameO (all : List Pkg) (j : Nat) : Option (List UInt8) := (all[j]?).map fun p => p.name
def ValidC (all : List Pkg) (c : Nat × Nat × Nat) : Prop := ∃ p, all[c.1]? = some p ∧ 1 ≤ c.2.1 ∧ c.2.1 ≤ 4 ∧ c.2.2 < kindN p c.2.1
def underC (all : List Pkg) (c : Nat × Nat × Nat) (t : List Nat) : Bool := match all[c.1]? with
  | some p => (match c.2.1 with
    | 1 => (match p.pre[c.2.2]? with | some x => metP x (atL all t) | none => false)
    | 2 => (match p.dep[c.2.2]? with | some x => metP x (atL all t) | none => false)
    | 3 => (match p.con[c.2.2]? with | some x => t.all fun j => decide (j = c.1) || !satO all j x | none => false)
    | _ => (match p.brk[c.2.2]? with | some x => t.all fun j => decide (j = c.1) || !satO all j x | none => false))
  | none => false
def underP (all : List Pkg) (e : List (Nat × Nat × Nat)) (t : List Nat) : Bool := decide (t.Pairwise fun x y => nameO all x ≠ nameO all y) && e.all fun c => !decide (c.1 ∈ t) || underC all c t

theorem r10_underC (all : List Pkg) (t : List Nat) (ht : ∀ j ∈ t, j < all.length) (hn : t.length ≤ 1048576) (hl : ∀ p ∈ all, p.con.length ≤ 1000) {c : Nat × Nat × Nat} (hc : ValidC all c) : PureFn prog W0 38 [pkgsAV all, causeAV c, nlAV t] (.bool (underC all c t)) := by
  obtain ⟨i, d, k⟩ := c
  obtain ⟨p, hp, h1, h4, hk⟩ := hc
  simp only at hp h1 h4 hk
  have hlp := hl p (List.mem_of_getElem? hp)
  obtain rfl | rfl | rfl | rfl : d = 1 ∨ d = 2 ∨ d = 3 ∨ d = 4 := by omega
  · obtain ⟨x, hx⟩ := get_some (l := p.pre) hk
    have := r10_under1 (W0 := W0) all t ht hn hp hx
    simpa [underC, hp, hx] using this
  · obtain ⟨x, hx⟩ := get_some (l := p.dep) hk
    have := r10_under2 (W0 := W0) all t ht hn hp hx
    simpa [underC, hp, hx] using this
  · obtain ⟨x, hx⟩ := get_some (l := p.con) hk
    have := r10_under3 (W0 := W0) all t ht hn hp hx hlp
    simpa [underC, hp, hx] using this
  · obtain ⟨x, hx⟩ := get_some (l := p.brk) hk
    have := r10_under4 (W0 := W0) all t ht hn hp hx hlp
    simpa [underC, hp, hx] using this

theorem pair_take {α : Type} {R : α → α → Prop} {l : List α} {k : Nat} {x : α} (h : l[k]? = some x) : (l.take (k + 1)).Pairwise R ↔ (l.take k).Pairwise R ∧ ∀ y ∈ l.take k, R y x := by
  rw [take_succ_get h, List.pairwise_append]
  simp

theorem underP_ff {all : List Pkg} {e : List (Nat × Nat × Nat)} {t : List Nat} {b i j : Nat} (hi : t[b]? = some i) (hj : j ∈ t.take b) (h : nameO all j = nameO all i) : underP all e t = false := by
  unfold underP
  rw [decide_eq_false, Bool.false_and]
  intro hp
  have h1 := (pair_take hi).1 (hp.take (i := b + 1))
  exact h1.2 j hj h
end Go.Proofs.Tryz
end
section
set_option linter.unusedSimpArgs false
set_option linter.unusedVariables false
namespace Go.Proofs.Tryz
open Go Go.Av
set_option maxRecDepth 10000
set_option linter.unusedSimpArgs false
set_option linter.unusedVariables false
variable {W0 : World}

def freeB (all : List Pkg) (k : Nat) (t : List Nat) : Bool := t.all fun j => decide (nameO all j ≠ nameO all k)
def someL (all : List Pkg) (e : List (Nat × Nat × Nat)) (i : Nat) : Nat → Nat → List Nat → Bool
  | 0, _, t => underP all e t
  | f + 1, k, t => if k = all.length then underP all e t else if k = i then someL all e i f (k + 1) (t ++ [k]) else
      (decide (nameO all k ≠ nameO all i) && freeB all k t && someL all e i f (k + 1) (t ++ [k])) || someL all e i f (k + 1) t
theorem mem_app1 {n k : Nat} {t : List Nat} (h : ∀ j ∈ t, j < n) (hk : k < n) : ∀ j ∈ t ++ [k], j < n := fun j hj => by
  rcases List.mem_append.1 hj with h1 | h1
  · exact h j h1
  · rw [List.mem_singleton.1 h1]; exact hk

def someA (all : List Pkg) (e : List (Nat × Nat × Nat)) (i : Nat) : Bool := someL all e i (all.length + 1) 0 []
end Go.Proofs.Tryz
end
