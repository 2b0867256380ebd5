/- Texts that the last one of this claim rests on: a layer over the guide's own conditions for code; contracts of the functions that the law reaches, one by one. No conditions beside those of the given rows. -/
import Derived.Test.YtekjlnodoelblaaGreatDoorWah
set_option linter.unusedSimpArgs false
set_option linter.unusedVariables false
section
namespace Go.Proofs.Tryz
open Go Go.Av
set_option maxRecDepth 10000
variable {W0 : World}

structure OutR (σ st : Store) (v : AV) (e : TypeId) (xs : List AV) : Prop where
 row : RowV st v e xs
 ext : Ext σ st
 low : ∀ j ∈ foot v,σ.length ≤ j
theorem OutR.app {σ st st' : Store} {x v : AV} {e : TypeId} {xs zs : List AV} (h : OutR σ st x e xs) (ha : AppR st x e zs v st') : OutR σ st' v e zs:=⟨ha.row,ha.fr.toExt h.ext h.low,fun j hj=>by
 rcases ha.foot j hj with h1 | h1
 ·exact h.low j h1
 ·exact Nat.le_trans h.ext.le h1⟩
theorem OutR.nil {σ st : Store} (h : Ext σ st) (e : TypeId) : OutR σ st .nils e []:=⟨.inl ⟨rfl,rfl⟩,h,fun j hj=>by simp [foot] at hj⟩

theorem OutR.more {σ st : Store} {v : AV} {e : TypeId} {xs : List AV} (h : OutR σ st v e xs) (l : Store) : OutR σ (st ++ l) v e xs:=⟨h.row.keep fun j hj=>by rw [List.getElem?_append_left (h.row.lt j hj)],h.ext.app l,h.low⟩

end Go.Proofs.Tryz
end
section
namespace Go.Proofs.Tryz
open Go Go.Av
set_option maxRecDepth 10000
variable {W0 : World}

theorem Bld.sub1 {st : Store} {v : AV} {e : TypeId} {xs : List AV} (h : Bld st v e xs) : Sub v (.sl e xs):=by
 rcases h with ⟨rfl,rfl⟩ | rfl | ⟨t,rfl,_⟩
 ·exact .nils _
 ·exact .lit _ _
 ·exact .own _ _ _

theorem pickV_f (u v : AV) : pickV false u v = v:=by
 unfold pickV pickAV
 split <;> simp [pickB]
inductive SubL : List AV → List AV → Prop
 | nil : SubL [] []
 | cons {x y : AV} {xs ys : List AV} : Sub x y → SubL xs ys → SubL (x :: xs) (y :: ys)
theorem SubL.append {a b c d : List AV} (h : SubL a b) (k : SubL c d) : SubL (a ++ c) (b ++ d):=by
 induction h with
 | nil=>exact k
 | cons h1 _ ih=>exact .cons h1 ih
theorem SubL.get {a b : List AV} (h : SubL a b) : a.length = b.length ∧ ∀ (i : Nat) (x y : AV),a[i]? = some x → b[i]? = some y → Sub x y:=by
 induction h with
 | nil=>exact ⟨rfl,fun i x y hx _=>by simp at hx⟩
 | cons h1 _ ih =>
  refine ⟨by simp [ih.1],fun i x y hx hy=>?_⟩
  cases i with
  | zero=>simp at hx hy; subst hx hy; exact h1
  | succ i=>exact ih.2 i x y (by simpa using hx) (by simpa using hy)
theorem SubL.sl {a b : List AV} (h : SubL a b) (e : TypeId) : Sub (.sl e a) (.sl e b):=.sls h.get.1 h.get.2
theorem room {d m : Nat} : (d + 1) * 2 ^ m ≤ 2 ^ (d + m):=by
 rw [Nat.pow_add]
 exact Nat.mul_le_mul_right _ (Nat.lt_two_pow_self)

end Go.Proofs.Tryz
end
section
namespace Go.Proofs.Tryz
open Go Go.Av
set_option maxRecDepth 10000
variable {W0 : World}

def nameO (all : List Pkg) (j : Nat) : Option (List UInt8):=(all[j]?).map fun p=>p.name
end Go.Proofs.Tryz
end
section
namespace Go.Av

structure SelOk (all : List Pkg) (S : Nat → Bool) : Prop where
 dep : ∀ (i : Nat) (p : Pkg),all[i]? = some p → S i = true → ∀ c ∈ p.pre ++ p.dep,∃ (k : Nat) (q : Pkg),all[k]? = some q ∧ c.any (satP q) = true ∧ S k = true
 con : ∀ (i : Nat) (p : Pkg) (k : Nat) (q : Pkg),all[i]? = some p → all[k]? = some q → k < i → S i = true → S k = true → p.name ≠ q.name ∧ clashP p q = false

end Go.Av
end
section
namespace Go.Av

def Can1 (all : List Pkg) (i : Nat) : Prop:=∃ S,SelOk all S ∧ S i = true
def Can2 (all : List Pkg) (i j : Nat) : Prop:=∃ S,SelOk all S ∧ S i = true ∧ S j = true
def CanN (all : List Pkg) (i j : Nat) : Prop:=∃ S,SelOk all S ∧ S i = true ∧ S j = false

structure NeedsP (all : List Pkg) (i j : Nat) : Prop where
 ne : i ≠ j
 can : Can1 all i
 not : ¬ CanN all i j
structure NeverP (all : List Pkg) (i j : Nat) : Prop where
 ne : i ≠ j
 can : Can1 all i
 can' : Can1 all j
 not : ¬ Can2 all i j

theorem NeedsP.sel {all : List Pkg} {i j : Nat} (h : NeedsP all i j) {S : Nat → Bool} (hS : SelOk all S) (hi : S i = true) : S j = true:=by
 cases hj : S j with
 | true=>rfl
 | false=>exact absurd ⟨S,hS,hi,hj⟩ h.not
theorem NeedsP.trans {all : List Pkg} {i j k : Nat} (h : NeedsP all i j) (h' : NeedsP all j k) (hk : k ≠ i) : NeedsP all i k :=
 ⟨fun e=>hk e.symm,h.can,fun ⟨_,hS,hi,hk⟩=>by rw [h'.sel hS (h.sel hS hi)] at hk; cases hk⟩
theorem NeedsP.never {all : List Pkg} {i j k : Nat} (h : NeedsP all i j) (h' : NeverP all j k) : NeverP all i k:=by
 refine ⟨fun e=>?_,h.can,h'.can',fun ⟨S,hS,hi,hk⟩=>h'.not ⟨S,hS,h.sel hS hi,hk⟩⟩
 subst e
 obtain ⟨S,hS,hi⟩:=h.can
 exact h'.not ⟨S,hS,h.sel hS hi,hi⟩
theorem NeverP.symm {all : List Pkg} {i j : Nat} (h : NeverP all i j) : NeverP all j i :=
 ⟨fun e=>h.ne e.symm,h.can',h.can,fun ⟨S,hS,hj,hi⟩=>h.not ⟨S,hS,hi,hj⟩⟩

end Go.Av
end
section
namespace Go.Av

structure HL (l : List Pkg) : Prop where
 may : ∀ p ∈ l,mayPkg p = 0
 pair : l.Pairwise fun p q=>p.name ≠ q.name ∧ clashP p q = false
 met : ∀ p ∈ l,∀ c ∈ p.pre ++ p.dep,∃ q ∈ l,c.any (satP q) = true

def pick (S : Nat → Bool) : Nat → List Pkg → List Pkg
 | _,[]=>[]
 | i,p :: r=>if S i = true then p :: pick S (i + 1) r else pick S (i + 1) r
end Go.Av
end
section
namespace Go.Proofs.Tryz
open Go Go.Av

def ProvS (all : List Pkg) (S : Nat → Bool) (x : Clause) : Prop:=∃ (m : Nat) (q : Pkg),all[m]? = some q ∧ x.any (satP q) = true ∧ S m = true
def NoneS (all : List Pkg) (S : Nat → Bool) (i : Nat) (x : Atom) : Prop:=∀ (m : Nat) (q : Pkg),all[m]? = some q → S m = true → m ≠ i → satP q x = false
structure CauseS (all : List Pkg) (S : Nat → Bool) (c : Nat × Nat × Nat) : Prop where
 pre : c.2.1 = 1 → ∀ p x,all[c.1]? = some p → p.pre[c.2.2]? = some x → ProvS all S x
 dep : c.2.1 = 2 → ∀ p x,all[c.1]? = some p → p.dep[c.2.2]? = some x → ProvS all S x
 con : c.2.1 = 3 → ∀ p x,all[c.1]? = some p → p.con[c.2.2]? = some x → NoneS all S c.1 x
 brk : c.2.1 = 4 → ∀ p x,all[c.1]? = some p → p.brk[c.2.2]? = some x → NoneS all S c.1 x
structure SelE (all : List Pkg) (e : List (Nat × Nat × Nat)) (S : Nat → Bool) : Prop where
 name : ∀ (a b : Nat) (p q : Pkg),all[a]? = some p → all[b]? = some q → a ≠ b → S a = true → S b = true → p.name ≠ q.name
 cause : ∀ c ∈ e,S c.1 = true → CauseS all S c

end Go.Proofs.Tryz
end
section
namespace Go.Proofs.Tryz
open Go Go.Av

def clauseO (all : List Pkg) (c : Nat × Nat × Nat) : Clause:=match all[c.1]? with
 | some p=>(match c.2.1 with
  | 1=>(p.pre[c.2.2]?).getD []
  | 2=>(p.dep[c.2.2]?).getD []
  | 3=>((p.con[c.2.2]?).map fun x=>[x]).getD []
  | _=>((p.brk[c.2.2]?).map fun x=>[x]).getD [])
 | none=>[]
def meetB (all : List Pkg) (cl : Clause) (m : Nat) : Bool:=match all[m]? with
 | some q=>cl.any (satP q)
 | none=>false
def meetsN (all : List Pkg) (cl : Clause) (n : Nat) : List Nat:=(List.range n).filter (meetB all cl)
def meetsL (all : List Pkg) (c : Nat × Nat × Nat) : List Nat:=meetsN all (clauseO all c) all.length
structure EncS (all : List Pkg) (e : List (Nat × Nat × Nat)) (S : Nat → Bool) : Prop where
 name : ∀ i k,k < i → i < all.length → nameO all k = nameO all i → S i = true → S k = true → False
 con : ∀ c ∈ e,(c.2.1 = 3 ∨ c.2.1 = 4) → ∀ m ∈ meetsL all c,m ≠ c.1 → S c.1 = true → S m = true → False
 dep : ∀ c ∈ e,(c.2.1 = 1 ∨ c.2.1 = 2) → S c.1 = true → ∃ m ∈ meetsL all c,S m = true

end Go.Proofs.Tryz
end
section
namespace Go.Proofs.Tryz
open Go Go.Av
set_option maxRecDepth 10000
variable {W0 : World}

theorem weak_tup2 {x y a b : AV} (h1 : Weak x y) (h2 : Weak a b) : Weak (.tup [x,a]) (.tup [y,b]):=.tup rfl fun i u v hu hv=>by
 rcases i with _ | _ | i <;> simp at hu hv
 ·subst hu hv; exact h1
 ·subst hu hv; exact h2
end Go.Proofs.Tryz
end
