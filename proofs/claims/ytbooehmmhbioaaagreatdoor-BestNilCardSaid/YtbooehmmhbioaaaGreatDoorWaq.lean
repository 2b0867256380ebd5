/- Texts that the last one of this claim rests on: a layer over the guide's own conditions for code; contracts of the functions that the law reaches, one by one. No conditions beside those of the given rows. -/
import Derived.Test.YtbooehmmhbioaaaGreatDoorWai
import Derived.Test.YtbooehmmhbioaaaGreatDoorWap
set_option linter.unusedSimpArgs false
set_option linter.unusedVariables false
section
namespace Go.Av
abbrev Fh : List UInt8:=[112,97,99,107,97,103,101]
abbrev Ev : List UInt8:=[118,101,114,115,105,111,110]
abbrev Uk : List UInt8:=[112,114,101,45,100,101,112,101,110,100,115]
abbrev Ue : List UInt8:=[100,101,112,101,110,100,115]
abbrev Ud : List UInt8:=[114,101,99,111,109,109,101,110,100,115]
abbrev Ux : List UInt8:=[99,111,110,102,108,105,99,116,115]
abbrev UC : List UInt8:=[98,114,101,97,107,115]
abbrev Qq : List UInt8:=[112,114,111,118,105,100,101,115]
abbrev UG : List UInt8:=[101,115,115,101,110,116,105,97,108]
abbrev RX : List UInt8:=[104,111,108,100]
abbrev Sc : List UInt8:=[99,111,110,102,105,103,117,114,101,100]
abbrev QS : List UInt8:=[112,114,105,111,114,105,116,121]
abbrev Ui : List UInt8:=[115,116,97,116,101]
abbrev Uu : List UInt8:=[121,101,115]
abbrev sNo : List UInt8:=[110,111]
abbrev UW : List UInt8:=[117,110,112,97,99,107,101,100]

inductive mS where
 | text (s : List UInt8)
 | count (n : Int)
 | yes (b : Bool)
 | cls (l : List Clause)
 | atoms (l : List Atom)
 | DG (l : List ij)

def p7 (s : List UInt8) : List UInt8:=s.map L0
def Jn (n : List UInt8) : Nat :=
 if p7 n = Fh then 0 else if p7 n = Ev then 1
 else if p7 n = Uk ∨ p7 n = Ue ∨ p7 n = Ud then 2
 else if p7 n = Ux ∨ p7 n = UC then 3
 else if p7 n = Qq then 4
 else if p7 n = UG ∨ p7 n = RX ∨ p7 n = Sc then 5
 else if p7 n = QS then 6 else 7
def PE : List UInt8 → Int → Int
 | [],n=>n
 | c :: r,n=>PE r (10 * n + (c.toNat - 48))
def UE (s : List UInt8) : Option Int:=if s.length = 0 ∨ 9 < s.length ∨ (1 < s.length ∧ s.head? = some 48) ∨ s.all aJ = false then none else some (PE s 0)
def yx (a : Atom) : Bool:=decide (a.rel = 0) || decide (a.rel = 3)
def sU (_ : Atom) : Bool:=true
def LF (c : Clause) : ij:=match c with
 | []=>⟨[],[]⟩
 | a :: _=>⟨a.name,a.ver⟩
def Sx (name s : List UInt8) : Except Int mS :=
 match Jn name with
 | 0=>if dH s = true then .ok (.text s) else .error 3
 | 1=>if bz s = true then .ok (.text s) else .error 3
 | 2=>if (vB sU false s).2 = 0 then .ok (.cls (vB sU false s).1) else .error (vB sU false s).2
 | 3=>if (vB sU true s).2 = 0 then .ok (.atoms (vB sU true s).1.flatten) else .error (vB sU true s).2
 | 4=>if (vB yx true s).2 = 0 then .ok (.DG ((vB yx true s).1.map LF)) else .error (vB yx true s).2
 | 5=>if s = Uu then .ok (.yes true) else if s = sNo then .ok (.yes false) else .error 3
 | 6=>match UE s with
  | some n=>.ok (.count n)
  | none=>.error 3
 | _=>.ok (.text s)

structure aK where
 pkg : Pkg
 GZ : Bool
 hold : Bool
 deriving DecidableEq
def vw : Pkg:=⟨[],[],[],[],[],[],[],[],false⟩
def eN : aK:=⟨vw,false,false⟩
structure Acc where
 ent : aK
 n : Bool
 v : Bool
 s : Bool
def mS.cl : mS → List Clause | .cls l=>l | _=>[]
def mS.at : mS → List Atom | .atoms l=>l | _=>[]
def mS.pr : mS → List ij | .DG l=>l | _=>[]
def pZ : List aK → Bool
 | x :: y :: r=>!Go.Op.bytesLess x.pkg.name y.pkg.name || pZ (y :: r)
 | _=>false
def gn (l : List aK) : Int:=if 10 < l.length then 12 else if orL (l.map fun x=>bn x.pkg) ≠ 0 then orL (l.map fun x=>bn x.pkg) else if pZ l = true then 4 else 0
end Go.Av
end
section
namespace Go.Av
structure aM where
 kind : Int
 name : List UInt8
 ver : List UInt8
 deriving DecidableEq
def bm (l : List aM) (n : List UInt8) : Option aM:=l.find? fun a=>a.name == n
def eF (s : List aK) (n : List UInt8) : Option aK:=s.find? fun x=>x.pkg.name == n
def dT (t : List Pkg) (n : List UInt8) : Option Pkg:=t.find? fun p=>p.name == n
def kindOf : Option aM → Int
 | some a=>a.kind
 | none=>0
def ly : Option aM → List UInt8
 | some a=>a.ver
 | none=>[]
def dt : Option aM → Bool
 | some a=>a.kind == 1 && a.ver != []
 | none=>false
def nM (q : Option aM) (h : Bool) : Bool:=match q with
 | some a=>if a.kind = 5 then true else if a.kind = 6 ∨ a.kind = 2 ∨ (a.kind = 1 ∧ a.ver ≠ []) then false else h
 | none=>h
def jC (l : List aM) : Bool:=l.any fun a=>a.kind == 3
def mg (l : List aM) (s : List aK) (n : List UInt8) : Bool:=!jC l || ((eF s n).isSome || kindOf (bm l n) == 1) && !(kindOf (bm l n) == 2)
def uW (l : List aM) (s : List aK) (p : Pkg) : Bool :=
 !(kindOf (bm l p.name) == 2) && (!dt (bm l p.name) || bt p.ver (ly (bm l p.name))) &&
 (match eF s p.name with
  | some x=>(!nM (bm l p.name) x.hold || bt p.ver x.pkg.ver) && (dt (bm l p.name) || !decide (bJ p.ver x.pkg.ver < 0))
  | none=>true) && mg l s p.name
def ll (l : List aM) (s : List aK) (n : List UInt8) : Bool :=
 !(kindOf (bm l n) == 1) && !(match eF s n with
  | some x=>nM (bm l n) x.hold || x.pkg.ess
  | none=>false) && !(jC l && mg l s n)
def dZ (all : List Pkg) (s : List aK) (l : List aM) : Bool:=l.any fun a=>(a.kind == 5 && (eF s a.name).isNone) || (a.kind == 1 && !(all.any fun p=>p.name == a.name))
def oD (t : List Pkg) (s : List aK) (a : aM) : Bool :=
 if a.kind = 1 then (match dT t a.name with
  | none=>false
  | some p=>a.ver == [] || bt p.ver a.ver)
 else if a.kind = 2 then (dT t a.name).isNone else if a.kind = 5 then (eF s a.name).isSome else true
def uL (l : List aM) (t : List Pkg) (x : aK) : Bool:=match dT t x.pkg.name with
 | none=>!(nM (bm l x.pkg.name) x.hold || x.pkg.ess)
 | some p=>(!nM (bm l x.pkg.name) x.hold || bt p.ver x.pkg.ver) && !(decide (bJ p.ver x.pkg.ver < 0) && !dt (bm l x.pkg.name))
def mY (l : List aM) (t : List Pkg) (s : List aK) : Bool:=(t.all fun p=>(eF s p.name).isSome || kindOf (bm l p.name) == 1) && (s.all fun x=>(dT t x.pkg.name).isSome || kindOf (bm l x.pkg.name) == 2)
def jX (l : List aM) (t : List Pkg) (s : List aK) : Bool:=l.all (oD t s) && s.all (uL l t) && (!jC l || mY l t s)

theorem qw {α : Type} {f : α → List UInt8} : ∀ {l : List α} {a : α},(l.map f).Nodup → a ∈ l → l.find? (fun x=>f x == f a) = some a
 | b :: l,a,hn,h=>by
  rw [List.map_cons,List.nodup_cons] at hn
  rw [List.find?_cons]
  rcases List.mem_cons.1 h with rfl | h
  ·rw [beq_self_eq_true]
  ·have hne : (f b == f a) = false:=by
    rw [beq_eq_false_iff_ne]
    exact fun e=>hn.1 (e ▸ List.mem_map_of_mem h)
   rw [hne]
   exact qw hn.2 h
theorem th {α : Type} {f : α → List UInt8} {l : List α} {n : List UInt8} (h : l.find? (fun x=>f x == n) = none) : ∀ a ∈ l,f a ≠ n:=fun a ha e=>by
 have:=List.find?_eq_none.1 h a ha
 simp [e] at this
theorem qX {α : Type} {f : α → List UInt8} {l : List α} {n : List UInt8} {a : α} (h : l.find? (fun x=>f x == n) = some a) : a ∈ l ∧ f a = n :=
 ⟨List.mem_of_find?_eq_some h,by simpa using List.find?_some h⟩
structure Uni (all : List Pkg) (s : List aK) (l : List aM) : Prop where
 asks : (l.map (·.name)).Nodup
 GA : (s.map (·.pkg.name)).Nodup
 sub : ∀ x ∈ s,∃ p ∈ all,p.name = x.pkg.name
theorem pC {l : List aM} (h : (l.map (·.name)).Nodup) {a : aM} (ha : a ∈ l) : bm l a.name = some a:=qw (f:=aM.name) h ha
theorem sh {s : List aK} (h : (s.map (·.pkg.name)).Nodup) {x : aK} (hx : x ∈ s) : eF s x.pkg.name = some x:=qw (f:=fun x : aK=>x.pkg.name) h hx
theorem tj {t : List Pkg} (h : (t.map (·.name)).Nodup) {p : Pkg} (hp : p ∈ t) : dT t p.name = some p:=qw (f:=Pkg.name) h hp
theorem kj {l : List aM} {n : List UInt8} {a : aM} (h : bm l n = some a) : a ∈ l ∧ a.name = n:=qX (f:=aM.name) h
theorem lG {s : List aK} {n : List UInt8} {x : aK} (h : eF s n = some x) : x ∈ s ∧ x.pkg.name = n:=qX (f:=fun x : aK=>x.pkg.name) h
theorem iq {t : List Pkg} {n : List UInt8} {p : Pkg} (h : dT t n = some p) : p ∈ t ∧ p.name = n:=qX (f:=Pkg.name) h
theorem uU {all : List Pkg} {s : List aK} {l : List aM} (hU : Uni all s l) {t : List Pkg} (ht : ∀ p ∈ t,p ∈ all) (hn : (t.map (·.name)).Nodup) :
  jX l t s = true ↔ dZ all s l = false ∧ (∀ p ∈ t,uW l s p = true) ∧ ∀ q ∈ all,dT t q.name = none → ll l s q.name = true:=by
 unfold jX
 rw [Bool.and_eq_true,Bool.and_eq_true,List.all_eq_true,List.all_eq_true]
 constructor
 ·rintro ⟨⟨h1,h2⟩,h3⟩
  have hrem : ∀ n,kindOf (bm l n) = 2 → dT t n = none:=fun n hk=>by
   cases hq : bm l n with
   | none=>rw [hq] at hk; cases hk
   | some a =>
    obtain ⟨ha,hna⟩:=kj hq
    rw [hq] at hk
    have hk : a.kind = 2:=hk
    have:=h1 a ha
    unfold oD at this
    rw [if_neg (by rw [hk]; decide),if_pos hk,hna] at this
    simpa using this
  have hins : ∀ n,kindOf (bm l n) = 1 → ∃ p,dT t n = some p ∧ (ly (bm l n) = [] ∨ bt p.ver (ly (bm l n)) = true):=fun n hk=>by
   cases hq : bm l n with
   | none=>rw [hq] at hk; cases hk
   | some a =>
    obtain ⟨ha,hna⟩:=kj hq
    rw [hq] at hk
    have hk : a.kind = 1:=hk
    have:=h1 a ha
    unfold oD at this
    rw [if_pos hk,hna] at this
    cases hf : dT t n with
    | none=>rw [hf] at this; cases this
    | some p =>
     rw [hf] at this
     exact ⟨p,rfl,by simpa [ly] using this⟩
  refine ⟨?_,fun p hp=>?_,fun q hq hf=>?_⟩
  ·unfold dZ
   rw [List.any_eq_false]
   intro a ha hc
   have h4:=h1 a ha
   simp only [Bool.or_eq_true,Bool.and_eq_true,beq_iff_eq,Option.isNone_iff_eq_none,Bool.not_eq_true'] at hc
   rcases hc with ⟨hk,hc⟩ | ⟨hk,hc⟩
   ·unfold oD at h4
    rw [if_neg (by rw [hk]; decide),if_neg (by rw [hk]; decide),if_pos hk,hc] at h4
    cases h4
   ·unfold oD at h4
    rw [if_pos hk] at h4
    cases hf : dT t a.name with
    | none=>rw [hf] at h4; cases h4
    | some p =>
     obtain ⟨hp,hpn⟩:=iq hf
     have:=List.any_eq_false.1 hc p (ht p hp)
     simp [hpn] at this
  ·have hf:=tj hn hp
   unfold uW
   simp only [Bool.and_eq_true]
   refine ⟨⟨⟨?_,?_⟩,?_⟩,?_⟩
   ·simp only [Bool.not_eq_true',beq_eq_false_iff_ne]
    exact fun hk=>by rw [hrem _ hk] at hf; cases hf
   ·cases hq : bm l p.name with
    | none=>rfl
    | some a =>
     by_cases he : dt (some a) = true
     ·have hk : a.kind = 1:=by simp only [dt,Bool.and_eq_true,beq_iff_eq] at he; exact he.1
      obtain ⟨p',hp',hv⟩:=hins p.name (by rw [hq]; exact hk)
      rw [hf] at hp'
      cases hp'
      rw [hq] at hv
      rcases hv with hv | hv
      ·simp only [dt,Bool.and_eq_true,bne_iff_ne,ne_eq] at he
       exact absurd hv he.2
      ·rw [hv,Bool.or_true]
     ·simp [he]
   ·cases hx : eF s p.name with
    | none=>rfl
    | some x =>
     obtain ⟨hxm,hxn⟩:=lG hx
     have h4:=h2 x hxm
     unfold uL at h4
     rw [hxn,hf] at h4
     simp only [Bool.and_eq_true] at h4 ⊢
     refine ⟨h4.1,?_⟩
     have:=h4.2
     cases h5 : dt (bm l p.name) <;> simp_all
   ·unfold mg
    cases hp1 : jC l with
    | false=>rfl
    | true =>
     rw [hp1] at h3
     have h3 : mY l t s = true:=by simpa using h3
     unfold mY at h3
     rw [Bool.and_eq_true,List.all_eq_true] at h3
     have h4:=h3.1 p hp
     have h5 : (kindOf (bm l p.name) == 2) = false:=by
      rw [beq_eq_false_iff_ne]
      exact fun hk=>by rw [hrem _ hk] at hf; cases hf
     rw [h4,h5]
     rfl
  ·have hni : (kindOf (bm l q.name) == 1) = false:=by
    rw [beq_eq_false_iff_ne]
    intro hk
    obtain ⟨p,hp,_⟩:=hins _ hk
    rw [hf] at hp
    cases hp
   unfold ll
   rw [hni]
   simp only [Bool.not_false,Bool.true_and,Bool.and_eq_true,Bool.not_eq_true']
   refine ⟨?_,?_⟩
   ·cases hx : eF s q.name with
    | none=>rfl
    | some x =>
     obtain ⟨hxm,hxn⟩:=lG hx
     have h4:=h2 x hxm
     unfold uL at h4
     rw [hxn,hf] at h4
     simpa using h4
   ·cases hp1 : jC l with
    | false=>rfl
    | true =>
     rw [hp1] at h3
     have h3 : mY l t s = true:=by simpa using h3
     unfold mY at h3
     rw [Bool.and_eq_true,List.all_eq_true,List.all_eq_true] at h3
     unfold mg
     rw [hp1,hni]
     cases hx : eF s q.name with
     | none=>rfl
     | some x =>
      obtain ⟨hxm,hxn⟩:=lG hx
      have h4:=h3.2 x hxm
      rw [hxn,hf] at h4
      have h4 : (kindOf (bm l q.name) == 2) = true:=by simpa using h4
      rw [h4]
      rfl
 ·rintro ⟨h1,h2,h3⟩
  unfold dZ at h1
  rw [List.any_eq_false] at h1
  have hpres : ∀ n,(∃ q ∈ all,q.name = n) → ll l s n = false → ∃ p,dT t n = some p ∧ uW l s p = true ∧ p.name = n:=fun n ⟨q,hq,hqn⟩ hl=>by
   cases hf : dT t n with
   | none =>
    have:=h3 q hq (by rw [hqn]; exact hf)
    rw [hqn,hl] at this
    cases this
   | some p =>
    obtain ⟨hp,hpn⟩:=iq hf
    exact ⟨p,rfl,h2 p hp,hpn⟩
  have hmay : ∀ p,uW l s p = true → (kindOf (bm l p.name) == 2) = false ∧ (dt (bm l p.name) = true → bt p.ver (ly (bm l p.name)) = true) ∧ (∀ x,eF s p.name = some x → (!nM (bm l p.name) x.hold || bt p.ver x.pkg.ver) = true ∧ (dt (bm l p.name) || !decide (bJ p.ver x.pkg.ver < 0)) = true) ∧ mg l s p.name = true:=fun p hp=>by
   unfold uW at hp
   simp only [Bool.and_eq_true,Bool.not_eq_true'] at hp
   obtain ⟨⟨⟨g1,g2⟩,g3⟩,g4⟩:=hp
   refine ⟨g1,fun he=>by rw [he] at g2; simpa using g2,fun x hx=>?_,g4⟩
   rw [hx] at g3
   simp only [Bool.and_eq_true] at g3
   exact g3
  refine ⟨⟨fun a ha=>?_,fun x hx=>?_⟩,?_⟩
  ·have haq:=pC hU.asks ha
   have hnev:=h1 a ha
   simp only [Bool.or_eq_true,Bool.and_eq_true,beq_iff_eq,Option.isNone_iff_eq_none,Bool.not_eq_true',not_or,not_and] at hnev
   unfold oD
   by_cases hk1 : a.kind = 1
   ·rw [if_pos hk1]
    have hin : ∃ q ∈ all,q.name = a.name:=by
     have:=hnev.2 hk1
     rw [Bool.not_eq_false,List.any_eq_true] at this
     obtain ⟨q,hq,hqn⟩:=this
     exact ⟨q,hq,by simpa using hqn⟩
    obtain ⟨p,hf,hm,hpn⟩:=hpres a.name hin (by
     unfold ll
     rw [haq,show kindOf (some a) = 1 from hk1]
     rfl)
    rw [hf]
    obtain ⟨_,g2,_⟩:=hmay p hm
    rw [hpn,haq] at g2
    by_cases hv : a.ver = []
    ·simp [hv]
    ·have:=g2 (by simp [dt,hk1,hv])
     simp only [ly] at this
     simp [this]
   ·rw [if_neg hk1]
    by_cases hk2 : a.kind = 2
    ·rw [if_pos hk2,Option.isNone_iff_eq_none]
     cases hf : dT t a.name with
     | none=>rfl
     | some p =>
      obtain ⟨hp,hpn⟩:=iq hf
      obtain ⟨g1,_⟩:=hmay p (h2 p hp)
      rw [hpn,haq,show kindOf (some a) = 2 from hk2] at g1
      cases g1
    ·rw [if_neg hk2]
     by_cases hk5 : a.kind = 5
     ·rw [if_pos hk5]
      have:=hnev.1 hk5
      cases hx : eF s a.name with
      | none=>exact absurd hx this
      | some x=>rfl
     ·rw [if_neg hk5]
  ·have hxe:=sh hU.GA hx
   obtain ⟨q,hq,hqn⟩:=hU.sub x hx
   unfold uL
   cases hf : dT t x.pkg.name with
   | none =>
    have h4:=h3 q hq (by rw [hqn]; exact hf)
    rw [hqn] at h4
    unfold ll at h4
    rw [hxe] at h4
    simp only [Bool.and_eq_true] at h4
    exact h4.1.2
   | some p =>
    obtain ⟨hp,hpn⟩:=iq hf
    obtain ⟨_,_,g3,_⟩:=hmay p (h2 p hp)
    rw [hpn] at g3
    obtain ⟨k1,k2⟩:=g3 x hxe
    simp only [Bool.and_eq_true]
    refine ⟨k1,?_⟩
    cases h5 : dt (bm l x.pkg.name) <;> simp_all
  ·cases hp1 : jC l with
   | false=>rfl
   | true =>
    show mY l t s = true
    unfold mY
    rw [Bool.and_eq_true,List.all_eq_true,List.all_eq_true]
    refine ⟨fun p hp=>?_,fun x hx=>?_⟩
    ·obtain ⟨_,_,_,g4⟩:=hmay p (h2 p hp)
     unfold mg at g4
     rw [hp1] at g4
     simp only [Bool.not_true,Bool.false_or,Bool.and_eq_true] at g4
     exact g4.1
    ·have hxe:=sh hU.GA hx
     obtain ⟨q,hq,hqn⟩:=hU.sub x hx
     cases hf : dT t x.pkg.name with
     | some p=>rfl
     | none =>
      have h4:=h3 q hq (by rw [hqn]; exact hf)
      rw [hqn] at h4
      unfold ll at h4
      simp only [Bool.and_eq_true,Bool.not_eq_true',hp1,Bool.true_and] at h4
      have h5:=h4.2
      unfold mg at h5
      rw [hp1,hxe] at h5
      cases h6 : (kindOf (bm l x.pkg.name) == 2) with
      | true=>simp
      | false =>
       rw [h6] at h5
       cases h5
end Go.Av
end
section
namespace Go.Av
def cr : List (List Nat) → List (List Nat)
 | []=>[[]]
 | g :: r=>(g.flatMap fun i=>(cr r).map (i :: ·)) ++ cr r
theorem pq {g : List Nat} {r : List (List Nat)} {t : List Nat} : t ∈ cr (g :: r) ↔ (∃ i ∈ g,∃ u ∈ cr r,t = i :: u) ∨ t ∈ cr r:=by
 simp only [cr,List.mem_append,List.mem_flatMap,List.mem_map]
 constructor
 ·rintro (⟨i,hi,u,hu,rfl⟩ | h)
  ·exact .inl ⟨i,hi,u,hu,rfl⟩
  ·exact .inr h
 ·rintro (⟨i,hi,u,hu,rfl⟩ | h)
  ·exact .inl ⟨i,hi,u,hu,rfl⟩
  ·exact .inr h
theorem dW : ∀ {gs : List (List Nat)} {t : List Nat},t ∈ cr gs → ∀ i ∈ t,∃ g ∈ gs,i ∈ g
 | [],t,h,i,hi=>by
  simp only [cr,List.mem_singleton] at h
  rw [h] at hi
  cases hi
 | g :: r,t,h,i,hi=>by
  rcases pq.1 h with ⟨j,hj,u,hu,rfl⟩ | h
  ·rcases List.mem_cons.1 hi with rfl | hi
   ·exact ⟨g,by simp,hj⟩
   ·obtain ⟨g',hg,hi⟩:=dW hu i hi
    exact ⟨g',by simp [hg],hi⟩
  ·obtain ⟨g',hg,hi⟩:=dW h i hi
   exact ⟨g',by simp [hg],hi⟩
structure Dat where
 may : Nat → Bool
 kG : Nat → Nat
 hl : Nat → Bool
def l8 (D : Dat) : List (Bool × List Nat) → Nat → Nat → List Nat
 | [],s,_=>if D.hl s = true then [s] else []
 | g :: r,s,c=>(if g.1 = true then l8 D r s c else []) ++ (g.2.filter fun i=>D.may i && !c.testBit i).flatMap fun i=>l8 D r (s ||| 2 ^ i) (c ||| D.kG i)
def gB (D : Dat) : List (Bool × List Nat) → Nat → Nat → Nat
 | [],_,_=>1
 | g :: r,s,c=>1 + ((if g.1 = true then gB D r s c else 0) + ((g.2.filter fun i=>D.may i && !c.testBit i).map fun i=>gB D r (s ||| 2 ^ i) (c ||| D.kG i)).sum)
def okP (D : Dat) : List (Bool × List Nat) → Nat → List Nat → Bool
 | [],_,_=>true
 | g :: r,c,t=>match t with
  | []=>g.1 && okP D r c []
  | i :: u=>if i ∈ g.2 then (D.may i && !c.testBit i) && okP D r (c ||| D.kG i) u else g.1 && okP D r c (i :: u)
def bD : List Nat → Nat
 | []=>0
 | i :: r=>2 ^ i ||| bD r
def oJ : List (List Nat) → Prop
 | []=>True
 | g :: r=>(∀ i ∈ g,∀ h ∈ r,i ∉ h) ∧ oJ r
theorem rm {D : Dat} {g : Bool × List Nat} {r : List (Bool × List Nat)} {c : Nat} {t : List Nat} (h : ∀ i ∈ t,i ∉ g.2) : okP D (g :: r) c t = (g.1 && okP D r c t):=by
 cases t with
 | nil=>rfl
 | cons i u =>
  rw [okP,if_neg (h i (by simp))]
theorem kX {α β : Type} {f g : α → List β} : ∀ {l : List α},(∀ a ∈ l,f a = g a) → l.flatMap f = l.flatMap g
 | [],_=>rfl
 | a :: r,h=>by
  rw [List.flatMap_cons,List.flatMap_cons,h a (by simp),kX fun b hb=>h b (by simp [hb])]
theorem nY {α β : Type} {f g : α → List β} : ∀ {l : List α},(∀ a ∈ l,(f a).Perm (g a)) → (l.flatMap f).Perm (l.flatMap g)
 | [],_=>.refl _
 | a :: r,h=>by
  rw [List.flatMap_cons,List.flatMap_cons]
  exact (h a (by simp)).append (nY fun b hb=>h b (by simp [hb]))
theorem eX {α β : Type} {f : α → List β} {p : β → Bool} : ∀ {l : List α},(l.flatMap f).filter p = l.flatMap fun a=>(f a).filter p
 | []=>rfl
 | a :: r=>by rw [List.flatMap_cons,List.flatMap_cons,List.filter_append,eX]
theorem gS {α β : Type} {f : α → List β} {p : α → Bool} : ∀ {l : List α},(l.filter p).flatMap f = l.flatMap fun a=>if p a = true then f a else []
 | []=>rfl
 | a :: r=>by
  rw [List.flatMap_cons,List.filter_cons]
  split
  ·rw [List.flatMap_cons,gS]
  ·rw [gS,List.nil_append]
theorem jY {α β γ : Type} {f : α → List β} {g : β → γ} : ∀ {l : List α},(l.flatMap f).map g = l.flatMap fun a=>(f a).map g
 | []=>rfl
 | a :: r=>by rw [List.flatMap_cons,List.flatMap_cons,List.map_append,jY]
theorem td (D : Dat) : ∀ {gs : List (Bool × List Nat)} (s c : Nat),oJ (gs.map (·.2)) → (l8 D gs s c).Perm ((((cr (gs.map (·.2))).filter (okP D gs c)).map fun t=>s ||| bD t).filter D.hl)
 | [],s,c,_=>by
  simp only [l8,cr,List.map_nil,okP,List.filter_cons,List.filter_nil,if_true,List.map_cons,bD,Nat.or_zero]
  split <;> exact .refl _
 | g :: r,s,c,ha=>by
  rw [List.map_cons] at ha
  have ih:=fun s c=>td D (gs:=r) s c ha.2
  have hout : ∀ t ∈ cr (r.map (·.2)),∀ i ∈ t,i ∉ g.2:=fun t ht i hi hg=>by
   obtain ⟨h,hh,hi2⟩:=dW ht i hi
   exact ha.1 i hg h hh hi2
  rw [l8,List.map_cons,cr,List.filter_append,List.map_append,List.filter_append]
  refine List.Perm.trans (List.Perm.append ?_ ?_) List.perm_append_comm
  ·have e : (cr (r.map (·.2))).filter (okP D (g :: r) c) = if g.1 = true then (cr (r.map (·.2))).filter (okP D r c) else []:=by
    split
    ·rename_i hg
     exact List.filter_congr fun t ht=>by rw [rm (hout t ht),hg,Bool.true_and]
    ·rename_i hg
     exact List.filter_eq_nil_iff.2 fun t ht=>by rw [rm (hout t ht)]; simp [hg]
   rw [e]
   split
   ·exact ih s c
   ·exact .refl _
  ·rw [gS,eX,jY,eX]
   refine nY fun i hi=>?_
   have e : ((cr (r.map (·.2))).map (i :: ·)).filter (okP D (g :: r) c) = if (D.may i && !c.testBit i) = true then ((cr (r.map (·.2))).filter (okP D r (c ||| D.kG i))).map (i :: ·) else []:=by
    rw [List.filter_map]
    split
    ·rename_i hm
     congr 1
     refine List.filter_congr fun t _=>?_
     show okP D (g :: r) c (i :: t) = _
     rw [okP,if_pos hi,hm,Bool.true_and]
    ·rename_i hm
     rw [List.filter_eq_nil_iff.2 fun t _=>?_]
     ·rfl
     ·show ¬ okP D (g :: r) c (i :: t) = true
      rw [okP,if_pos hi]
      simp only [Bool.not_eq_true] at hm
      rw [hm,Bool.false_and]
      decide
   rw [e]
   split
   ·rw [List.map_map]
    refine (ih (s ||| 2 ^ i) (c ||| D.kG i)).trans (List.Perm.of_eq ?_)
    congr 1
    refine List.map_congr_left fun t _=>?_
    show s ||| 2 ^ i ||| bD t = s ||| bD (i :: t)
    rw [bD,Nat.or_assoc]
   ·exact .refl _
theorem uw (D : Dat) : ∀ {gs : List (Bool × List Nat)} {c : Nat} {t : List Nat},oJ (gs.map (·.2)) → t ∈ cr (gs.map (·.2)) → (okP D gs c t = true ↔ (∀ i ∈ t,D.may i = true ∧ c.testBit i = false) ∧ (t.Pairwise fun i j=>(D.kG i).testBit j = false) ∧ ∀ g ∈ gs,(∀ i ∈ t,i ∉ g.2) → g.1 = true)
 | [],c,t,_,ht=>by
  simp only [cr,List.map_nil,List.mem_singleton] at ht
  subst ht
  simp [okP]
 | g :: r,c,t,ha,ht=>by
  rw [List.map_cons] at ha ht
  rcases pq.1 ht with ⟨i,hi,u,hu,rfl⟩ | ht
  ·rw [okP,if_pos hi,Bool.and_eq_true,Bool.and_eq_true,Bool.not_eq_true',uw D ha.2 hu]
   simp only [Nat.testBit_or,Bool.or_eq_false_iff,List.pairwise_cons]
   have hir : ∀ h ∈ r,i ∉ h.2:=fun h hh=>ha.1 i hi _ (List.mem_map_of_mem hh)
   constructor
   ·rintro ⟨⟨h1,h2⟩,h3,h4,h5⟩
    refine ⟨fun j hj=>?_,⟨fun j hj=>(h3 j hj).2.2,h4⟩,fun h hh hn=>?_⟩
    ·rcases List.mem_cons.1 hj with rfl | hj
     ·exact ⟨h1,h2⟩
     ·exact ⟨(h3 j hj).1,(h3 j hj).2.1⟩
    ·rcases List.mem_cons.1 hh with rfl | hh
     ·exact absurd hi (hn i (by simp))
     ·exact h5 h hh fun j hj=>hn j (by simp [hj])
   ·rintro ⟨h1,⟨h2,h3⟩,h4⟩
    refine ⟨h1 i (by simp),fun j hj=>⟨(h1 j (by simp [hj])).1,(h1 j (by simp [hj])).2,h2 j hj⟩,h3,fun h hh hn=>h4 h (by simp [hh]) fun j hj=>?_⟩
    rcases List.mem_cons.1 hj with rfl | hj
    ·exact hir h hh
    ·exact hn j hj
  ·have hout : ∀ i ∈ t,i ∉ g.2:=fun i hi hg=>by
    obtain ⟨h,hh,hi2⟩:=dW ht i hi
    exact ha.1 i hg h hh hi2
   rw [rm hout,Bool.and_eq_true,uw D ha.2 ht]
   constructor
   ·rintro ⟨h0,h1,h2,h3⟩
    refine ⟨h1,h2,fun h hh hn=>?_⟩
    rcases List.mem_cons.1 hh with rfl | hh
    ·exact h0
    ·exact h3 h hh hn
   ·rintro ⟨h1,h2,h3⟩
    exact ⟨h3 g (by simp) hout,h1,h2,fun h hh=>h3 h (by simp [hh])⟩
theorem cq : ∀ (t : List Nat) (i : Nat),(bD t).testBit i = decide (i ∈ t)
 | [],i=>by simp [bD]
 | j :: r,i=>by
  rw [bD,Nat.testBit_or,cq r i,Nat.testBit_two_pow]
  by_cases h : j = i
  ·simp [h]
  ·simp [h,Ne.symm h]
def aO (k n : Nat) : List Nat:=(List.range k).filter n.testBit
end Go.Av
end
section
namespace Go.Av
open Go.Proofs.Tryz
def placesOf (all : List Pkg) (n : List UInt8) : List Nat:=(List.range all.length).filter fun k=>match all[k]? with
 | some q=>q.name == n
 | none=>false
def oo (all : List Pkg) : Prop:=∀ (i j k : Nat) (p q r : Pkg),all[i]? = some p → all[j]? = some q → all[k]? = some r → i ≤ j → j ≤ k → p.name = r.name → q.name = p.name
def cP (all : List Pkg) : Nat → Nat → List (List Nat)
 | 0,_=>[]
 | f + 1,i=>if i = all.length then [] else List.range' i (aE all i - i) :: cP all f (aE all i)
theorem aY {all : List Pkg} {n : List UInt8} {k : Nat} : k ∈ placesOf all n ↔ ∃ q,all[k]? = some q ∧ q.name = n:=by
 unfold placesOf
 rw [List.mem_filter,List.mem_range]
 constructor
 ·rintro ⟨h1,h2⟩
  obtain ⟨q,hq⟩:=get_some h1
  rw [hq] at h2
  exact ⟨q,hq,by simpa using h2⟩
 ·rintro ⟨q,hq,h⟩
  exact ⟨(List.getElem?_eq_some_iff.1 hq).1,by rw [hq]; simpa using h⟩
theorem kc {all : List Pkg} {i : Nat} {p : Pkg} (hp : all[i]? = some p) {k : Nat} (h1 : i ≤ k) (h2 : k < aE all i) : ∃ q,all[k]? = some q ∧ q.name = p.name:=by
 have hr : aE all i = i + ((all.drop i).takeWhile fun q=>q.name == p.name).length:=by simp [aE,hp]
 have hlt : k - i < ((all.drop i).takeWhile fun q=>q.name == p.name).length:=by omega
 have hg:=List.getElem?_eq_getElem hlt
 have h0:=List.takeWhile_append_dropWhile (p:=fun q : Pkg=>q.name == p.name) (l:=all.drop i)
 refine ⟨_,?_,by simpa using Fb (List.getElem_mem hlt)⟩
 have:=List.getElem?_append_left (l₂:=(all.drop i).dropWhile fun q=>q.name == p.name) hlt
 rw [h0,List.getElem?_drop,show i + (k - i) = k by omega,hg] at this
 exact this
theorem run_places {all : List Pkg} (hc : oo all) {i : Nat} {p : Pkg} (hp : all[i]? = some p) (hf : ∀ j q,j < i → all[j]? = some q → q.name ≠ p.name) : List.range' i (aE all i - i) = placesOf all p.name:=by
 obtain ⟨b1,b2⟩:=eA hp
 have e : List.range all.length = List.range' 0 i ++ (List.range' i (aE all i - i) ++ List.range' (aE all i) (all.length - aE all i)):=by
  have e1:=List.range'_append (s:=0) (m:=i) (n:=all.length - i) (step:=1)
  have e2:=List.range'_append (s:=i) (m:=aE all i - i) (n:=all.length - aE all i) (step:=1)
  simp only [Nat.one_mul,Nat.zero_add] at e1 e2
  rw [show i + (aE all i - i) = aE all i by omega] at e2
  rw [e2,show aE all i - i + (all.length - aE all i) = all.length - i by omega,e1,show i + (all.length - i) = all.length by omega,List.range_eq_range']
 unfold placesOf
 rw [e,List.filter_append,List.filter_append]
 have h1 : (List.range' 0 i).filter (fun k=>match all[k]? with | some q=>q.name == p.name | none=>false) = []:=by
  rw [List.filter_eq_nil_iff]
  intro k hk
  simp only [List.mem_range'_1] at hk
  cases hq : all[k]? with
  | none=>simp
  | some q=>simpa using hf k q (by omega) hq
 have h3 : (List.range' (aE all i) (all.length - aE all i)).filter (fun k=>match all[k]? with | some q=>q.name == p.name | none=>false) = []:=by
  rw [List.filter_eq_nil_iff]
  intro k hk
  simp only [List.mem_range'_1] at hk
  cases hq : all[k]? with
  | none=>simp
  | some q =>
   simp only [beq_iff_eq]
   intro hn
   have hlt : aE all i < all.length:=by omega
   obtain ⟨r,hr⟩:=get_some hlt
   have hrn:=hc i (aE all i) k p r q hp hr hq (by omega) (by omega) hn.symm
   have:=(k9 hp (Nat.le_refl _)).1 r (by rw [show i + (aE all i - i) = aE all i by omega]; exact hr) hrn
   omega
 have h2 : (List.range' i (aE all i - i)).filter (fun k=>match all[k]? with | some q=>q.name == p.name | none=>false) = List.range' i (aE all i - i):=by
  rw [List.filter_eq_self]
  intro k hk
  simp only [List.mem_range'_1] at hk
  obtain ⟨q,hq,hn⟩:=kc hp hk.1 (by omega)
  rw [hq]
  simpa using hn
 rw [h1,h2,h3,List.nil_append,List.append_nil]
theorem eV {all : List Pkg} : ∀ {f i : Nat} {t : List Nat},i ≤ all.length → ik all f i t = ((cr (cP all f i)).map (t ++ ·)).filter fun u=>iR (atL all u)
 | 0,i,t,hi=>by
  simp only [ik,cP,cr,List.map_cons,List.map_nil,List.append_nil,List.filter_cons,List.filter_nil]
 | f + 1,i,t,hi=>by
  rw [ik,cP]
  by_cases h : i = all.length
  ·rw [if_pos h,if_pos h]
   simp only [cr,List.map_cons,List.map_nil,List.append_nil,List.filter_cons,List.filter_nil]
  ·rw [if_neg h,if_neg h]
   obtain ⟨p,hp⟩:=get_some (show i < all.length by omega)
   obtain ⟨b1,b2⟩:=eA hp
   rw [cr,List.map_append,List.filter_append,jY,eX,eV b2]
   congr 1
   refine kX fun k _=>?_
   rw [eV b2,List.map_map]
   congr 1
   refine List.map_congr_left fun u _=>?_
   show t ++ [k] ++ u = t ++ (k :: u)
   simp
theorem jm {all : List Pkg} (hc : oo all) : ∀ {f i : Nat},all.length ≤ f + i → i ≤ all.length → (∀ j p q,j < i → all[j]? = some q → all[i]? = some p → q.name ≠ p.name) →
  (∀ g ∈ cP all f i,∃ p,g = placesOf all p.name ∧ p ∈ all ∧ ∀ k ∈ g,i ≤ k) ∧ (∀ k,i ≤ k → k < all.length → ∃ g ∈ cP all f i,k ∈ g) ∧ oJ (cP all f i)
 | 0,i,hf,hi,h0=>by
  refine ⟨fun g hg=>(by cases hg),fun k h1 h2=>by omega,trivial⟩
 | f + 1,i,hf,hi,h0=>by
  rw [cP]
  by_cases h : i = all.length
  ·rw [if_pos h]
   exact ⟨fun g hg=>(by cases hg),fun k h1 h2=>by omega,trivial⟩
  ·rw [if_neg h]
   obtain ⟨p,hp⟩:=get_some (show i < all.length by omega)
   obtain ⟨b1,b2⟩:=eA hp
   have hpl:=run_places hc hp fun j q hj hq=>h0 j p q hj hq hp
   have hnext : ∀ j p' q,j < aE all i → all[j]? = some q → all[aE all i]? = some p' → q.name ≠ p'.name:=fun j p' q hj hq hp' hn=>by
    by_cases hji : j < i
    ·have:=hc j i (aE all i) q p p' hq hp hp' (by omega) (by omega) hn
     exact h0 j p q hji hq hp this.symm
    ·obtain ⟨q',hq',hn'⟩:=kc hp (by omega : i ≤ j) hj
     rw [hq] at hq'
     cases hq'
     have:=(k9 hp (Nat.le_refl _)).1 p' (by rw [show i + (aE all i - i) = aE all i by omega]; exact hp') (hn.symm.trans hn')
     omega
   obtain ⟨g1,g2,g3⟩:=jm hc (f:=f) (i:=aE all i) (by omega) b2 hnext
   refine ⟨fun g hg=>?_,fun k h1 h2=>?_,fun k hk g hg hkg=>?_,g3⟩
   ·rcases List.mem_cons.1 hg with rfl | hg
    ·exact ⟨p,hpl,List.mem_of_getElem? hp,fun k hk=>by simp only [List.mem_range'_1] at hk; exact hk.1⟩
    ·obtain ⟨q,h1,h2,h3⟩:=g1 g hg
     exact ⟨q,h1,h2,fun k hk=>by have:=h3 k hk; omega⟩
   ·by_cases hk : k < aE all i
    ·exact ⟨List.range' i (aE all i - i),by simp,by simp only [List.mem_range'_1]; omega⟩
    ·obtain ⟨g,hg,hkg⟩:=g2 k (by omega) h2
     exact ⟨g,by simp [hg],hkg⟩
   ·simp only [List.mem_range'_1] at hk
    obtain ⟨_,_,_,h3⟩:=g1 g hg
    have:=h3 k hkg
    omega
end Go.Av
end
section
namespace Go.Av
open Go.Proofs.Tryz
def bitsOf (n : Nat) (f : Nat → Bool) : Nat:=bD ((List.range n).filter f)
theorem fq (n : Nat) (f : Nat → Bool) (i : Nat) : (bitsOf n f).testBit i = (decide (i < n) && f i):=by
 unfold bitsOf
 rw [cq,Bool.eq_iff_iff]
 simp [List.mem_filter,List.mem_range]
def rT (all : List Pkg) (c : Clause) (k : Nat) : Bool:=match all[k]? with
 | some q=>c.any (dY q)
 | none=>false
def eI (all : List Pkg) (c : Clause) : Nat:=bitsOf all.length (rT all c)
def gm (all : List Pkg) (i k : Nat) : Bool:=match all[i]?,all[k]? with
 | some p,some q=>fb p q
 | _,_=>false
def fF (all : List Pkg) (i : Nat) : Nat:=bitsOf all.length (gm all i)
def mv (all : List Pkg) (i : Nat) : List Nat:=match all[i]? with
 | some p=>(p.pre ++ p.dep).map (eI all)
 | none=>[]
def eo (all : List Pkg) (s : Nat) : Bool:=(aO all.length s).all fun i=>(mv all i).all fun n=>n &&& s != 0
def xm (all : List Pkg) (s : List aK) (l : List aM) (i : Nat) : Bool:=match all[i]? with
 | some p=>uW l s p
 | none=>false
def dI (all : List Pkg) (s : List aK) (l : List aM) : Dat:=⟨xm all s l,fF all,eo all⟩
def kl (all : List Pkg) : Nat → Nat → List (List UInt8)
 | 0,_=>[]
 | f + 1,i=>match all[i]? with
  | some p=>p.name :: kl all f (aE all i)
  | none=>[]
def aG (all : List Pkg) (s : List aK) (l : List aM) : List (Bool × List Nat):=(kl all (all.length + 1) 0).map fun n=>(ll l s n,placesOf all n)
theorem kr {all : List Pkg} (hc : oo all) : ∀ {f i : Nat},i ≤ all.length → (∀ j p q,j < i → all[j]? = some q → all[i]? = some p → q.name ≠ p.name) → cP all f i = (kl all f i).map (placesOf all)
 | 0,i,hi,h0=>rfl
 | f + 1,i,hi,h0=>by
  rw [cP,kl]
  by_cases h : i = all.length
  ·rw [if_pos h,List.getElem?_eq_none (by omega)]
   rfl
  ·rw [if_neg h]
   obtain ⟨p,hp⟩:=get_some (show i < all.length by omega)
   obtain ⟨b1,b2⟩:=eA hp
   rw [hp,run_places hc hp fun j q hj hq=>h0 j p q hj hq hp,List.map_cons,kr hc b2 fun j p' q hj hq hp' hn=>?_]
   by_cases hji : j < i
   ·have:=hc j i (aE all i) q p p' hq hp hp' (by omega) (by omega) hn
    exact h0 j p q hji hq hp this.symm
   ·obtain ⟨q',hq',hn'⟩:=kc hp (by omega : i ≤ j) hj
    rw [hq] at hq'
    cases hq'
    have:=(k9 hp (Nat.le_refl _)).1 p' (by rw [show i + (aE all i - i) = aE all i by omega]; exact hp') (hn.symm.trans hn')
    omega
theorem jJ {R : Nat → Nat → Prop} : ∀ {gs : List (List Nat)},gs.Pairwise (fun g h=>∀ i ∈ g,∀ j ∈ h,R i j) → ∀ {t : List Nat},t ∈ cr gs → t.Pairwise R
 | [],_,t,h=>by
  simp only [cr,List.mem_singleton] at h
  rw [h]
  exact .nil
 | g :: r,hp,t,h=>by
  obtain ⟨h1,h2⟩:=List.pairwise_cons.1 hp
  rcases pq.1 h with ⟨i,hi,u,hu,rfl⟩ | h
  ·refine List.pairwise_cons.2 ⟨fun j hj=>?_,jJ h2 hu⟩
   obtain ⟨g',hg,hj⟩:=dW hu j hj
   exact h1 g' hg i hi j hj
  ·exact jJ h2 h
theorem oY : ∀ {gs : List (List Nat)},oJ gs → gs.Pairwise fun g h=>∀ i ∈ g,i ∉ h
 | [],_=>.nil
 | _ :: _,h=>List.pairwise_cons.2 ⟨fun g' hg i hi=>h.1 i hi g' hg,oY h.2⟩
theorem eJ {all : List Pkg} {t : List Nat} {p : Pkg} : p ∈ atL all t ↔ ∃ i ∈ t,all[i]? = some p:=by
 unfold atL
 rw [List.mem_filterMap]
theorem bG {k n i : Nat} : i ∈ aO k n ↔ i < k ∧ n.testBit i = true:=by
 unfold aO
 rw [List.mem_filter,List.mem_range]
theorem re {a b : Nat} : (a &&& b != 0) = true ↔ ∃ i,a.testBit i = true ∧ b.testBit i = true:=by
 rw [bne_iff_ne,ne_eq]
 constructor
 ·intro h
  refine Classical.byContradiction fun hn=>h (Nat.eq_of_testBit_eq fun i=>?_)
  rw [Nat.testBit_and,Nat.zero_testBit]
  cases ha : a.testBit i <;> cases hb : b.testBit i <;> first | rfl | exact absurd ⟨i,ha,hb⟩ hn
 ·rintro ⟨i,ha,hb⟩ h
  have:=congrArg (·.testBit i) h
  simp [Nat.testBit_and,ha,hb] at this
theorem EV {all : List Pkg} {s : List aK} {l : List aM} (hm : ∀ p ∈ all,bn p = 0) (hc : oo all) (hU : Uni all s l) (hnv : dZ all s l = false) {t : List Nat} (ht : t ∈ cr (cP all (all.length + 1) 0)) :
  (okP (dI all s l) (aG all s l) 0 t && eo all (bD t)) = (iR (atL all t) && jX l (atL all t) s):=by
 obtain ⟨r1,r2,r3⟩:=jm hc (f:=all.length + 1) (i:=0) (by omega) (by omega) (fun j p q hj=>by omega)
 have hrn:=kr hc (f:=all.length + 1) (i:=0) (by omega) (fun j p q hj=>by omega)
 have hg2 : (aG all s l).map (·.2) = cP all (all.length + 1) 0:=by
  unfold aG
  rw [List.map_map,hrn]
  rfl
 have hlt : ∀ i ∈ t,∃ p,all[i]? = some p:=fun i hi=>by
  obtain ⟨g,hg,hig⟩:=dW ht i hi
  obtain ⟨p,rfl,_⟩:=r1 g hg
  obtain ⟨q,hq,_⟩:=aY.1 hig
  exact ⟨q,hq⟩
 have hpw : t.Pairwise fun i j=>∀ p q,all[i]? = some p → all[j]? = some q → p.name ≠ q.name:=by
  refine jJ ((oY r3).imp_of_mem fun {g h} hg hh hd i hi j hj p q hp hq hn=>?_) ht
  obtain ⟨p1,rfl,_⟩:=r1 g hg
  obtain ⟨p2,rfl,_⟩:=r1 h hh
  obtain ⟨x,hx,hxn⟩:=aY.1 hi
  obtain ⟨y,hy,hyn⟩:=aY.1 hj
  rw [hp] at hx
  rw [hq] at hy
  cases hx
  cases hy
  exact hd i hi (aY.2 ⟨p,hp,by rw [hn,hyn]⟩)
 have hnd : ((atL all t).map (·.name)).Nodup:=by
  unfold atL
  rw [List.Nodup,List.pairwise_map,List.pairwise_filterMap]
  exact hpw.imp fun {i j} h p hp q hq=>h p q hp hq
 have hin : ∀ p ∈ atL all t,p ∈ all:=fun p hp=>by
  obtain ⟨i,_,h⟩:=eJ.1 hp
  exact List.mem_of_getElem? h
 rw [Bool.eq_iff_iff,Bool.and_eq_true,Bool.and_eq_true,uw _ (by rw [hg2]; exact r3) (by rw [hg2]; exact ht),xp,uU hU hin hnd]
 have hmay : (∀ i ∈ t,(dI all s l).may i = true ∧ (0 : Nat).testBit i = false) ↔ ∀ p ∈ atL all t,uW l s p = true:=by
  constructor
  ·intro h p hp
   obtain ⟨i,hi,hip⟩:=eJ.1 hp
   have:=(h i hi).1
   simpa [dI,xm,hip] using this
  ·intro h i hi
   obtain ⟨p,hp⟩:=hlt i hi
   refine ⟨?_,by simp⟩
   have:=h p (eJ.2 ⟨i,hi,hp⟩)
   simpa [dI,xm,hp] using this
 have hlack : (∀ g ∈ aG all s l,(∀ i ∈ t,i ∉ g.2) → g.1 = true) ↔ ∀ q ∈ all,dT (atL all t) q.name = none → ll l s q.name = true:=by
  have habs : ∀ n,(∀ i ∈ t,i ∉ placesOf all n) ↔ dT (atL all t) n = none:=fun n=>by
   constructor
   ·intro h
    unfold dT
    rw [List.find?_eq_none]
    intro p hp
    obtain ⟨i,hi,hip⟩:=eJ.1 hp
    have:=h i hi
    rw [aY] at this
    simp only [beq_iff_eq]
    exact fun e=>this ⟨p,hip,e⟩
   ·intro h i hi hm2
    obtain ⟨p,hp,hn⟩:=aY.1 hm2
    exact th (f:=Pkg.name) h p (eJ.2 ⟨i,hi,hp⟩) hn
  constructor
  ·intro h q hq hf
   obtain ⟨k,hk⟩:=List.mem_iff_getElem?.1 hq
   obtain ⟨g,hg,hkg⟩:=r2 k (by omega) (List.getElem?_eq_some_iff.1 hk).1
   rw [hrn] at hg
   obtain ⟨n,hn,rfl⟩:=List.mem_map.1 hg
   obtain ⟨q',hq',hqn⟩:=aY.1 hkg
   rw [hk] at hq'
   cases hq'
   have:=h (ll l s n,placesOf all n) (List.mem_map.2 ⟨n,hn,rfl⟩) ((habs n).2 (by rw [← hqn]; exact hf))
   rw [hqn]
   exact this
  ·intro h g hg hno
   obtain ⟨n,hn,rfl⟩:=List.mem_map.1 hg
   have hgr : placesOf all n ∈ cP all (all.length + 1) 0:=by rw [hrn]; exact List.mem_map_of_mem hn
   have hne : ∃ q ∈ all,q.name = n:=by
    have : ∀ {f i : Nat},n ∈ kl all f i → ∃ q ∈ all,q.name = n:=fun {f}=>by
     induction f with
     | zero=>intro i h; cases h
     | succ f ih =>
      intro i h
      rw [kl] at h
      cases hp : all[i]? with
      | none=>rw [hp] at h; cases h
      | some p =>
       rw [hp] at h
       rcases List.mem_cons.1 h with rfl | h
       ·exact ⟨p,List.mem_of_getElem? hp,rfl⟩
       ·exact ih h
    exact this hn
   obtain ⟨q,hq,rfl⟩:=hne
   exact h q hq ((habs _).1 hno)
 have hclash : (t.Pairwise fun i j=>((dI all s l).kG i).testBit j = false) ↔ (atL all t).Pairwise fun p q=>fb p q = false:=by
  unfold atL
  rw [List.pairwise_filterMap]
  constructor
  ·intro h
   refine h.imp_of_mem fun {i j} hi hj h p hp q hq=>?_
   have hb : ((fF all i).testBit j) = false:=h
   unfold fF at hb
   rw [fq] at hb
   have hjl:=(List.getElem?_eq_some_iff.1 hq).1
   rw [decide_eq_true hjl,Bool.true_and] at hb
   unfold gm at hb
   rw [hp,hq] at hb
   exact hb
  ·intro h
   refine h.imp_of_mem fun {i j} hi hj h=>?_
   show (fF all i).testBit j = false
   unfold fF
   rw [fq]
   obtain ⟨p,hp⟩:=hlt i hi
   obtain ⟨q,hq⟩:=hlt j hj
   simp [gm,hp,hq,h p hp q hq]
 have hmet : eo all (bD t) = true ↔ ∀ p ∈ atL all t,∀ c ∈ p.pre ++ p.dep,∃ q ∈ atL all t,c.any (dY q) = true:=by
  unfold eo
  rw [List.all_eq_true]
  constructor
  ·intro h p hp c hcm
   obtain ⟨i,hi,hip⟩:=eJ.1 hp
   have h1:=h i (bG.2 ⟨(List.getElem?_eq_some_iff.1 hip).1,by rw [cq]; simpa using hi⟩)
   unfold mv at h1
   rw [hip] at h1
   have h2:=List.all_eq_true.1 h1 (eI all c) (List.mem_map_of_mem hcm)
   obtain ⟨j,hj1,hj2⟩:=re.1 h2
   unfold eI at hj1
   rw [fq,Bool.and_eq_true] at hj1
   rw [cq,decide_eq_true_eq] at hj2
   obtain ⟨q,hq⟩:=hlt j hj2
   exact ⟨q,eJ.2 ⟨j,hj2,hq⟩,by simpa [rT,hq] using hj1.2⟩
  ·intro h i hi
   obtain ⟨hil,hib⟩:=bG.1 hi
   rw [cq,decide_eq_true_eq] at hib
   obtain ⟨p,hp⟩:=hlt i hib
   unfold mv
   rw [hp,List.all_eq_true]
   intro n hn
   obtain ⟨c,hcm,rfl⟩:=List.mem_map.1 hn
   obtain ⟨q,hq,hsat⟩:=h p (eJ.2 ⟨i,hib,hp⟩) c hcm
   obtain ⟨j,hj,hjq⟩:=eJ.1 hq
   refine re.2 ⟨j,?_,by rw [cq]; simpa using hj⟩
   unfold eI
   rw [fq]
   rw [decide_eq_true (List.getElem?_eq_some_iff.1 hjq).1,Bool.true_and]
   unfold rT
   rw [hjq]
   exact hsat
 rw [hmay,hlack,hclash,hmet]
 constructor
 ·rintro ⟨⟨h1,h2,h3⟩,h4⟩
  refine ⟨⟨fun p hp=>hm p (hin p hp),?_,h4⟩,hnv,h1,h3⟩
  have h5 : (atL all t).Pairwise fun p q=>p.name ≠ q.name:=by
   have:=hnd
   rw [List.Nodup,List.pairwise_map] at this
   exact this
  exact h5.and h2
 ·rintro ⟨⟨h1,h2,h3⟩,h4,h5,h6⟩
  exact ⟨⟨h5,h2.imp fun {a b} h=>h.2,h6⟩,h3⟩
theorem ye {all : List Pkg} {s : List aK} {l : List aM} (hm : ∀ p ∈ all,bn p = 0) (hc : oo all) (hU : Uni all s l) (hnv : dZ all s l = false) :
  (l8 (dI all s l) (aG all s l) 0 0).Perm (((ik all (all.length + 1) 0 []).filter fun t=>jX l (atL all t) s).map bD):=by
 obtain ⟨_,_,r3⟩:=jm hc (f:=all.length + 1) (i:=0) (by omega) (by omega) (fun j p q hj=>by omega)
 have hrn:=kr hc (f:=all.length + 1) (i:=0) (by omega) (fun j p q hj=>by omega)
 have hg2 : (aG all s l).map (·.2) = cP all (all.length + 1) 0:=by
  unfold aG
  rw [List.map_map,hrn]
  rfl
 refine (td _ 0 0 (by rw [hg2]; exact r3)).trans (List.Perm.of_eq ?_)
 rw [hg2,eV (by omega),List.filter_map,List.filter_filter]
 have e1 : (fun t=>0 ||| bD t) = bD:=by
  funext t
  simp
 rw [e1]
 have e2 : (cr (cP all (all.length + 1) 0)).map (([] : List Nat) ++ ·) = cr (cP all (all.length + 1) 0):=by
  simp
 rw [e2,List.filter_filter]
 congr 1
 refine List.filter_congr fun t ht=>?_
 have h:=EV hm hc hU hnv ht
 show (eo all (bD t) && okP _ _ _ t) = (jX _ _ _ && iR _)
 rw [Bool.and_comm,h,Bool.and_comm]
end Go.Av
end
section
namespace Go.Av
open Go.Proofs.Tryz
def cA (all : List Pkg) (p : Pkg) : Nat:=(all.filter fun q=>q.name == p.name && decide (0 < bJ q.ver p.ver)).length
def Ea (t : List Pkg) : Nat:=(t.map fun p=>(p.rcm.filter fun c=>!zG c t).length).sum
def wE (up : Bool) (r c m n l : Nat) : List Nat:=if up = true then [l,r,m,n,c] else [r,c,m,n,l]
def Ar (t : List Pkg) (x : aK) : Bool:=match dT t x.pkg.name with
 | some p=>!bt p.ver x.pkg.ver
 | none=>false
def sX (all : List Pkg) (s : List aK) (t : List Pkg) (up : Bool) : List Nat :=
 wE up (s.filter fun x=>(dT t x.pkg.name).isNone).length (s.filter (Ar t)).length (Ea t) (t.filter fun p=>(eF s p.name).isNone).length ((t.map (cA all)).sum)
def orN : List Nat → Nat
 | []=>0
 | a :: r=>a ||| orN r
theorem Ay : ∀ (l : List Nat) (i : Nat),(orN l).testBit i = l.any fun a=>a.testBit i
 | [],i=>by simp [orN]
 | a :: r,i=>by rw [orN,Nat.testBit_or,Ay r i,List.any_cons]
def ga (all : List Pkg) (x : aK) : Nat:=bD (placesOf all x.pkg.name)
def gD (all : List Pkg) (s : List aK) (i : Nat) : Bool:=match all[i]? with
 | some p=>(match eF s p.name with
  | some x=>!bt x.pkg.ver p.ver
  | none=>false)
 | none=>false
def sf (all : List Pkg) (i : Nat) : List Nat:=match all[i]? with
 | some p=>p.rcm.map (eI all)
 | none=>[]
def da (all : List Pkg) (i : Nat) : Nat:=match all[i]? with
 | some p=>cA all p
 | none=>0
def iN (all : List Pkg) (s : List aK) (S : Nat) (up : Bool) : List Nat :=
 wE up (s.filter fun x=>ga all x &&& S == 0).length ((aO all.length S).filter (gD all s)).length
  ((aO all.length S).map fun i=>((sf all i).filter fun w=>w &&& S == 0).length).sum
  ((aO all.length S).filter fun i=>!(orN (s.map (ga all))).testBit i).length ((aO all.length S).map (da all)).sum
theorem qu {all : List Pkg} (hc : oo all) : ∀ {f i : Nat},all.length ≤ f + i → i ≤ all.length → (∀ j p q,j < i → all[j]? = some q → all[i]? = some p → q.name ≠ p.name) → (cP all f i).Pairwise (fun g h=>∀ i ∈ g,∀ j ∈ h,i < j) ∧ ∀ g ∈ cP all f i,g.Pairwise (· < ·)
 | 0,i,hf,hi,h0=>⟨.nil,fun g hg=>by cases hg⟩
 | f + 1,i,hf,hi,h0=>by
  rw [cP]
  by_cases h : i = all.length
  ·rw [if_pos h]
   exact ⟨.nil,fun g hg=>by cases hg⟩
  ·rw [if_neg h]
   obtain ⟨p,hp⟩:=get_some (show i < all.length by omega)
   obtain ⟨b1,b2⟩:=eA hp
   have hnext : ∀ j p' q,j < aE all i → all[j]? = some q → all[aE all i]? = some p' → q.name ≠ p'.name:=fun j p' q hj hq hp' hn=>by
    by_cases hji : j < i
    ·have:=hc j i (aE all i) q p p' hq hp hp' (by omega) (by omega) hn
     exact h0 j p q hji hq hp this.symm
    ·obtain ⟨q',hq',hn'⟩:=kc hp (by omega : i ≤ j) hj
     rw [hq] at hq'
     cases hq'
     have:=(k9 hp (Nat.le_refl _)).1 p' (by rw [show i + (aE all i - i) = aE all i by omega]; exact hp') (hn.symm.trans hn')
     omega
   obtain ⟨k1,k2⟩:=qu hc (f:=f) (i:=aE all i) (by omega) b2 hnext
   obtain ⟨g1,_,_⟩:=jm hc (f:=f) (i:=aE all i) (by omega) b2 hnext
   refine ⟨List.pairwise_cons.2 ⟨fun g hg a ha b hb=>?_,k1⟩,fun g hg=>?_⟩
   ·simp only [List.mem_range'_1] at ha
    obtain ⟨_,_,_,h3⟩:=g1 g hg
    have:=h3 b hb
    omega
   ·rcases List.mem_cons.1 hg with rfl | hg
    ·exact List.pairwise_lt_range'
    ·exact k2 g hg
theorem uK {all : List Pkg} (hc : oo all) {t : List Nat} (ht : t ∈ cr (cP all (all.length + 1) 0)) : aO all.length (bD t) = t:=by
 obtain ⟨r1,r2,r3⟩:=jm hc (f:=all.length + 1) (i:=0) (by omega) (by omega) (fun j p q hj=>by omega)
 obtain ⟨k1,k2⟩:=qu hc (f:=all.length + 1) (i:=0) (by omega) (by omega) (fun j p q hj=>by omega)
 have hs : t.Pairwise (· < ·):=jJ k1 ht
 have h2 : (aO all.length (bD t)).Pairwise (· < ·):=List.Pairwise.sublist List.filter_sublist List.pairwise_lt_range
 refine List.Perm.eq_of_pairwise (le:=(· < ·)) (fun a b _ _ h1 h2=>by omega) h2 hs ?_
 rw [List.perm_ext_iff_of_nodup (h2.imp fun {a b} h=>by omega) (hs.imp fun {a b} h=>by omega)]
 intro i
 rw [bG,cq,decide_eq_true_eq]
 constructor
 ·exact fun h=>h.2
 ·intro hi
  obtain ⟨g,hg,hig⟩:=dW ht i hi
  obtain ⟨p,rfl,_⟩:=r1 g hg
  obtain ⟨q,hq,_⟩:=aY.1 hig
  exact ⟨(List.getElem?_eq_some_iff.1 hq).1,hi⟩
theorem uZ {all : List Pkg} (f : Pkg → Nat) (g : Nat → Nat) (hg : ∀ i,g i = match all[i]? with | some p=>f p | none=>0) : ∀ t : List Nat,(t.map g).sum = ((atL all t).map f).sum
 | []=>rfl
 | i :: r=>by
  have ih:=uZ f g hg r
  have h1:=hg i
  cases hp : all[i]? with
  | none =>
   rw [hp] at h1
   have e : atL all (i :: r) = atL all r:=by simp [atL,hp]
   rw [List.map_cons,List.sum_cons,h1,ih,e,Nat.zero_add]
  | some p =>
   rw [hp] at h1
   have e : atL all (i :: r) = p :: atL all r:=by simp [atL,hp]
   rw [List.map_cons,List.sum_cons,h1,ih,e,List.map_cons,List.sum_cons]
theorem rJ {all : List Pkg} (f : Pkg → Bool) (g : Nat → Bool) {t : List Nat} (hg : ∀ i ∈ t,∃ p,all[i]? = some p ∧ g i = f p) : (t.filter g).length = ((atL all t).filter f).length:=by
 induction t with
 | nil=>rfl
 | cons i r ih =>
  obtain ⟨p,hp,h1⟩:=hg i (by simp)
  have e : atL all (i :: r) = p :: atL all r:=by simp [atL,hp]
  have ih:=ih fun j hj=>hg j (by simp [hj])
  rw [e,List.filter_cons,List.filter_cons,h1]
  split
  ·rw [List.length_cons,List.length_cons,ih]
  ·exact ih
theorem and_zero {a b : Nat} : (a &&& b == 0) = !(a &&& b != 0):=by
 simp [bne]
theorem GL {all : List Pkg} {s : List aK} {l : List aM} (hc : oo all) (hU : Uni all s l) {t : List Nat} (ht : t ∈ cr (cP all (all.length + 1) 0)) (up : Bool) : iN all s (bD t) up = sX all s (atL all t) up:=by
 obtain ⟨r1,r2,r3⟩:=jm hc (f:=all.length + 1) (i:=0) (by omega) (by omega) (fun j p q hj=>by omega)
 have hlt : ∀ i ∈ t,∃ p,all[i]? = some p:=fun i hi=>by
  obtain ⟨g,hg,hig⟩:=dW ht i hi
  obtain ⟨p,rfl,_⟩:=r1 g hg
  obtain ⟨q,hq,_⟩:=aY.1 hig
  exact ⟨q,hq⟩
 have hpw : t.Pairwise fun i j=>∀ p q,all[i]? = some p → all[j]? = some q → p.name ≠ q.name:=by
  refine jJ ((oY r3).imp_of_mem fun {g h} hg hh hd i hi j hj p q hp hq hn=>?_) ht
  obtain ⟨p1,rfl,_⟩:=r1 g hg
  obtain ⟨p2,rfl,_⟩:=r1 h hh
  obtain ⟨x,hx,hxn⟩:=aY.1 hi
  obtain ⟨y,hy,hyn⟩:=aY.1 hj
  rw [hp] at hx
  rw [hq] at hy
  cases hx
  cases hy
  exact hd i hi (aY.2 ⟨p,hp,by rw [hn,hyn]⟩)
 have hnd : ((atL all t).map (·.name)).Nodup:=by
  unfold atL
  rw [List.Nodup,List.pairwise_map,List.pairwise_filterMap]
  exact hpw.imp fun {i j} h p hp q hq=>h p q hp hq
 unfold iN sX
 rw [uK hc ht]
 have hthere : ∀ x : aK,(ga all x &&& bD t == 0) = (dT (atL all t) x.pkg.name).isNone:=fun x=>by
  rw [and_zero,Bool.eq_iff_iff,Bool.not_eq_true',← Bool.not_eq_true,re,Option.isNone_iff_eq_none]
  unfold ga
  constructor
  ·intro h
   unfold dT
   rw [List.find?_eq_none]
   intro p hp
   obtain ⟨i,hi,hip⟩:=eJ.1 hp
   simp only [beq_iff_eq]
   exact fun e=>h ⟨i,by rw [cq,decide_eq_true_eq,aY]; exact ⟨p,hip,e⟩,by rw [cq]; simpa using hi⟩
  ·rintro h ⟨i,h1,h2⟩
   rw [cq,decide_eq_true_eq] at h1 h2
   obtain ⟨p,hp,hn⟩:=aY.1 h1
   exact th (f:=Pkg.name) h p (eJ.2 ⟨i,h2,hp⟩) hn
 have e1 : (s.filter fun x=>ga all x &&& bD t == 0) = s.filter fun x=>(dT (atL all t) x.pkg.name).isNone:=List.filter_congr fun x _=>hthere x
 have e2 : (t.filter (gD all s)).length = (s.filter (Ar (atL all t))).length:=by
  rw [rJ (fun p=>match eF s p.name with | some x=>!bt x.pkg.ver p.ver | none=>false) _ fun i hi=>by
   obtain ⟨p,hp⟩:=hlt i hi
   exact ⟨p,hp,by unfold gD; rw [hp]⟩]
  have key : ∀ (A : List Pkg) (B : List aK),((A.map Pkg.name).Perm (B.map fun x=>x.pkg.name)) → A.length = B.length:=fun A B h=>by simpa using h.length_eq
  refine key _ _ ((List.perm_ext_iff_of_nodup ?_ ?_).2 fun n=>?_)
  ·exact hnd.sublist (List.Sublist.map _ List.filter_sublist)
  ·exact hU.GA.sublist (List.Sublist.map _ List.filter_sublist)
  ·simp only [List.mem_map,List.mem_filter]
   constructor
   ·rintro ⟨p,⟨hp,h1⟩,rfl⟩
    cases hx : eF s p.name with
    | none=>rw [hx] at h1; cases h1
    | some x =>
     rw [hx] at h1
     obtain ⟨hxm,hxn⟩:=lG hx
     refine ⟨x,⟨hxm,?_⟩,hxn⟩
     unfold Ar
     rw [hxn,tj hnd hp]
     simp only
     rw [j7]
     exact h1
   ·rintro ⟨x,⟨hx,h1⟩,rfl⟩
    unfold Ar at h1
    cases hf : dT (atL all t) x.pkg.name with
    | none=>rw [hf] at h1; cases h1
    | some p =>
     rw [hf] at h1
     obtain ⟨hp,hpn⟩:=iq hf
     refine ⟨p,⟨hp,?_⟩,hpn⟩
     rw [hpn,sh hU.GA hx]
     simp only
     rw [j7]
     exact h1
 have e3 : (t.map fun i=>((sf all i).filter fun w=>w &&& bD t == 0).length).sum = Ea (atL all t):=by
  refine uZ (fun p=>(p.rcm.filter fun c=>!zG c (atL all t)).length) _ (fun i=>?_) t
  unfold sf
  cases hp : all[i]? with
  | none=>rfl
  | some p =>
   simp only
   rw [List.filter_map,List.length_map]
   congr 1
   refine List.filter_congr fun c _=>?_
   show (eI all c &&& bD t == 0) = !zG c (atL all t)
   rw [and_zero]
   congr 1
   rw [Bool.eq_iff_iff,re,wU]
   constructor
   ·rintro ⟨j,h1,h2⟩
    unfold eI at h1
    rw [fq,Bool.and_eq_true] at h1
    rw [cq,decide_eq_true_eq] at h2
    obtain ⟨q,hq⟩:=hlt j h2
    refine ⟨q,eJ.2 ⟨j,h2,hq⟩,?_⟩
    have:=h1.2
    unfold rT at this
    rw [hq] at this
    exact this
   ·rintro ⟨q,hq,hsat⟩
    obtain ⟨j,hj,hjq⟩:=eJ.1 hq
    refine ⟨j,?_,by rw [cq]; simpa using hj⟩
    unfold eI
    rw [fq,decide_eq_true (List.getElem?_eq_some_iff.1 hjq).1,Bool.true_and]
    unfold rT
    rw [hjq]
    exact hsat
 have e4 : (t.filter fun i=>!(orN (s.map (ga all))).testBit i).length = ((atL all t).filter fun p=>(eF s p.name).isNone).length:=by
  refine rJ _ _ fun i hi=>?_
  obtain ⟨p,hp⟩:=hlt i hi
  refine ⟨p,hp,?_⟩
  rw [Ay,List.any_map,Bool.eq_iff_iff,Bool.not_eq_true',List.any_eq_false,Option.isNone_iff_eq_none]
  unfold eF
  rw [List.find?_eq_none]
  constructor
  ·intro h x hx
   have:=h x hx
   show ¬ (x.pkg.name == p.name) = true
   rw [beq_iff_eq]
   intro e
   refine this ?_
   show (bD (placesOf all x.pkg.name)).testBit i = true
   rw [cq,decide_eq_true_eq,aY]
   exact ⟨p,hp,e.symm⟩
  ·intro h x hx hb
   have hb : (bD (placesOf all x.pkg.name)).testBit i = true:=hb
   rw [cq,decide_eq_true_eq,aY] at hb
   obtain ⟨q,hq,hn⟩:=hb
   rw [hp] at hq
   cases hq
   exact h x hx (by simpa using hn.symm)
 have e5 : (t.map (da all)).sum = ((atL all t).map (cA all)).sum:=uZ (cA all) _ (fun i=>rfl) t
 rw [e1,e2,e3,e4,e5]
end Go.Av
end
section
namespace Go.Av
def lexB : List Nat → List Nat → Bool
 | a :: x,b :: y=>if a = b then lexB x y else decide (a < b)
 | _,_=>false
def en : List Nat → List Nat → Bool
 | [],_=>false
 | _ :: _,[]=>true
 | a :: x,b :: y=>if a = b then en x y else decide (a < b)
def ltP (x y : List Nat × List Nat) : Bool:=lexB x.1 y.1 || (x.1 == y.1 && en x.2 y.2)
theorem xW : ∀ a : List Nat,lexB a a = false
 | []=>rfl
 | a :: x=>by rw [lexB,if_pos rfl,xW x]
theorem rA : ∀ {a b c : List Nat},lexB a b = true → lexB b c = true → lexB a c = true
 | [],_,_,h,_=>by cases h
 | _ :: _,[],_,h,_=>by cases h
 | _ :: _,_ :: _,[],_,h=>by cases h
 | a :: x,b :: y,c :: z,h1,h2=>by
  rw [lexB] at h1 h2 ⊢
  by_cases hab : a = b
  ·subst hab
   rw [if_pos rfl] at h1
   by_cases hac : a = c
   ·subst hac
    rw [if_pos rfl] at h2 ⊢
    exact rA h1 h2
   ·rw [if_neg hac] at h2 ⊢
    exact h2
  ·rw [if_neg hab,decide_eq_true_eq] at h1
   by_cases hbc : b = c
   ·subst hbc
    rw [if_neg hab,decide_eq_true_eq]
    exact h1
   ·rw [if_neg hbc,decide_eq_true_eq] at h2
    rw [if_neg (by omega),decide_eq_true_eq]
    omega
theorem xR : ∀ {a b : List Nat},a.length = b.length → a ≠ b → lexB a b = true ∨ lexB b a = true
 | [],[],_,h=>absurd rfl h
 | [],_ :: _,h,_=>by cases h
 | _ :: _,[],h,_=>by cases h
 | a :: x,b :: y,hl,h=>by
  rw [lexB,lexB]
  by_cases hab : a = b
  ·subst hab
   rw [if_pos rfl,if_pos rfl]
   exact xR (by simpa using hl) fun e=>h (by rw [e])
  ·rw [if_neg hab,if_neg (fun e=>hab e.symm),decide_eq_true_eq,decide_eq_true_eq]
   omega
theorem rf : ∀ a : List Nat,en a a = false
 | []=>rfl
 | a :: x=>by rw [en,if_pos rfl,rf x]
theorem nm : ∀ {a b c : List Nat},en a b = true → en b c = true → en a c = true
 | [],_,_,h,_=>by cases h
 | _ :: _,[],_,_,h=>by cases h
 | _ :: _,_ :: _,[],_,_=>rfl
 | a :: x,b :: y,c :: z,h1,h2=>by
  rw [en] at h1 h2 ⊢
  by_cases hab : a = b
  ·subst hab
   rw [if_pos rfl] at h1
   by_cases hac : a = c
   ·subst hac
    rw [if_pos rfl] at h2 ⊢
    exact nm h1 h2
   ·rw [if_neg hac] at h2 ⊢
    exact h2
  ·rw [if_neg hab,decide_eq_true_eq] at h1
   by_cases hbc : b = c
   ·subst hbc
    rw [if_neg hab,decide_eq_true_eq]
    exact h1
   ·rw [if_neg hbc,decide_eq_true_eq] at h2
    rw [if_neg (by omega),decide_eq_true_eq]
    omega
theorem qS : ∀ {a b : List Nat},a ≠ b → en a b = true ∨ en b a = true
 | [],[],h=>absurd rfl h
 | [],_ :: _,_=>.inr rfl
 | _ :: _,[],_=>.inl rfl
 | a :: x,b :: y,h=>by
  rw [en,en]
  by_cases hab : a = b
  ·subst hab
   rw [if_pos rfl,if_pos rfl]
   exact qS fun e=>h (by rw [e])
  ·rw [if_neg hab,if_neg (fun e=>hab e.symm),decide_eq_true_eq,decide_eq_true_eq]
   omega
theorem qm {x y : List Nat × List Nat} : ltP x y = true ↔ lexB x.1 y.1 = true ∨ (x.1 = y.1 ∧ en x.2 y.2 = true):=by
 unfold ltP
 simp only [Bool.or_eq_true,Bool.and_eq_true,beq_iff_eq]
theorem Ij (x : List Nat × List Nat) : ltP x x = false:=by
 rw [← Bool.not_eq_true,qm,xW,rf]
 simp
theorem tA {x y z : List Nat × List Nat} (h1 : ltP x y = true) (h2 : ltP y z = true) : ltP x z = true:=by
 rw [qm] at *
 rcases h1 with h1 | ⟨e1,h1⟩
 ·rcases h2 with h2 | ⟨e2,h2⟩
  ·exact .inl (rA h1 h2)
  ·exact .inl (by rw [← e2]; exact h1)
 ·rcases h2 with h2 | ⟨e2,h2⟩
  ·exact .inl (by rw [e1]; exact h2)
  ·exact .inr ⟨e1.trans e2,nm h1 h2⟩
theorem AP {x y : List Nat × List Nat} (hl : x.1.length = y.1.length) (h : x.2 ≠ y.2) (hn : ltP x y = false) : ltP y x = true:=by
 rw [← Bool.not_eq_true,qm] at hn
 rw [qm]
 by_cases he : x.1 = y.1
 ·rcases qS h with h1 | h1
  ·exact absurd (.inr ⟨he,h1⟩) hn
  ·exact .inr ⟨he.symm,h1⟩
 ·rcases xR hl he with h1 | h1
  ·exact absurd (.inl h1) hn
  ·exact .inl h1
def sK (x : List Nat × List Nat) (o : List (List Nat × List Nat)) : List (List Nat × List Nat):=o.takeWhile (fun y=>ltP y x) ++ x :: o.dropWhile fun y=>ltP y x
def z6 (l : List (List Nat × List Nat)) : List (List Nat × List Nat):=l.foldl (fun o x=>sK x o) []
theorem tv (x : List Nat × List Nat) (o : List (List Nat × List Nat)) : (sK x o).Perm (x :: o):=by
 unfold sK
 refine List.perm_middle.trans (List.Perm.cons _ ?_)
 rw [List.takeWhile_append_dropWhile]
theorem pL {x : List Nat × List Nat} : ∀ {o : List (List Nat × List Nat)},o.Pairwise (fun a b=>ltP a b = true) → (∀ y ∈ o,y.2 ≠ x.2 ∧ y.1.length = x.1.length) → (sK x o).Pairwise fun a b=>ltP a b = true
 | [],_,_=>by simp [sK]
 | y :: r,hp,hd=>by
  obtain ⟨h1,h2⟩:=List.pairwise_cons.1 hp
  unfold sK
  by_cases hy : ltP y x = true
  ·rw [List.takeWhile_cons,if_pos hy,List.dropWhile_cons,if_pos hy,List.cons_append]
   refine List.pairwise_cons.2 ⟨fun z hz=>?_,pL h2 fun z hz=>hd z (by simp [hz])⟩
   have hz2 : z ∈ x :: r:=(tv x r).subset hz
   rcases List.mem_cons.1 hz2 with rfl | hz2
   ·exact hy
   ·exact h1 z hz2
  ·rw [List.takeWhile_cons,if_neg hy,List.dropWhile_cons,if_neg hy,List.nil_append]
   obtain ⟨d1,d2⟩:=hd y (by simp)
   have hxy:=AP (x:=y) (y:=x) d2 d1 (by simpa using hy)
   refine List.pairwise_cons.2 ⟨fun z hz=>?_,hp⟩
   rcases List.mem_cons.1 hz with rfl | hz
   ·exact hxy
   ·exact tA hxy (h1 z hz)
theorem xJ {k : Nat} : ∀ {l o : List (List Nat × List Nat)},(o ++ l).Pairwise (fun a b=>a.2 ≠ b.2) → (∀ y ∈ o ++ l,y.1.length = k) → o.Pairwise (fun a b=>ltP a b = true) → (l.foldl (fun o x=>sK x o) o).Perm (o ++ l) ∧ (l.foldl (fun o x=>sK x o) o).Pairwise fun a b=>ltP a b = true
 | [],o,_,_,h=>by simpa using h
 | x :: l,o,hd,hk,h=>by
  rw [List.foldl_cons]
  have hxo : ∀ y ∈ o,y.2 ≠ x.2:=fun y hy=>(List.pairwise_append.1 hd).2.2 y hy x (by simp)
  have hs:=pL h fun y hy=>⟨hxo y hy,by rw [hk y (by simp [hy]),hk x (by simp)]⟩
  have hp : (sK x o ++ l).Perm (o ++ x :: l):=((tv x o).append_right l).trans (by rw [List.cons_append]; exact List.perm_middle.symm)
  obtain ⟨h1,h2⟩:=xJ (k:=k) (l:=l) (o:=sK x o) (hp.symm.pairwise hd fun {a b} h=>h.symm) (fun y hy=>hk y (hp.subset hy)) hs
  exact ⟨h1.trans hp,h2⟩
def jb (t : List Nat) : Nat:=bD (t.map (31 - ·))
theorem mF {a : Nat} {t : List Nat} (h : (a :: t).Pairwise (· < ·)) (h32 : ∀ i ∈ a :: t,i < 32) : jb t < 2 ^ (31 - a) ∧ jb (a :: t) = 2 ^ (31 - a) + jb t:=by
 have key : ∀ (t : List Nat) (a : Nat),(a :: t).Pairwise (· < ·) → (∀ i ∈ a :: t,i < 32) → jb t < 2 ^ (31 - a):=fun t=>by
  induction t with
  | nil=>intro a _ _; exact Nat.two_pow_pos _
  | cons b r ih =>
   intro a h h32
   obtain ⟨h1,h2⟩:=List.pairwise_cons.1 h
   have hab:=h1 b (by simp)
   have hb:=h32 b (by simp)
   have ihb:=ih b h2 fun i hi=>h32 i (by simp only [List.mem_cons] at hi ⊢; exact .inr hi)
   have e : jb (b :: r) = 2 ^ (31 - b) ||| jb r:=rfl
   rw [e]
   refine Nat.or_lt_two_pow ?_ ?_
   ·exact Nat.pow_lt_pow_right (by decide) (by omega)
   ·exact Nat.lt_of_lt_of_le ihb (Nat.pow_le_pow_right (by decide) (by omega))
 have hlt:=key t a h h32
 refine ⟨hlt,?_⟩
 show 2 ^ (31 - a) ||| jb t = _
 have:=Nat.two_pow_add_eq_or_of_lt hlt 1
 rw [Nat.mul_one] at this
 exact this.symm
theorem qF : ∀ {t u : List Nat},t.Pairwise (· < ·) → u.Pairwise (· < ·) → (∀ i ∈ t,i < 32) → (∀ i ∈ u,i < 32) → en t u = decide (jb u < jb t)
 | [],u,_,_,_,_=>by
  rw [en]
  exact (decide_eq_false (by simp [jb,bD])).symm
 | a :: t,[],ht,_,h32,_=>by
  obtain ⟨_,e⟩:=mF ht h32
  rw [en,e]
  have:=Nat.two_pow_pos (31 - a)
  exact (decide_eq_true (by simp only [jb,List.map_nil,bD]; omega)).symm
 | a :: t,b :: u,ht,hu,h32,h32u=>by
  obtain ⟨g1,e1⟩:=mF ht h32
  obtain ⟨g2,e2⟩:=mF hu h32u
  have ha:=h32 a (by simp)
  have hb:=h32u b (by simp)
  rw [en,e1,e2]
  by_cases hab : a = b
  ·subst hab
   rw [if_pos rfl,qF (List.pairwise_cons.1 ht).2 (List.pairwise_cons.1 hu).2 (fun i hi=>h32 i (by simp [hi])) (fun i hi=>h32u i (by simp [hi]))]
   exact decide_eq_decide.2 (by omega)
  ·rw [if_neg hab]
   refine decide_eq_decide.2 ?_
   rcases Nat.lt_or_gt_of_ne hab with h | h
   ·have:=Nat.pow_le_pow_right (show 0 < 2 by decide) (show 31 - b + 1 ≤ 31 - a by omega)
    rw [Nat.pow_succ] at this
    omega
   ·have:=Nat.pow_le_pow_right (show 0 < 2 by decide) (show 31 - a + 1 ≤ 31 - b by omega)
    rw [Nat.pow_succ] at this
    omega
end Go.Av
end
section
namespace Go.Av
def ft : List (Bool × List Nat) → Nat
 | []=>1
 | g :: r=>(1 + g.2.length) * ft r
theorem sW : ∀ gs,0 < ft gs
 | []=>by decide
 | g :: r=>Nat.mul_pos (by omega) (sW r)
theorem lM {α : Type} {f : α → Nat} {k : Nat} : ∀ {l : List α},(∀ a ∈ l,f a ≤ k) → (l.map f).sum ≤ l.length * k
 | [],_=>by simp
 | a :: r,h=>by
  have ih:=lM (f:=f) (k:=k) (l:=r) fun b hb=>h b (by simp [hb])
  have:=h a (by simp)
  rw [List.map_cons,List.sum_cons,List.length_cons,Nat.succ_mul]
  omega
theorem AR (D : Dat) : ∀ {gs : List (Bool × List Nat)} (s c : Nat),(∀ g ∈ gs,g.2 ≠ []) → gB D gs s c + 1 ≤ 2 * ft gs
 | [],s,c,_=>by simp [gB,ft]
 | g :: r,s,c,h=>by
  have ih:=fun s c=>AR D (gs:=r) s c fun x hx=>h x (by simp [hx])
  have hp:=sW r
  have hg : 1 ≤ g.2.length:=by
   have:=h g (by simp)
   cases hl : g.2 with
   | nil=>exact absurd hl this
   | cons a b=>simp
  have h1 : (if g.1 = true then gB D r s c else 0) ≤ 2 * ft r - 1:=by
   have:=ih s c
   split <;> omega
  have h2:=lM (f:=fun i=>gB D r (s ||| 2 ^ i) (c ||| D.kG i)) (k:=2 * ft r - 1) (l:=g.2.filter fun i=>D.may i && !c.testBit i) fun i _=>by
   have:=ih (s ||| 2 ^ i) (c ||| D.kG i)
   show gB D r (s ||| 2 ^ i) (c ||| D.kG i) ≤ _
   omega
  have h3 : (g.2.filter fun i=>D.may i && !c.testBit i).length * (2 * ft r - 1) ≤ g.2.length * (2 * ft r - 1):=Nat.mul_le_mul_right _ (List.length_filter_le _ _)
  rw [gB,ft]
  have e : 2 * ((1 + g.2.length) * ft r) = 2 * ft r + g.2.length * (2 * ft r - 1) + g.2.length:=by
   obtain ⟨m,hm⟩ : ∃ m,2 * ft r = m + 1:=⟨2 * ft r - 1,by omega⟩
   rw [hm,Nat.add_sub_cancel,show 2 * ((1 + g.2.length) * ft r) = (1 + g.2.length) * (2 * ft r) by rw [← Nat.mul_assoc,Nat.mul_comm 2,Nat.mul_assoc],hm,Nat.add_mul,Nat.one_mul,Nat.mul_add,Nat.mul_one]
   omega
  omega
theorem wb : ∀ gs : List (Bool × List Nat),ft gs ≤ 2 ^ (gs.map fun g=>g.2.length).sum
 | []=>by simp [ft]
 | g :: r=>by
  have h2 : ∀ k : Nat,1 + k ≤ 2 ^ k:=fun k=>by
   induction k with
   | zero=>decide
   | succ k ih=>rw [Nat.pow_succ]; omega
  rw [ft,List.map_cons,List.sum_cons,Nat.pow_add]
  exact Nat.mul_le_mul (h2 _) (wb r)
end Go.Av
end
section
namespace Go.Av
def TT (x y z : Int) : Prop:=x ≤ 0 → y ≤ 0 → z ≤ 0 ∧ (z = 0 → x = 0 ∧ y = 0)
theorem TT.zero : TT 0 0 0:=fun _ _=>⟨Int.le_refl _,fun _=>⟨rfl,rfl⟩⟩
theorem TT.lex {x y z x' y' z' : Int} (h : TT x y z) (h' : x = 0 → y = 0 → z = 0 → TT x' y' z') : TT (if x ≠ 0 then x else x') (if y ≠ 0 then y else y') (if z ≠ 0 then z else z'):=by
 intro hx hy
 have h1 : x ≤ 0:=by split at hx <;> omega
 have h2 : y ≤ 0:=by split at hy <;> omega
 obtain ⟨h3,h4⟩:=h h1 h2
 by_cases hz : z = 0
 ·obtain ⟨rfl,rfl⟩:=h4 hz
  subst hz
  simp only [ne_eq,not_true_eq_false,if_false] at hx hy ⊢
  exact h' rfl rfl rfl hx hy
 ·rw [if_pos hz]
  exact ⟨h3,fun e=>absurd e hz⟩
theorem TT.sgn (a b c : Int) : TT (sgn a b) (sgn b c) (sgn a c):=by
 intro h1 h2
 unfold Go.Av.sgn at *
 repeat' split at h1
 all_goals repeat' split at h2
 all_goals repeat' split
 all_goals omega
theorem TT.IV : ∀ (a b c : List UInt8),TT (bQ a b) (bQ b c) (bQ a c)
 | a,b,c=>by
  by_cases h : rk a = rk b ∧ rk b = rk c
  ·obtain ⟨h1,h2⟩:=h
   by_cases h0 : rk a = 0
   ·rw [gy h0 (by omega),gy (by omega) (by omega),gy h0 (by omega)]
    exact .zero
   ·rw [gC h0 h1,gC (by omega) h2,gC h0 (by omega)]
    have ha : a ≠ []:=fun e=>h0 (by rw [e]; rfl)
    have : a.tail.length < a.length:=by
     cases a with
     | nil=>exact absurd rfl ha
     | cons x r=>simp
    exact TT.IV a.tail b.tail c.tail
  ·have e : ∀ x y : List UInt8,rk x = rk y ∨ bQ x y = Go.Av.sgn (rk x) (rk y):=fun x y=>by
    by_cases h : rk x = rk y
    ·exact .inl h
    ·exact .inr (dw h)
   have hs:=TT.sgn (rk a) (rk b) (rk c)
   by_cases h1 : rk a = rk b
   ·have h2 : rk b ≠ rk c:=fun h2=>h ⟨h1,h2⟩
    rw [dw h2,dw (show rk a ≠ rk c by omega)]
    intro _ hy
    rw [h1]
    exact ⟨hy,fun hz=>absurd hz (oR h2)⟩
   ·by_cases h2 : rk b = rk c
    ·rw [dw h1,dw (show rk a ≠ rk c by omega)]
     intro hx _
     rw [← h2]
     exact ⟨hx,fun hz=>absurd hz (oR h1)⟩
    ·rw [dw h1,dw h2]
     intro hx hy
     have hlt : rk a < rk b ∧ rk b < rk c:=by
      unfold Go.Av.sgn at hx hy
      repeat' split at hx
      all_goals repeat' split at hy
      all_goals omega
     rw [dw (show rk a ≠ rk c by omega)]
     exact ⟨by unfold Go.Av.sgn; rw [if_pos (by omega)]; decide,fun hz=>absurd hz (oR (by omega))⟩
termination_by a=>a.length
theorem TT.gA : ∀ {a b c : List UInt8},a.length = b.length → b.length = c.length → TT (gA a b) (gA b c) (gA a c)
 | [],[],[],_,_=>.zero
 | [],_ :: _,_,h,_=>by cases h
 | _ :: _,[],_,h,_=>by cases h
 | [],[],_ :: _,_,h=>by cases h
 | _ :: _,_ :: _,[],_,h=>by cases h
 | x :: a,y :: b,z :: c,h1,h2=>by
  have e : ∀ (x y : UInt8) (a b : List UInt8),Go.Av.gA (x :: a) (y :: b) = if Go.Av.sgn x.toNat y.toNat ≠ 0 then Go.Av.sgn x.toNat y.toNat else Go.Av.gA a b:=fun x y a b=>by
   rw [Go.Av.gA]
   by_cases h : x = y
   ·subst h
    rw [if_pos rfl,r7,if_neg (by simp)]
   ·have hne : (x.toNat : Int) ≠ y.toNat:=fun e=>h (UInt8.toNat_inj.1 (by omega))
    rw [if_neg h,if_pos (oR hne)]
  rw [e,e,e]
  exact (TT.sgn _ _ _).lex fun _ _ _=>TT.gA (by simpa using h1) (by simpa using h2)
theorem rH (a b : List UInt8) : br a b = if bQ a b ≠ 0 then bQ a b
  else if Go.Av.sgn (bc (aR a)) (bc (aR b)) ≠ 0 then Go.Av.sgn (bc (aR a)) (bc (aR b))
  else if gA ((aR a).take (bc (aR a))) ((aR b).take (bc (aR b))) ≠ 0 then gA ((aR a).take (bc (aR a))) ((aR b).take (bc (aR b)))
  else br ((aR a).drop (bc (aR a))) ((aR b).drop (bc (aR b))):=by
 by_cases h : a = [] ∧ b = []
 ·obtain ⟨rfl,rfl⟩:=h
  rw [br,dif_pos ⟨rfl,rfl⟩,if_neg (by decide),if_neg (by decide),if_neg (by decide)]
  show 0 = br [] []
  rw [br,dif_pos ⟨rfl,rfl⟩]
 ·rw [qT h]
  by_cases h2 : bc (aR a) = bc (aR b)
  ·rw [if_neg (show ¬ (bc (aR a) ≠ bc (aR b)) by omega),h2,r7,if_neg (show ¬ ((0 : Int) ≠ 0) by omega)]
  ·have hne : ((bc (aR a) : Nat) : Int) ≠ (bc (aR b) : Nat):=by omega
   rw [if_pos h2,if_pos (oR hne)]
theorem TT.part : ∀ (n : Nat) (a b c : List UInt8),a.length + b.length + c.length ≤ n → TT (br a b) (br b c) (br a c)
 | n,a,b,c,hn=>by
  by_cases h0 : a = [] ∧ b = [] ∧ c = []
  ·obtain ⟨rfl,rfl,rfl⟩:=h0
   have : br [] [] = 0:=by rw [br,dif_pos ⟨rfl,rfl⟩]
   rw [this]
   exact .zero
  ·have la:=mT a
   have lb:=mT b
   have lc:=mT c
   have hlt : ((aR a).drop (bc (aR a))).length + ((aR b).drop (bc (aR b))).length + ((aR c).drop (bc (aR c))).length < n:=by
    by_cases ha : a = []
    ·by_cases hb : b = []
     ·have:=ku (s:=c) fun hc=>h0 ⟨ha,hb,hc⟩
      omega
     ·have:=ku hb
      omega
    ·have:=ku ha
     omega
   rw [rH a b,rH b c,rH a c]
   refine (TT.IV a b c).lex fun _ _ _=>(TT.sgn _ _ _).lex fun e1 e2 _=>?_
   have r1:=ri e1
   have r2:=ri e2
   have tk : ∀ s : List UInt8,(s.take (bc s)).length = bc s:=fun s=>by
    rw [List.length_take]
    exact Nat.min_eq_left (uR s)
   refine (TT.gA (by rw [tk,tk]; omega) (by rw [tk,tk]; omega)).lex fun _ _ _=>?_
   exact TT.part (n - 1) _ _ _ (by omega)
termination_by n=>n
decreasing_by omega
theorem TT.ver {a b c : List UInt8} (ha : bz a = true) (hb : bz b = true) (hc : bz c = true) : TT (bJ a b) (bJ b c) (bJ a c):=by
 unfold bz at ha hb hc
 unfold bJ
 obtain ⟨⟨e,u,r⟩,h1⟩:=Option.isSome_iff_exists.1 ha
 obtain ⟨⟨f,v,s⟩,h2⟩:=Option.isSome_iff_exists.1 hb
 obtain ⟨⟨g,w,t⟩,h3⟩:=Option.isSome_iff_exists.1 hc
 rw [h1,h2,h3]
 exact (TT.part _ e f g (Nat.le_refl _)).lex fun _ _ _=>(TT.part _ u v w (Nat.le_refl _)).lex fun _ _ _=>TT.part _ r s t (Nat.le_refl _)
theorem eS : ∀ a : List UInt8,Op.bytesLess a a = false
 | []=>rfl
 | x :: a=>by simp [Op.bytesLess,eS a]
theorem iF : ∀ {a b c : List UInt8},Op.bytesLess a b = true → Op.bytesLess b c = true → Op.bytesLess a c = true
 | _,[],_,h,_=>by cases ‹List UInt8› <;> simp [Op.bytesLess] at h
 | _,_ :: _,[],_,h=>by simp [Op.bytesLess] at h
 | [],_ :: _,_ :: _,_,_=>by simp [Op.bytesLess]
 | x :: a,y :: b,z :: c,h1,h2=>by
  simp only [Op.bytesLess,Bool.or_eq_true,Bool.and_eq_true,decide_eq_true_eq,beq_iff_eq,UInt8.lt_iff_toNat_lt] at h1 h2 ⊢
  rcases h1 with h1 | ⟨rfl,h1⟩
  ·rcases h2 with h2 | ⟨rfl,h2⟩
   ·exact .inl (by omega)
   ·exact .inl h1
  ·rcases h2 with h2 | ⟨rfl,h2⟩
   ·exact .inl h2
   ·exact .inr ⟨rfl,iF h1 h2⟩
theorem vJ : ∀ {a b : List UInt8},a ≠ b → Op.bytesLess a b = false → Op.bytesLess b a = true
 | [],[],h,_=>absurd rfl h
 | [],_ :: _,_,h=>by simp [Op.bytesLess] at h
 | _ :: _,[],_,_=>by simp [Op.bytesLess]
 | x :: a,y :: b,h,h1=>by
  simp only [Op.bytesLess,Bool.or_eq_false_iff,Bool.and_eq_false_iff,decide_eq_false_iff_not,beq_eq_false_iff_ne,UInt8.lt_iff_toNat_lt] at h1
  simp only [Op.bytesLess,Bool.or_eq_true,Bool.and_eq_true,decide_eq_true_eq,beq_iff_eq,UInt8.lt_iff_toNat_lt]
  by_cases hxy : x = y
  ·subst hxy
   have h2 : Op.bytesLess a b = false:=by
    rcases h1.2 with h2 | h2
    ·exact absurd rfl h2
    ·exact h2
   exact .inr ⟨rfl,vJ (fun e=>h (by rw [e])) h2⟩
  ·have : x.toNat ≠ y.toNat:=fun e=>hxy (UInt8.toNat_inj.1 e)
   exact .inl (by omega)
theorem BZ (a b : List UInt8) : e7 b a = - e7 a b:=by
 unfold e7
 by_cases h : a = b
 ·subst h
  rw [eS]
  simp
 ·cases h1 : Op.bytesLess a b with
  | true =>
   have h2 : Op.bytesLess b a = false:=by
    cases h2 : Op.bytesLess b a with
    | false=>rfl
    | true =>
     have:=iF h1 h2
     rw [eS] at this
     cases this
   rw [h2]
   simp [Ne.symm h]
  | false =>
   rw [vJ h h1]
   simp [h]
theorem TT.str (a b c : List UInt8) : TT (e7 a b) (e7 b c) (e7 a c):=by
 have key : ∀ x y : List UInt8,e7 x y ≤ 0 ↔ Op.bytesLess x y = true ∨ x = y:=fun x y=>by
  unfold e7
  by_cases h : x = y
  ·subst h
   rw [eS]
   simp
  ·cases h1 : Op.bytesLess x y <;> simp [h]
 have kz : ∀ x y : List UInt8,e7 x y = 0 ↔ x = y:=fun x y=>by
  unfold e7
  by_cases h : x = y
  ·subst h
   rw [eS]
   simp
  ·cases h1 : Op.bytesLess x y <;> simp [h]
 intro h1 h2
 rw [key] at h1 h2
 rw [key,kz,kz,kz]
 rcases h1 with h1 | rfl
 ·rcases h2 with h2 | rfl
  ·refine ⟨.inl (iF h1 h2),?_⟩
   rintro rfl
   have:=iF h1 h2
   rw [eS] at this
   cases this
  ·refine ⟨.inl h1,?_⟩
   rintro rfl
   rw [eS] at h1
   cases h1
 ·exact ⟨h2,fun e=>⟨rfl,e⟩⟩
end Go.Av
end
section
namespace Go.Av
open Go.Proofs.Tryz
def fy (p q : Pkg) : Int:=if e7 p.name q.name ≠ 0 then e7 p.name q.name else bJ q.ver p.ver
theorem il {x y : List UInt8} : e7 x y = 0 ↔ x = y:=by
 unfold e7
 by_cases h : x = y
 ·subst h
  rw [eS]
  simp
 ·cases h1 : Op.bytesLess x y <;> simp [h]
theorem ky (p q : Pkg) : fy q p = - fy p q:=by
 unfold fy
 rw [BZ p.name q.name,jf q.ver p.ver]
 by_cases h : e7 p.name q.name = 0
 ·rw [if_neg (by omega),if_neg (by omega)]
 ·rw [if_pos (by omega),if_pos h]
theorem TT.swap {x y z : Int} (h : TT x y z) : TT y x z:=fun h1 h2=>by
 obtain ⟨a,b⟩:=h h2 h1
 exact ⟨a,fun e=>⟨(b e).2,(b e).1⟩⟩
theorem TT.pkg {p q r : Pkg} (hp : bz p.ver = true) (hq : bz q.ver = true) (hr : bz r.ver = true) : TT (fy p q) (fy q r) (fy p r) :=
 (TT.str p.name q.name r.name).lex fun _ _ _=>(TT.ver hr hq hp).swap
theorem uX {p q : Pkg} : CF p q = true ↔ fy q p ≤ 0:=by
 unfold CF fy
 by_cases h : q.name = p.name
 ·rw [h,eS,il.2 rfl,jf q.ver p.ver]
  simp
 ·have hz : e7 q.name p.name ≠ 0:=fun e=>h (il.1 e)
  rw [if_pos hz]
  have hb : (q.name == p.name) = false:=by simpa using h
  rw [hb,Bool.false_and,Bool.or_false]
  unfold e7
  cases h1 : Op.bytesLess q.name p.name <;> simp [h]
def uN (l : List Pkg) : Prop:=∀ p ∈ l,bz p.ver = true
def ny (l : List Pkg) : Prop:=l.Pairwise fun p q=>fy p q ≤ 0
theorem wv {p : Pkg} : ∀ {o : List Pkg},bz p.ver = true → uN o → ny o → ny (qK p o)
 | [],_,_,_=>by simp [ny,qK]
 | q :: r,hp,hv,hs=>by
  obtain ⟨h1,h2⟩:=List.pairwise_cons.1 hs
  have hq:=hv q (by simp)
  have hr : uN r:=fun x hx=>hv x (by simp [hx])
  unfold qK
  by_cases hb : CF p q = true
  ·rw [List.takeWhile_cons,if_pos hb,List.dropWhile_cons,if_pos hb,List.cons_append]
   refine List.pairwise_cons.2 ⟨fun z hz=>?_,wv hp hr h2⟩
   rcases List.mem_cons.1 ((po p r).subset hz) with rfl | hz
   ·exact uX.1 hb
   ·exact h1 z hz
  ·rw [List.takeWhile_cons,if_neg hb,List.dropWhile_cons,if_neg hb,List.nil_append]
   have hpq : fy p q ≤ 0:=by
    rw [uX] at hb
    have:=ky q p
    omega
   refine List.pairwise_cons.2 ⟨fun z hz=>?_,hs⟩
   rcases List.mem_cons.1 hz with rfl | hz
   ·exact hpq
   ·exact (TT.pkg hp hq (hr z hz) hpq (h1 z hz)).1
theorem lU {l : List Pkg} (h : uN l) : ny (dP l):=by
 have key : ∀ (l o : List Pkg),uN l → uN o → ny o → ny (l.foldl (fun o p=>qK p o) o):=fun l=>by
  induction l with
  | nil=>intro o _ _ h; exact h
  | cons p r ih =>
   intro o hl ho hs
   refine ih _ (fun x hx=>hl x (by simp [hx])) (fun x hx=>?_) (wv (hl p (by simp)) ho hs)
   rcases List.mem_cons.1 ((po p o).subset hx) with rfl | hx
   ·exact hl x (by simp)
   ·exact ho x hx
 exact key l [] h (fun x hx=>by cases hx) .nil
theorem AS {α : Type} {f : α → Bool} : ∀ {o : List α},(∀ q ∈ o,f q = true) → o.takeWhile f = o ∧ o.dropWhile f = []
 | [],_=>⟨rfl,rfl⟩
 | q :: r,h=>by
  obtain ⟨e1,e2⟩:=AS (f:=f) (o:=r) fun x hx=>h x (by simp [hx])
  rw [List.takeWhile_cons,if_pos (h q (by simp)),List.dropWhile_cons,if_pos (h q (by simp)),e1,e2]
  exact ⟨rfl,rfl⟩
theorem Dp {l : List Pkg} (h : ny l) : dP l = l:=by
 have key : ∀ (l o : List Pkg),ny (o ++ l) → l.foldl (fun o p=>qK p o) o = o ++ l:=fun l=>by
  induction l with
  | nil=>intro o _; simp
  | cons p r ih =>
   intro o hs
   have hall : ∀ q ∈ o,CF p q = true:=fun q hq=>uX.2 ((List.pairwise_append.1 hs).2.2 q hq p (by simp))
   have e : qK p o = o ++ [p]:=by
    unfold qK
    obtain ⟨e1,e2⟩:=AS hall
    rw [e1,e2]
   rw [List.foldl_cons,e,ih (o ++ [p]) (by simpa using hs)]
   simp
 exact key l [] h
theorem wJ {l : List Pkg} (h : ny l) : oo l:=by
 intro i j k p q r hp hq hr hij hjk hn
 have hle : ∀ {i j : Nat} {p q : Pkg},i ≤ j → l[i]? = some p → l[j]? = some q → e7 p.name q.name ≤ 0:=fun {i j p q} hij hp hq=>by
  by_cases e : i = j
  ·subst e
   rw [hp] at hq
   cases hq
   rw [il.2 rfl]
   exact Int.le_refl _
  ·obtain ⟨hi,hp'⟩:=List.getElem?_eq_some_iff.1 hp
   obtain ⟨hj,hq'⟩:=List.getElem?_eq_some_iff.1 hq
   have:=List.pairwise_iff_getElem.1 h i j hi hj (by omega)
   rw [hp',hq'] at this
   unfold fy at this
   split at this <;> omega
 have h1:=hle hij hp hq
 have h2:=hle hjk hq hr
 have:=(TT.str p.name q.name r.name h1 h2).2 (il.2 hn)
 exact (il.1 this.1).symm
def Aq (l : List Pkg) : Prop:=l.Pairwise fun x y=>e8 y x = false
theorem fX {l : List Pkg} (h : bO l = 0) : Aq l ∧ uN l:=by
 unfold bO at h
 split at h
 ·cases h
 split at h
 ·rename_i h2; exact absurd h h2
 rename_i h2
 split at h
 ·cases h
 rename_i h3
 have h3 : rW [] l = false:=by simpa using h3
 refine ⟨((qM l []).1 h3).2,fun p hp=>?_⟩
 have hm:=iP (Classical.not_not.1 h2) _ (List.mem_map.2 ⟨p,hp,rfl⟩)
 unfold bn at hm
 split at hm
 ·cases hm
 ·rename_i hc
  simp only [Bool.or_eq_true,Bool.not_eq_true',not_or,Bool.not_eq_false] at hc
  exact hc.2
theorem tf {l : List Pkg} (h : Aq l) {p q : Pkg} (hp : p ∈ l) (hq : q ∈ l) (hs : e8 p q = true) : p = q:=by
 induction l with
 | nil=>cases hp
 | cons x r ih =>
  obtain ⟨h1,h2⟩:=List.pairwise_cons.1 h
  rcases List.mem_cons.1 hp with e1 | hp1
  ·rcases List.mem_cons.1 hq with e2 | hq1
   ·rw [e1,e2]
   ·have:=h1 q hq1
    rw [xC,← e1,hs] at this
    cases this
  ·rcases List.mem_cons.1 hq with e2 | hq1
   ·have:=h1 p hp1
    rw [← e2,hs] at this
    cases this
   ·exact ih h2 hp1 hq1
theorem zJ {p q : Pkg} (hp : bz p.ver = true) (hq : bz q.ver = true) (h : fy p q = 0) : e8 p q = true:=by
 unfold fy at h
 split at h
 ·rename_i h1; exact absurd h h1
 ·rename_i h1
  have hn:=il.1 (Classical.not_not.1 h1)
  unfold e8 bt
  simp [hn,hp,hq,h]
theorem HT {l a b : List Pkg} (hd : Aq l) (hv : uN l) (ha : ny a) (hb : ny b) (pa : a.Perm l) (pb : b.Perm l) : a = b:=by
 refine List.Perm.eq_of_pairwise (le:=fun p q=>fy p q ≤ 0) (fun p q hp hq h1 h2=>?_) ha hb (pa.trans pb.symm)
 have h3:=ky p q
 exact tf hd (pa.subset hp) (pb.subset hq) (zJ (hv p (pa.subset hp)) (hv q (pb.subset hq)) (by omega))
def oU (l : List Pkg) (n v : List UInt8) : Option Nat:=l.findIdx? fun q=>q.name == n && bt q.ver v
theorem pU {all : List Pkg} (h : bO all = 0) : (∀ i p,all[i]? = some p → oU (dP all) p.name p.ver = some i) ↔ all = dP all:=by
 obtain ⟨hd,hv⟩:=fX h
 have hself : ∀ p ∈ all,e8 p p = true:=fun p hp=>by
  have:=hv p hp
  unfold e8 bt
  rw [this]
  have e : bJ p.ver p.ver = 0:=by have:=jf p.ver p.ver; omega
  simp [e]
 have hf : ∀ (l : List Pkg) (p : Pkg),oU l p.name p.ver = l.findIdx? (e8 p):=fun l p=>rfl
 constructor
 ·intro hI
  refine List.ext_getElem? fun i=>?_
  cases hp : all[i]? with
  | none =>
   have hl:=(kp all).length_eq
   have:=List.getElem?_eq_none_iff.1 hp
   exact (List.getElem?_eq_none (by omega)).symm
  | some p =>
   have h1:=hI i p hp
   rw [hf,List.findIdx?_eq_some_iff_getElem] at h1
   obtain ⟨hlt,h2,_⟩:=h1
   have hpm:=List.mem_of_getElem? hp
   have hqm:=(kp all).subset (List.getElem_mem hlt)
   have:=tf hd hpm hqm h2
   rw [List.getElem?_eq_getElem hlt,← this]
 ·intro he i p hp
  rw [← he,hf,List.findIdx?_eq_some_iff_getElem]
  obtain ⟨hlt,hpi⟩:=List.getElem?_eq_some_iff.1 hp
  refine ⟨hlt,by rw [hpi]; exact hself p (List.mem_of_getElem? hp),fun j hj=>?_⟩
  have:=List.pairwise_iff_getElem.1 hd j i (by omega) hlt hj
  rw [hpi] at this
  simpa using this
end Go.Av
end
