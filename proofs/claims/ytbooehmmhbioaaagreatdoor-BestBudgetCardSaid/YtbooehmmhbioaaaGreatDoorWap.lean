/- Texts that the last one of this claim rests on: a layer over the guide's own conditions for code; contracts of the functions that the law reaches, one by one. No conditions beside those of the given rows. -/
import Derived.Test.YtbooehmmhbioaaaGreatDoorWah
import Derived.Test.YtbooehmmhbioaaaGreatDoorWao
set_option linter.unusedSimpArgs false
set_option linter.unusedVariables false
section
namespace Go.Av
abbrev EI :List UInt8:=[112,97,99,107,97,103,101]
abbrev Fp :List UInt8:=[118,101,114,115,105,111,110]
abbrev WL :List UInt8:=[112,114,101,45,100,101,112,101,110,100,115]
abbrev Xi :List UInt8:=[100,101,112,101,110,100,115]
abbrev WQ :List UInt8:=[114,101,99,111,109,109,101,110,100,115]
abbrev Xg :List UInt8:=[99,111,110,102,108,105,99,116,115]
abbrev Xf :List UInt8:=[98,114,101,97,107,115]
abbrev Ur :List UInt8:=[112,114,111,118,105,100,101,115]
abbrev WK :List UInt8:=[101,115,115,101,110,116,105,97,108]
abbrev Sc :List UInt8:=[104,111,108,100]
abbrev Tm :List UInt8:=[99,111,110,102,105,103,117,114,101,100]
abbrev Ty :List UInt8:=[112,114,105,111,114,105,116,121]
abbrev WX :List UInt8:=[115,116,97,116,101]
abbrev WO :List UInt8:=[121,101,115]
abbrev sNo :List UInt8:=[110,111]
abbrev XB :List UInt8:=[117,110,112,97,99,107,101,100]
inductive nX where
 |text (s:List UInt8)
 |count (n:Int)
 |yes (b:Bool)
 |cls (l:List Clause)
 |atoms (l:List Atom)
 |Fa (l:List gx)
def rG (s:List UInt8):List UInt8:=s.map NK
def L8 (n:List UInt8):Nat:=
 if rG n=EI then 0 else if rG n=Fp then 1
 else if rG n=WL∨rG n=Xi∨rG n=WQ then 2
 else if rG n=Xg∨rG n=Xf then 3
 else if rG n=Ur then 4
 else if rG n=WK∨rG n=Sc∨rG n=Tm then 5
 else if rG n=Ty then 6 else 7
def Up :List UInt8→Int→Int
 |[],n=>n
 |c::r,n=>Up r (10*n+(c.toNat-48))
def Xp (s:List UInt8):Option Int:=if s.length=0∨9<s.length∨(1<s.length∧s.head?=some 48)∨s.all aI=false then none else some (Up s 0)
def AO (a:Atom):Bool:=decide (a.rel=0)||decide (a.rel=3)
def uQ (_:Atom):Bool:=true
def OW (c:Clause):gx:=match c with
 |[]=>⟨[],[]⟩
 |a::_=>⟨a.name,a.ver⟩
def Tu (name s:List UInt8):Except Int nX:=
 match L8 name with
 |0=>if c9 s=true then .ok (.text s)else .error 3
 |1=>if bw s=true then .ok (.text s)else .error 3
 |2=>if (xx uQ false s).2=0 then .ok (.cls (xx uQ false s).1)else .error (xx uQ false s).2
 |3=>if (xx uQ true s).2=0 then .ok (.atoms (xx uQ true s).1.flatten)else .error (xx uQ true s).2
 |4=>if (xx AO true s).2=0 then .ok (.Fa ((xx AO true s).1.map OW))else .error (xx AO true s).2
 |5=>if s=WO then .ok (.yes true)else if s=sNo then .ok (.yes false)else .error 3
 |6=>match Xp s with
  |some n=>.ok (.count n)
  |none=>.error 3
 |_=>.ok (.text s)
structure aC where
 pkg:Pkg
 JI:Bool
 hold:Bool
 deriving DecidableEq
def wO :Pkg:=⟨[],[],[],[],[],[],[],[],false⟩
def eU :aC:=⟨wO,false,false⟩
structure Acc where
 ent:aC
 n:Bool
 v:Bool
 s:Bool
def nX.cl :nX→List Clause| .cls l=>l|_=>[]
def nX.at :nX→List Atom| .atoms l=>l|_=>[]
def nX.pr :nX→List gx| .Fa l=>l|_=>[]
def jz :List aC→Bool
 |x::y::r=>!Go.Op.bytesLess x.pkg.name y.pkg.name||jz (y::r)
 |_=>false
def bV (l:List aC):Int:=if 10<l.length then 12 else if orL (l.map λx=>aW x.pkg)≠0 then orL (l.map λx=>aW x.pkg)else if jz l=true then 4 else 0
end Go.Av
end
section
namespace Go.Av
structure aH where
 kind:Int
 name:List UInt8
 ver:List UInt8
 deriving DecidableEq
def bt (l:List aH)(n:List UInt8):Option aH:=l.find? λa=>a.name==n
def ec (s:List aC)(n:List UInt8):Option aC:=s.find? λx=>x.pkg.name==n
def dT (t:List Pkg)(n:List UInt8):Option Pkg:=t.find? λp=>p.name==n
def kindOf :Option aH→Int
 |some a=>a.kind
 |none=>0
def mj :Option aH→List UInt8
 |some a=>a.ver
 |none=>[]
def dK :Option aH→Bool
 |some a=>a.kind==1&&a.ver !=[]
 |none=>false
def ot (q:Option aH)(h:Bool):Bool:=match q with
 |some a=>if a.kind=5 then true else if a.kind=6∨a.kind=2∨(a.kind=1∧a.ver≠[])then false else h
 |none=>h
def j3 (l:List aH):Bool:=l.any λa=>a.kind==3
def nj (l:List aH)(s:List aC)(n:List UInt8):Bool:=!j3 l||((ec s n).isSome||kindOf (bt l n)==1)&& !(kindOf (bt l n)==2)
def wG (l:List aH)(s:List aC)(p:Pkg):Bool:=
 !(kindOf (bt l p.name)==2)&&(!dK (bt l p.name)||bm p.ver (mj (bt l p.name)))&&
 (match ec s p.name with
  |some x=>(!ot (bt l p.name) x.hold||bm p.ver x.pkg.ver)&&(dK (bt l p.name)|| !decide (bA p.ver x.pkg.ver<0))
  |none=>true)&&nj l s p.name
def my (l:List aH)(s:List aC)(n:List UInt8):Bool:=
 !(kindOf (bt l n)==1)&& !(match ec s n with
  |some x=>ot (bt l n) x.hold||x.pkg.ess
  |none=>false)&& !(j3 l&&nj l s n)
def cK (all:List Pkg)(s:List aC)(l:List aH):Bool:=l.any λa=>(a.kind==5&&(ec s a.name).isNone)||(a.kind==1&& !(all.any λp=>p.name==a.name))
def lg (t:List Pkg)(s:List aC)(a:aH):Bool:=
 if a.kind=1 then(match dT t a.name with
  |none=>false
  |some p=>a.ver==[]||bm p.ver a.ver)
 else if a.kind=2 then(dT t a.name).isNone else if a.kind=5 then(ec s a.name).isSome else true
def xC (l:List aH)(t:List Pkg)(x:aC):Bool:=match dT t x.pkg.name with
 |none=>!(ot (bt l x.pkg.name) x.hold||x.pkg.ess)
 |some p=>(!ot (bt l x.pkg.name) x.hold||bm p.ver x.pkg.ver)&& !(decide (bA p.ver x.pkg.ver<0)&& !dK (bt l x.pkg.name))
def nW (l:List aH)(t:List Pkg)(s:List aC):Bool:=(t.all λp=>(ec s p.name).isSome||kindOf (bt l p.name)==1)&&(s.all λx=>(dT t x.pkg.name).isSome||kindOf (bt l x.pkg.name)==2)
def gE (l:List aH)(t:List Pkg)(s:List aC):Bool:=l.all (lg t s)&&s.all (xC l t)&&(!j3 l||nW l t s)
theorem r7 {α:Type}{f:α→List UInt8}: ∀{l:List α} {a:α},(l.map f).Nodup→a∈l→l.find? (λx=>f x==f a)=some a
 |b::l,a,hn,h=>by
  rw[List.map_cons,List.nodup_cons]at hn
  rw[List.find?_cons]
  rcases List.mem_cons.1 h with rfl|h
  ·rw[beq_self_eq_true]
  ·have hne:(f b==f a)=false:=by
    rw[beq_eq_false_iff_ne]
    exact λe=>hn.1 (e▸List.mem_map_of_mem h)
   rw[hne]
   exact r7 hn.2 h
theorem vQ {α:Type}{f:α→List UInt8}{l:List α}{n:List UInt8}(h:l.find? (λx=>f x==n)=none): ∀a∈l,f a≠n:=λa ha e=>by
 have:=List.find?_eq_none.1 h a ha
 simp[e]at this
theorem sE {α:Type}{f:α→List UInt8}{l:List α}{n:List UInt8}{a:α}(h:l.find? (λx=>f x==n)=some a):a∈l∧f a=n:=
 ⟨List.mem_of_find?_eq_some h,by simpa using List.find?_some h⟩
structure Uni (all:List Pkg)(s:List aC)(l:List aH):Prop where
 asks:(l.map (·.name)).Nodup
 FH:(s.map (·.pkg.name)).Nodup
 sub: ∀x∈s,∃p∈all,p.name=x.pkg.name
theorem qa {l:List aH}(h:(l.map (·.name)).Nodup){a:aH}(ha:a∈l):bt l a.name=some a:=r7 (f:=aH.name) h ha
theorem pJ {s:List aC}(h:(s.map (·.pkg.name)).Nodup){x:aC}(hx:x∈s):ec s x.pkg.name=some x:=r7 (f:=λx:aC=>x.pkg.name) h hx
theorem vM {t:List Pkg}(h:(t.map (·.name)).Nodup){p:Pkg}(hp:p∈t):dT t p.name=some p:=r7 (f:=Pkg.name) h hp
theorem kM {l:List aH}{n:List UInt8}{a:aH}(h:bt l n=some a):a∈l∧a.name=n:=sE (f:=aH.name) h
theorem mP {s:List aC}{n:List UInt8}{x:aC}(h:ec s n=some x):x∈s∧x.pkg.name=n:=sE (f:=λx:aC=>x.pkg.name) h
theorem ju {t:List Pkg}{n:List UInt8}{p:Pkg}(h:dT t n=some p):p∈t∧p.name=n:=sE (f:=Pkg.name) h
theorem wX {all:List Pkg}{s:List aC}{l:List aH}(hU:Uni all s l){t:List Pkg}(ht: ∀p∈t,p∈all)(hn:(t.map (·.name)).Nodup):
  gE l t s=true↔cK all s l=false∧(∀p∈t,wG l s p=true)∧ ∀q∈all,dT t q.name=none→my l s q.name=true:=by
 unfold gE
 rw[Bool.and_eq_true,Bool.and_eq_true,List.all_eq_true,List.all_eq_true]
 constructor
 ·rintro⟨⟨h1,h2⟩,h3⟩
  have hrem: ∀n,kindOf (bt l n)=2→dT t n=none:=λn hk=>by
   cases hq:bt l n with
   |none=>rw[hq]at hk;cases hk
   |some a=>
    obtain⟨ha,hna⟩:=kM hq
    rw[hq]at hk
    have hk:a.kind=2:=hk
    have:=h1 a ha
    unfold lg at this
    rw[if_neg (by rw[hk];decide),if_pos hk,hna]at this
    simpa using this
  have hins: ∀n,kindOf (bt l n)=1→ ∃p,dT t n=some p∧(mj (bt l n)=[]∨bm p.ver (mj (bt l n))=true):=λn hk=>by
   cases hq:bt l n with
   |none=>rw[hq]at hk;cases hk
   |some a=>
    obtain⟨ha,hna⟩:=kM hq
    rw[hq]at hk
    have hk:a.kind=1:=hk
    have:=h1 a ha
    unfold lg at this
    rw[if_pos hk,hna]at this
    cases hf:dT t n with
    |none=>rw[hf]at this;cases this
    |some p=>
     rw[hf]at this
     exact⟨p,rfl,by simpa[mj]using this⟩
  refine⟨?_,λp hp=>?_,λq hq hf=>?_⟩
  ·unfold cK
   rw[List.any_eq_false]
   intro a ha hc
   have h4:=h1 a ha
   simp only[Bool.or_eq_true,Bool.and_eq_true,beq_iff_eq,Option.isNone_iff_eq_none,Bool.not_eq_true']at hc
   rcases hc with⟨hk,hc⟩|⟨hk,hc⟩
   ·unfold lg at h4
    rw[if_neg (by rw[hk];decide),if_neg (by rw[hk];decide),if_pos hk,hc]at h4
    cases h4
   ·unfold lg at h4
    rw[if_pos hk]at h4
    cases hf:dT t a.name with
    |none=>rw[hf]at h4;cases h4
    |some p=>
     obtain⟨hp,hpn⟩:=ju hf
     have:=List.any_eq_false.1 hc p (ht p hp)
     simp[hpn]at this
  ·have hf:=vM hn hp
   unfold wG
   simp only[Bool.and_eq_true]
   refine⟨⟨⟨?_,?_⟩,?_⟩,?_⟩
   ·simp only[Bool.not_eq_true',beq_eq_false_iff_ne]
    exact λhk=>by rw[hrem _ hk]at hf;cases hf
   ·cases hq:bt l p.name with
    |none=>rfl
    |some a=>
     by_cases he:dK (some a)=true
     ·have hk:a.kind=1:=by simp only[dK,Bool.and_eq_true,beq_iff_eq]at he;exact he.1
      obtain⟨p',hp',hv⟩:=hins p.name (by rw[hq];exact hk)
      rw[hf]at hp'
      cases hp'
      rw[hq]at hv
      rcases hv with hv|hv
      ·simp only[dK,Bool.and_eq_true,bne_iff_ne,ne_eq]at he
       exact absurd hv he.2
      ·rw[hv,Bool.or_true]
     ·simp[he]
   ·cases hx:ec s p.name with
    |none=>rfl
    |some x=>
     obtain⟨hxm,hxn⟩:=mP hx
     have h4:=h2 x hxm
     unfold xC at h4
     rw[hxn,hf]at h4
     simp only[Bool.and_eq_true]at h4 ⊢
     refine⟨h4.1,?_⟩
     have:=h4.2
     cases h5:dK (bt l p.name)<;>simp_all
   ·unfold nj
    cases hp1:j3 l with
    |false=>rfl
    |true=>
     rw[hp1]at h3
     have h3:nW l t s=true:=by simpa using h3
     unfold nW at h3
     rw[Bool.and_eq_true,List.all_eq_true]at h3
     have h4:=h3.1 p hp
     have h5:(kindOf (bt l p.name)==2)=false:=by
      rw[beq_eq_false_iff_ne]
      exact λhk=>by rw[hrem _ hk]at hf;cases hf
     rw[h4,h5]
     rfl
  ·have hni:(kindOf (bt l q.name)==1)=false:=by
    rw[beq_eq_false_iff_ne]
    intro hk
    obtain⟨p,hp,_⟩:=hins _ hk
    rw[hf]at hp
    cases hp
   unfold my
   rw[hni]
   simp only[Bool.not_false,Bool.true_and,Bool.and_eq_true,Bool.not_eq_true']
   refine⟨?_,?_⟩
   ·cases hx:ec s q.name with
    |none=>rfl
    |some x=>
     obtain⟨hxm,hxn⟩:=mP hx
     have h4:=h2 x hxm
     unfold xC at h4
     rw[hxn,hf]at h4
     simpa using h4
   ·cases hp1:j3 l with
    |false=>rfl
    |true=>
     rw[hp1]at h3
     have h3:nW l t s=true:=by simpa using h3
     unfold nW at h3
     rw[Bool.and_eq_true,List.all_eq_true,List.all_eq_true]at h3
     unfold nj
     rw[hp1,hni]
     cases hx:ec s q.name with
     |none=>rfl
     |some x=>
      obtain⟨hxm,hxn⟩:=mP hx
      have h4:=h3.2 x hxm
      rw[hxn,hf]at h4
      have h4:(kindOf (bt l q.name)==2)=true:=by simpa using h4
      rw[h4]
      rfl
 ·rintro⟨h1,h2,h3⟩
  unfold cK at h1
  rw[List.any_eq_false]at h1
  have hpres: ∀n,(∃q∈all,q.name=n)→my l s n=false→ ∃p,dT t n=some p∧wG l s p=true∧p.name=n:=λn ⟨q,hq,hqn⟩ hl=>by
   cases hf:dT t n with
   |none=>
    have:=h3 q hq (by rw[hqn];exact hf)
    rw[hqn,hl]at this
    cases this
   |some p=>
    obtain⟨hp,hpn⟩:=ju hf
    exact⟨p,rfl,h2 p hp,hpn⟩
  have hmay: ∀p,wG l s p=true→(kindOf (bt l p.name)==2)=false∧(dK (bt l p.name)=true→bm p.ver (mj (bt l p.name))=true)∧(∀x,ec s p.name=some x→(!ot (bt l p.name) x.hold||bm p.ver x.pkg.ver)=true∧(dK (bt l p.name)|| !decide (bA p.ver x.pkg.ver<0))=true)∧nj l s p.name=true:=λp hp=>by
   unfold wG at hp
   simp only[Bool.and_eq_true,Bool.not_eq_true']at hp
   obtain⟨⟨⟨g1,g2⟩,g3⟩,g4⟩:=hp
   refine⟨g1,λhe=>by rw[he]at g2;simpa using g2,λx hx=>?_,g4⟩
   rw[hx]at g3
   simp only[Bool.and_eq_true]at g3
   exact g3
  refine⟨⟨λa ha=>?_,λx hx=>?_⟩,?_⟩
  ·have haq:=qa hU.asks ha
   have hnev:=h1 a ha
   simp only[Bool.or_eq_true,Bool.and_eq_true,beq_iff_eq,Option.isNone_iff_eq_none,Bool.not_eq_true',not_or,not_and]at hnev
   unfold lg
   by_cases hk1:a.kind=1
   ·rw[if_pos hk1]
    have hin: ∃q∈all,q.name=a.name:=by
     have:=hnev.2 hk1
     rw[Bool.not_eq_false,List.any_eq_true]at this
     obtain⟨q,hq,hqn⟩:=this
     exact⟨q,hq,by simpa using hqn⟩
    obtain⟨p,hf,hm,hpn⟩:=hpres a.name hin (by
     unfold my
     rw[haq,show kindOf (some a)=1 from hk1]
     rfl)
    rw[hf]
    obtain⟨_,g2,_⟩:=hmay p hm
    rw[hpn,haq]at g2
    by_cases hv:a.ver=[]
    ·simp[hv]
    ·have:=g2 (by simp[dK,hk1,hv])
     simp only[mj]at this
     simp[this]
   ·rw[if_neg hk1]
    by_cases hk2:a.kind=2
    ·rw[if_pos hk2,Option.isNone_iff_eq_none]
     cases hf:dT t a.name with
     |none=>rfl
     |some p=>
      obtain⟨hp,hpn⟩:=ju hf
      obtain⟨g1,_⟩:=hmay p (h2 p hp)
      rw[hpn,haq,show kindOf (some a)=2 from hk2]at g1
      cases g1
    ·rw[if_neg hk2]
     by_cases hk5:a.kind=5
     ·rw[if_pos hk5]
      have:=hnev.1 hk5
      cases hx:ec s a.name with
      |none=>exact absurd hx this
      |some x=>rfl
     ·rw[if_neg hk5]
  ·have hxe:=pJ hU.FH hx
   obtain⟨q,hq,hqn⟩:=hU.sub x hx
   unfold xC
   cases hf:dT t x.pkg.name with
   |none=>
    have h4:=h3 q hq (by rw[hqn];exact hf)
    rw[hqn]at h4
    unfold my at h4
    rw[hxe]at h4
    simp only[Bool.and_eq_true]at h4
    exact h4.1.2
   |some p=>
    obtain⟨hp,hpn⟩:=ju hf
    obtain⟨_,_,g3,_⟩:=hmay p (h2 p hp)
    rw[hpn]at g3
    obtain⟨k1,k2⟩:=g3 x hxe
    simp only[Bool.and_eq_true]
    refine⟨k1,?_⟩
    cases h5:dK (bt l x.pkg.name)<;>simp_all
  ·cases hp1:j3 l with
   |false=>rfl
   |true=>
    show nW l t s=true
    unfold nW
    rw[Bool.and_eq_true,List.all_eq_true,List.all_eq_true]
    refine⟨λp hp=>?_,λx hx=>?_⟩
    ·obtain⟨_,_,_,g4⟩:=hmay p (h2 p hp)
     unfold nj at g4
     rw[hp1]at g4
     simp only[Bool.not_true,Bool.false_or,Bool.and_eq_true]at g4
     exact g4.1
    ·have hxe:=pJ hU.FH hx
     obtain⟨q,hq,hqn⟩:=hU.sub x hx
     cases hf:dT t x.pkg.name with
     |some p=>rfl
     |none=>
      have h4:=h3 q hq (by rw[hqn];exact hf)
      rw[hqn]at h4
      unfold my at h4
      simp only[Bool.and_eq_true,Bool.not_eq_true',hp1,Bool.true_and]at h4
      have h5:=h4.2
      unfold nj at h5
      rw[hp1,hxe]at h5
      cases h6:(kindOf (bt l x.pkg.name)==2)with
      |true=>simp
      |false=>
       rw[h6]at h5
       cases h5
end Go.Av
end
section
namespace Go.Av
def cA :List (List Nat)→List (List Nat)
 |[]=>[[]]
 |g::r=>(g.flatMap λi=>(cA r).map (i:: ·))++cA r
theorem qe {g:List Nat}{r:List (List Nat)}{t:List Nat}:t∈cA (g::r)↔(∃i∈g,∃u∈cA r,t=i::u)∨t∈cA r:=by
 simp only[cA,List.mem_append,List.mem_flatMap,List.mem_map]
 constructor
 ·rintro(⟨i,hi,u,hu,rfl⟩|h)
  ·exact .inl ⟨i,hi,u,hu,rfl⟩
  ·exact .inr h
 ·rintro(⟨i,hi,u,hu,rfl⟩|h)
  ·exact .inl ⟨i,hi,u,hu,rfl⟩
  ·exact .inr h
theorem er : ∀{gs:List (List Nat)} {t:List Nat},t∈cA gs→ ∀i∈t,∃g∈gs,i∈g
 |[],t,h,i,hi=>by
  simp only[cA,List.mem_singleton]at h
  rw[h]at hi
  cases hi
 |g::r,t,h,i,hi=>by
  rcases qe.1 h with⟨j,hj,u,hu,rfl⟩|h
  ·rcases List.mem_cons.1 hi with rfl|hi
   ·exact⟨g,by simp,hj⟩
   ·obtain⟨g',hg,hi⟩:=er hu i hi
    exact⟨g',by simp[hg],hi⟩
  ·obtain⟨g',hg,hi⟩:=er h i hi
   exact⟨g',by simp[hg],hi⟩
structure Dat where
 may:Nat→Bool
 lk:Nat→Nat
 hl:Nat→Bool
def nh (D:Dat):List (Bool×List Nat)→Nat→Nat→List Nat
 |[],s,_=>if D.hl s=true then [s]else []
 |g::r,s,c=>(if g.1=true then nh D r s c else [])++(g.2.filter λi=>D.may i&& !c.testBit i).flatMap λi=>nh D r (s ||| 2^i) (c ||| D.lk i)
def gW (D:Dat):List (Bool×List Nat)→Nat→Nat→Nat
 |[],_,_=>1
 |g::r,s,c=>1+((if g.1=true then gW D r s c else 0)+((g.2.filter λi=>D.may i&& !c.testBit i).map λi=>gW D r (s ||| 2^i) (c ||| D.lk i)).sum)
def okP (D:Dat):List (Bool×List Nat)→Nat→List Nat→Bool
 |[],_,_=>true
 |g::r,c,t=>match t with
  |[]=>g.1&&okP D r c []
  |i::u=>if i∈g.2 then(D.may i&& !c.testBit i)&&okP D r (c ||| D.lk i) u else g.1&&okP D r c (i::u)
def bH :List Nat→Nat
 |[]=>0
 |i::r=>2^i ||| bH r
def pW :List (List Nat)→Prop
 |[]=>True
 |g::r=>(∀i∈g,∀h∈r,i∉h)∧pW r
theorem sj {D:Dat}{g:Bool×List Nat}{r:List (Bool×List Nat)}{c:Nat}{t:List Nat}(h: ∀i∈t,i∉g.2):okP D (g::r) c t=(g.1&&okP D r c t):=by
 cases t with
 |nil=>rfl
 |cons i u=>
  rw[okP,if_neg (h i (by simp))]
theorem ma {α β:Type}{f g:α→List β}: ∀{l:List α},(∀a∈l,f a=g a)→l.flatMap f=l.flatMap g
 |[],_=>rfl
 |a::r,h=>by
  rw[List.flatMap_cons,List.flatMap_cons,h a (by simp),ma λb hb=>h b (by simp[hb])]
theorem oz {α β:Type}{f g:α→List β}: ∀{l:List α},(∀a∈l,(f a).Perm (g a))→(l.flatMap f).Perm (l.flatMap g)
 |[],_=>.refl _
 |a::r,h=>by
  rw[List.flatMap_cons,List.flatMap_cons]
  exact(h a (by simp)).append (oz λb hb=>h b (by simp[hb]))
theorem fh {α β:Type}{f:α→List β}{p:β→Bool}: ∀{l:List α},(l.flatMap f).filter p=l.flatMap λa=>(f a).filter p
 |[]=>rfl
 |a::r=>by rw[List.flatMap_cons,List.flatMap_cons,List.filter_append,fh]
theorem iC {α β:Type}{f:α→List β}{p:α→Bool}: ∀{l:List α},(l.filter p).flatMap f=l.flatMap λa=>if p a=true then f a else []
 |[]=>rfl
 |a::r=>by
  rw[List.flatMap_cons,List.filter_cons]
  split
  ·rw[List.flatMap_cons,iC]
  ·rw[iC,List.nil_append]
theorem k9 {α β γ:Type}{f:α→List β}{g:β→γ}: ∀{l:List α},(l.flatMap f).map g=l.flatMap λa=>(f a).map g
 |[]=>rfl
 |a::r=>by rw[List.flatMap_cons,List.flatMap_cons,List.map_append,k9]
theorem vo (D:Dat): ∀{gs:List (Bool×List Nat)} (s c:Nat),pW (gs.map (·.2))→(nh D gs s c).Perm ((((cA (gs.map (·.2))).filter (okP D gs c)).map λt=>s ||| bH t).filter D.hl)
 |[],s,c,_=>by
  simp only[nh,cA,List.map_nil,okP,List.filter_cons,List.filter_nil,if_true,List.map_cons,bH,Nat.or_zero]
  split<;>exact .refl _
 |g::r,s,c,ha=>by
  rw[List.map_cons]at ha
  have ih:=λs c=>vo D (gs:=r) s c ha.2
  have hout: ∀t∈cA (r.map (·.2)),∀i∈t,i∉g.2:=λt ht i hi hg=>by
   obtain⟨h,hh,hi2⟩:=er ht i hi
   exact ha.1 i hg h hh hi2
  rw[nh,List.map_cons,cA,List.filter_append,List.map_append,List.filter_append]
  refine List.Perm.trans (List.Perm.append ?_ ?_) List.perm_append_comm
  ·have e:(cA (r.map (·.2))).filter (okP D (g::r) c)=if g.1=true then(cA (r.map (·.2))).filter (okP D r c)else []:=by
    split
    ·rename_i hg
     exact List.filter_congr λt ht=>by rw[sj (hout t ht),hg,Bool.true_and]
    ·rename_i hg
     exact List.filter_eq_nil_iff.2 λt ht=>by rw[sj (hout t ht)];simp[hg]
   rw[e]
   split
   ·exact ih s c
   ·exact .refl _
  ·rw[iC,fh,k9,fh]
   refine oz λi hi=>?_
   have e:((cA (r.map (·.2))).map (i:: ·)).filter (okP D (g::r) c)=if (D.may i&& !c.testBit i)=true then((cA (r.map (·.2))).filter (okP D r (c ||| D.lk i))).map (i:: ·)else []:=by
    rw[List.filter_map]
    split
    ·rename_i hm
     congr 1
     refine List.filter_congr λt _=>?_
     show okP D (g::r) c (i::t)=_
     rw[okP,if_pos hi,hm,Bool.true_and]
    ·rename_i hm
     rw[List.filter_eq_nil_iff.2 λt _=>?_]
     ·rfl
     ·show ¬okP D (g::r) c (i::t)=true
      rw[okP,if_pos hi]
      simp only[Bool.not_eq_true]at hm
      rw[hm,Bool.false_and]
      decide
   rw[e]
   split
   ·rw[List.map_map]
    refine(ih (s ||| 2^i) (c ||| D.lk i)).trans (List.Perm.of_eq ?_)
    congr 1
    refine List.map_congr_left λt _=>?_
    show s ||| 2^i ||| bH t=s ||| bH (i::t)
    rw[bH,Nat.or_assoc]
   ·exact .refl _
theorem xu (D:Dat): ∀{gs:List (Bool×List Nat)} {c:Nat} {t:List Nat},pW (gs.map (·.2))→t∈cA (gs.map (·.2))→(okP D gs c t=true↔(∀i∈t,D.may i=true∧c.testBit i=false)∧(t.Pairwise λi j=>(D.lk i).testBit j=false)∧ ∀g∈gs,(∀i∈t,i∉g.2)→g.1=true)
 |[],c,t,_,ht=>by
  simp only[cA,List.map_nil,List.mem_singleton]at ht
  subst ht
  simp[okP]
 |g::r,c,t,ha,ht=>by
  rw[List.map_cons]at ha ht
  rcases qe.1 ht with⟨i,hi,u,hu,rfl⟩|ht
  ·rw[okP,if_pos hi,Bool.and_eq_true,Bool.and_eq_true,Bool.not_eq_true',xu D ha.2 hu]
   simp only[Nat.testBit_or,Bool.or_eq_false_iff,List.pairwise_cons]
   have hir: ∀h∈r,i∉h.2:=λh hh=>ha.1 i hi _ (List.mem_map_of_mem hh)
   constructor
   ·rintro⟨⟨h1,h2⟩,h3,h4,h5⟩
    refine⟨λj hj=>?_,⟨λj hj=>(h3 j hj).2.2,h4⟩,λh hh hn=>?_⟩
    ·rcases List.mem_cons.1 hj with rfl|hj
     ·exact⟨h1,h2⟩
     ·exact⟨(h3 j hj).1,(h3 j hj).2.1⟩
    ·rcases List.mem_cons.1 hh with rfl|hh
     ·exact absurd hi (hn i (by simp))
     ·exact h5 h hh λj hj=>hn j (by simp[hj])
   ·rintro⟨h1,⟨h2,h3⟩,h4⟩
    refine⟨h1 i (by simp),λj hj=>⟨(h1 j (by simp[hj])).1,(h1 j (by simp[hj])).2,h2 j hj⟩,h3,λh hh hn=>h4 h (by simp[hh]) λj hj=>?_⟩
    rcases List.mem_cons.1 hj with rfl|hj
    ·exact hir h hh
    ·exact hn j hj
  ·have hout: ∀i∈t,i∉g.2:=λi hi hg=>by
    obtain⟨h,hh,hi2⟩:=er ht i hi
    exact ha.1 i hg h hh hi2
   rw[sj hout,Bool.and_eq_true,xu D ha.2 ht]
   constructor
   ·rintro⟨h0,h1,h2,h3⟩
    refine⟨h1,h2,λh hh hn=>?_⟩
    rcases List.mem_cons.1 hh with rfl|hh
    ·exact h0
    ·exact h3 h hh hn
   ·rintro⟨h1,h2,h3⟩
    exact⟨h3 g (by simp) hout,h1,h2,λh hh=>h3 h (by simp[hh])⟩
theorem ct : ∀(t:List Nat) (i:Nat),(bH t).testBit i=decide (i∈t)
 |[],i=>by simp[bH]
 |j::r,i=>by
  rw[bH,Nat.testBit_or,ct r i,Nat.testBit_two_pow]
  by_cases h:j=i
  ·simp[h]
  ·simp[h,Ne.symm h]
def aT (k n:Nat):List Nat:=(List.range k).filter n.testBit
end Go.Av
end
section
namespace Go.Av
open Go.Proofs.Tryz
def placesOf (all:List Pkg)(n:List UInt8):List Nat:=(List.range all.length).filter λk=>match all[k]? with
 |some q=>q.name==n
 |none=>false
def mw (all:List Pkg):Prop:=∀ (i j k:Nat) (p q r:Pkg),all[i]?=some p→all[j]?=some q→all[k]?=some r→i≤j→j≤k→p.name=r.name→q.name=p.name
def c7 (all:List Pkg):Nat→Nat→List (List Nat)
 |0,_=>[]
 |f+1,i=>if i=all.length then []else List.range' i (aD all i-i)::c7 all f (aD all i)
theorem bj {all:List Pkg}{n:List UInt8}{k:Nat}:k∈placesOf all n↔ ∃q,all[k]?=some q∧q.name=n:=by
 unfold placesOf
 rw[List.mem_filter,List.mem_range]
 constructor
 ·rintro⟨h1,h2⟩
  obtain⟨q,hq⟩:=get_some h1
  rw[hq]at h2
  exact⟨q,hq,by simpa using h2⟩
 ·rintro⟨q,hq,h⟩
  exact⟨(List.getElem?_eq_some_iff.1 hq).1,by rw[hq];simpa using h⟩
theorem ku {all:List Pkg}{i:Nat}{p:Pkg}(hp:all[i]?=some p){k:Nat}(h1:i≤k)(h2:k<aD all i): ∃q,all[k]?=some q∧q.name=p.name:=by
 have hr:aD all i=i+((all.drop i).takeWhile λq=>q.name==p.name).length:=by simp[aD,hp]
 have hlt:k-i<((all.drop i).takeWhile λq=>q.name==p.name).length:=by omega
 have hg:=List.getElem?_eq_getElem hlt
 have h0:=List.takeWhile_append_dropWhile (p:=λq:Pkg=>q.name==p.name) (l:=all.drop i)
 refine⟨_,?_,by simpa using E1 (List.getElem_mem hlt)⟩
 have:=List.getElem?_append_left (l₂:=(all.drop i).dropWhile λq=>q.name==p.name) hlt
 rw[h0,List.getElem?_drop,show i+(k-i)=k by omega,hg]at this
 exact this
theorem run_places {all:List Pkg}(hc:mw all){i:Nat}{p:Pkg}(hp:all[i]?=some p)(hf: ∀j q,j<i→all[j]?=some q→q.name≠p.name):List.range' i (aD all i-i)=placesOf all p.name:=by
 obtain⟨b1,b2⟩:=cM hp
 have e:List.range all.length=List.range' 0 i++(List.range' i (aD all i-i)++List.range' (aD all i) (all.length-aD all i)):=by
  have e1:=List.range'_append (s:=0) (m:=i) (n:=all.length-i) (step:=1)
  have e2:=List.range'_append (s:=i) (m:=aD all i-i) (n:=all.length-aD all i) (step:=1)
  simp only[Nat.one_mul,Nat.zero_add]at e1 e2
  rw[show i+(aD all i-i)=aD all i by omega]at e2
  rw[e2,show aD all i-i+(all.length-aD all i)=all.length-i by omega,e1,show i+(all.length-i)=all.length by omega,List.range_eq_range']
 unfold placesOf
 rw[e,List.filter_append,List.filter_append]
 have h1:(List.range' 0 i).filter (λk=>match all[k]? with|some q=>q.name==p.name|none=>false)=[]:=by
  rw[List.filter_eq_nil_iff]
  intro k hk
  simp only[List.mem_range'_1]at hk
  cases hq:all[k]? with
  |none=>simp
  |some q=>simpa using hf k q (by omega) hq
 have h3:(List.range' (aD all i) (all.length-aD all i)).filter (λk=>match all[k]? with|some q=>q.name==p.name|none=>false)=[]:=by
  rw[List.filter_eq_nil_iff]
  intro k hk
  simp only[List.mem_range'_1]at hk
  cases hq:all[k]? with
  |none=>simp
  |some q=>
   simp only[beq_iff_eq]
   intro hn
   have hlt:aD all i<all.length:=by omega
   obtain⟨r,hr⟩:=get_some hlt
   have hrn:=hc i (aD all i) k p r q hp hr hq (by omega) (by omega) hn.symm
   have:=(lO hp (Nat.le_refl _)).1 r (by rw[show i+(aD all i-i)=aD all i by omega];exact hr) hrn
   omega
 have h2:(List.range' i (aD all i-i)).filter (λk=>match all[k]? with|some q=>q.name==p.name|none=>false)=List.range' i (aD all i-i):=by
  rw[List.filter_eq_self]
  intro k hk
  simp only[List.mem_range'_1]at hk
  obtain⟨q,hq,hn⟩:=ku hp hk.1 (by omega)
  rw[hq]
  simpa using hn
 rw[h1,h2,h3,List.nil_append,List.append_nil]
theorem fb {all:List Pkg}: ∀{f i:Nat} {t:List Nat},i≤all.length→dH all f i t=((cA (c7 all f i)).map (t++ ·)).filter λu=>fU (atL all u)
 |0,i,t,hi=>by
  simp only[dH,c7,cA,List.map_cons,List.map_nil,List.append_nil,List.filter_cons,List.filter_nil]
 |f+1,i,t,hi=>by
  rw[dH,c7]
  by_cases h:i=all.length
  ·rw[if_pos h,if_pos h]
   simp only[cA,List.map_cons,List.map_nil,List.append_nil,List.filter_cons,List.filter_nil]
  ·rw[if_neg h,if_neg h]
   obtain⟨p,hp⟩:=get_some (show i<all.length by omega)
   obtain⟨b1,b2⟩:=cM hp
   rw[cA,List.map_append,List.filter_append,k9,fh,fb b2]
   congr 1
   refine ma λk _=>?_
   rw[fb b2,List.map_map]
   congr 1
   refine List.map_congr_left λu _=>?_
   show t++[k]++u=t++(k::u)
   simp
theorem jS {all:List Pkg}(hc:mw all): ∀{f i:Nat},all.length≤f+i→i≤all.length→(∀j p q,j<i→all[j]?=some q→all[i]?=some p→q.name≠p.name)→
  (∀g∈c7 all f i,∃p,g=placesOf all p.name∧p∈all∧ ∀k∈g,i≤k)∧(∀k,i≤k→k<all.length→ ∃g∈c7 all f i,k∈g)∧pW (c7 all f i)
 |0,i,hf,hi,h0=>by
  refine⟨λg hg=>(by cases hg),λk h1 h2=>by omega,trivial⟩
 |f+1,i,hf,hi,h0=>by
  rw[c7]
  by_cases h:i=all.length
  ·rw[if_pos h]
   exact⟨λg hg=>(by cases hg),λk h1 h2=>by omega,trivial⟩
  ·rw[if_neg h]
   obtain⟨p,hp⟩:=get_some (show i<all.length by omega)
   obtain⟨b1,b2⟩:=cM hp
   have hpl:=run_places hc hp λj q hj hq=>h0 j p q hj hq hp
   have hnext: ∀j p' q,j<aD all i→all[j]?=some q→all[aD all i]?=some p'→q.name≠p'.name:=λj p' q hj hq hp' hn=>by
    by_cases hji:j<i
    ·have:=hc j i (aD all i) q p p' hq hp hp' (by omega) (by omega) hn
     exact h0 j p q hji hq hp this.symm
    ·obtain⟨q',hq',hn'⟩:=ku hp (by omega:i≤j) hj
     rw[hq]at hq'
     cases hq'
     have:=(lO hp (Nat.le_refl _)).1 p' (by rw[show i+(aD all i-i)=aD all i by omega];exact hp') (hn.symm.trans hn')
     omega
   obtain⟨g1,g2,g3⟩:=jS hc (f:=f) (i:=aD all i) (by omega) b2 hnext
   refine⟨λg hg=>?_,λk h1 h2=>?_,λk hk g hg hkg=>?_,g3⟩
   ·rcases List.mem_cons.1 hg with rfl|hg
    ·exact⟨p,hpl,List.mem_of_getElem? hp,λk hk=>by simp only[List.mem_range'_1]at hk;exact hk.1⟩
    ·obtain⟨q,h1,h2,h3⟩:=g1 g hg
     exact⟨q,h1,h2,λk hk=>by have:=h3 k hk;omega⟩
   ·by_cases hk:k<aD all i
    ·exact⟨List.range' i (aD all i-i),by simp,by simp only[List.mem_range'_1];omega⟩
    ·obtain⟨g,hg,hkg⟩:=g2 k (by omega) h2
     exact⟨g,by simp[hg],hkg⟩
   ·simp only[List.mem_range'_1]at hk
    obtain⟨_,_,_,h3⟩:=g1 g hg
    have:=h3 k hkg
    omega
end Go.Av
end
section
namespace Go.Av
open Go.Proofs.Tryz
def bitsOf (n:Nat)(f:Nat→Bool):Nat:=bH ((List.range n).filter f)
theorem fY (n:Nat)(f:Nat→Bool)(i:Nat):(bitsOf n f).testBit i=(decide (i<n)&&f i):=by
 unfold bitsOf
 rw[ct,Bool.eq_iff_iff]
 simp[List.mem_filter,List.mem_range]
def sY (all:List Pkg)(c:Clause)(k:Nat):Bool:=match all[k]? with
 |some q=>c.any (eu q)
 |none=>false
def eP (all:List Pkg)(c:Clause):Nat:=bitsOf all.length (sY all c)
def gL (all:List Pkg)(i k:Nat):Bool:=match all[i]?,all[k]? with
 |some p,some q=>fp p q
 |_,_=>false
def gj (all:List Pkg)(i:Nat):Nat:=bitsOf all.length (gL all i)
def nC (all:List Pkg)(i:Nat):List Nat:=match all[i]? with
 |some p=>(p.pre++p.dep).map (eP all)
 |none=>[]
def eK (all:List Pkg)(s:Nat):Bool:=(aT all.length s).all λi=>(nC all i).all λn=>n &&& s !=0
def zN (all:List Pkg)(s:List aC)(l:List aH)(i:Nat):Bool:=match all[i]? with
 |some p=>wG l s p
 |none=>false
def dQ (all:List Pkg)(s:List aC)(l:List aH):Dat:=⟨zN all s l,gj all,eK all⟩
def kB (all:List Pkg):Nat→Nat→List (List UInt8)
 |0,_=>[]
 |f+1,i=>match all[i]? with
  |some p=>p.name::kB all f (aD all i)
  |none=>[]
def aK (all:List Pkg)(s:List aC)(l:List aH):List (Bool×List Nat):=(kB all (all.length+1) 0).map λn=>(my l s n,placesOf all n)
theorem kC {all:List Pkg}(hc:mw all): ∀{f i:Nat},i≤all.length→(∀j p q,j<i→all[j]?=some q→all[i]?=some p→q.name≠p.name)→c7 all f i=(kB all f i).map (placesOf all)
 |0,i,hi,h0=>rfl
 |f+1,i,hi,h0=>by
  rw[c7,kB]
  by_cases h:i=all.length
  ·rw[if_pos h,List.getElem?_eq_none (by omega)]
   rfl
  ·rw[if_neg h]
   obtain⟨p,hp⟩:=get_some (show i<all.length by omega)
   obtain⟨b1,b2⟩:=cM hp
   rw[hp,run_places hc hp λj q hj hq=>h0 j p q hj hq hp,List.map_cons,kC hc b2 λj p' q hj hq hp' hn=>?_]
   by_cases hji:j<i
   ·have:=hc j i (aD all i) q p p' hq hp hp' (by omega) (by omega) hn
    exact h0 j p q hji hq hp this.symm
   ·obtain⟨q',hq',hn'⟩:=ku hp (by omega:i≤j) hj
    rw[hq]at hq'
    cases hq'
    have:=(lO hp (Nat.le_refl _)).1 p' (by rw[show i+(aD all i-i)=aD all i by omega];exact hp') (hn.symm.trans hn')
    omega
theorem ka {R:Nat→Nat→Prop}: ∀{gs:List (List Nat)},gs.Pairwise (λg h=>∀ i∈g,∀j∈h,R i j)→ ∀{t:List Nat},t∈cA gs→t.Pairwise R
 |[],_,t,h=>by
  simp only[cA,List.mem_singleton]at h
  rw[h]
  exact .nil
 |g::r,hp,t,h=>by
  obtain⟨h1,h2⟩:=List.pairwise_cons.1 hp
  rcases qe.1 h with⟨i,hi,u,hu,rfl⟩|h
  ·refine List.pairwise_cons.2 ⟨λj hj=>?_,ka h2 hu⟩
   obtain⟨g',hg,hj⟩:=er hu j hj
   exact h1 g' hg i hi j hj
  ·exact ka h2 h
theorem qy : ∀{gs:List (List Nat)},pW gs→gs.Pairwise λg h=>∀ i∈g,i∉h
 |[],_=>.nil
 |_::_,h=>List.pairwise_cons.2 ⟨λg' hg i hi=>h.1 i hi g' hg,qy h.2⟩
theorem eL {all:List Pkg}{t:List Nat}{p:Pkg}:p∈atL all t↔ ∃i∈t,all[i]?=some p:=by
 unfold atL
 rw[List.mem_filterMap]
theorem bK {k n i:Nat}:i∈aT k n↔i<k∧n.testBit i=true:=by
 unfold aT
 rw[List.mem_filter,List.mem_range]
theorem tM {a b:Nat}:(a &&& b !=0)=true↔ ∃i,a.testBit i=true∧b.testBit i=true:=by
 rw[bne_iff_ne,ne_eq]
 constructor
 ·intro h
  refine Classical.byContradiction λhn=>h (Nat.eq_of_testBit_eq λi=>?_)
  rw[Nat.testBit_and,Nat.zero_testBit]
  cases ha:a.testBit i<;>cases hb:b.testBit i<;>first|rfl|exact absurd ⟨i,ha,hb⟩ hn
 ·rintro⟨i,ha,hb⟩ h
  have:=congrArg (·.testBit i) h
  simp[Nat.testBit_and,ha,hb]at this
theorem G7 {all:List Pkg}{s:List aC}{l:List aH}(hm: ∀p∈all,aW p=0)(hc:mw all)(hU:Uni all s l)(hnv:cK all s l=false){t:List Nat}(ht:t∈cA (c7 all (all.length+1) 0)):
  (okP (dQ all s l) (aK all s l) 0 t&&eK all (bH t))=(fU (atL all t)&&gE l (atL all t) s):=by
 obtain⟨r1,r2,r3⟩:=jS hc (f:=all.length+1) (i:=0) (by omega) (by omega) (λj p q hj=>by omega)
 have hrn:=kC hc (f:=all.length+1) (i:=0) (by omega) (λj p q hj=>by omega)
 have hg2:(aK all s l).map (·.2)=c7 all (all.length+1) 0:=by
  unfold aK
  rw[List.map_map,hrn]
  rfl
 have hlt: ∀i∈t,∃p,all[i]?=some p:=λi hi=>by
  obtain⟨g,hg,hig⟩:=er ht i hi
  obtain⟨p,rfl,_⟩:=r1 g hg
  obtain⟨q,hq,_⟩:=bj.1 hig
  exact⟨q,hq⟩
 have hpw:t.Pairwise λi j=>∀ p q,all[i]?=some p→all[j]?=some q→p.name≠q.name:=by
  refine ka ((qy r3).imp_of_mem λ{g h} hg hh hd i hi j hj p q hp hq hn=>?_) ht
  obtain⟨p1,rfl,_⟩:=r1 g hg
  obtain⟨p2,rfl,_⟩:=r1 h hh
  obtain⟨x,hx,hxn⟩:=bj.1 hi
  obtain⟨y,hy,hyn⟩:=bj.1 hj
  rw[hp]at hx
  rw[hq]at hy
  cases hx
  cases hy
  exact hd i hi (bj.2 ⟨p,hp,by rw[hn,hyn]⟩)
 have hnd:((atL all t).map (·.name)).Nodup:=by
  unfold atL
  rw[List.Nodup,List.pairwise_map,List.pairwise_filterMap]
  exact hpw.imp λ{i j} h p hp q hq=>h p q hp hq
 have hin: ∀p∈atL all t,p∈all:=λp hp=>by
  obtain⟨i,_,h⟩:=eL.1 hp
  exact List.mem_of_getElem? h
 rw[Bool.eq_iff_iff,Bool.and_eq_true,Bool.and_eq_true,xu _ (by rw[hg2];exact r3) (by rw[hg2];exact ht),yj,wX hU hin hnd]
 have hmay:(∀i∈t,(dQ all s l).may i=true∧(0:Nat).testBit i=false)↔ ∀p∈atL all t,wG l s p=true:=by
  constructor
  ·intro h p hp
   obtain⟨i,hi,hip⟩:=eL.1 hp
   have:=(h i hi).1
   simpa[dQ,zN,hip]using this
  ·intro h i hi
   obtain⟨p,hp⟩:=hlt i hi
   refine⟨?_,by simp⟩
   have:=h p (eL.2 ⟨i,hi,hp⟩)
   simpa[dQ,zN,hp]using this
 have hlack:(∀g∈aK all s l,(∀i∈t,i∉g.2)→g.1=true)↔ ∀q∈all,dT (atL all t) q.name=none→my l s q.name=true:=by
  have habs: ∀n,(∀i∈t,i∉placesOf all n)↔dT (atL all t) n=none:=λn=>by
   constructor
   ·intro h
    unfold dT
    rw[List.find?_eq_none]
    intro p hp
    obtain⟨i,hi,hip⟩:=eL.1 hp
    have:=h i hi
    rw[bj]at this
    simp only[beq_iff_eq]
    exact λe=>this ⟨p,hip,e⟩
   ·intro h i hi hm2
    obtain⟨p,hp,hn⟩:=bj.1 hm2
    exact vQ (f:=Pkg.name) h p (eL.2 ⟨i,hi,hp⟩) hn
  constructor
  ·intro h q hq hf
   obtain⟨k,hk⟩:=List.mem_iff_getElem?.1 hq
   obtain⟨g,hg,hkg⟩:=r2 k (by omega) (List.getElem?_eq_some_iff.1 hk).1
   rw[hrn]at hg
   obtain⟨n,hn,rfl⟩:=List.mem_map.1 hg
   obtain⟨q',hq',hqn⟩:=bj.1 hkg
   rw[hk]at hq'
   cases hq'
   have:=h (my l s n,placesOf all n) (List.mem_map.2 ⟨n,hn,rfl⟩) ((habs n).2 (by rw[←hqn];exact hf))
   rw[hqn]
   exact this
  ·intro h g hg hno
   obtain⟨n,hn,rfl⟩:=List.mem_map.1 hg
   have hgr:placesOf all n∈c7 all (all.length+1) 0:=by rw[hrn];exact List.mem_map_of_mem hn
   have hne: ∃q∈all,q.name=n:=by
    have: ∀{f i:Nat},n∈kB all f i→ ∃q∈all,q.name=n:=λ{f}=>by
     induction f with
     |zero=>intro i h;cases h
     |succ f ih=>
      intro i h
      rw[kB]at h
      cases hp:all[i]? with
      |none=>rw[hp]at h;cases h
      |some p=>
       rw[hp]at h
       rcases List.mem_cons.1 h with rfl|h
       ·exact⟨p,List.mem_of_getElem? hp,rfl⟩
       ·exact ih h
    exact this hn
   obtain⟨q,hq,rfl⟩:=hne
   exact h q hq ((habs _).1 hno)
 have hclash:(t.Pairwise λi j=>((dQ all s l).lk i).testBit j=false)↔(atL all t).Pairwise λp q=>fp p q=false:=by
  unfold atL
  rw[List.pairwise_filterMap]
  constructor
  ·intro h
   refine h.imp_of_mem λ{i j} hi hj h p hp q hq=>?_
   have hb:((gj all i).testBit j)=false:=h
   unfold gj at hb
   rw[fY]at hb
   have hjl:=(List.getElem?_eq_some_iff.1 hq).1
   rw[decide_eq_true hjl,Bool.true_and]at hb
   unfold gL at hb
   rw[hp,hq]at hb
   exact hb
  ·intro h
   refine h.imp_of_mem λ{i j} hi hj h=>?_
   show(gj all i).testBit j=false
   unfold gj
   rw[fY]
   obtain⟨p,hp⟩:=hlt i hi
   obtain⟨q,hq⟩:=hlt j hj
   simp[gL,hp,hq,h p hp q hq]
 have hmet:eK all (bH t)=true↔ ∀p∈atL all t,∀c∈p.pre++p.dep,∃q∈atL all t,c.any (eu q)=true:=by
  unfold eK
  rw[List.all_eq_true]
  constructor
  ·intro h p hp c hcm
   obtain⟨i,hi,hip⟩:=eL.1 hp
   have h1:=h i (bK.2 ⟨(List.getElem?_eq_some_iff.1 hip).1,by rw[ct];simpa using hi⟩)
   unfold nC at h1
   rw[hip]at h1
   have h2:=List.all_eq_true.1 h1 (eP all c) (List.mem_map_of_mem hcm)
   obtain⟨j,hj1,hj2⟩:=tM.1 h2
   unfold eP at hj1
   rw[fY,Bool.and_eq_true]at hj1
   rw[ct,decide_eq_true_eq]at hj2
   obtain⟨q,hq⟩:=hlt j hj2
   exact⟨q,eL.2 ⟨j,hj2,hq⟩,by simpa[sY,hq]using hj1.2⟩
  ·intro h i hi
   obtain⟨hil,hib⟩:=bK.1 hi
   rw[ct,decide_eq_true_eq]at hib
   obtain⟨p,hp⟩:=hlt i hib
   unfold nC
   rw[hp,List.all_eq_true]
   intro n hn
   obtain⟨c,hcm,rfl⟩:=List.mem_map.1 hn
   obtain⟨q,hq,hsat⟩:=h p (eL.2 ⟨i,hib,hp⟩) c hcm
   obtain⟨j,hj,hjq⟩:=eL.1 hq
   refine tM.2 ⟨j,?_,by rw[ct];simpa using hj⟩
   unfold eP
   rw[fY]
   rw[decide_eq_true (List.getElem?_eq_some_iff.1 hjq).1,Bool.true_and]
   unfold sY
   rw[hjq]
   exact hsat
 rw[hmay,hlack,hclash,hmet]
 constructor
 ·rintro⟨⟨h1,h2,h3⟩,h4⟩
  refine⟨⟨λp hp=>hm p (hin p hp),?_,h4⟩,hnv,h1,h3⟩
  have h5:(atL all t).Pairwise λp q=>p.name≠q.name:=by
   have:=hnd
   rw[List.Nodup,List.pairwise_map]at this
   exact this
  exact h5.and h2
 ·rintro⟨⟨h1,h2,h3⟩,h4,h5,h6⟩
  exact⟨⟨h5,h2.imp λ{a b} h=>h.2,h6⟩,h3⟩
theorem yV {all:List Pkg}{s:List aC}{l:List aH}(hm: ∀p∈all,aW p=0)(hc:mw all)(hU:Uni all s l)(hnv:cK all s l=false):
  (nh (dQ all s l) (aK all s l) 0 0).Perm (((dH all (all.length+1) 0 []).filter λt=>gE l (atL all t) s).map bH):=by
 obtain⟨_,_,r3⟩:=jS hc (f:=all.length+1) (i:=0) (by omega) (by omega) (λj p q hj=>by omega)
 have hrn:=kC hc (f:=all.length+1) (i:=0) (by omega) (λj p q hj=>by omega)
 have hg2:(aK all s l).map (·.2)=c7 all (all.length+1) 0:=by
  unfold aK
  rw[List.map_map,hrn]
  rfl
 refine(vo _ 0 0 (by rw[hg2];exact r3)).trans (List.Perm.of_eq ?_)
 rw[hg2,fb (by omega),List.filter_map,List.filter_filter]
 have e1:(λt=>0 ||| bH t)=bH:=by
  funext t
  simp
 rw[e1]
 have e2:(cA (c7 all (all.length+1) 0)).map (([]:List Nat)++ ·)=cA (c7 all (all.length+1) 0):=by
  simp
 rw[e2,List.filter_filter]
 congr 1
 refine List.filter_congr λt ht=>?_
 have h:=G7 hm hc hU hnv ht
 show(eK all (bH t)&&okP _ _ _ t)=(gE _ _ _&&fU _)
 rw[Bool.and_comm,h,Bool.and_comm]
end Go.Av
end
section
namespace Go.Av
open Go.Proofs.Tryz
def cL (all:List Pkg)(p:Pkg):Nat:=(all.filter λq=>q.name==p.name&&decide (0<bA q.ver p.ver)).length
def Fs (t:List Pkg):Nat:=(t.map λp=>(p.rcm.filter λc=>!A0 c t).length).sum
def Af (up:Bool)(r c m n l:Nat):List Nat:=if up=true then [l,r,m,n,c]else [r,c,m,n,l]
def Cj (t:List Pkg)(x:aC):Bool:=match dT t x.pkg.name with
 |some p=>!bm p.ver x.pkg.ver
 |none=>false
def v8 (all:List Pkg)(s:List aC)(t:List Pkg)(up:Bool):List Nat:=
 Af up (s.filter λx=>(dT t x.pkg.name).isNone).length (s.filter (Cj t)).length (Fs t) (t.filter λp=>(ec s p.name).isNone).length ((t.map (cL all)).sum)
def orN :List Nat→Nat
 |[]=>0
 |a::r=>a ||| orN r
theorem CQ : ∀(l:List Nat) (i:Nat),(orN l).testBit i=l.any λa=>a.testBit i
 |[],i=>by simp[orN]
 |a::r,i=>by rw[orN,Nat.testBit_or,CQ r i,List.any_cons]
def gB (all:List Pkg)(x:aC):Nat:=bH (placesOf all x.pkg.name)
def gS (all:List Pkg)(s:List aC)(i:Nat):Bool:=match all[i]? with
 |some p=>(match ec s p.name with
  |some x=>!bm x.pkg.ver p.ver
  |none=>false)
 |none=>false
def tI (all:List Pkg)(i:Nat):List Nat:=match all[i]? with
 |some p=>p.rcm.map (eP all)
 |none=>[]
def dq (all:List Pkg)(i:Nat):Nat:=match all[i]? with
 |some p=>cL all p
 |none=>0
def jg (all:List Pkg)(s:List aC)(S:Nat)(up:Bool):List Nat:=
 Af up (s.filter λx=>gB all x &&& S==0).length ((aT all.length S).filter (gS all s)).length
  ((aT all.length S).map λi=>((tI all i).filter λw=>w &&& S==0).length).sum
  ((aT all.length S).filter λi=>!(orN (s.map (gB all))).testBit i).length ((aT all.length S).map (dq all)).sum
theorem rR {all:List Pkg}(hc:mw all): ∀{f i:Nat},all.length≤f+i→i≤all.length→(∀j p q,j<i→all[j]?=some q→all[i]?=some p→q.name≠p.name)→(c7 all f i).Pairwise (λg h=>∀ i∈g,∀j∈h,i<j)∧ ∀g∈c7 all f i,g.Pairwise (· < ·)
 |0,i,hf,hi,h0=>⟨.nil,λg hg=>by cases hg⟩
 |f+1,i,hf,hi,h0=>by
  rw[c7]
  by_cases h:i=all.length
  ·rw[if_pos h]
   exact⟨.nil,λg hg=>by cases hg⟩
  ·rw[if_neg h]
   obtain⟨p,hp⟩:=get_some (show i<all.length by omega)
   obtain⟨b1,b2⟩:=cM hp
   have hnext: ∀j p' q,j<aD all i→all[j]?=some q→all[aD all i]?=some p'→q.name≠p'.name:=λj p' q hj hq hp' hn=>by
    by_cases hji:j<i
    ·have:=hc j i (aD all i) q p p' hq hp hp' (by omega) (by omega) hn
     exact h0 j p q hji hq hp this.symm
    ·obtain⟨q',hq',hn'⟩:=ku hp (by omega:i≤j) hj
     rw[hq]at hq'
     cases hq'
     have:=(lO hp (Nat.le_refl _)).1 p' (by rw[show i+(aD all i-i)=aD all i by omega];exact hp') (hn.symm.trans hn')
     omega
   obtain⟨k1,k2⟩:=rR hc (f:=f) (i:=aD all i) (by omega) b2 hnext
   obtain⟨g1,_,_⟩:=jS hc (f:=f) (i:=aD all i) (by omega) b2 hnext
   refine⟨List.pairwise_cons.2 ⟨λg hg a ha b hb=>?_,k1⟩,λg hg=>?_⟩
   ·simp only[List.mem_range'_1]at ha
    obtain⟨_,_,_,h3⟩:=g1 g hg
    have:=h3 b hb
    omega
   ·rcases List.mem_cons.1 hg with rfl|hg
    ·exact List.pairwise_lt_range'
    ·exact k2 g hg
theorem xg {all:List Pkg}(hc:mw all){t:List Nat}(ht:t∈cA (c7 all (all.length+1) 0)):aT all.length (bH t)=t:=by
 obtain⟨r1,r2,r3⟩:=jS hc (f:=all.length+1) (i:=0) (by omega) (by omega) (λj p q hj=>by omega)
 obtain⟨k1,k2⟩:=rR hc (f:=all.length+1) (i:=0) (by omega) (by omega) (λj p q hj=>by omega)
 have hs:t.Pairwise (· < ·):=ka k1 ht
 have h2:(aT all.length (bH t)).Pairwise (· < ·):=List.Pairwise.sublist List.filter_sublist List.pairwise_lt_range
 refine List.Perm.eq_of_pairwise (le:=(· < ·)) (λa b _ _ h1 h2=>by omega) h2 hs ?_
 rw[List.perm_ext_iff_of_nodup (h2.imp λ{a b} h=>by omega) (hs.imp λ{a b} h=>by omega)]
 intro i
 rw[bK,ct,decide_eq_true_eq]
 constructor
 ·exact λh=>h.2
 ·intro hi
  obtain⟨g,hg,hig⟩:=er ht i hi
  obtain⟨p,rfl,_⟩:=r1 g hg
  obtain⟨q,hq,_⟩:=bj.1 hig
  exact⟨(List.getElem?_eq_some_iff.1 hq).1,hi⟩
theorem wW {all:List Pkg}(f:Pkg→Nat)(g:Nat→Nat)(hg: ∀i,g i=match all[i]? with|some p=>f p|none=>0): ∀t:List Nat,(t.map g).sum=((atL all t).map f).sum
 |[]=>rfl
 |i::r=>by
  have ih:=wW f g hg r
  have h1:=hg i
  cases hp:all[i]? with
  |none=>
   rw[hp]at h1
   have e:atL all (i::r)=atL all r:=by simp[atL,hp]
   rw[List.map_cons,List.sum_cons,h1,ih,e,Nat.zero_add]
  |some p=>
   rw[hp]at h1
   have e:atL all (i::r)=p::atL all r:=by simp[atL,hp]
   rw[List.map_cons,List.sum_cons,h1,ih,e,List.map_cons,List.sum_cons]
theorem tx {all:List Pkg}(f:Pkg→Bool)(g:Nat→Bool){t:List Nat}(hg: ∀i∈t,∃p,all[i]?=some p∧g i=f p):(t.filter g).length=((atL all t).filter f).length:=by
 induction t with
 |nil=>rfl
 |cons i r ih=>
  obtain⟨p,hp,h1⟩:=hg i (by simp)
  have e:atL all (i::r)=p::atL all r:=by simp[atL,hp]
  have ih:=ih λj hj=>hg j (by simp[hj])
  rw[e,List.filter_cons,List.filter_cons,h1]
  split
  ·rw[List.length_cons,List.length_cons,ih]
  ·exact ih
theorem and_zero {a b:Nat}:(a &&& b==0)= !(a &&& b !=0):=by
 simp[bne]
theorem I2 {all:List Pkg}{s:List aC}{l:List aH}(hc:mw all)(hU:Uni all s l){t:List Nat}(ht:t∈cA (c7 all (all.length+1) 0))(up:Bool):jg all s (bH t) up=v8 all s (atL all t) up:=by
 obtain⟨r1,r2,r3⟩:=jS hc (f:=all.length+1) (i:=0) (by omega) (by omega) (λj p q hj=>by omega)
 have hlt: ∀i∈t,∃p,all[i]?=some p:=λi hi=>by
  obtain⟨g,hg,hig⟩:=er ht i hi
  obtain⟨p,rfl,_⟩:=r1 g hg
  obtain⟨q,hq,_⟩:=bj.1 hig
  exact⟨q,hq⟩
 have hpw:t.Pairwise λi j=>∀ p q,all[i]?=some p→all[j]?=some q→p.name≠q.name:=by
  refine ka ((qy r3).imp_of_mem λ{g h} hg hh hd i hi j hj p q hp hq hn=>?_) ht
  obtain⟨p1,rfl,_⟩:=r1 g hg
  obtain⟨p2,rfl,_⟩:=r1 h hh
  obtain⟨x,hx,hxn⟩:=bj.1 hi
  obtain⟨y,hy,hyn⟩:=bj.1 hj
  rw[hp]at hx
  rw[hq]at hy
  cases hx
  cases hy
  exact hd i hi (bj.2 ⟨p,hp,by rw[hn,hyn]⟩)
 have hnd:((atL all t).map (·.name)).Nodup:=by
  unfold atL
  rw[List.Nodup,List.pairwise_map,List.pairwise_filterMap]
  exact hpw.imp λ{i j} h p hp q hq=>h p q hp hq
 unfold jg v8
 rw[xg hc ht]
 have hthere: ∀x:aC,(gB all x &&& bH t==0)=(dT (atL all t) x.pkg.name).isNone:=λx=>by
  rw[and_zero,Bool.eq_iff_iff,Bool.not_eq_true',←Bool.not_eq_true,tM,Option.isNone_iff_eq_none]
  unfold gB
  constructor
  ·intro h
   unfold dT
   rw[List.find?_eq_none]
   intro p hp
   obtain⟨i,hi,hip⟩:=eL.1 hp
   simp only[beq_iff_eq]
   exact λe=>h ⟨i,by rw[ct,decide_eq_true_eq,bj];exact⟨p,hip,e⟩,by rw[ct];simpa using hi⟩
  ·rintro h ⟨i,h1,h2⟩
   rw[ct,decide_eq_true_eq]at h1 h2
   obtain⟨p,hp,hn⟩:=bj.1 h1
   exact vQ (f:=Pkg.name) h p (eL.2 ⟨i,h2,hp⟩) hn
 have e1:(s.filter λx=>gB all x &&& bH t==0)=s.filter λx=>(dT (atL all t) x.pkg.name).isNone:=List.filter_congr λx _=>hthere x
 have e2:(t.filter (gS all s)).length=(s.filter (Cj (atL all t))).length:=by
  rw[tx (λp=>match ec s p.name with|some x=>!bm x.pkg.ver p.ver|none=>false) _ λi hi=>by
   obtain⟨p,hp⟩:=hlt i hi
   exact⟨p,hp,by unfold gS;rw[hp]⟩]
  have key: ∀(A:List Pkg) (B:List aC),((A.map Pkg.name).Perm (B.map λx=>x.pkg.name))→A.length=B.length:=λA B h=>by simpa using h.length_eq
  refine key _ _ ((List.perm_ext_iff_of_nodup ?_ ?_).2 λn=>?_)
  ·exact hnd.sublist (List.Sublist.map _ List.filter_sublist)
  ·exact hU.FH.sublist (List.Sublist.map _ List.filter_sublist)
  ·simp only[List.mem_map,List.mem_filter]
   constructor
   ·rintro⟨p,⟨hp,h1⟩,rfl⟩
    cases hx:ec s p.name with
    |none=>rw[hx]at h1;cases h1
    |some x=>
     rw[hx]at h1
     obtain⟨hxm,hxn⟩:=mP hx
     refine⟨x,⟨hxm,?_⟩,hxn⟩
     unfold Cj
     rw[hxn,vM hnd hp]
     simp only
     rw[kv]
     exact h1
   ·rintro⟨x,⟨hx,h1⟩,rfl⟩
    unfold Cj at h1
    cases hf:dT (atL all t) x.pkg.name with
    |none=>rw[hf]at h1;cases h1
    |some p=>
     rw[hf]at h1
     obtain⟨hp,hpn⟩:=ju hf
     refine⟨p,⟨hp,?_⟩,hpn⟩
     rw[hpn,pJ hU.FH hx]
     simp only
     rw[kv]
     exact h1
 have e3:(t.map λi=>((tI all i).filter λw=>w &&& bH t==0).length).sum=Fs (atL all t):=by
  refine wW (λp=>(p.rcm.filter λc=>!A0 c (atL all t)).length) _ (λi=>?_) t
  unfold tI
  cases hp:all[i]? with
  |none=>rfl
  |some p=>
   simp only
   rw[List.filter_map,List.length_map]
   congr 1
   refine List.filter_congr λc _=>?_
   show(eP all c &&& bH t==0)= !A0 c (atL all t)
   rw[and_zero]
   congr 1
   rw[Bool.eq_iff_iff,tM,zb]
   constructor
   ·rintro⟨j,h1,h2⟩
    unfold eP at h1
    rw[fY,Bool.and_eq_true]at h1
    rw[ct,decide_eq_true_eq]at h2
    obtain⟨q,hq⟩:=hlt j h2
    refine⟨q,eL.2 ⟨j,h2,hq⟩,?_⟩
    have:=h1.2
    unfold sY at this
    rw[hq]at this
    exact this
   ·rintro⟨q,hq,hsat⟩
    obtain⟨j,hj,hjq⟩:=eL.1 hq
    refine⟨j,?_,by rw[ct];simpa using hj⟩
    unfold eP
    rw[fY,decide_eq_true (List.getElem?_eq_some_iff.1 hjq).1,Bool.true_and]
    unfold sY
    rw[hjq]
    exact hsat
 have e4:(t.filter λi=>!(orN (s.map (gB all))).testBit i).length=((atL all t).filter λp=>(ec s p.name).isNone).length:=by
  refine tx _ _ λi hi=>?_
  obtain⟨p,hp⟩:=hlt i hi
  refine⟨p,hp,?_⟩
  rw[CQ,List.any_map,Bool.eq_iff_iff,Bool.not_eq_true',List.any_eq_false,Option.isNone_iff_eq_none]
  unfold ec
  rw[List.find?_eq_none]
  constructor
  ·intro h x hx
   have:=h x hx
   show ¬(x.pkg.name==p.name)=true
   rw[beq_iff_eq]
   intro e
   refine this ?_
   show(bH (placesOf all x.pkg.name)).testBit i=true
   rw[ct,decide_eq_true_eq,bj]
   exact⟨p,hp,e.symm⟩
  ·intro h x hx hb
   have hb:(bH (placesOf all x.pkg.name)).testBit i=true:=hb
   rw[ct,decide_eq_true_eq,bj]at hb
   obtain⟨q,hq,hn⟩:=hb
   rw[hp]at hq
   cases hq
   exact h x hx (by simpa using hn.symm)
 have e5:(t.map (dq all)).sum=((atL all t).map (cL all)).sum:=wW (cL all) _ (λi=>rfl) t
 rw[e1,e2,e3,e4,e5]
end Go.Av
end
section
namespace Go.Av
def lexB :List Nat→List Nat→Bool
 |a::x,b::y=>if a=b then lexB x y else decide (a<b)
 |_,_=>false
def eF :List Nat→List Nat→Bool
 |[],_=>false
 |_::_,[]=>true
 |a::x,b::y=>if a=b then eF x y else decide (a<b)
def ltP (x y:List Nat×List Nat):Bool:=lexB x.1 y.1||(x.1==y.1&&eF x.2 y.2)
theorem xX : ∀a:List Nat,lexB a a=false
 |[]=>rfl
 |a::x=>by rw[lexB,if_pos rfl,xX x]
theorem tm : ∀{a b c:List Nat},lexB a b=true→lexB b c=true→lexB a c=true
 |[],_,_,h,_=>by cases h
 |_::_,[],_,h,_=>by cases h
 |_::_,_::_,[],_,h=>by cases h
 |a::x,b::y,c::z,h1,h2=>by
  rw[lexB]at h1 h2 ⊢
  by_cases hab:a=b
  ·subst hab
   rw[if_pos rfl]at h1
   by_cases hac:a=c
   ·subst hac
    rw[if_pos rfl]at h2 ⊢
    exact tm h1 h2
   ·rw[if_neg hac]at h2 ⊢
    exact h2
  ·rw[if_neg hab,decide_eq_true_eq]at h1
   by_cases hbc:b=c
   ·subst hbc
    rw[if_neg hab,decide_eq_true_eq]
    exact h1
   ·rw[if_neg hbc,decide_eq_true_eq]at h2
    rw[if_neg (by omega),decide_eq_true_eq]
    omega
theorem yw : ∀{a b:List Nat},a.length=b.length→a≠b→lexB a b=true∨lexB b a=true
 |[],[],_,h=>absurd rfl h
 |[],_::_,h,_=>by cases h
 |_::_,[],h,_=>by cases h
 |a::x,b::y,hl,h=>by
  rw[lexB,lexB]
  by_cases hab:a=b
  ·subst hab
   rw[if_pos rfl,if_pos rfl]
   exact yw (by simpa using hl) λe=>h (by rw[e])
  ·rw[if_neg hab,if_neg (λe=>hab e.symm),decide_eq_true_eq,decide_eq_true_eq]
   omega
theorem sJ : ∀a:List Nat,eF a a=false
 |[]=>rfl
 |a::x=>by rw[eF,if_pos rfl,sJ x]
theorem o5 : ∀{a b c:List Nat},eF a b=true→eF b c=true→eF a c=true
 |[],_,_,h,_=>by cases h
 |_::_,[],_,_,h=>by cases h
 |_::_,_::_,[],_,_=>rfl
 |a::x,b::y,c::z,h1,h2=>by
  rw[eF]at h1 h2 ⊢
  by_cases hab:a=b
  ·subst hab
   rw[if_pos rfl]at h1
   by_cases hac:a=c
   ·subst hac
    rw[if_pos rfl]at h2 ⊢
    exact o5 h1 h2
   ·rw[if_neg hac]at h2 ⊢
    exact h2
  ·rw[if_neg hab,decide_eq_true_eq]at h1
   by_cases hbc:b=c
   ·subst hbc
    rw[if_neg hab,decide_eq_true_eq]
    exact h1
   ·rw[if_neg hbc,decide_eq_true_eq]at h2
    rw[if_neg (by omega),decide_eq_true_eq]
    omega
theorem tH : ∀{a b:List Nat},a≠b→eF a b=true∨eF b a=true
 |[],[],h=>absurd rfl h
 |[],_::_,_=>.inr rfl
 |_::_,[],_=>.inl rfl
 |a::x,b::y,h=>by
  rw[eF,eF]
  by_cases hab:a=b
  ·subst hab
   rw[if_pos rfl,if_pos rfl]
   exact tH λe=>h (by rw[e])
  ·rw[if_neg hab,if_neg (λe=>hab e.symm),decide_eq_true_eq,decide_eq_true_eq]
   omega
theorem rU {x y:List Nat×List Nat}:ltP x y=true↔lexB x.1 y.1=true∨(x.1=y.1∧eF x.2 y.2=true):=by
 unfold ltP
 simp only[Bool.or_eq_true,Bool.and_eq_true,beq_iff_eq]
theorem KD (x:List Nat×List Nat):ltP x x=false:=by
 rw[←Bool.not_eq_true,rU,xX,sJ]
 simp
theorem vw {x y z:List Nat×List Nat}(h1:ltP x y=true)(h2:ltP y z=true):ltP x z=true:=by
 rw[rU]at *
 rcases h1 with h1|⟨e1,h1⟩
 ·rcases h2 with h2|⟨e2,h2⟩
  ·exact .inl (tm h1 h2)
  ·exact .inl (by rw[←e2];exact h1)
 ·rcases h2 with h2|⟨e2,h2⟩
  ·exact .inl (by rw[e1];exact h2)
  ·exact .inr ⟨e1.trans e2,o5 h1 h2⟩
theorem Cv {x y:List Nat×List Nat}(hl:x.1.length=y.1.length)(h:x.2≠y.2)(hn:ltP x y=false):ltP y x=true:=by
 rw[←Bool.not_eq_true,rU]at hn
 rw[rU]
 by_cases he:x.1=y.1
 ·rcases tH h with h1|h1
  ·exact absurd (.inr ⟨he,h1⟩) hn
  ·exact .inr ⟨he.symm,h1⟩
 ·rcases yw hl he with h1|h1
  ·exact absurd (.inl h1) hn
  ·exact .inl h1
def tw (x:List Nat×List Nat)(o:List (List Nat×List Nat)):List (List Nat×List Nat):=o.takeWhile (λy=>ltP y x)++x::o.dropWhile λy=>ltP y x
def LI (l:List (List Nat×List Nat)):List (List Nat×List Nat):=l.foldl (λo x=>tw x o) []
theorem qo (x:List Nat×List Nat)(o:List (List Nat×List Nat)):(tw x o).Perm (x::o):=by
 unfold tw
 refine List.perm_middle.trans (List.Perm.cons _ ?_)
 rw[List.takeWhile_append_dropWhile]
theorem qW {x:List Nat×List Nat}: ∀{o:List (List Nat×List Nat)},o.Pairwise (λa b=>ltP a b=true)→(∀y∈o,y.2≠x.2∧y.1.length=x.1.length)→(tw x o).Pairwise λa b=>ltP a b=true
 |[],_,_=>by simp[tw]
 |y::r,hp,hd=>by
  obtain⟨h1,h2⟩:=List.pairwise_cons.1 hp
  unfold tw
  by_cases hy:ltP y x=true
  ·rw[List.takeWhile_cons,if_pos hy,List.dropWhile_cons,if_pos hy,List.cons_append]
   refine List.pairwise_cons.2 ⟨λz hz=>?_,qW h2 λz hz=>hd z (by simp[hz])⟩
   have hz2:z∈x::r:=(qo x r).subset hz
   rcases List.mem_cons.1 hz2 with rfl|hz2
   ·exact hy
   ·exact h1 z hz2
  ·rw[List.takeWhile_cons,if_neg hy,List.dropWhile_cons,if_neg hy,List.nil_append]
   obtain⟨d1,d2⟩:=hd y (by simp)
   have hxy:=Cv (x:=y) (y:=x) d2 d1 (by simpa using hy)
   refine List.pairwise_cons.2 ⟨λz hz=>?_,hp⟩
   rcases List.mem_cons.1 hz with rfl|hz
   ·exact hxy
   ·exact vw hxy (h1 z hz)
theorem yY {k:Nat}: ∀{l o:List (List Nat×List Nat)},(o++l).Pairwise (λa b=>a.2≠b.2)→(∀y∈o++l,y.1.length=k)→o.Pairwise (λa b=>ltP a b=true)→(l.foldl (λo x=>tw x o) o).Perm (o++l)∧(l.foldl (λo x=>tw x o) o).Pairwise λa b=>ltP a b=true
 |[],o,_,_,h=>by simpa using h
 |x::l,o,hd,hk,h=>by
  rw[List.foldl_cons]
  have hxo: ∀y∈o,y.2≠x.2:=λy hy=>(List.pairwise_append.1 hd).2.2 y hy x (by simp)
  have hs:=qW h λy hy=>⟨hxo y hy,by rw[hk y (by simp[hy]),hk x (by simp)]⟩
  have hp:(tw x o++l).Perm (o++x::l):=((qo x o).append_right l).trans (by rw[List.cons_append];exact List.perm_middle.symm)
  obtain⟨h1,h2⟩:=yY (k:=k) (l:=l) (o:=tw x o) (hp.symm.pairwise hd λ{a b} h=>h.symm) (λy hy=>hk y (hp.subset hy)) hs
  exact⟨h1.trans hp,h2⟩
def jN (t:List Nat):Nat:=bH (t.map (31- ·))
theorem n5 {a:Nat}{t:List Nat}(h:(a::t).Pairwise (· < ·))(h32: ∀i∈a::t,i<32):jN t<2^(31-a)∧jN (a::t)=2^(31-a)+jN t:=by
 have key: ∀(t:List Nat) (a:Nat),(a::t).Pairwise (· < ·)→(∀i∈a::t,i<32)→jN t<2^(31-a):=λt=>by
  induction t with
  |nil=>intro a _ _;exact Nat.two_pow_pos _
  |cons b r ih=>
   intro a h h32
   obtain⟨h1,h2⟩:=List.pairwise_cons.1 h
   have hab:=h1 b (by simp)
   have hb:=h32 b (by simp)
   have ihb:=ih b h2 λi hi=>h32 i (by simp only[List.mem_cons]at hi ⊢;exact .inr hi)
   have e:jN (b::r)=2^(31-b) ||| jN r:=rfl
   rw[e]
   refine Nat.or_lt_two_pow ?_ ?_
   ·exact Nat.pow_lt_pow_right (by decide) (by omega)
   ·exact Nat.lt_of_lt_of_le ihb (Nat.pow_le_pow_right (by decide) (by omega))
 have hlt:=key t a h h32
 refine⟨hlt,?_⟩
 show 2^(31-a) ||| jN t=_
 have:=Nat.two_pow_add_eq_or_of_lt hlt 1
 rw[Nat.mul_one]at this
 exact this.symm
theorem sQ : ∀{t u:List Nat},t.Pairwise (· < ·)→u.Pairwise (· < ·)→(∀i∈t,i<32)→(∀i∈u,i<32)→eF t u=decide (jN u<jN t)
 |[],u,_,_,_,_=>by
  rw[eF]
  exact(decide_eq_false (by simp[jN,bH])).symm
 |a::t,[],ht,_,h32,_=>by
  obtain⟨_,e⟩:=n5 ht h32
  rw[eF,e]
  have:=Nat.two_pow_pos (31-a)
  exact(decide_eq_true (by simp only[jN,List.map_nil,bH];omega)).symm
 |a::t,b::u,ht,hu,h32,h32u=>by
  obtain⟨g1,e1⟩:=n5 ht h32
  obtain⟨g2,e2⟩:=n5 hu h32u
  have ha:=h32 a (by simp)
  have hb:=h32u b (by simp)
  rw[eF,e1,e2]
  by_cases hab:a=b
  ·subst hab
   rw[if_pos rfl,sQ (List.pairwise_cons.1 ht).2 (List.pairwise_cons.1 hu).2 (λi hi=>h32 i (by simp[hi])) (λi hi=>h32u i (by simp[hi]))]
   exact decide_eq_decide.2 (by omega)
  ·rw[if_neg hab]
   refine decide_eq_decide.2 ?_
   rcases Nat.lt_or_gt_of_ne hab with h|h
   ·have:=Nat.pow_le_pow_right (show 0<2 by decide) (show 31-b+1≤31-a by omega)
    rw[Nat.pow_succ]at this
    omega
   ·have:=Nat.pow_le_pow_right (show 0<2 by decide) (show 31-a+1≤31-b by omega)
    rw[Nat.pow_succ]at this
    omega
end Go.Av
end
section
namespace Go.Av
def fZ :List (Bool×List Nat)→Nat
 |[]=>1
 |g::r=>(1+g.2.length)*fZ r
theorem vS : ∀gs,0<fZ gs
 |[]=>by decide
 |g::r=>Nat.mul_pos (by omega) (vS r)
theorem mE {α:Type}{f:α→Nat}{k:Nat}: ∀{l:List α},(∀a∈l,f a≤k)→(l.map f).sum≤l.length*k
 |[],_=>by simp
 |a::r,h=>by
  have ih:=mE (f:=f) (k:=k) (l:=r) λb hb=>h b (by simp[hb])
  have:=h a (by simp)
  rw[List.map_cons,List.sum_cons,List.length_cons,Nat.succ_mul]
  omega
theorem CX (D:Dat): ∀{gs:List (Bool×List Nat)} (s c:Nat),(∀g∈gs,g.2≠[])→gW D gs s c+1≤2*fZ gs
 |[],s,c,_=>by simp[gW,fZ]
 |g::r,s,c,h=>by
  have ih:=λs c=>CX D (gs:=r) s c λx hx=>h x (by simp[hx])
  have hp:=vS r
  have hg:1≤g.2.length:=by
   have:=h g (by simp)
   cases hl:g.2 with
   |nil=>exact absurd hl this
   |cons a b=>simp
  have h1:(if g.1=true then gW D r s c else 0)≤2*fZ r-1:=by
   have:=ih s c
   split<;>omega
  have h2:=mE (f:=λi=>gW D r (s ||| 2^i) (c ||| D.lk i)) (k:=2*fZ r-1) (l:=g.2.filter λi=>D.may i&& !c.testBit i) λi _=>by
   have:=ih (s ||| 2^i) (c ||| D.lk i)
   show gW D r (s ||| 2^i) (c ||| D.lk i)≤_
   omega
  have h3:(g.2.filter λi=>D.may i&& !c.testBit i).length*(2*fZ r-1)≤g.2.length*(2*fZ r-1):=Nat.mul_le_mul_right _ (List.length_filter_le _ _)
  rw[gW,fZ]
  have e:2*((1+g.2.length)*fZ r)=2*fZ r+g.2.length*(2*fZ r-1)+g.2.length:=by
   obtain⟨m,hm⟩: ∃m,2*fZ r=m+1:=⟨2*fZ r-1,by omega⟩
   rw[hm,Nat.add_sub_cancel,show 2*((1+g.2.length)*fZ r)=(1+g.2.length)*(2*fZ r) by rw[←Nat.mul_assoc,Nat.mul_comm 2,Nat.mul_assoc],hm,Nat.add_mul,Nat.one_mul,Nat.mul_add,Nat.mul_one]
   omega
  omega
theorem zT : ∀gs:List (Bool×List Nat),fZ gs≤2^(gs.map λg=>g.2.length).sum
 |[]=>by simp[fZ]
 |g::r=>by
  have h2: ∀k:Nat,1+k≤2^k:=λk=>by
   induction k with
   |zero=>decide
   |succ k ih=>rw[Nat.pow_succ];omega
  rw[fZ,List.map_cons,List.sum_cons,Nat.pow_add]
  exact Nat.mul_le_mul (h2 _) (zT r)
end Go.Av
end
section
namespace Go.Av
def TT (x y z:Int):Prop:=x≤0→y≤0→z≤0∧(z=0→x=0∧y=0)
theorem TT.zero :TT 0 0 0:=λ_ _=>⟨Int.le_refl _,λ_=>⟨rfl,rfl⟩⟩
theorem TT.lex {x y z x' y' z':Int}(h:TT x y z)(h':x=0→y=0→z=0→TT x' y' z'):TT (if x≠0 then x else x') (if y≠0 then y else y') (if z≠0 then z else z'):=by
 intro hx hy
 have h1:x≤0:=by split at hx<;>omega
 have h2:y≤0:=by split at hy<;>omega
 obtain⟨h3,h4⟩:=h h1 h2
 by_cases hz:z=0
 ·obtain⟨rfl,rfl⟩:=h4 hz
  subst hz
  simp only[ne_eq,not_true_eq_false,if_false]at hx hy ⊢
  exact h' rfl rfl rfl hx hy
 ·rw[if_pos hz]
  exact⟨h3,λe=>absurd e hz⟩
theorem TT.sgn (a b c:Int):TT (sgn a b) (sgn b c) (sgn a c):=by
 intro h1 h2
 unfold Go.Av.sgn at *
 repeat' split at h1
 all_goals repeat' split at h2
 all_goals repeat' split
 all_goals omega
theorem TT.LM : ∀(a b c:List UInt8),TT (bM a b) (bM b c) (bM a c)
 |a,b,c=>by
  by_cases h:rk a=rk b∧rk b=rk c
  ·obtain⟨h1,h2⟩:=h
   by_cases h0:rk a=0
   ·rw[fw h0 (by omega),fw (by omega) (by omega),fw h0 (by omega)]
    exact .zero
   ·rw[fx h0 h1,fx (by omega) h2,fx h0 (by omega)]
    have ha:a≠[]:=λe=>h0 (by rw[e];rfl)
    have:a.tail.length<a.length:=by
     cases a with
     |nil=>exact absurd rfl ha
     |cons x r=>simp
    exact TT.LM a.tail b.tail c.tail
  ·have e: ∀x y:List UInt8,rk x=rk y∨bM x y=Go.Av.sgn (rk x) (rk y):=λx y=>by
    by_cases h:rk x=rk y
    ·exact .inl h
    ·exact .inr (dp h)
   have hs:=TT.sgn (rk a) (rk b) (rk c)
   by_cases h1:rk a=rk b
   ·have h2:rk b≠rk c:=λh2=>h ⟨h1,h2⟩
    rw[dp h2,dp (show rk a≠rk c by omega)]
    intro _ hy
    rw[h1]
    exact⟨hy,λhz=>absurd hz (qj h2)⟩
   ·by_cases h2:rk b=rk c
    ·rw[dp h1,dp (show rk a≠rk c by omega)]
     intro hx _
     rw[←h2]
     exact⟨hx,λhz=>absurd hz (qj h1)⟩
    ·rw[dp h1,dp h2]
     intro hx hy
     have hlt:rk a<rk b∧rk b<rk c:=by
      unfold Go.Av.sgn at hx hy
      repeat' split at hx
      all_goals repeat' split at hy
      all_goals omega
     rw[dp (show rk a≠rk c by omega)]
     exact⟨by unfold Go.Av.sgn;rw[if_pos (by omega)];decide,λhz=>absurd hz (qj (by omega))⟩
termination_by a=>a.length
theorem TT.eW : ∀{a b c:List UInt8},a.length=b.length→b.length=c.length→TT (eW a b) (eW b c) (eW a c)
 |[],[],[],_,_=>.zero
 |[],_::_,_,h,_=>by cases h
 |_::_,[],_,h,_=>by cases h
 |[],[],_::_,_,h=>by cases h
 |_::_,_::_,[],_,h=>by cases h
 |x::a,y::b,z::c,h1,h2=>by
  have e: ∀(x y:UInt8) (a b:List UInt8),Go.Av.eW (x::a) (y::b)=if Go.Av.sgn x.toNat y.toNat≠0 then Go.Av.sgn x.toNat y.toNat else Go.Av.eW a b:=λx y a b=>by
   rw[Go.Av.eW]
   by_cases h:x=y
   ·subst h
    rw[if_pos rfl,mg,if_neg (by simp)]
   ·have hne:(x.toNat:Int)≠y.toNat:=λe=>h (UInt8.toNat_inj.1 (by omega))
    rw[if_neg h,if_pos (qj hne)]
  rw[e,e,e]
  exact(TT.sgn _ _ _).lex λ_ _ _=>TT.eW (by simpa using h1) (by simpa using h2)
theorem td (a b:List UInt8):bb a b=if bM a b≠0 then bM a b
  else if Go.Av.sgn (bc (aJ a)) (bc (aJ b))≠0 then Go.Av.sgn (bc (aJ a)) (bc (aJ b))
  else if eW ((aJ a).take (bc (aJ a))) ((aJ b).take (bc (aJ b)))≠0 then eW ((aJ a).take (bc (aJ a))) ((aJ b).take (bc (aJ b)))
  else bb ((aJ a).drop (bc (aJ a))) ((aJ b).drop (bc (aJ b))):=by
 by_cases h:a=[]∧b=[]
 ·obtain⟨rfl,rfl⟩:=h
  rw[bb,dif_pos ⟨rfl,rfl⟩,if_neg (by decide),if_neg (by decide),if_neg (by decide)]
  show 0=bb [] []
  rw[bb,dif_pos ⟨rfl,rfl⟩]
 ·rw[sd h]
  by_cases h2:bc (aJ a)=bc (aJ b)
  ·rw[if_neg (show ¬(bc (aJ a)≠bc (aJ b)) by omega),h2,mg,if_neg (show ¬((0:Int)≠0) by omega)]
  ·have hne:((bc (aJ a):Nat):Int)≠(bc (aJ b):Nat):=by omega
   rw[if_pos h2,if_pos (qj hne)]
theorem TT.part : ∀(n:Nat) (a b c:List UInt8),a.length+b.length+c.length≤n→TT (bb a b) (bb b c) (bb a c)
 |n,a,b,c,hn=>by
  by_cases h0:a=[]∧b=[]∧c=[]
  ·obtain⟨rfl,rfl,rfl⟩:=h0
   have:bb [] []=0:=by rw[bb,dif_pos ⟨rfl,rfl⟩]
   rw[this]
   exact .zero
  ·have la:=nu a
   have lb:=nu b
   have lc:=nu c
   have hlt:((aJ a).drop (bc (aJ a))).length+((aJ b).drop (bc (aJ b))).length+((aJ c).drop (bc (aJ c))).length<n:=by
    by_cases ha:a=[]
    ·by_cases hb:b=[]
     ·have:=kX (s:=c) λhc=>h0 ⟨ha,hb,hc⟩
      omega
     ·have:=kX hb
      omega
    ·have:=kX ha
     omega
   rw[td a b,td b c,td a c]
   refine(TT.LM a b c).lex λ_ _ _=>(TT.sgn _ _ _).lex λe1 e2 _=>?_
   have r1:=nB e1
   have r2:=nB e2
   have tk: ∀s:List UInt8,(s.take (bc s)).length=bc s:=λs=>by
    rw[List.length_take]
    exact Nat.min_eq_left (pz s)
   refine(TT.eW (by rw[tk,tk];omega) (by rw[tk,tk];omega)).lex λ_ _ _=>?_
   exact TT.part (n-1) _ _ _ (by omega)
termination_by n=>n
decreasing_by omega
theorem TT.ver {a b c:List UInt8}(ha:bw a=true)(hb:bw b=true)(hc:bw c=true):TT (bA a b) (bA b c) (bA a c):=by
 unfold bw at ha hb hc
 unfold bA
 obtain⟨⟨e,u,r⟩,h1⟩:=Option.isSome_iff_exists.1 ha
 obtain⟨⟨f,v,s⟩,h2⟩:=Option.isSome_iff_exists.1 hb
 obtain⟨⟨g,w,t⟩,h3⟩:=Option.isSome_iff_exists.1 hc
 rw[h1,h2,h3]
 exact(TT.part _ e f g (Nat.le_refl _)).lex λ_ _ _=>(TT.part _ u v w (Nat.le_refl _)).lex λ_ _ _=>TT.part _ r s t (Nat.le_refl _)
theorem eh : ∀a:List UInt8,Op.bytesLess a a=false
 |[]=>rfl
 |x::a=>by simp[Op.bytesLess,eh a]
theorem fq : ∀{a b c:List UInt8},Op.bytesLess a b=true→Op.bytesLess b c=true→Op.bytesLess a c=true
 |_,[],_,h,_=>by cases ‹List UInt8› <;>simp[Op.bytesLess]at h
 |_,_::_,[],_,h=>by simp[Op.bytesLess]at h
 |[],_::_,_::_,_,_=>by simp[Op.bytesLess]
 |x::a,y::b,z::c,h1,h2=>by
  simp only[Op.bytesLess,Bool.or_eq_true,Bool.and_eq_true,decide_eq_true_eq,beq_iff_eq,UInt8.lt_iff_toNat_lt]at h1 h2 ⊢
  rcases h1 with h1|⟨rfl,h1⟩
  ·rcases h2 with h2|⟨rfl,h2⟩
   ·exact .inl (by omega)
   ·exact .inl h1
  ·rcases h2 with h2|⟨rfl,h2⟩
   ·exact .inl h2
   ·exact .inr ⟨rfl,fq h1 h2⟩
theorem sK : ∀{a b:List UInt8},a≠b→Op.bytesLess a b=false→Op.bytesLess b a=true
 |[],[],h,_=>absurd rfl h
 |[],_::_,_,h=>by simp[Op.bytesLess]at h
 |_::_,[],_,_=>by simp[Op.bytesLess]
 |x::a,y::b,h,h1=>by
  simp only[Op.bytesLess,Bool.or_eq_false_iff,Bool.and_eq_false_iff,decide_eq_false_iff_not,beq_eq_false_iff_ne,UInt8.lt_iff_toNat_lt]at h1
  simp only[Op.bytesLess,Bool.or_eq_true,Bool.and_eq_true,decide_eq_true_eq,beq_iff_eq,UInt8.lt_iff_toNat_lt]
  by_cases hxy:x=y
  ·subst hxy
   have h2:Op.bytesLess a b=false:=by
    rcases h1.2 with h2|h2
    ·exact absurd rfl h2
    ·exact h2
   exact .inr ⟨rfl,sK (λe=>h (by rw[e])) h2⟩
  ·have:x.toNat≠y.toNat:=λe=>hxy (UInt8.toNat_inj.1 e)
   exact .inl (by omega)
theorem Eg (a b:List UInt8):ft b a= -ft a b:=by
 unfold ft
 by_cases h:a=b
 ·subst h
  rw[eh]
  simp
 ·cases h1:Op.bytesLess a b with
  |true=>
   have h2:Op.bytesLess b a=false:=by
    cases h2:Op.bytesLess b a with
    |false=>rfl
    |true=>
     have:=fq h1 h2
     rw[eh]at this
     cases this
   rw[h2]
   simp[Ne.symm h]
  |false=>
   rw[sK h h1]
   simp[h]
theorem TT.str (a b c:List UInt8):TT (ft a b) (ft b c) (ft a c):=by
 have key: ∀x y:List UInt8,ft x y≤0↔Op.bytesLess x y=true∨x=y:=λx y=>by
  unfold ft
  by_cases h:x=y
  ·subst h
   rw[eh]
   simp
  ·cases h1:Op.bytesLess x y<;>simp[h]
 have kz: ∀x y:List UInt8,ft x y=0↔x=y:=λx y=>by
  unfold ft
  by_cases h:x=y
  ·subst h
   rw[eh]
   simp
  ·cases h1:Op.bytesLess x y<;>simp[h]
 intro h1 h2
 rw[key]at h1 h2
 rw[key,kz,kz,kz]
 rcases h1 with h1|rfl
 ·rcases h2 with h2|rfl
  ·refine⟨.inl (fq h1 h2),?_⟩
   rintro rfl
   have:=fq h1 h2
   rw[eh]at this
   cases this
  ·refine⟨.inl h1,?_⟩
   rintro rfl
   rw[eh]at h1
   cases h1
 ·exact⟨h2,λe=>⟨rfl,e⟩⟩
end Go.Av
end
section
namespace Go.Av
open Go.Proofs.Tryz
def fX (p q:Pkg):Int:=if ft p.name q.name≠0 then ft p.name q.name else bA q.ver p.ver
theorem iV {x y:List UInt8}:ft x y=0↔x=y:=by
 unfold ft
 by_cases h:x=y
 ·subst h
  rw[eh]
  simp
 ·cases h1:Op.bytesLess x y<;>simp[h]
theorem lf (p q:Pkg):fX q p= -fX p q:=by
 unfold fX
 rw[Eg p.name q.name,jB q.ver p.ver]
 by_cases h:ft p.name q.name=0
 ·rw[if_neg (by omega),if_neg (by omega)]
 ·rw[if_pos (by omega),if_pos h]
theorem TT.swap {x y z:Int}(h:TT x y z):TT y x z:=λh1 h2=>by
 obtain⟨a,b⟩:=h h2 h1
 exact⟨a,λe=>⟨(b e).2,(b e).1⟩⟩
theorem TT.pkg {p q r:Pkg}(hp:bw p.ver=true)(hq:bw q.ver=true)(hr:bw r.ver=true):TT (fX p q) (fX q r) (fX p r):=
 (TT.str p.name q.name r.name).lex λ_ _ _=>(TT.ver hr hq hp).swap
theorem wK {p q:Pkg}:wV p q=true↔fX q p≤0:=by
 unfold wV fX
 by_cases h:q.name=p.name
 ·rw[h,eh,iV.2 rfl,jB q.ver p.ver]
  simp
 ·have hz:ft q.name p.name≠0:=λe=>h (iV.1 e)
  rw[if_pos hz]
  have hb:(q.name==p.name)=false:=by simpa using h
  rw[hb,Bool.false_and,Bool.or_false]
  unfold ft
  cases h1:Op.bytesLess q.name p.name<;>simp[h]
def uk (l:List Pkg):Prop:=∀ p∈l,bw p.ver=true
def nf (l:List Pkg):Prop:=l.Pairwise λp q=>fX p q≤0
theorem yu {p:Pkg}: ∀{o:List Pkg},bw p.ver=true→uk o→nf o→nf (ql p o)
 |[],_,_,_=>by simp[nf,ql]
 |q::r,hp,hv,hs=>by
  obtain⟨h1,h2⟩:=List.pairwise_cons.1 hs
  have hq:=hv q (by simp)
  have hr:uk r:=λx hx=>hv x (by simp[hx])
  unfold ql
  by_cases hb:wV p q=true
  ·rw[List.takeWhile_cons,if_pos hb,List.dropWhile_cons,if_pos hb,List.cons_append]
   refine List.pairwise_cons.2 ⟨λz hz=>?_,yu hp hr h2⟩
   rcases List.mem_cons.1 ((qx p r).subset hz)with rfl|hz
   ·exact wK.1 hb
   ·exact h1 z hz
  ·rw[List.takeWhile_cons,if_neg hb,List.dropWhile_cons,if_neg hb,List.nil_append]
   have hpq:fX p q≤0:=by
    rw[wK]at hb
    have:=lf q p
    omega
   refine List.pairwise_cons.2 ⟨λz hz=>?_,hs⟩
   rcases List.mem_cons.1 hz with rfl|hz
   ·exact hpq
   ·exact(TT.pkg hp hq (hr z hz) hpq (h1 z hz)).1
theorem ke {l:List Pkg}(h:uk l):nf (cI l):=by
 have key: ∀(l o:List Pkg),uk l→uk o→nf o→nf (l.foldl (λo p=>ql p o) o):=λl=>by
  induction l with
  |nil=>intro o _ _ h;exact h
  |cons p r ih=>
   intro o hl ho hs
   refine ih _ (λx hx=>hl x (by simp[hx])) (λx hx=>?_) (yu (hl p (by simp)) ho hs)
   rcases List.mem_cons.1 ((qx p o).subset hx)with rfl|hx
   ·exact hl x (by simp)
   ·exact ho x hx
 exact key l [] h (λx hx=>by cases hx) .nil
theorem CR {α:Type}{f:α→Bool}: ∀{o:List α},(∀q∈o,f q=true)→o.takeWhile f=o∧o.dropWhile f=[]
 |[],_=>⟨rfl,rfl⟩
 |q::r,h=>by
  obtain⟨e1,e2⟩:=CR (f:=f) (o:=r) λx hx=>h x (by simp[hx])
  rw[List.takeWhile_cons,if_pos (h q (by simp)),List.dropWhile_cons,if_pos (h q (by simp)),e1,e2]
  exact⟨rfl,rfl⟩
theorem ub {l:List Pkg}(h:nf l):cI l=l:=by
 have key: ∀(l o:List Pkg),nf (o++l)→l.foldl (λo p=>ql p o) o=o++l:=λl=>by
  induction l with
  |nil=>intro o _;simp
  |cons p r ih=>
   intro o hs
   have hall: ∀q∈o,wV p q=true:=λq hq=>wK.2 ((List.pairwise_append.1 hs).2.2 q hq p (by simp))
   have e:ql p o=o++[p]:=by
    unfold ql
    obtain⟨e1,e2⟩:=CR hall
    rw[e1,e2]
   rw[List.foldl_cons,e,ih (o++[p]) (by simpa using hs)]
   simp
 exact key l [] h
theorem tU {l:List Pkg}(h:nf l):mw l:=by
 intro i j k p q r hp hq hr hij hjk hn
 have hle: ∀{i j:Nat} {p q:Pkg},i≤j→l[i]?=some p→l[j]?=some q→ft p.name q.name≤0:=λ{i j p q} hij hp hq=>by
  by_cases e:i=j
  ·subst e
   rw[hp]at hq
   cases hq
   rw[iV.2 rfl]
   exact Int.le_refl _
  ·obtain⟨hi,hp'⟩:=List.getElem?_eq_some_iff.1 hp
   obtain⟨hj,hq'⟩:=List.getElem?_eq_some_iff.1 hq
   have:=List.pairwise_iff_getElem.1 h i j hi hj (by omega)
   rw[hp',hq']at this
   unfold fX at this
   split at this<;>omega
 have h1:=hle hij hp hq
 have h2:=hle hjk hq hr
 have:=(TT.str p.name q.name r.name h1 h2).2 (iV.2 hn)
 exact(iV.1 this.1).symm
def sC (l:List Pkg):Prop:=l.Pairwise λx y=>dc y x=false
theorem fB {l:List Pkg}(h:bk l=0):sC l∧uk l:=by
 unfold bk at h
 split at h
 ·cases h
 split at h
 ·rename_i h2;exact absurd h h2
 rename_i h2
 split at h
 ·cases h
 rename_i h3
 have h3:ng [] l=false:=by simpa using h3
 refine⟨((sT l []).1 h3).2,λp hp=>?_⟩
 have hm:=gb (Classical.not_not.1 h2) _ (List.mem_map.2 ⟨p,hp,rfl⟩)
 unfold aW at hm
 split at hm
 ·cases hm
 ·rename_i hc
  simp only[Bool.or_eq_true,Bool.not_eq_true',not_or,Bool.not_eq_false]at hc
  exact hc.2
theorem vO {l:List Pkg}(h:sC l){p q:Pkg}(hp:p∈l)(hq:q∈l)(hs:dc p q=true):p=q:=by
 induction l with
 |nil=>cases hp
 |cons x r ih=>
  obtain⟨h1,h2⟩:=List.pairwise_cons.1 h
  rcases List.mem_cons.1 hp with e1|hp1
  ·rcases List.mem_cons.1 hq with e2|hq1
   ·rw[e1,e2]
   ·have:=h1 q hq1
    rw[rm,←e1,hs]at this
    cases this
  ·rcases List.mem_cons.1 hq with e2|hq1
   ·have:=h1 p hp1
    rw[←e2,hs]at this
    cases this
   ·exact ih h2 hp1 hq1
theorem AY {p q:Pkg}(hp:bw p.ver=true)(hq:bw q.ver=true)(h:fX p q=0):dc p q=true:=by
 unfold fX at h
 split at h
 ·rename_i h1;exact absurd h h1
 ·rename_i h1
  have hn:=iV.1 (Classical.not_not.1 h1)
  unfold dc bm
  simp[hn,hp,hq,h]
theorem KX {l a b:List Pkg}(hd:sC l)(hv:uk l)(ha:nf a)(hb:nf b)(pa:a.Perm l)(pb:b.Perm l):a=b:=by
 refine List.Perm.eq_of_pairwise (le:=λp q=>fX p q≤0) (λp q hp hq h1 h2=>?_) ha hb (pa.trans pb.symm)
 have h3:=lf p q
 exact vO hd (pa.subset hp) (pb.subset hq) (AY (hv p (pa.subset hp)) (hv q (pb.subset hq)) (by omega))
def qb (l:List Pkg)(n v:List UInt8):Option Nat:=l.findIdx? λq=>q.name==n&&bm q.ver v
theorem qS {all:List Pkg}(h:bk all=0):(∀i p,all[i]?=some p→qb (cI all) p.name p.ver=some i)↔all=cI all:=by
 obtain⟨hd,hv⟩:=fB h
 have hself: ∀p∈all,dc p p=true:=λp hp=>by
  have:=hv p hp
  unfold dc bm
  rw[this]
  have e:bA p.ver p.ver=0:=by have:=jB p.ver p.ver;omega
  simp[e]
 have hf: ∀(l:List Pkg) (p:Pkg),qb l p.name p.ver=l.findIdx? (dc p):=λl p=>rfl
 constructor
 ·intro hI
  refine List.ext_getElem? λi=>?_
  cases hp:all[i]? with
  |none=>
   have hl:=(eD all).length_eq
   have:=List.getElem?_eq_none_iff.1 hp
   exact(List.getElem?_eq_none (by omega)).symm
  |some p=>
   have h1:=hI i p hp
   rw[hf,List.findIdx?_eq_some_iff_getElem]at h1
   obtain⟨hlt,h2,_⟩:=h1
   have hpm:=List.mem_of_getElem? hp
   have hqm:=(eD all).subset (List.getElem_mem hlt)
   have:=vO hd hpm hqm h2
   rw[List.getElem?_eq_getElem hlt,←this]
 ·intro he i p hp
  rw[←he,hf,List.findIdx?_eq_some_iff_getElem]
  obtain⟨hlt,hpi⟩:=List.getElem?_eq_some_iff.1 hp
  refine⟨hlt,by rw[hpi];exact hself p (List.mem_of_getElem? hp),λj hj=>?_⟩
  have:=List.pairwise_iff_getElem.1 hd j i (by omega) hlt hj
  rw[hpi]at this
  simpa using this
end Go.Av
end
