/- Texts that the last one of this claim rests on: a layer over the guide's own conditions for code; contracts of the functions that the law reaches, one by one. No conditions beside those of the given rows. -/
import Derived.Test.YtbooehmmhbioaaaGreatDoorWah
import Derived.Test.YtbooehmmhbioaaaGreatDoorWao
set_option linter.unusedSimpArgs false
set_option linter.unusedVariables false
section
namespace Go.Av
abbrev GG :List UInt8:=[112,97,99,107,97,103,101]
abbrev HN :List UInt8:=[118,101,114,115,105,111,110]
abbrev Xg :List UInt8:=[112,114,101,45,100,101,112,101,110,100,115]
abbrev Xc :List UInt8:=[100,101,112,101,110,100,115]
abbrev WO :List UInt8:=[114,101,99,111,109,109,101,110,100,115]
abbrev Xu :List UInt8:=[99,111,110,102,108,105,99,116,115]
abbrev Xf :List UInt8:=[98,114,101,97,107,115]
abbrev SV :List UInt8:=[112,114,111,118,105,100,101,115]
abbrev WN :List UInt8:=[101,115,115,101,110,116,105,97,108]
abbrev Vz :List UInt8:=[104,111,108,100]
abbrev SH :List UInt8:=[99,111,110,102,105,103,117,114,101,100]
abbrev Si :List UInt8:=[112,114,105,111,114,105,116,121]
abbrev WQ :List UInt8:=[115,116,97,116,101]
abbrev WR :List UInt8:=[121,101,115]
abbrev sNo :List UInt8:=[110,111]
abbrev XF :List UInt8:=[117,110,112,97,99,107,101,100]
inductive nK where
 |text (s:List UInt8)
 |count (n:Int)
 |yes (b:Bool)
 |cls (l:List Clause)
 |atoms (l:List Atom)
 |GI (l:List ia)
def rJ (s:List UInt8):List UInt8:=s.map NA
def Lt (n:List UInt8):Nat:=
 if rJ n=GG then 0 else if rJ n=HN then 1
 else if rJ n=Xg∨rJ n=Xc∨rJ n=WO then 2
 else if rJ n=Xu∨rJ n=Xf then 3
 else if rJ n=SV then 4
 else if rJ n=WN∨rJ n=Vz∨rJ n=SH then 5
 else if rJ n=Si then 6 else 7
def UE :List UInt8→Int→Int
 |[],n=>n
 |c::r,n=>UE r (10*n+(c.toNat-48))
def WW (s:List UInt8):Option Int:=if s.length=0∨9<s.length∨(1<s.length∧s.head?=some 48)∨s.all aI=false then none else some (UE s 0)
def BB (a:Atom):Bool:=decide (a.rel=0)||decide (a.rel=3)
def vU (_:Atom):Bool:=true
def N0 (c:Clause):ia:=match c with
 |[]=>⟨[],[]⟩
 |a::_=>⟨a.name,a.ver⟩
def Us (name s:List UInt8):Except Int nK:=
 match Lt name with
 |0=>if dc s=true then .ok (.text s)else .error 3
 |1=>if bk s=true then .ok (.text s)else .error 3
 |2=>if (xh vU false s).2=0 then .ok (.cls (xh vU false s).1)else .error (xh vU false s).2
 |3=>if (xh vU true s).2=0 then .ok (.atoms (xh vU true s).1.flatten)else .error (xh vU true s).2
 |4=>if (xh BB true s).2=0 then .ok (.GI ((xh BB true s).1.map N0))else .error (xh BB true s).2
 |5=>if s=WR then .ok (.yes true)else if s=sNo then .ok (.yes false)else .error 3
 |6=>match WW s with
  |some n=>.ok (.count n)
  |none=>.error 3
 |_=>.ok (.text s)
structure aG where
 pkg:Pkg
 Jh:Bool
 hold:Bool
 deriving DecidableEq
def we :Pkg:=⟨[],[],[],[],[],[],[],[],false⟩
def eZ :aG:=⟨we,false,false⟩
structure Acc where
 ent:aG
 n:Bool
 v:Bool
 s:Bool
def nK.cl :nK→List Clause| .cls l=>l|_=>[]
def nK.at :nK→List Atom| .atoms l=>l|_=>[]
def nK.pr :nK→List ia| .GI l=>l|_=>[]
def jy :List aG→Bool
 |x::y::r=>!Go.Op.bytesLess x.pkg.name y.pkg.name||jy (y::r)
 |_=>false
def bS (l:List aG):Int:=if 10<l.length then 12 else if orL (l.map λx=>aL x.pkg)≠0 then orL (l.map λx=>aL x.pkg)else if jy l=true then 4 else 0
end Go.Av
end
section
namespace Go.Av
structure aS where
 kind:Int
 name:List UInt8
 ver:List UInt8
 deriving DecidableEq
def bt (l:List aS)(n:List UInt8):Option aS:=l.find? λa=>a.name==n
def eo (s:List aG)(n:List UInt8):Option aG:=s.find? λx=>x.pkg.name==n
def ep (t:List Pkg)(n:List UInt8):Option Pkg:=t.find? λp=>p.name==n
def kindOf :Option aS→Int
 |some a=>a.kind
 |none=>0
def lZ :Option aS→List UInt8
 |some a=>a.ver
 |none=>[]
def dL :Option aS→Bool
 |some a=>a.kind==1&&a.ver !=[]
 |none=>false
def pA (q:Option aS)(h:Bool):Bool:=match q with
 |some a=>if a.kind=5 then true else if a.kind=6∨a.kind=2∨(a.kind=1∧a.ver≠[])then false else h
 |none=>h
def j1 (l:List aS):Bool:=l.any λa=>a.kind==3
def np (l:List aS)(s:List aG)(n:List UInt8):Bool:=!j1 l||((eo s n).isSome||kindOf (bt l n)==1)&& !(kindOf (bt l n)==2)
def w8 (l:List aS)(s:List aG)(p:Pkg):Bool:=
 !(kindOf (bt l p.name)==2)&&(!dL (bt l p.name)||bm p.ver (lZ (bt l p.name)))&&
 (match eo s p.name with
  |some x=>(!pA (bt l p.name) x.hold||bm p.ver x.pkg.ver)&&(dL (bt l p.name)|| !decide (bo p.ver x.pkg.ver<0))
  |none=>true)&&np l s p.name
def lV (l:List aS)(s:List aG)(n:List UInt8):Bool:=
 !(kindOf (bt l n)==1)&& !(match eo s n with
  |some x=>pA (bt l n) x.hold||x.pkg.ess
  |none=>false)&& !(j1 l&&np l s n)
def ey (all:List Pkg)(s:List aG)(l:List aS):Bool:=l.any λa=>(a.kind==5&&(eo s a.name).isNone)||(a.kind==1&& !(all.any λp=>p.name==a.name))
def qe (t:List Pkg)(s:List aG)(a:aS):Bool:=
 if a.kind=1 then(match ep t a.name with
  |none=>false
  |some p=>a.ver==[]||bm p.ver a.ver)
 else if a.kind=2 then(ep t a.name).isNone else if a.kind=5 then(eo s a.name).isSome else true
def wT (l:List aS)(t:List Pkg)(x:aG):Bool:=match ep t x.pkg.name with
 |none=>!(pA (bt l x.pkg.name) x.hold||x.pkg.ess)
 |some p=>(!pA (bt l x.pkg.name) x.hold||bm p.ver x.pkg.ver)&& !(decide (bo p.ver x.pkg.ver<0)&& !dL (bt l x.pkg.name))
def nW (l:List aS)(t:List Pkg)(s:List aG):Bool:=(t.all λp=>(eo s p.name).isSome||kindOf (bt l p.name)==1)&&(s.all λx=>(ep t x.pkg.name).isSome||kindOf (bt l x.pkg.name)==2)
def jY (l:List aS)(t:List Pkg)(s:List aG):Bool:=l.all (qe t s)&&s.all (wT l t)&&(!j1 l||nW l t s)
theorem rR {α:Type}{f:α→List UInt8}: ∀{l:List α} {a:α},(l.map f).Nodup→a∈l→l.find? (λx=>f x==f a)=some a
 |b::l,a,hn,h=>by
  rw[List.map_cons,List.nodup_cons]at hn
  rw[List.find?_cons]
  rcases List.mem_cons.1 h with rfl|h
  ·rw[beq_self_eq_true]
  ·have hne:(f b==f a)=false:=by
    rw[beq_eq_false_iff_ne]
    exact λe=>hn.1 (e▸List.mem_map_of_mem h)
   rw[hne]
   exact rR hn.2 h
theorem u9 {α:Type}{f:α→List UInt8}{l:List α}{n:List UInt8}(h:l.find? (λx=>f x==n)=none): ∀a∈l,f a≠n:=λa ha e=>by
 have:=List.find?_eq_none.1 h a ha
 simp[e]at this
theorem tK {α:Type}{f:α→List UInt8}{l:List α}{n:List UInt8}{a:α}(h:l.find? (λx=>f x==n)=some a):a∈l∧f a=n:=
 ⟨List.mem_of_find?_eq_some h,by simpa using List.find?_some h⟩
structure Uni (all:List Pkg)(s:List aG)(l:List aS):Prop where
 asks:(l.map (·.name)).Nodup
 Fm:(s.map (·.pkg.name)).Nodup
 sub: ∀x∈s,∃p∈all,p.name=x.pkg.name
theorem qq {l:List aS}(h:(l.map (·.name)).Nodup){a:aS}(ha:a∈l):bt l a.name=some a:=rR (f:=aS.name) h ha
theorem pq {s:List aG}(h:(s.map (·.pkg.name)).Nodup){x:aG}(hx:x∈s):eo s x.pkg.name=some x:=rR (f:=λx:aG=>x.pkg.name) h hx
theorem vb {t:List Pkg}(h:(t.map (·.name)).Nodup){p:Pkg}(hp:p∈t):ep t p.name=some p:=rR (f:=Pkg.name) h hp
theorem kr {l:List aS}{n:List UInt8}{a:aS}(h:bt l n=some a):a∈l∧a.name=n:=tK (f:=aS.name) h
theorem mN {s:List aG}{n:List UInt8}{x:aG}(h:eo s n=some x):x∈s∧x.pkg.name=n:=tK (f:=λx:aG=>x.pkg.name) h
theorem jq {t:List Pkg}{n:List UInt8}{p:Pkg}(h:ep t n=some p):p∈t∧p.name=n:=tK (f:=Pkg.name) h
theorem xz {all:List Pkg}{s:List aG}{l:List aS}(hU:Uni all s l){t:List Pkg}(ht: ∀p∈t,p∈all)(hn:(t.map (·.name)).Nodup):
  jY l t s=true↔ey all s l=false∧(∀p∈t,w8 l s p=true)∧ ∀q∈all,ep t q.name=none→lV l s q.name=true:=by
 unfold jY
 rw[Bool.and_eq_true,Bool.and_eq_true,List.all_eq_true,List.all_eq_true]
 constructor
 ·rintro⟨⟨h1,h2⟩,h3⟩
  have hrem: ∀n,kindOf (bt l n)=2→ep t n=none:=λn hk=>by
   cases hq:bt l n with
   |none=>rw[hq]at hk;cases hk
   |some a=>
    obtain⟨ha,hna⟩:=kr hq
    rw[hq]at hk
    have hk:a.kind=2:=hk
    have:=h1 a ha
    unfold qe at this
    rw[if_neg (by rw[hk];decide),if_pos hk,hna]at this
    simpa using this
  have hins: ∀n,kindOf (bt l n)=1→ ∃p,ep t n=some p∧(lZ (bt l n)=[]∨bm p.ver (lZ (bt l n))=true):=λn hk=>by
   cases hq:bt l n with
   |none=>rw[hq]at hk;cases hk
   |some a=>
    obtain⟨ha,hna⟩:=kr hq
    rw[hq]at hk
    have hk:a.kind=1:=hk
    have:=h1 a ha
    unfold qe at this
    rw[if_pos hk,hna]at this
    cases hf:ep t n with
    |none=>rw[hf]at this;cases this
    |some p=>
     rw[hf]at this
     exact⟨p,rfl,by simpa[lZ]using this⟩
  refine⟨?_,λp hp=>?_,λq hq hf=>?_⟩
  ·unfold ey
   rw[List.any_eq_false]
   intro a ha hc
   have h4:=h1 a ha
   simp only[Bool.or_eq_true,Bool.and_eq_true,beq_iff_eq,Option.isNone_iff_eq_none,Bool.not_eq_true']at hc
   rcases hc with⟨hk,hc⟩|⟨hk,hc⟩
   ·unfold qe at h4
    rw[if_neg (by rw[hk];decide),if_neg (by rw[hk];decide),if_pos hk,hc]at h4
    cases h4
   ·unfold qe at h4
    rw[if_pos hk]at h4
    cases hf:ep t a.name with
    |none=>rw[hf]at h4;cases h4
    |some p=>
     obtain⟨hp,hpn⟩:=jq hf
     have:=List.any_eq_false.1 hc p (ht p hp)
     simp[hpn]at this
  ·have hf:=vb hn hp
   unfold w8
   simp only[Bool.and_eq_true]
   refine⟨⟨⟨?_,?_⟩,?_⟩,?_⟩
   ·simp only[Bool.not_eq_true',beq_eq_false_iff_ne]
    exact λhk=>by rw[hrem _ hk]at hf;cases hf
   ·cases hq:bt l p.name with
    |none=>rfl
    |some a=>
     by_cases he:dL (some a)=true
     ·have hk:a.kind=1:=by simp only[dL,Bool.and_eq_true,beq_iff_eq]at he;exact he.1
      obtain⟨p',hp',hv⟩:=hins p.name (by rw[hq];exact hk)
      rw[hf]at hp'
      cases hp'
      rw[hq]at hv
      rcases hv with hv|hv
      ·simp only[dL,Bool.and_eq_true,bne_iff_ne,ne_eq]at he
       exact absurd hv he.2
      ·rw[hv,Bool.or_true]
     ·simp[he]
   ·cases hx:eo s p.name with
    |none=>rfl
    |some x=>
     obtain⟨hxm,hxn⟩:=mN hx
     have h4:=h2 x hxm
     unfold wT at h4
     rw[hxn,hf]at h4
     simp only[Bool.and_eq_true]at h4 ⊢
     refine⟨h4.1,?_⟩
     have:=h4.2
     cases h5:dL (bt l p.name)<;>simp_all
   ·unfold np
    cases hp1:j1 l with
    |false=>rfl
    |true=>
     rw[hp1]at h3
     have h3:nW l t s=true:=by simpa using h3
     unfold nW at h3
     rw[Bool.and_eq_true,List.all_eq_true]at h3
     have h4:=h3.1 p hp
     have h5:(kindOf (bt l p.name)==2)=false:=by
      rw[beq_eq_false_iff_ne]
      exact λhk=>by rw[hrem _ hk]at hf;cases hf
     rw[h4,h5]
     rfl
  ·have hni:(kindOf (bt l q.name)==1)=false:=by
    rw[beq_eq_false_iff_ne]
    intro hk
    obtain⟨p,hp,_⟩:=hins _ hk
    rw[hf]at hp
    cases hp
   unfold lV
   rw[hni]
   simp only[Bool.not_false,Bool.true_and,Bool.and_eq_true,Bool.not_eq_true']
   refine⟨?_,?_⟩
   ·cases hx:eo s q.name with
    |none=>rfl
    |some x=>
     obtain⟨hxm,hxn⟩:=mN hx
     have h4:=h2 x hxm
     unfold wT at h4
     rw[hxn,hf]at h4
     simpa using h4
   ·cases hp1:j1 l with
    |false=>rfl
    |true=>
     rw[hp1]at h3
     have h3:nW l t s=true:=by simpa using h3
     unfold nW at h3
     rw[Bool.and_eq_true,List.all_eq_true,List.all_eq_true]at h3
     unfold np
     rw[hp1,hni]
     cases hx:eo s q.name with
     |none=>rfl
     |some x=>
      obtain⟨hxm,hxn⟩:=mN hx
      have h4:=h3.2 x hxm
      rw[hxn,hf]at h4
      have h4:(kindOf (bt l q.name)==2)=true:=by simpa using h4
      rw[h4]
      rfl
 ·rintro⟨h1,h2,h3⟩
  unfold ey at h1
  rw[List.any_eq_false]at h1
  have hpres: ∀n,(∃q∈all,q.name=n)→lV l s n=false→ ∃p,ep t n=some p∧w8 l s p=true∧p.name=n:=λn ⟨q,hq,hqn⟩ hl=>by
   cases hf:ep t n with
   |none=>
    have:=h3 q hq (by rw[hqn];exact hf)
    rw[hqn,hl]at this
    cases this
   |some p=>
    obtain⟨hp,hpn⟩:=jq hf
    exact⟨p,rfl,h2 p hp,hpn⟩
  have hmay: ∀p,w8 l s p=true→(kindOf (bt l p.name)==2)=false∧(dL (bt l p.name)=true→bm p.ver (lZ (bt l p.name))=true)∧(∀x,eo s p.name=some x→(!pA (bt l p.name) x.hold||bm p.ver x.pkg.ver)=true∧(dL (bt l p.name)|| !decide (bo p.ver x.pkg.ver<0))=true)∧np l s p.name=true:=λp hp=>by
   unfold w8 at hp
   simp only[Bool.and_eq_true,Bool.not_eq_true']at hp
   obtain⟨⟨⟨g1,g2⟩,g3⟩,g4⟩:=hp
   refine⟨g1,λhe=>by rw[he]at g2;simpa using g2,λx hx=>?_,g4⟩
   rw[hx]at g3
   simp only[Bool.and_eq_true]at g3
   exact g3
  refine⟨⟨λa ha=>?_,λx hx=>?_⟩,?_⟩
  ·have haq:=qq hU.asks ha
   have hnev:=h1 a ha
   simp only[Bool.or_eq_true,Bool.and_eq_true,beq_iff_eq,Option.isNone_iff_eq_none,Bool.not_eq_true',not_or,not_and]at hnev
   unfold qe
   by_cases hk1:a.kind=1
   ·rw[if_pos hk1]
    have hin: ∃q∈all,q.name=a.name:=by
     have:=hnev.2 hk1
     rw[Bool.not_eq_false,List.any_eq_true]at this
     obtain⟨q,hq,hqn⟩:=this
     exact⟨q,hq,by simpa using hqn⟩
    obtain⟨p,hf,hm,hpn⟩:=hpres a.name hin (by
     unfold lV
     rw[haq,show kindOf (some a)=1 from hk1]
     rfl)
    rw[hf]
    obtain⟨_,g2,_⟩:=hmay p hm
    rw[hpn,haq]at g2
    by_cases hv:a.ver=[]
    ·simp[hv]
    ·have:=g2 (by simp[dL,hk1,hv])
     simp only[lZ]at this
     simp[this]
   ·rw[if_neg hk1]
    by_cases hk2:a.kind=2
    ·rw[if_pos hk2,Option.isNone_iff_eq_none]
     cases hf:ep t a.name with
     |none=>rfl
     |some p=>
      obtain⟨hp,hpn⟩:=jq hf
      obtain⟨g1,_⟩:=hmay p (h2 p hp)
      rw[hpn,haq,show kindOf (some a)=2 from hk2]at g1
      cases g1
    ·rw[if_neg hk2]
     by_cases hk5:a.kind=5
     ·rw[if_pos hk5]
      have:=hnev.1 hk5
      cases hx:eo s a.name with
      |none=>exact absurd hx this
      |some x=>rfl
     ·rw[if_neg hk5]
  ·have hxe:=pq hU.Fm hx
   obtain⟨q,hq,hqn⟩:=hU.sub x hx
   unfold wT
   cases hf:ep t x.pkg.name with
   |none=>
    have h4:=h3 q hq (by rw[hqn];exact hf)
    rw[hqn]at h4
    unfold lV at h4
    rw[hxe]at h4
    simp only[Bool.and_eq_true]at h4
    exact h4.1.2
   |some p=>
    obtain⟨hp,hpn⟩:=jq hf
    obtain⟨_,_,g3,_⟩:=hmay p (h2 p hp)
    rw[hpn]at g3
    obtain⟨k1,k2⟩:=g3 x hxe
    simp only[Bool.and_eq_true]
    refine⟨k1,?_⟩
    cases h5:dL (bt l x.pkg.name)<;>simp_all
  ·cases hp1:j1 l with
   |false=>rfl
   |true=>
    show nW l t s=true
    unfold nW
    rw[Bool.and_eq_true,List.all_eq_true,List.all_eq_true]
    refine⟨λp hp=>?_,λx hx=>?_⟩
    ·obtain⟨_,_,_,g4⟩:=hmay p (h2 p hp)
     unfold np at g4
     rw[hp1]at g4
     simp only[Bool.not_true,Bool.false_or,Bool.and_eq_true]at g4
     exact g4.1
    ·have hxe:=pq hU.Fm hx
     obtain⟨q,hq,hqn⟩:=hU.sub x hx
     cases hf:ep t x.pkg.name with
     |some p=>rfl
     |none=>
      have h4:=h3 q hq (by rw[hqn];exact hf)
      rw[hqn]at h4
      unfold lV at h4
      simp only[Bool.and_eq_true,Bool.not_eq_true',hp1,Bool.true_and]at h4
      have h5:=h4.2
      unfold np at h5
      rw[hp1,hxe]at h5
      cases h6:(kindOf (bt l x.pkg.name)==2)with
      |true=>simp
      |false=>
       rw[h6]at h5
       cases h5
end Go.Av
end
section
namespace Go.Av
def cA :List (List Nat)→List (List Nat)
 |[]=>[[]]
 |g::r=>(g.flatMap λi=>(cA r).map (i:: ·))++cA r
theorem pZ {g:List Nat}{r:List (List Nat)}{t:List Nat}:t∈cA (g::r)↔(∃i∈g,∃u∈cA r,t=i::u)∨t∈cA r:=by
 simp only[cA,List.mem_append,List.mem_flatMap,List.mem_map]
 constructor
 ·rintro(⟨i,hi,u,hu,rfl⟩|h)
  ·exact .inl ⟨i,hi,u,hu,rfl⟩
  ·exact .inr h
 ·rintro(⟨i,hi,u,hu,rfl⟩|h)
  ·exact .inl ⟨i,hi,u,hu,rfl⟩
  ·exact .inr h
theorem ew : ∀{gs:List (List Nat)} {t:List Nat},t∈cA gs→ ∀i∈t,∃g∈gs,i∈g
 |[],t,h,i,hi=>by
  simp only[cA,List.mem_singleton]at h
  rw[h]at hi
  cases hi
 |g::r,t,h,i,hi=>by
  rcases pZ.1 h with⟨j,hj,u,hu,rfl⟩|h
  ·rcases List.mem_cons.1 hi with rfl|hi
   ·exact⟨g,by simp,hj⟩
   ·obtain⟨g',hg,hi⟩:=ew hu i hi
    exact⟨g',by simp[hg],hi⟩
  ·obtain⟨g',hg,hi⟩:=ew h i hi
   exact⟨g',by simp[hg],hi⟩
structure Dat where
 may:Nat→Bool
 lk:Nat→Nat
 hl:Nat→Bool
def nk (D:Dat):List (Bool×List Nat)→Nat→Nat→List Nat
 |[],s,_=>if D.hl s=true then [s]else []
 |g::r,s,c=>(if g.1=true then nk D r s c else [])++(g.2.filter λi=>D.may i&& !c.testBit i).flatMap λi=>nk D r (s ||| 2^i) (c ||| D.lk i)
def ie (D:Dat):List (Bool×List Nat)→Nat→Nat→Nat
 |[],_,_=>1
 |g::r,s,c=>1+((if g.1=true then ie D r s c else 0)+((g.2.filter λi=>D.may i&& !c.testBit i).map λi=>ie D r (s ||| 2^i) (c ||| D.lk i)).sum)
def okP (D:Dat):List (Bool×List Nat)→Nat→List Nat→Bool
 |[],_,_=>true
 |g::r,c,t=>match t with
  |[]=>g.1&&okP D r c []
  |i::u=>if i∈g.2 then(D.may i&& !c.testBit i)&&okP D r (c ||| D.lk i) u else g.1&&okP D r c (i::u)
def bH :List Nat→Nat
 |[]=>0
 |i::r=>2^i ||| bH r
def p5 :List (List Nat)→Prop
 |[]=>True
 |g::r=>(∀i∈g,∀h∈r,i∉h)∧p5 r
theorem tx {D:Dat}{g:Bool×List Nat}{r:List (Bool×List Nat)}{c:Nat}{t:List Nat}(h: ∀i∈t,i∉g.2):okP D (g::r) c t=(g.1&&okP D r c t):=by
 cases t with
 |nil=>rfl
 |cons i u=>
  rw[okP,if_neg (h i (by simp))]
theorem mi {α β:Type}{f g:α→List β}: ∀{l:List α},(∀a∈l,f a=g a)→l.flatMap f=l.flatMap g
 |[],_=>rfl
 |a::r,h=>by
  rw[List.flatMap_cons,List.flatMap_cons,h a (by simp),mi λb hb=>h b (by simp[hb])]
theorem oX {α β:Type}{f g:α→List β}: ∀{l:List α},(∀a∈l,(f a).Perm (g a))→(l.flatMap f).Perm (l.flatMap g)
 |[],_=>.refl _
 |a::r,h=>by
  rw[List.flatMap_cons,List.flatMap_cons]
  exact(h a (by simp)).append (oX λb hb=>h b (by simp[hb]))
theorem ft {α β:Type}{f:α→List β}{p:β→Bool}: ∀{l:List α},(l.flatMap f).filter p=l.flatMap λa=>(f a).filter p
 |[]=>rfl
 |a::r=>by rw[List.flatMap_cons,List.flatMap_cons,List.filter_append,ft]
theorem iC {α β:Type}{f:α→List β}{p:α→Bool}: ∀{l:List α},(l.filter p).flatMap f=l.flatMap λa=>if p a=true then f a else []
 |[]=>rfl
 |a::r=>by
  rw[List.flatMap_cons,List.filter_cons]
  split
  ·rw[List.flatMap_cons,iC]
  ·rw[iC,List.nil_append]
theorem kp {α β γ:Type}{f:α→List β}{g:β→γ}: ∀{l:List α},(l.flatMap f).map g=l.flatMap λa=>(f a).map g
 |[]=>rfl
 |a::r=>by rw[List.flatMap_cons,List.flatMap_cons,List.map_append,kp]
theorem vF (D:Dat): ∀{gs:List (Bool×List Nat)} (s c:Nat),p5 (gs.map (·.2))→(nk D gs s c).Perm ((((cA (gs.map (·.2))).filter (okP D gs c)).map λt=>s ||| bH t).filter D.hl)
 |[],s,c,_=>by
  simp only[nk,cA,List.map_nil,okP,List.filter_cons,List.filter_nil,if_true,List.map_cons,bH,Nat.or_zero]
  split<;>exact .refl _
 |g::r,s,c,ha=>by
  rw[List.map_cons]at ha
  have ih:=λs c=>vF D (gs:=r) s c ha.2
  have hout: ∀t∈cA (r.map (·.2)),∀i∈t,i∉g.2:=λt ht i hi hg=>by
   obtain⟨h,hh,hi2⟩:=ew ht i hi
   exact ha.1 i hg h hh hi2
  rw[nk,List.map_cons,cA,List.filter_append,List.map_append,List.filter_append]
  refine List.Perm.trans (List.Perm.append ?_ ?_) List.perm_append_comm
  ·have e:(cA (r.map (·.2))).filter (okP D (g::r) c)=if g.1=true then(cA (r.map (·.2))).filter (okP D r c)else []:=by
    split
    ·rename_i hg
     exact List.filter_congr λt ht=>by rw[tx (hout t ht),hg,Bool.true_and]
    ·rename_i hg
     exact List.filter_eq_nil_iff.2 λt ht=>by rw[tx (hout t ht)];simp[hg]
   rw[e]
   split
   ·exact ih s c
   ·exact .refl _
  ·rw[iC,ft,kp,ft]
   refine oX λi hi=>?_
   have e:((cA (r.map (·.2))).map (i:: ·)).filter (okP D (g::r) c)=if (D.may i&& !c.testBit i)=true then((cA (r.map (·.2))).filter (okP D r (c ||| D.lk i))).map (i:: ·)else []:=by
    rw[List.filter_map]
    split
    ·rename_i hm
     congr 1
     refine List.filter_congr λt _=>?_
     show okP D (g::r) c (i::t)=_
     rw[okP,if_pos hi,hm,Bool.true_and]
    ·rename_i hm
     rw[List.filter_eq_nil_iff.2 λt _=>?_]
     ·rfl
     ·show ¬okP D (g::r) c (i::t)=true
      rw[okP,if_pos hi]
      simp only[Bool.not_eq_true]at hm
      rw[hm,Bool.false_and]
      decide
   rw[e]
   split
   ·rw[List.map_map]
    refine(ih (s ||| 2^i) (c ||| D.lk i)).trans (List.Perm.of_eq ?_)
    congr 1
    refine List.map_congr_left λt _=>?_
    show s ||| 2^i ||| bH t=s ||| bH (i::t)
    rw[bH,Nat.or_assoc]
   ·exact .refl _
theorem wD (D:Dat): ∀{gs:List (Bool×List Nat)} {c:Nat} {t:List Nat},p5 (gs.map (·.2))→t∈cA (gs.map (·.2))→(okP D gs c t=true↔(∀i∈t,D.may i=true∧c.testBit i=false)∧(t.Pairwise λi j=>(D.lk i).testBit j=false)∧ ∀g∈gs,(∀i∈t,i∉g.2)→g.1=true)
 |[],c,t,_,ht=>by
  simp only[cA,List.map_nil,List.mem_singleton]at ht
  subst ht
  simp[okP]
 |g::r,c,t,ha,ht=>by
  rw[List.map_cons]at ha ht
  rcases pZ.1 ht with⟨i,hi,u,hu,rfl⟩|ht
  ·rw[okP,if_pos hi,Bool.and_eq_true,Bool.and_eq_true,Bool.not_eq_true',wD D ha.2 hu]
   simp only[Nat.testBit_or,Bool.or_eq_false_iff,List.pairwise_cons]
   have hir: ∀h∈r,i∉h.2:=λh hh=>ha.1 i hi _ (List.mem_map_of_mem hh)
   constructor
   ·rintro⟨⟨h1,h2⟩,h3,h4,h5⟩
    refine⟨λj hj=>?_,⟨λj hj=>(h3 j hj).2.2,h4⟩,λh hh hn=>?_⟩
    ·rcases List.mem_cons.1 hj with rfl|hj
     ·exact⟨h1,h2⟩
     ·exact⟨(h3 j hj).1,(h3 j hj).2.1⟩
    ·rcases List.mem_cons.1 hh with rfl|hh
     ·exact absurd hi (hn i (by simp))
     ·exact h5 h hh λj hj=>hn j (by simp[hj])
   ·rintro⟨h1,⟨h2,h3⟩,h4⟩
    refine⟨h1 i (by simp),λj hj=>⟨(h1 j (by simp[hj])).1,(h1 j (by simp[hj])).2,h2 j hj⟩,h3,λh hh hn=>h4 h (by simp[hh]) λj hj=>?_⟩
    rcases List.mem_cons.1 hj with rfl|hj
    ·exact hir h hh
    ·exact hn j hj
  ·have hout: ∀i∈t,i∉g.2:=λi hi hg=>by
    obtain⟨h,hh,hi2⟩:=ew ht i hi
    exact ha.1 i hg h hh hi2
   rw[tx hout,Bool.and_eq_true,wD D ha.2 ht]
   constructor
   ·rintro⟨h0,h1,h2,h3⟩
    refine⟨h1,h2,λh hh hn=>?_⟩
    rcases List.mem_cons.1 hh with rfl|hh
    ·exact h0
    ·exact h3 h hh hn
   ·rintro⟨h1,h2,h3⟩
    exact⟨h3 g (by simp) hout,h1,h2,λh hh=>h3 h (by simp[hh])⟩
theorem cq : ∀(t:List Nat) (i:Nat),(bH t).testBit i=decide (i∈t)
 |[],i=>by simp[bH]
 |j::r,i=>by
  rw[bH,Nat.testBit_or,cq r i,Nat.testBit_two_pow]
  by_cases h:j=i
  ·simp[h]
  ·simp[h,Ne.symm h]
def aV (k n:Nat):List Nat:=(List.range k).filter n.testBit
end Go.Av
end
section
namespace Go.Av
open Go.Proofs.Tryz
def placesOf (all:List Pkg)(n:List UInt8):List Nat:=(List.range all.length).filter λk=>match all[k]? with
 |some q=>q.name==n
 |none=>false
def nm (all:List Pkg):Prop:=∀ (i j k:Nat) (p q r:Pkg),all[i]?=some p→all[j]?=some q→all[k]?=some r→i≤j→j≤k→p.name=r.name→q.name=p.name
def c8 (all:List Pkg):Nat→Nat→List (List Nat)
 |0,_=>[]
 |f+1,i=>if i=all.length then []else List.range' i (aD all i-i)::c8 all f (aD all i)
theorem bn {all:List Pkg}{n:List UInt8}{k:Nat}:k∈placesOf all n↔ ∃q,all[k]?=some q∧q.name=n:=by
 unfold placesOf
 rw[List.mem_filter,List.mem_range]
 constructor
 ·rintro⟨h1,h2⟩
  obtain⟨q,hq⟩:=get_some h1
  rw[hq]at h2
  exact⟨q,hq,by simpa using h2⟩
 ·rintro⟨q,hq,h⟩
  exact⟨(List.getElem?_eq_some_iff.1 hq).1,by rw[hq];simpa using h⟩
theorem kH {all:List Pkg}{i:Nat}{p:Pkg}(hp:all[i]?=some p){k:Nat}(h1:i≤k)(h2:k<aD all i): ∃q,all[k]?=some q∧q.name=p.name:=by
 have hr:aD all i=i+((all.drop i).takeWhile λq=>q.name==p.name).length:=by simp[aD,hp]
 have hlt:k-i<((all.drop i).takeWhile λq=>q.name==p.name).length:=by omega
 have hg:=List.getElem?_eq_getElem hlt
 have h0:=List.takeWhile_append_dropWhile (p:=λq:Pkg=>q.name==p.name) (l:=all.drop i)
 refine⟨_,?_,by simpa using HB (List.getElem_mem hlt)⟩
 have:=List.getElem?_append_left (l₂:=(all.drop i).dropWhile λq=>q.name==p.name) hlt
 rw[h0,List.getElem?_drop,show i+(k-i)=k by omega,hg]at this
 exact this
theorem run_places {all:List Pkg}(hc:nm all){i:Nat}{p:Pkg}(hp:all[i]?=some p)(hf: ∀j q,j<i→all[j]?=some q→q.name≠p.name):List.range' i (aD all i-i)=placesOf all p.name:=by
 obtain⟨b1,b2⟩:=cU hp
 have e:List.range all.length=List.range' 0 i++(List.range' i (aD all i-i)++List.range' (aD all i) (all.length-aD all i)):=by
  have e1:=List.range'_append (s:=0) (m:=i) (n:=all.length-i) (step:=1)
  have e2:=List.range'_append (s:=i) (m:=aD all i-i) (n:=all.length-aD all i) (step:=1)
  simp only[Nat.one_mul,Nat.zero_add]at e1 e2
  rw[show i+(aD all i-i)=aD all i by omega]at e2
  rw[e2,show aD all i-i+(all.length-aD all i)=all.length-i by omega,e1,show i+(all.length-i)=all.length by omega,List.range_eq_range']
 unfold placesOf
 rw[e,List.filter_append,List.filter_append]
 have h1:(List.range' 0 i).filter (λk=>match all[k]? with|some q=>q.name==p.name|none=>false)=[]:=by
  rw[List.filter_eq_nil_iff]
  intro k hk
  simp only[List.mem_range'_1]at hk
  cases hq:all[k]? with
  |none=>simp
  |some q=>simpa using hf k q (by omega) hq
 have h3:(List.range' (aD all i) (all.length-aD all i)).filter (λk=>match all[k]? with|some q=>q.name==p.name|none=>false)=[]:=by
  rw[List.filter_eq_nil_iff]
  intro k hk
  simp only[List.mem_range'_1]at hk
  cases hq:all[k]? with
  |none=>simp
  |some q=>
   simp only[beq_iff_eq]
   intro hn
   have hlt:aD all i<all.length:=by omega
   obtain⟨r,hr⟩:=get_some hlt
   have hrn:=hc i (aD all i) k p r q hp hr hq (by omega) (by omega) hn.symm
   have:=(lD hp (Nat.le_refl _)).1 r (by rw[show i+(aD all i-i)=aD all i by omega];exact hr) hrn
   omega
 have h2:(List.range' i (aD all i-i)).filter (λk=>match all[k]? with|some q=>q.name==p.name|none=>false)=List.range' i (aD all i-i):=by
  rw[List.filter_eq_self]
  intro k hk
  simp only[List.mem_range'_1]at hk
  obtain⟨q,hq,hn⟩:=kH hp hk.1 (by omega)
  rw[hq]
  simpa using hn
 rw[h1,h2,h3,List.nil_append,List.append_nil]
theorem fk {all:List Pkg}: ∀{f i:Nat} {t:List Nat},i≤all.length→fZ all f i t=((cA (c8 all f i)).map (t++ ·)).filter λu=>dz (atL all u)
 |0,i,t,hi=>by
  simp only[fZ,c8,cA,List.map_cons,List.map_nil,List.append_nil,List.filter_cons,List.filter_nil]
 |f+1,i,t,hi=>by
  rw[fZ,c8]
  by_cases h:i=all.length
  ·rw[if_pos h,if_pos h]
   simp only[cA,List.map_cons,List.map_nil,List.append_nil,List.filter_cons,List.filter_nil]
  ·rw[if_neg h,if_neg h]
   obtain⟨p,hp⟩:=get_some (show i<all.length by omega)
   obtain⟨b1,b2⟩:=cU hp
   rw[cA,List.map_append,List.filter_append,kp,ft,fk b2]
   congr 1
   refine mi λk _=>?_
   rw[fk b2,List.map_map]
   congr 1
   refine List.map_congr_left λu _=>?_
   show t++[k]++u=t++(k::u)
   simp
theorem jG {all:List Pkg}(hc:nm all): ∀{f i:Nat},all.length≤f+i→i≤all.length→(∀j p q,j<i→all[j]?=some q→all[i]?=some p→q.name≠p.name)→
  (∀g∈c8 all f i,∃p,g=placesOf all p.name∧p∈all∧ ∀k∈g,i≤k)∧(∀k,i≤k→k<all.length→ ∃g∈c8 all f i,k∈g)∧p5 (c8 all f i)
 |0,i,hf,hi,h0=>by
  refine⟨λg hg=>(by cases hg),λk h1 h2=>by omega,trivial⟩
 |f+1,i,hf,hi,h0=>by
  rw[c8]
  by_cases h:i=all.length
  ·rw[if_pos h]
   exact⟨λg hg=>(by cases hg),λk h1 h2=>by omega,trivial⟩
  ·rw[if_neg h]
   obtain⟨p,hp⟩:=get_some (show i<all.length by omega)
   obtain⟨b1,b2⟩:=cU hp
   have hpl:=run_places hc hp λj q hj hq=>h0 j p q hj hq hp
   have hnext: ∀j p' q,j<aD all i→all[j]?=some q→all[aD all i]?=some p'→q.name≠p'.name:=λj p' q hj hq hp' hn=>by
    by_cases hji:j<i
    ·have:=hc j i (aD all i) q p p' hq hp hp' (by omega) (by omega) hn
     exact h0 j p q hji hq hp this.symm
    ·obtain⟨q',hq',hn'⟩:=kH hp (by omega:i≤j) hj
     rw[hq]at hq'
     cases hq'
     have:=(lD hp (Nat.le_refl _)).1 p' (by rw[show i+(aD all i-i)=aD all i by omega];exact hp') (hn.symm.trans hn')
     omega
   obtain⟨g1,g2,g3⟩:=jG hc (f:=f) (i:=aD all i) (by omega) b2 hnext
   refine⟨λg hg=>?_,λk h1 h2=>?_,λk hk g hg hkg=>?_,g3⟩
   ·rcases List.mem_cons.1 hg with rfl|hg
    ·exact⟨p,hpl,List.mem_of_getElem? hp,λk hk=>by simp only[List.mem_range'_1]at hk;exact hk.1⟩
    ·obtain⟨q,h1,h2,h3⟩:=g1 g hg
     exact⟨q,h1,h2,λk hk=>by have:=h3 k hk;omega⟩
   ·by_cases hk:k<aD all i
    ·exact⟨List.range' i (aD all i-i),by simp,by simp only[List.mem_range'_1];omega⟩
    ·obtain⟨g,hg,hkg⟩:=g2 k (by omega) h2
     exact⟨g,by simp[hg],hkg⟩
   ·simp only[List.mem_range'_1]at hk
    obtain⟨_,_,_,h3⟩:=g1 g hg
    have:=h3 k hkg
    omega
end Go.Av
end
section
namespace Go.Av
open Go.Proofs.Tryz
def bitsOf (n:Nat)(f:Nat→Bool):Nat:=bH ((List.range n).filter f)
theorem gl (n:Nat)(f:Nat→Bool)(i:Nat):(bitsOf n f).testBit i=(decide (i<n)&&f i):=by
 unfold bitsOf
 rw[cq,Bool.eq_iff_iff]
 simp[List.mem_filter,List.mem_range]
def sC (all:List Pkg)(c:Clause)(k:Nat):Bool:=match all[k]? with
 |some q=>c.any (cS q)
 |none=>false
def eS (all:List Pkg)(c:Clause):Nat:=bitsOf all.length (sC all c)
def gM (all:List Pkg)(i k:Nat):Bool:=match all[i]?,all[k]? with
 |some p,some q=>dQ p q
 |_,_=>false
def gh (all:List Pkg)(i:Nat):Nat:=bitsOf all.length (gM all i)
def nE (all:List Pkg)(i:Nat):List Nat:=match all[i]? with
 |some p=>(p.pre++p.dep).map (eS all)
 |none=>[]
def eO (all:List Pkg)(s:Nat):Bool:=(aV all.length s).all λi=>(nE all i).all λn=>n &&& s !=0
def Al (all:List Pkg)(s:List aG)(l:List aS)(i:Nat):Bool:=match all[i]? with
 |some p=>w8 l s p
 |none=>false
def ee (all:List Pkg)(s:List aG)(l:List aS):Dat:=⟨Al all s l,gh all,eO all⟩
def kT (all:List Pkg):Nat→Nat→List (List UInt8)
 |0,_=>[]
 |f+1,i=>match all[i]? with
  |some p=>p.name::kT all f (aD all i)
  |none=>[]
def aM (all:List Pkg)(s:List aG)(l:List aS):List (Bool×List Nat):=(kT all (all.length+1) 0).map λn=>(lV l s n,placesOf all n)
theorem ku {all:List Pkg}(hc:nm all): ∀{f i:Nat},i≤all.length→(∀j p q,j<i→all[j]?=some q→all[i]?=some p→q.name≠p.name)→c8 all f i=(kT all f i).map (placesOf all)
 |0,i,hi,h0=>rfl
 |f+1,i,hi,h0=>by
  rw[c8,kT]
  by_cases h:i=all.length
  ·rw[if_pos h,List.getElem?_eq_none (by omega)]
   rfl
  ·rw[if_neg h]
   obtain⟨p,hp⟩:=get_some (show i<all.length by omega)
   obtain⟨b1,b2⟩:=cU hp
   rw[hp,run_places hc hp λj q hj hq=>h0 j p q hj hq hp,List.map_cons,ku hc b2 λj p' q hj hq hp' hn=>?_]
   by_cases hji:j<i
   ·have:=hc j i (aD all i) q p p' hq hp hp' (by omega) (by omega) hn
    exact h0 j p q hji hq hp this.symm
   ·obtain⟨q',hq',hn'⟩:=kH hp (by omega:i≤j) hj
    rw[hq]at hq'
    cases hq'
    have:=(lD hp (Nat.le_refl _)).1 p' (by rw[show i+(aD all i-i)=aD all i by omega];exact hp') (hn.symm.trans hn')
    omega
theorem kb {R:Nat→Nat→Prop}: ∀{gs:List (List Nat)},gs.Pairwise (λg h=>∀ i∈g,∀j∈h,R i j)→ ∀{t:List Nat},t∈cA gs→t.Pairwise R
 |[],_,t,h=>by
  simp only[cA,List.mem_singleton]at h
  rw[h]
  exact .nil
 |g::r,hp,t,h=>by
  obtain⟨h1,h2⟩:=List.pairwise_cons.1 hp
  rcases pZ.1 h with⟨i,hi,u,hu,rfl⟩|h
  ·refine List.pairwise_cons.2 ⟨λj hj=>?_,kb h2 hu⟩
   obtain⟨g',hg,hj⟩:=ew hu j hj
   exact h1 g' hg i hi j hj
  ·exact kb h2 h
theorem qz : ∀{gs:List (List Nat)},p5 gs→gs.Pairwise λg h=>∀ i∈g,i∉h
 |[],_=>.nil
 |_::_,h=>List.pairwise_cons.2 ⟨λg' hg i hi=>h.1 i hi g' hg,qz h.2⟩
theorem df {all:List Pkg}{t:List Nat}{p:Pkg}:p∈atL all t↔ ∃i∈t,all[i]?=some p:=by
 unfold atL
 rw[List.mem_filterMap]
theorem bK {k n i:Nat}:i∈aV k n↔i<k∧n.testBit i=true:=by
 unfold aV
 rw[List.mem_filter,List.mem_range]
theorem sH {a b:Nat}:(a &&& b !=0)=true↔ ∃i,a.testBit i=true∧b.testBit i=true:=by
 rw[bne_iff_ne,ne_eq]
 constructor
 ·intro h
  refine Classical.byContradiction λhn=>h (Nat.eq_of_testBit_eq λi=>?_)
  rw[Nat.testBit_and,Nat.zero_testBit]
  cases ha:a.testBit i<;>cases hb:b.testBit i<;>first|rfl|exact absurd ⟨i,ha,hb⟩ hn
 ·rintro⟨i,ha,hb⟩ h
  have:=congrArg (·.testBit i) h
  simp[Nat.testBit_and,ha,hb]at this
theorem Ga {all:List Pkg}{s:List aG}{l:List aS}(hm: ∀p∈all,aL p=0)(hc:nm all)(hU:Uni all s l)(hnv:ey all s l=false){t:List Nat}(ht:t∈cA (c8 all (all.length+1) 0)):
  (okP (ee all s l) (aM all s l) 0 t&&eO all (bH t))=(dz (atL all t)&&jY l (atL all t) s):=by
 obtain⟨r1,r2,r3⟩:=jG hc (f:=all.length+1) (i:=0) (by omega) (by omega) (λj p q hj=>by omega)
 have hrn:=ku hc (f:=all.length+1) (i:=0) (by omega) (λj p q hj=>by omega)
 have hg2:(aM all s l).map (·.2)=c8 all (all.length+1) 0:=by
  unfold aM
  rw[List.map_map,hrn]
  rfl
 have hlt: ∀i∈t,∃p,all[i]?=some p:=λi hi=>by
  obtain⟨g,hg,hig⟩:=ew ht i hi
  obtain⟨p,rfl,_⟩:=r1 g hg
  obtain⟨q,hq,_⟩:=bn.1 hig
  exact⟨q,hq⟩
 have hpw:t.Pairwise λi j=>∀ p q,all[i]?=some p→all[j]?=some q→p.name≠q.name:=by
  refine kb ((qz r3).imp_of_mem λ{g h} hg hh hd i hi j hj p q hp hq hn=>?_) ht
  obtain⟨p1,rfl,_⟩:=r1 g hg
  obtain⟨p2,rfl,_⟩:=r1 h hh
  obtain⟨x,hx,hxn⟩:=bn.1 hi
  obtain⟨y,hy,hyn⟩:=bn.1 hj
  rw[hp]at hx
  rw[hq]at hy
  cases hx
  cases hy
  exact hd i hi (bn.2 ⟨p,hp,by rw[hn,hyn]⟩)
 have hnd:((atL all t).map (·.name)).Nodup:=by
  unfold atL
  rw[List.Nodup,List.pairwise_map,List.pairwise_filterMap]
  exact hpw.imp λ{i j} h p hp q hq=>h p q hp hq
 have hin: ∀p∈atL all t,p∈all:=λp hp=>by
  obtain⟨i,_,h⟩:=df.1 hp
  exact List.mem_of_getElem? h
 rw[Bool.eq_iff_iff,Bool.and_eq_true,Bool.and_eq_true,wD _ (by rw[hg2];exact r3) (by rw[hg2];exact ht),rj,xz hU hin hnd]
 have hmay:(∀i∈t,(ee all s l).may i=true∧(0:Nat).testBit i=false)↔ ∀p∈atL all t,w8 l s p=true:=by
  constructor
  ·intro h p hp
   obtain⟨i,hi,hip⟩:=df.1 hp
   have:=(h i hi).1
   simpa[ee,Al,hip]using this
  ·intro h i hi
   obtain⟨p,hp⟩:=hlt i hi
   refine⟨?_,by simp⟩
   have:=h p (df.2 ⟨i,hi,hp⟩)
   simpa[ee,Al,hp]using this
 have hlack:(∀g∈aM all s l,(∀i∈t,i∉g.2)→g.1=true)↔ ∀q∈all,ep (atL all t) q.name=none→lV l s q.name=true:=by
  have habs: ∀n,(∀i∈t,i∉placesOf all n)↔ep (atL all t) n=none:=λn=>by
   constructor
   ·intro h
    unfold ep
    rw[List.find?_eq_none]
    intro p hp
    obtain⟨i,hi,hip⟩:=df.1 hp
    have:=h i hi
    rw[bn]at this
    simp only[beq_iff_eq]
    exact λe=>this ⟨p,hip,e⟩
   ·intro h i hi hm2
    obtain⟨p,hp,hn⟩:=bn.1 hm2
    exact u9 (f:=Pkg.name) h p (df.2 ⟨i,hi,hp⟩) hn
  constructor
  ·intro h q hq hf
   obtain⟨k,hk⟩:=List.mem_iff_getElem?.1 hq
   obtain⟨g,hg,hkg⟩:=r2 k (by omega) (List.getElem?_eq_some_iff.1 hk).1
   rw[hrn]at hg
   obtain⟨n,hn,rfl⟩:=List.mem_map.1 hg
   obtain⟨q',hq',hqn⟩:=bn.1 hkg
   rw[hk]at hq'
   cases hq'
   have:=h (lV l s n,placesOf all n) (List.mem_map.2 ⟨n,hn,rfl⟩) ((habs n).2 (by rw[←hqn];exact hf))
   rw[hqn]
   exact this
  ·intro h g hg hno
   obtain⟨n,hn,rfl⟩:=List.mem_map.1 hg
   have hgr:placesOf all n∈c8 all (all.length+1) 0:=by rw[hrn];exact List.mem_map_of_mem hn
   have hne: ∃q∈all,q.name=n:=by
    have: ∀{f i:Nat},n∈kT all f i→ ∃q∈all,q.name=n:=λ{f}=>by
     induction f with
     |zero=>intro i h;cases h
     |succ f ih=>
      intro i h
      rw[kT]at h
      cases hp:all[i]? with
      |none=>rw[hp]at h;cases h
      |some p=>
       rw[hp]at h
       rcases List.mem_cons.1 h with rfl|h
       ·exact⟨p,List.mem_of_getElem? hp,rfl⟩
       ·exact ih h
    exact this hn
   obtain⟨q,hq,rfl⟩:=hne
   exact h q hq ((habs _).1 hno)
 have hclash:(t.Pairwise λi j=>((ee all s l).lk i).testBit j=false)↔(atL all t).Pairwise λp q=>dQ p q=false:=by
  unfold atL
  rw[List.pairwise_filterMap]
  constructor
  ·intro h
   refine h.imp_of_mem λ{i j} hi hj h p hp q hq=>?_
   have hb:((gh all i).testBit j)=false:=h
   unfold gh at hb
   rw[gl]at hb
   have hjl:=(List.getElem?_eq_some_iff.1 hq).1
   rw[decide_eq_true hjl,Bool.true_and]at hb
   unfold gM at hb
   rw[hp,hq]at hb
   exact hb
  ·intro h
   refine h.imp_of_mem λ{i j} hi hj h=>?_
   show(gh all i).testBit j=false
   unfold gh
   rw[gl]
   obtain⟨p,hp⟩:=hlt i hi
   obtain⟨q,hq⟩:=hlt j hj
   simp[gM,hp,hq,h p hp q hq]
 have hmet:eO all (bH t)=true↔ ∀p∈atL all t,∀c∈p.pre++p.dep,∃q∈atL all t,c.any (cS q)=true:=by
  unfold eO
  rw[List.all_eq_true]
  constructor
  ·intro h p hp c hcm
   obtain⟨i,hi,hip⟩:=df.1 hp
   have h1:=h i (bK.2 ⟨(List.getElem?_eq_some_iff.1 hip).1,by rw[cq];simpa using hi⟩)
   unfold nE at h1
   rw[hip]at h1
   have h2:=List.all_eq_true.1 h1 (eS all c) (List.mem_map_of_mem hcm)
   obtain⟨j,hj1,hj2⟩:=sH.1 h2
   unfold eS at hj1
   rw[gl,Bool.and_eq_true]at hj1
   rw[cq,decide_eq_true_eq]at hj2
   obtain⟨q,hq⟩:=hlt j hj2
   exact⟨q,df.2 ⟨j,hj2,hq⟩,by simpa[sC,hq]using hj1.2⟩
  ·intro h i hi
   obtain⟨hil,hib⟩:=bK.1 hi
   rw[cq,decide_eq_true_eq]at hib
   obtain⟨p,hp⟩:=hlt i hib
   unfold nE
   rw[hp,List.all_eq_true]
   intro n hn
   obtain⟨c,hcm,rfl⟩:=List.mem_map.1 hn
   obtain⟨q,hq,hsat⟩:=h p (df.2 ⟨i,hib,hp⟩) c hcm
   obtain⟨j,hj,hjq⟩:=df.1 hq
   refine sH.2 ⟨j,?_,by rw[cq];simpa using hj⟩
   unfold eS
   rw[gl]
   rw[decide_eq_true (List.getElem?_eq_some_iff.1 hjq).1,Bool.true_and]
   unfold sC
   rw[hjq]
   exact hsat
 rw[hmay,hlack,hclash,hmet]
 constructor
 ·rintro⟨⟨h1,h2,h3⟩,h4⟩
  refine⟨⟨λp hp=>hm p (hin p hp),?_,h4⟩,hnv,h1,h3⟩
  have h5:(atL all t).Pairwise λp q=>p.name≠q.name:=by
   have:=hnd
   rw[List.Nodup,List.pairwise_map]at this
   exact this
  exact h5.and h2
 ·rintro⟨⟨h1,h2,h3⟩,h4,h5,h6⟩
  exact⟨⟨h5,h2.imp λ{a b} h=>h.2,h6⟩,h3⟩
theorem Aj {all:List Pkg}{s:List aG}{l:List aS}(hm: ∀p∈all,aL p=0)(hc:nm all)(hU:Uni all s l)(hnv:ey all s l=false):
  (nk (ee all s l) (aM all s l) 0 0).Perm (((fZ all (all.length+1) 0 []).filter λt=>jY l (atL all t) s).map bH):=by
 obtain⟨_,_,r3⟩:=jG hc (f:=all.length+1) (i:=0) (by omega) (by omega) (λj p q hj=>by omega)
 have hrn:=ku hc (f:=all.length+1) (i:=0) (by omega) (λj p q hj=>by omega)
 have hg2:(aM all s l).map (·.2)=c8 all (all.length+1) 0:=by
  unfold aM
  rw[List.map_map,hrn]
  rfl
 refine(vF _ 0 0 (by rw[hg2];exact r3)).trans (List.Perm.of_eq ?_)
 rw[hg2,fk (by omega),List.filter_map,List.filter_filter]
 have e1:(λt=>0 ||| bH t)=bH:=by
  funext t
  simp
 rw[e1]
 have e2:(cA (c8 all (all.length+1) 0)).map (([]:List Nat)++ ·)=cA (c8 all (all.length+1) 0):=by
  simp
 rw[e2,List.filter_filter]
 congr 1
 refine List.filter_congr λt ht=>?_
 have h:=Ga hm hc hU hnv ht
 show(eO all (bH t)&&okP _ _ _ t)=(jY _ _ _&&dz _)
 rw[Bool.and_comm,h,Bool.and_comm]
end Go.Av
end
section
namespace Go.Av
open Go.Proofs.Tryz
def cH (all:List Pkg)(p:Pkg):Nat:=(all.filter λq=>q.name==p.name&&decide (0<bo q.ver p.ver)).length
def Hs (t:List Pkg):Nat:=(t.map λp=>(p.rcm.filter λc=>!ll c t).length).sum
def yD (up:Bool)(r c m n l:Nat):List Nat:=if up=true then [l,r,m,n,c]else [r,c,m,n,l]
def CH (t:List Pkg)(x:aG):Bool:=match ep t x.pkg.name with
 |some p=>!bm p.ver x.pkg.ver
 |none=>false
def zv (all:List Pkg)(s:List aG)(t:List Pkg)(up:Bool):List Nat:=
 yD up (s.filter λx=>(ep t x.pkg.name).isNone).length (s.filter (CH t)).length (Hs t) (t.filter λp=>(eo s p.name).isNone).length ((t.map (cH all)).sum)
def orN :List Nat→Nat
 |[]=>0
 |a::r=>a ||| orN r
theorem CT : ∀(l:List Nat) (i:Nat),(orN l).testBit i=l.any λa=>a.testBit i
 |[],i=>by simp[orN]
 |a::r,i=>by rw[orN,Nat.testBit_or,CT r i,List.any_cons]
def gB (all:List Pkg)(x:aG):Nat:=bH (placesOf all x.pkg.name)
def gS (all:List Pkg)(s:List aG)(i:Nat):Bool:=match all[i]? with
 |some p=>(match eo s p.name with
  |some x=>!bm x.pkg.ver p.ver
  |none=>false)
 |none=>false
def tc (all:List Pkg)(i:Nat):List Nat:=match all[i]? with
 |some p=>p.rcm.map (eS all)
 |none=>[]
def dA (all:List Pkg)(i:Nat):Nat:=match all[i]? with
 |some p=>cH all p
 |none=>0
def jn (all:List Pkg)(s:List aG)(S:Nat)(up:Bool):List Nat:=
 yD up (s.filter λx=>gB all x &&& S==0).length ((aV all.length S).filter (gS all s)).length
  ((aV all.length S).map λi=>((tc all i).filter λw=>w &&& S==0).length).sum
  ((aV all.length S).filter λi=>!(orN (s.map (gB all))).testBit i).length ((aV all.length S).map (dA all)).sum
theorem r5 {all:List Pkg}(hc:nm all): ∀{f i:Nat},all.length≤f+i→i≤all.length→(∀j p q,j<i→all[j]?=some q→all[i]?=some p→q.name≠p.name)→(c8 all f i).Pairwise (λg h=>∀ i∈g,∀j∈h,i<j)∧ ∀g∈c8 all f i,g.Pairwise (· < ·)
 |0,i,hf,hi,h0=>⟨.nil,λg hg=>by cases hg⟩
 |f+1,i,hf,hi,h0=>by
  rw[c8]
  by_cases h:i=all.length
  ·rw[if_pos h]
   exact⟨.nil,λg hg=>by cases hg⟩
  ·rw[if_neg h]
   obtain⟨p,hp⟩:=get_some (show i<all.length by omega)
   obtain⟨b1,b2⟩:=cU hp
   have hnext: ∀j p' q,j<aD all i→all[j]?=some q→all[aD all i]?=some p'→q.name≠p'.name:=λj p' q hj hq hp' hn=>by
    by_cases hji:j<i
    ·have:=hc j i (aD all i) q p p' hq hp hp' (by omega) (by omega) hn
     exact h0 j p q hji hq hp this.symm
    ·obtain⟨q',hq',hn'⟩:=kH hp (by omega:i≤j) hj
     rw[hq]at hq'
     cases hq'
     have:=(lD hp (Nat.le_refl _)).1 p' (by rw[show i+(aD all i-i)=aD all i by omega];exact hp') (hn.symm.trans hn')
     omega
   obtain⟨k1,k2⟩:=r5 hc (f:=f) (i:=aD all i) (by omega) b2 hnext
   obtain⟨g1,_,_⟩:=jG hc (f:=f) (i:=aD all i) (by omega) b2 hnext
   refine⟨List.pairwise_cons.2 ⟨λg hg a ha b hb=>?_,k1⟩,λg hg=>?_⟩
   ·simp only[List.mem_range'_1]at ha
    obtain⟨_,_,_,h3⟩:=g1 g hg
    have:=h3 b hb
    omega
   ·rcases List.mem_cons.1 hg with rfl|hg
    ·exact List.pairwise_lt_range'
    ·exact k2 g hg
theorem xC {all:List Pkg}(hc:nm all){t:List Nat}(ht:t∈cA (c8 all (all.length+1) 0)):aV all.length (bH t)=t:=by
 obtain⟨r1,r2,r3⟩:=jG hc (f:=all.length+1) (i:=0) (by omega) (by omega) (λj p q hj=>by omega)
 obtain⟨k1,k2⟩:=r5 hc (f:=all.length+1) (i:=0) (by omega) (by omega) (λj p q hj=>by omega)
 have hs:t.Pairwise (· < ·):=kb k1 ht
 have h2:(aV all.length (bH t)).Pairwise (· < ·):=List.Pairwise.sublist List.filter_sublist List.pairwise_lt_range
 refine List.Perm.eq_of_pairwise (le:=(· < ·)) (λa b _ _ h1 h2=>by omega) h2 hs ?_
 rw[List.perm_ext_iff_of_nodup (h2.imp λ{a b} h=>by omega) (hs.imp λ{a b} h=>by omega)]
 intro i
 rw[bK,cq,decide_eq_true_eq]
 constructor
 ·exact λh=>h.2
 ·intro hi
  obtain⟨g,hg,hig⟩:=ew ht i hi
  obtain⟨p,rfl,_⟩:=r1 g hg
  obtain⟨q,hq,_⟩:=bn.1 hig
  exact⟨(List.getElem?_eq_some_iff.1 hq).1,hi⟩
theorem wo {all:List Pkg}(f:Pkg→Nat)(g:Nat→Nat)(hg: ∀i,g i=match all[i]? with|some p=>f p|none=>0): ∀t:List Nat,(t.map g).sum=((atL all t).map f).sum
 |[]=>rfl
 |i::r=>by
  have ih:=wo f g hg r
  have h1:=hg i
  cases hp:all[i]? with
  |none=>
   rw[hp]at h1
   have e:atL all (i::r)=atL all r:=by simp[atL,hp]
   rw[List.map_cons,List.sum_cons,h1,ih,e,Nat.zero_add]
  |some p=>
   rw[hp]at h1
   have e:atL all (i::r)=p::atL all r:=by simp[atL,hp]
   rw[List.map_cons,List.sum_cons,h1,ih,e,List.map_cons,List.sum_cons]
theorem sc {all:List Pkg}(f:Pkg→Bool)(g:Nat→Bool){t:List Nat}(hg: ∀i∈t,∃p,all[i]?=some p∧g i=f p):(t.filter g).length=((atL all t).filter f).length:=by
 induction t with
 |nil=>rfl
 |cons i r ih=>
  obtain⟨p,hp,h1⟩:=hg i (by simp)
  have e:atL all (i::r)=p::atL all r:=by simp[atL,hp]
  have ih:=ih λj hj=>hg j (by simp[hj])
  rw[e,List.filter_cons,List.filter_cons,h1]
  split
  ·rw[List.length_cons,List.length_cons,ih]
  ·exact ih
theorem and_zero {a b:Nat}:(a &&& b==0)= !(a &&& b !=0):=by
 simp[bne]
theorem Ky {all:List Pkg}{s:List aG}{l:List aS}(hc:nm all)(hU:Uni all s l){t:List Nat}(ht:t∈cA (c8 all (all.length+1) 0))(up:Bool):jn all s (bH t) up=zv all s (atL all t) up:=by
 obtain⟨r1,r2,r3⟩:=jG hc (f:=all.length+1) (i:=0) (by omega) (by omega) (λj p q hj=>by omega)
 have hlt: ∀i∈t,∃p,all[i]?=some p:=λi hi=>by
  obtain⟨g,hg,hig⟩:=ew ht i hi
  obtain⟨p,rfl,_⟩:=r1 g hg
  obtain⟨q,hq,_⟩:=bn.1 hig
  exact⟨q,hq⟩
 have hpw:t.Pairwise λi j=>∀ p q,all[i]?=some p→all[j]?=some q→p.name≠q.name:=by
  refine kb ((qz r3).imp_of_mem λ{g h} hg hh hd i hi j hj p q hp hq hn=>?_) ht
  obtain⟨p1,rfl,_⟩:=r1 g hg
  obtain⟨p2,rfl,_⟩:=r1 h hh
  obtain⟨x,hx,hxn⟩:=bn.1 hi
  obtain⟨y,hy,hyn⟩:=bn.1 hj
  rw[hp]at hx
  rw[hq]at hy
  cases hx
  cases hy
  exact hd i hi (bn.2 ⟨p,hp,by rw[hn,hyn]⟩)
 have hnd:((atL all t).map (·.name)).Nodup:=by
  unfold atL
  rw[List.Nodup,List.pairwise_map,List.pairwise_filterMap]
  exact hpw.imp λ{i j} h p hp q hq=>h p q hp hq
 unfold jn zv
 rw[xC hc ht]
 have hthere: ∀x:aG,(gB all x &&& bH t==0)=(ep (atL all t) x.pkg.name).isNone:=λx=>by
  rw[and_zero,Bool.eq_iff_iff,Bool.not_eq_true',←Bool.not_eq_true,sH,Option.isNone_iff_eq_none]
  unfold gB
  constructor
  ·intro h
   unfold ep
   rw[List.find?_eq_none]
   intro p hp
   obtain⟨i,hi,hip⟩:=df.1 hp
   simp only[beq_iff_eq]
   exact λe=>h ⟨i,by rw[cq,decide_eq_true_eq,bn];exact⟨p,hip,e⟩,by rw[cq];simpa using hi⟩
  ·rintro h ⟨i,h1,h2⟩
   rw[cq,decide_eq_true_eq]at h1 h2
   obtain⟨p,hp,hn⟩:=bn.1 h1
   exact u9 (f:=Pkg.name) h p (df.2 ⟨i,h2,hp⟩) hn
 have e1:(s.filter λx=>gB all x &&& bH t==0)=s.filter λx=>(ep (atL all t) x.pkg.name).isNone:=List.filter_congr λx _=>hthere x
 have e2:(t.filter (gS all s)).length=(s.filter (CH (atL all t))).length:=by
  rw[sc (λp=>match eo s p.name with|some x=>!bm x.pkg.ver p.ver|none=>false) _ λi hi=>by
   obtain⟨p,hp⟩:=hlt i hi
   exact⟨p,hp,by unfold gS;rw[hp]⟩]
  have key: ∀(A:List Pkg) (B:List aG),((A.map Pkg.name).Perm (B.map λx=>x.pkg.name))→A.length=B.length:=λA B h=>by simpa using h.length_eq
  refine key _ _ ((List.perm_ext_iff_of_nodup ?_ ?_).2 λn=>?_)
  ·exact hnd.sublist (List.Sublist.map _ List.filter_sublist)
  ·exact hU.Fm.sublist (List.Sublist.map _ List.filter_sublist)
  ·simp only[List.mem_map,List.mem_filter]
   constructor
   ·rintro⟨p,⟨hp,h1⟩,rfl⟩
    cases hx:eo s p.name with
    |none=>rw[hx]at h1;cases h1
    |some x=>
     rw[hx]at h1
     obtain⟨hxm,hxn⟩:=mN hx
     refine⟨x,⟨hxm,?_⟩,hxn⟩
     unfold CH
     rw[hxn,vb hnd hp]
     simp only
     rw[kX]
     exact h1
   ·rintro⟨x,⟨hx,h1⟩,rfl⟩
    unfold CH at h1
    cases hf:ep (atL all t) x.pkg.name with
    |none=>rw[hf]at h1;cases h1
    |some p=>
     rw[hf]at h1
     obtain⟨hp,hpn⟩:=jq hf
     refine⟨p,⟨hp,?_⟩,hpn⟩
     rw[hpn,pq hU.Fm hx]
     simp only
     rw[kX]
     exact h1
 have e3:(t.map λi=>((tc all i).filter λw=>w &&& bH t==0).length).sum=Hs (atL all t):=by
  refine wo (λp=>(p.rcm.filter λc=>!ll c (atL all t)).length) _ (λi=>?_) t
  unfold tc
  cases hp:all[i]? with
  |none=>rfl
  |some p=>
   simp only
   rw[List.filter_map,List.length_map]
   congr 1
   refine List.filter_congr λc _=>?_
   show(eS all c &&& bH t==0)= !ll c (atL all t)
   rw[and_zero]
   congr 1
   rw[Bool.eq_iff_iff,sH,yF]
   constructor
   ·rintro⟨j,h1,h2⟩
    unfold eS at h1
    rw[gl,Bool.and_eq_true]at h1
    rw[cq,decide_eq_true_eq]at h2
    obtain⟨q,hq⟩:=hlt j h2
    refine⟨q,df.2 ⟨j,h2,hq⟩,?_⟩
    have:=h1.2
    unfold sC at this
    rw[hq]at this
    exact this
   ·rintro⟨q,hq,hsat⟩
    obtain⟨j,hj,hjq⟩:=df.1 hq
    refine⟨j,?_,by rw[cq];simpa using hj⟩
    unfold eS
    rw[gl,decide_eq_true (List.getElem?_eq_some_iff.1 hjq).1,Bool.true_and]
    unfold sC
    rw[hjq]
    exact hsat
 have e4:(t.filter λi=>!(orN (s.map (gB all))).testBit i).length=((atL all t).filter λp=>(eo s p.name).isNone).length:=by
  refine sc _ _ λi hi=>?_
  obtain⟨p,hp⟩:=hlt i hi
  refine⟨p,hp,?_⟩
  rw[CT,List.any_map,Bool.eq_iff_iff,Bool.not_eq_true',List.any_eq_false,Option.isNone_iff_eq_none]
  unfold eo
  rw[List.find?_eq_none]
  constructor
  ·intro h x hx
   have:=h x hx
   show ¬(x.pkg.name==p.name)=true
   rw[beq_iff_eq]
   intro e
   refine this ?_
   show(bH (placesOf all x.pkg.name)).testBit i=true
   rw[cq,decide_eq_true_eq,bn]
   exact⟨p,hp,e.symm⟩
  ·intro h x hx hb
   have hb:(bH (placesOf all x.pkg.name)).testBit i=true:=hb
   rw[cq,decide_eq_true_eq,bn]at hb
   obtain⟨q,hq,hn⟩:=hb
   rw[hp]at hq
   cases hq
   exact h x hx (by simpa using hn.symm)
 have e5:(t.map (dA all)).sum=((atL all t).map (cH all)).sum:=wo (cH all) _ (λi=>rfl) t
 rw[e1,e2,e3,e4,e5]
end Go.Av
end
section
namespace Go.Av
def lexB :List Nat→List Nat→Bool
 |a::x,b::y=>if a=b then lexB x y else decide (a<b)
 |_,_=>false
def eG :List Nat→List Nat→Bool
 |[],_=>false
 |_::_,[]=>true
 |a::x,b::y=>if a=b then eG x y else decide (a<b)
def ltP (x y:List Nat×List Nat):Bool:=lexB x.1 y.1||(x.1==y.1&&eG x.2 y.2)
theorem zQ : ∀a:List Nat,lexB a a=false
 |[]=>rfl
 |a::x=>by rw[lexB,if_pos rfl,zQ x]
theorem tz : ∀{a b c:List Nat},lexB a b=true→lexB b c=true→lexB a c=true
 |[],_,_,h,_=>by cases h
 |_::_,[],_,h,_=>by cases h
 |_::_,_::_,[],_,h=>by cases h
 |a::x,b::y,c::z,h1,h2=>by
  rw[lexB]at h1 h2 ⊢
  by_cases hab:a=b
  ·subst hab
   rw[if_pos rfl]at h1
   by_cases hac:a=c
   ·subst hac
    rw[if_pos rfl]at h2 ⊢
    exact tz h1 h2
   ·rw[if_neg hac]at h2 ⊢
    exact h2
  ·rw[if_neg hab,decide_eq_true_eq]at h1
   by_cases hbc:b=c
   ·subst hbc
    rw[if_neg hab,decide_eq_true_eq]
    exact h1
   ·rw[if_neg hbc,decide_eq_true_eq]at h2
    rw[if_neg (by omega),decide_eq_true_eq]
    omega
theorem yN : ∀{a b:List Nat},a.length=b.length→a≠b→lexB a b=true∨lexB b a=true
 |[],[],_,h=>absurd rfl h
 |[],_::_,h,_=>by cases h
 |_::_,[],h,_=>by cases h
 |a::x,b::y,hl,h=>by
  rw[lexB,lexB]
  by_cases hab:a=b
  ·subst hab
   rw[if_pos rfl,if_pos rfl]
   exact yN (by simpa using hl) λe=>h (by rw[e])
  ·rw[if_neg hab,if_neg (λe=>hab e.symm),decide_eq_true_eq,decide_eq_true_eq]
   omega
theorem tM : ∀a:List Nat,eG a a=false
 |[]=>rfl
 |a::x=>by rw[eG,if_pos rfl,tM x]
theorem pM : ∀{a b c:List Nat},eG a b=true→eG b c=true→eG a c=true
 |[],_,_,h,_=>by cases h
 |_::_,[],_,_,h=>by cases h
 |_::_,_::_,[],_,_=>rfl
 |a::x,b::y,c::z,h1,h2=>by
  rw[eG]at h1 h2 ⊢
  by_cases hab:a=b
  ·subst hab
   rw[if_pos rfl]at h1
   by_cases hac:a=c
   ·subst hac
    rw[if_pos rfl]at h2 ⊢
    exact pM h1 h2
   ·rw[if_neg hac]at h2 ⊢
    exact h2
  ·rw[if_neg hab,decide_eq_true_eq]at h1
   by_cases hbc:b=c
   ·subst hbc
    rw[if_neg hab,decide_eq_true_eq]
    exact h1
   ·rw[if_neg hbc,decide_eq_true_eq]at h2
    rw[if_neg (by omega),decide_eq_true_eq]
    omega
theorem tN : ∀{a b:List Nat},a≠b→eG a b=true∨eG b a=true
 |[],[],h=>absurd rfl h
 |[],_::_,_=>.inr rfl
 |_::_,[],_=>.inl rfl
 |a::x,b::y,h=>by
  rw[eG,eG]
  by_cases hab:a=b
  ·subst hab
   rw[if_pos rfl,if_pos rfl]
   exact tN λe=>h (by rw[e])
  ·rw[if_neg hab,if_neg (λe=>hab e.symm),decide_eq_true_eq,decide_eq_true_eq]
   omega
theorem rU {x y:List Nat×List Nat}:ltP x y=true↔lexB x.1 y.1=true∨(x.1=y.1∧eG x.2 y.2=true):=by
 unfold ltP
 simp only[Bool.or_eq_true,Bool.and_eq_true,beq_iff_eq]
theorem IW (x:List Nat×List Nat):ltP x x=false:=by
 rw[←Bool.not_eq_true,rU,zQ,tM]
 simp
theorem vQ {x y z:List Nat×List Nat}(h1:ltP x y=true)(h2:ltP y z=true):ltP x z=true:=by
 rw[rU]at *
 rcases h1 with h1|⟨e1,h1⟩
 ·rcases h2 with h2|⟨e2,h2⟩
  ·exact .inl (tz h1 h2)
  ·exact .inl (by rw[←e2];exact h1)
 ·rcases h2 with h2|⟨e2,h2⟩
  ·exact .inl (by rw[e1];exact h2)
  ·exact .inr ⟨e1.trans e2,pM h1 h2⟩
theorem Cy {x y:List Nat×List Nat}(hl:x.1.length=y.1.length)(h:x.2≠y.2)(hn:ltP x y=false):ltP y x=true:=by
 rw[←Bool.not_eq_true,rU]at hn
 rw[rU]
 by_cases he:x.1=y.1
 ·rcases tN h with h1|h1
  ·exact absurd (.inr ⟨he,h1⟩) hn
  ·exact .inr ⟨he.symm,h1⟩
 ·rcases yN hl he with h1|h1
  ·exact absurd (.inl h1) hn
  ·exact .inl h1
def uD (x:List Nat×List Nat)(o:List (List Nat×List Nat)):List (List Nat×List Nat):=o.takeWhile (λy=>ltP y x)++x::o.dropWhile λy=>ltP y x
def Sv (l:List (List Nat×List Nat)):List (List Nat×List Nat):=l.foldl (λo x=>uD x o) []
theorem uY (x:List Nat×List Nat)(o:List (List Nat×List Nat)):(uD x o).Perm (x::o):=by
 unfold uD
 refine List.perm_middle.trans (List.Perm.cons _ ?_)
 rw[List.takeWhile_append_dropWhile]
theorem qU {x:List Nat×List Nat}: ∀{o:List (List Nat×List Nat)},o.Pairwise (λa b=>ltP a b=true)→(∀y∈o,y.2≠x.2∧y.1.length=x.1.length)→(uD x o).Pairwise λa b=>ltP a b=true
 |[],_,_=>by simp[uD]
 |y::r,hp,hd=>by
  obtain⟨h1,h2⟩:=List.pairwise_cons.1 hp
  unfold uD
  by_cases hy:ltP y x=true
  ·rw[List.takeWhile_cons,if_pos hy,List.dropWhile_cons,if_pos hy,List.cons_append]
   refine List.pairwise_cons.2 ⟨λz hz=>?_,qU h2 λz hz=>hd z (by simp[hz])⟩
   have hz2:z∈x::r:=(uY x r).subset hz
   rcases List.mem_cons.1 hz2 with rfl|hz2
   ·exact hy
   ·exact h1 z hz2
  ·rw[List.takeWhile_cons,if_neg hy,List.dropWhile_cons,if_neg hy,List.nil_append]
   obtain⟨d1,d2⟩:=hd y (by simp)
   have hxy:=Cy (x:=y) (y:=x) d2 d1 (by simpa using hy)
   refine List.pairwise_cons.2 ⟨λz hz=>?_,hp⟩
   rcases List.mem_cons.1 hz with rfl|hz
   ·exact hxy
   ·exact vQ hxy (h1 z hz)
theorem ze {k:Nat}: ∀{l o:List (List Nat×List Nat)},(o++l).Pairwise (λa b=>a.2≠b.2)→(∀y∈o++l,y.1.length=k)→o.Pairwise (λa b=>ltP a b=true)→(l.foldl (λo x=>uD x o) o).Perm (o++l)∧(l.foldl (λo x=>uD x o) o).Pairwise λa b=>ltP a b=true
 |[],o,_,_,h=>by simpa using h
 |x::l,o,hd,hk,h=>by
  rw[List.foldl_cons]
  have hxo: ∀y∈o,y.2≠x.2:=λy hy=>(List.pairwise_append.1 hd).2.2 y hy x (by simp)
  have hs:=qU h λy hy=>⟨hxo y hy,by rw[hk y (by simp[hy]),hk x (by simp)]⟩
  have hp:(uD x o++l).Perm (o++x::l):=((uY x o).append_right l).trans (by rw[List.cons_append];exact List.perm_middle.symm)
  obtain⟨h1,h2⟩:=ze (k:=k) (l:=l) (o:=uD x o) (hp.symm.pairwise hd λ{a b} h=>h.symm) (λy hy=>hk y (hp.subset hy)) hs
  exact⟨h1.trans hp,h2⟩
def jQ (t:List Nat):Nat:=bH (t.map (31- ·))
theorem oa {a:Nat}{t:List Nat}(h:(a::t).Pairwise (· < ·))(h32: ∀i∈a::t,i<32):jQ t<2^(31-a)∧jQ (a::t)=2^(31-a)+jQ t:=by
 have key: ∀(t:List Nat) (a:Nat),(a::t).Pairwise (· < ·)→(∀i∈a::t,i<32)→jQ t<2^(31-a):=λt=>by
  induction t with
  |nil=>intro a _ _;exact Nat.two_pow_pos _
  |cons b r ih=>
   intro a h h32
   obtain⟨h1,h2⟩:=List.pairwise_cons.1 h
   have hab:=h1 b (by simp)
   have hb:=h32 b (by simp)
   have ihb:=ih b h2 λi hi=>h32 i (by simp only[List.mem_cons]at hi ⊢;exact .inr hi)
   have e:jQ (b::r)=2^(31-b) ||| jQ r:=rfl
   rw[e]
   refine Nat.or_lt_two_pow ?_ ?_
   ·exact Nat.pow_lt_pow_right (by decide) (by omega)
   ·exact Nat.lt_of_lt_of_le ihb (Nat.pow_le_pow_right (by decide) (by omega))
 have hlt:=key t a h h32
 refine⟨hlt,?_⟩
 show 2^(31-a) ||| jQ t=_
 have:=Nat.two_pow_add_eq_or_of_lt hlt 1
 rw[Nat.mul_one]at this
 exact this.symm
theorem uc : ∀{t u:List Nat},t.Pairwise (· < ·)→u.Pairwise (· < ·)→(∀i∈t,i<32)→(∀i∈u,i<32)→eG t u=decide (jQ u<jQ t)
 |[],u,_,_,_,_=>by
  rw[eG]
  exact(decide_eq_false (by simp[jQ,bH])).symm
 |a::t,[],ht,_,h32,_=>by
  obtain⟨_,e⟩:=oa ht h32
  rw[eG,e]
  have:=Nat.two_pow_pos (31-a)
  exact(decide_eq_true (by simp only[jQ,List.map_nil,bH];omega)).symm
 |a::t,b::u,ht,hu,h32,h32u=>by
  obtain⟨g1,e1⟩:=oa ht h32
  obtain⟨g2,e2⟩:=oa hu h32u
  have ha:=h32 a (by simp)
  have hb:=h32u b (by simp)
  rw[eG,e1,e2]
  by_cases hab:a=b
  ·subst hab
   rw[if_pos rfl,uc (List.pairwise_cons.1 ht).2 (List.pairwise_cons.1 hu).2 (λi hi=>h32 i (by simp[hi])) (λi hi=>h32u i (by simp[hi]))]
   exact decide_eq_decide.2 (by omega)
  ·rw[if_neg hab]
   refine decide_eq_decide.2 ?_
   rcases Nat.lt_or_gt_of_ne hab with h|h
   ·have:=Nat.pow_le_pow_right (show 0<2 by decide) (show 31-b+1≤31-a by omega)
    rw[Nat.pow_succ]at this
    omega
   ·have:=Nat.pow_le_pow_right (show 0<2 by decide) (show 31-a+1≤31-b by omega)
    rw[Nat.pow_succ]at this
    omega
end Go.Av
end
section
namespace Go.Av
def fU :List (Bool×List Nat)→Nat
 |[]=>1
 |g::r=>(1+g.2.length)*fU r
theorem wa : ∀gs,0<fU gs
 |[]=>by decide
 |g::r=>Nat.mul_pos (by omega) (wa r)
theorem mM {α:Type}{f:α→Nat}{k:Nat}: ∀{l:List α},(∀a∈l,f a≤k)→(l.map f).sum≤l.length*k
 |[],_=>by simp
 |a::r,h=>by
  have ih:=mM (f:=f) (k:=k) (l:=r) λb hb=>h b (by simp[hb])
  have:=h a (by simp)
  rw[List.map_cons,List.sum_cons,List.length_cons,Nat.succ_mul]
  omega
theorem Cg (D:Dat): ∀{gs:List (Bool×List Nat)} (s c:Nat),(∀g∈gs,g.2≠[])→ie D gs s c+1≤2*fU gs
 |[],s,c,_=>by simp[ie,fU]
 |g::r,s,c,h=>by
  have ih:=λs c=>Cg D (gs:=r) s c λx hx=>h x (by simp[hx])
  have hp:=wa r
  have hg:1≤g.2.length:=by
   have:=h g (by simp)
   cases hl:g.2 with
   |nil=>exact absurd hl this
   |cons a b=>simp
  have h1:(if g.1=true then ie D r s c else 0)≤2*fU r-1:=by
   have:=ih s c
   split<;>omega
  have h2:=mM (f:=λi=>ie D r (s ||| 2^i) (c ||| D.lk i)) (k:=2*fU r-1) (l:=g.2.filter λi=>D.may i&& !c.testBit i) λi _=>by
   have:=ih (s ||| 2^i) (c ||| D.lk i)
   show ie D r (s ||| 2^i) (c ||| D.lk i)≤_
   omega
  have h3:(g.2.filter λi=>D.may i&& !c.testBit i).length*(2*fU r-1)≤g.2.length*(2*fU r-1):=Nat.mul_le_mul_right _ (List.length_filter_le _ _)
  rw[ie,fU]
  have e:2*((1+g.2.length)*fU r)=2*fU r+g.2.length*(2*fU r-1)+g.2.length:=by
   obtain⟨m,hm⟩: ∃m,2*fU r=m+1:=⟨2*fU r-1,by omega⟩
   rw[hm,Nat.add_sub_cancel,show 2*((1+g.2.length)*fU r)=(1+g.2.length)*(2*fU r) by rw[←Nat.mul_assoc,Nat.mul_comm 2,Nat.mul_assoc],hm,Nat.add_mul,Nat.one_mul,Nat.mul_add,Nat.mul_one]
   omega
  omega
theorem yx : ∀gs:List (Bool×List Nat),fU gs≤2^(gs.map λg=>g.2.length).sum
 |[]=>by simp[fU]
 |g::r=>by
  have h2: ∀k:Nat,1+k≤2^k:=λk=>by
   induction k with
   |zero=>decide
   |succ k ih=>rw[Nat.pow_succ];omega
  rw[fU,List.map_cons,List.sum_cons,Nat.pow_add]
  exact Nat.mul_le_mul (h2 _) (yx r)
end Go.Av
end
section
namespace Go.Av
def TT (x y z:Int):Prop:=x≤0→y≤0→z≤0∧(z=0→x=0∧y=0)
theorem TT.zero :TT 0 0 0:=λ_ _=>⟨Int.le_refl _,λ_=>⟨rfl,rfl⟩⟩
theorem TT.lex {x y z x' y' z':Int}(h:TT x y z)(h':x=0→y=0→z=0→TT x' y' z'):TT (if x≠0 then x else x') (if y≠0 then y else y') (if z≠0 then z else z'):=by
 intro hx hy
 have h1:x≤0:=by split at hx<;>omega
 have h2:y≤0:=by split at hy<;>omega
 obtain⟨h3,h4⟩:=h h1 h2
 by_cases hz:z=0
 ·obtain⟨rfl,rfl⟩:=h4 hz
  subst hz
  simp only[ne_eq,not_true_eq_false,if_false]at hx hy ⊢
  exact h' rfl rfl rfl hx hy
 ·rw[if_pos hz]
  exact⟨h3,λe=>absurd e hz⟩
theorem TT.sgn (a b c:Int):TT (sgn a b) (sgn b c) (sgn a c):=by
 intro h1 h2
 unfold Go.Av.sgn at *
 repeat' split at h1
 all_goals repeat' split at h2
 all_goals repeat' split
 all_goals omega
theorem TT.L5 : ∀(a b c:List UInt8),TT (bL a b) (bL b c) (bL a c)
 |a,b,c=>by
  by_cases h:rk a=rk b∧rk b=rk c
  ·obtain⟨h1,h2⟩:=h
   by_cases h0:rk a=0
   ·rw[fG h0 (by omega),fG (by omega) (by omega),fG h0 (by omega)]
    exact .zero
   ·rw[fD h0 h1,fD (by omega) h2,fD h0 (by omega)]
    have ha:a≠[]:=λe=>h0 (by rw[e];rfl)
    have:a.tail.length<a.length:=by
     cases a with
     |nil=>exact absurd rfl ha
     |cons x r=>simp
    exact TT.L5 a.tail b.tail c.tail
  ·have e: ∀x y:List UInt8,rk x=rk y∨bL x y=Go.Av.sgn (rk x) (rk y):=λx y=>by
    by_cases h:rk x=rk y
    ·exact .inl h
    ·exact .inr (dp h)
   have hs:=TT.sgn (rk a) (rk b) (rk c)
   by_cases h1:rk a=rk b
   ·have h2:rk b≠rk c:=λh2=>h ⟨h1,h2⟩
    rw[dp h2,dp (show rk a≠rk c by omega)]
    intro _ hy
    rw[h1]
    exact⟨hy,λhz=>absurd hz (qD h2)⟩
   ·by_cases h2:rk b=rk c
    ·rw[dp h1,dp (show rk a≠rk c by omega)]
     intro hx _
     rw[←h2]
     exact⟨hx,λhz=>absurd hz (qD h1)⟩
    ·rw[dp h1,dp h2]
     intro hx hy
     have hlt:rk a<rk b∧rk b<rk c:=by
      unfold Go.Av.sgn at hx hy
      repeat' split at hx
      all_goals repeat' split at hy
      all_goals omega
     rw[dp (show rk a≠rk c by omega)]
     exact⟨by unfold Go.Av.sgn;rw[if_pos (by omega)];decide,λhz=>absurd hz (qD (by omega))⟩
termination_by a=>a.length
theorem TT.e7 : ∀{a b c:List UInt8},a.length=b.length→b.length=c.length→TT (e7 a b) (e7 b c) (e7 a c)
 |[],[],[],_,_=>.zero
 |[],_::_,_,h,_=>by cases h
 |_::_,[],_,h,_=>by cases h
 |[],[],_::_,_,h=>by cases h
 |_::_,_::_,[],_,h=>by cases h
 |x::a,y::b,z::c,h1,h2=>by
  have e: ∀(x y:UInt8) (a b:List UInt8),Go.Av.e7 (x::a) (y::b)=if Go.Av.sgn x.toNat y.toNat≠0 then Go.Av.sgn x.toNat y.toNat else Go.Av.e7 a b:=λx y a b=>by
   rw[Go.Av.e7]
   by_cases h:x=y
   ·subst h
    rw[if_pos rfl,mm,if_neg (by simp)]
   ·have hne:(x.toNat:Int)≠y.toNat:=λe=>h (UInt8.toNat_inj.1 (by omega))
    rw[if_neg h,if_pos (qD hne)]
  rw[e,e,e]
  exact(TT.sgn _ _ _).lex λ_ _ _=>TT.e7 (by simpa using h1) (by simpa using h2)
theorem sI (a b:List UInt8):aZ a b=if bL a b≠0 then bL a b
  else if Go.Av.sgn (bb (aJ a)) (bb (aJ b))≠0 then Go.Av.sgn (bb (aJ a)) (bb (aJ b))
  else if e7 ((aJ a).take (bb (aJ a))) ((aJ b).take (bb (aJ b)))≠0 then e7 ((aJ a).take (bb (aJ a))) ((aJ b).take (bb (aJ b)))
  else aZ ((aJ a).drop (bb (aJ a))) ((aJ b).drop (bb (aJ b))):=by
 by_cases h:a=[]∧b=[]
 ·obtain⟨rfl,rfl⟩:=h
  rw[aZ,dif_pos ⟨rfl,rfl⟩,if_neg (by decide),if_neg (by decide),if_neg (by decide)]
  show 0=aZ [] []
  rw[aZ,dif_pos ⟨rfl,rfl⟩]
 ·rw[sv h]
  by_cases h2:bb (aJ a)=bb (aJ b)
  ·rw[if_neg (show ¬(bb (aJ a)≠bb (aJ b)) by omega),h2,mm,if_neg (show ¬((0:Int)≠0) by omega)]
  ·have hne:((bb (aJ a):Nat):Int)≠(bb (aJ b):Nat):=by omega
   rw[if_pos h2,if_pos (qD hne)]
theorem TT.part : ∀(n:Nat) (a b c:List UInt8),a.length+b.length+c.length≤n→TT (aZ a b) (aZ b c) (aZ a c)
 |n,a,b,c,hn=>by
  by_cases h0:a=[]∧b=[]∧c=[]
  ·obtain⟨rfl,rfl,rfl⟩:=h0
   have:aZ [] []=0:=by rw[aZ,dif_pos ⟨rfl,rfl⟩]
   rw[this]
   exact .zero
  ·have la:=nI a
   have lb:=nI b
   have lc:=nI c
   have hlt:((aJ a).drop (bb (aJ a))).length+((aJ b).drop (bb (aJ b))).length+((aJ c).drop (bb (aJ c))).length<n:=by
    by_cases ha:a=[]
    ·by_cases hb:b=[]
     ·have:=kQ (s:=c) λhc=>h0 ⟨ha,hb,hc⟩
      omega
     ·have:=kQ hb
      omega
    ·have:=kQ ha
     omega
   rw[sI a b,sI b c,sI a c]
   refine(TT.L5 a b c).lex λ_ _ _=>(TT.sgn _ _ _).lex λe1 e2 _=>?_
   have r1:=nZ e1
   have r2:=nZ e2
   have tk: ∀s:List UInt8,(s.take (bb s)).length=bb s:=λs=>by
    rw[List.length_take]
    exact Nat.min_eq_left (pJ s)
   refine(TT.e7 (by rw[tk,tk];omega) (by rw[tk,tk];omega)).lex λ_ _ _=>?_
   exact TT.part (n-1) _ _ _ (by omega)
termination_by n=>n
decreasing_by omega
theorem TT.ver {a b c:List UInt8}(ha:bk a=true)(hb:bk b=true)(hc:bk c=true):TT (bo a b) (bo b c) (bo a c):=by
 unfold bk at ha hb hc
 unfold bo
 obtain⟨⟨e,u,r⟩,h1⟩:=Option.isSome_iff_exists.1 ha
 obtain⟨⟨f,v,s⟩,h2⟩:=Option.isSome_iff_exists.1 hb
 obtain⟨⟨g,w,t⟩,h3⟩:=Option.isSome_iff_exists.1 hc
 rw[h1,h2,h3]
 exact(TT.part _ e f g (Nat.le_refl _)).lex λ_ _ _=>(TT.part _ u v w (Nat.le_refl _)).lex λ_ _ _=>TT.part _ r s t (Nat.le_refl _)
theorem er : ∀a:List UInt8,Op.bytesLess a a=false
 |[]=>rfl
 |x::a=>by simp[Op.bytesLess,er a]
theorem fy : ∀{a b c:List UInt8},Op.bytesLess a b=true→Op.bytesLess b c=true→Op.bytesLess a c=true
 |_,[],_,h,_=>by cases ‹List UInt8› <;>simp[Op.bytesLess]at h
 |_,_::_,[],_,h=>by simp[Op.bytesLess]at h
 |[],_::_,_::_,_,_=>by simp[Op.bytesLess]
 |x::a,y::b,z::c,h1,h2=>by
  simp only[Op.bytesLess,Bool.or_eq_true,Bool.and_eq_true,decide_eq_true_eq,beq_iff_eq,UInt8.lt_iff_toNat_lt]at h1 h2 ⊢
  rcases h1 with h1|⟨rfl,h1⟩
  ·rcases h2 with h2|⟨rfl,h2⟩
   ·exact .inl (by omega)
   ·exact .inl h1
  ·rcases h2 with h2|⟨rfl,h2⟩
   ·exact .inl h2
   ·exact .inr ⟨rfl,fy h1 h2⟩
theorem tY : ∀{a b:List UInt8},a≠b→Op.bytesLess a b=false→Op.bytesLess b a=true
 |[],[],h,_=>absurd rfl h
 |[],_::_,_,h=>by simp[Op.bytesLess]at h
 |_::_,[],_,_=>by simp[Op.bytesLess]
 |x::a,y::b,h,h1=>by
  simp only[Op.bytesLess,Bool.or_eq_false_iff,Bool.and_eq_false_iff,decide_eq_false_iff_not,beq_eq_false_iff_ne,UInt8.lt_iff_toNat_lt]at h1
  simp only[Op.bytesLess,Bool.or_eq_true,Bool.and_eq_true,decide_eq_true_eq,beq_iff_eq,UInt8.lt_iff_toNat_lt]
  by_cases hxy:x=y
  ·subst hxy
   have h2:Op.bytesLess a b=false:=by
    rcases h1.2 with h2|h2
    ·exact absurd rfl h2
    ·exact h2
   exact .inr ⟨rfl,tY (λe=>h (by rw[e])) h2⟩
  ·have:x.toNat≠y.toNat:=λe=>hxy (UInt8.toNat_inj.1 e)
   exact .inl (by omega)
theorem D4 (a b:List UInt8):fA b a= -fA a b:=by
 unfold fA
 by_cases h:a=b
 ·subst h
  rw[er]
  simp
 ·cases h1:Op.bytesLess a b with
  |true=>
   have h2:Op.bytesLess b a=false:=by
    cases h2:Op.bytesLess b a with
    |false=>rfl
    |true=>
     have:=fy h1 h2
     rw[er]at this
     cases this
   rw[h2]
   simp[Ne.symm h]
  |false=>
   rw[tY h h1]
   simp[h]
theorem TT.str (a b c:List UInt8):TT (fA a b) (fA b c) (fA a c):=by
 have key: ∀x y:List UInt8,fA x y≤0↔Op.bytesLess x y=true∨x=y:=λx y=>by
  unfold fA
  by_cases h:x=y
  ·subst h
   rw[er]
   simp
  ·cases h1:Op.bytesLess x y<;>simp[h]
 have kz: ∀x y:List UInt8,fA x y=0↔x=y:=λx y=>by
  unfold fA
  by_cases h:x=y
  ·subst h
   rw[er]
   simp
  ·cases h1:Op.bytesLess x y<;>simp[h]
 intro h1 h2
 rw[key]at h1 h2
 rw[key,kz,kz,kz]
 rcases h1 with h1|rfl
 ·rcases h2 with h2|rfl
  ·refine⟨.inl (fy h1 h2),?_⟩
   rintro rfl
   have:=fy h1 h2
   rw[er]at this
   cases this
  ·refine⟨.inl h1,?_⟩
   rintro rfl
   rw[er]at h1
   cases h1
 ·exact⟨h2,λe=>⟨rfl,e⟩⟩
end Go.Av
end
section
namespace Go.Av
open Go.Proofs.Tryz
def fQ (p q:Pkg):Int:=if fA p.name q.name≠0 then fA p.name q.name else bo q.ver p.ver
theorem iU {x y:List UInt8}:fA x y=0↔x=y:=by
 unfold fA
 by_cases h:x=y
 ·subst h
  rw[er]
  simp
 ·cases h1:Op.bytesLess x y<;>simp[h]
theorem kq (p q:Pkg):fQ q p= -fQ p q:=by
 unfold fQ
 rw[D4 p.name q.name,gP q.ver p.ver]
 by_cases h:fA p.name q.name=0
 ·rw[if_neg (by omega),if_neg (by omega)]
 ·rw[if_pos (by omega),if_pos h]
theorem TT.swap {x y z:Int}(h:TT x y z):TT y x z:=λh1 h2=>by
 obtain⟨a,b⟩:=h h2 h1
 exact⟨a,λe=>⟨(b e).2,(b e).1⟩⟩
theorem TT.pkg {p q r:Pkg}(hp:bk p.ver=true)(hq:bk q.ver=true)(hr:bk r.ver=true):TT (fQ p q) (fQ q r) (fQ p r):=
 (TT.str p.name q.name r.name).lex λ_ _ _=>(TT.ver hr hq hp).swap
theorem wW {p q:Pkg}:wg p q=true↔fQ q p≤0:=by
 unfold wg fQ
 by_cases h:q.name=p.name
 ·rw[h,er,iU.2 rfl,gP q.ver p.ver]
  simp
 ·have hz:fA q.name p.name≠0:=λe=>h (iU.1 e)
  rw[if_pos hz]
  have hb:(q.name==p.name)=false:=by simpa using h
  rw[hb,Bool.false_and,Bool.or_false]
  unfold fA
  cases h1:Op.bytesLess q.name p.name<;>simp[h]
def uz (l:List Pkg):Prop:=∀ p∈l,bk p.ver=true
def lx (l:List Pkg):Prop:=l.Pairwise λp q=>fQ p q≤0
theorem zB {p:Pkg}: ∀{o:List Pkg},bk p.ver=true→uz o→lx o→lx (pX p o)
 |[],_,_,_=>by simp[lx,pX]
 |q::r,hp,hv,hs=>by
  obtain⟨h1,h2⟩:=List.pairwise_cons.1 hs
  have hq:=hv q (by simp)
  have hr:uz r:=λx hx=>hv x (by simp[hx])
  unfold pX
  by_cases hb:wg p q=true
  ·rw[List.takeWhile_cons,if_pos hb,List.dropWhile_cons,if_pos hb,List.cons_append]
   refine List.pairwise_cons.2 ⟨λz hz=>?_,zB hp hr h2⟩
   rcases List.mem_cons.1 ((qc p r).subset hz)with rfl|hz
   ·exact wW.1 hb
   ·exact h1 z hz
  ·rw[List.takeWhile_cons,if_neg hb,List.dropWhile_cons,if_neg hb,List.nil_append]
   have hpq:fQ p q≤0:=by
    rw[wW]at hb
    have:=kq q p
    omega
   refine List.pairwise_cons.2 ⟨λz hz=>?_,hs⟩
   rcases List.mem_cons.1 hz with rfl|hz
   ·exact hpq
   ·exact(TT.pkg hp hq (hr z hz) hpq (h1 z hz)).1
theorem iT {l:List Pkg}(h:uz l):lx (cw l):=by
 have key: ∀(l o:List Pkg),uz l→uz o→lx o→lx (l.foldl (λo p=>pX p o) o):=λl=>by
  induction l with
  |nil=>intro o _ _ h;exact h
  |cons p r ih=>
   intro o hl ho hs
   refine ih _ (λx hx=>hl x (by simp[hx])) (λx hx=>?_) (zB (hl p (by simp)) ho hs)
   rcases List.mem_cons.1 ((qc p o).subset hx)with rfl|hx
   ·exact hl x (by simp)
   ·exact ho x hx
 exact key l [] h (λx hx=>by cases hx) .nil
theorem Cf {α:Type}{f:α→Bool}: ∀{o:List α},(∀q∈o,f q=true)→o.takeWhile f=o∧o.dropWhile f=[]
 |[],_=>⟨rfl,rfl⟩
 |q::r,h=>by
  obtain⟨e1,e2⟩:=Cf (f:=f) (o:=r) λx hx=>h x (by simp[hx])
  rw[List.takeWhile_cons,if_pos (h q (by simp)),List.dropWhile_cons,if_pos (h q (by simp)),e1,e2]
  exact⟨rfl,rfl⟩
theorem px {l:List Pkg}(h:lx l):cw l=l:=by
 have key: ∀(l o:List Pkg),lx (o++l)→l.foldl (λo p=>pX p o) o=o++l:=λl=>by
  induction l with
  |nil=>intro o _;simp
  |cons p r ih=>
   intro o hs
   have hall: ∀q∈o,wg p q=true:=λq hq=>wW.2 ((List.pairwise_append.1 hs).2.2 q hq p (by simp))
   have e:pX p o=o++[p]:=by
    unfold pX
    obtain⟨e1,e2⟩:=Cf hall
    rw[e1,e2]
   rw[List.foldl_cons,e,ih (o++[p]) (by simpa using hs)]
   simp
 exact key l [] h
theorem xF {l:List Pkg}(h:lx l):nm l:=by
 intro i j k p q r hp hq hr hij hjk hn
 have hle: ∀{i j:Nat} {p q:Pkg},i≤j→l[i]?=some p→l[j]?=some q→fA p.name q.name≤0:=λ{i j p q} hij hp hq=>by
  by_cases e:i=j
  ·subst e
   rw[hp]at hq
   cases hq
   rw[iU.2 rfl]
   exact Int.le_refl _
  ·obtain⟨hi,hp'⟩:=List.getElem?_eq_some_iff.1 hp
   obtain⟨hj,hq'⟩:=List.getElem?_eq_some_iff.1 hq
   have:=List.pairwise_iff_getElem.1 h i j hi hj (by omega)
   rw[hp',hq']at this
   unfold fQ at this
   split at this<;>omega
 have h1:=hle hij hp hq
 have h2:=hle hjk hq hr
 have:=(TT.str p.name q.name r.name h1 h2).2 (iU.2 hn)
 exact(iU.1 this.1).symm
def tW (l:List Pkg):Prop:=l.Pairwise λx y=>cL y x=false
theorem eV {l:List Pkg}(h:bg l=0):tW l∧uz l:=by
 unfold bg at h
 split at h
 ·cases h
 split at h
 ·rename_i h2;exact absurd h h2
 rename_i h2
 split at h
 ·cases h
 rename_i h3
 have h3:jz [] l=false:=by simpa using h3
 refine⟨((lY l []).1 h3).2,λp hp=>?_⟩
 have hm:=gg (Classical.not_not.1 h2) _ (List.mem_map.2 ⟨p,hp,rfl⟩)
 unfold aL at hm
 split at hm
 ·cases hm
 ·rename_i hc
  simp only[Bool.or_eq_true,Bool.not_eq_true',not_or,Bool.not_eq_false]at hc
  exact hc.2
theorem uX {l:List Pkg}(h:tW l){p q:Pkg}(hp:p∈l)(hq:q∈l)(hs:cL p q=true):p=q:=by
 induction l with
 |nil=>cases hp
 |cons x r ih=>
  obtain⟨h1,h2⟩:=List.pairwise_cons.1 h
  rcases List.mem_cons.1 hp with e1|hp1
  ·rcases List.mem_cons.1 hq with e2|hq1
   ·rw[e1,e2]
   ·have:=h1 q hq1
    rw[mg,←e1,hs]at this
    cases this
  ·rcases List.mem_cons.1 hq with e2|hq1
   ·have:=h1 p hp1
    rw[←e2,hs]at this
    cases this
   ·exact ih h2 hp1 hq1
theorem AR {p q:Pkg}(hp:bk p.ver=true)(hq:bk q.ver=true)(h:fQ p q=0):cL p q=true:=by
 unfold fQ at h
 split at h
 ·rename_i h1;exact absurd h h1
 ·rename_i h1
  have hn:=iU.1 (Classical.not_not.1 h1)
  unfold cL bm
  simp[hn,hp,hq,h]
theorem CN {l a b:List Pkg}(hd:tW l)(hv:uz l)(ha:lx a)(hb:lx b)(pa:a.Perm l)(pb:b.Perm l):a=b:=by
 refine List.Perm.eq_of_pairwise (le:=λp q=>fQ p q≤0) (λp q hp hq h1 h2=>?_) ha hb (pa.trans pb.symm)
 have h3:=kq p q
 exact uX hd (pa.subset hp) (pb.subset hq) (AR (hv p (pa.subset hp)) (hv q (pb.subset hq)) (by omega))
def qb (l:List Pkg)(n v:List UInt8):Option Nat:=l.findIdx? λq=>q.name==n&&bm q.ver v
theorem rr {all:List Pkg}(h:bg all=0):(∀i p,all[i]?=some p→qb (cw all) p.name p.ver=some i)↔all=cw all:=by
 obtain⟨hd,hv⟩:=eV h
 have hself: ∀p∈all,cL p p=true:=λp hp=>by
  have:=hv p hp
  unfold cL bm
  rw[this]
  have e:bo p.ver p.ver=0:=by have:=gP p.ver p.ver;omega
  simp[e]
 have hf: ∀(l:List Pkg) (p:Pkg),qb l p.name p.ver=l.findIdx? (cL p):=λl p=>rfl
 constructor
 ·intro hI
  refine List.ext_getElem? λi=>?_
  cases hp:all[i]? with
  |none=>
   have hl:=(eI all).length_eq
   have:=List.getElem?_eq_none_iff.1 hp
   exact(List.getElem?_eq_none (by omega)).symm
  |some p=>
   have h1:=hI i p hp
   rw[hf,List.findIdx?_eq_some_iff_getElem]at h1
   obtain⟨hlt,h2,_⟩:=h1
   have hpm:=List.mem_of_getElem? hp
   have hqm:=(eI all).subset (List.getElem_mem hlt)
   have:=uX hd hpm hqm h2
   rw[List.getElem?_eq_getElem hlt,←this]
 ·intro he i p hp
  rw[←he,hf,List.findIdx?_eq_some_iff_getElem]
  obtain⟨hlt,hpi⟩:=List.getElem?_eq_some_iff.1 hp
  refine⟨hlt,by rw[hpi];exact hself p (List.mem_of_getElem? hp),λj hj=>?_⟩
  have:=List.pairwise_iff_getElem.1 hd j i (by omega) hlt hj
  rw[hpi]at this
  simpa using this
end Go.Av
end
