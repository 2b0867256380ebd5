/- What the last text of this claim rests on. No conditions. -/
import Derived.Test.YtbkobngljnnmgaaGreatDoorWah
import Derived.Test.YtbkobngljnnmgaaGreatDoorWao
set_option linter.unusedSimpArgs false
set_option linter.unusedVariables false
open List renaming pairwise_cons->ab4,flatMap_cons->ab6,getElem?_eq_some_iff->ab8,filter_append->ab9,filter_eq_nil_iff->aca,mem_cons->acb,filter_congr->acd,all_eq_true->ace,takeWhile_cons->acf,dropWhile_cons->acg,map_cons->ach,findIdx?_eq_some_iff_getElem->acj,takeWhile_append_dropWhile->acm,mem_map->acp,perm_ext_iff_of_nodup->acq,pairwise_iff_getElem->acr,map_append->acv,filter_map->acw,pairwise_append->acz,map_congr_left->acB,mem_map_of_mem->acC,filter_sublist->acD,range'_append->acE,filter_filter->acF,find?_eq_none->acG,any_eq_false->acH,getElem_mem->acJ,cons_append->acK,nil_append->acM
open Bool renaming and_eq_true->ab5,not_eq_true'->ack,eq_iff_iff->aco,or_eq_true->acu,or_eq_false_iff->acy
open Option renaming isNone_iff_eq_none->ab7,isSome_iff_exists->aci
open UInt8 renaming lt_iff_toNat_lt->acn,toNat_inj->acO
open List.Perm renaming eq_of_pairwise->acs,length_eq->acS,append->acV,of_eq->acW
open Nat renaming testBit_or->acx,pow_le_pow_right->acA,le_refl->acL,two_pow_pos->acN,one_mul->acR
open List.Pairwise renaming imp->acI,sublist->acQ,and->acT
open Classical renaming byContradiction->acP,not_not->acU
section
namespace Go.Av
abbrev S6 :List UInt8:=[112,97,99,107,97,103,101]
abbrev QT :List UInt8:=[118,101,114,115,105,111,110]
abbrev abU :List UInt8:=[112,114,101,45,100,101,112,101,110,100,115]
abbrev abM :List UInt8:=[100,101,112,101,110,100,115]
abbrev abz :List UInt8:=[114,101,99,111,109,109,101,110,100,115]
abbrev abr :List UInt8:=[99,111,110,102,108,105,99,116,115]
abbrev abB :List UInt8:=[98,114,101,97,107,115]
abbrev aa1 :List UInt8:=[112,114,111,118,105,100,101,115]
abbrev abG :List UInt8:=[101,115,115,101,110,116,105,97,108]
abbrev ZP :List UInt8:=[104,111,108,100]
abbrev aas :List UInt8:=[99,111,110,102,105,103,117,114,101,100]
abbrev aaA :List UInt8:=[112,114,105,111,114,105,116,121]
abbrev aby :List UInt8:=[115,116,97,116,101]
abbrev abX :List UInt8:=[121,101,115]
abbrev sNo :List UInt8:=[110,111]
abbrev ab2 :List UInt8:=[117,110,112,97,99,107,101,100]
inductive p5 where
 |text (s:List UInt8)
 |count (n:Int)
 |yes (b:Bool)
 |cls (l:List Clause)
 |atoms (l:List Atom)
 |Sl (l:List iK)
def ua (s:List UInt8):List UInt8:=s.map W3
def Wl (n:List UInt8):Nat:=
 if ua n=S6 then 0 else if ua n=QT then 1
 else if ua n=abU\/ua n=abM\/ua n=abz then 2
 else if ua n=abr\/ua n=abB then 3
 else if ua n=aa1 then 4
 else if ua n=abG\/ua n=ZP\/ua n=aas then 5
 else if ua n=aaA then 6 else 7
def Z2 :List UInt8->Int->Int
 |[],n=>n
 |c::r,n=>Z2 r (10*n+(c.toNat-48))
def abq (s:List UInt8):Option Int:=if s.length=0\/9<s.length\/(1<s.length/\s.head?=some 48)\/s.all bk=false then none else some (Z2 s 0)
def Hw (a:Atom):Bool:=decide (a.rel=0)||decide (a.rel=3)
def zY (_:Atom):Bool:=true
def X3 (c:Clause):iK:=match c with
 |[]=>⟨[],[]⟩
 |a::_=>⟨a.name,a.ver⟩
def aap (name s:List UInt8):Except Int p5:=
 match Wl name with
 |0=>if eI s=true then .ok (.text s)else .error 3
 |1=>if bM s=true then .ok (.text s)else .error 3
 |2=>if (AM zY false s).2=0 then .ok (.cls (AM zY false s).1)else .error (AM zY false s).2
 |3=>if (AM zY true s).2=0 then .ok (.atoms (AM zY true s).1.flatten)else .error (AM zY true s).2
 |4=>if (AM Hw true s).2=0 then .ok (.Sl ((AM Hw true s).1.map X3))else .error (AM Hw true s).2
 |5=>if s=abX then .ok (.yes true)else if s=sNo then .ok (.yes false)else .error 3
 |6=>match abq s with
  |some n=>.ok (.count n)
  |none=>.error 3
 |_=>.ok (.text s)
structure aD where
 pkg:Pkg
 px:Bool
 hold:Bool
 deriving DecidableEq
def xK :Pkg:=⟨[],[],[],[],[],[],[],[],false⟩
def gi :aD:=⟨xK,false,false⟩
structure Acc where
 ent:aD
 n:Bool
 v:Bool
 s:Bool
def p5.cl :p5->List Clause| .cls l=>l|_=>[]
def p5.at :p5->List Atom| .atoms l=>l|_=>[]
def p5.pr :p5->List iK| .Sl l=>l|_=>[]
def kU :List aD->Bool
 |x::y::r=>!Go.Op.bytesLess x.pkg.name y.pkg.name||kU (y::r)
 |_=>false
def bK (l:List aD):Int:=if 10<l.length then 12 else if orL (l.map λx=>aS x.pkg)≠0 then orL (l.map λx=>aS x.pkg)else if kU l=true then 4 else 0
structure aM where
 kind:Int
 name:List UInt8
 ver:List UInt8
 deriving DecidableEq
def cR (l:List aM)(n:List UInt8):Option aM:=l.find? λa=>a.name==n
def cI (s:List aD)(n:List UInt8):Option aD:=s.find? λx=>x.pkg.name==n
def fA (t:List Pkg)(n:List UInt8):Option Pkg:=t.find? λp=>p.name==n
def kindOf :Option aM->Int
 |some a=>a.kind
 |none=>0
def rh :Option aM->List UInt8
 |some a=>a.ver
 |none=>[]
def gU :Option aM->Bool
 |some a=>a.kind==1&&a.ver !=[]
 |none=>false
def xo (q:Option aM)(h:Bool):Bool:=match q with
 |some a=>if a.kind=5 then true else if a.kind=6\/a.kind=2\/(a.kind=1/\a.ver≠[])then false else h
 |none=>h
def oE (l:List aM):Bool:=l.any λa=>a.kind==3
def tD (l:List aM)(s:List aD)(n:List UInt8):Bool:=!oE l||((cI s n).isSome||kindOf (cR l n)==1)&& !(kindOf (cR l n)==2)
def Bo (l:List aM)(s:List aD)(p:Pkg):Bool:=
 !(kindOf (cR l p.name)==2)&&(!gU (cR l p.name)||bn p.ver (rh (cR l p.name)))&&
 (match cI s p.name with
  |some x=>(!xo (cR l p.name) x.hold||bn p.ver x.pkg.ver)&&(gU (cR l p.name)|| !decide (cc p.ver x.pkg.ver<0))
  |none=>true)&&tD l s p.name
def ot (l:List aM)(s:List aD)(n:List UInt8):Bool:=
 !(kindOf (cR l n)==1)&& !(match cI s n with
  |some x=>xo (cR l n) x.hold||x.pkg.ess
  |none=>false)&& !(oE l&&tD l s n)
def dQ (all:List Pkg)(s:List aD)(l:List aM):Bool:=l.any λa=>(a.kind==5&&(cI s a.name).isNone)||(a.kind==1&& !(all.any λp=>p.name==a.name))
def qa (t:List Pkg)(s:List aD)(a:aM):Bool:=
 if a.kind=1 then(match fA t a.name with
  |none=>false
  |some p=>a.ver==[]||bn p.ver a.ver)
 else if a.kind=2 then(fA t a.name).isNone else if a.kind=5 then(cI s a.name).isSome else true
def Cr (l:List aM)(t:List Pkg)(x:aD):Bool:=match fA t x.pkg.name with
 |none=>!(xo (cR l x.pkg.name) x.hold||x.pkg.ess)
 |some p=>(!xo (cR l x.pkg.name) x.hold||bn p.ver x.pkg.ver)&& !(decide (cc p.ver x.pkg.ver<0)&& !gU (cR l x.pkg.name))
def vK (l:List aM)(t:List Pkg)(s:List aD):Bool:=(t.all λp=>(cI s p.name).isSome||kindOf (cR l p.name)==1)&&(s.all λx=>(fA t x.pkg.name).isSome||kindOf (cR l x.pkg.name)==2)
def iM (l:List aM)(t:List Pkg)(s:List aD):Bool:=l.all (qa t s)&&s.all (Cr l t)&&(!oE l||vK l t s)
theorem uw {α:Type}{f:α->List UInt8}: ∀{l:List α} {a:α},(l.map f).Nodup->a∈l->l.find? (λx=>f x==f a)=some a
 |b::l,a,hn,h=>by
  rw[ach,List.nodup_cons]at hn;rw[List.find?_cons];rcases acb.1 h with rfl|h
  .simp_all
  .have hne:(f b==f a)=false:=by
    grind
   rw[hne];exact uw hn.2 h
theorem NF {α:Type}{f:α->List UInt8}{l:List α}{n:List UInt8}(h:l.find? (λx=>f x==n)=none): ∀a∈l,f a≠n:=λa ha e=>by
 simp_all
theorem vM {α:Type}{f:α->List UInt8}{l:List α}{n:List UInt8}{a:α}(h:l.find? (λx=>f x==n)=some a):a∈l/\f a=n:=
 ⟨List.mem_of_find?_eq_some h,by grind⟩
structure Uni (all:List Pkg)(s:List aD)(l:List aM):Prop where
 asks:(l.map (·.name)).Nodup
 QV:(s.map (·.pkg.name)).Nodup
 sub: ∀x∈s,∃p∈all,p.name=x.pkg.name
theorem tn {l:List aM}(h:(l.map (·.name)).Nodup){a:aM}(ha:a∈l):cR l a.name=some a:=uw (f:=aM.name) h ha
theorem kQ {s:List aD}(h:(s.map (·.pkg.name)).Nodup){x:aD}(hx:x∈s):cI s x.pkg.name=some x:=uw (f:=λx:aD=>x.pkg.name) h hx
theorem zB {t:List Pkg}(h:(t.map (·.name)).Nodup){p:Pkg}(hp:p∈t):fA t p.name=some p:=uw (f:=Pkg.name) h hp
theorem mF {l:List aM}{n:List UInt8}{a:aM}(h:cR l n=some a):a∈l/\a.name=n:=vM (f:=aM.name) h
theorem Az {s:List aD}{n:List UInt8}{x:aD}(h:cI s n=some x):x∈s/\x.pkg.name=n:=vM (f:=λx:aD=>x.pkg.name) h
theorem xT {t:List Pkg}{n:List UInt8}{p:Pkg}(h:fA t n=some p):p∈t/\p.name=n:=vM (f:=Pkg.name) h
theorem CN {all:List Pkg}{s:List aD}{l:List aM}(hU:Uni all s l){t:List Pkg}(ht: ∀p∈t,p∈all)(hn:(t.map (·.name)).Nodup):
  iM l t s=true↔dQ all s l=false/\(∀p∈t,Bo l s p=true)/\ ∀q∈all,fA t q.name=none->ot l s q.name=true:=by
 unfold iM;rw[ab5,ab5,ace,ace];constructor
 .rintro⟨⟨h1,h2⟩,h3⟩;have hrem: ∀n,kindOf (cR l n)=2->fA t n=none:=λn hk=>by
   cases hq:cR l n with
   |none=>rw[hq]at hk;cases hk
   |some a=>
    obtain⟨ha,hna⟩:=mF hq;rw[hq]at hk;have hk:a.kind=2:=hk;have:=h1 a ha;simp_all[qa]
  have hins: ∀n,kindOf (cR l n)=1-> ∃p,fA t n=some p/\(rh (cR l n)=[]\/bn p.ver (rh (cR l n))=true):=λn hk=>by
   cases hq:cR l n with
   |none=>rw[hq]at hk;cases hk
   |some a=>
    obtain⟨ha,hna⟩:=mF hq;rw[hq]at hk;have hk:a.kind=1:=hk;grind [qa,rh]
  refine⟨?_,λp hp=>?_,λq hq hf=>?_⟩
  .grind [dQ,ab7,qa,fA]
  .have hf:=zB hn hp;unfold Bo;simp only[ab5];refine⟨⟨⟨?_,?_⟩,?_⟩,?_⟩
   .grind
   .cases hq:cR l p.name with
    |none=>rfl
    |some a=>
     by_cases he:gU (some a)=true
     .have hk:a.kind=1:=by grind [gU]
      obtain⟨p',hp',hv⟩:=hins p.name (by rw[hq];exact hk);rw[hf]at hp';cases hp';rw[hq]at hv;rcases hv with hv|hv
      .simp only[gU,ab5,bne_iff_ne,ne_eq]at he;exact absurd hv he.2
      simp_all
     simp_all
   .grind [cI,Cr]
   grind [tD,vK]
  .have hni:(kindOf (cR l q.name)==1)=false:=by
    grind
   grind [ot,cI,Cr,vK,tD]
 .rintro⟨h1,h2,h3⟩;unfold dQ at h1;rw[acH]at h1;have hpres: ∀n,(∃q∈all,q.name=n)->ot l s n=false-> ∃p,fA t n=some p/\Bo l s p=true/\p.name=n:=λn ⟨q,hq,hqn⟩ hl=>by
   cases hf:fA t n with
   |none=>
    grind
   |some p=>
    grind [xT]
  have hmay: ∀p,Bo l s p=true->(kindOf (cR l p.name)==2)=false/\(gU (cR l p.name)=true->bn p.ver (rh (cR l p.name))=true)/\(∀x,cI s p.name=some x->(!xo (cR l p.name) x.hold||bn p.ver x.pkg.ver)=true/\(gU (cR l p.name)|| !decide (cc p.ver x.pkg.ver<0))=true)/\tD l s p.name=true:=λp hp=>by
   grind [Bo]
  refine⟨⟨λa ha=>?_,λx hx=>?_⟩,?_⟩
  .have haq:=tn hU.asks ha;have hnev:=h1 a ha;simp only[acu,ab5,beq_iff_eq,ab7,ack,not_or,not_and]at hnev;unfold qa;grind [ot,kindOf,gU,rh,ab7,fA]
  .grind [kQ,Uni.QV,Uni.sub,Cr,ot,xT]
  .cases hp1:oE l with
   |false=>rfl
   |true=>
    show vK l t s=true;unfold vK;grind [tD,kQ,Uni.QV,Uni.sub,fA,ot]
def dh :List (List Nat)->List (List Nat)
 |[]=>[[]]
 |g::r=>(g.flatMap λi=>(dh r).map (i:: ·))++dh r
theorem s9 {g:List Nat}{r:List (List Nat)}{t:List Nat}:t∈dh (g::r)↔(∃i∈g,∃u∈dh r,t=i::u)\/t∈dh r:=by
 grind [dh]
theorem ft : ∀{gs:List (List Nat)} {t:List Nat},t∈dh gs-> ∀i∈t,∃g∈gs,i∈g
 |[],t,h,i,hi=>by
  grind [dh]
 |g::r,t,h,i,hi=>by
  rcases s9.1 h with⟨j,hj,u,hu,rfl⟩|h
  .rcases acb.1 hi with rfl|hi
   .simp_all
   .obtain⟨g',hg,hi⟩:=ft hu i hi;grind
  .obtain⟨g',hg,hi⟩:=ft h i hi;grind
structure Dat where
 may:Nat->Bool
 ry:Nat->Nat
 hl:Nat->Bool
def pA (D:Dat):List (Bool×List Nat)->Nat->Nat->List Nat
 |[],s,_=>if D.hl s=true then [s]else []
 |g::r,s,c=>(if g.1=true then pA D r s c else [])++(g.2.filter λi=>D.may i&& !c.testBit i).flatMap λi=>pA D r (s ||| 2^i) (c ||| D.ry i)
def jP (D:Dat):List (Bool×List Nat)->Nat->Nat->Nat
 |[],_,_=>1
 |g::r,s,c=>1+((if g.1=true then jP D r s c else 0)+((g.2.filter λi=>D.may i&& !c.testBit i).map λi=>jP D r (s ||| 2^i) (c ||| D.ry i)).sum)
def okP (D:Dat):List (Bool×List Nat)->Nat->List Nat->Bool
 |[],_,_=>true
 |g::r,c,t=>match t with
  |[]=>g.1&&okP D r c []
  |i::u=>if i∈g.2 then(D.may i&& !c.testBit i)&&okP D r (c ||| D.ry i) u else g.1&&okP D r c (i::u)
def bZ :List Nat->Nat
 |[]=>0
 |i::r=>2^i ||| bZ r
def se :List (List Nat)->Prop
 |[]=>True
 |g::r=>(∀i∈g,∀h∈r,i∉h)/\se r
theorem Fp {D:Dat}{g:Bool×List Nat}{r:List (Bool×List Nat)}{c:Nat}{t:List Nat}(h: ∀i∈t,i∉g.2):okP D (g::r) c t=(g.1&&okP D r c t):=by
 cases t with
 |nil=>rfl
 |cons i u=>
  grind [okP]
theorem nZ {α β:Type}{f g:α->List β}: ∀{l:List α},(∀a∈l,f a=g a)->l.flatMap f=l.flatMap g
 |[],_=>rfl
 |a::r,h=>by
  rw[ab6,ab6,h a (by simp),nZ λb hb=>h b (by simp[hb])]
theorem rp {α β:Type}{f g:α->List β}: ∀{l:List α},(∀a∈l,(f a).Perm (g a))->(l.flatMap f).Perm (l.flatMap g)
 |[],_=>.refl _
 |a::r,h=>by
  rw[ab6,ab6];exact(h a (by simp)).append (rp λb hb=>h b (by simp[hb]))
theorem gw {α β:Type}{f:α->List β}{p:β->Bool}: ∀{l:List α},(l.flatMap f).filter p=l.flatMap λa=>(f a).filter p
 |[]=>rfl
 |a::r=>by rw[ab6,ab6,ab9,gw]
theorem jO {α β:Type}{f:α->List β}{p:α->Bool}: ∀{l:List α},(l.filter p).flatMap f=l.flatMap λa=>if p a=true then f a else []
 |[]=>rfl
 |a::r=>by
  rw[ab6,List.filter_cons];split
  .rw[ab6,jO]
  .rw[jO,acM]
theorem mE {α β γ:Type}{f:α->List β}{g:β->γ}: ∀{l:List α},(l.flatMap f).map g=l.flatMap λa=>(f a).map g
 |[]=>rfl
 |a::r=>by rw[ab6,ab6,acv,mE]
theorem Ab (D:Dat): ∀{gs:List (Bool×List Nat)} (s c:Nat),se (gs.map (·.2))->(pA D gs s c).Perm ((((dh (gs.map (·.2))).filter (okP D gs c)).map λt=>s ||| bZ t).filter D.hl)
 |[],s,c,_=>by
  grind [pA,dh,okP,bZ]
 |g::r,s,c,ha=>by
  rw[ach]at ha;have ih:=λs c=>Ab D (gs:=r) s c ha.2
  have hout: ∀t∈dh (r.map (·.2)),∀i∈t,i∉g.2:=λt ht i hi hg=>by
   obtain⟨h,hh,hi2⟩:=ft ht i hi;exact ha.1 i hg h hh hi2
  rw[pA,ach,dh,ab9,acv,ab9];refine List.Perm.trans (acV ?_ ?_) List.perm_append_comm
  .have e:(dh (r.map (·.2))).filter (okP D (g::r) c)=if g.1=true then(dh (r.map (·.2))).filter (okP D r c)else []:=by
    grind [acd,Fp,aca]
   grind
  .rw[jO,gw,mE,gw];refine rp λi hi=>?_
   have e:((dh (r.map (·.2))).map (i:: ·)).filter (okP D (g::r) c)=if (D.may i&& !c.testBit i)=true then((dh (r.map (·.2))).filter (okP D r (c ||| D.ry i))).map (i:: ·)else []:=by
    rw[acw];split
    .grind [acd,okP]
    grind [aca,okP]
   grind [acB,bZ]
theorem Cq (D:Dat): ∀{gs:List (Bool×List Nat)} {c:Nat} {t:List Nat},se (gs.map (·.2))->t∈dh (gs.map (·.2))->(okP D gs c t=true↔(∀i∈t,D.may i=true/\c.testBit i=false)/\(t.Pairwise λi j=>(D.ry i).testBit j=false)/\ ∀g∈gs,(∀i∈t,i∉g.2)->g.1=true)
 |[],c,t,_,ht=>by
  simp_all[dh,okP]
 |g::r,c,t,ha,ht=>by
  rw[ach]at ha ht;rcases s9.1 ht with⟨i,hi,u,hu,rfl⟩|ht
  .rw[okP,if_pos hi,ab5,ab5,ack,Cq D ha.2 hu];simp only[acx,acy,ab4];have hir: ∀h∈r,i∉h.2:=λh hh=>ha.1 i hi _ (acC hh)
   grind
  .have hout: ∀i∈t,i∉g.2:=λi hi hg=>by
    obtain⟨h,hh,hi2⟩:=ft ht i hi;exact ha.1 i hg h hh hi2
   rw[Fp hout,ab5,Cq D ha.2 ht];grind
theorem db : ∀(t:List Nat) (i:Nat),(bZ t).testBit i=decide (i∈t)
 |[],i=>by simp[bZ]
 |j::r,i=>by
  rw[bZ,acx,db r i,Nat.testBit_two_pow];grind
def bg (k n:Nat):List Nat:=(List.range k).filter n.testBit
open Go.Proofs.Tryz
def placesOf (all:List Pkg)(n:List UInt8):List Nat:=(List.range all.length).filter λk=>match all[k]? with
 |some q=>q.name==n
 |none=>false
def pB (all:List Pkg):Prop:=∀ (i j k:Nat) (p q r:Pkg),all[i]?=some p->all[j]?=some q->all[k]?=some r->i<=j->j<=k->p.name=r.name->q.name=p.name
def dU (all:List Pkg):Nat->Nat->List (List Nat)
 |0,_=>[]
 |f+1,i=>if i=all.length then []else List.range' i (aT all i-i)::dU all f (aT all i)
theorem cb {all:List Pkg}{n:List UInt8}{k:Nat}:k∈placesOf all n↔ ∃q,all[k]?=some q/\q.name=n:=by
 grind [placesOf]
theorem mQ {all:List Pkg}{i:Nat}{p:Pkg}(hp:all[i]?=some p){k:Nat}(h1:i<=k)(h2:k<aT all i): ∃q,all[k]?=some q/\q.name=p.name:=by
 have hr:aT all i=i+((all.drop i).takeWhile λq=>q.name==p.name).length:=by grind [aT]
 have hlt:k-i<((all.drop i).takeWhile λq=>q.name==p.name).length:=by omega
 have hg:=List.getElem?_eq_getElem hlt;have h0:=acm (p:=λq:Pkg=>q.name==p.name) (l:=all.drop i);refine⟨_,?_,by simpa using RB (acJ hlt)⟩;have:=List.getElem?_append_left (l₂:=(all.drop i).dropWhile λq=>q.name==p.name) hlt;simp_all
theorem run_places {all:List Pkg}(hc:pB all){i:Nat}{p:Pkg}(hp:all[i]?=some p)(hf: ∀j q,j<i->all[j]?=some q->q.name≠p.name):List.range' i (aT all i-i)=placesOf all p.name:=by
 obtain⟨b1,b2⟩:=eT hp;have e:List.range all.length=List.range' 0 i++(List.range' i (aT all i-i)++List.range' (aT all i) (all.length-aT all i)):=by
  have e1:=acE (s:=0) (m:=i) (n:=all.length-i) (step:=1);have e2:=acE (s:=i) (m:=aT all i-i) (n:=all.length-aT all i) (step:=1);simp only[acR,Nat.zero_add]at e1 e2;rw[show i+(aT all i-i)=aT all i by omega]at e2;grind [List.range_eq_range']
 unfold placesOf;rw[e,ab9,ab9];have h1:(List.range' 0 i).filter (λk=>match all[k]? with|some q=>q.name==p.name|none=>false)=[]:=by
  grind [aca]
 have h3:(List.range' (aT all i) (all.length-aT all i)).filter (λk=>match all[k]? with|some q=>q.name==p.name|none=>false)=[]:=by
  rw[aca];intro k hk;simp only[List.mem_range'_1]at hk;cases hq:all[k]? with
  |none=>simp
  |some q=>
   simp only[beq_iff_eq];intro hn;have hlt:aT all i<all.length:=by omega
   obtain⟨r,hr⟩:=get_some hlt;have hrn:=hc i (aT all i) k p r q hp hr hq (by omega) (by omega) hn.symm;grind [nV,aT]
 have h2:(List.range' i (aT all i-i)).filter (λk=>match all[k]? with|some q=>q.name==p.name|none=>false)=List.range' i (aT all i-i):=by
  rw[List.filter_eq_self];grind [mQ]
 grind
theorem gm {all:List Pkg}: ∀{f i:Nat} {t:List Nat},i<=all.length->gx all f i t=((dh (dU all f i)).map (t++ ·)).filter λu=>kd (atL all u)
 |0,i,t,hi=>by
  grind [gx,dU,dh]
 |f+1,i,t,hi=>by
  rw[gx,dU];by_cases h:i=all.length
  .grind [dh]
  .rw[if_neg h,if_neg h];obtain⟨p,hp⟩:=get_some (show i<all.length by omega);obtain⟨b1,b2⟩:=eT hp;rw[dh,acv,ab9,mE,gw,gm b2];congr 1;refine nZ λk _=>?_
   rw[gm b2,List.map_map];grind [acB]
theorem ll {all:List Pkg}(hc:pB all): ∀{f i:Nat},all.length<=f+i->i<=all.length->(∀j p q,j<i->all[j]?=some q->all[i]?=some p->q.name≠p.name)->
  (∀g∈dU all f i,∃p,g=placesOf all p.name/\p∈all/\ ∀k∈g,i<=k)/\(∀k,i<=k->k<all.length-> ∃g∈dU all f i,k∈g)/\se (dU all f i)
 |0,i,hf,hi,h0=>by
  refine⟨λg hg=>(by cases hg),λk h1 h2=>by omega,trivial⟩
 |f+1,i,hf,hi,h0=>by
  rw[dU];by_cases h:i=all.length
  .rw[if_pos h];exact⟨λg hg=>(by cases hg),λk h1 h2=>by omega,trivial⟩
  .rw[if_neg h];obtain⟨p,hp⟩:=get_some (show i<all.length by omega);obtain⟨b1,b2⟩:=eT hp;have hpl:=run_places hc hp λj q hj hq=>h0 j p q hj hq hp
   have hnext: ∀j p' q,j<aT all i->all[j]?=some q->all[aT all i]?=some p'->q.name≠p'.name:=λj p' q hj hq hp' hn=>by
    by_cases hji:j<i
    .have:=hc j i (aT all i) q p p' hq hp hp' (by omega) (by omega) hn;grind
    .obtain⟨q',hq',hn'⟩:=mQ hp (by omega:i<=j) hj;grind [nV,aT]
   obtain⟨g1,g2,g3⟩:=ll hc (f:=f) (i:=aT all i) (by omega) b2 hnext;refine⟨λg hg=>?_,λk h1 h2=>?_,λk hk g hg hkg=>?_,g3⟩
   .grind
   .by_cases hk:k<aT all i
    .exact⟨List.range' i (aT all i-i),by simp,by grind⟩
    simp_all
   grind
def bitsOf (n:Nat)(f:Nat->Bool):Nat:=bZ ((List.range n).filter f)
theorem iw (n:Nat)(f:Nat->Bool)(i:Nat):(bitsOf n f).testBit i=(decide (i<n)&&f i):=by
 grind [bitsOf,db]
def xj (all:List Pkg)(c:Clause)(k:Nat):Bool:=match all[k]? with
 |some q=>c.any (dO q)
 |none=>false
def fX (all:List Pkg)(c:Clause):Nat:=bitsOf all.length (xj all c)
def je (all:List Pkg)(i k:Nat):Bool:=match all[i]?,all[k]? with
 |some p,some q=>gA p q
 |_,_=>false
def ia (all:List Pkg)(i:Nat):Nat:=bitsOf all.length (je all i)
def pQ (all:List Pkg)(i:Nat):List Nat:=match all[i]? with
 |some p=>(p.pre++p.dep).map (fX all)
 |none=>[]
def fM (all:List Pkg)(s:Nat):Bool:=(bg all.length s).all λi=>(pQ all i).all λn=>n &&& s !=0
def Dd (all:List Pkg)(s:List aD)(l:List aM)(i:Nat):Bool:=match all[i]? with
 |some p=>Bo l s p
 |none=>false
def eV (all:List Pkg)(s:List aD)(l:List aM):Dat:=⟨Dd all s l,ia all,fM all⟩
def na (all:List Pkg):Nat->Nat->List (List UInt8)
 |0,_=>[]
 |f+1,i=>match all[i]? with
  |some p=>p.name::na all f (aT all i)
  |none=>[]
def aW (all:List Pkg)(s:List aD)(l:List aM):List (Bool×List Nat):=(na all (all.length+1) 0).map λn=>(ot l s n,placesOf all n)
theorem mW {all:List Pkg}(hc:pB all): ∀{f i:Nat},i<=all.length->(∀j p q,j<i->all[j]?=some q->all[i]?=some p->q.name≠p.name)->dU all f i=(na all f i).map (placesOf all)
 |0,i,hi,h0=>rfl
 |f+1,i,hi,h0=>by
  rw[dU,na];by_cases h:i=all.length
  .simp_all
  .rw[if_neg h];obtain⟨p,hp⟩:=get_some (show i<all.length by omega);obtain⟨b1,b2⟩:=eT hp;rw[hp,run_places hc hp λj q hj hq=>h0 j p q hj hq hp,ach,mW hc b2 λj p' q hj hq hp' hn=>?_];by_cases hji:j<i
   .have:=hc j i (aT all i) q p p' hq hp hp' (by omega) (by omega) hn;grind
   grind [mQ,nV,aT]
theorem lT {R:Nat->Nat->Prop}: ∀{gs:List (List Nat)},gs.Pairwise (λg h=>∀ i∈g,∀j∈h,R i j)-> ∀{t:List Nat},t∈dh gs->t.Pairwise R
 |[],_,t,h=>by
  simp_all[dh]
 |g::r,hp,t,h=>by
  obtain⟨h1,h2⟩:=ab4.1 hp;rcases s9.1 h with⟨i,hi,u,hu,rfl⟩|h
  .refine ab4.2 ⟨λj hj=>?_,lT h2 hu⟩;grind [ft]
  .exact lT h2 h
theorem sc : ∀{gs:List (List Nat)},se gs->gs.Pairwise λg h=>∀ i∈g,i∉h
 |[],_=>.nil
 |_::_,h=>ab4.2 ⟨λg' hg i hi=>h.1 i hi g' hg,sc h.2⟩
theorem gz {all:List Pkg}{t:List Nat}{p:Pkg}:p∈atL all t↔ ∃i∈t,all[i]?=some p:=by
 simp[atL]
theorem c9 {k n i:Nat}:i∈bg k n↔i<k/\n.testBit i=true:=by
 simp[bg]
theorem vZ {a b:Nat}:(a &&& b !=0)=true↔ ∃i,a.testBit i=true/\b.testBit i=true:=by
 rw[bne_iff_ne,ne_eq];constructor
 .intro h;refine acP λhn=>h (Nat.eq_of_testBit_eq λi=>?_)
  simp_all
 .rintro⟨i,ha,hb⟩ h;have:=congrArg (·.testBit i) h;grind
theorem Qw {all:List Pkg}{s:List aD}{l:List aM}(hm: ∀p∈all,aS p=0)(hc:pB all)(hU:Uni all s l)(hnv:dQ all s l=false){t:List Nat}(ht:t∈dh (dU all (all.length+1) 0)):
  (okP (eV all s l) (aW all s l) 0 t&&fM all (bZ t))=(kd (atL all t)&&iM l (atL all t) s):=by
 obtain⟨r1,r2,r3⟩:=ll hc (f:=all.length+1) (i:=0) (by omega) (by omega) (λj p q hj=>by omega);have hrn:=mW hc (f:=all.length+1) (i:=0) (by omega) (λj p q hj=>by omega);have hg2:(aW all s l).map (·.2)=dU all (all.length+1) 0:=by
  simp_all[aW]
 have hlt: ∀i∈t,∃p,all[i]?=some p:=λi hi=>by
  grind [ft,cb]
 have hpw:t.Pairwise λi j=>∀ p q,all[i]?=some p->all[j]?=some q->p.name≠q.name:=by
  refine lT ((sc r3).imp_of_mem λ{g h} hg hh hd i hi j hj p q hp hq hn=>?_) ht;grind [cb]
 have hnd:((atL all t).map (·.name)).Nodup:=by
  grind [atL]
 have hin: ∀p∈atL all t,p∈all:=λp hp=>by
  grind [gz]
 rw[aco,ab5,ab5,Cq _ (by simp_all) (by simp_all),DZ,CN hU hin hnd];have hmay:(∀i∈t,(eV all s l).may i=true/\(0:Nat).testBit i=false)↔ ∀p∈atL all t,Bo l s p=true:=by
  constructor
  .intro h p hp;obtain⟨i,hi,hip⟩:=gz.1 hp;have:=(h i hi).1;simp_all[eV,Dd]
  .intro h i hi;obtain⟨p,hp⟩:=hlt i hi;refine⟨?_,by simp⟩;have:=h p (gz.2 ⟨i,hi,hp⟩);simp_all[eV,Dd]
 have hlack:(∀g∈aW all s l,(∀i∈t,i∉g.2)->g.1=true)↔ ∀q∈all,fA (atL all t) q.name=none->ot l s q.name=true:=by
  have habs: ∀n,(∀i∈t,i∉placesOf all n)↔fA (atL all t) n=none:=λn=>by
   grind [fA,gz,cb]
  constructor
  .intro h q hq hf;obtain⟨k,hk⟩:=List.mem_iff_getElem?.1 hq;obtain⟨g,hg,hkg⟩:=r2 k (by omega) (ab8.1 hk).1;rw[hrn]at hg;obtain⟨n,hn,rfl⟩:=acp.1 hg;obtain⟨q',hq',hqn⟩:=cb.1 hkg;rw[hk]at hq';cases hq';have:=h (ot l s n,placesOf all n) (acp.2 ⟨n,hn,rfl⟩) ((habs n).2 (by simp_all));simp_all
  .intro h g hg hno;obtain⟨n,hn,rfl⟩:=acp.1 hg;have hgr:placesOf all n∈dU all (all.length+1) 0:=by grind
   have hne: ∃q∈all,q.name=n:=by
    have: ∀{f i:Nat},n∈na all f i-> ∃q∈all,q.name=n:=λ{f}=>by
     induction f with
     |zero=>intro i h;cases h
     |succ f ih=>
      grind [na]
    grind
   grind
 have hclash:(t.Pairwise λi j=>((eV all s l).ry i).testBit j=false)↔(atL all t).Pairwise λp q=>gA p q=false:=by
  unfold atL;rw[List.pairwise_filterMap];constructor
  .intro h;refine h.imp_of_mem λ{i j} hi hj h p hp q hq=>?_
   have hb:((ia all i).testBit j)=false:=h;grind [ia,iw,je]
  .intro h;refine h.imp_of_mem λ{i j} hi hj h=>?_
   show(ia all i).testBit j=false;grind [ia,iw,je]
 have hmet:fM all (bZ t)=true↔ ∀p∈atL all t,∀c∈p.pre++p.dep,∃q∈atL all t,c.any (dO q)=true:=by
  unfold fM;rw[ace];constructor
  .intro h p hp c hcm;obtain⟨i,hi,hip⟩:=gz.1 hp;have h1:=h i (c9.2 ⟨(ab8.1 hip).1,by grind [db]⟩);unfold pQ at h1;rw[hip]at h1;have h2:=ace.1 h1 (fX all c) (acC hcm);obtain⟨j,hj1,hj2⟩:=vZ.1 h2;grind [fX,iw,db,gz,xj]
  .intro h i hi;obtain⟨hil,hib⟩:=c9.1 hi;rw[db,decide_eq_true_eq]at hib;obtain⟨p,hp⟩:=hlt i hib;unfold pQ;rw[hp,ace];intro n hn;obtain⟨c,hcm,rfl⟩:=acp.1 hn;obtain⟨q,hq,hsat⟩:=h p (gz.2 ⟨i,hib,hp⟩) c hcm;obtain⟨j,hj,hjq⟩:=gz.1 hq;refine vZ.2 ⟨j,?_,by grind [db]⟩;grind [fX,iw,xj]
 rw[hmay,hlack,hclash,hmet];constructor
 .rintro⟨⟨h1,h2,h3⟩,h4⟩;refine⟨⟨λp hp=>hm p (hin p hp),?_,h4⟩,hnv,h1,h3⟩;simp_all[List.Nodup,List.pairwise_map,acT]
 .rintro⟨⟨h1,h2,h3⟩,h4,h5,h6⟩;grind [acI]
theorem Ed {all:List Pkg}{s:List aD}{l:List aM}(hm: ∀p∈all,aS p=0)(hc:pB all)(hU:Uni all s l)(hnv:dQ all s l=false):
  (pA (eV all s l) (aW all s l) 0 0).Perm (((gx all (all.length+1) 0 []).filter λt=>iM l (atL all t) s).map bZ):=by
 obtain⟨_,_,r3⟩:=ll hc (f:=all.length+1) (i:=0) (by omega) (by omega) (λj p q hj=>by omega);have hrn:=mW hc (f:=all.length+1) (i:=0) (by omega) (λj p q hj=>by omega);have hg2:(aW all s l).map (·.2)=dU all (all.length+1) 0:=by
  simp_all[aW]
 refine(Ab _ 0 0 (by simp_all)).trans (acW ?_);rw[hg2,gm (by omega),acw,acF];have e1:(λt=>0 ||| bZ t)=bZ:=by
  simp_all
 rw[e1];have e2:(dh (dU all (all.length+1) 0)).map (([]:List Nat)++ ·)=dh (dU all (all.length+1) 0):=by
  simp
 rw[e2,acF];congr 1;refine acd λt ht=>?_
 have h:=Qw hm hc hU hnv ht;show(fM all (bZ t)&&okP _ _ _ t)=(iM _ _ _&&kd _);simp_all[Bool.and_comm]
def dA (all:List Pkg)(p:Pkg):Nat:=(all.filter λq=>q.name==p.name&&decide (0<cc q.ver p.ver)).length
def Q8 (t:List Pkg):Nat:=(t.map λp=>(p.rcm.filter λc=>!s6 c t).length).sum
def Gj (up:Bool)(r c m n l:Nat):List Nat:=if up=true then [l,r,m,n,c]else [r,c,m,n,l]
def Qa (t:List Pkg)(x:aD):Bool:=match fA t x.pkg.name with
 |some p=>!bn p.ver x.pkg.ver
 |none=>false
def z6 (all:List Pkg)(s:List aD)(t:List Pkg)(up:Bool):List Nat:=
 Gj up (s.filter λx=>(fA t x.pkg.name).isNone).length (s.filter (Qa t)).length (Q8 t) (t.filter λp=>(cI s p.name).isNone).length ((t.map (dA all)).sum)
def orN :List Nat->Nat
 |[]=>0
 |a::r=>a ||| orN r
theorem Ka : ∀(l:List Nat) (i:Nat),(orN l).testBit i=l.any λa=>a.testBit i
 |[],i=>by simp[orN]
 |a::r,i=>by rw[orN,acx,Ka r i,List.any_cons]
def iL (all:List Pkg)(x:aD):Nat:=bZ (placesOf all x.pkg.name)
def jE (all:List Pkg)(s:List aD)(i:Nat):Bool:=match all[i]? with
 |some p=>(match cI s p.name with
  |some x=>!bn x.pkg.ver p.ver
  |none=>false)
 |none=>false
def va (all:List Pkg)(i:Nat):List Nat:=match all[i]? with
 |some p=>p.rcm.map (fX all)
 |none=>[]
def dY (all:List Pkg)(i:Nat):Nat:=match all[i]? with
 |some p=>dA all p
 |none=>0
def ki (all:List Pkg)(s:List aD)(S:Nat)(up:Bool):List Nat:=
 Gj up (s.filter λx=>iL all x &&& S==0).length ((bg all.length S).filter (jE all s)).length
  ((bg all.length S).map λi=>((va all i).filter λw=>w &&& S==0).length).sum
  ((bg all.length S).filter λi=>!(orN (s.map (iL all))).testBit i).length ((bg all.length S).map (dY all)).sum
theorem uG {all:List Pkg}(hc:pB all): ∀{f i:Nat},all.length<=f+i->i<=all.length->(∀j p q,j<i->all[j]?=some q->all[i]?=some p->q.name≠p.name)->(dU all f i).Pairwise (λg h=>∀ i∈g,∀j∈h,i<j)/\ ∀g∈dU all f i,g.Pairwise (· < ·)
 |0,i,hf,hi,h0=>⟨.nil,λg hg=>by cases hg⟩
 |f+1,i,hf,hi,h0=>by
  rw[dU];by_cases h:i=all.length
  .simp_all
  .rw[if_neg h];obtain⟨p,hp⟩:=get_some (show i<all.length by omega);obtain⟨b1,b2⟩:=eT hp;have hnext: ∀j p' q,j<aT all i->all[j]?=some q->all[aT all i]?=some p'->q.name≠p'.name:=λj p' q hj hq hp' hn=>by
    by_cases hji:j<i
    .have:=hc j i (aT all i) q p p' hq hp hp' (by omega) (by omega) hn;grind
    .obtain⟨q',hq',hn'⟩:=mQ hp (by omega:i<=j) hj;grind [nV,aT]
   obtain⟨k1,k2⟩:=uG hc (f:=f) (i:=aT all i) (by omega) b2 hnext;grind [ll,ab4,List.pairwise_lt_range']
theorem CH {all:List Pkg}(hc:pB all){t:List Nat}(ht:t∈dh (dU all (all.length+1) 0)):bg all.length (bZ t)=t:=by
 obtain⟨r1,r2,r3⟩:=ll hc (f:=all.length+1) (i:=0) (by omega) (by omega) (λj p q hj=>by omega);obtain⟨k1,k2⟩:=uG hc (f:=all.length+1) (i:=0) (by omega) (by omega) (λj p q hj=>by omega);have hs:t.Pairwise (· < ·):=lT k1 ht;have h2:(bg all.length (bZ t)).Pairwise (· < ·):=acQ acD List.pairwise_lt_range;refine acs (le:=(· < ·)) (λa b _ _ h1 h2=>by omega) h2 hs ?_;grind [acq,acI,c9,db,ft,cb]
theorem Ce {all:List Pkg}(f:Pkg->Nat)(g:Nat->Nat)(hg: ∀i,g i=match all[i]? with|some p=>f p|none=>0): ∀t:List Nat,(t.map g).sum=((atL all t).map f).sum
 |[]=>rfl
 |i::r=>by
  have ih:=Ce f g hg r;grind [atL]
theorem xE {all:List Pkg}(f:Pkg->Bool)(g:Nat->Bool){t:List Nat}(hg: ∀i∈t,∃p,all[i]?=some p/\g i=f p):(t.filter g).length=((atL all t).filter f).length:=by
 induction t with
 |nil=>rfl
 |cons i r ih=>
  obtain⟨p,hp,h1⟩:=hg i (by simp);grind [atL]
theorem and_zero {a b:Nat}:(a &&& b==0)= !(a &&& b !=0):=by
 simp[bne]
theorem Tq {all:List Pkg}{s:List aD}{l:List aM}(hc:pB all)(hU:Uni all s l){t:List Nat}(ht:t∈dh (dU all (all.length+1) 0))(up:Bool):ki all s (bZ t) up=z6 all s (atL all t) up:=by
 obtain⟨r1,r2,r3⟩:=ll hc (f:=all.length+1) (i:=0) (by omega) (by omega) (λj p q hj=>by omega);have hlt: ∀i∈t,∃p,all[i]?=some p:=λi hi=>by
  grind [ft,cb]
 have hpw:t.Pairwise λi j=>∀ p q,all[i]?=some p->all[j]?=some q->p.name≠q.name:=by
  refine lT ((sc r3).imp_of_mem λ{g h} hg hh hd i hi j hj p q hp hq hn=>?_) ht;grind [cb]
 have hnd:((atL all t).map (·.name)).Nodup:=by
  grind [atL]
 unfold ki z6;rw[CH hc ht];have hthere: ∀x:aD,(iL all x &&& bZ t==0)=(fA (atL all t) x.pkg.name).isNone:=λx=>by
  rw[and_zero,aco,ack,<-Bool.not_eq_true,vZ,ab7];unfold iL;constructor
  .intro h;unfold fA;rw[acG];intro p hp;obtain⟨i,hi,hip⟩:=gz.1 hp;simp only[beq_iff_eq];exact λe=>h ⟨i,by grind [db,cb],by grind [db]⟩
  .rintro h ⟨i,h1,h2⟩;rw[db,decide_eq_true_eq]at h1 h2;obtain⟨p,hp,hn⟩:=cb.1 h1;exact NF (f:=Pkg.name) h p (gz.2 ⟨i,h2,hp⟩) hn
 have e1:(s.filter λx=>iL all x &&& bZ t==0)=s.filter λx=>(fA (atL all t) x.pkg.name).isNone:=acd λx _=>hthere x
 have e2:(t.filter (jE all s)).length=(s.filter (Qa (atL all t))).length:=by
  rw[xE (λp=>match cI s p.name with|some x=>!bn x.pkg.ver p.ver|none=>false) _ λi hi=>by
   obtain⟨p,hp⟩:=hlt i hi;exact⟨p,hp,by grind [jE]⟩]
  have key: ∀(A:List Pkg) (B:List aD),((A.map Pkg.name).Perm (B.map λx=>x.pkg.name))->A.length=B.length:=λA B h=>by simpa using h.length_eq
  refine key _ _ ((acq ?_ ?_).2 λn=>?_)
  .grind
  .grind [Uni.QV,acD]
  grind [Az,Qa,zB,rY,fA,kQ,Uni.QV]
 have e3:(t.map λi=>((va all i).filter λw=>w &&& bZ t==0).length).sum=Q8 (atL all t):=by
  refine Ce (λp=>(p.rcm.filter λc=>!s6 c (atL all t)).length) _ (λi=>?_) t;unfold va;cases hp:all[i]? with
  |none=>rfl
  |some p=>
   simp only;rw[acw,List.length_map];congr 1;refine acd λc _=>?_
   show(fX all c &&& bZ t==0)= !s6 c (atL all t);rw[and_zero];congr 1;rw[aco,vZ,DW];constructor
   .grind [fX,iw,db,gz,xj]
   .rintro⟨q,hq,hsat⟩;obtain⟨j,hj,hjq⟩:=gz.1 hq;refine⟨j,?_,by grind [db]⟩;grind [fX,iw,xj]
 have e4:(t.filter λi=>!(orN (s.map (iL all))).testBit i).length=((atL all t).filter λp=>(cI s p.name).isNone).length:=by
  refine xE _ _ λi hi=>?_
  obtain⟨p,hp⟩:=hlt i hi;refine⟨p,hp,?_⟩;rw[Ka,List.any_map,aco,ack,acH,ab7];unfold cI;rw[acG];constructor
  .intro h x hx;have:=h x hx;show ¬(x.pkg.name==p.name)=true;rw[beq_iff_eq];intro e;refine this ?_;show(bZ (placesOf all x.pkg.name)).testBit i=true;grind [db,cb]
  .intro h x hx hb;have hb:(bZ (placesOf all x.pkg.name)).testBit i=true:=hb;grind [db,cb]
 grind [dY,Ce]
end Go.Av
end
section
namespace Go.Av
def lexB :List Nat->List Nat->Bool
 |a::x,b::y=>if a=b then lexB x y else decide (a<b)
 |_,_=>false
def fG :List Nat->List Nat->Bool
 |[],_=>false
 |_::_,[]=>true
 |a::x,b::y=>if a=b then fG x y else decide (a<b)
def ltP (x y:List Nat×List Nat):Bool:=lexB x.1 y.1||(x.1==y.1&&fG x.2 y.2)
theorem Eg : ∀a:List Nat,lexB a a=false
 |[]=>rfl
 |a::x=>by rw[lexB,if_pos rfl,Eg x]
theorem vP : ∀{a b c:List Nat},lexB a b=true->lexB b c=true->lexB a c=true
 |[],_,_,h,_=>by cases h
 |_::_,[],_,h,_=>by cases h
 |_::_,_::_,[],_,h=>by cases h
 |a::x,b::y,c::z,h1,h2=>by
  rw[lexB]at h1 h2 ⊢;by_cases hab:a=b
  .subst hab;rw[if_pos rfl]at h1;by_cases hac:a=c
   .subst hac;rw[if_pos rfl]at h2 ⊢;exact vP h1 h2
   simp_all
  grind
theorem Eo : ∀{a b:List Nat},a.length=b.length->a≠b->lexB a b=true\/lexB b a=true
 |[],[],_,h=>absurd rfl h
 |[],_::_,h,_=>by cases h
 |_::_,[],h,_=>by cases h
 |a::x,b::y,hl,h=>by
  rw[lexB,lexB];by_cases hab:a=b
  .subst hab;rw[if_pos rfl,if_pos rfl];exact Eo (by simp_all) λe=>h (by rw[e])
  grind
theorem vn : ∀a:List Nat,fG a a=false
 |[]=>rfl
 |a::x=>by rw[fG,if_pos rfl,vn x]
theorem rB : ∀{a b c:List Nat},fG a b=true->fG b c=true->fG a c=true
 |[],_,_,h,_=>by cases h
 |_::_,[],_,_,h=>by cases h
 |_::_,_::_,[],_,_=>rfl
 |a::x,b::y,c::z,h1,h2=>by
  rw[fG]at h1 h2 ⊢;by_cases hab:a=b
  .subst hab;rw[if_pos rfl]at h1;by_cases hac:a=c
   .subst hac;rw[if_pos rfl]at h2 ⊢;exact rB h1 h2
   simp_all
  grind
theorem uS : ∀{a b:List Nat},a≠b->fG a b=true\/fG b a=true
 |[],[],h=>absurd rfl h
 |[],_::_,_=>.inr rfl
 |_::_,[],_=>.inl rfl
 |a::x,b::y,h=>by
  rw[fG,fG];by_cases hab:a=b
  .subst hab;rw[if_pos rfl,if_pos rfl];exact uS λe=>h (by rw[e])
  grind
theorem C7 {x y:List Nat×List Nat}:ltP x y=true↔lexB x.1 y.1=true\/(x.1=y.1/\fG x.2 y.2=true):=by
 simp[ltP]
theorem T6 (x:List Nat×List Nat):ltP x x=false:=by
 grind [C7,Eg,vn]
theorem zH {x y z:List Nat×List Nat}(h1:ltP x y=true)(h2:ltP y z=true):ltP x z=true:=by
 grind [C7,vP,rB]
theorem Kv {x y:List Nat×List Nat}(hl:x.1.length=y.1.length)(h:x.2≠y.2)(hn:ltP x y=false):ltP y x=true:=by
 grind [C7,uS,Eo]
def wi (x:List Nat×List Nat)(o:List (List Nat×List Nat)):List (List Nat×List Nat):=o.takeWhile (λy=>ltP y x)++x::o.dropWhile λy=>ltP y x
def Wi (l:List (List Nat×List Nat)):List (List Nat×List Nat):=l.foldl (λo x=>wi x o) []
theorem sV (x:List Nat×List Nat)(o:List (List Nat×List Nat)):(wi x o).Perm (x::o):=by
 grind [wi,acm]
theorem tJ {x:List Nat×List Nat}: ∀{o:List (List Nat×List Nat)},o.Pairwise (λa b=>ltP a b=true)->(∀y∈o,y.2≠x.2/\y.1.length=x.1.length)->(wi x o).Pairwise λa b=>ltP a b=true
 |[],_,_=>by simp[wi]
 |y::r,hp,hd=>by
  obtain⟨h1,h2⟩:=ab4.1 hp;unfold wi;by_cases hy:ltP y x=true
  .rw[acf,if_pos hy,acg,if_pos hy,acK];refine ab4.2 ⟨λz hz=>?_,tJ h2 λz hz=>hd z (by simp[hz])⟩;have hz2:z∈x::r:=(sV x r).subset hz;grind
  grind [acf,acg,Kv,zH]
theorem Ey {k:Nat}: ∀{l o:List (List Nat×List Nat)},(o++l).Pairwise (λa b=>a.2≠b.2)->(∀y∈o++l,y.1.length=k)->o.Pairwise (λa b=>ltP a b=true)->(l.foldl (λo x=>wi x o) o).Perm (o++l)/\(l.foldl (λo x=>wi x o) o).Pairwise λa b=>ltP a b=true
 |[],o,_,_,h=>by simp_all
 |x::l,o,hd,hk,h=>by
  rw[List.foldl_cons];have hxo: ∀y∈o,y.2≠x.2:=λy hy=>(acz.1 hd).2.2 y hy x (by simp)
  have hs:=tJ h λy hy=>⟨hxo y hy,by grind⟩
  have hp:(wi x o++l).Perm (o++x::l):=((sV x o).append_right l).trans (by grind);obtain⟨h1,h2⟩:=Ey (k:=k) (l:=l) (o:=wi x o) (hp.symm.pairwise hd λ{a b} h=>h.symm) (λy hy=>hk y (hp.subset hy)) hs;grind
def lj (t:List Nat):Nat:=bZ (t.map (31- ·))
theorem uL {a:Nat}{t:List Nat}(h:(a::t).Pairwise (· < ·))(h32: ∀i∈a::t,i<32):lj t<2^(31-a)/\lj (a::t)=2^(31-a)+lj t:=by
 have key: ∀(t:List Nat) (a:Nat),(a::t).Pairwise (· < ·)->(∀i∈a::t,i<32)->lj t<2^(31-a):=λt=>by
  induction t with
  |nil=>intro a _ _;exact acN _
  |cons b r ih=>
   intro a h h32;obtain⟨h1,h2⟩:=ab4.1 h;have hab:=h1 b (by simp);have hb:=h32 b (by simp);have ihb:=ih b h2 λi hi=>h32 i (by simp_all)
   have e:lj (b::r)=2^(31-b) ||| lj r:=rfl
   rw[e];refine Nat.or_lt_two_pow ?_ ?_
   .exact Nat.pow_lt_pow_right (by decide) (by omega)
   simp_all
 have hlt:=key t a h h32;refine⟨hlt,?_⟩;show 2^(31-a) ||| lj t=_
 have:=Nat.two_pow_add_eq_or_of_lt hlt 1;simp_all
theorem wh : ∀{t u:List Nat},t.Pairwise (· < ·)->u.Pairwise (· < ·)->(∀i∈t,i<32)->(∀i∈u,i<32)->fG t u=decide (lj u<lj t)
 |[],u,_,_,_,_=>by
  simp[fG,lj,bZ]
 |a::t,[],ht,_,h32,_=>by
  simp[fG,acN,lj,bZ]
 |a::t,b::u,ht,hu,h32,h32u=>by
  obtain⟨g1,e1⟩:=uL ht h32;obtain⟨g2,e2⟩:=uL hu h32u;have ha:=h32 a (by simp);have hb:=h32u b (by simp);rw[fG,e1,e2];by_cases hab:a=b
  .subst hab;rw[if_pos rfl,wh (ab4.1 ht).2 (ab4.1 hu).2 (λi hi=>h32 i (by simp[hi])) (λi hi=>h32u i (by simp[hi]))];simp_all
  .rw[if_neg hab];refine decide_eq_decide.2 ?_;rcases Nat.lt_or_gt_of_ne hab with h|h
   .have:=acA (show 0<2 by decide) (show 31-b+1<=31-a by omega);omega
   .have:=acA (show 0<2 by decide) (show 31-a+1<=31-b by omega);omega
def iy :List (Bool×List Nat)->Nat
 |[]=>1
 |g::r=>(1+g.2.length)*iy r
theorem Ac : ∀gs,0<iy gs
 |[]=>by decide
 |g::r=>Nat.mul_pos (by omega) (Ac r)
theorem pf {α:Type}{f:α->Nat}{k:Nat}: ∀{l:List α},(∀a∈l,f a<=k)->(l.map f).sum<=l.length*k
 |[],_=>by simp
 |a::r,h=>by
  have ih:=pf (f:=f) (k:=k) (l:=r) λb hb=>h b (by simp[hb])
  grind [Nat.succ_mul]
theorem KW (D:Dat): ∀{gs:List (Bool×List Nat)} (s c:Nat),(∀g∈gs,g.2≠[])->jP D gs s c+1<=2*iy gs
 |[],s,c,_=>by simp[jP,iy]
 |g::r,s,c,h=>by
  have ih:=λs c=>KW D (gs:=r) s c λx hx=>h x (by simp[hx])
  have hp:=Ac r;have hg:1<=g.2.length:=by
   grind
  have h1:(if g.1=true then jP D r s c else 0)<=2*iy r-1:=by
   grind
  have h2:=pf (f:=λi=>jP D r (s ||| 2^i) (c ||| D.ry i)) (k:=2*iy r-1) (l:=g.2.filter λi=>D.may i&& !c.testBit i) λi _=>by
   grind
  have h3:(g.2.filter λi=>D.may i&& !c.testBit i).length*(2*iy r-1)<=g.2.length*(2*iy r-1):=Nat.mul_le_mul_right _ (List.length_filter_le _ _);rw[jP,iy];have e:2*((1+g.2.length)*iy r)=2*iy r+g.2.length*(2*iy r-1)+g.2.length:=by
   obtain⟨m,hm⟩: ∃m,2*iy r=m+1:=⟨2*iy r-1,by omega⟩;rw[hm,Nat.add_sub_cancel,show 2*((1+g.2.length)*iy r)=(1+g.2.length)*(2*iy r) by grind,hm,Nat.add_mul,acR,Nat.mul_add,Nat.mul_one];omega
  omega
theorem Ge : ∀gs:List (Bool×List Nat),iy gs<=2^(gs.map λg=>g.2.length).sum
 |[]=>by simp[iy]
 |g::r=>by
  have h2: ∀k:Nat,1+k<=2^k:=λk=>by
   induction k with
   |zero=>decide
   |succ k ih=>omega
  rw[iy,ach,List.sum_cons,Nat.pow_add];exact Nat.mul_le_mul (h2 _) (Ge r)
def TT (x y z:Int):Prop:=x<=0->y<=0->z<=0/\(z=0->x=0/\y=0)
theorem TT.zero :TT 0 0 0:=λ_ _=>⟨Int.le_refl _,λ_=>⟨rfl,rfl⟩⟩
theorem TT.lex {x y z x' y' z':Int}(h:TT x y z)(h':x=0->y=0->z=0->TT x' y' z'):TT (if x≠0 then x else x') (if y≠0 then y else y') (if z≠0 then z else z'):=by
 intro hx hy;have h1:x<=0:=by omega
 have h2:y<=0:=by omega
 obtain⟨h3,h4⟩:=h h1 h2;by_cases hz:z=0
 .obtain⟨rfl,rfl⟩:=h4 hz;subst hz;simp only[ne_eq,not_true_eq_false,if_false]at hx hy ⊢;exact h' rfl rfl rfl hx hy
 omega
theorem TT.sgn (a b c:Int):TT (sgn a b) (sgn b c) (sgn a c):=by
 intro h1 h2;unfold Go.Av.sgn at *
 repeat' split at h1
 all_goals repeat' split at h2
 all_goals repeat' split
 all_goals omega
theorem TT.Wu : ∀(a b c:List UInt8),TT (cw a b) (cw b c) (cw a c)
 |a,b,c=>by
  by_cases h:rk a=rk b/\rk b=rk c
  .obtain⟨h1,h2⟩:=h;by_cases h0:rk a=0
   .grind [lg,TT.zero]
   .rw[gN h0 h1,gN (by omega) h2,gN h0 (by omega)];have ha:a≠[]:=λe=>h0 (by rw[e];rfl)
    have:a.tail.length<a.length:=by
     cases a with
     |nil=>simp_all
     |cons x r=>simp
    exact TT.Wu a.tail b.tail c.tail
  .have e: ∀x y:List UInt8,rk x=rk y\/cw x y=Go.Av.sgn (rk x) (rk y):=λx y=>by
    grind [dW]
   have hs:=TT.sgn (rk a) (rk b) (rk c);by_cases h1:rk a=rk b
   .have h2:rk b≠rk c:=λh2=>h ⟨h1,h2⟩
    rw[dW h2,dW (show rk a≠rk c by omega)];intro _ hy;grind [sq]
   .by_cases h2:rk b=rk c
    .rw[dW h1,dW (show rk a≠rk c by omega)];intro hx _;grind [sq]
    .rw[dW h1,dW h2];intro hx hy;have hlt:rk a<rk b/\rk b<rk c:=by
      unfold Go.Av.sgn at hx hy;omega
     rw[dW (show rk a≠rk c by omega)];exact⟨by unfold Go.Av.sgn;omega,λhz=>absurd hz (sq (by omega))⟩
termination_by a=>a.length
theorem TT.iF : ∀{a b c:List UInt8},a.length=b.length->b.length=c.length->TT (iF a b) (iF b c) (iF a c)
 |[],[],[],_,_=>.zero
 |[],_::_,_,h,_=>by cases h
 |_::_,[],_,h,_=>by cases h
 |[],[],_::_,_,h=>by cases h
 |_::_,_::_,[],_,h=>by cases h
 |x::a,y::b,z::c,h1,h2=>by
  have e: ∀(x y:UInt8) (a b:List UInt8),Go.Av.iF (x::a) (y::b)=if Go.Av.sgn x.toNat y.toNat≠0 then Go.Av.sgn x.toNat y.toNat else Go.Av.iF a b:=λx y a b=>by
   rw[Go.Av.iF];by_cases h:x=y
   .subst h;rw[if_pos rfl,rM,if_neg (by simp)]
   .have hne:(x.toNat:Int)≠y.toNat:=λe=>h (acO.1 (by omega))
    rw[if_neg h,if_pos (sq hne)]
  rw[e,e,e];exact(TT.sgn _ _ _).lex λ_ _ _=>TT.iF (by simpa using h1) (by simpa using h2)
theorem vm (a b:List UInt8):bt a b=if cw a b≠0 then cw a b
  else if Go.Av.sgn (bV (bc a)) (bV (bc b))≠0 then Go.Av.sgn (bV (bc a)) (bV (bc b))
  else if iF ((bc a).take (bV (bc a))) ((bc b).take (bV (bc b)))≠0 then iF ((bc a).take (bV (bc a))) ((bc b).take (bV (bc b)))
  else bt ((bc a).drop (bV (bc a))) ((bc b).drop (bV (bc b))):=by
 by_cases h:a=[]/\b=[]
 .obtain⟨rfl,rfl⟩:=h;rw[bt,dif_pos ⟨rfl,rfl⟩,if_neg (by decide),if_neg (by decide),if_neg (by decide)];show 0=bt [] [];simp[bt]
 grind [wM,rM,sq]
theorem TT.part : ∀(n:Nat) (a b c:List UInt8),a.length+b.length+c.length<=n->TT (bt a b) (bt b c) (bt a c)
 |n,a,b,c,hn=>by
  by_cases h0:a=[]/\b=[]/\c=[]
  .grind [bt,TT.zero]
  .have la:=qo a;have lb:=qo b;have lc:=qo c;have hlt:((bc a).drop (bV (bc a))).length+((bc b).drop (bV (bc b))).length+((bc c).drop (bV (bc c))).length<n:=by
    by_cases ha:a=[]
    .by_cases hb:b=[]
     .grind [mN]
     grind [mN]
    grind [mN]
   rw[vm a b,vm b c,vm a c];refine(TT.Wu a b c).lex λ_ _ _=>(TT.sgn _ _ _).lex λe1 e2 _=>?_
   have r1:=pM e1;have r2:=pM e2;have tk: ∀s:List UInt8,(s.take (bV s)).length=bV s:=λs=>by
    simp[rq]
   refine(TT.iF (by grind) (by grind)).lex λ_ _ _=>?_
   exact TT.part (n-1) _ _ _ (by omega)
termination_by n=>n
decreasing_by omega
theorem TT.ver {a b c:List UInt8}(ha:bM a=true)(hb:bM b=true)(hc:bM c=true):TT (cc a b) (cc b c) (cc a c):=by
 unfold bM at ha hb hc;unfold cc;obtain⟨⟨e,u,r⟩,h1⟩:=aci.1 ha;obtain⟨⟨f,v,s⟩,h2⟩:=aci.1 hb;obtain⟨⟨g,w,t⟩,h3⟩:=aci.1 hc;rw[h1,h2,h3];exact(TT.part _ e f g (acL _)).lex λ_ _ _=>(TT.part _ u v w (acL _)).lex λ_ _ _=>TT.part _ r s t (acL _)
theorem eh : ∀a:List UInt8,Op.bytesLess a a=false
 |[]=>rfl
 |x::a=>by simp[Op.bytesLess,eh a]
theorem eu : ∀{a b c:List UInt8},Op.bytesLess a b=true->Op.bytesLess b c=true->Op.bytesLess a c=true
 |_,[],_,h,_=>by grind [Op.bytesLess]
 |_,_::_,[],_,h=>by grind [Op.bytesLess]
 |[],_::_,_::_,_,_=>by simp[Op.bytesLess]
 |x::a,y::b,z::c,h1,h2=>by
  simp only[Op.bytesLess,acu,ab5,decide_eq_true_eq,beq_iff_eq,acn]at h1 h2 ⊢;rcases h1 with h1|⟨rfl,h1⟩
  .grind
  .rcases h2 with h2|⟨rfl,h2⟩
   .omega
   .exact .inr ⟨rfl,eu h1 h2⟩
theorem ke : ∀{a b:List UInt8},a≠b->Op.bytesLess a b=false->Op.bytesLess b a=true
 |[],[],h,_=>absurd rfl h
 |[],_::_,_,h=>by grind [Op.bytesLess]
 |_::_,[],_,_=>by simp[Op.bytesLess]
 |x::a,y::b,h,h1=>by
  simp only[Op.bytesLess,acy,Bool.and_eq_false_iff,decide_eq_false_iff_not,beq_eq_false_iff_ne,acn]at h1;simp only[Op.bytesLess,acu,ab5,decide_eq_true_eq,beq_iff_eq,acn];by_cases hxy:x=y
  .subst hxy;have h2:Op.bytesLess a b=false:=by
    simp_all
   exact .inr ⟨rfl,ke (λe=>h (by rw[e])) h2⟩
  grind [acO]
theorem AB (a b:List UInt8):jy b a= -jy a b:=by
 grind [jy,eh,eu,ke]
theorem TT.str (a b c:List UInt8):TT (jy a b) (jy b c) (jy a c):=by
 have key: ∀x y:List UInt8,jy x y<=0↔Op.bytesLess x y=true\/x=y:=λx y=>by
  grind [jy]
 have kz: ∀x y:List UInt8,jy x y=0↔x=y:=λx y=>by
  grind [jy,eh]
 intro h1 h2;grind [eu,eh]
open Go.Proofs.Tryz
def gl (p q:Pkg):Int:=if jy p.name q.name≠0 then jy p.name q.name else cc q.ver p.ver
theorem oS {x y:List UInt8}:jy x y=0↔x=y:=by
 grind [jy,eh]
theorem mz (p q:Pkg):gl q p= -gl p q:=by
 grind [gl,AB,jI]
theorem TT.swap {x y z:Int}(h:TT x y z):TT y x z:=λh1 h2=>by
 obtain⟨a,b⟩:=h h2 h1;omega
theorem TT.pkg {p q r:Pkg}(hp:bM p.ver=true)(hq:bM q.ver=true)(hr:bM r.ver=true):TT (gl p q) (gl q r) (gl p r):=
 (TT.str p.name q.name r.name).lex λ_ _ _=>(TT.ver hr hq hp).swap
theorem Be {p q:Pkg}:BC p q=true↔gl q p<=0:=by
 grind [BC,gl,jI,jy]
def xN (l:List Pkg):Prop:=∀ p∈l,bM p.ver=true
def nI (l:List Pkg):Prop:=l.Pairwise λp q=>gl p q<=0
theorem Gf {p:Pkg}: ∀{o:List Pkg},bM p.ver=true->xN o->nI o->nI (uh p o)
 |[],_,_,_=>by simp[nI,uh]
 |q::r,hp,hv,hs=>by
  obtain⟨h1,h2⟩:=ab4.1 hs;have hq:=hv q (by simp);have hr:xN r:=λx hx=>hv x (by simp[hx])
  unfold uh;by_cases hb:BC p q=true
  .rw[acf,if_pos hb,acg,if_pos hb,acK];refine ab4.2 ⟨λz hz=>?_,Gf hp hr h2⟩;rcases acb.1 ((r5 p r).subset hz)with rfl|hz
   .grind [Be]
   simp_all
  .rw[acf,if_neg hb,acg,if_neg hb,acM];have hpq:gl p q<=0:=by
    grind [Be,mz]
   refine ab4.2 ⟨λz hz=>?_,hs⟩;rcases acb.1 hz with rfl|hz
   .exact hpq
   .exact(TT.pkg hp hq (hr z hz) hpq (h1 z hz)).1
theorem iS {l:List Pkg}(h:xN l):nI (cQ l):=by
 have key: ∀(l o:List Pkg),xN l->xN o->nI o->nI (l.foldl (λo p=>uh p o) o):=λl=>by
  induction l with
  |nil=>simp_all
  |cons p r ih=>
   intro o hl ho hs;refine ih _ (λx hx=>hl x (by simp[hx])) (λx hx=>?_) (Gf (hl p (by simp)) ho hs);rcases acb.1 ((r5 p o).subset hx)with rfl|hx
   .exact hl x (by simp)
   .exact ho x hx
 exact key l [] h (λx hx=>by cases hx) .nil
theorem J7 {α:Type}{f:α->Bool}: ∀{o:List α},(∀q∈o,f q=true)->o.takeWhile f=o/\o.dropWhile f=[]
 |[],_=>⟨rfl,rfl⟩
 |q::r,h=>by
  obtain⟨e1,e2⟩:=J7 (f:=f) (o:=r) λx hx=>h x (by simp[hx])
  simp_all
theorem vL {l:List Pkg}(h:nI l):cQ l=l:=by
 have key: ∀(l o:List Pkg),nI (o++l)->l.foldl (λo p=>uh p o) o=o++l:=λl=>by
  induction l with
  |nil=>simp_all
  |cons p r ih=>
   intro o hs;have hall: ∀q∈o,BC p q=true:=λq hq=>Be.2 ((acz.1 hs).2.2 q hq p (by simp))
   grind [uh,J7]
 exact key l [] h
theorem Ek {l:List Pkg}(h:nI l):pB l:=by
 intro i j k p q r hp hq hr hij hjk hn;have hle: ∀{i j:Nat} {p q:Pkg},i<=j->l[i]?=some p->l[j]?=some q->jy p.name q.name<=0:=λ{i j p q} hij hp hq=>by
  by_cases e:i=j
  .grind [oS]
  .obtain⟨hi,hp'⟩:=ab8.1 hp;obtain⟨hj,hq'⟩:=ab8.1 hq;have:=acr.1 h i j hi hj (by omega);grind [gl]
 have h1:=hle hij hp hq;have h2:=hle hjk hq hr;have:=(TT.str p.name q.name r.name h1 h2).2 (oS.2 hn);grind [oS]
def pJ (l:List Pkg):Prop:=l.Pairwise λx y=>dB y x=false
theorem eE {l:List Pkg}(h:aR l=0):pJ l/\xN l:=by
 unfold aR at h;split at h
 .cases h
 split at h
 .omega
 rename_i h2;split at h
 .cases h
 rename_i h3;have h3:nK [] l=false:=by simp_all
 refine⟨((om l []).1 h3).2,λp hp=>?_⟩;have hm:=iB (acU.1 h2) _ (acp.2 ⟨p,hp,rfl⟩);grind [aS]
theorem zm {l:List Pkg}(h:pJ l){p q:Pkg}(hp:p∈l)(hq:q∈l)(hs:dB p q=true):p=q:=by
 induction l with
 |nil=>cases hp
 |cons x r ih=>
  obtain⟨h1,h2⟩:=ab4.1 h;rcases acb.1 hp with e1|hp1
  .grind [oG]
  .rcases acb.1 hq with e2|hq1
   .simp_all
   .exact ih h2 hp1 hq1
theorem G1 {p q:Pkg}(hp:bM p.ver=true)(hq:bM q.ver=true)(h:gl p q=0):dB p q=true:=by
 grind [gl,oS,dB,bn]
theorem KZ {l a b:List Pkg}(hd:pJ l)(hv:xN l)(ha:nI a)(hb:nI b)(pa:a.Perm l)(pb:b.Perm l):a=b:=by
 refine acs (le:=λp q=>gl p q<=0) (λp q hp hq h1 h2=>?_) ha hb (pa.trans pb.symm);have h3:=mz p q;exact zm hd (pa.subset hp) (pb.subset hq) (G1 (hv p (pa.subset hp)) (hv q (pb.subset hq)) (by omega))
def sn (l:List Pkg)(n v:List UInt8):Option Nat:=l.findIdx? λq=>q.name==n&&bn q.ver v
theorem tP {all:List Pkg}(h:aR all=0):(∀i p,all[i]?=some p->sn (cQ all) p.name p.ver=some i)↔all=cQ all:=by
 obtain⟨hd,hv⟩:=eE h;have hself: ∀p∈all,dB p p=true:=λp hp=>by
  have:=hv p hp;grind [dB,bn,jI]
 have hf: ∀(l:List Pkg) (p:Pkg),sn l p.name p.ver=l.findIdx? (dB p):=λl p=>rfl
 constructor
 .intro hI;refine List.ext_getElem? λi=>?_
  grind [acS,dC,acj,acJ,zm]
 .intro he i p hp;rw[<-he,hf,acj];obtain⟨hlt,hpi⟩:=ab8.1 hp;refine⟨hlt,by grind,λj hj=>?_⟩;have:=acr.1 hd j i (by omega) hlt hj;grind
end Go.Av
end
