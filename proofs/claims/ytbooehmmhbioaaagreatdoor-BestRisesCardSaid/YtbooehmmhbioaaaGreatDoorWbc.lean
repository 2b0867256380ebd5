/- Texts that the last one of this claim rests on: a layer over the guide's own conditions for code; contracts of the functions that the law reaches, one by one. No conditions beside those of the given rows. -/
import Derived.Test.YtbooehmmhbioaaaGreatDoorWah
import Derived.Test.YtbooehmmhbioaaaGreatDoorWas
import Derived.Test.YtbooehmmhbioaaaGreatDoorWaw
import Derived.Test.YtbooehmmhbioaaaGreatDoorWba
import Derived.Test.YtbooehmmhbioaaaGreatDoorWbb
set_option linter.unusedSimpArgs false
set_option linter.unusedVariables false
section
namespace Go.Proofs.Tryz
open Go Go.Av
set_option maxRecDepth 10000
set_option maxHeartbeats 1000000
variable {W0 :World}
theorem my (t:List Pkg)(n:List UInt8):(fC (λp:Pkg=>p.name==n) t= -1∧cZ t n=none)∨ ∃k p,t[k]?=some p∧cZ t n=some p∧fC (λp:Pkg=>p.name==n) t=(k:Nat):=by
 rcases gK (λp:Pkg=>p.name==n) t with⟨h1,h2⟩|⟨k,p,h1,h2,h3,h4⟩
 ·exact .inl ⟨h1,List.find?_eq_none.2 λx hx=>by simpa using h2 x hx⟩
 ·exact .inr ⟨k,p,h1,jU h1 h2 h3,h4⟩
theorem tL (s:List aD)(n:List UInt8):decide (fC (λx:aD=>x.pkg.name==n) s<0)=(cO s n).isNone:=by
 rcases gK (λx:aD=>x.pkg.name==n) s with⟨h1,h2⟩|⟨k,p,h1,h2,h3,h4⟩
 ·rw[h1,show cO s n=none from List.find?_eq_none.2 λx hx=>by simpa using h2 x hx];rfl
 ·rw[h4,show cO s n=some p from jU h1 h2 h3];exact decide_eq_false (by omega)
theorem DQ (t:List Pkg)(n:List UInt8):decide (fC (λp:Pkg=>p.name==n) t<0)=(cZ t n).isNone:=by
 rcases my t n with⟨h1,h2⟩|⟨k,p,h1,h2,h3⟩
 ·rw[h1,h2];rfl
 ·rw[h3,h2];exact decide_eq_false (by omega)
theorem ET (l:List aG)(t:List Pkg)(s:List aD)(ho:Bu l)(hne: ∀x∈s,x.pkg.name≠[])(wU:s.length≤1024):ah prog W0 25 [aZ l,aN t,aV s] (.bool (decide (cA l=0)&&Go.Av.dz l t s)):=by
 refine ak [6] [8,11,13,15,17] func25 rfl rfl ntmps25 rfl rfl (.bool _) λhs σ=>?_
 have hl:=(aF (hs _ (List.mem_cons_self ..))).1
 have htl:=(aF (hs _ (List.mem_cons_of_mem _ (List.mem_cons_self ..)))).1
 have hf1:=λn=>yU (W0:=W0) s n
 have hf2:=λn=>z8 (W0:=W0) t n
 simp only[go_sem,simprocAttr]
 refine al.fn (zw l) ?_
 simp only[go_sem,simprocAttr]
 refine⟨λh0=>?_,λh0=>?_⟩
 ·rw[decide_eq_false h0]
  exact .refl _
 rw[decide_eq_true h0,Bool.true_and]
 simp only[go_sem,simprocAttr,aZ,List.length_map]
 refine ae.at [0,1,2] (.of (by kernel_rfl)) (λA=>Ext σ A.st∧l.all (cR t s)=true) ?_ λB ⟨hst,hA⟩=>?_
 ·refine ae.upto [0,1,2,21,22] (.of (by kernel_rfl)) l.length (λi A=>A.env 23= .int .i64 i∧Ext σ A.st∧NoB (λa=>!cR t s a) l i) 0 (Nat.zero_le _) ?_ λi B hi ⟨h23,hst,hI⟩=>?_
  ·simp only[go_sem,simprocAttr]
   exact⟨.refl _,.zero _ _⟩
  simp only[go_sem,simprocAttr,h23,List.length_map]
  refine⟨λhc=>⟨hc,?_⟩,λhc=>⟨hst,List.all_eq_true.2 λa ha=>by simpa using hI.all hc a ha⟩⟩
  obtain⟨a,ha⟩:=get_some hc
  simp only[ar ha]
  have hbad:cR t s a=false→Go.Av.dz l t s=false:=λh=>by
   unfold Go.Av.dz
   rw[show l.all (cR t s)=false from List.all_eq_false.2 ⟨a,List.mem_of_getElem? ha,by rw[h];simp⟩]
   rfl
  have hgo:cR t s a=true→NoB (λa=>!cR t s a) l (i+1):=λh=>hI.succ ha (by rw[h];rfl)
  simp only[go_sem,simprocAttr,h23,gi,bu]
  refine al.fn (hf2 a.name) ?_
  rcases my t a.name with⟨g1,g2⟩|⟨k,p,g1,g2,g3⟩
  ·rw[g1]
   simp only[go_sem,simprocAttr,h23]
   refine⟨λh1=>?_,λh1=>⟨λh2=>⟨hc,ag hc hl,hst.app _,hgo (by unfold cR;rw[if_neg h1,if_pos h2,g2];rfl)⟩,λh2=>⟨λh5=>?_,λh5=>⟨hc,ag hc hl,hst.app _,hgo (by unfold cR;rw[if_neg h1,if_neg h2,if_neg h5])⟩⟩⟩⟩
   ·refine⟨.of (by kernel_rfl),aA.fnG (r:=.bool false) (λh=>(Bool.false_ne_true h).elim) ?_⟩
    simp only[go_sem,simprocAttr,h23]
    rw[hbad (by unfold cR;rw[if_pos h1,g2])]
    exact⟨.refl _,hst.app _⟩
   ·skip
    refine al.fn (hf1 a.name) ?_
    have hfe:=tL s a.name
    simp only[go_sem,simprocAttr,h23]
    refine⟨λhq=>⟨?_,hst.app _⟩,λhq=>⟨hc,ag hc hl,hst.app _,hgo ?_⟩⟩
    ·rw[hbad (by
      have e1:(cO s a.name).isNone=true:=by rw[←hfe];exact decide_eq_true hq
      unfold cR
      rw[if_neg h1,if_neg h2,if_pos h5]
      cases he:cO s a.name<;>simp_all)]
     exact .refl _
    ·have e1:(cO s a.name).isNone=false:=by rw[←hfe];exact decide_eq_false hq
     unfold cR
     rw[if_neg h1,if_neg h2,if_pos h5]
     cases he:cO s a.name<;>simp_all
  ·rw[g3]
   have hkl:=(List.getElem?_eq_some_iff.1 g1).1
   have hk0:decide ((k:Int)<0)=false:=decide_eq_false (by omega)
   simp only[go_sem,simprocAttr,h23,hk0]
   refine⟨λh1=>?_,λh1=>⟨λh2=>⟨?_,hst.app _⟩,λh2=>⟨λh5=>?_,λh5=>⟨hc,ag hc hl,hst.app _,hgo (by unfold cR;rw[if_neg h1,if_neg h2,if_neg h5])⟩⟩⟩⟩
   ·simp only[go_sem,simprocAttr,h23,aN,ar g1,av,List.length_map]
    refine⟨.of (by kernel_rfl),λ_=>hkl,aA.fnG (λ_=>ga p.ver a.ver) ?_⟩
    simp only[go_sem,simprocAttr,h23]
    have hmk:cR t s a=(a.ver==[]||ba p.ver a.ver):=by unfold cR;rw[if_pos h1,g2]
    refine⟨λhq=>⟨?_,hst.app _⟩,λhq=>⟨hc,ag hc hl,hst.app _,hgo ?_⟩⟩
    ·rw[hbad (by rw[hmk];revert hq;generalize (a.ver==[])=u;generalize ba p.ver a.ver=w;cases u<;>cases w<;>simp)]
     exact .refl _
    ·rw[hmk]
     revert hq
     generalize (a.ver==[])=u
     generalize ba p.ver a.ver=w
     cases u<;>cases w<;>simp
   ·rw[hbad (by unfold cR;rw[if_neg h1,if_pos h2,g2];rfl)]
    exact .refl _
   ·skip
    refine al.fn (hf1 a.name) ?_
    have hfe:=tL s a.name
    simp only[go_sem,simprocAttr,h23]
    refine⟨λhq=>⟨?_,hst.app _⟩,λhq=>⟨hc,ag hc hl,hst.app _,hgo ?_⟩⟩
    ·rw[hbad (by
      have e1:(cO s a.name).isNone=true:=by rw[←hfe];exact decide_eq_true hq
      unfold cR
      rw[if_neg h1,if_neg h2,if_pos h5]
      cases he:cO s a.name<;>simp_all)]
     exact .refl _
    ·have e1:(cO s a.name).isNone=false:=by rw[←hfe];exact decide_eq_false hq
     unfold cR
     rw[if_neg h1,if_neg h2,if_pos h5]
     cases he:cO s a.name<;>simp_all
 have hf1':=hf1
 have hhe:=Fu (W0:=W0) l s ho hne wU
 unfold aZ aV at hhe
 simp only[go_sem,simprocAttr,aV]
 refine al.fn hhe ?_
 simp only[go_sem,simprocAttr,List.length_map]
 obtain⟨H,hH⟩: ∃H,H=s.map (jC l):=⟨_,rfl⟩
 have hHl:H.length=s.length:=by rw[hH,List.length_map]
 rw[←hH,←hHl]
 refine ae.at [0,1,2] (.of (by kernel_rfl)) (λA=>Ext σ A.st∧s.all (gq l t)=true) ?_ λB ⟨hst,hB⟩=>?_
 ·refine ae.upto [0,1,2,67,68] (.of (by kernel_rfl)) H.length (λi A=>A.env 69= .int .i64 i∧Ext σ A.st∧NoB (λx=>!gq l t x) s i) 0 (Nat.zero_le _) ?_ λi B hi ⟨h69,hst,hI⟩=>?_
  ·simp only[go_sem,simprocAttr]
   exact⟨hst,.zero _ _⟩
  simp only[go_sem,simprocAttr,h69,List.length_map]
  refine⟨λhc=>⟨hc,?_⟩,λhc=>⟨hst,List.all_eq_true.2 λa ha=>by simpa using hI.all (by omega) a ha⟩⟩
  obtain⟨x,hx⟩:=get_some (show i<s.length by omega)
  have hx2:H[i]?=some (jC l x):=by rw[hH,List.getElem?_map,hx];rfl
  simp only[ar hx2]
  obtain⟨hh,hhh⟩: ∃hh,hh=ff (aL l x.pkg.name) x.hold:=⟨_,rfl⟩
  have hxe:bw (jC l x)= .agg 56 [.agg 54 [.str x.pkg.name,.str x.pkg.ver,aw x.pkg.pre,aw x.pkg.dep,aw x.pkg.rcm,aB x.pkg.con,aB x.pkg.brk,bW x.pkg.dE,.bool x.pkg.ess],.bool x.Cc,.bool hh]:=by rw[hhh];rfl
  rw[hxe]
  have hbad:gq l t x=false→Go.Av.dz l t s=false:=λh=>by
   unfold Go.Av.dz
   rw[show s.all (gq l t)=false from List.all_eq_false.2 ⟨x,List.mem_of_getElem? hx,by rw[h];simp⟩,Bool.and_false]
   rfl
  have hgo:gq l t x=true→NoB (λx=>!gq l t x) s (i+1):=λh=>hI.succ hx (by rw[h];rfl)
  have hae:bu ((aL l x.pkg.name).getD fJ)= .agg 83 [.int .i64 ((aL l x.pkg.name).getD fJ).kind,.str ((aL l x.pkg.name).getD fJ).name,.str ((aL l x.pkg.name).getD fJ).ver]:=rfl
  simp only[go_sem,simprocAttr,h69]
  refine al.fn (hf2 x.pkg.name) ?_
  rcases my t x.pkg.name with⟨g1,g2⟩|⟨k,p,g1,g2,g3⟩
  ·have hme:gq l t x= !(hh||x.pkg.ess):=by unfold gq;rw[g2,hhh]
   rw[g1]
   simp only[go_sem,simprocAttr,h69]
   refine⟨λhq=>⟨?_,hst.app _⟩,λhq=>?_⟩
   ·rw[hbad (by rw[hme,hq];rfl)]
    exact .refl _
   have hh0:hh=false:=by cases hh with|false=>rfl|true=>cases hq
   rw[hh0]
   simp only[go_sem,simprocAttr,h69]
   refine⟨.of (by kernel_rfl),aA.fnG (r:=.bool false) (λh=>(Bool.false_ne_true h).elim) ?_⟩
   simp only[go_sem,simprocAttr,h69]
   have hab:=qI (W0:=W0) l x.pkg.name
   unfold aZ at hab
   refine al.fn hab ?_
   simp only[go_sem,simprocAttr,h69,hae,gi]
   refine⟨.of (by kernel_rfl),aA.fnG (r:=.int .i64 0) (λh=>(Bool.false_ne_true h).elim) ?_⟩
   simp only[go_sem,simprocAttr,h69]
   exact⟨by omega,ag (show i<s.length by omega) (by rw[aq];omega),hst.app _,hgo (by rw[hme,hq];rfl)⟩
  ·have hme:gq l t x=((!hh||ba p.ver x.pkg.ver)&& !(decide (bp p.ver x.pkg.ver<0)&& !dx (aL l x.pkg.name))):=by unfold gq;rw[g2,hhh]
   have hkl:=(List.getElem?_eq_some_iff.1 g1).1
   have hk0:decide ((k:Int)<0)=false:=decide_eq_false (by omega)
   rw[g3]
   simp only[go_sem,simprocAttr,h69,hk0,aN,ar g1,av,List.length_map]
   refine⟨.of (by kernel_rfl),λ_=>hkl,aA.fnG (λ_=>ga p.ver x.pkg.ver) ?_⟩
   simp only[go_sem,simprocAttr,h69,hk0]
   refine⟨λhq=>⟨?_,hst.app _⟩,λhq=>?_⟩
   ·rw[hbad (by rw[hme];revert hq;generalize ba p.ver x.pkg.ver=w;cases hh<;>cases w<;>simp)]
    exact .refl _
   have hab:=qI (W0:=W0) l x.pkg.name
   unfold aZ at hab
   refine al.fn hab ?_
   simp only[go_sem,simprocAttr,h69,hae,gi,hk0,aN,ar g1,av,List.length_map]
   refine⟨.of (by kernel_rfl),hkl,aA.fnG (λ_=>lp p.ver x.pkg.ver) ?_⟩
   simp only[go_sem,simprocAttr,h69,nB]
   have hex:(!dx (aL l x.pkg.name))=(((aL l x.pkg.name).getD fJ).kind !=1||((aL l x.pkg.name).getD fJ).ver==[]):=by
    cases aL l x.pkg.name with
    |none=>rfl
    |some a=>
     simp only[dx,Option.getD_some,bne]
     generalize (a.kind==1)=u
     generalize (a.ver==[])=w
     cases u<;>cases w<;>rfl
   rw[hex]at hme
   have hq':(!hh||ba p.ver x.pkg.ver)=true:=by revert hq;generalize ba p.ver x.pkg.ver=w;cases hh<;>cases w<;>simp
   rw[hq',Bool.true_and]at hme
   refine⟨λhq2=>⟨?_,hst.app _⟩,λhq2=>⟨by omega,ag (show i<s.length by omega) (by rw[aq];omega),hst.app _,hgo ?_⟩⟩
   ·rw[hbad (by rw[hme,hq2];rfl)]
    exact .refl _
   ·rw[hme,hq2];rfl
 have hm1:Go.Av.dz l t s=(!iI l||jm l t s):=by unfold Go.Av.dz;rw[hA,hB];rfl
 have hhas:=JS (W0:=W0) l 3
 unfold aZ at hhas
 simp only[go_sem,simprocAttr]
 refine al.fn hhas ?_
 rw[show(l.any λa=>a.kind==3)=iI l from rfl]
 simp only[go_sem,simprocAttr]
 refine ct.at [] (by kernel_rfl) (λA=>Ext σ A.st∧Go.Av.dz l t s=true) (λhpl=>?_) (λhpl=>?_) λB2 ⟨hst2,hM⟩=>?_
 ·rw[hpl]at hm1
  have hab: ∀n:List UInt8,ah prog W0 69 [.sl 83 (l.map bu),.str n] (.agg 83 [.int .i64 (kindOf (aL l n)),.str ((aL l n).getD fJ).name,.str ((aL l n).getD fJ).ver]):=λn=>by
   have h:=qI (W0:=W0) l n
   have e:bu ((aL l n).getD fJ)= .agg 83 [.int .i64 (kindOf (aL l n)),.str ((aL l n).getD fJ).name,.str ((aL l n).getD fJ).ver]:=by
    cases aL l n<;>rfl
   rw[e]at h
   exact h
  unfold aN at hf2
  unfold aV at hf1
  simp only[go_sem,simprocAttr,aN,List.length_map]
  refine ae.at [0,1,2] (.of (by kernel_rfl)) (λA=>Ext σ A.st∧(t.all λp=>(cO s p.name).isSome||kindOf (aL l p.name)==1)=true) ?_ λB3 ⟨hst,hC⟩=>?_
  ·refine ae.upto [0,1,2,135,136] (.of (by kernel_rfl)) t.length (λi A=>A.env 137= .int .i64 i∧Ext σ A.st∧NoB (λp:Pkg=>(cO s p.name).isNone&&kindOf (aL l p.name) !=1) t i) 0 (Nat.zero_le _) ?_ λi B3 hi ⟨h137,hst,hI⟩=>?_
   ·simp only[go_sem,simprocAttr]
    exact⟨hst,.zero _ _⟩
   simp only[go_sem,simprocAttr,h137,List.length_map]
   refine⟨λhc=>⟨hc,?_⟩,λhc=>⟨hst,List.all_eq_true.2 λa ha=>?_⟩⟩
   ·obtain⟨p,hp⟩:=get_some hc
    simp only[ar hp]
    have hfe:=tL s p.name
    simp only[go_sem,simprocAttr,h137,av]
    refine al.fn (hf1 p.name) ?_
    simp only[go_sem,simprocAttr,h137]
    refine aA.fnG (λ_=>hab p.name) ?_
    simp only[go_sem,simprocAttr,h137]
    rw[hfe]
    refine⟨λhq=>⟨?_,hst.app _⟩,λhq=>⟨hc,ag hc htl,hst.app _,hI.succ hp (by simpa using hq)⟩⟩
    have hM:Go.Av.dz l t s=false:=by
     rw[hm1,Bool.not_true,Bool.false_or]
     unfold jm
     rw[show(t.all λp=>(cO s p.name).isSome||kindOf (aL l p.name)==1)=false from List.all_eq_false.2 ⟨p,List.mem_of_getElem? hp,by revert hq;cases cO s p.name<;>simp⟩]
     rfl
    rw[hM]
    exact .refl _
   ·have:=hI.all hc a ha
    revert this
    cases cO s a.name<;>simp
  simp only[go_sem,simprocAttr,List.length_map]
  refine ae.at [] (.of (by kernel_rfl)) (λA=>Ext σ A.st∧(s.all λx=>(cZ t x.pkg.name).isSome||kindOf (aL l x.pkg.name)==2)=true) ?_ λB4 ⟨hst,hD⟩=>?_
  ·refine ae.upto [0,1,155,156] (.of (by kernel_rfl)) s.length (λi A=>A.env 157= .int .i64 i∧Ext σ A.st∧NoB (λx:aD=>(cZ t x.pkg.name).isNone&&kindOf (aL l x.pkg.name) !=2) s i) 0 (Nat.zero_le _) ?_ λi B4 hi ⟨h157,hst,hI⟩=>?_
   ·simp only[go_sem,simprocAttr]
    exact⟨hst,.zero _ _⟩
   simp only[go_sem,simprocAttr,h157,List.length_map]
   refine⟨λhc=>⟨hc,?_⟩,λhc=>⟨hst,List.all_eq_true.2 λa ha=>?_⟩⟩
   ·obtain⟨x,hx⟩:=get_some hc
    simp only[ar hx]
    have hfe:=DQ t x.pkg.name
    simp only[go_sem,simprocAttr,h157,bw,av,jx]
    refine al.fn (hf2 x.pkg.name) ?_
    simp only[go_sem,simprocAttr,h157]
    refine aA.fnG (λ_=>hab x.pkg.name) ?_
    simp only[go_sem,simprocAttr,h157]
    rw[hfe]
    refine⟨λhq=>⟨?_,hst.app _⟩,λhq=>⟨hc,ag hc (by rw[aq];omega),hst.app _,hI.succ hx (by simpa using hq)⟩⟩
    have hM:Go.Av.dz l t s=false:=by
     rw[hm1,Bool.not_true,Bool.false_or]
     unfold jm
     rw[show(s.all λx=>(cZ t x.pkg.name).isSome||kindOf (aL l x.pkg.name)==2)=false from List.all_eq_false.2 ⟨x,List.mem_of_getElem? hx,by revert hq;cases cZ t x.pkg.name<;>simp⟩,Bool.and_false]
    rw[hM]
    exact .refl _
   ·have:=hI.all hc a ha
    revert this
    cases cZ t a.pkg.name<;>simp
  simp only[go_sem,simprocAttr]
  refine⟨hst,?_⟩
  rw[hm1,Bool.not_true,Bool.false_or]
  unfold jm
  rw[hC,hD]
  rfl
 ·simp only[go_sem,simprocAttr]
  exact⟨hst,by rw[hm1,hpl];rfl⟩
 simp only[go_sem,simprocAttr]
 rw[hM]
 exact⟨.refl _,hst2⟩
end Go.Proofs.Tryz
end
section
namespace Go.Av
open Go.Proofs.Tryz
theorem Bh (l:List (List Nat×List Nat)):(LJ l).Perm l:=by
 have key: ∀(l o:List (List Nat×List Nat)),(l.foldl (λo p=>tx p o) o).Perm (o++l):=λl=>by
  induction l with
  |nil=>intro o;simp
  |cons p l ih=>
   intro o
   refine(ih _).trans ?_
   refine((qc p o).append_right l).trans ?_
   exact List.perm_middle.symm
 have h:=key l []
 rw[List.nil_append]at h
 exact h
@[go_sem] theorem XD (l:List Nat):unm (lM l)=lM l:=rfl
@[go_sem] theorem SM (gd:Option Bool)(l:List Nat):okM gd (bR l)=True:=eq_true trivial
@[go_sem] theorem TC (l:List Nat):unm (bR l)=bR l:=rfl
end Go.Av
namespace Go.Proofs.Tryz
open Go Go.Av
set_option maxRecDepth 10000
set_option maxHeartbeats 1000000
variable {W0 :World}
end Go.Proofs.Tryz
end
section
namespace Go.Av
open Go.Proofs.Tryz
def pN (all:List Pkg):Nat→Nat→Nat
 |0,_=>1
 |f+1,i=>if i=all.length then 1 else(aE all i-i+1)*pN all f (aE all i)
theorem LZ {all:List Pkg}: ∀{f g i:Nat},i≤all.length→all.length-i≤f→all.length-i≤g→pN all f i=pN all g i
 |0,0,_,_,_,_=>rfl
 |0,g+1,i,hi,h1,_=>by
  have e:i=all.length:=by omega
  rw[pN,pN,if_pos e]
 |f+1,0,i,hi,_,h2=>by
  have e:i=all.length:=by omega
  rw[pN,pN,if_pos e]
 |f+1,g+1,i,hi,h1,h2=>by
  rw[pN,pN]
  by_cases e:i=all.length
  ·rw[if_pos e,if_pos e]
  ·rw[if_neg e,if_neg e]
   obtain⟨p,hp⟩:=get_some (show i<all.length by omega)
   obtain⟨b1,b2⟩:=cD hp
   rw[LZ (f:=f) (g:=g) b2 (by omega) (by omega)]
def xq (all:List Pkg)(i:Nat):Nat:=pN all (all.length-i) i
theorem H4 (all:List Pkg):xq all all.length=1:=by rw[xq,Nat.sub_self,pN]
theorem D9 {all:List Pkg}{i:Nat}{p:Pkg}(hp:all[i]?=some p):xq all i=(aE all i-i+1)*xq all (aE all i):=by
 have hi:=(List.getElem?_eq_some_iff.1 hp).1
 obtain⟨b1,b2⟩:=cD hp
 rw[xq,xq,show all.length-i=(all.length-i-1)+1 by omega,pN,if_neg (by omega),LZ (f:=all.length-i-1) (g:=all.length-aE all i) b2 (by omega) (by omega)]
theorem zt {most n:Nat}: ∀{r:List Pkg} {p:Pkg} {k:Nat},oI most (p::r) n k=if most<n*(k+((p::r).takeWhile λq=>q.name==p.name).length+1)then false else oI most ((p::r).drop ((p::r).takeWhile λq=>q.name==p.name).length) (n*(k+((p::r).takeWhile λq=>q.name==p.name).length+1)) 0
 |[],p,k=>by
  rw[oI,List.takeWhile_cons_of_pos (by simp)]
  simp
 |q::r,p,k=>by
  rw[oI,List.takeWhile_cons_of_pos (by simp),List.head?_cons,Option.map_some]
  by_cases h:q.name=p.name
  ·rw[if_pos (by rw[h]),zt,h,List.length_cons,List.drop_succ_cons]
   rw[show k+1+((q::r).takeWhile λq=>q.name==p.name).length+1=k+(((q::r).takeWhile λq=>q.name==p.name).length+1)+1 by omega]
  ·rw[if_neg (λe=>h (Option.some.inj e)),List.takeWhile_cons_of_neg (by simpa using h)]
   simp
theorem Cv {all:List Pkg}{most:Nat}: ∀{m i n:Nat},all.length-i≤m→i≤all.length→n≤most→oI most (all.drop i) n 0=true→n*xq all i≤most
 |m,i,n,hm,hi,hn,h=>by
  by_cases e:i=all.length
  ·subst e
   rw[H4,Nat.mul_one]
   exact hn
  obtain⟨p,hp⟩:=get_some (show i<all.length by omega)
  obtain⟨b1,b2⟩:=cD hp
  have hd:all.drop i=p::all.drop (i+1):=by
   rw[←List.getElem_cons_drop (show i<all.length by omega),(List.getElem?_eq_some_iff.1 hp).2]
  have hr:aE all i=i+((all.drop i).takeWhile λq=>q.name==p.name).length:=by simp[aE,hp]
  rw[hd,zt,←hd]at h
  split at h
  ·cases h
  rename_i hle
  rw[List.drop_drop,←hr]at h
  cases m with
  |zero=>omega
  |succ m=>
   have hk:0+((all.drop i).takeWhile λq=>q.name==p.name).length+1=aE all i-i+1:=by omega
   rw[hk]at h hle
   have:=Cv (m:=m) (i:=aE all i) (n:=n*(aE all i-i+1)) (by omega) b2 (by omega) h
   rw[D9 hp,←Nat.mul_assoc]
   exact this
theorem Ol {all:List Pkg}{most:Nat}(h1:1≤most)(h:oI most all 1 0=true):xq all 0≤most:=by
 have:=Cv (m:=all.length) (i:=0) (n:=1) (by omega) (Nat.zero_le _) h1 h
 omega
end Go.Av
end
section
namespace Go.Av
open Go.Proofs.Tryz
theorem jt {all:List Pkg}{s:List aD}{l:List aG}{up:Bool}{x:List Nat×List Nat}(h:x∈eE all s l up):x.2∈df all (all.length+1) 0 []∧dz l (atL all x.2) s=true∧x.1=vo all s (atL all x.2) up:=by
 obtain⟨t,ht,rfl⟩:=List.mem_map.1 ((Bh _).subset h)
 obtain⟨h1,h2⟩:=List.mem_filter.1 ht
 exact⟨h1,h2,rfl⟩
theorem yo {all:List Pkg}{s:List aD}{l:List aG}(h:da all s l=true){t:List Pkg}(ht: ∀p∈t,p∈all):dz l t s=false:=by
 unfold da at h
 obtain⟨a,ha,h⟩:=List.any_eq_true.1 h
 have hm:cR t s a=false:=by
  rw[Bool.or_eq_true,Bool.and_eq_true,Bool.and_eq_true,beq_iff_eq,beq_iff_eq,Bool.not_eq_true']at h
  unfold cR
  rcases h with⟨h1,h2⟩|⟨h1,h2⟩
  ·rw[if_neg (by omega),if_neg (by omega),if_pos h1]
   cases he:cO s a.name<;>simp_all
  ·rw[if_pos h1,show cZ t a.name=none from List.find?_eq_none.2 λp hp=>by
    have:=List.any_eq_false.1 h2 p (ht p hp)
    simpa using this]
 unfold dz
 rw[show l.all (cR t s)=false from List.all_eq_false.2 ⟨a,ha,by rw[hm];simp⟩]
 rfl
theorem Bc {all:List Pkg}{s:List aD}{l:List aG}{up:Bool}(h:da all s l=true):eE all s l up=[]:=by
 refine List.eq_nil_iff_forall_not_mem.2 λx hx=>?_
 obtain⟨h1,h2,_⟩:=jt hx
 obtain⟨s1,s2⟩:=vX h1 (Nat.zero_le _) (by simp[atL]) (by omega)
 rw[yo h λp hp=>s1.subset hp]at h2
 cases h2
def sC (all:List Pkg)(s:List aD)(l:List aG)(bud:Int):Nat→SSt
 |0=>.fresh
 |i+1=>(eG all s l bud (sC all s l bud i)).2.2
def o6 (all:List Pkg)(s:List aD)(l:List aG)(bud:Int):Bool:=!da all s l&&decide (0<bud∧bud<tJ all s l)
def A4 (all:List Pkg)(s:List aD)(l:List aG)(bud:Int)(i:Nat):Option FB×Int:=if o6 all s l bud=true then(none,11)else((jE all s l)[i]?,0)
theorem Gw {all:List Pkg}{s:List aD}{l:List aG}{bud:Int}: ∀i:Nat,sC all s l bud i=if da all s l=true∨i=0 then .fresh else if o6 all s l bud=true then .fail else .run ((jE all s l).drop i)
 |0=>by simp[sC]
 |i+1=>by
  rw[sC,Gw i]
  cases hn:da all s l with
  |true=>simp[eG,hn]
  |false=>
   have hf:o6 all s l bud=decide (0<bud∧bud<tJ all s l):=by unfold o6;rw[hn];rfl
   by_cases h:0<bud∧bud<tJ all s l
   ·rw[hf,decide_eq_true h]
    by_cases h0:i=0<;>simp[eG,hn,h0,h]
   ·rw[hf,decide_eq_false h]
    by_cases h0:i=0<;>simp[eG,hn,h0,h]
theorem Hu (all:List Pkg)(s:List aD)(l:List aG)(bud:Int)(i:Nat):eG all s l bud (sC all s l bud i)=((A4 all s l bud i).1,(A4 all s l bud i).2,sC all s l bud (i+1)):=by
 have key:(eG all s l bud (sC all s l bud i)).1=(A4 all s l bud i).1∧(eG all s l bud (sC all s l bud i)).2.1=(A4 all s l bud i).2:=by
  rw[Gw i]
  unfold A4
  cases hn:da all s l with
  |true=>
   have hb:jE all s l=[]:=by unfold jE;rw[Bc hn];rfl
   have hf:o6 all s l bud=false:=by unfold o6;rw[hn];rfl
   simp[eG,hn,hf,hb]
  |false=>
   have hf:o6 all s l bud=decide (0<bud∧bud<tJ all s l):=by unfold o6;rw[hn];rfl
   by_cases h:0<bud∧bud<tJ all s l
   ·rw[hf,decide_eq_true h]
    by_cases h0:i=0<;>simp[eG,hn,h0,h]
   ·rw[hf,decide_eq_false h]
    by_cases h0:i=0
    ·subst h0
     simp[eG,hn,h,List.head?_eq_getElem?]
    ·simp[eG,hn,h0,h,List.head?_drop]
 exact Prod.ext key.1 (Prod.ext key.2 rfl)
theorem HO (all:List Pkg)(s:List aD)(l:List aG)(i:Nat):A4 all s l 0 i=((jE all s l)[i]?,0):=by
 unfold A4 o6
 rw[if_neg (by simp)]
theorem DI {all:List Pkg}{s:List aD}{l:List aG}(hc:lI all){i:Nat}{x:List Nat×List Nat}(hx:(eE all s l (dp l))[i]?=some x):
  (jE all s l)[i]?=some (x.1,bG x.2)∧aX all.length (bG x.2)=x.2:=by
 refine⟨by unfold jE;rw[List.getElem?_map,hx];rfl,?_⟩
 exact pY hc (ri (jt (List.mem_of_getElem? hx)).1)
structure Xy (repo:List Pkg)(s:List aD)(l:List aG)(all:List Pkg):Prop where
 sea:cA l=0→FK all s l
 mn: ∀p∈all,lJ p
 DZ:bX s=0
 new:lN all s l=cA l
 few:xq all 0≤700
 may:bt all=0
 srt:ns all
 sub: ∀x∈s,x.pkg∈all
 mns: ∀x∈s,lJ x.pkg
theorem Km {repo:List Pkg}{s:List aD}(l:List aG)(h:(qv repo s).2=true):Xy repo s l (qv repo s).1:=by
 unfold qv at h ⊢
 split at h
 ·rename_i hl
  rw[if_pos hl]
  simp only[Bool.and_eq_true,decide_eq_true_eq]at h
  obtain⟨h2,hf⟩:=h
  have hsp: ∀x∈s,lJ x.pkg:=λx hx=>uX hl.2 _ (List.mem_map_of_mem hx)
  obtain⟨k1,k2,k3,k4⟩:=Jo h2
  obtain⟨_,hnm⟩:=lB k4
  have hn:=nD k4
  have hmn: ∀p∈(gw repo s).1,lJ p:=by
   have he:(gw repo s).1=cL (fe repo s):=by
    unfold gw at h2 ⊢
    split at h2
    ·rename_i hh;exact absurd h2 hh
    rename_i h3
    rw[if_neg h3]
    split at h2
    ·rename_i hh;exact absurd h2 hh
    rename_i h4
    rw[if_neg h4]
    split at h2
    ·cases h2
    rename_i h5
    rw[if_neg h5]
   intro p hp
   rw[he]at hp
   have hp:=(ei _).subset hp
   unfold fe at hp
   rcases List.mem_append.1 hp with hp|hp
   ·obtain⟨x,hx,rfl⟩:=List.mem_map.1 hp
    exact hsp x hx
   ·exact uX hl.1 p (List.mem_filter.1 hp).1
  have hin:(s.any λx=>!(gw repo s).1.any λp=>decide (p=x.pkg))=false:=by
   refine List.any_eq_false.2 λx hx=>?_
   rw[List.any_eq_true.2 ⟨x.pkg,k3 x hx,by simp⟩]
   simp
  refine⟨λhq=>⟨k1,(tX k2).symm,hmn,rB k4,(KT hq).2.2.2,hn,λx hx=>⟨x.pkg,k3 x hx,rfl⟩⟩,hmn,k4,?_,Ol (by omega) hf,k1,k2,k3,hsp⟩
  unfold lN
  rw[if_neg (by simp[k1]),if_neg (by rw[tX k2];simp),if_neg (by simp[k4])]
  split
  ·rfl
  ·rename_i hq
   rw[if_neg (by rw[hin];simp)]
   exact(Classical.not_not.1 hq).symm
 ·cases h
end Go.Av
end
section
namespace Go.Proofs.Tryz
open Go Go.Av
set_option maxRecDepth 10000
set_option maxHeartbeats 1000000
variable {W0 :World}
theorem dd.via {σ σ':ab}{id:Nat}{all:List Pkg}{s:List aD}{l:List aG}{bud:Int}{st:SSt}(h:dd σ id all s l bud st)(h1:σ'[id]?=σ[id]?)(h2: ∀(j:Nat)(ys:List AV),σ[j]?=some (some (cM.cells 116 ys))→σ'[j]?=σ[j]?):dd σ' id all s l bud st:=by
 cases st with
 |fresh=>exact h1.trans h
 |run o=>
  obtain⟨g1,⟨v,g2,g3⟩,g4⟩:=h
  refine⟨g1,⟨v,h1.trans g2,g3.dX λj hj=>?_⟩,g4⟩
  rcases g3 with⟨rfl,_⟩|⟨k,off,m,zs,rfl,hk,_⟩
  ·cases hj
  ·cases List.mem_singleton.1 hj
   exact h2 _ _ hk
 |fail=>
  obtain⟨g1,g2,v,g3⟩:=h
  exact⟨g1,g2,v,h1.trans g3⟩
theorem dd.ob {σ:ab}{id:Nat}{all:List Pkg}{s:List aD}{l:List aG}{bud:Int}{st:SSt}(h:dd σ id all s l bud st): ∃sp dn v,σ[id]?=some (de all s l bud sp dn v):=by
 cases st with
 |fresh=>exact⟨_,_,_,h⟩
 |run o=>obtain⟨_,⟨v,h2,_⟩,_⟩:=h;exact⟨_,_,_,h2⟩
 |fail=>obtain⟨_,_,v,h3⟩:=h;exact⟨_,_,_,h3⟩
theorem dd.ext {σ σ':ab}{id:Nat}{all:List Pkg}{s:List aD}{l:List aG}{bud:Int}{st:SSt}(h:dd σ id all s l bud st)(hx:Ext σ σ'):dd σ' id all s l bud st:=by
 have key: ∀{j:Nat} {o:cM},σ[j]?=some (some o)→σ'[j]?=σ[j]?:=λ{j o} hj=>by
  rw[hx.eq,List.getElem?_append_left (List.getElem?_eq_some_iff.1 hj).1]
 obtain⟨_,_,_,ho⟩:=dd.ob h
 unfold de at ho
 exact dd.via h (key ho) λj ys hj=>key hj
theorem dd.app {σ:ab}{id:Nat}{all:List Pkg}{s:List aD}{l:List aG}{bud:Int}{st:SSt}(h:dd σ id all s l bud st)(x:ab):dd (σ++x) id all s l bud st:=dd.ext h (.app (.refl _) x)
end Go.Proofs.Tryz
end
section
namespace Go.Proofs.Tryz
open Go Go.Av
set_option maxRecDepth 10000
set_option maxHeartbeats 2000000
variable {W0 :World}
theorem dd.fr {σ σ':ab}{id idx:Nat}{all:List Pkg}{s:List aD}{l:List aG}{bud bud':Int}{st st':SSt}(h:dd σ id all s l bud st)(hx:dd σ idx all s l bud' st')(hne:id≠idx)(hf:Fr [idx] σ σ'):dd σ' id all s l bud st:=by
 obtain⟨_,_,_,ho⟩:=dd.ob h
 obtain⟨_,_,_,hxo⟩:=dd.ob hx
 refine dd.via h (hf.old id (List.getElem?_eq_some_iff.1 ho).1 (by simpa using hne)) λj ys hj=>hf.old j (List.getElem?_eq_some_iff.1 hj).1 λhji=>?_
 cases List.mem_singleton.1 hji
 rw[hj]at hxo
 exact absurd hxo (by unfold de cd;simp)
end Go.Proofs.Tryz
end
section
namespace Go.Av
open Go.Proofs.Tryz
def je :List Pkg→List UInt8
 |[]=>[]
 |p::r=>(p.name++32::(p.ver++[59]))++je r
theorem xP {c:UInt8}: ∀{u v x y:List UInt8},c∉u→c∉v→u++c::x=v++c::y→u=v∧x=y
 |[],[],x,y,_,_,h=>by
  simp only[List.nil_append,List.cons.injEq,true_and]at h
  exact⟨rfl,h⟩
 |[],b::v,x,y,_,hv,h=>by
  simp only[List.nil_append,List.cons_append,List.cons.injEq]at h
  exact absurd (by rw[h.1];simp) hv
 |a::u,[],x,y,hu,_,h=>by
  simp only[List.nil_append,List.cons_append,List.cons.injEq]at h
  exact absurd (by rw[h.1];simp) hu
 |a::u,b::v,x,y,hu,hv,h=>by
  simp only[List.cons_append,List.cons.injEq]at h
  obtain⟨h1,h2⟩:=xP (λhm=>hu (by simp[hm])) (λhm=>hv (by simp[hm])) h.2
  exact⟨by rw[h.1,h1],h2⟩
theorem yE {w:List UInt8}(h:bf w=true):(59:UInt8)∉w:=λhm=>by
 have:=Kd (P:=λc=>c≠59) (λc hc e=>by rw[e]at hc;exact absurd hc (by decide)) (λc hc e=>by rw[e]at hc;exact absurd hc (by decide)) (λc hc e=>by rw[e]at hc;exact absurd hc (by decide)) (by decide) (by decide) h 59 hm
 exact this rfl
theorem key_inj : ∀{l m:List Pkg},(∀p∈l,aU p=0)→(∀p∈m,aU p=0)→je l=je m→l.map (λp=>(p.name,p.ver))=m.map λp=>(p.name,p.ver)
 |[],[],_,_,_=>rfl
 |[],q::m,_,_,h=>by simp[je]at h
 |p::l,[],_,_,h=>by simp[je]at h
 |p::l,q::m,hl,hm,h=>by
  have hp:=dK (hl p (by simp))
  have hq:=dK (hm q (by simp))
  have hn: ∀{w:List UInt8},cq w=true→(32:UInt8)∉w:=λhw hm2=>by
   have:=BV hw 32 hm2
   exact absurd this (by decide)
  simp only[je,List.append_assoc,List.cons_append,List.nil_append]at h
  obtain⟨h1,h2⟩:=xP (hn hp.name) (hn hq.name) h
  obtain⟨h3,h4⟩:=xP (yE hp.ver) (yE hq.ver) h2
  rw[List.map_cons,List.map_cons,h1,h3,key_inj (λx hx=>hl x (by simp[hx])) (λx hx=>hm x (by simp[hx])) h4]
theorem AQ {all:List Pkg}(hd:rE all)(hv:tV all)(hm: ∀p∈all,aU p=0): ∀{t u:List Nat},(∀i∈t,i<all.length)→(∀i∈u,i<all.length)→je (atL all t)=je (atL all u)→t=u:=by
 have hin: ∀t,∀p∈atL all t,aU p=0:=λt p hp=>by
  obtain⟨i,_,hi⟩:=eu.1 hp
  exact hm p (List.mem_of_getElem? hi)
 have key: ∀{t u:List Nat},(∀i∈t,i<all.length)→(∀i∈u,i<all.length)→(atL all t).map (λp=>(p.name,p.ver))=(atL all u).map (λp=>(p.name,p.ver))→t=u:=λ{t}=>by
  induction t with
  |nil=>
   intro u _ hu h
   cases u with
   |nil=>rfl
   |cons j u=>
    obtain⟨q,hq⟩:=get_some (hu j (by simp))
    simp[atL,hq]at h
  |cons i t ih=>
   intro u ht hu h
   obtain⟨p,hp⟩:=get_some (ht i (by simp))
   cases u with
   |nil=>simp[atL,hp]at h
   |cons j u=>
    obtain⟨q,hq⟩:=get_some (hu j (by simp))
    have e1:atL all (i::t)=p::atL all t:=by simp[atL,hp]
    have e2:atL all (j::u)=q::atL all u:=by simp[atL,hq]
    rw[e1,e2,List.map_cons,List.map_cons,List.cons.injEq,Prod.mk.injEq]at h
    obtain⟨⟨hn,hvv⟩,h2⟩:=h
    have hij:i=j:=by
     have hpv:=hv p (List.mem_of_getElem? hp)
     have hs: ∀{x y:Pkg},x.name=y.name→x.ver=y.ver→bf x.ver=true→db x y=true:=λ{x y} hn hv hx=>by
      have e:bp x.ver x.ver=0:=by have:=ic x.ver x.ver;omega
      unfold db ba
      rw[←hv,hx,←hn,e]
      simp
     obtain⟨hil,hpi⟩:=List.getElem?_eq_some_iff.1 hp
     obtain⟨hjl,hqj⟩:=List.getElem?_eq_some_iff.1 hq
     rcases Nat.lt_trichotomy i j with hlt|he|hgt
     ·have:=List.pairwise_iff_getElem.1 hd i j hil hjl hlt
      rw[hpi,hqj,mu,hs hn hvv hpv]at this
      cases this
     ·exact he
     ·have:=List.pairwise_iff_getElem.1 hd j i hjl hil hgt
      rw[hpi,hqj,hs hn hvv hpv]at this
      cases this
    rw[hij,ih (λx hx=>ht x (by simp[hx])) (λx hx=>hu x (by simp[hx])) h2]
 intro t u ht hu h
 exact key ht hu (key_inj (hin t) (hin u) h)
end Go.Av
end
section
namespace Go.Av
open Go.Proofs.Tryz
theorem Gm (a b:List Pkg):je (a++b)=je a++je b:=by
 induction a with
 |nil=>rfl
 |cons p r ih=>simp[je,ih]
theorem zN {N:Nat}: ∀{l:List Pkg},(∀p∈l,p.name.length+p.ver.length+2≤N)→(je l).length≤l.length*N
 |[],_=>by simp[je]
 |p::l,h=>by
  have h1:=h p (by simp)
  have h2:=zN (l:=l) λq hq=>h q (by simp[hq])
  simp only[je,List.length_append,List.length_cons,List.length_nil,Nat.add_mul,Nat.one_mul]
  omega
theorem Gi {repo:List Pkg}{s:List aD}{p:Pkg}(h:p∈(qv repo s).1):p∈repo∨ ∃x∈s,x.pkg=p:=by
 have h2:p∈fe repo s:=by
  unfold qv gw at h
  split at h
  ·split at h
   ·cases h
   split at h
   ·cases h
   split at h
   ·cases h
   exact(ei _).subset h
  ·cases h
 unfold fe at h2
 rcases List.mem_append.1 h2 with h2|h2
 ·exact .inr (by simpa using h2)
 ·exact .inl (List.mem_filter.1 h2).1
theorem uo {all:List Pkg}{s:List aD}{l:List aG}{up:Bool}(hc:lI all){i j:Nat}{x y:List Nat×List Nat}(hx:(eE all s l up)[i]?=some x)(hy:(eE all s l up)[j]?=some y)(hij:i<j):lexB y.1 x.1=false∧x.2≠y.2:=by
 obtain⟨h1,rfl⟩:=List.getElem?_eq_some_iff.1 hx
 obtain⟨h2,rfl⟩:=List.getElem?_eq_some_iff.1 hy
 have h:=List.pairwise_iff_getElem.1 (zn hc up).2 i j h1 h2 hij
 obtain⟨_,_,e1⟩:=jt (List.mem_of_getElem? hx)
 obtain⟨_,_,e2⟩:=jt (List.mem_of_getElem? hy)
 refine⟨?_,λe=>?_⟩
 ·cases hq:lexB (eE all s l up)[j].1 (eE all s l up)[i].1 with
  |false=>rfl
  |true=>
   rcases pV.1 h with h|⟨h,_⟩
   ·have:=nM h hq
    rw[pS]at this
    cases this
   ·rw[h,pS]at hq
    cases hq
 ·rw[Prod.ext (by rw[e1,e2,e]) e,C9]at h
  cases h
end Go.Av
namespace Go.Proofs.Tryz
open Go Go.Av
set_option maxRecDepth 10000
set_option maxHeartbeats 1000000
variable {W0 :World}
def xQ :AV:=.agg 39 [.int .i64 (-1),.int .i64 0,.int .i64 0,.int .i64 0,.int .i64 0]
theorem Dt (a:List Nat)(ha:a.length=5):ah prog W0 23 [bR a,xQ] (.bool false):=by
 refine ak [4] [2,3] func23 rfl rfl ntmps23 rfl rfl (.bool _) λhs σ=>?_
 have hfa:bm prog 39 (bR a)=true:=by kernel_rfl
 have hfb:bm prog 39 xQ=true:=by kernel_rfl
 have hfl:(bq prog 39).isSome=true:=by kernel_rfl
 simp only[go_sem,simprocAttr,bR,xQ]
 refine ae.ck [2,3] (.of (by kernel_rfl)) (λk A=>A.env 6= .int .i64 0∧A.st=σ) 0 ⟨?_,?_⟩ λk B ⟨h6,hst⟩=>?_
 ·simp only[go_sem,simprocAttr]
 ·simp only[go_sem,simprocAttr]
 obtain⟨x,hx⟩:=get_some (show 0<a.length by omega)
 simp only[go_sem,simprocAttr,h6,hst,List.length_map,List.getElem?_map,hx,Option.map_some,Option.getD_some]
 exact⟨.of (by kernel_rfl),by omega,.of (by kernel_rfl),by omega,aj (decide_eq_false (by omega))⟩
def UE (br:List (List Nat×List Nat))(i:Nat)(lst:AV):Prop:=(i=0∧lst=xQ)∨ ∃(j:Nat) (x:List Nat×List Nat),i=j+1∧br[j]?=some x∧lst=bR x.1
def px (all:List Pkg)(br:List (List Nat×List Nat))(i:Nat):List AV:=(br.take i).map λx=>.str (je (atL all x.2))
theorem EF (hW:rM W0)(repo:List Pkg)(s:List aD)(l:List aG)(hp: ∀p∈repo,qt p)(hsp: ∀x∈s,qt x.pkg)(hsl:s.length≤733007751829):ah prog W0 5 [aN repo,aV s,aZ l] (.bool true):=by
 refine .FU (.bool _) λσ=>?_
 refine jD [.tmp 6] [14,19] func5 rfl rfl ntmps5 rfl rfl λhs=>?_
 simp only[go_sem,simprocAttr]
 refine al.fn (Ld repo s hp hsp hsl) ?_
 have hsub:=λp=>Gi (repo:=repo) (s:=s) (p:=p)
 obtain⟨all,hall⟩: ∃all,all=(qv repo s).1:=⟨_,rfl⟩
 obtain⟨ok,hok⟩: ∃ok,ok=(qv repo s).2:=⟨_,rfl⟩
 rw[←hall,←hok]
 rw[←hall]at hsub
 simp only[go_sem,simprocAttr,aZ,List.length_map]
 refine⟨λhc=>?_,λhc=>?_⟩
 ·refine al.fn (qV hW) ?_
  simp only[go_sem,simprocAttr]
  refine cW.ret ?_
  simp only[go_sem,simprocAttr]
  exact⟨_,.refl _,.refl _,.refl _⟩
 simp only[Bool.or_eq_false_iff,Bool.not_eq_false',decide_eq_false_iff_not]at hc
 obtain⟨hc1,hc2⟩:=hc
 have hF:=Km (repo:=repo) (s:=s) l (by rw[←hok];exact hc1)
 rw[←hall]at hF
 refine al.goes (by simp only[go_sem,simprocAttr]) (Fx σ all s l 0 hF.mn hF.mns) λr σ1 ⟨hx,hr⟩=>?_
 rw[hF.new]at hr
 rcases hr with⟨hne,rfl⟩|⟨hq,id,rfl,hid,hob⟩
 ·simp only[go_sem,simprocAttr]
  refine⟨λ_=>al.fn (qV hW) ?_,λh=>absurd h hne⟩
  simp only[go_sem,simprocAttr]
  refine cW.ret ?_
  simp only[go_sem,simprocAttr]
  exact⟨_,.refl _,hx.le,.refl _,hx⟩
 have H:=hF.sea hq
 have hcn:=tZ hF.srt
 have hse: ∀x∈s,x.pkg.name≠[]:=λx hx=>(M3 ((lB hF.DZ).2 x hx)).1
 rw[vI H.hU.asks]at hob
 have h24:=dS hF.may
 have hpk: ∀p∈all,qt p:=λp h=>by
  rcases hsub p h with h|⟨x,hx,rfl⟩
  ·exact hp p h
  ·exact hsp x hx
 simp only[go_sem,simprocAttr]
 refine ae.at [] (.of (by kernel_rfl)) (λA=>Ext σ A.st) ?_ λB hx1=>?_
 ·refine ae.upto [1,2,9,12] (.of (by kernel_rfl)) 40 (λi A=>∃ v lst,A.env 47= .int .i64 i∧A.env 11=v∧UE (eE all s l (dp l)) i lst∧dd A.st id all s l 0 (sC all s l 0 i)∧aQ σ A.st v 9 (px all (eE all s l (dp l)) i)∧A.st[σ1.length]?=some (some (cM.cells 39 [lst]))) 0 (Nat.zero_le _) ?_ λi B hi ⟨v,lst,h47,h11,hI,hs1,hb,hlid⟩=>?_
  ·simp only[go_sem,simprocAttr]
   exact⟨_,_,rfl,.inl ⟨rfl,rfl⟩,dd.app (st:=.fresh) hob _,aQ.nil (hx.app _) _,by simp[xQ]⟩
  simp only[go_sem,simprocAttr,h47]
  have hx1:=hb.ext
  refine⟨λhlt=>?_,λhge=>hx1⟩
  replace hlt:i<40:=by omega
  have hn:=Cy hW B.st id all s l 0 (sC all s l 0 i) H (by decide) (by decide) hs1
  rw[Hu,HO]at hn
  cases hg:(eE all s l (dp l))[i]? with
  |none=>
   have e1:(jE all s l)[i]?=none:=by
    unfold jE
    rw[List.getElem?_map,hg]
    rfl
   simp only[e1]at hn
   refine al.goes (by simp only[go_sem,simprocAttr]) hn λr σ2 ⟨hr,hfr,hs2⟩=>?_
   subst hr
   have hx2:Ext σ σ2:=hfr.yq hx1 λj hj=>by simp at hj;omega
   have q3:bm prog 39 (bR [0,0,0,0,0])=True:=eq_true (by kernel_rfl)
   simp only[go_sem,simprocAttr,Ag,h47,h11,q3]
   exact hx2.app _
  |some x=>
   obtain⟨e1,e2⟩:=DI hcn hg
   simp only[e1]at hn
   refine al.goes (by simp only[go_sem,simprocAttr]) hn λr σ2 ⟨hr,hfr,hs2⟩=>?_
   subst hr
   have hx2:Ext σ σ2:=hfr.yq hx1 λj hj=>by simp at hj;omega
   obtain⟨m1,m2,m3⟩:=jt (List.mem_of_getElem? hg)
   obtain⟨t1,t2⟩:=j2 m1 (Nat.zero_le _) (by simp) (by simp)
   obtain⟨ts,hts⟩: ∃ts,ts=atL all x.2:=⟨_,rfl⟩
   have q3:bm prog 39 (bR x.1)=True:=eq_true (by kernel_rfl)
   have hin: ∀p∈ts,p∈all:=λp h=>by
    rw[hts]at h
    obtain⟨k,_,hk⟩:=eu.1 h
    exact List.mem_of_getElem? hk
   have hlen: ∀p∈ts,p.name.length+p.ver.length+2≤140737488355354:=λp h=>by
    have h1:=(hpk p (hin p h)).ver
    rw[Ap]at h1
    have h2:=(dK (c8 hF.may (hin p h))).name
    unfold cq at h2
    simp only[Bool.and_eq_true,decide_eq_true_eq]at h2
    omega
   have hts24:ts.length≤24:=by
    have:=JK all x.2
    rw[hts]
    omega
   simp only[go_sem,simprocAttr,Ag,e2,h47,h11,q3]
   rw[←hts]
   simp only[go_sem,simprocAttr,aN,List.length_map]
   refine ae.at [1,2,9,11,12,13,14,47] (.of (by kernel_rfl)) (λA=>A.env 17= .str (je ts)∧Ext σ2 A.st) ?_ λC0 ⟨h17,hxc⟩=>?_
   ·refine ae.upto [1,2,9,11,12,13,14,47,60,61] (.of (by kernel_rfl)) ts.length (λj A=>A.env 62= .int .i64 j∧A.env 17= .str (je (ts.take j))∧Ext σ2 A.st) 0 (Nat.zero_le _) ?_ λj C hj ⟨h62,h17,hxc⟩=>?_
    ·simp only[go_sem,simprocAttr]
     exact⟨rfl,.app (.refl _) _⟩
    simp only[go_sem,simprocAttr,h62,h17,List.length_map]
    refine⟨λhc=>⟨hc,?_⟩,λhc=>?_⟩
    ·obtain⟨p,hpj⟩:=get_some hc
     simp only[ar hpj]
     have g1:=hlen p (List.mem_of_getElem? hpj)
     have g2:=zN (l:=ts.take j) λq hq=>hlen q (List.mem_of_mem_take hq)
     rw[List.length_take]at g2
     have c1:p.name.length+1≤maxLen:=by rw[aq];omega
     have c2:p.name.length+1+p.ver.length≤maxLen:=by rw[aq];omega
     have c3:p.name.length+(p.ver.length+1)+1≤maxLen:=by rw[aq];omega
     have c4:(je (ts.take j)).length+(p.name.length+(p.ver.length+1+1))≤maxLen:=by rw[aq];omega
     simp only[go_sem,simprocAttr,av,h62,h17,c1,c2,c3,c4]
     have e3:je (ts.take (j+1))=je (ts.take j)++(p.name++32::(p.ver++[59])):=by
      rw[ai hpj,Gm]
      simp[je]
     exact⟨hc,ag hc (by rw[aq];omega),by rw[e3],hxc.app _⟩
    ·exact⟨by rw[List.take_of_length_le hc],hxc⟩
   have hB2:aQ σ C0.st v 9 (px all (eE all s l (dp l)) i):=by
    refine⟨(hb.bld.dX λj hj=>hfr.old j (hb.bld.lt j hj) λe=>?_).dX λj hj=>?_,hx2.trans hxc,hb.tok⟩
    ·obtain⟨_,_,_,ho⟩:=dd.ob hs1
     unfold de cd at ho
     cases List.mem_singleton.1 e
     exact hb.bld.ne ho (by simp) hj
    ·rw[hxc.eq,List.getElem?_append_left]
     exact Nat.lt_of_lt_of_le (hb.bld.lt j hj) hfr.len
   have hb2:=hB2.bld
   have hkl:(px all (eE all s l (dp l)) i).length=i:=by
    have:=(List.getElem?_eq_some_iff.1 hg).1
    unfold px
    rw[List.length_map,List.length_take]
    omega
   simp only[go_sem,simprocAttr,h17,h11,hb2.len,hb2.fX,hb2.ok,hb2.un]
   refine ae.at [1,2,9,11,12,13,14,17,47] (.of (by kernel_rfl)) (λA=>A.st=C0.st) ?_ λC1 hst1=>?_
   ·refine ae.upto [1,2,9,11,12,13,14,17,47,76,77] (.of (by kernel_rfl)) i (λj A=>A.env 78= .int .i64 j∧A.st=C0.st) 0 (Nat.zero_le _) ?_ λj C hj ⟨h78,hst1⟩=>?_
    ·simp only[go_sem,simprocAttr]
    simp only[go_sem,simprocAttr,h78,hkl]
    refine⟨λhc=>?_,λhc=>hst1⟩
    obtain⟨y,hy⟩:=get_some (show j<(eE all s l (dp l)).length by have:=(List.getElem?_eq_some_iff.1 hg).1;omega)
    have hix:(px all (eE all s l (dp l)) i)[j]?=some (.str (je (atL all y.2))):=by
     unfold px
     rw[List.getElem?_map,List.getElem?_take,if_pos hc,hy]
     rfl
    simp only[go_sem,simprocAttr,h78,h17,h11,hb2.ok,hb2.un,hb2.ixV hix,hb2.ixC hix]
    refine⟨by rw[hkl];exact hc,λe=>?_,λ_=>⟨hc,ag hc (by rw[aq];omega),hst1⟩⟩
    obtain⟨n1,_,_⟩:=jt (List.mem_of_getElem? hy)
    obtain⟨u1,_⟩:=j2 n1 (Nat.zero_le _) (by simp) (by simp)
    obtain⟨d1,d2⟩:=eZ hF.may
    exact absurd (AQ d1 d2 (λp h=>c8 hF.may h) u1 t1 (by rw[e,hts])) (uo hcn hy hg hc).2
   have hlid2:C0.st[σ1.length]?=some (some (cM.cells 39 [lst])):=by
    have h1:σ2[σ1.length]?=some (some (cM.cells 39 [lst])):=by
     rw[hfr.old _ (List.getElem?_eq_some_iff.1 hlid).1 λe=>?_,hlid]
     obtain⟨_,_,_,ho⟩:=dd.ob hs1
     unfold de cd at ho
     rw[List.mem_singleton.1 e,ho]at hlid
     simp at hlid
    exact Ext.dX hxc h1
   simp only[go_sem,simprocAttr,h17,h11,hb2.ok,hb2.un,hst1]
   refine bQ.xG (σ:=C0.st) (by simp only[go_sem,simprocAttr,hst1]) 1048576 (by kernel_rfl) hb2 (.lit _ _ _) (by rw[hkl];simp;omega) λv' σ3 ha=>?_
   have hlid3:σ3[σ1.length]?=some (some (cM.cells 39 [lst])):=by
    rw[ha.old _ (List.getElem?_eq_some_iff.1 hlid2).1 λe=>?_,hlid2]
    exact hb2.ne hlid2 (by simp) ((mA hb2).2 e)
   have hless:ah prog W0 23 [bR x.1,lst] (.bool false):=by
    have hx5:x.1.length=5:=by rw[m3];exact jh _ _ _ _ _ _
    rcases hI with⟨_,rfl⟩|⟨j,y,hj,hy,rfl⟩
    ·exact Dt x.1 hx5
    ·have hy5:y.1.length=5:=by rw[(jt (List.mem_of_getElem? hy)).2.2];exact jh _ _ _ _ _ _
     have:=Ij (W0:=W0) x.1 y.1 hx5 hy5
     rwa [(uo hcn hy hg (by omega)).1]at this
   have hlo: ∀g,okM g lst=True:=λg=>by rcases hI with⟨_,rfl⟩|⟨_,_,_,_,rfl⟩<;>exact eq_true trivial
   have hlu:unm lst=lst:=by rcases hI with⟨_,rfl⟩|⟨_,_,_,_,rfl⟩<;>rfl
   simp only[go_sem,simprocAttr,ax hlid3,ay hlid3,hlo,hlu]
   refine al.fn hless ?_
   simp only[go_sem,simprocAttr]
   refine aA.fnG (λ_=>yy ts) ?_
   have hts2:ts=atL all x.2:=hts
   have hhl:dO ts=true:=by rw[hts2];exact(vX m1 (Nat.zero_le _) (by simp[atL]) (by omega)).2
   rw[hhl]
   simp only[go_sem,simprocAttr]
   have hme:=ET (W0:=W0) l ts s (Lp H.hU.asks) hse (by have:=H.wU;omega)
   rw[hq,hts2,m2]at hme
   refine aA.fnG (λ_=>by rw[hts2];exact hme) ?_
   simp only[go_sem,simprocAttr,ax hlid3,ay hlid3,hlo,hlu,aM hlid3,h47,q3]
   have hB3:=hB2.app ha
   have hs3:dd σ3 id all s l 0 (sC all s l 0 (i+1)):=by
    have h0:=dd.ext hs2 hxc
    obtain⟨_,_,_,ho⟩:=dd.ob h0
    unfold de cd at ho
    refine dd.via h0 (ha.old _ (List.getElem?_eq_some_iff.1 ho).1 λe=>hb2.ne ho (by simp) ((mA hb2).2 e)) λj ys hj=>ha.old _ (List.getElem?_eq_some_iff.1 hj).1 λe=>hb2.ne hj (by simp) ((mA hb2).2 e)
   have hne:id≠σ1.length:=by
    have:=(List.getElem?_eq_some_iff.1 hob).1
    omega
   have hkx:px all (eE all s l (dp l)) (i+1)=px all (eE all s l (dp l)) i++[.str (je ts)]:=by
    unfold px
    rw[ai hg,List.map_append,hts]
    rfl
   refine⟨hlt,_,_,ag hlt (by rw[aq];omega),rfl,.inr ⟨i,x,rfl,hg,rfl⟩,dd.via hs3 (List.getElem?_set_ne (λe=>hne e.symm)) λj ys hj=>List.getElem?_set_ne λe=>?_,?_,?_⟩
   ·rw[←e,hlid3]at hj
    simp at hj
   ·rw[hkx]
    exact⟨ha.bld.dX λj hj=>List.getElem?_set_ne λe=>ha.bld.ne hlid3 (by simp) (by rw[e];exact hj),hB3.ext.set hx.le _,hB3.tok⟩
   ·rw[List.getElem?_set_self (List.getElem?_eq_some_iff.1 hlid3).1]
 simp only[go_sem,simprocAttr]
 refine al.fn (qV hW) ?_
 simp only[go_sem,simprocAttr]
 refine cW.ret ?_
 simp only[go_sem,simprocAttr]
 exact⟨_,.refl _,hx1.le,.refl _,hx1⟩
end Go.Proofs.Tryz
end
