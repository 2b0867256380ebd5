/- Texts that the last one of this claim rests on: a layer over the guide's own conditions for code; contracts of the functions that the law reaches, one by one. No conditions beside those of the given rows. -/
import Derived.Test.YtbooehmmhbioaaaGreatDoorWaw
import Derived.Test.YtbooehmmhbioaaaGreatDoorWba
import Derived.Test.YtbooehmmhbioaaaGreatDoorWbb
set_option linter.unusedSimpArgs false
set_option linter.unusedVariables false
section
namespace Go.Proofs.Tryz
open Go Go.Av
set_option maxRecDepth 10000
set_option maxHeartbeats 1000000
variable {W0 :World}
theorem mz (t:List Pkg)(n:List UInt8):(eR (λp:Pkg=>p.name==n) t= -1∧cm t n=none)∨ ∃k p,t[k]?=some p∧cm t n=some p∧eR (λp:Pkg=>p.name==n) t=(k:Nat):=by
 rcases e7 (λp:Pkg=>p.name==n) t with⟨h1,h2⟩|⟨k,p,h1,h2,h3,h4⟩
 ·exact .inl ⟨h1,List.find?_eq_none.2 λx hx=>by simpa using h2 x hx⟩
 ·exact .inr ⟨k,p,h1,ic h1 h2 h3,h4⟩
theorem tq (s:List aE)(n:List UInt8):decide (eR (λx:aE=>x.pkg.name==n) s<0)=(bZ s n).isNone:=by
 rcases e7 (λx:aE=>x.pkg.name==n) s with⟨h1,h2⟩|⟨k,p,h1,h2,h3,h4⟩
 ·rw[h1,show bZ s n=none from List.find?_eq_none.2 λx hx=>by simpa using h2 x hx];rfl
 ·rw[h4,show bZ s n=some p from ic h1 h2 h3];exact decide_eq_false (by omega)
theorem Ff (t:List Pkg)(n:List UInt8):decide (eR (λp:Pkg=>p.name==n) t<0)=(cm t n).isNone:=by
 rcases mz t n with⟨h1,h2⟩|⟨k,p,h1,h2,h3⟩
 ·rw[h1,h2];rfl
 ·rw[h3,h2];exact decide_eq_false (by omega)
theorem FC (l:List aI)(t:List Pkg)(s:List aE)(ho:CL l)(hne: ∀x∈s,x.pkg.name≠[])(uD:s.length≤1024):ah prog W0 25 [aZ l,aH t,aQ s] (.bool (decide (cw l=0)&&Go.Av.cL l t s)):=by
 refine al [6] [8,11,13,15,17] func25 rfl rfl ntmps25 rfl rfl (.bool _) λhs σ=>?_
 have hl:=(aC (hs _ (List.mem_cons_self ..))).1
 have htl:=(aC (hs _ (List.mem_cons_of_mem _ (List.mem_cons_self ..)))).1
 have hf1:=λn=>th (W0:=W0) s n
 have hf2:=λn=>rQ (W0:=W0) t n
 simp only[go_sem,simprocAttr]
 refine ak.fn (mA l) ?_
 simp only[go_sem,simprocAttr]
 refine⟨λh0=>?_,λh0=>?_⟩
 ·rw[decide_eq_false h0]
  exact .refl _
 rw[decide_eq_true h0,Bool.true_and]
 simp only[go_sem,simprocAttr,aZ,List.length_map]
 refine ae.at [0,1,2] (.of (by kernel_rfl)) (λA=>Ext σ A.st∧l.all (c8 t s)=true) ?_ λB ⟨hst,hA⟩=>?_
 ·refine ae.upto [0,1,2,21,22] (.of (by kernel_rfl)) l.length (λi A=>A.env 23= .int .i64 i∧Ext σ A.st∧NoB (λa=>!c8 t s a) l i) 0 (Nat.zero_le _) ?_ λi B hi ⟨h23,hst,hI⟩=>?_
  ·simp only[go_sem,simprocAttr]
   exact⟨.refl _,.zero _ _⟩
  simp only[go_sem,simprocAttr,h23,List.length_map]
  refine⟨λhc=>⟨hc,?_⟩,λhc=>⟨hst,List.all_eq_true.2 λa ha=>by simpa using hI.all hc a ha⟩⟩
  obtain⟨a,ha⟩:=get_some hc
  simp only[an ha]
  have hbad:c8 t s a=false→Go.Av.cL l t s=false:=λh=>by
   unfold Go.Av.cL
   rw[show l.all (c8 t s)=false from List.all_eq_false.2 ⟨a,List.mem_of_getElem? ha,by rw[h];simp⟩]
   rfl
  have hgo:c8 t s a=true→NoB (λa=>!c8 t s a) l (i+1):=λh=>hI.succ ha (by rw[h];rfl)
  simp only[go_sem,simprocAttr,h23,gA,bB]
  refine ak.fn (hf2 a.name) ?_
  rcases mz t a.name with⟨g1,g2⟩|⟨k,p,g1,g2,g3⟩
  ·rw[g1]
   simp only[go_sem,simprocAttr,h23]
   refine⟨λh1=>?_,λh1=>⟨λh2=>⟨hc,af hc hl,hst.app _,hgo (by unfold c8;rw[if_neg h1,if_pos h2,g2];rfl)⟩,λh2=>⟨λh5=>?_,λh5=>⟨hc,af hc hl,hst.app _,hgo (by unfold c8;rw[if_neg h1,if_neg h2,if_neg h5])⟩⟩⟩⟩
   ·refine⟨.of (by kernel_rfl),ay.fnG (r:=.bool false) (λh=>(Bool.false_ne_true h).elim) ?_⟩
    simp only[go_sem,simprocAttr,h23]
    rw[hbad (by unfold c8;rw[if_pos h1,g2])]
    exact⟨.refl _,hst.app _⟩
   ·skip
    refine ak.fn (hf1 a.name) ?_
    have hfe:=tq s a.name
    simp only[go_sem,simprocAttr,h23]
    refine⟨λhq=>⟨?_,hst.app _⟩,λhq=>⟨hc,af hc hl,hst.app _,hgo ?_⟩⟩
    ·rw[hbad (by
      have e1:(bZ s a.name).isNone=true:=by rw[←hfe];exact decide_eq_true hq
      unfold c8
      rw[if_neg h1,if_neg h2,if_pos h5]
      cases he:bZ s a.name<;>simp_all)]
     exact .refl _
    ·have e1:(bZ s a.name).isNone=false:=by rw[←hfe];exact decide_eq_false hq
     unfold c8
     rw[if_neg h1,if_neg h2,if_pos h5]
     cases he:bZ s a.name<;>simp_all
  ·rw[g3]
   have hkl:=(List.getElem?_eq_some_iff.1 g1).1
   have hk0:decide ((k:Int)<0)=false:=decide_eq_false (by omega)
   simp only[go_sem,simprocAttr,h23,hk0]
   refine⟨λh1=>?_,λh1=>⟨λh2=>⟨?_,hst.app _⟩,λh2=>⟨λh5=>?_,λh5=>⟨hc,af hc hl,hst.app _,hgo (by unfold c8;rw[if_neg h1,if_neg h2,if_neg h5])⟩⟩⟩⟩
   ·simp only[go_sem,simprocAttr,h23,aH,an g1,au,List.length_map]
    refine⟨.of (by kernel_rfl),λ_=>hkl,ay.fnG (λ_=>eX p.ver a.ver) ?_⟩
    simp only[go_sem,simprocAttr,h23]
    have hmk:c8 t s a=(a.ver==[]||bb p.ver a.ver):=by unfold c8;rw[if_pos h1,g2]
    refine⟨λhq=>⟨?_,hst.app _⟩,λhq=>⟨hc,af hc hl,hst.app _,hgo ?_⟩⟩
    ·rw[hbad (by rw[hmk];revert hq;generalize (a.ver==[])=u;generalize bb p.ver a.ver=w;cases u<;>cases w<;>simp)]
     exact .refl _
    ·rw[hmk]
     revert hq
     generalize (a.ver==[])=u
     generalize bb p.ver a.ver=w
     cases u<;>cases w<;>simp
   ·rw[hbad (by unfold c8;rw[if_neg h1,if_pos h2,g2];rfl)]
    exact .refl _
   ·skip
    refine ak.fn (hf1 a.name) ?_
    have hfe:=tq s a.name
    simp only[go_sem,simprocAttr,h23]
    refine⟨λhq=>⟨?_,hst.app _⟩,λhq=>⟨hc,af hc hl,hst.app _,hgo ?_⟩⟩
    ·rw[hbad (by
      have e1:(bZ s a.name).isNone=true:=by rw[←hfe];exact decide_eq_true hq
      unfold c8
      rw[if_neg h1,if_neg h2,if_pos h5]
      cases he:bZ s a.name<;>simp_all)]
     exact .refl _
    ·have e1:(bZ s a.name).isNone=false:=by rw[←hfe];exact decide_eq_false hq
     unfold c8
     rw[if_neg h1,if_neg h2,if_pos h5]
     cases he:bZ s a.name<;>simp_all
 have hf1':=hf1
 have hhe:=HF (W0:=W0) l s ho hne uD
 unfold aZ aQ at hhe
 simp only[go_sem,simprocAttr,aQ]
 refine ak.fn hhe ?_
 simp only[go_sem,simprocAttr,List.length_map]
 obtain⟨H,hH⟩: ∃H,H=s.map (jx l):=⟨_,rfl⟩
 have hHl:H.length=s.length:=by rw[hH,List.length_map]
 rw[←hH,←hHl]
 refine ae.at [0,1,2] (.of (by kernel_rfl)) (λA=>Ext σ A.st∧s.all (gn l t)=true) ?_ λB ⟨hst,hB⟩=>?_
 ·refine ae.upto [0,1,2,67,68] (.of (by kernel_rfl)) H.length (λi A=>A.env 69= .int .i64 i∧Ext σ A.st∧NoB (λx=>!gn l t x) s i) 0 (Nat.zero_le _) ?_ λi B hi ⟨h69,hst,hI⟩=>?_
  ·simp only[go_sem,simprocAttr]
   exact⟨hst,.zero _ _⟩
  simp only[go_sem,simprocAttr,h69,List.length_map]
  refine⟨λhc=>⟨hc,?_⟩,λhc=>⟨hst,List.all_eq_true.2 λa ha=>by simpa using hI.all (by omega) a ha⟩⟩
  obtain⟨x,hx⟩:=get_some (show i<s.length by omega)
  have hx2:H[i]?=some (jx l x):=by rw[hH,List.getElem?_map,hx];rfl
  simp only[an hx2]
  obtain⟨hh,hhh⟩: ∃hh,hh=fx (aM l x.pkg.name) x.hold:=⟨_,rfl⟩
  have hxe:bw (jx l x)= .agg 56 [.agg 54 [.str x.pkg.name,.str x.pkg.ver,av x.pkg.pre,av x.pkg.dep,av x.pkg.rcm,aB x.pkg.con,aB x.pkg.brk,bW x.pkg.dF,.bool x.pkg.ess],.bool x.Bo,.bool hh]:=by rw[hhh];rfl
  rw[hxe]
  have hbad:gn l t x=false→Go.Av.cL l t s=false:=λh=>by
   unfold Go.Av.cL
   rw[show s.all (gn l t)=false from List.all_eq_false.2 ⟨x,List.mem_of_getElem? hx,by rw[h];simp⟩,Bool.and_false]
   rfl
  have hgo:gn l t x=true→NoB (λx=>!gn l t x) s (i+1):=λh=>hI.succ hx (by rw[h];rfl)
  have hae:bB ((aM l x.pkg.name).getD fQ)= .agg 83 [.int .i64 ((aM l x.pkg.name).getD fQ).kind,.str ((aM l x.pkg.name).getD fQ).name,.str ((aM l x.pkg.name).getD fQ).ver]:=rfl
  simp only[go_sem,simprocAttr,h69]
  refine ak.fn (hf2 x.pkg.name) ?_
  rcases mz t x.pkg.name with⟨g1,g2⟩|⟨k,p,g1,g2,g3⟩
  ·have hme:gn l t x= !(hh||x.pkg.ess):=by unfold gn;rw[g2,hhh]
   rw[g1]
   simp only[go_sem,simprocAttr,h69]
   refine⟨λhq=>⟨?_,hst.app _⟩,λhq=>?_⟩
   ·rw[hbad (by rw[hme,hq];rfl)]
    exact .refl _
   have hh0:hh=false:=by cases hh with|false=>rfl|true=>cases hq
   rw[hh0]
   simp only[go_sem,simprocAttr,h69]
   refine⟨.of (by kernel_rfl),ay.fnG (r:=.bool false) (λh=>(Bool.false_ne_true h).elim) ?_⟩
   simp only[go_sem,simprocAttr,h69]
   have hab:=qA (W0:=W0) l x.pkg.name
   unfold aZ at hab
   refine ak.fn hab ?_
   simp only[go_sem,simprocAttr,h69,hae,gA]
   refine⟨.of (by kernel_rfl),ay.fnG (r:=.int .i64 0) (λh=>(Bool.false_ne_true h).elim) ?_⟩
   simp only[go_sem,simprocAttr,h69]
   exact⟨by omega,af (show i<s.length by omega) (by rw[aq];omega),hst.app _,hgo (by rw[hme,hq];rfl)⟩
  ·have hme:gn l t x=((!hh||bb p.ver x.pkg.ver)&& !(decide (bs p.ver x.pkg.ver<0)&& !dw (aM l x.pkg.name))):=by unfold gn;rw[g2,hhh]
   have hkl:=(List.getElem?_eq_some_iff.1 g1).1
   have hk0:decide ((k:Int)<0)=false:=decide_eq_false (by omega)
   rw[g3]
   simp only[go_sem,simprocAttr,h69,hk0,aH,an g1,au,List.length_map]
   refine⟨.of (by kernel_rfl),λ_=>hkl,ay.fnG (λ_=>eX p.ver x.pkg.ver) ?_⟩
   simp only[go_sem,simprocAttr,h69,hk0]
   refine⟨λhq=>⟨?_,hst.app _⟩,λhq=>?_⟩
   ·rw[hbad (by rw[hme];revert hq;generalize bb p.ver x.pkg.ver=w;cases hh<;>cases w<;>simp)]
    exact .refl _
   have hab:=qA (W0:=W0) l x.pkg.name
   unfold aZ at hab
   refine ak.fn hab ?_
   simp only[go_sem,simprocAttr,h69,hae,gA,hk0,aH,an g1,au,List.length_map]
   refine⟨.of (by kernel_rfl),hkl,ay.fnG (λ_=>jZ p.ver x.pkg.ver) ?_⟩
   simp only[go_sem,simprocAttr,h69,nQ]
   have hex:(!dw (aM l x.pkg.name))=(((aM l x.pkg.name).getD fQ).kind !=1||((aM l x.pkg.name).getD fQ).ver==[]):=by
    cases aM l x.pkg.name with
    |none=>rfl
    |some a=>
     simp only[dw,Option.getD_some,bne]
     generalize (a.kind==1)=u
     generalize (a.ver==[])=w
     cases u<;>cases w<;>rfl
   rw[hex]at hme
   have hq':(!hh||bb p.ver x.pkg.ver)=true:=by revert hq;generalize bb p.ver x.pkg.ver=w;cases hh<;>cases w<;>simp
   rw[hq',Bool.true_and]at hme
   refine⟨λhq2=>⟨?_,hst.app _⟩,λhq2=>⟨by omega,af (show i<s.length by omega) (by rw[aq];omega),hst.app _,hgo ?_⟩⟩
   ·rw[hbad (by rw[hme,hq2];rfl)]
    exact .refl _
   ·rw[hme,hq2];rfl
 have hm1:Go.Av.cL l t s=(!iZ l||jw l t s):=by unfold Go.Av.cL;rw[hA,hB];rfl
 have hhas:=xE (W0:=W0) l 3
 unfold aZ at hhas
 simp only[go_sem,simprocAttr]
 refine ak.fn hhas ?_
 rw[show(l.any λa=>a.kind==3)=iZ l from rfl]
 simp only[go_sem,simprocAttr]
 refine cp.at [] (by kernel_rfl) (λA=>Ext σ A.st∧Go.Av.cL l t s=true) (λhpl=>?_) (λhpl=>?_) λB2 ⟨hst2,hM⟩=>?_
 ·rw[hpl]at hm1
  have hab: ∀n:List UInt8,ah prog W0 69 [.sl 83 (l.map bB),.str n] (.agg 83 [.int .i64 (kindOf (aM l n)),.str ((aM l n).getD fQ).name,.str ((aM l n).getD fQ).ver]):=λn=>by
   have h:=qA (W0:=W0) l n
   have e:bB ((aM l n).getD fQ)= .agg 83 [.int .i64 (kindOf (aM l n)),.str ((aM l n).getD fQ).name,.str ((aM l n).getD fQ).ver]:=by
    cases aM l n<;>rfl
   rw[e]at h
   exact h
  unfold aH at hf2
  unfold aQ at hf1
  simp only[go_sem,simprocAttr,aH,List.length_map]
  refine ae.at [0,1,2] (.of (by kernel_rfl)) (λA=>Ext σ A.st∧(t.all λp=>(bZ s p.name).isSome||kindOf (aM l p.name)==1)=true) ?_ λB3 ⟨hst,hC⟩=>?_
  ·refine ae.upto [0,1,2,135,136] (.of (by kernel_rfl)) t.length (λi A=>A.env 137= .int .i64 i∧Ext σ A.st∧NoB (λp:Pkg=>(bZ s p.name).isNone&&kindOf (aM l p.name) !=1) t i) 0 (Nat.zero_le _) ?_ λi B3 hi ⟨h137,hst,hI⟩=>?_
   ·simp only[go_sem,simprocAttr]
    exact⟨hst,.zero _ _⟩
   simp only[go_sem,simprocAttr,h137,List.length_map]
   refine⟨λhc=>⟨hc,?_⟩,λhc=>⟨hst,List.all_eq_true.2 λa ha=>?_⟩⟩
   ·obtain⟨p,hp⟩:=get_some hc
    simp only[an hp]
    have hfe:=tq s p.name
    simp only[go_sem,simprocAttr,h137,au]
    refine ak.fn (hf1 p.name) ?_
    simp only[go_sem,simprocAttr,h137]
    refine ay.fnG (λ_=>hab p.name) ?_
    simp only[go_sem,simprocAttr,h137]
    rw[hfe]
    refine⟨λhq=>⟨?_,hst.app _⟩,λhq=>⟨hc,af hc htl,hst.app _,hI.succ hp (by simpa using hq)⟩⟩
    have hM:Go.Av.cL l t s=false:=by
     rw[hm1,Bool.not_true,Bool.false_or]
     unfold jw
     rw[show(t.all λp=>(bZ s p.name).isSome||kindOf (aM l p.name)==1)=false from List.all_eq_false.2 ⟨p,List.mem_of_getElem? hp,by revert hq;cases bZ s p.name<;>simp⟩]
     rfl
    rw[hM]
    exact .refl _
   ·have:=hI.all hc a ha
    revert this
    cases bZ s a.name<;>simp
  simp only[go_sem,simprocAttr,List.length_map]
  refine ae.at [] (.of (by kernel_rfl)) (λA=>Ext σ A.st∧(s.all λx=>(cm t x.pkg.name).isSome||kindOf (aM l x.pkg.name)==2)=true) ?_ λB4 ⟨hst,hD⟩=>?_
  ·refine ae.upto [0,1,155,156] (.of (by kernel_rfl)) s.length (λi A=>A.env 157= .int .i64 i∧Ext σ A.st∧NoB (λx:aE=>(cm t x.pkg.name).isNone&&kindOf (aM l x.pkg.name) !=2) s i) 0 (Nat.zero_le _) ?_ λi B4 hi ⟨h157,hst,hI⟩=>?_
   ·simp only[go_sem,simprocAttr]
    exact⟨hst,.zero _ _⟩
   simp only[go_sem,simprocAttr,h157,List.length_map]
   refine⟨λhc=>⟨hc,?_⟩,λhc=>⟨hst,List.all_eq_true.2 λa ha=>?_⟩⟩
   ·obtain⟨x,hx⟩:=get_some hc
    simp only[an hx]
    have hfe:=Ff t x.pkg.name
    simp only[go_sem,simprocAttr,h157,bw,au,jt]
    refine ak.fn (hf2 x.pkg.name) ?_
    simp only[go_sem,simprocAttr,h157]
    refine ay.fnG (λ_=>hab x.pkg.name) ?_
    simp only[go_sem,simprocAttr,h157]
    rw[hfe]
    refine⟨λhq=>⟨?_,hst.app _⟩,λhq=>⟨hc,af hc (by rw[aq];omega),hst.app _,hI.succ hx (by simpa using hq)⟩⟩
    have hM:Go.Av.cL l t s=false:=by
     rw[hm1,Bool.not_true,Bool.false_or]
     unfold jw
     rw[show(s.all λx=>(cm t x.pkg.name).isSome||kindOf (aM l x.pkg.name)==2)=false from List.all_eq_false.2 ⟨x,List.mem_of_getElem? hx,by revert hq;cases cm t x.pkg.name<;>simp⟩,Bool.and_false]
    rw[hM]
    exact .refl _
   ·have:=hI.all hc a ha
    revert this
    cases cm t a.pkg.name<;>simp
  simp only[go_sem,simprocAttr]
  refine⟨hst,?_⟩
  rw[hm1,Bool.not_true,Bool.false_or]
  unfold jw
  rw[hC,hD]
  rfl
 ·simp only[go_sem,simprocAttr]
  exact⟨hst,by rw[hm1,hpl];rfl⟩
 simp only[go_sem,simprocAttr]
 rw[hM]
 exact⟨.refl _,hst2⟩
end Go.Proofs.Tryz
end
section
namespace Go.Av
open Go.Proofs.Tryz
theorem Cl (l:List (List Nat×List Nat))(x:List Nat×List Nat):uN (l++[x])=rn x (uN l):=by rw[uN,List.foldl_append];rfl
theorem nW (l:List (List Nat×List Nat)):(uN l).Perm l:=by
 have key: ∀(l o:List (List Nat×List Nat)),(l.foldl (λo p=>rn p o) o).Perm (o++l):=λl=>by
  induction l with
  |nil=>intro o;simp
  |cons p l ih=>
   intro o
   refine(ih _).trans ?_
   refine((qK p o).append_right l).trans ?_
   exact List.perm_middle.symm
 have h:=key l []
 rw[List.nil_append]at h
 exact h
theorem db.Gd {σ:ab}{v:AV}{e:TypeId}{xs:List AV}(h:db σ v e xs){a:Nat}{x:AV}(hx:xs[a]?=some x): ∃id off,v= .row e id off xs.length∧Av.look σ id (off+a) []=some x∧live σ id:=by
 rcases h with⟨_,rfl⟩|⟨id,off,m,zs,rfl,g1,g2,g3⟩
 ·simp at hx
 have hm:m=xs.length:=(db.zC (σ:=σ) (e:=e) (id:=id) g2 g3).symm
 refine⟨id,off,by rw[hm],?_,by rw[az g1];trivial⟩
 have hlt:=(List.getElem?_eq_some_iff.1 hx).1
 have hz:zs[off+a]?=some x:=by
  rw[g3,List.getElem?_take_of_lt (by omega),List.getElem?_drop]at hx
  exact hx
 unfold Av.look
 rw[g1]
 simp only[hz,Option.bind_some]
 rfl
@[go_sem] theorem XN (gd:Option Bool)(l:List Nat):okM gd (dT l)=True:=eq_true trivial
@[go_sem] theorem XD (l:List Nat):unm (dT l)=dT l:=rfl
@[go_sem] theorem TU (gd:Option Bool)(l:List Nat):okM gd (bk l)=True:=eq_true trivial
@[go_sem] theorem Vy (l:List Nat):unm (bk l)=bk l:=rfl
theorem Ea.ig {σ st':ab}{x v w:AV}{e e':TypeId}{zs ys:List AV}(ha:Ea σ x e zs v st')(h:db σ w e' ys)(hd: ∀j∈Av.aO w,j∉Av.aO x):db st' w e' ys:=
 h.ei λj hj=>ha.fr.old j (h.lt j hj) (hd j hj)
theorem Ea.wG {σ st':ab}{x v:AV}{e:TypeId}{zs:List AV}{n:Nat}(ha:Ea σ x e zs v st')(hx: ∀j∈Av.aO x,n≤j)(hn:n≤σ.length):(∀j∈Av.aO v,n≤j)∧n≤st'.length:=
 ⟨λj hj=>(ha.aO j hj).elim (hx j) (Nat.le_trans hn),Nat.le_trans hn ha.fr.len⟩
theorem dQ.We {A:aa}{σ:ab}{v:AV}{e:TypeId}{xs:List AV}{d:Nat}{x:Exit}{R:aa→Prop}(h:dQ σ A.st v e xs)(hd:A.env d=v)
  (k: ∀B:aa,cT (B.env d) (.sl e xs)→(∀j,j≠d→B.env j=A.env j)→Ext σ B.st→(∀id,Dn v≠some id→B.st[id]?=A.st[id]?)→bV R x B):bV R x A:=by
 rcases h.row with⟨rfl,rfl⟩|rfl|⟨id,off,m,zs,rfl,h1,h2,rfl⟩
 ·exact k A (by rw[hd];exact .aA _) (λ_ _=>rfl) h.ext λ_ _=>rfl
 ·exact k A (by rw[hd];exact .lit _ _) (λ_ _=>rfl) h.ext λ_ _=>rfl
 ·refine bV.frz d hd h1 h2 (k _ ?_ (λj hj=>?_) ?_ λi hi=>?_)
  ·simp[aa.upd,aa.ar]
   exact .refl _
  ·simp[aa.upd,aa.ar,hj]
  ·exact h.ext.set (h.low _ rfl) _
  ·have:i≠id:=λe=>hi (by rw[e];rfl)
   show(A.st.set id none)[i]?=_
   rw[List.getElem?_set_ne (λe=>this e.symm)]
theorem jo {all:List Pkg}{N:Nat→Nat}(hN:NOk all N): ∀{f i:Nat} {t:List Nat},i≤all.length→all.length<f+i→(bQ all f i t).length≤N i
 |0,i,t,hi,hf=>by omega
 |f+1,i,t,hi,hf=>by
  rw[bQ]
  split
  ·rename_i e
   have:=hN.one
   rw[←e]at this
   split<;>simp<;>omega
  ·obtain⟨p,hp⟩:=get_some (show i<all.length by omega)
   obtain⟨b1,b2⟩:=cb hp
   have hs:=hN.step i p hp
   have h2:=Aq (W:=N (aD all i)) (l:=List.range' i (aD all i-i)) (g:=λk=>bQ all f (aD all i) (t++[k])) (λk=>jo hN b2 (by omega))
   have h3:=jo hN (f:=f) (t:=t) b2 (by omega)
   rw[List.length_range']at h2
   rw[List.length_append]
   rw[Nat.succ_mul]at hs
   omega
end Go.Av
namespace Go.Proofs.Tryz
open Go Go.Av
set_option maxRecDepth 10000
set_option maxHeartbeats 1000000
variable {W0 :World}
theorem Ib {a b:List Nat}(ha:a.length=5)(hb:b.length=5):cB prog .eql 39 (bk a) (bk b)=True:=by
 unfold bk
 simp only[go_sem,simprocAttr,oU ha hb]
 try trivial
theorem IQ {a b:List Nat}(ha:a.length=5)(hb:b.length=5):cr prog .eql 39 (bk a) (bk b)= .bool (decide (a=b)):=by
 unfold bk
 simp only[go_sem,simprocAttr,oU ha hb]
 rfl
theorem GR (all:List Pkg)(s:List aE)(l:List aI)(H:D5 all s l)(hq:cw l=0)(hse: ∀x∈s,x.pkg.name≠[]){N:Nat→Nat}(hN:NOk all N)(hN0:N 0≤1000):
  ah prog W0 13 [aH all,aQ s,aZ l] (.tup [.sl 37 ((gP all s l (de l)).map λx=>dT x.2),.sl 39 ((gP all s l (de l)).map λx=>bk x.1)]):=by
 refine kY [6,7] [14,2000075,2000078,2000082,2000009,2000086,2000089,2000093,2000010] func13 rfl rfl ntmps13 rfl rfl (.vo (eE (λ_=>eE (λ_=>.int _ _) _) _) (eE (λ_=>uK _) _)) λhs σ=>?_
 obtain⟨h24,hmp⟩:=rZ H.h0
 obtain⟨hqne,hq6,hqm,hqn⟩:=Dz hq
 have ht1:elT prog 33=some 37:=by kernel_rfl
 have ht2:elT prog 34=some 39:=by kernel_rfl
 simp only[go_sem,simprocAttr]
 refine ak.fn (xE l 3) ?_
 simp only[go_sem,simprocAttr]
 refine ay.fnG (λ_=>xE l 4) ?_
 simp only[go_sem,simprocAttr]
 refine ak.fn (Ax all h24 hN hN0) ?_
 obtain⟨Ws,hWs⟩: ∃Ws,Ws=CS all:=⟨_,rfl⟩
 have hWl:Ws.length≤1000:=by rw[hWs];exact Nat.le_trans (jo hN (Nat.zero_le _) (by omega)) hN0
 obtain⟨gs,hgs⟩: ∃gs:List (List Nat)→List (List Nat×List Nat),gs=λWs=>uN ((Ws.filter λt=>Go.Av.cL l (atL all t) s).map λt=>(kL all s (atL all t) (de l),t)):=⟨_,rfl⟩
 have hfin:gs Ws=gP all s l (de l):=by rw[hgs,hWs];rfl
 rw[←hfin,←hWs]
 have hup:(AV.bool ((l.any λa=>a.kind==3)||l.any λa=>a.kind==4))= .bool (de l):=rfl
 simp only[go_sem,simprocAttr,List.length_map]
 refine ae.at [0,1,2,8,23,24] (.of (by kernel_rfl)) (λA=>∃ v w,A.env 9=v∧A.env 10=w∧dD σ A.st v 37 ((gs Ws).map λx=>dT x.2)∧dD σ A.st w 39 ((gs Ws).map λx=>bk x.1)∧ ∀j∈aO v,j∉aO w) ?_ λB ⟨v,w,h9,h10,hv,hw,hvw⟩=>?_
 ·refine ae.upto [0,1,2,8,23,24] (.of (by kernel_rfl)) Ws.length (λi A=>∃ v w,A.env 9=v∧A.env 10=w∧A.env 25= .int .i64 i∧dD σ A.st v 37 ((gs (Ws.take i)).map λx=>dT x.2)∧dD σ A.st w 39 ((gs (Ws.take i)).map λx=>bk x.1)∧ ∀j∈aO v,j∉aO w) 0 (Nat.zero_le _) ?_ λi B hi ⟨v,w,h9,h10,h25,hv,hw,hvw⟩=>?_
  ·simp only[go_sem,simprocAttr]
   refine⟨_,_,rfl,rfl,?_,?_,λj hj=>by simp[aO]at hj⟩
   ·rw[hgs];exact dD.nil (.refl _) _
   ·rw[hgs];exact dD.nil (.refl _) _
  have hok:=hv.ej.ok
  have hun:=hv.ej.un
  have hok2:=hw.ej.ok
  have hun2:=hw.ej.un
  simp only[go_sem,simprocAttr,h9,h10,h25,hok,hun,hok2,hun2,List.length_map]
  refine⟨λhc=>⟨hc,?_⟩,λhc=>?_⟩
  ·obtain⟨t,ht⟩:=get_some hc
   have htW:t∈bQ all (all.length+1) 0 []:=by
    have:=List.mem_of_getElem? ht
    rw[hWs]at this
    exact this
   obtain⟨m1,m2⟩:=j2 htW (Nat.zero_le _) (by simp) (by simp)
   obtain⟨s1,s2⟩:=wy htW (Nat.zero_le _) (by simp[atL]) (by omega)
   simp only[go_sem,simprocAttr,an ht,h9,h10,h25,hok,hun,hok2,hun2]
   refine ak.fn (BK all t m1 (by omega)) ?_
   simp only[go_sem,simprocAttr,h9,h10,h25,hok,hun,hok2,hun2]
   refine ak.fn (FC l (atL all t) s (Lg hqn) hse (by have:=H.uD;omega)) ?_
   rw[hq,decide_eq_true rfl,Bool.true_and]
   have hsn:gs (Ws.take (i+1))=if Go.Av.cL l (atL all t) s=true then rn (kL all s (atL all t) (de l),t) (gs (Ws.take i))else gs (Ws.take i):=by
    rw[hgs]
    show uN _=_
    rw[aj ht,List.filter_append,List.map_append,List.filter_cons,List.filter_nil]
    split
    ·rw[List.map_cons,List.map_nil,Cl]
    ·rw[List.map_nil,List.append_nil]
   simp only[go_sem,simprocAttr,h9,h10,h25,hok,hun,hok2,hun2]
   refine⟨λhm=>?_,λhm=>?_⟩
   ·rw[hsn,if_neg (by rw[hm];simp)]
    exact⟨hc,_,_,rfl,rfl,af hc (by rw[aq];omega),hv,hw,hvw⟩
   have hL:=rI.1 s2
   refine ak.fn (Hb (atL all t) s all (de l) (by have:=Da all t;omega) h24 H.uD (λp hp=>(eY (hmp p (s1.subset hp))).rcm.1) (by rw[List.Nodup,List.pairwise_map];exact hL.pair.imp λh=>h.1) H.hU.BW) ?_
   rw[if_pos hm]at hsn
   obtain⟨c,hcc⟩: ∃c,c=kL all s (atL all t) (de l):=⟨_,rfl⟩
   have hc5:c.length=5:=by rw[hcc];exact ib _ _ _ _ _ _
   rw[←hcc]at hsn ⊢
   obtain⟨o,hoo⟩: ∃o,o=gs (Ws.take i):=⟨_,rfl⟩
   rw[←hoo]at hv hw hsn
   have hop:o.Perm (((Ws.take i).filter λt=>Go.Av.cL l (atL all t) s).map λt=>(kL all s (atL all t) (de l),t)):=by
    rw[hoo,hgs]
    exact nW _
   have hol:o.length≤1000:=by
    rw[hop.length_eq,List.length_map]
    have:=List.length_filter_le (λt=>Go.Av.cL l (atL all t) s) (Ws.take i)
    rw[List.length_take]at this
    omega
   have ho5: ∀x∈o,x.1.length=5:=λx hx=>by
    obtain⟨u,_,rfl⟩:=List.mem_map.1 (hop.subset hx)
    exact ib _ _ _ _ _ _
   simp only[go_sem,simprocAttr,h9,h10,h25,hok,hun,hok2,hun2]
   have hv':=hv.more [none]
   have hw':=hw.more [none]
   have hlv:=hv.row.st.len
   have hlvC:=λt=>hv.row.st.fP prog t
   rw[List.length_map]at hlv
   obtain⟨bf,hbf⟩: ∃bf:List Nat×List Nat→Bool,bf=λy=>ltP y (c,t):=⟨_,rfl⟩
   refine⟨by kernel_rfl,ae.at [0,1,2,8,9,10,12,14,23,24,25] (.of (by kernel_rfl)) (λA=>∃ a:Nat,A.env 15= .int .i64 a∧a≤o.length∧A.st=B.st++[none]∧(∀k x,k<a→o[k]?=some x→bf x=true)∧(∀x,o[a]?=some x→bf x=false)) ?_ λC ⟨a,h15,hle,hst,hI,hJ⟩=>?_⟩
   ·refine ae.upto [0,1,2,8,9,10,12,14,23,24,25] (.of (by kernel_rfl)) o.length (λa A=>A.env 15= .int .i64 a∧A.st=B.st++[none]∧(∀k x,k<a→o[k]?=some x→bf x=true)) 0 (Nat.zero_le _) ?_ λa C hle ⟨h15,hst,hI⟩=>?_
    ·simp only[go_sem,simprocAttr]
     done
    by_cases hlt:a<o.length
    ·obtain⟨x,hx⟩:=get_some hlt
     obtain⟨iv,fv,rfl,lv1,lv2⟩:=hv'.row.Gd (a:=a) (x:=dT x.2) (by rw[List.getElem?_map,hx];rfl)
     obtain⟨iw,fw,rfl,lw1,lw2⟩:=hw'.row.Gd (a:=a) (x:=bk x.1) (by rw[List.getElem?_map,hx];rfl)
     rw[←hst]at lv1 lv2 lw1 lw2
     simp only[go_sem,simprocAttr,h9,h10,h15,hok,hun,hok2,hun2,List.length_map,lv1,lv2,lw1,lw2,hlt]
     have hx5:=ho5 x (List.mem_of_getElem? hx)
     refine⟨.of (by kernel_rfl),ay.fnG (λ_=>H0 x.1 c hx5 hc5) ?_⟩
     have q1:=Ib hx5 hc5
     have q2:=IQ hx5 hc5
     simp only[go_sem,simprocAttr,h9,h10,h15,hok,hun,hok2,hun2,List.length_map,lv1,lv2,lw1,lw2,hlt,q1,q2]
     refine ay.fnG (λ_=>FE x.2 t) ?_
     simp only[go_sem,simprocAttr,h9,h10,h15,hok,hun,hok2,hun2,List.length_map,lv1,lv2,lw1,lw2,hlt,q1,q2]
     have hb:bf x=(lexB x.1 c||decide (x.1=c)&&dG x.2 t):=by
      rw[hbf]
      show ltP x (c,t)=_
      unfold ltP
      rw[show(x.1==c)=decide (x.1=c) by rw[Bool.eq_iff_iff];simp]
     rw[←hb]
     refine⟨λhb1=>⟨af hlt (by rw[aq];omega),hst,λk y hk hy=>?_⟩,λhb0=>⟨a,rfl,hle,hst,hI,λy hy=>?_⟩⟩
     ·rcases Nat.lt_succ_iff_lt_or_eq.1 hk with h|rfl
      ·exact hI k y h hy
      ·rw[hx]at hy;cases hy;exact hb1
     ·rw[hx]at hy;cases hy;exact hb0
    ·simp only[go_sem,simprocAttr,h9,h10,h15,hok,hun,hok2,hun2,hlv,hlvC,hlt]
     refine⟨.of (by kernel_rfl),ay.fnG (r:=.int .i64 0) (λh=>(Bool.false_ne_true h).elim) ?_⟩
     simp only[go_sem,simprocAttr,h9,h10,h15,hok,hun,hok2,hun2,hlv,hlvC,hlt]
     refine ay.fnG (r:=.int .i64 0) (λh=>(Bool.false_ne_true h).elim) ?_
     simp only[go_sem,simprocAttr,h9,h10,h15,hok,hun,hok2,hun2,hlv,hlvC,hlt,qf]
     exact⟨a,rfl,hle,hst,hI,λx hx=>by rw[List.getElem?_eq_none (by omega)]at hx;cases hx⟩
   have hrv:db C.st v 37 (o.map λx=>dT x.2):=by rw[hst];exact hv'.row
   have hrw:db C.st w 39 (o.map λx=>bk x.1):=by rw[hst];exact hw'.row
   have lev:a≤(o.map λx=>dT x.2).length:=by simpa using hle
   have lew:a≤(o.map λx=>bk x.1).length:=by simpa using hle
   have cv1:=hrv.cut (Nat.zero_le a) lev
   have cv2:=hrv.cut lev (Nat.le_refl _)
   have cw1:=hrw.cut (Nat.zero_le a) lew
   have cw2:=hrw.cut lew (Nat.le_refl _)
   rw[List.length_map]at cv2 cw2
   have q1:=cv1.st.ok
   have q2:=cv1.st.un
   have q3:=cv2.st.ok
   have q4:=cv2.st.un
   have r1:=cw1.st.ok
   have r2:=cw1.st.un
   have r3:=cw2.st.ok
   have r4:=cw2.st.un
   have fk: ∀w u:AV,∀n,(∀j∈aO w,j<n)→(∀j∈aO u,n≤j)→ ∀j∈aO w,j∉aO u:=λw u n h1 h2 j hj hj2=>by
    have:=h1 j hj
    have:=h2 j hj2
    omega
   simp only[go_sem,simprocAttr,h9,h10,h15,h25,hok,hun,hok2,hun2,hrv.F1,hrv.kT ht1,hle,List.length_map,q1,q2,q3,q4]
   refine⟨.of (by kernel_rfl),Nat.zero_le _,by kernel_rfl,bI.oz (σ:=C.st) (by simp only[go_sem,simprocAttr]) 1048576 (by kernel_rfl) (.inl ⟨rfl,rfl⟩) cv1.st.read (by simp;omega) λv1 σ1 a1=>?_⟩
   have p1:=a1.row.st.ok
   have p2:=a1.row.st.un
   obtain⟨b1,n1⟩:=a1.wG (n:=C.st.length) (by simp[aO]) (Nat.le_refl _)
   have kv1:=a1.ig cv2 (by simp[aO])
   have kw1:=a1.ig hrw (by simp[aO])
   simp only[go_sem,simprocAttr,h9,h10,h15,h25,hok,hun,hok2,hun2,q1,q2,q3,q4,p1,p2]
   refine bI.oz (σ:=σ1) (by simp only[go_sem,simprocAttr]) 1048576 (by kernel_rfl) a1.row (.lit _ _ _) (by simp;omega) λv2 σ2 a2=>?_
   have p3:=a2.row.st.ok
   have p4:=a2.row.st.un
   obtain⟨b2,n2⟩:=a2.wG b1 n1
   have kv2:=a2.ig kv1 (fk _ _ _ cv2.lt b1)
   have kw2:=a2.ig kw1 (fk _ _ _ hrw.lt b1)
   simp only[go_sem,simprocAttr,h9,h10,h15,h25,hok,hun,hok2,hun2,q1,q2,q3,q4,p1,p2,p3,p4]
   refine bI.oz (σ:=σ2) (by simp only[go_sem,simprocAttr]) 1048576 (by kernel_rfl) a2.row kv2.st.read (by simp;omega) λv3 σ3 a3=>?_
   have p5:=a3.row.st.ok
   have p6:=a3.row.st.un
   obtain⟨b3,n3⟩:=a3.wG b2 n2
   have kw3:=a3.ig kw2 (fk _ _ _ hrw.lt b2)
   simp only[go_sem,simprocAttr,h9,h10,h15,h25,hok,hun,hok2,hun2,p1,p2,p3,p4,p5,p6,kw3.F1,kw3.kT ht2,hle,List.length_map,r1,r2,r3,r4]
   have dw1:=kw3.cut (Nat.zero_le a) lew
   have dw2:=kw3.cut lew (Nat.le_refl _)
   rw[List.length_map]at dw2
   have lt3:=a3.row.lt
   refine⟨.of (by kernel_rfl),Nat.zero_le _,by kernel_rfl,bI.oz (σ:=σ3) (by simp only[go_sem,simprocAttr]) 1048576 (by kernel_rfl) (.inl ⟨rfl,rfl⟩) dw1.st.read (by simp;omega) λw1 σ4 a4=>?_⟩
   have p7:=a4.row.st.ok
   have p8:=a4.row.st.un
   obtain⟨b4,n4⟩:=a4.wG (n:=σ3.length) (by simp[aO]) (Nat.le_refl _)
   have kd4:=a4.ig dw2 (by simp[aO])
   have kv4:=a4.ig a3.row (by simp[aO])
   simp only[go_sem,simprocAttr,h9,h10,h15,h25,hok,hun,hok2,hun2,r1,r2,r3,r4,p5,p6,p7,p8]
   refine bI.oz (σ:=σ4) (by simp only[go_sem,simprocAttr]) 1048576 (by kernel_rfl) a4.row (.lit _ _ _) (by simp;omega) λw2 σ5 a5=>?_
   have p9:=a5.row.st.ok
   have p10:=a5.row.st.un
   obtain⟨b5,n5⟩:=a5.wG b4 n4
   have kd5:=a5.ig kd4 (fk _ _ _ dw2.lt b4)
   have kv5:=a5.ig kv4 (fk _ _ _ lt3 b4)
   simp only[go_sem,simprocAttr,h9,h10,h15,h25,hok,hun,hok2,hun2,r1,r2,r3,r4,p5,p6,p7,p8,p9,p10]
   refine bI.oz (σ:=σ5) (by simp only[go_sem,simprocAttr]) 1048576 (by kernel_rfl) a5.row kd5.st.read (by simp;omega) λw3 σ6 a6=>?_
   have p11:=a6.row.st.ok
   have p12:=a6.row.st.un
   obtain⟨b6,n6⟩:=a6.wG b5 n5
   have kv6:=a6.ig kv5 (fk _ _ _ lt3 b5)
   simp only[go_sem,simprocAttr,h9,h10,h15,h25,hok,hun,hok2,hun2,p5,p6,p7,p8,p9,p10,p11,p12]
   have hx:Ext σ C.st:=by rw[hst];exact hv'.ext
   have fv:=(((dD.nil hx 37).app a1).app a2).app a3
   have fw:=(((dD.nil fv.ext 39).app a4).app a5).app a6
   have he:o.takeWhile bf++(c,t)::o.dropWhile bf=o.take a++(c,t)::o.drop a:=by rw[(eL hI hJ).1,(eL hI hJ).2]
   have hn2:gs (Ws.take (i+1))=o.take a++(c,t)::o.drop a:=by
    rw[hsn,←he,hbf];rfl
   refine⟨hc,v3,w3,rfl,rfl,af hc (by rw[aq];omega),?_,?_,fk _ _ _ lt3 b6⟩
   ·refine⟨?_,fw.ext,fv.low⟩
    rw[hn2]
    have e1:(o.take a++(c,t)::o.drop a).map (λx=>dT x.2)=([]++(((o.map λx=>dT x.2).drop 0).take (a-0)))++[dT t]++(((o.map λx=>dT x.2).drop a).take (o.length-a)):=by
     rw[List.take_of_length_le (l:=(o.map λx=>dT x.2).drop a) (by simp)]
     simp[List.map_take,List.map_drop]
    rw[e1]
    exact kv6
   ·rw[hn2]
    have e1:(o.take a++(c,t)::o.drop a).map (λx=>bk x.1)=([]++(((o.map λx=>bk x.1).drop 0).take (a-0)))++[bk c]++(((o.map λx=>bk x.1).drop a).take (o.length-a)):=by
     rw[List.take_of_length_le (l:=(o.map λx=>bk x.1).drop a) (by simp)]
     simp[List.map_take,List.map_drop]
    rw[e1]
    exact fw
  ·rw[List.take_of_length_le hc]at hv hw
   exact⟨_,_,rfl,rfl,hv,hw,hvw⟩
 simp only[go_sem,simprocAttr,h9,h10,hv.ej.ok,hv.ej.un,hw.ej.ok,hw.ej.un]
 refine dQ.We (d:=6) hv.ej (by simp only[go_sem,simprocAttr]) λB1 g1 g2 g3 g4=>?_
 have hw1:db B1.st w 39 _:=hw.row.ei λj hj=>by
  refine g4 j λh=>hvw j ?_ hj
  cases v<;>simp[Dn]at h
  subst h
  simp[aO]
 refine dQ.We (d:=7) (v:=w) ⟨hw1.st,g3,hw.ej.low⟩ (by rw[g2 7 (by decide)];simp only[go_sem,simprocAttr]) λB2 k1 k2 k3 k4=>?_
 exact bV.ret ⟨gV (by rw[k2 6 (by decide)];exact g1) k1,k3⟩
end Go.Proofs.Tryz
end
section
namespace Go.Av
open Go.Proofs.Tryz
def pN (all:List Pkg):Nat→Nat→Nat
 |0,_=>1
 |f+1,i=>if i=all.length then 1 else(aD all i-i+1)*pN all f (aD all i)
theorem MD {all:List Pkg}: ∀{f g i:Nat},i≤all.length→all.length-i≤f→all.length-i≤g→pN all f i=pN all g i
 |0,0,_,_,_,_=>rfl
 |0,g+1,i,hi,h1,_=>by
  have e:i=all.length:=by omega
  rw[pN,pN,if_pos e]
 |f+1,0,i,hi,_,h2=>by
  have e:i=all.length:=by omega
  rw[pN,pN,if_pos e]
 |f+1,g+1,i,hi,h1,h2=>by
  rw[pN,pN]
  by_cases e:i=all.length
  ·rw[if_pos e,if_pos e]
  ·rw[if_neg e,if_neg e]
   obtain⟨p,hp⟩:=get_some (show i<all.length by omega)
   obtain⟨b1,b2⟩:=cb hp
   rw[MD (f:=f) (g:=g) b2 (by omega) (by omega)]
def vD (all:List Pkg)(i:Nat):Nat:=pN all (all.length-i) i
theorem Ai (all:List Pkg):vD all all.length=1:=by rw[vD,Nat.sub_self,pN]
theorem wg {all:List Pkg}{i:Nat}{p:Pkg}(hp:all[i]?=some p):vD all i=(aD all i-i+1)*vD all (aD all i):=by
 have hi:=(List.getElem?_eq_some_iff.1 hp).1
 obtain⟨b1,b2⟩:=cb hp
 rw[vD,vD,show all.length-i=(all.length-i-1)+1 by omega,pN,if_neg (by omega),MD (f:=all.length-i-1) (g:=all.length-aD all i) b2 (by omega) (by omega)]
theorem Df (all:List Pkg):NOk all (vD all):=⟨by rw[Ai];exact Nat.le_refl _,λi p hp=>by rw[wg hp];exact Nat.le_refl _⟩
theorem Af {most n:Nat}: ∀{r:List Pkg} {p:Pkg} {k:Nat},pk most (p::r) n k=if most<n*(k+((p::r).takeWhile λq=>q.name==p.name).length+1)then false else pk most ((p::r).drop ((p::r).takeWhile λq=>q.name==p.name).length) (n*(k+((p::r).takeWhile λq=>q.name==p.name).length+1)) 0
 |[],p,k=>by
  rw[pk,List.takeWhile_cons_of_pos (by simp)]
  simp
 |q::r,p,k=>by
  rw[pk,List.takeWhile_cons_of_pos (by simp),List.head?_cons,Option.map_some]
  by_cases h:q.name=p.name
  ·rw[if_pos (by rw[h]),Af,h,List.length_cons,List.drop_succ_cons]
   rw[show k+1+((q::r).takeWhile λq=>q.name==p.name).length+1=k+(((q::r).takeWhile λq=>q.name==p.name).length+1)+1 by omega]
  ·rw[if_neg (λe=>h (Option.some.inj e)),List.takeWhile_cons_of_neg (by simpa using h)]
   simp
theorem C8 {all:List Pkg}{most:Nat}: ∀{m i n:Nat},all.length-i≤m→i≤all.length→n≤most→pk most (all.drop i) n 0=true→n*vD all i≤most
 |m,i,n,hm,hi,hn,h=>by
  by_cases e:i=all.length
  ·subst e
   rw[Ai,Nat.mul_one]
   exact hn
  obtain⟨p,hp⟩:=get_some (show i<all.length by omega)
  obtain⟨b1,b2⟩:=cb hp
  have hd:all.drop i=p::all.drop (i+1):=by
   rw[←List.getElem_cons_drop (show i<all.length by omega),(List.getElem?_eq_some_iff.1 hp).2]
  have hr:aD all i=i+((all.drop i).takeWhile λq=>q.name==p.name).length:=by simp[aD,hp]
  rw[hd,Af,←hd]at h
  split at h
  ·cases h
  rename_i hle
  rw[List.drop_drop,←hr]at h
  cases m with
  |zero=>omega
  |succ m=>
   have hk:0+((all.drop i).takeWhile λq=>q.name==p.name).length+1=aD all i-i+1:=by omega
   rw[hk]at h hle
   have:=C8 (m:=m) (i:=aD all i) (n:=n*(aD all i-i+1)) (by omega) b2 (by omega) h
   rw[wg hp,←Nat.mul_assoc]
   exact this
theorem Nt {all:List Pkg}{most:Nat}(h1:1≤most)(h:pk most all 1 0=true):vD all 0≤most:=by
 have:=C8 (m:=all.length) (i:=0) (n:=1) (by omega) (Nat.zero_le _) h1 h
 omega
end Go.Av
end
section
namespace Go.Av
open Go.Proofs.Tryz
theorem sY {all:List Pkg}{s:List aE}{l:List aI}{up:Bool}{x:List Nat×List Nat}(h:x∈gP all s l up):x.2∈bQ all (all.length+1) 0 []∧cL l (atL all x.2) s=true∧x.1=kL all s (atL all x.2) up:=by
 obtain⟨t,ht,rfl⟩:=List.mem_map.1 ((nW _).subset h)
 obtain⟨h1,h2⟩:=List.mem_filter.1 ht
 exact⟨h1,h2,rfl⟩
theorem zh {all:List Pkg}{s:List aE}{l:List aI}(h:dd all s l=true){t:List Pkg}(ht: ∀p∈t,p∈all):cL l t s=false:=by
 unfold dd at h
 obtain⟨a,ha,h⟩:=List.any_eq_true.1 h
 have hm:c8 t s a=false:=by
  rw[Bool.or_eq_true,Bool.and_eq_true,Bool.and_eq_true,beq_iff_eq,beq_iff_eq,Bool.not_eq_true']at h
  unfold c8
  rcases h with⟨h1,h2⟩|⟨h1,h2⟩
  ·rw[if_neg (by omega),if_neg (by omega),if_pos h1]
   cases he:bZ s a.name<;>simp_all
  ·rw[if_pos h1,show cm t a.name=none from List.find?_eq_none.2 λp hp=>by
    have:=List.any_eq_false.1 h2 p (ht p hp)
    simpa using this]
 unfold cL
 rw[show l.all (c8 t s)=false from List.all_eq_false.2 ⟨a,ha,by rw[hm];simp⟩]
 rfl
theorem BH {all:List Pkg}{s:List aE}{l:List aI}{up:Bool}(h:dd all s l=true):gP all s l up=[]:=by
 refine List.eq_nil_iff_forall_not_mem.2 λx hx=>?_
 obtain⟨h1,h2,_⟩:=sY hx
 obtain⟨s1,s2⟩:=wy h1 (Nat.zero_le _) (by simp[atL]) (by omega)
 rw[zh h λp hp=>s1.subset hp]at h2
 cases h2
def rh (all:List Pkg)(s:List aE)(l:List aI)(bud:Int):Nat→SSt
 |0=>.fresh
 |i+1=>(eF all s l bud (rh all s l bud i)).2.2
def qk (all:List Pkg)(s:List aE)(l:List aI)(bud:Int):Bool:=!dd all s l&&decide (0<bud∧bud<ue all s l)
def CI (all:List Pkg)(s:List aE)(l:List aI)(bud:Int)(i:Nat):Option FB×Int:=if qk all s l bud=true then(none,11)else((jP all s l)[i]?,0)
theorem FT {all:List Pkg}{s:List aE}{l:List aI}{bud:Int}: ∀i:Nat,rh all s l bud i=if dd all s l=true∨i=0 then .fresh else if qk all s l bud=true then .fail else .run ((jP all s l).drop i)
 |0=>by simp[rh]
 |i+1=>by
  rw[rh,FT i]
  cases hn:dd all s l with
  |true=>simp[eF,hn]
  |false=>
   have hf:qk all s l bud=decide (0<bud∧bud<ue all s l):=by unfold qk;rw[hn];rfl
   by_cases h:0<bud∧bud<ue all s l
   ·rw[hf,decide_eq_true h]
    by_cases h0:i=0<;>simp[eF,hn,h0,h]
   ·rw[hf,decide_eq_false h]
    by_cases h0:i=0<;>simp[eF,hn,h0,h]
theorem AL (all:List Pkg)(s:List aE)(l:List aI)(bud:Int)(i:Nat):eF all s l bud (rh all s l bud i)=((CI all s l bud i).1,(CI all s l bud i).2,rh all s l bud (i+1)):=by
 have key:(eF all s l bud (rh all s l bud i)).1=(CI all s l bud i).1∧(eF all s l bud (rh all s l bud i)).2.1=(CI all s l bud i).2:=by
  rw[FT i]
  unfold CI
  cases hn:dd all s l with
  |true=>
   have hb:jP all s l=[]:=by unfold jP;rw[BH hn];rfl
   have hf:qk all s l bud=false:=by unfold qk;rw[hn];rfl
   simp[eF,hn,hf,hb]
  |false=>
   have hf:qk all s l bud=decide (0<bud∧bud<ue all s l):=by unfold qk;rw[hn];rfl
   by_cases h:0<bud∧bud<ue all s l
   ·rw[hf,decide_eq_true h]
    by_cases h0:i=0<;>simp[eF,hn,h0,h]
   ·rw[hf,decide_eq_false h]
    by_cases h0:i=0
    ·subst h0
     simp[eF,hn,h,List.head?_eq_getElem?]
    ·simp[eF,hn,h0,h,List.head?_drop]
 exact Prod.ext key.1 (Prod.ext key.2 rfl)
theorem Aj (all:List Pkg)(s:List aE)(l:List aI)(i:Nat):CI all s l 0 i=((jP all s l)[i]?,0):=by
 unfold CI qk
 rw[if_neg (by simp)]
theorem E7 {all:List Pkg}{s:List aE}{l:List aI}(hc:mm all){i:Nat}{x:List Nat×List Nat}(hx:(gP all s l (de l))[i]?=some x):
  (jP all s l)[i]?=some (x.1,bJ x.2)∧aX all.length (bJ x.2)=x.2:=by
 refine⟨by unfold jP;rw[List.getElem?_map,hx];rfl,?_⟩
 exact o5 hc (rD (sY (List.mem_of_getElem? hx)).1)
structure XQ (repo:List Pkg)(s:List aE)(l:List aI)(all:List Pkg):Prop where
 sea:cw l=0→D5 all s l
 mn: ∀p∈all,ma p
 BW:cc s=0
 new:l9 all s l=cw l
 few:vD all 0≤700
 may:bz all=0
 srt:nM all
 sub: ∀x∈s,x.pkg∈all
 mns: ∀x∈s,ma x.pkg
theorem LO {repo:List Pkg}{s:List aE}(l:List aI)(h:(uv repo s).2=true):XQ repo s l (uv repo s).1:=by
 unfold uv at h ⊢
 split at h
 ·rename_i hl
  rw[if_pos hl]
  simp only[Bool.and_eq_true,decide_eq_true_eq]at h
  obtain⟨h2,hf⟩:=h
  have hsp: ∀x∈s,ma x.pkg:=λx hx=>v8 hl.2 _ (List.mem_map_of_mem hx)
  obtain⟨k1,k2,k3,k4⟩:=LX h2
  obtain⟨_,hnm⟩:=lG k4
  have hn:=nS k4
  have hmn: ∀p∈(gM repo s).1,ma p:=by
   have he:(gM repo s).1=cS (ga repo s):=by
    unfold gM at h2 ⊢
    split at h2
    ·rename_i hh;exact absurd h2 hh
    rename_i h3
    rw[if_neg h3]
    split at h2
    ·rename_i hh;exact absurd h2 hh
    rename_i h4
    rw[if_neg h4]
    split at h2
    ·cases h2
    rename_i h5
    rw[if_neg h5]
   intro p hp
   rw[he]at hp
   have hp:=(fe _).subset hp
   unfold ga at hp
   rcases List.mem_append.1 hp with hp|hp
   ·obtain⟨x,hx,rfl⟩:=List.mem_map.1 hp
    exact hsp x hx
   ·exact v8 hl.1 p (List.mem_filter.1 hp).1
  have hin:(s.any λx=>!(gM repo s).1.any λp=>decide (p=x.pkg))=false:=by
   refine List.any_eq_false.2 λx hx=>?_
   rw[List.any_eq_true.2 ⟨x.pkg,k3 x hx,by simp⟩]
   simp
  refine⟨λhq=>⟨k1,(tD k2).symm,hmn,rU k4,(Dz hq).2.2.2,hn,λx hx=>⟨x.pkg,k3 x hx,rfl⟩⟩,hmn,k4,?_,Nt (by omega) hf,k1,k2,k3,hsp⟩
  unfold l9
  rw[if_neg (by simp[k1]),if_neg (by rw[tD k2];simp),if_neg (by simp[k4])]
  split
  ·rfl
  ·rename_i hq
   rw[if_neg (by rw[hin];simp)]
   exact(Classical.not_not.1 hq).symm
 ·cases h
end Go.Av
end
section
namespace Go.Proofs.Tryz
open Go Go.Av
set_option maxRecDepth 10000
set_option maxHeartbeats 1000000
variable {W0 :World}
theorem zk {a b:List Nat}(ha:a.length=5)(hb:b.length=5):cB prog .neq 39 (bk a) (bk b)=True:=by
 unfold bk
 simp only[go_sem,simprocAttr,oU ha hb]
 try trivial
theorem yA {a b:List Nat}(ha:a.length=5)(hb:b.length=5):cr prog .neq 39 (bk a) (bk b)= .bool (!decide (a=b)):=by
 unfold bk
 simp only[go_sem,simprocAttr,oU ha hb]
 rfl
theorem fZ.via {σ σ':ab}{id:Nat}{all:List Pkg}{s:List aE}{l:List aI}{bud:Int}{st:SSt}(h:fZ σ id all s l bud st)(h1:σ'[id]?=σ[id]?)(h2: ∀(j:Nat)(ys:List AV),σ[j]?=some (some (c9.cells 116 ys))→σ'[j]?=σ[j]?):fZ σ' id all s l bud st:=by
 cases st with
 |fresh=>exact h1.trans h
 |run o=>
  obtain⟨g1,⟨v,g2,g3⟩,g4⟩:=h
  refine⟨g1,⟨v,h1.trans g2,g3.ei λj hj=>?_⟩,g4⟩
  rcases g3 with⟨rfl,_⟩|⟨k,off,m,zs,rfl,hk,_⟩
  ·cases hj
  ·cases List.mem_singleton.1 hj
   exact h2 _ _ hk
 |fail=>
  obtain⟨g1,g2,v,g3⟩:=h
  exact⟨g1,g2,v,h1.trans g3⟩
theorem fZ.ob {σ:ab}{id:Nat}{all:List Pkg}{s:List aE}{l:List aI}{bud:Int}{st:SSt}(h:fZ σ id all s l bud st): ∃sp dn v,σ[id]?=some (dC all s l bud sp dn v):=by
 cases st with
 |fresh=>exact⟨_,_,_,h⟩
 |run o=>obtain⟨_,⟨v,h2,_⟩,_⟩:=h;exact⟨_,_,_,h2⟩
 |fail=>obtain⟨_,_,v,h3⟩:=h;exact⟨_,_,_,h3⟩
theorem fZ.ext {σ σ':ab}{id:Nat}{all:List Pkg}{s:List aE}{l:List aI}{bud:Int}{st:SSt}(h:fZ σ id all s l bud st)(hx:Ext σ σ'):fZ σ' id all s l bud st:=by
 have key: ∀{j:Nat} {o:c9},σ[j]?=some (some o)→σ'[j]?=σ[j]?:=λ{j o} hj=>by
  rw[hx.eq,List.getElem?_append_left (List.getElem?_eq_some_iff.1 hj).1]
 obtain⟨_,_,_,ho⟩:=fZ.ob h
 unfold dC at ho
 exact fZ.via h (key ho) λj ys hj=>key hj
theorem fZ.app {σ:ab}{id:Nat}{all:List Pkg}{s:List aE}{l:List aI}{bud:Int}{st:SSt}(h:fZ σ id all s l bud st)(x:ab):fZ (σ++x) id all s l bud st:=fZ.ext h (.app (.refl _) x)
theorem Jz (hW:sr W0)(repo:List Pkg)(s:List aE)(l:List aI)(hp: ∀p∈repo,sd p)(hsp: ∀x∈s,sd x.pkg)(hsl:s.length≤733007751829):ah prog W0 3 [aH repo,aQ s,aZ l] (.bool true):=by
 refine .Hg (.bool _) λσ=>?_
 refine jz [.tmp 6] [17,21] func3 rfl rfl ntmps3 rfl rfl λhs=>?_
 simp only[go_sem,simprocAttr]
 refine ak.fn (Lt repo s hp hsp hsl) ?_
 obtain⟨all,hall⟩: ∃all,all=(uv repo s).1:=⟨_,rfl⟩
 obtain⟨ok,hok⟩: ∃ok,ok=(uv repo s).2:=⟨_,rfl⟩
 rw[←hall,←hok]
 simp only[go_sem,simprocAttr,aZ,List.length_map]
 refine⟨λhc=>?_,λhc=>?_⟩
 ·refine ak.fn (ng hW) ?_
  simp only[go_sem,simprocAttr]
  refine cU.ret ?_
  simp only[go_sem,simprocAttr]
  exact⟨_,.refl _,.refl _,.refl _⟩
 simp only[Bool.or_eq_false_iff,Bool.not_eq_false',decide_eq_false_iff_not]at hc
 obtain⟨hc1,hc2⟩:=hc
 have hF:=LO (repo:=repo) (s:=s) l (by rw[←hok];exact hc1)
 rw[←hall]at hF
 refine ak.goes (by simp only[go_sem,simprocAttr]) (Gg σ all s l 0 hF.mn hF.mns) λr σ1 ⟨hx,hr⟩=>?_
 rw[hF.new]at hr
 rcases hr with⟨hne,rfl⟩|⟨hq,id,rfl,hid,hob⟩
 ·simp only[go_sem,simprocAttr]
  refine ak.fn (mA l) ?_
  simp only[go_sem,simprocAttr]
  refine⟨λ_=>ay.fnG (λ_=>ng hW) ?_,λh=>absurd h hne⟩
  simp only[go_sem,simprocAttr]
  refine cU.ret ?_
  simp only[go_sem,simprocAttr]
  exact⟨_,.refl _,hx.le,.refl _,hx⟩
 have H:=hF.sea hq
 have hcn:=tX hF.srt
 have hse: ∀x∈s,x.pkg.name≠[]:=λx hx=>(OO ((lG hF.BW).2 x hx)).1
 rw[wj H.hU.asks]at hob
 simp only[go_sem,simprocAttr]
 refine ak.fn (mA l) ?_
 rw[hq]
 simp only[go_sem,simprocAttr]
 have hbs:=GR (W0:=W0) all s l H hq hse (Df all) (by have:=hF.few;omega)
 obtain⟨br,hbr⟩: ∃br,br=gP all s l (de l):=⟨_,rfl⟩
 rw[←hbr]at hbs
 have hbm: ∀x∈br,x.2∈bQ all (all.length+1) 0 []∧x.1.length=5:=λx hx=>by
  rw[hbr]at hx
  obtain⟨h1,_,h3⟩:=sY hx
  exact⟨h1,by rw[h3];exact ib _ _ _ _ _ _⟩
 have hlen:br.length≤1000:=by
  rw[hbr]
  unfold gP
  rw[(nW _).length_eq,List.length_map]
  have h1:=List.length_filter_le (λt=>Go.Av.cL l (atL all t) s) (bQ all (all.length+1) 0 [])
  have h2:=jo (Df all) (f:=all.length+1) (i:=0) (t:=[]) (Nat.zero_le _) (by omega)
  have:=hF.few
  omega
 unfold aZ at hbs
 refine ak.fn hbs ?_
 simp only[go_sem,simprocAttr,List.length_map]
 refine ae.at [9] (.of (by kernel_rfl)) (λA=>Ext σ A.st∧fZ A.st id all s l 0 (rh all s l 0 br.length)) ?_ λB ⟨hx1,hs1⟩=>?_
 ·refine ae.upto [7,9,13,72,73] (.of (by kernel_rfl)) br.length (λi A=>A.env 74= .int .i64 i∧Ext σ A.st∧fZ A.st id all s l 0 (rh all s l 0 i)) 0 (Nat.zero_le _) ?_ λi B hi ⟨h74,hx1,hs1⟩=>?_
  ·simp only[go_sem,simprocAttr]
   exact⟨hx,hob⟩
  simp only[go_sem,simprocAttr,h74,List.length_map]
  refine⟨λhc=>⟨hc,?_⟩,λhc=>?_⟩
  ·obtain⟨x,hxx⟩:=get_some hc
   simp only[go_sem,simprocAttr,h74,an hxx]
   refine⟨λh60=>ak.fn (ng hW) ?_,λh60=>?_⟩
   ·simp only[go_sem,simprocAttr]
    refine cU.ret ?_
    simp only[go_sem,simprocAttr]
    exact⟨_,.refl _,hx1.le,.refl _,hx1⟩
   have hn:=xS hW B.st id all s l 0 (rh all s l 0 i) H (by decide) (by decide) hs1
   rw[AL,Aj]at hn
   have hxb:(gP all s l (de l))[i]?=some x:=by rw[←hbr];exact hxx
   obtain⟨e1,e2⟩:=E7 hcn hxb
   simp only[e1]at hn
   refine ak.goes (by simp only[go_sem,simprocAttr]) hn λr σ2 ⟨hr,hfr,hs2⟩=>?_
   subst hr
   obtain⟨hxW,hx5⟩:=hbm x (List.mem_of_getElem? hxx)
   obtain⟨m1,m2⟩:=j2 hxW (Nat.zero_le _) (by simp) (by simp)
   have hx2:Ext σ σ2:=hfr.wZ hx1 λj hj=>by simp at hj;omega
   have q1:=zk hx5 hx5
   have q2:=yA hx5 hx5
   rw[decide_eq_true rfl,Bool.not_true]at q2
   have h24:=dS hF.may
   have q3:bp prog 39 (bk x.1)=True:=eq_true (by kernel_rfl)
   simp only[go_sem,simprocAttr,sW,e2,h74,an hxx,q1,q2,q3,List.length_map]
   refine⟨.of (by kernel_rfl),hc,ay.fnG (λ_=>BK all x.2 m1 (by omega)) ?_⟩
   simp only[go_sem,simprocAttr,sW,e2,h74,an hxx,q1,q2,q3,List.length_map]
   refine ay.fnG (λ_=>yC (atL all x.2) (atL all x.2)) ?_
   rw[decide_eq_true rfl]
   simp only[go_sem,simprocAttr,sW,e2,h74,an hxx,q1,q2,q3,List.length_map]
   exact⟨hc,af hc (by rw[aq];omega),hx2.app _,hs2.app _⟩
  ·have:i=br.length:=by omega
   rw[←this]
   exact⟨hx1,hs1⟩
 simp only[go_sem,simprocAttr]
 refine ae.upto [9] (.of (by kernel_rfl)) 2 (λj A=>A.env 112= .int .i64 j∧Ext σ A.st∧fZ A.st id all s l 0 (rh all s l 0 (br.length+j))) 0 (Nat.zero_le _) ?_ λj B hj ⟨h112,hx1,hs1⟩=>?_
 ·simp only[go_sem,simprocAttr]
  exact⟨hx1,hs1⟩
 simp only[go_sem,simprocAttr,h112]
 refine⟨λhc=>?_,λhc=>?_⟩
 ·have hn:=xS hW B.st id all s l 0 (rh all s l 0 (br.length+j)) H (by decide) (by decide) hs1
  rw[AL,Aj]at hn
  have e1:(jP all s l)[br.length+j]?=none:=by
   unfold jP
   rw[←hbr]
   exact List.getElem?_eq_none (by rw[List.length_map];omega)
  simp only[e1]at hn
  refine ak.goes (by simp only[go_sem,simprocAttr]) hn λr σ2 ⟨hr,hfr,hs2⟩=>?_
  subst hr
  have hx2:Ext σ σ2:=hfr.wZ hx1 λj hj=>by simp at hj;omega
  have q1:=zk (a:=[0,0,0,0,0]) (b:=[0,0,0,0,0]) rfl rfl
  have q2:=yA (a:=[0,0,0,0,0]) (b:=[0,0,0,0,0]) rfl rfl
  rw[decide_eq_true rfl,Bool.not_true]at q2
  have q3:bp prog 39 (bk [0,0,0,0,0])=True:=eq_true (by kernel_rfl)
  have q4:AV.agg 39 [.int .i64 0,.int .i64 0,.int .i64 0,.int .i64 0,.int .i64 0]=bk [0,0,0,0,0]:=rfl
  simp only[go_sem,simprocAttr,sW,h112,q1,q2,q3,q4,aH,List.map_nil]
  exact⟨by omega,af (show j<2 by omega) (by rw[aq];omega),hx2.app _,hs2.app _⟩
 ·refine ak.fn (ng hW) ?_
  simp only[go_sem,simprocAttr]
  refine cU.ret ?_
  simp only[go_sem,simprocAttr]
  exact⟨_,.refl _,hx1.le,.refl _,hx1⟩
end Go.Proofs.Tryz
end
