/- What the last text of this claim rests on. No conditions. -/
import Derived.Test.YtbkobngljnnmgaaGreatDoorWah
import Derived.Test.YtbkobngljnnmgaaGreatDoorWap
set_option linter.unusedSimpArgs false
set_option linter.unusedVariables false
open List renaming getElem?_eq_some_iff->acf,eq_nil_of_length_eq_zero->acg,take_append_drop->ach,getElem?_eq_getElem->aci,getElem?_map->acj,drop_eq_getElem_cons->ack,mem_of_getElem?->acn,mem_append->acp,length_append->acq,set_set->acs,eq_nil_or_concat->acu,pairwise_append->acv,length_cons->acy,length_eq_one_iff->acA,concat_eq_append->acB,mem_iff_getElem->acD,pairwise_cons->acE,append_assoc->acF,perm_middle->acH,length_take->acI,mem_cons->acJ
open Option renaming map_some->acm
open Nat renaming zero_add->aco,le_refl->acw,lt_of_le_of_lt->acx,lt_or_ge->acG
open Int renaming toNat_natCast->acr
open Bool renaming and_eq_true->acz,and_eq_false_iff->acC
open List.Pairwise renaming imp_of_mem->acK
open List.Perm renaming append_right->acL,append_left->acM
section
namespace Go.Av
section
variable {α :Type}{lt:α->α->Bool}
structure lY (lt:α->α->Bool):Prop where
 asym: ∀x y,lt x y=true->lt y x=false
 tr: ∀x y z,lt y x=false->lt z y=false->lt z x=false
abbrev dm (lt:α->α->Bool)(l:List α):Prop:=l.Pairwise λx y=>lt y x=false
theorem T5 (P Q:List α)(x y:α):(P++x::Q).set P.length y=P++y::Q:=by
 simp_all
theorem Km (P Q:List α)(x:α):(P++x::Q)[P.length]?=some x:=by simp
theorem wj (P M Q:List α)(x y:α){i j:Nat}(hi:i=P.length)(hj:j=P.length+1+M.length):
  ((P++x::M++y::Q).set i y).set j x=P++y::M++x::Q:=by
 grind [T5]
theorem NK (P M Q:List α)(x y:α){i j:Nat}(hi:i=P.length)(hj:j=P.length+1+M.length):
  ((P++x::M++y::Q).set j x).set i y=P++y::M++x::Q:=by
 grind [List.set_comm,wj]
theorem MK (hw:lY lt){S1 S2:List α}{v:α}(h:dm lt (S1++S2))(h2: ∀x∈S2,lt v x=true)(h1: ∀u,S1.getLast?=some u->lt v u=false):dm lt (S1++v::S2):=by
 rw[dm,acv]at h ⊢;obtain⟨g1,g2,g3⟩:=h;refine⟨g1,acE.2 ⟨λx hx=>hw.asym _ _ (h2 x hx),g2⟩,λx hx y hy=>?_⟩;rcases acJ.1 hy with rfl|hy
 .rcases acu S1 with rfl|⟨L,u,rfl⟩
  .cases hx
  .have hu:=h1 u (by simp);rcases acp.1 (by simp_all:x∈L++[u])with hx|hx
   .rw[acB,acv]at g1;exact hw.tr _ _ _ (g1.2.2 x hx u (by simp)) hu
   simp_all
 simp_all
theorem NI (h: ∀(l:List α),dm lt l->True){l:List α}(hl:dm lt l){i j:Nat}{x y:α}(hij:i<j)(hx:l[i]?=some x)(hy:l[j]?=some y):lt y x=false:=by
 grind [List.pairwise_iff_getElem]
theorem irr (hw:lY lt)(x:α):lt x x=false:=by
 cases h:lt x x
 .rfl
 .rw[hw.asym _ _ h]at h;simp_all
theorem jQ (hw:lY lt){l:List α}(hl:dm lt l){i j:Nat}{x y:α}(hij:i<=j)(hx:l[i]?=some x)(hy:l[j]?=some y):lt y x=false:=by
 rcases Nat.lt_or_eq_of_le hij with h|rfl
 .exact NI (λ_ _=>trivial) hl h hx hy
 simp_all[irr]
theorem Fs {l:List α}{n:Nat}{x:α}(h:x∈l.take n): ∃i,i<n/\l[i]?=some x:=by
 obtain⟨i,hi,e⟩:=acD.1 h;have hl:i<n:=by grind
 refine⟨i,hl,?_⟩;grind
theorem FV {l:List α}{n:Nat}{x:α}(h:x∈l.drop n): ∃i,n<=i/\l[i]?=some x:=by
 obtain⟨i,hi,e⟩:=acD.1 h;refine⟨n+i,by omega,?_⟩;grind
theorem aaa (hw:lY lt){A B:List α}(hA:dm lt A)(hB:dm lt B){s e:Nat}
  (h1: ∀x y,0<s->A[s-1]?=some x->B[e]?=some y->lt y x=false)
  (h2: ∀x y,0<e->A[s]?=some x->B[e-1]?=some y->lt y x=true)
  (hs:s<=A.length) (he:e<=B.length):
  ∀x∈A.take s++B.take e,∀y∈A.drop s++B.drop e,lt y x=false:=by
 intro x hx y hy;rcases acp.1 hx with hx|hx<;>rcases acp.1 hy with hy|hy<;>obtain⟨i,hi,hxi⟩:=Fs hx<;>obtain⟨j,hj,hyj⟩:=FV hy
 .exact jQ hw hA (by omega) hxi hyj
 .obtain⟨u,hu⟩: ∃u,A[s-1]?=some u:=⟨_,aci (by omega)⟩;have hel:e<B.length:=acx hj (acf.1 hyj).1;obtain⟨w,hwv⟩: ∃w,B[e]?=some w:=⟨_,aci hel⟩;exact hw.tr _ _ _ (jQ hw hA (by omega) hxi hu) (hw.tr _ _ _ (h1 u w (by omega) hu hwv) (jQ hw hB hj hwv hyj))
 .obtain⟨u,hu⟩: ∃u,B[e-1]?=some u:=⟨_,aci (by omega)⟩;have hel:s<A.length:=acx hj (acf.1 hyj).1;obtain⟨w,hwv⟩: ∃w,A[s]?=some w:=⟨_,aci hel⟩;exact hw.tr _ _ _ (jQ hw hB (by omega) hxi hu) (hw.tr _ _ _ (hw.asym _ _ (h2 w u (by omega) hwv hu)) (jQ hw hA hj hwv hyj))
 .exact jQ hw hB (by omega) hxi hyj
theorem HG {A1 A2 B1 B2 C1 C2:List α}(hc: ∀x∈A1++B1,∀y∈A2++B2,lt y x=false)
  (p1:C1.Perm (A1++B1)) (p2:C2.Perm (A2++B2)) (r1:dm lt C1) (r2:dm lt C2):
  dm lt (C1++C2)/\(C1++C2).Perm ((A1++A2)++(B1++B2)):=by
 refine⟨acv.2 ⟨r1,r2,λx hx y hy=>hc x (p1.mem_iff.1 hx) y (p2.mem_iff.1 hy)⟩,(p1.append p2).trans ?_⟩;grind [acM,acL,List.perm_append_comm]
theorem E6 (hw:lY lt){B:List α}{v:α}{i:Nat}(hB:dm lt B)(h1: ∀x∈B.take i,lt v x=false)(h2: ∀x∈B.drop i,lt x v=false):dm lt (B.take i++v::B.drop i):=by
 grind [ach,acE]
theorem EB {B:List α}{v:α}{i:Nat}:(B.take i++v::B.drop i).Perm (v::B):=by
 grind [acH,ach]
theorem AG (hw:lY lt){X:List α}{v:α}{i:Nat}(hX:dm lt X)(hi:i<=X.length)
  (h1: ∀x,0<i->X[i-1]?=some x->lt v x=false) (h2: ∀x,X[i]?=some x->lt x v=false):
  (∀x∈X.take i,lt v x=false)/\ ∀x∈X.drop i,lt x v=false:=by
 refine⟨λx hx=>?_,λx hx=>?_⟩
 .obtain⟨j,hj,hxj⟩:=Fs hx;obtain⟨u,hu⟩: ∃u,X[i-1]?=some u:=⟨_,aci (by omega)⟩;exact hw.tr _ _ _ (jQ hw hX (by omega) hxj hu) (h1 u (by omega) hu)
 .obtain⟨j,hj,hxj⟩:=FV hx;have hl:i<X.length:=acx hj (acf.1 hxj).1;obtain⟨u,hu⟩: ∃u,X[i]?=some u:=⟨_,aci hl⟩;exact hw.tr _ _ _ (h2 u hu) (jQ hw hX hj hu hxj)
def dJ (P X Q:List α)(v:α)(k:Nat):List α:=P++X.take k++v::X.drop k++Q
theorem Ul (P X Q:List α)(v x:α){k:Nat}(hx:X[k]?=some x):((dJ P X Q v k).set (P.length+k) x).set (P.length+k+1) v=dJ P X Q v (k+1):=by
 obtain⟨hk,e⟩:=acf.1 hx;have hd:X.drop k=x::X.drop (k+1):=by grind [ack]
 have ht:X.take (k+1)=X.take k++[x]:=by grind
 unfold dJ;have:=wj (P++X.take k) [] (X.drop (k+1)++Q) v x (i:=P.length+k) (j:=P.length+k+1) (by grind) (by grind);simp_all
theorem UK (P X Q:List α)(v x:α){k:Nat}(hx:X[k]?=some x):((dJ P X Q v (k+1)).set (P.length+k+1) x).set (P.length+k) v=dJ P X Q v k:=by
 obtain⟨hk,e⟩:=acf.1 hx;grind [List.drop,ack,List.take_add_one,dJ,NK]
theorem EU (P X Q:List α)(v:α){k:Nat}(hk:k<=X.length):(dJ P X Q v k)[P.length+k]?=some v:=by
 simp_all[dJ]
theorem HD (P X Q:List α)(v x:α){k:Nat}(hx:X[k]?=some x):(dJ P X Q v k)[P.length+k+1]?=some x:=by
 obtain⟨hk,e⟩:=acf.1 hx;have hd:X.drop k=x::X.drop (k+1):=by grind [ack]
 unfold dJ;grind
theorem I3 (P X Q:List α)(v x:α){k:Nat}(hx:X[k]?=some x):(dJ P X Q v (k+1))[P.length+k]?=some x:=by
 obtain⟨hk,e⟩:=acf.1 hx;unfold dJ;grind
def gu (P X M Y Q:List α)(k:Nat):List α:=P++(Y.take k++X.drop k)++M++(X.take k++Y.drop k)++Q
theorem Fh (P X M Y Q:List α):gu P X M Y Q 0=P++X++M++Y++Q:=by simp[gu]
theorem Hv (P X M Y Q:List α){n:Nat}(h1:X.length=n)(h2:Y.length=n):gu P X M Y Q n=P++Y++M++X++Q:=by
 grind [gu]
theorem Dq (P X M Y Q:List α){k:Nat}{x y:α}(hl:X.length=Y.length)(hx:X[k]?=some x)(hy:Y[k]?=some y):
  (gu P X M Y Q k)[P.length+k]?=some x/\(gu P X M Y Q k)[P.length+X.length+M.length+k]?=some y/\
  ((gu P X M Y Q k).set (P.length+k) y).set (P.length+X.length+M.length+k) x=gu P X M Y Q (k+1):=by
 obtain⟨hk,e⟩:=acf.1 hx;obtain⟨hk2,e2⟩:=acf.1 hy;have hd:X.drop k=x::X.drop (k+1):=by grind [ack]
 have hd2:Y.drop k=y::Y.drop (k+1):=by grind [ack]
 have ht:X.take (k+1)=X.take k++[x]:=by grind
 have ht2:Y.take (k+1)=Y.take k++[y]:=by grind
 have e0:gu P X M Y Q k=(P++Y.take k)++x::(X.drop (k+1)++M++X.take k)++y::(Y.drop (k+1)++Q):=by
  grind [gu]
 have e1:gu P X M Y Q (k+1)=(P++Y.take k)++y::(X.drop (k+1)++M++X.take k)++x::(Y.drop (k+1)++Q):=by
  grind [gu]
 have l1:P.length+k=(P++Y.take k).length:=by grind
 have l2:P.length+X.length+M.length+k=(P++Y.take k).length+1+(X.drop (k+1)++M++X.take k).length:=by grind
 refine⟨?_,?_,?_⟩
 .grind [Km]
 .rw[e0,l2,show(P++Y.take k).length+1+(X.drop (k+1)++M++X.take k).length=(P++Y.take k++x::(X.drop (k+1)++M++X.take k)).length by grind];grind
 grind [wj]
end
end Go.Av
end
section
namespace Go.Proofs.Tryz
open Go Go.Av
set_option maxRecDepth 10000
variable {W0 :World}
def cC (ys:List Pkg):Option bH:=some (.cells 51 (ys.map ay))
def ltF (f:Pkg->Pkg->Int)(x y:Pkg):Bool:=decide (f x y<0)
def uh (W0:World)(f:Pkg->Pkg->Int)(xs:List Pkg)(g:FuncId)(caps:List AV):Prop:=∀ a∈xs,∀b∈xs,ai prog W0 g ([ay a,ay b]++caps) (.int .i64 (f a b))
theorem tf {l:List AV}{i:Nat}(h:i<l.length):(l[i]?.bind λx=>some x).isSome=true:=by
 simp_all
theorem rG {f:Pkg->Pkg->Int}(hw:lY (ltF f))(σ:ab)(id n:Nat)(P A Q:List Pkg)(lo hi:Nat)(hlo:lo=P.length)(hhi:hi=P.length+A.length)(hn:n=(P++A++Q).length)(hx:n<=1048576)(hid:σ[id]?=some (cC (P++A++Q)))(g:FuncId)(caps:List AV)
  (hcmp:uh W0 f (P++A++Q) g caps):
  aP prog W0 247 [.row 51 id 0 n,.int .i64 lo,.int .i64 hi,.fn g caps] σ λr σ'=>∃ C,C.Perm A/\dm (ltF f) C/\σ'=σ.set id (cC (P++C++Q)):=by
 have hidl:id<σ.length:=(acf.1 hid).1;have hn':n=P.length+A.length+Q.length:=by grind
 refine bY [] [] func247 rfl rfl ntmps247 rfl rfl λhs=>?_
 simp only[go_sem,simprocAttr];refine ae.cB [0,1,2,3] (λk B=>∃ (i:Nat) (S R:List Pkg),B.env 8= .int .i64 i/\k=hi-i/\(S++R).Perm A/\dm (ltF f) S/\i=lo+max 1 S.length/\(A≠[]->1<=S.length)/\B.st=σ.set id (cC (P++S++R++Q))) (hi-(lo+1)) ?_ λk B ⟨i,S,R,h8,hk,hp,hr,hi1,hne,hst⟩=>?_
 .simp only[go_sem,simprocAttr];refine⟨lo+1,A.take 1,A.drop 1,ag (N:=1048577) (by omega) (by simp[au]),rfl,by rw[ach],?_,?_,?_,?_⟩
  .rcases A with _|⟨a,A⟩<;>simp[dm]
  .grind
  .grind
  grind [ach,fN]
 have hpl:=hp.length_eq;rw[acq]at hpl;unfold cC at hst;simp only[go_sem,simprocAttr,h8];refine⟨λhih=>?_,λhih=>bu.normal ?_⟩
 .have hA:A≠[]:=by grind
  have hS:=hne hA;obtain⟨v,R',rfl⟩: ∃v R',R=v::R':=by
   rcases R with _|⟨v,R'⟩
   .simp_all
   simp_all
  have hsub: ∀x∈S++v::R',x∈P++A++Q:=λx hx=>by
   grind
  simp only[acy]at hpl;refine ae.ats [0,1,2,3,8] (λB=>∃ S',S'.Perm (v::S)/\dm (ltF f) S'/\B.st=σ.set id (cC (P++S'++R'++Q))) ?_ λB ⟨S',hp',hr',hst⟩=>?_
  .refine ae.cB [0,1,2,3,8] (λk B=>∃ S1 S2,B.env 9= .int .i64 (k:Nat)/\k=lo+S1.length/\S1++S2=S/\(∀x∈S2,ltF f v x=true)/\B.st=σ.set id (cC (P++S1++v::S2++R'++Q))) i ?_ λk B ⟨S1,S2,h9,hk1,hS12,hlt,hst⟩=>?_
   .simp only[go_sem,simprocAttr];exact⟨S,[],by omega,by simp,by simp,by grind [cC]⟩
   have hsl:S1.length+S2.length=S.length:=by grind
   obtain⟨ys,hys⟩: ∃ys,ys=P++S1++v::S2++R'++Q:=⟨_,rfl⟩;rw[<-hys]at hst;have hyl:ys.length=n:=by grind
   have ha:ys[k]?=some v:=by
    grind
   obtain⟨b,hb⟩:=get_some (show k-1<ys.length by omega);have hw1:IntKind.i64.wrap ((k:Int)-1)=(k:Int)-1:=aJ (by omega);have hnn:((k:Int)-1).toNat=k-1:=by omega
   have ham:v∈P++A++Q:=hsub v (by simp);have hbm:b∈P++A++Q:=by
    have hbm:=acn hb;grind
   unfold cC at hst;simp only[go_sem,simprocAttr,h9,hst,cU hidl,mu hidl,hw1,hnn,aco,acj,ha,hb,acm];refine⟨.of (by kernel_rfl),λ_=>by omega,λ_=>by omega,aD.go (λ_=>hcmp v ham b hbm) ?_⟩;simp only[go_sem,simprocAttr,h9,hst];have hlast:lo<k->S1.getLast?=some b:=λh=>by
    rcases acu S1 with rfl|⟨L,u,rfl⟩
    .simp_all
    .simp only[acB,List.getLast?_concat];rw[hys,show P++L.concat u++v::S2++R'++Q=(P++L)++u::(v::S2++R'++Q) by simp,show k-1=(P++L).length by simp_all,Km]at hb;exact hb
   refine⟨λhl=>?_,λhge=>⟨S1++v::S2,?_,?_,?_⟩⟩
   .simp only[acz,decide_eq_true_eq]at hl;have hlk:lo<k:=hl.1;have hfl:=hl.2;have hlS:=hlast hlk;obtain⟨L,u,rfl⟩: ∃L u,S1=L++[u]:=by
     rcases acu S1 with rfl|⟨L,u,rfl⟩
     .simp_all
     simp_all
    have:u=b:=by simp_all
    subst this;simp only[go_sem,simprocAttr,cU hidl,mu hidl,eg hidl,hw1,hnn,aco,acj,ha,hb,acm];refine⟨.of (by kernel_rfl),by omega,by omega,by omega,by omega,?_,.here (k-1) (by omega) ⟨L,u::S2,?_,by simp_all,by simp_all,?_,?_⟩⟩
    .grind
    .simp only[go_sem,simprocAttr];congr 1;omega
    .intro x hx;rcases acJ.1 hx with rfl|hx
     .exact decide_eq_true hfl
     simp_all
    .simp only[go_sem,simprocAttr,cC];simp_all
   .grind
   .refine MK hw (by simp_all) hlt λu hu=>?_
    by_cases hlk:lo<k
    .have:=hlast hlk;rw[hu]at this;cases this;simp only[acC,decide_eq_false_iff_not]at hge;rcases hge with h|h
     .omega
     .exact decide_eq_false h
    simp_all
   grind [cC]
  have hpl':=hp'.length_eq;simp only[acy]at hpl';simp only[go_sem,simprocAttr,h8];exact .here (hi-(i+1)) (by omega) ⟨i+1,S',R',ag hih (by grind [au]),rfl,((hp'.append_right R').trans acH.symm).trans hp,hr',by omega,λ_=>by omega,by simp only[go_sem,simprocAttr,hst]⟩
 .have hR:R=[]:=by
   rcases A with _|⟨a,A⟩
   .simp_all
   .have:=hne (by simp);simp only[acy]at hpl hhi;exact acg (by omega)
  subst hR;simp only[go_sem,simprocAttr,hst];exact⟨_,.refl _,by simp,S,by simp_all,hr,by simp[cC]⟩
theorem mJ (σ:ab)(id n:Nat)(P X M Y Q:List Pkg)(a b k:Nat)(ha:a=P.length)(hb:b=P.length+X.length+M.length)(hX:X.length=k)(hY:Y.length=k)(hn:n=P.length+X.length+M.length+Y.length+Q.length)(hx:n<=1048576)(hid:σ[id]?=some (cC (P++X++M++Y++Q)))(g:AV):
  aP prog W0 323 [.row 51 id 0 n,.int .i64 a,.int .i64 b,.int .i64 k,g] σ λr σ'=>σ'=σ.set id (cC (P++Y++M++X++Q)):=by
 have hidl:id<σ.length:=(acf.1 hid).1;refine bY [] [] func323 rfl rfl ntmps323 rfl rfl λhs=>?_
 simp only[go_sem,simprocAttr];refine ae.cB [0,1,2,3] (λm B=>∃ i:Nat,B.env 10= .int .i64 i/\m=k-i/\i<=k/\B.st=σ.set id (cC (gu P X M Y Q i))) k ?_ λm B ⟨i,h10,hm,hik,hst⟩=>?_
 .simp only[go_sem,simprocAttr];grind [Fh,fN]
 unfold cC at hst;simp only[go_sem,simprocAttr,h10,hst];refine⟨λhlt=>?_,λhge=>bu.normal ?_⟩
 .obtain⟨x,hxk⟩:=get_some (show i<X.length by omega);obtain⟨y,hyk⟩:=get_some (show i<Y.length by omega);obtain⟨c1,c2,c3⟩:=Dq P X M Y Q (by omega) hxk hyk;have hlen:(gu P X M Y Q i).length=n:=by
   grind [gu,acq,acI]
  rw[<-hb]at c2 c3;rw[<-ha]at c1 c3;have w1:IntKind.i64.wrap ((a:Int)+i)=((a+i:Nat):Int):=by grind [aJ]
  have w2:IntKind.i64.wrap ((b:Int)+i)=((b+i:Nat):Int):=by grind [aJ]
  generalize gu P X M Y Q i=ys at *;simp only[go_sem,simprocAttr,cU hidl,mu hidl,eg hidl,w1,w2,aco,acj,c1,c2,acm,acr];refine⟨.of (by kernel_rfl),by omega,by omega,by omega,by omega,tf (by grind),.here (k-(i+1)) (by omega) ⟨i+1,ag (N:=1048577) (by omega) (by simp[au]),rfl,by omega,?_⟩⟩;rw[<-c3];simp only[go_sem,simprocAttr,cC];simp
 .have:i=k:=by omega
  subst this;simp only[go_sem,simprocAttr,hst];exact⟨_,.refl _,by simp,by grind [Hv]⟩
set_option maxHeartbeats 1000000
theorem Na (σ:ab)(id n:Nat)(P U V Q:List Pkg)(a m b:Nat)(ha:a=P.length)(hm:m=P.length+U.length)(hb:b=P.length+U.length+V.length)(hU:0<U.length)(hV:0<V.length)(hn:n=P.length+U.length+V.length+Q.length)(hx:n<=1048576)(hid:σ[id]?=some (cC (P++U++V++Q)))(g:FuncId)(caps:List AV):
  aP prog W0 282 [.row 51 id 0 n,.int .i64 a,.int .i64 m,.int .i64 b,.fn g caps] σ λr σ'=>σ'=σ.set id (cC (P++V++U++Q)):=by
 have hidl:id<σ.length:=(acf.1 hid).1;refine bY [] [] func282 rfl rfl ntmps282 rfl rfl λhs=>?_
 have w1:IntKind.i64.wrap ((m:Int)-a)=((m-a:Nat):Int):=by grind [aJ]
 have w2:IntKind.i64.wrap ((b:Int)-m)=((b-m:Nat):Int):=by grind [aJ]
 simp only[go_sem,simprocAttr,w1,w2];refine ae.at [0,2,4] (λB=>∃ (i:Nat) (P' U' V' Q':List Pkg),B.env 10= .int .i64 i/\U'.length=i/\V'.length=i/\P'.length+i=m/\P'.length+U'.length+V'.length+Q'.length=n/\P'++V'++U'++Q'=P++V++U++Q/\B.st=σ.set id (cC (P'++U'++V'++Q'))) ?_ λB ⟨i,P',U',V',Q',h10,hU',hV',hPi,hlen,heq,hst⟩=>?_
 .refine ae.cB [0,2,4] (λk B=>∃ (i j:Nat) (P' U' V' Q':List Pkg),B.env 10= .int .i64 i/\B.env 11= .int .i64 j/\k=i+j/\0<i/\0<j/\U'.length=i/\V'.length=j/\P'.length+i=m/\P'.length+U'.length+V'.length+Q'.length=n/\P'++V'++U'++Q'=P++V++U++Q/\B.st=σ.set id (cC (P'++U'++V'++Q'))) (U.length+V.length) ?_ λk B ⟨i,j,P',U',V',Q',h10,h11,hk,hi0,hj0,hU',hV',hPi,hlen,heq,hst⟩=>?_
  .simp only[go_sem,simprocAttr];exact⟨m-a,b-m,P,U,V,Q,rfl,rfl,by omega,by omega,by omega,by omega,by omega,by omega,by omega,by simp,by grind [fN]⟩
  have x1:IntKind.i64.wrap ((m:Int)-i)=((m-i:Nat):Int):=by grind [aJ]
  have x2:IntKind.i64.wrap ((m:Int)+j)=((m+j:Nat):Int):=by grind [aJ]
  have hst0:=hst;simp only[go_sem,simprocAttr,h10,h11,x1,x2];refine⟨λhne=>⟨λhgt=>?_,λhle=>?_⟩,λhe=>⟨i,P',U',V',Q',rfl,hU',by omega,hPi,hlen,by simp_all,by simp_all⟩⟩
  .have e:P'++U'++V'++Q'=P'++U'.take j++U'.drop j++V'++Q':=by simp_all
   have hd:=mJ (W0:=W0) B.st id n P' (U'.take j) (U'.drop j) V' Q' (m-i) m j (by omega) (by grind) (by grind) hV' (by grind) hx (by simp_all) (.fn g caps);refine aj.goes (by simp only[go_sem,simprocAttr]) hd λr σ1 hσ=>?_
   have x3:IntKind.i64.wrap ((i:Int)-j)=((i-j:Nat):Int):=by grind [aJ]
   simp only[go_sem,simprocAttr,h10,h11,x3];refine .here (i-j+j) (by omega) ⟨i-j,j,P'++V',U'.drop j,U'.take j,Q',rfl,h11,rfl,by omega,hj0,by simp_all,by grind,by grind,by grind,?_,?_⟩
   .grind [ach]
   .simp only[go_sem,simprocAttr,hσ,hst0,acs,acF]
  .have hd:=mJ (W0:=W0) B.st id n P' U' (V'.take (j-i)) (V'.drop (j-i)) Q' (m-i) (m+j-i) i (by omega) (by grind) hU' (by grind) (by grind) hx (by simp_all) (.fn g caps);have x4:IntKind.i64.wrap (((m+j:Nat):Int)-i)=((m+j-i:Nat):Int):=by grind [aJ]
   rw[x4];refine aj.goes (by simp only[go_sem,simprocAttr]) hd λr σ1 hσ=>?_
   have x3:IntKind.i64.wrap ((j:Int)-i)=((j-i:Nat):Int):=by grind [aJ]
   simp only[go_sem,simprocAttr,h10,h11,x3];refine .here (i+(j-i)) (by omega) ⟨i,j-i,P',V'.drop (j-i),V'.take (j-i),U'++Q',h10,rfl,rfl,hi0,by omega,by grind,by simp_all,hPi,by grind,?_,?_⟩
   .grind [ach]
   .simp only[go_sem,simprocAttr,hσ,hst0,acs,acF]
 have x1:IntKind.i64.wrap ((m:Int)-i)=((m-i:Nat):Int):=by grind [aJ]
 have hd:=mJ (W0:=W0) B.st id n P' U' [] V' Q' (m-i) m i (by omega) (by simp_all) hU' hV' (by simp_all) hx (by simp_all) (.fn g caps);simp only[go_sem,simprocAttr,h10,x1];refine aj.goes (by simp only[go_sem,simprocAttr]) hd λr σ1 hσ=>?_
 simp only[go_sem,simprocAttr];refine bu.normal ?_;simp only[go_sem,simprocAttr];refine⟨_,.refl _,by simp_all,?_⟩;simp_all
def Xk (W0:World)(f:Pkg->Pkg->Int)(g:FuncId)(caps:List AV)(L:Nat):Prop:=∀ (σ:ab) (id n:Nat) (P A B Q:List Pkg) (a m b:Nat),a=P.length->m=P.length+A.length->b=P.length+A.length+B.length->n=P.length+A.length+B.length+Q.length->n<=1048576->
  0<A.length->0<B.length->A.length+B.length<=L->dm (ltF f) A->dm (ltF f) B->σ[id]?=some (cC (P++A++B++Q))->uh W0 f (P++A++B++Q) g caps->
  aP prog W0 248 [.row 51 id 0 n,.int .i64 a,.int .i64 m,.int .i64 b,.fn g caps] σ λr σ'=>∃ C,C.Perm (A++B)/\dm (ltF f) C/\σ'=σ.set id (cC (P++C++Q))
theorem pA {i j:Nat}(h:i+j<=4194304):IntKind.i64.wrap (Int.fdiv (IntKind.u64.wrap (IntKind.i64.wrap ((i:Int)+j))) (2^min 1 64))=(((i+j) / 2:Nat):Int):=by
 grind [aJ,IntKind.wrap,IntKind.bits]
theorem NB {f:Pkg->Pkg->Int}(hw:lY (ltF f))(σ:ab)(id n:Nat)(P B Q:List Pkg)(v:Pkg)(a m b:Nat)(ha:a=P.length)(hm:m=P.length+1)(hb:b=P.length+1+B.length)(hn:n=P.length+1+B.length+Q.length)(hx:n<=1048576)
  (hB:dm (ltF f) B) (hid:σ[id]?=some (cC (P++v::B++Q))) (g:FuncId) (caps:List AV) (hcmp:uh W0 f (P++v::B++Q) g caps):
  aP prog W0 248 [.row 51 id 0 n,.int .i64 a,.int .i64 m,.int .i64 b,.fn g caps] σ λr σ'=>∃ C,C.Perm (v::B)/\dm (ltF f) C/\σ'=σ.set id (cC (P++C++Q)):=by
 have hidl:id<σ.length:=(acf.1 hid).1;refine bY [] [] func248 rfl rfl ntmps248 rfl rfl λhs=>?_
 have w1:IntKind.i64.wrap ((m:Int)-a)=1:=by grind [aJ]
 simp only[go_sem,simprocAttr,w1];obtain⟨ys,hys⟩: ∃ys,ys=P++v::B++Q:=⟨_,rfl⟩;rw[<-hys]at hid hcmp;have hyl:ys.length=n:=by grind
 have ea:ys[a]?=some v:=by grind
 have eb: ∀c,m<=c->c<b->ys[c]?=B[c-m]?:=λc h1 h2=>by
  grind
 have hmem: ∀x∈B,x∈ys:=λx h=>by simp_all
 have hvm:v∈ys:=by simp_all
 unfold cC at hid;refine ae.at [0,1,4] (λE=>∃ i:Nat,E.env 10= .int .i64 i/\m<=i/\i<=b/\(∀x,0<i-m->B[i-m-1]?=some x->ltF f x v=true)/\(∀x,B[i-m]?=some x->ltF f x v=false)/\E.st=σ) ?_ λE ⟨i,h10,hmi,hib,g1,g2,hst⟩=>?_
 .refine ae.cB [0,1,4] (λk E=>∃ i j:Nat,E.env 10= .int .i64 i/\E.env 11= .int .i64 j/\k=j-i/\m<=i/\i<=j/\j<=b/\(∀x,0<i-m->B[i-m-1]?=some x->ltF f x v=true)/\(∀x,B[j-m]?=some x->ltF f x v=false)/\E.st=σ) (b-m) ?_ λk E ⟨i,j,h10,h11,hk,hmi,hij,hjb,g1,g2,hst⟩=>?_
  .simp only[go_sem,simprocAttr];refine⟨m,b,rfl,rfl,rfl,acw _,by omega,acw _,λx h=>by omega,λx h=>?_⟩;simp_all
  have hh:=pA (i:=i) (j:=j) (by omega);obtain⟨c,hc⟩: ∃c,c=(i+j) / 2:=⟨_,rfl⟩;rw[<-hc]at hh;simp only[go_sem,simprocAttr,h10,h11,hst,hh];refine⟨λhlt=>?_,λhge=>?_⟩
  .obtain⟨x,hxc⟩:=get_some (show c-m<B.length by omega);have e1:ys[c]?=some x:=(eb c (by omega) (by omega)).trans hxc;have hxm:=hmem x (acn hxc);simp only[go_sem,simprocAttr,ak hid,aO hid,aco,acj,e1,ea,acm];refine⟨.of (by kernel_rfl),by omega,by omega,aD.go (gd:=none) (hcmp x hxm v hvm) ?_⟩;simp only[go_sem,simprocAttr];refine⟨λhl=>.here (j-(c+1)) (by omega) ⟨c+1,j,ag (N:=1048577) (by omega) (by simp[au]),h11,rfl,by omega,by omega,hjb,λy _ hy=>?_,g2,by simp only[go_sem,simprocAttr,hst]⟩,λhl=>.here (c-i) (by omega) ⟨i,c,h10,rfl,rfl,hmi,by omega,by omega,g1,λy hy=>?_,by simp only[go_sem,simprocAttr,hst]⟩⟩
   .rw[show c+1-m-1=c-m by omega,hxc]at hy;cases hy;exact decide_eq_true hl
   .rw[hxc]at hy;cases hy;exact decide_eq_false hl
  grind
 simp only[go_sem,simprocAttr];have hps:=AG hw hB (i:=i-m) (v:=v) (by omega) (λx h0 hx=>hw.asym _ _ (g1 x h0 hx)) g2;refine ae.cB [0,10] (λk D=>∃ d:Nat,D.env 13= .int .i64 (a+d:Nat)/\k=i-m-d/\d<=i-m/\D.st=σ.set id (cC (dJ P B Q v d))) (i-m) ?_ λk D ⟨d,h13,hk,hd,hstD⟩=>?_
 .simp only[go_sem,simprocAttr];exact⟨0,rfl,rfl,Nat.zero_le _,by grind [dJ,cC,fN]⟩
 have w2:IntKind.i64.wrap ((i:Int)-1)=(i:Int)-1:=aJ (by omega);unfold cC at hstD;simp only[go_sem,simprocAttr,h13,h10,hstD,w2];refine⟨λhlt=>?_,λhge=>bu.ret ?_⟩
 .obtain⟨x,hxd⟩:=get_some (show d<B.length by omega);have q1:=EU P B Q v (k:=d) (by omega);have q2:=HD P B Q v x hxd;have q3:=Ul P B Q v x hxd;have hln:(dJ P B Q v d).length=n:=by grind [dJ]
  rw[<-ha]at q1 q2 q3;generalize dJ P B Q v d=zs at *;have w3:IntKind.i64.wrap (((a+d:Nat):Int)+1)=((a+d+1:Nat):Int):=by grind [aJ]
  simp only[go_sem,simprocAttr,cU hidl,mu hidl,eg hidl,w3,aco,acj,q1,q2,acm,acr];refine⟨.of (by kernel_rfl),by omega,by omega,by omega,by omega,tf (by grind),.here (i-m-(d+1)) (by omega) ⟨d+1,(by simp only[go_sem,simprocAttr];rfl),rfl,by omega,?_⟩⟩;rw[<-q3];simp only[go_sem,simprocAttr,cC];simp
 .have hdi:d=i-m:=by omega
  subst hdi;simp only[go_sem,simprocAttr,hstD];exact⟨_,.refl _,by simp,_,EB,E6 hw hB hps.1 hps.2,by simp[cC,dJ]⟩
theorem Ot {f:Pkg->Pkg->Int}(hw:lY (ltF f))(σ:ab)(id n:Nat)(P X Q:List Pkg)(v:Pkg)(a m b:Nat)(ha:a=P.length)(hm:m=P.length+X.length)(hb:b=P.length+X.length+1)(hn:n=P.length+X.length+1+Q.length)(hx:n<=1048576)(h1:X.length≠1)
  (hB:dm (ltF f) X) (hid:σ[id]?=some (cC (P++X++v::Q))) (g:FuncId) (caps:List AV) (hcmp:uh W0 f (P++X++v::Q) g caps):
  aP prog W0 248 [.row 51 id 0 n,.int .i64 a,.int .i64 m,.int .i64 b,.fn g caps] σ λr σ'=>∃ C,C.Perm (X++[v])/\dm (ltF f) C/\σ'=σ.set id (cC (P++C++Q)):=by
 have hidl:id<σ.length:=(acf.1 hid).1;refine bY [] [] func248 rfl rfl ntmps248 rfl rfl λhs=>?_
 have w0:IntKind.i64.wrap ((m:Int)-a)=(X.length:Int):=by grind [aJ]
 have w1:IntKind.i64.wrap ((b:Int)-m)=1:=by grind [aJ]
 have hx1:((X.length:Int)==1)=false:=by grind
 have hx2: ¬((X.length:Int)=1):=by omega
 simp only[go_sem,simprocAttr,w0,w1,hx1];obtain⟨ys,hys⟩: ∃ys,ys=P++X++v::Q:=⟨_,rfl⟩;rw[<-hys]at hid hcmp;have hyl:ys.length=n:=by grind
 have ea:ys[m]?=some v:=by grind
 have eb: ∀c,a<=c->c<m->ys[c]?=X[c-a]?:=λc h1 h2=>by
  grind
 have hmem: ∀x∈X,x∈ys:=λx h=>by simp_all
 have hvm:v∈ys:=by simp_all
 unfold cC at hid;refine ae.at [0,2,4] (λE=>∃ i:Nat,E.env 14= .int .i64 i/\a<=i/\i<=m/\(∀x,0<i-a->X[i-a-1]?=some x->ltF f v x=false)/\(∀x,X[i-a]?=some x->ltF f v x=true)/\E.st=σ) ?_ λE ⟨i,h14,hmi,hib,g1,g2,hst⟩=>?_
 .refine ae.cB [0,2,4] (λk E=>∃ i j:Nat,E.env 14= .int .i64 i/\E.env 15= .int .i64 j/\k=j-i/\a<=i/\i<=j/\j<=m/\(∀x,0<i-a->X[i-a-1]?=some x->ltF f v x=false)/\(∀x,X[j-a]?=some x->ltF f v x=true)/\E.st=σ) (m-a) ?_ λk E ⟨i,j,h14,h15,hk,hmi,hij,hjb,g1,g2,hst⟩=>?_
  .simp only[go_sem,simprocAttr];refine⟨a,m,rfl,rfl,rfl,acw _,by omega,acw _,λx h=>by omega,λx h=>?_⟩;simp_all
  have hh:=pA (i:=i) (j:=j) (by omega);obtain⟨c,hc⟩: ∃c,c=(i+j) / 2:=⟨_,rfl⟩;rw[<-hc]at hh;simp only[go_sem,simprocAttr,h14,h15,hst,hh];refine⟨λhlt=>?_,λhge=>?_⟩
  .obtain⟨x,hxc⟩:=get_some (show c-a<X.length by omega);have e1:ys[c]?=some x:=(eb c (by omega) (by omega)).trans hxc;have hxm:=hmem x (acn hxc);simp only[go_sem,simprocAttr,ak hid,aO hid,aco,acj,e1,ea,acm];refine⟨.of (by kernel_rfl),by omega,by omega,aD.go (gd:=none) (hcmp v hvm x hxm) ?_⟩;simp only[go_sem,simprocAttr];refine⟨λhl=>.here (j-(c+1)) (by omega) ⟨c+1,j,ag (N:=1048577) (by omega) (by simp[au]),h15,rfl,by omega,by omega,hjb,λy _ hy=>?_,g2,by simp only[go_sem,simprocAttr,hst]⟩,λhl=>.here (c-i) (by omega) ⟨i,c,h14,rfl,rfl,hmi,by omega,by omega,g1,λy hy=>?_,by simp only[go_sem,simprocAttr,hst]⟩⟩
   .rw[show c+1-a-1=c-a by omega,hxc]at hy;cases hy;exact decide_eq_false (by omega)
   .rw[hxc]at hy;cases hy;exact decide_eq_true (by omega)
  grind
 simp only[go_sem,simprocAttr];have hps:=AG hw hB (i:=i-a) (v:=v) (by omega) g1 (λx hx=>hw.asym _ _ (g2 x hx));refine ae.cB [0,14] (λk D=>∃ d:Nat,D.env 17= .int .i64 (a+d:Nat)/\k=d/\i-a<=d/\d<=X.length/\D.st=σ.set id (cC (dJ P X Q v d))) X.length ?_ λk D ⟨d,h17,hk,hd,hdl,hstD⟩=>?_
 .simp only[go_sem,simprocAttr];exact⟨X.length,by simp_all,rfl,by omega,acw _,by grind [dJ,cC,fN]⟩
 unfold cC at hstD;simp only[go_sem,simprocAttr,h17,h14,hstD];refine⟨λhlt=>?_,λhge=>bu.ret ?_⟩
 .obtain⟨e,rfl⟩: ∃e,d=e+1:=⟨d-1,by omega⟩;obtain⟨x,hxd⟩:=get_some (show e<X.length by omega);have q1:=EU P X Q v (k:=e+1) (by omega);have q2:=I3 P X Q v x hxd;have q3:=UK P X Q v x hxd;have hln:(dJ P X Q v (e+1)).length=n:=by rw[dJ,hn];grind
  rw[<-ha]at q1 q2 q3;rw[Nat.add_assoc]at q3;generalize dJ P X Q v (e+1)=zs at *;have w3:IntKind.i64.wrap (((a+(e+1):Nat):Int)-1)=((a+e:Nat):Int):=by grind [aJ]
  simp only[go_sem,simprocAttr,cU hidl,mu hidl,eg hidl,w3,aco,acj,q1,q2,acm,acr];refine⟨.of (by kernel_rfl),by omega,by omega,by omega,by omega,tf (by grind),.here e (by omega) ⟨e,(by simp only[go_sem,simprocAttr]),rfl,by omega,by omega,?_⟩⟩;rw[<-q3];simp only[go_sem,simprocAttr,cC];simp
 .have hdi:d=i-a:=by omega
  subst hdi;simp only[go_sem,simprocAttr,hstD];exact⟨_,.refl _,by simp,_,EB.trans (List.perm_append_singleton v X).symm,E6 hw hB hps.1 hps.2,by grind [dJ]⟩
theorem EL {f:Pkg->Pkg->Int}(hw:lY (ltF f))(g:FuncId)(caps:List AV): ∀L,Xk W0 f g caps L:=by
 intro L
 induction L with
 |zero=>intro σ id n P A B Q a m b ha hm hb hn hx hA hB hL;omega
 |succ L ih=>
 intro σ id n P A B Q a m b ha hm hb hn hx hA0 hB0 hL hA hB hid hcmp;have hidl:id<σ.length:=(acf.1 hid).1;by_cases c1:A.length=1
 .obtain⟨v,rfl⟩:=acA.1 c1;have:=NB (W0:=W0) hw σ id n P B Q v a m b ha (by omega) (by omega) (by omega) hx hB (by simp_all) g caps (by simp_all);simp_all
 by_cases c2:B.length=1
 .obtain⟨v,rfl⟩:=acA.1 c2;have:=Ot (W0:=W0) hw σ id n P A Q v a m b ha hm (by omega) (by omega) hx c1 hA (by simp_all) g caps (by simp_all);omega
 refine bY [] [] func248 rfl rfl ntmps248 rfl rfl λhs=>?_
 have w0:IntKind.i64.wrap ((m:Int)-a)=(A.length:Int):=by grind [aJ]
 have w1:IntKind.i64.wrap ((b:Int)-m)=(B.length:Int):=by grind [aJ]
 have hx1:((A.length:Int)==1)=false:=by grind
 have hx2: ¬((A.length:Int)=1):=by omega
 have hx3:((B.length:Int)==1)=false:=by grind
 have hx4: ¬((B.length:Int)=1):=by omega
 have w2:=pA (i:=a) (j:=b) (by omega);obtain⟨mid,hmid⟩: ∃mid,mid=(a+b) / 2:=⟨_,rfl⟩;rw[<-hmid]at w2;have w3:IntKind.i64.wrap ((mid:Int)+m)=((mid+m:Nat):Int):=by grind [aJ]
 simp only[go_sem,simprocAttr,w0,w1,hx1,hx3,w2,w3];obtain⟨ys,hys⟩: ∃ys,ys=P++A++B++Q:=⟨_,rfl⟩;rw[<-hys]at hid hcmp;have hyl:ys.length=n:=by grind
 have ea: ∀c,a<=c->c<m->ys[c]?=A[c-a]?:=λc h1 h2=>by
  grind
 have eb: ∀c,m<=c->c<b->ys[c]?=B[c-m]?:=λc h1 h2=>by
  grind
 have hma: ∀x∈A,x∈ys:=λx h=>by simp_all
 have hmb: ∀x∈B,x∈ys:=λx h=>by simp_all
 let H1:Nat->Prop:=λs=>∀ x y,0<s-a->A[s-a-1]?=some x->B[mid-s]?=some y->ltF f y x=false
 let H2:Nat->Prop:=λr=>∀ x y,0<mid-r->A[r-a]?=some x->B[mid-r-1]?=some y->ltF f y x=true
 refine cc.at [0,1,2,3,4,18,19] (by kernel_rfl) (λE=>∃ s r:Nat,E.env 20= .int .i64 s/\E.env 21= .int .i64 r/\a<=s/\s<=r/\r<=m/\r<=mid/\mid-s<=B.length/\H1 s/\H2 r/\E.st=σ) (λhgt=>?_) (λhle=>?_) λE ⟨s0,r0,h20,h21,k1,k2,k3,k4,k5,k6,k7,hst⟩=>?_
 .have hgt:=of_decide_eq_true hgt;have w4:IntKind.i64.wrap (((mid+m:Nat):Int)-b)=((mid+m-b:Nat):Int):=by grind [aJ]
  simp only[go_sem,simprocAttr,w4];refine⟨mid+m-b,mid,rfl,rfl,by omega,by omega,by omega,acw _,by omega,λx y h1 h2 h3=>?_,λx y h1 h2 h3=>by omega⟩;grind
 .have hle:=of_decide_eq_false hle;simp only[go_sem,simprocAttr];refine⟨a,m,rfl,rfl,by omega,by omega,by omega,by omega,by omega,λx y h1 h2 h3=>by omega,λx y h1 h2 h3=>?_⟩;simp_all
 have w5:IntKind.i64.wrap (((mid+m:Nat):Int)-1)=((mid+m-1:Nat):Int):=by grind [aJ]
 unfold cC at hid;simp only[go_sem,simprocAttr,w5];refine ae.at [0,1,2,3,4,18,19,22] (λE=>∃ s:Nat,E.env 20= .int .i64 s/\a<=s/\s<=m/\s<=mid/\mid-s<=B.length/\H1 s/\H2 s/\E.st=σ) ?_ λE ⟨s,h20,k1,k2,k3,k4,g1,g2,hst⟩=>?_
 .refine ae.cB [0,1,2,3,4,18,19,22] (λk E=>∃ s r:Nat,E.env 20= .int .i64 s/\E.env 21= .int .i64 r/\k=r-s/\a<=s/\s<=r/\r<=m/\r<=mid/\mid-s<=B.length/\H1 s/\H2 r/\E.st=σ) (r0-s0) ?_ λk E ⟨s,r,h20,h21,hk,k1,k2,k3,k4,k5,k6,k7,hst⟩=>?_
  .simp only[go_sem,simprocAttr,h20,h21,hst];grind
  have hh:=pA (i:=s) (j:=r) (by omega);obtain⟨c,hc⟩: ∃c,c=(s+r) / 2:=⟨_,rfl⟩;rw[<-hc]at hh;simp only[go_sem,simprocAttr,h20,h21,hst,hh];refine⟨λhlt=>?_,λhge=>?_⟩
  .obtain⟨x,hxc⟩:=get_some (show c-a<A.length by omega);obtain⟨y,hyc⟩:=get_some (show mid-c-1<B.length by omega);have e1:ys[c]?=some x:=(ea c (by omega) (by omega)).trans hxc;have e2:ys[mid+m-1-c]?=some y:=(eb _ (by omega) (by omega)).trans (by rw[show mid+m-1-c-m=mid-c-1 by omega];exact hyc);have hxm:=hma x (acn hxc);have hym:=hmb y (acn hyc);have w6:IntKind.i64.wrap (((mid+m-1:Nat):Int)-c)=((mid+m-1-c:Nat):Int):=by rw[aJ (by omega)];omega
   simp only[go_sem,simprocAttr,w6,ak hid,aO hid,aco,acj,acr,e1,e2,acm];refine⟨.of (by kernel_rfl),by omega,by omega,aD.go (gd:=none) (hcmp y hym x hxm) ?_⟩;simp only[go_sem,simprocAttr];refine⟨λhl=>.here (r-(c+1)) (by omega) ⟨c+1,r,ag (N:=1048577) (by omega) (by simp[au]),h21,rfl,by omega,by omega,k3,k4,by omega,λu v _ hu hv=>?_,k7,by simp only[go_sem,simprocAttr,hst]⟩,λhl=>.here (c-s) (by omega) ⟨s,c,h20,rfl,rfl,k1,by omega,by omega,by omega,k5,k6,λu v _ hu hv=>?_,by simp only[go_sem,simprocAttr,hst]⟩⟩
   .rw[show c+1-a-1=c-a by omega,hxc]at hu;rw[show mid-(c+1)=mid-c-1 by omega,hyc]at hv;cases hu;cases hv;exact decide_eq_false (by omega)
   .rw[hxc]at hu;rw[hyc]at hv;cases hu;cases hv;exact decide_eq_true (by omega)
  grind
 have w7:IntKind.i64.wrap (((mid+m:Nat):Int)-s)=((mid+m-s:Nat):Int):=by rw[aJ (by omega)];omega
 have hcr:=aaa hw hA hB (s:=s-a) (e:=mid-s) g1 (λx y h1 h2 h3=>g2 x y h1 h2 h3) (by omega) k4;obtain⟨A1,hA1⟩: ∃A1,A1=A.take (s-a):=⟨_,rfl⟩;obtain⟨A2,hA2⟩: ∃A2,A2=A.drop (s-a):=⟨_,rfl⟩;obtain⟨B1,hB1⟩: ∃B1,B1=B.take (mid-s):=⟨_,rfl⟩;obtain⟨B2,hB2⟩: ∃B2,B2=B.drop (mid-s):=⟨_,rfl⟩;have hAA:A=A1++A2:=by simp_all
 have hBB:B=B1++B2:=by grind [ach]
 have l1:A1.length=s-a:=by rw[hA1,acI];omega
 have l2:B1.length=mid-s:=by grind
 have l3:A2.length=A.length-(s-a):=by grind
 have l4:B2.length=B.length-(mid-s):=by grind
 rw[<-hA1,<-hA2,<-hB1,<-hB2]at hcr;simp only[go_sem,simprocAttr,h20,w7];refine cc.at [0,1,3,4,18,20,24] (by kernel_rfl) (λE=>E.st=σ.set id (cC (P++A1++B1++A2++B2++Q))) (λhr=>?_) (λhr=>?_) λE hst=>?_
 .simp only[acz,decide_eq_true_eq]at hr;have hd:=Na (W0:=W0) σ id n (P++A1) A2 B1 (B2++Q) s m (mid+m-s) (by grind) (by grind) (by simp;omega) (by omega) (by omega) (by grind) hx (by grind [cC]) g caps;simp only[go_sem,simprocAttr,h20];refine aj.goes (by simp only[go_sem,simprocAttr];exact hst) hd λr σ1 hσ=>?_
  simp only[go_sem,simprocAttr];grind
 .simp only[go_sem,simprocAttr,hst]
  have:A2=[]\/B1=[]:=by
   rcases acG s m with h|h
   .right;simp only[acC,decide_eq_false_iff_not]at hr;rcases hr with h'|h'
    .omega
    .exact acg (by omega)
   .left;exact acg (by omega)
  have e:P++A1++B1++A2++B2++Q=ys:=by
   rw[hys,hAA,hBB];rcases this with e|e<;>rw[e]<;>simp
  grind [cC,fN]
 have hcmp1:uh W0 f (P++A1++B1++(A2++B2++Q)) g caps:=λx hx y hy=>hcmp x (by grind) y (by grind)
 simp only[go_sem,simprocAttr,h20];refine cc.at [0,3,4,18,24] (by kernel_rfl) (λE=>∃ C1:List Pkg,C1.Perm (A1++B1)/\dm (ltF f) C1/\E.st=σ.set id (cC (P++C1++A2++B2++Q))) (λhr=>?_) (λhr=>?_) λE ⟨C1,p1,r1,hst⟩=>?_
 .simp only[acz,decide_eq_true_eq]at hr;have hd:=ih (σ.set id (cC (P++A1++B1++A2++B2++Q))) id n P A1 B1 (A2++B2++Q) a s mid ha (by omega) (by omega) (by grind) hx (by omega) (by omega) (by omega) (hA.sublist (by grind)) (hB.sublist (by grind)) (by grind) hcmp1;simp only[go_sem,simprocAttr,h20];refine aj.goes (by simp only[go_sem,simprocAttr];grind) hd λr σ1 ⟨C1,p1,r1,hσ⟩=>?_
  simp only[go_sem,simprocAttr];grind [acs]
 .simp only[go_sem,simprocAttr,hst]
  have:A1=[]\/B1=[]:=by
   rcases acG a s with h|h
   .grind
   .left;exact acg (by omega)
  refine⟨A1++B1,.refl _,?_,by grind⟩;rcases this with e|e
  .grind
  grind
 have lc:=p1.length_eq;rw[acq]at lc;have hcmp2:uh W0 f (P++C1++A2++B2++Q) g caps:=λx hx y hy=>hcmp x (by rw[hys,hAA,hBB];simp only[acp,p1.mem_iff]at hx ⊢;grind) y (by rw[hys,hAA,hBB];simp only[acp,p1.mem_iff]at hy ⊢;grind)
 have fin: ∀C2:List Pkg,C2.Perm (A2++B2)->dm (ltF f) C2-> ∃C,C.Perm (A++B)/\dm (ltF f) C/\σ.set id (cC (P++C1++C2++Q))=σ.set id (cC (P++C++Q)):=λC2 p2 r2=>by
  obtain⟨m1,m2⟩:=HG hcr p1 p2 r1 r2;grind
 simp only[go_sem,simprocAttr];refine⟨λhr=>?_,λhr=>?_⟩
 .have hr:mid<mid+m-s/\mid+m-s<b:=by grind
  have hd:=ih (σ.set id (cC (P++C1++A2++B2++Q))) id n (P++C1) A2 B2 Q mid (mid+m-s) b (by grind) (by simp;omega) (by grind) (by grind) hx (by omega) (by omega) (by omega) (hA.sublist (by grind)) (hB.sublist (by grind)) (List.getElem?_set_self hidl) hcmp2;refine aj.goes (by simp only[go_sem,simprocAttr];grind) hd λr σ1 ⟨C2,p2,r2,hσ⟩=>?_
  rw[acs]at hσ;simp only[go_sem,simprocAttr];refine bu.normal ?_;obtain⟨C,q1,q2,q3⟩:=fin C2 p2 r2;simp only[go_sem,simprocAttr,hσ];refine⟨_,.refl _,by simp,C,q1,q2,?_⟩;grind
 .refine bu.normal ?_
  have:A2=[]\/B2=[]:=by
   rcases acG mid (mid+m-s)with h|h
   .right
    have: ¬(mid+m-s<b):=λh'=>by grind
    exact acg (by omega)
   .left;exact acg (by omega)
  obtain⟨C,q1,q2,q3⟩:=fin (A2++B2) (.refl _) (by
   rcases this with e|e
   .grind
   grind)
  simp only[go_sem,simprocAttr,hst];refine⟨_,.refl _,by simp,C,q1,q2,?_⟩;grind
theorem uh.sub {f:Pkg->Pkg->Int}{xs ys:List Pkg}{g:FuncId}{caps:List AV}(h:uh W0 f xs g caps)(hs: ∀x∈ys,x∈xs):uh W0 f ys g caps:=λa ha b hb=>h a (hs a ha) b (hs b hb)
theorem L1 {f:Pkg->Pkg->Int}(hw:lY (ltF f))(σ:ab)(id n:Nat)(xs:List Pkg)(hn:n=xs.length)(hx:n<40)(hid:σ[id]?=some (cC xs))(g:FuncId)(caps:List AV)(hcmp:uh W0 f xs g caps):
  aP prog W0 203 [.row 51 id 0 n,.int .i64 n,.fn g caps] σ λr σ'=>∃ C,C.Perm xs/\dm (ltF f) C/\σ'=σ.set id (cC C):=by
 have hidl:id<σ.length:=(acf.1 hid).1;have hsl: ∀{C:List Pkg},C.Perm xs->C.length=n:=λh=>by rw[hn];exact h.length_eq
 refine bY [] [] func203 rfl rfl ntmps203 rfl rfl λhs=>?_
 simp only[go_sem,simprocAttr];refine ae.at [0,1,2,6] (λE=>∃ S R:List Pkg,E.env 7= .int .i64 S.length/\(S++R).Perm xs/\dm (ltF f) S/\(S=[]/\n<20\/S.length=20)/\E.st=σ.set id (cC (S++R))) ?_ λE ⟨S,R,h7,hp,hS,hl,hst⟩=>?_
 .refine ae.cB [0,1,2,6] (λk E=>(k=1/\E.env 7= .int .i64 0/\E.env 8= .int .i64 20/\E.st=σ)\/(k=0/\E.env 7= .int .i64 20/\E.env 8= .int .i64 40/\ ∃S R:List Pkg,(S++R).Perm xs/\dm (ltF f) S/\S.length=20/\E.st=σ.set id (cC (S++R)))) 1 ?_ λk E hE=>?_
  .simp only[go_sem,simprocAttr];simp_all
  rcases hE with⟨rfl,h7,h8,hst⟩|⟨rfl,h7,h8,S,R,hp,hS,hl,hst⟩
  .simp only[go_sem,simprocAttr,h7,h8,hst];refine⟨λhle=>?_,λhgt=>⟨[],xs,rfl,.refl _,by simp_all,.inl ⟨rfl,by omega⟩,(fN hid).symm⟩⟩;have hd:=rG (W0:=W0) hw σ id n [] (xs.take 20) (xs.drop 20) 0 20 rfl (by grind) (by simp_all) (by omega) (by simp_all) g caps (hcmp.sub λx h=>by simp_all);refine aj.goes (by simp only[go_sem,simprocAttr];exact hst) hd λr σ1 ⟨C,p,r,hσ⟩=>?_
   simp only[go_sem,simprocAttr,h8];refine .here 0 (by omega) (.inr ⟨rfl,rfl,rfl,C,xs.drop 20,?_,r,by rw[p.length_eq];grind,by rw[hσ];rfl⟩);grind [ach]
  .simp only[go_sem,simprocAttr,h7,h8,hst];grind
 have hlen:=hsl hp;rw[acq]at hlen;have hd:=rG (W0:=W0) hw (σ.set id (cC (S++R))) id n S R [] S.length n rfl (by omega) (by simp_all) (by omega) (by simp_all) g caps (hcmp.sub λx h=>hp.subset (by simp_all));simp only[go_sem,simprocAttr,h7];refine aj.goes (by simp only[go_sem,simprocAttr];exact hst) hd λr σ1 ⟨C,p,r,hσ⟩=>?_
 rw[acs,List.append_nil]at hσ;have hp2:(S++C).Perm xs:=(p.append_left S).trans hp;have hCl:=p.length_eq;have hend:n<=20->dm (ltF f) (S++C):=λh=>by
  rcases hl with⟨e,_⟩|e
  .simp_all
  grind
 simp only[go_sem,simprocAttr];refine ae.cB [0,1,2] (λk E=>(k=1/\E.env 6= .int .i64 20/\E.st=σ.set id (cC (S++C)))\/(k=0/\E.env 6= .int .i64 40/\ ∃D:List Pkg,D.Perm xs/\dm (ltF f) D/\E.st=σ.set id (cC D))) 1 ?_ λk E hE=>?_
 .simp only[go_sem,simprocAttr];simp_all
 rcases hE with⟨rfl,h6,hst⟩|⟨rfl,h6,D,hD1,hD2,hst⟩
 .simp only[go_sem,simprocAttr,h6];refine⟨λhlt=>?_,λhge=>bu.normal ?_⟩
  .refine ae.at [0,1,2,6] (λE=>E.env 7= .int .i64 0/\E.st=σ.set id (cC (S++C))) ?_ λE ⟨h7,hst⟩=>?_
   .refine ae.cB [0,1,2,6] (λk E=>E.env 7= .int .i64 0/\E.env 8= .int .i64 40/\E.st=σ.set id (cC (S++C))) 0 ?_ λk E ⟨h7,h8,hst⟩=>?_
    .simp only[go_sem,simprocAttr,hst]
    simp only[go_sem,simprocAttr,h6,h7,h8,hst];omega
   have h20:S.length=20:=by omega
   have hd:=EL (W0:=W0) hw g caps n (σ.set id (cC (S++C))) id n [] S C [] 0 20 n rfl (by simp_all) (by simp_all) (by simp_all) (by omega) (by omega) (by omega) (by omega) hS r (by simp_all) (hcmp.sub λx h=>hp2.subset (by simp_all));simp only[go_sem,simprocAttr,h6,h7];refine cc.at [0,1,2,6] (by kernel_rfl) (λE=>∃ D:List Pkg,D.Perm xs/\dm (ltF f) D/\E.st=σ.set id (cC D)) (λhr=>?_) (λhr=>?_) λE ⟨D,hD1,hD2,hst⟩=>?_
   .simp only[go_sem,simprocAttr,h7];refine aj.goes (by simp only[go_sem,simprocAttr];exact hst) hd λr σ1 ⟨D,p,r,hσ⟩=>?_
    rw[acs]at hσ;simp only[go_sem,simprocAttr];grind
   .simp_all
   simp only[go_sem,simprocAttr,h6];exact .here 0 (by omega) (.inr ⟨rfl,rfl,D,hD1,hD2,by simp only[go_sem,simprocAttr,hst]⟩)
  .simp only[go_sem,simprocAttr,hst];exact⟨_,.refl _,by simp,_,hp2,hend (by omega),rfl⟩
 .simp only[go_sem,simprocAttr,h6];refine⟨λhlt=>by omega,λhge=>bu.normal ?_⟩;simp only[go_sem,simprocAttr,hst];exact⟨_,.refl _,by simp,_,hD1,hD2,rfl⟩
end Go.Proofs.Tryz
end
section
namespace Go.Av
def yV (p q:Pkg):Int:=if bK p.ver=true/\bK q.ver=true then gF p q else if bK p.ver=true then-1 else if bK q.ver=true then 1 else 0
theorem KT {p q:Pkg}(hp:bK p.ver=true)(hq:bK q.ver=true):yV p q=gF p q:=if_pos ⟨hp,hq⟩
theorem o7 (p q:Pkg):yV q p= -yV p q:=by
 grind [yV,mU]
def ltV (p q:Pkg):Bool:=decide (yV p q<0)
theorem Rm :lY ltV where
 asym x y h:=by
  have:=of_decide_eq_true h;have h2:=o7 x y;exact decide_eq_false (by omega)
 tr x y z h1 h2:=by
  have h1:=of_decide_eq_false h1;have h2:=of_decide_eq_false h2;have e1:=o7 x y;have e2:=o7 y z;have e3:=o7 x z
  have:yV x z<=0:=by
   have a1:yV x y<=0:=by omega
   have a2:yV y z<=0:=by omega
   clear h1 h2 e1 e2 e3
   revert a1 a2
   unfold yV;cases hx:bK x.ver<;>cases hy:bK y.ver<;>cases hz:bK z.ver<;>simp
   exact λa b=>(TT.pkg hx hy hz a b).1
  exact decide_eq_false (by omega)
theorem NY {l:List Pkg}(hv:zk l)(h:dm ltV l):nR l:=by
 unfold nR;refine acK (λ{a b} ha hb hab=>?_) h;have:=of_decide_eq_false hab;rw[KT (hv b hb) (hv a ha)]at this;grind [mU]
end Go.Av
end
