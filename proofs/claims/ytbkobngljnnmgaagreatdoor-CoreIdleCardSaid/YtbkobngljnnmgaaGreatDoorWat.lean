/- What the last text of this claim rests on. No conditions. -/
import Derived.Test.YtbkobngljnnmgaaGreatDoorWah
import Derived.Test.YtbkobngljnnmgaaGreatDoorWap
set_option linter.unusedSimpArgs false
set_option linter.unusedVariables false
open List renaming getElem?_eq_some_iff->acG,eq_nil_of_length_eq_zero->acH,take_append_drop->acI,getElem?_eq_getElem->acJ,getElem?_map->acK,drop_eq_getElem_cons->acL,mem_of_getElem?->acN,mem_append->acP,length_append->acQ,set_set->acS,eq_nil_or_concat->acT,pairwise_append->acU,length_cons->acX,length_eq_one_iff->acZ,concat_eq_append->ac0,mem_iff_getElem->ac2,pairwise_cons->ac3,append_assoc->ac4,perm_middle->ac6,length_take->ac7,mem_cons->ac8
open Option renaming map_some->acM
open Nat renaming zero_add->acO,le_refl->acV,lt_of_le_of_lt->acW,lt_or_ge->ac5
open Int renaming toNat_natCast->acR
open Bool renaming and_eq_true->acY,and_eq_false_iff->ac1
open List.Pairwise renaming imp_of_mem->ac9
open List.Perm renaming append_right->ada,append_left->adb
section
namespace Go.Av
section
variable {α :Type}{lt:α->α->Bool}
structure mA (lt:α->α->Bool):Prop where
 asym: ∀x y,lt x y=true->lt y x=false
 tr: ∀x y z,lt y x=false->lt z y=false->lt z x=false
abbrev dt (lt:α->α->Bool)(l:List α):Prop:=l.Pairwise λx y=>lt y x=false
theorem Un (P Q:List α)(x y:α):(P++x::Q).set P.length y=P++y::Q:=by
 simp_all
theorem Kt (P Q:List α)(x:α):(P++x::Q)[P.length]?=some x:=by simp
theorem yh (P M Q:List α)(x y:α){i j:Nat}(hi:i=P.length)(hj:j=P.length+1+M.length):
  ((P++x::M++y::Q).set i y).set j x=P++y::M++x::Q:=by
 grind [Un]
theorem NB (P M Q:List α)(x y:α){i j:Nat}(hi:i=P.length)(hj:j=P.length+1+M.length):
  ((P++x::M++y::Q).set j x).set i y=P++y::M++x::Q:=by
 grind [List.set_comm,yh]
theorem Nd (hw:mA lt){S1 S2:List α}{v:α}(h:dt lt (S1++S2))(h2: ∀x∈S2,lt v x=true)(h1: ∀u,S1.getLast?=some u->lt v u=false):dt lt (S1++v::S2):=by
 rw[dt,acU]at h ⊢;obtain⟨g1,g2,g3⟩:=h;refine⟨g1,ac3.2 ⟨λx hx=>hw.asym _ _ (h2 x hx),g2⟩,λx hx y hy=>?_⟩;rcases ac8.1 hy with rfl|hy
 .rcases acT S1 with rfl|⟨L,u,rfl⟩
  .cases hx
  .have hu:=h1 u (by simp);rcases acP.1 (by simp_all:x∈L++[u])with hx|hx
   .rw[ac0,acU]at g1;exact hw.tr _ _ _ (g1.2.2 x hx u (by simp)) hu
   simp_all
 simp_all
theorem LW (h: ∀(l:List α),dt lt l->True){l:List α}(hl:dt lt l){i j:Nat}{x y:α}(hij:i<j)(hx:l[i]?=some x)(hy:l[j]?=some y):lt y x=false:=by
 grind [List.pairwise_iff_getElem]
theorem irr (hw:mA lt)(x:α):lt x x=false:=by
 cases h:lt x x
 .rfl
 .rw[hw.asym _ _ h]at h;simp_all
theorem jH (hw:mA lt){l:List α}(hl:dt lt l){i j:Nat}{x y:α}(hij:i<=j)(hx:l[i]?=some x)(hy:l[j]?=some y):lt y x=false:=by
 rcases Nat.lt_or_eq_of_le hij with h|rfl
 .exact LW (λ_ _=>trivial) hl h hx hy
 simp_all[irr]
theorem E2 {l:List α}{n:Nat}{x:α}(h:x∈l.take n): ∃i,i<n/\l[i]?=some x:=by
 obtain⟨i,hi,e⟩:=ac2.1 h;have hl:i<n:=by grind
 refine⟨i,hl,?_⟩;grind
theorem Fi {l:List α}{n:Nat}{x:α}(h:x∈l.drop n): ∃i,n<=i/\l[i]?=some x:=by
 obtain⟨i,hi,e⟩:=ac2.1 h;refine⟨n+i,by omega,?_⟩;grind
theorem aaQ (hw:mA lt){A B:List α}(hA:dt lt A)(hB:dt lt B){s e:Nat}
  (h1: ∀x y,0<s->A[s-1]?=some x->B[e]?=some y->lt y x=false)
  (h2: ∀x y,0<e->A[s]?=some x->B[e-1]?=some y->lt y x=true)
  (hs:s<=A.length) (he:e<=B.length):
  ∀x∈A.take s++B.take e,∀y∈A.drop s++B.drop e,lt y x=false:=by
 intro x hx y hy;rcases acP.1 hx with hx|hx<;>rcases acP.1 hy with hy|hy<;>obtain⟨i,hi,hxi⟩:=E2 hx<;>obtain⟨j,hj,hyj⟩:=Fi hy
 .exact jH hw hA (by omega) hxi hyj
 .obtain⟨u,hu⟩: ∃u,A[s-1]?=some u:=⟨_,acJ (by omega)⟩;have hel:e<B.length:=acW hj (acG.1 hyj).1;obtain⟨w,hwv⟩: ∃w,B[e]?=some w:=⟨_,acJ hel⟩;exact hw.tr _ _ _ (jH hw hA (by omega) hxi hu) (hw.tr _ _ _ (h1 u w (by omega) hu hwv) (jH hw hB hj hwv hyj))
 .obtain⟨u,hu⟩: ∃u,B[e-1]?=some u:=⟨_,acJ (by omega)⟩;have hel:s<A.length:=acW hj (acG.1 hyj).1;obtain⟨w,hwv⟩: ∃w,A[s]?=some w:=⟨_,acJ hel⟩;exact hw.tr _ _ _ (jH hw hB (by omega) hxi hu) (hw.tr _ _ _ (hw.asym _ _ (h2 w u (by omega) hwv hu)) (jH hw hA hj hwv hyj))
 .exact jH hw hB (by omega) hxi hyj
theorem G4 {A1 A2 B1 B2 C1 C2:List α}(hc: ∀x∈A1++B1,∀y∈A2++B2,lt y x=false)
  (p1:C1.Perm (A1++B1)) (p2:C2.Perm (A2++B2)) (r1:dt lt C1) (r2:dt lt C2):
  dt lt (C1++C2)/\(C1++C2).Perm ((A1++A2)++(B1++B2)):=by
 refine⟨acU.2 ⟨r1,r2,λx hx y hy=>hc x (p1.mem_iff.1 hx) y (p2.mem_iff.1 hy)⟩,(p1.append p2).trans ?_⟩;grind [adb,ada,List.perm_append_comm]
theorem GU (hw:mA lt){B:List α}{v:α}{i:Nat}(hB:dt lt B)(h1: ∀x∈B.take i,lt v x=false)(h2: ∀x∈B.drop i,lt x v=false):dt lt (B.take i++v::B.drop i):=by
 grind [acI,ac3]
theorem GJ {B:List α}{v:α}{i:Nat}:(B.take i++v::B.drop i).Perm (v::B):=by
 grind [ac6,acI]
theorem AO (hw:mA lt){X:List α}{v:α}{i:Nat}(hX:dt lt X)(hi:i<=X.length)
  (h1: ∀x,0<i->X[i-1]?=some x->lt v x=false) (h2: ∀x,X[i]?=some x->lt x v=false):
  (∀x∈X.take i,lt v x=false)/\ ∀x∈X.drop i,lt x v=false:=by
 refine⟨λx hx=>?_,λx hx=>?_⟩
 .obtain⟨j,hj,hxj⟩:=E2 hx;obtain⟨u,hu⟩: ∃u,X[i-1]?=some u:=⟨_,acJ (by omega)⟩;exact hw.tr _ _ _ (jH hw hX (by omega) hxj hu) (h1 u (by omega) hu)
 .obtain⟨j,hj,hxj⟩:=Fi hx;have hl:i<X.length:=acW hj (acG.1 hxj).1;obtain⟨u,hu⟩: ∃u,X[i]?=some u:=⟨_,acJ hl⟩;exact hw.tr _ _ _ (h2 u hu) (jH hw hX hj hu hxj)
def dN (P X Q:List α)(v:α)(k:Nat):List α:=P++X.take k++v::X.drop k++Q
theorem Vq (P X Q:List α)(v x:α){k:Nat}(hx:X[k]?=some x):((dN P X Q v k).set (P.length+k) x).set (P.length+k+1) v=dN P X Q v (k+1):=by
 obtain⟨hk,e⟩:=acG.1 hx;have hd:X.drop k=x::X.drop (k+1):=by grind [acL]
 have ht:X.take (k+1)=X.take k++[x]:=by grind
 unfold dN;have:=yh (P++X.take k) [] (X.drop (k+1)++Q) v x (i:=P.length+k) (j:=P.length+k+1) (by grind) (by grind);simp_all
theorem UA (P X Q:List α)(v x:α){k:Nat}(hx:X[k]?=some x):((dN P X Q v (k+1)).set (P.length+k+1) x).set (P.length+k) v=dN P X Q v k:=by
 obtain⟨hk,e⟩:=acG.1 hx;grind [List.drop,acL,List.take_add_one,dN,NB]
theorem GN (P X Q:List α)(v:α){k:Nat}(hk:k<=X.length):(dN P X Q v k)[P.length+k]?=some v:=by
 simp_all[dN]
theorem Ho (P X Q:List α)(v x:α){k:Nat}(hx:X[k]?=some x):(dN P X Q v k)[P.length+k+1]?=some x:=by
 obtain⟨hk,e⟩:=acG.1 hx;have hd:X.drop k=x::X.drop (k+1):=by grind [acL]
 unfold dN;grind
theorem JI (P X Q:List α)(v x:α){k:Nat}(hx:X[k]?=some x):(dN P X Q v (k+1))[P.length+k]?=some x:=by
 obtain⟨hk,e⟩:=acG.1 hx;unfold dN;grind
def gu (P X M Y Q:List α)(k:Nat):List α:=P++(Y.take k++X.drop k)++M++(X.take k++Y.drop k)++Q
theorem GK (P X M Y Q:List α):gu P X M Y Q 0=P++X++M++Y++Q:=by simp[gu]
theorem Hn (P X M Y Q:List α){n:Nat}(h1:X.length=n)(h2:Y.length=n):gu P X M Y Q n=P++Y++M++X++Q:=by
 grind [gu]
theorem D0 (P X M Y Q:List α){k:Nat}{x y:α}(hl:X.length=Y.length)(hx:X[k]?=some x)(hy:Y[k]?=some y):
  (gu P X M Y Q k)[P.length+k]?=some x/\(gu P X M Y Q k)[P.length+X.length+M.length+k]?=some y/\
  ((gu P X M Y Q k).set (P.length+k) y).set (P.length+X.length+M.length+k) x=gu P X M Y Q (k+1):=by
 obtain⟨hk,e⟩:=acG.1 hx;obtain⟨hk2,e2⟩:=acG.1 hy;have hd:X.drop k=x::X.drop (k+1):=by grind [acL]
 have hd2:Y.drop k=y::Y.drop (k+1):=by grind [acL]
 have ht:X.take (k+1)=X.take k++[x]:=by grind
 have ht2:Y.take (k+1)=Y.take k++[y]:=by grind
 have e0:gu P X M Y Q k=(P++Y.take k)++x::(X.drop (k+1)++M++X.take k)++y::(Y.drop (k+1)++Q):=by
  grind [gu]
 have e1:gu P X M Y Q (k+1)=(P++Y.take k)++y::(X.drop (k+1)++M++X.take k)++x::(Y.drop (k+1)++Q):=by
  grind [gu]
 have l1:P.length+k=(P++Y.take k).length:=by grind
 have l2:P.length+X.length+M.length+k=(P++Y.take k).length+1+(X.drop (k+1)++M++X.take k).length:=by grind
 refine⟨?_,?_,?_⟩
 .grind [Kt]
 .rw[e0,l2,show(P++Y.take k).length+1+(X.drop (k+1)++M++X.take k).length=(P++Y.take k++x::(X.drop (k+1)++M++X.take k)).length by grind];grind
 grind [yh]
end
end Go.Av
end
section
namespace Go.Proofs.Tryz
open Go Go.Av
set_option maxRecDepth 10000
variable {W0 :World}
def cJ (ys:List Pkg):Option bJ:=some (.cells 51 (ys.map ax))
def ltF (f:Pkg->Pkg->Int)(x y:Pkg):Bool:=decide (f x y<0)
def uz (W0:World)(f:Pkg->Pkg->Int)(xs:List Pkg)(g:FuncId)(caps:List AV):Prop:=∀ a∈xs,∀b∈xs,ai prog W0 g ([ax a,ax b]++caps) (.int .i64 (f a b))
theorem s6 {l:List AV}{i:Nat}(h:i<l.length):(l[i]?.bind λx=>some x).isSome=true:=by
 simp_all
theorem qO {f:Pkg->Pkg->Int}(hw:mA (ltF f))(σ:ab)(id n:Nat)(P A Q:List Pkg)(lo hi:Nat)(hlo:lo=P.length)(hhi:hi=P.length+A.length)(hn:n=(P++A++Q).length)(hx:n<=1048576)(hid:σ[id]?=some (cJ (P++A++Q)))(g:FuncId)(caps:List AV)
  (hcmp:uz W0 f (P++A++Q) g caps):
  aS prog W0 247 [.row 51 id 0 n,.int .i64 lo,.int .i64 hi,.fn g caps] σ λr σ'=>∃ C,C.Perm A/\dt (ltF f) C/\σ'=σ.set id (cJ (P++C++Q)):=by
 have hidl:id<σ.length:=(acG.1 hid).1;have hn':n=P.length+A.length+Q.length:=by grind
 refine bZ [] [] func247 rfl rfl ntmps247 rfl rfl λhs=>?_
 simp only[go_sem,simprocAttr];refine ae.cC [0,1,2,3] (λk B=>∃ (i:Nat) (S R:List Pkg),B.env 8= .int .i64 i/\k=hi-i/\(S++R).Perm A/\dt (ltF f) S/\i=lo+max 1 S.length/\(A≠[]->1<=S.length)/\B.st=σ.set id (cJ (P++S++R++Q))) (hi-(lo+1)) ?_ λk B ⟨i,S,R,h8,hk,hp,hr,hi1,hne,hst⟩=>?_
 .simp only[go_sem,simprocAttr];refine⟨lo+1,A.take 1,A.drop 1,ag (N:=1048577) (by omega) (by simp[aq]),rfl,by rw[acI],?_,?_,?_,?_⟩
  .rcases A with _|⟨a,A⟩<;>simp[dt]
  .grind
  .grind
  grind [acI,fV]
 have hpl:=hp.length_eq;rw[acQ]at hpl;unfold cJ at hst;simp only[go_sem,simprocAttr,h8];refine⟨λhih=>?_,λhih=>bz.normal ?_⟩
 .have hA:A≠[]:=by grind
  have hS:=hne hA;obtain⟨v,R',rfl⟩: ∃v R',R=v::R':=by
   rcases R with _|⟨v,R'⟩
   .simp_all
   simp_all
  have hsub: ∀x∈S++v::R',x∈P++A++Q:=λx hx=>by
   grind
  simp only[acX]at hpl;refine ae.ats [0,1,2,3,8] (λB=>∃ S',S'.Perm (v::S)/\dt (ltF f) S'/\B.st=σ.set id (cJ (P++S'++R'++Q))) ?_ λB ⟨S',hp',hr',hst⟩=>?_
  .refine ae.cC [0,1,2,3,8] (λk B=>∃ S1 S2,B.env 9= .int .i64 (k:Nat)/\k=lo+S1.length/\S1++S2=S/\(∀x∈S2,ltF f v x=true)/\B.st=σ.set id (cJ (P++S1++v::S2++R'++Q))) i ?_ λk B ⟨S1,S2,h9,hk1,hS12,hlt,hst⟩=>?_
   .simp only[go_sem,simprocAttr];exact⟨S,[],by omega,by simp,by simp,by grind [cJ]⟩
   have hsl:S1.length+S2.length=S.length:=by grind
   obtain⟨ys,hys⟩: ∃ys,ys=P++S1++v::S2++R'++Q:=⟨_,rfl⟩;rw[<-hys]at hst;have hyl:ys.length=n:=by grind
   have ha:ys[k]?=some v:=by
    grind
   obtain⟨b,hb⟩:=get_some (show k-1<ys.length by omega);have hw1:IntKind.i64.wrap ((k:Int)-1)=(k:Int)-1:=aG (by omega);have hnn:((k:Int)-1).toNat=k-1:=by omega
   have ham:v∈P++A++Q:=hsub v (by simp);have hbm:b∈P++A++Q:=by
    have hbm:=acN hb;grind
   unfold cJ at hst;simp only[go_sem,simprocAttr,h9,hst,cK hidl,ma hidl,hw1,hnn,acO,acK,ha,hb,acM];refine⟨.of (by kernel_rfl),λ_=>by omega,λ_=>by omega,aD.go (λ_=>hcmp v ham b hbm) ?_⟩;simp only[go_sem,simprocAttr,h9,hst];have hlast:lo<k->S1.getLast?=some b:=λh=>by
    rcases acT S1 with rfl|⟨L,u,rfl⟩
    .simp_all
    .simp only[ac0,List.getLast?_concat];rw[hys,show P++L.concat u++v::S2++R'++Q=(P++L)++u::(v::S2++R'++Q) by simp,show k-1=(P++L).length by simp_all,Kt]at hb;exact hb
   refine⟨λhl=>?_,λhge=>⟨S1++v::S2,?_,?_,?_⟩⟩
   .simp only[acY,decide_eq_true_eq]at hl;have hlk:lo<k:=hl.1;have hfl:=hl.2;have hlS:=hlast hlk;obtain⟨L,u,rfl⟩: ∃L u,S1=L++[u]:=by
     rcases acT S1 with rfl|⟨L,u,rfl⟩
     .simp_all
     simp_all
    have:u=b:=by simp_all
    subst this;simp only[go_sem,simprocAttr,cK hidl,ma hidl,ey hidl,hw1,hnn,acO,acK,ha,hb,acM];refine⟨.of (by kernel_rfl),by omega,by omega,by omega,by omega,?_,.here (k-1) (by omega) ⟨L,u::S2,?_,by simp_all,by simp_all,?_,?_⟩⟩
    .grind
    .simp only[go_sem,simprocAttr];congr 1;omega
    .intro x hx;rcases ac8.1 hx with rfl|hx
     .exact decide_eq_true hfl
     simp_all
    .simp only[go_sem,simprocAttr,cJ];simp_all
   .grind
   .refine Nd hw (by simp_all) hlt λu hu=>?_
    by_cases hlk:lo<k
    .have:=hlast hlk;rw[hu]at this;cases this;simp only[ac1,decide_eq_false_iff_not]at hge;rcases hge with h|h
     .omega
     .exact decide_eq_false h
    simp_all
   grind [cJ]
  have hpl':=hp'.length_eq;simp only[acX]at hpl';simp only[go_sem,simprocAttr,h8];exact .here (hi-(i+1)) (by omega) ⟨i+1,S',R',ag hih (by grind [aq]),rfl,((hp'.append_right R').trans ac6.symm).trans hp,hr',by omega,λ_=>by omega,by simp only[go_sem,simprocAttr,hst]⟩
 .have hR:R=[]:=by
   rcases A with _|⟨a,A⟩
   .simp_all
   .have:=hne (by simp);simp only[acX]at hpl hhi;exact acH (by omega)
  subst hR;simp only[go_sem,simprocAttr,hst];exact⟨_,.refl _,by simp,S,by simp_all,hr,by simp[cJ]⟩
theorem nf (σ:ab)(id n:Nat)(P X M Y Q:List Pkg)(a b k:Nat)(ha:a=P.length)(hb:b=P.length+X.length+M.length)(hX:X.length=k)(hY:Y.length=k)(hn:n=P.length+X.length+M.length+Y.length+Q.length)(hx:n<=1048576)(hid:σ[id]?=some (cJ (P++X++M++Y++Q)))(g:AV):
  aS prog W0 323 [.row 51 id 0 n,.int .i64 a,.int .i64 b,.int .i64 k,g] σ λr σ'=>σ'=σ.set id (cJ (P++Y++M++X++Q)):=by
 have hidl:id<σ.length:=(acG.1 hid).1;refine bZ [] [] func323 rfl rfl ntmps323 rfl rfl λhs=>?_
 simp only[go_sem,simprocAttr];refine ae.cC [0,1,2,3] (λm B=>∃ i:Nat,B.env 10= .int .i64 i/\m=k-i/\i<=k/\B.st=σ.set id (cJ (gu P X M Y Q i))) k ?_ λm B ⟨i,h10,hm,hik,hst⟩=>?_
 .simp only[go_sem,simprocAttr];grind [GK,fV]
 unfold cJ at hst;simp only[go_sem,simprocAttr,h10,hst];refine⟨λhlt=>?_,λhge=>bz.normal ?_⟩
 .obtain⟨x,hxk⟩:=get_some (show i<X.length by omega);obtain⟨y,hyk⟩:=get_some (show i<Y.length by omega);obtain⟨c1,c2,c3⟩:=D0 P X M Y Q (by omega) hxk hyk;have hlen:(gu P X M Y Q i).length=n:=by
   grind [gu,acQ,ac7]
  rw[<-hb]at c2 c3;rw[<-ha]at c1 c3;have w1:IntKind.i64.wrap ((a:Int)+i)=((a+i:Nat):Int):=by grind [aG]
  have w2:IntKind.i64.wrap ((b:Int)+i)=((b+i:Nat):Int):=by grind [aG]
  generalize gu P X M Y Q i=ys at *;simp only[go_sem,simprocAttr,cK hidl,ma hidl,ey hidl,w1,w2,acO,acK,c1,c2,acM,acR];refine⟨.of (by kernel_rfl),by omega,by omega,by omega,by omega,s6 (by grind),.here (k-(i+1)) (by omega) ⟨i+1,ag (N:=1048577) (by omega) (by simp[aq]),rfl,by omega,?_⟩⟩;rw[<-c3];simp only[go_sem,simprocAttr,cJ];simp
 .have:i=k:=by omega
  subst this;simp only[go_sem,simprocAttr,hst];exact⟨_,.refl _,by simp,by grind [Hn]⟩
set_option maxHeartbeats 1000000
theorem NG (σ:ab)(id n:Nat)(P U V Q:List Pkg)(a m b:Nat)(ha:a=P.length)(hm:m=P.length+U.length)(hb:b=P.length+U.length+V.length)(hU:0<U.length)(hV:0<V.length)(hn:n=P.length+U.length+V.length+Q.length)(hx:n<=1048576)(hid:σ[id]?=some (cJ (P++U++V++Q)))(g:FuncId)(caps:List AV):
  aS prog W0 282 [.row 51 id 0 n,.int .i64 a,.int .i64 m,.int .i64 b,.fn g caps] σ λr σ'=>σ'=σ.set id (cJ (P++V++U++Q)):=by
 have hidl:id<σ.length:=(acG.1 hid).1;refine bZ [] [] func282 rfl rfl ntmps282 rfl rfl λhs=>?_
 have w1:IntKind.i64.wrap ((m:Int)-a)=((m-a:Nat):Int):=by grind [aG]
 have w2:IntKind.i64.wrap ((b:Int)-m)=((b-m:Nat):Int):=by grind [aG]
 simp only[go_sem,simprocAttr,w1,w2];refine ae.at [0,2,4] (λB=>∃ (i:Nat) (P' U' V' Q':List Pkg),B.env 10= .int .i64 i/\U'.length=i/\V'.length=i/\P'.length+i=m/\P'.length+U'.length+V'.length+Q'.length=n/\P'++V'++U'++Q'=P++V++U++Q/\B.st=σ.set id (cJ (P'++U'++V'++Q'))) ?_ λB ⟨i,P',U',V',Q',h10,hU',hV',hPi,hlen,heq,hst⟩=>?_
 .refine ae.cC [0,2,4] (λk B=>∃ (i j:Nat) (P' U' V' Q':List Pkg),B.env 10= .int .i64 i/\B.env 11= .int .i64 j/\k=i+j/\0<i/\0<j/\U'.length=i/\V'.length=j/\P'.length+i=m/\P'.length+U'.length+V'.length+Q'.length=n/\P'++V'++U'++Q'=P++V++U++Q/\B.st=σ.set id (cJ (P'++U'++V'++Q'))) (U.length+V.length) ?_ λk B ⟨i,j,P',U',V',Q',h10,h11,hk,hi0,hj0,hU',hV',hPi,hlen,heq,hst⟩=>?_
  .simp only[go_sem,simprocAttr];exact⟨m-a,b-m,P,U,V,Q,rfl,rfl,by omega,by omega,by omega,by omega,by omega,by omega,by omega,by simp,by grind [fV]⟩
  have x1:IntKind.i64.wrap ((m:Int)-i)=((m-i:Nat):Int):=by grind [aG]
  have x2:IntKind.i64.wrap ((m:Int)+j)=((m+j:Nat):Int):=by grind [aG]
  have hst0:=hst;simp only[go_sem,simprocAttr,h10,h11,x1,x2];refine⟨λhne=>⟨λhgt=>?_,λhle=>?_⟩,λhe=>⟨i,P',U',V',Q',rfl,hU',by omega,hPi,hlen,by simp_all,by simp_all⟩⟩
  .have e:P'++U'++V'++Q'=P'++U'.take j++U'.drop j++V'++Q':=by simp_all
   have hd:=nf (W0:=W0) B.st id n P' (U'.take j) (U'.drop j) V' Q' (m-i) m j (by omega) (by grind) (by grind) hV' (by grind) hx (by simp_all) (.fn g caps);refine aj.goes (by simp only[go_sem,simprocAttr]) hd λr σ1 hσ=>?_
   have x3:IntKind.i64.wrap ((i:Int)-j)=((i-j:Nat):Int):=by grind [aG]
   simp only[go_sem,simprocAttr,h10,h11,x3];refine .here (i-j+j) (by omega) ⟨i-j,j,P'++V',U'.drop j,U'.take j,Q',rfl,h11,rfl,by omega,hj0,by simp_all,by grind,by grind,by grind,?_,?_⟩
   .grind [acI]
   .simp only[go_sem,simprocAttr,hσ,hst0,acS,ac4]
  .have hd:=nf (W0:=W0) B.st id n P' U' (V'.take (j-i)) (V'.drop (j-i)) Q' (m-i) (m+j-i) i (by omega) (by grind) hU' (by grind) (by grind) hx (by simp_all) (.fn g caps);have x4:IntKind.i64.wrap (((m+j:Nat):Int)-i)=((m+j-i:Nat):Int):=by grind [aG]
   rw[x4];refine aj.goes (by simp only[go_sem,simprocAttr]) hd λr σ1 hσ=>?_
   have x3:IntKind.i64.wrap ((j:Int)-i)=((j-i:Nat):Int):=by grind [aG]
   simp only[go_sem,simprocAttr,h10,h11,x3];refine .here (i+(j-i)) (by omega) ⟨i,j-i,P',V'.drop (j-i),V'.take (j-i),U'++Q',h10,rfl,rfl,hi0,by omega,by grind,by simp_all,hPi,by grind,?_,?_⟩
   .grind [acI]
   .simp only[go_sem,simprocAttr,hσ,hst0,acS,ac4]
 have x1:IntKind.i64.wrap ((m:Int)-i)=((m-i:Nat):Int):=by grind [aG]
 have hd:=nf (W0:=W0) B.st id n P' U' [] V' Q' (m-i) m i (by omega) (by simp_all) hU' hV' (by simp_all) hx (by simp_all) (.fn g caps);simp only[go_sem,simprocAttr,h10,x1];refine aj.goes (by simp only[go_sem,simprocAttr]) hd λr σ1 hσ=>?_
 simp only[go_sem,simprocAttr];refine bz.normal ?_;simp only[go_sem,simprocAttr];refine⟨_,.refl _,by simp_all,?_⟩;simp_all
def Y4 (W0:World)(f:Pkg->Pkg->Int)(g:FuncId)(caps:List AV)(L:Nat):Prop:=∀ (σ:ab) (id n:Nat) (P A B Q:List Pkg) (a m b:Nat),a=P.length->m=P.length+A.length->b=P.length+A.length+B.length->n=P.length+A.length+B.length+Q.length->n<=1048576->
  0<A.length->0<B.length->A.length+B.length<=L->dt (ltF f) A->dt (ltF f) B->σ[id]?=some (cJ (P++A++B++Q))->uz W0 f (P++A++B++Q) g caps->
  aS prog W0 248 [.row 51 id 0 n,.int .i64 a,.int .i64 m,.int .i64 b,.fn g caps] σ λr σ'=>∃ C,C.Perm (A++B)/\dt (ltF f) C/\σ'=σ.set id (cJ (P++C++Q))
theorem o6 {i j:Nat}(h:i+j<=4194304):IntKind.i64.wrap (Int.fdiv (IntKind.u64.wrap (IntKind.i64.wrap ((i:Int)+j))) (2^min 1 64))=(((i+j) / 2:Nat):Int):=by
 grind [aG,IntKind.wrap,IntKind.bits]
theorem Ml {f:Pkg->Pkg->Int}(hw:mA (ltF f))(σ:ab)(id n:Nat)(P B Q:List Pkg)(v:Pkg)(a m b:Nat)(ha:a=P.length)(hm:m=P.length+1)(hb:b=P.length+1+B.length)(hn:n=P.length+1+B.length+Q.length)(hx:n<=1048576)
  (hB:dt (ltF f) B) (hid:σ[id]?=some (cJ (P++v::B++Q))) (g:FuncId) (caps:List AV) (hcmp:uz W0 f (P++v::B++Q) g caps):
  aS prog W0 248 [.row 51 id 0 n,.int .i64 a,.int .i64 m,.int .i64 b,.fn g caps] σ λr σ'=>∃ C,C.Perm (v::B)/\dt (ltF f) C/\σ'=σ.set id (cJ (P++C++Q)):=by
 have hidl:id<σ.length:=(acG.1 hid).1;refine bZ [] [] func248 rfl rfl ntmps248 rfl rfl λhs=>?_
 have w1:IntKind.i64.wrap ((m:Int)-a)=1:=by grind [aG]
 simp only[go_sem,simprocAttr,w1];obtain⟨ys,hys⟩: ∃ys,ys=P++v::B++Q:=⟨_,rfl⟩;rw[<-hys]at hid hcmp;have hyl:ys.length=n:=by grind
 have ea:ys[a]?=some v:=by grind
 have eb: ∀c,m<=c->c<b->ys[c]?=B[c-m]?:=λc h1 h2=>by
  grind
 have hmem: ∀x∈B,x∈ys:=λx h=>by simp_all
 have hvm:v∈ys:=by simp_all
 unfold cJ at hid;refine ae.at [0,1,4] (λE=>∃ i:Nat,E.env 10= .int .i64 i/\m<=i/\i<=b/\(∀x,0<i-m->B[i-m-1]?=some x->ltF f x v=true)/\(∀x,B[i-m]?=some x->ltF f x v=false)/\E.st=σ) ?_ λE ⟨i,h10,hmi,hib,g1,g2,hst⟩=>?_
 .refine ae.cC [0,1,4] (λk E=>∃ i j:Nat,E.env 10= .int .i64 i/\E.env 11= .int .i64 j/\k=j-i/\m<=i/\i<=j/\j<=b/\(∀x,0<i-m->B[i-m-1]?=some x->ltF f x v=true)/\(∀x,B[j-m]?=some x->ltF f x v=false)/\E.st=σ) (b-m) ?_ λk E ⟨i,j,h10,h11,hk,hmi,hij,hjb,g1,g2,hst⟩=>?_
  .simp only[go_sem,simprocAttr];refine⟨m,b,rfl,rfl,rfl,acV _,by omega,acV _,λx h=>by omega,λx h=>?_⟩;simp_all
  have hh:=o6 (i:=i) (j:=j) (by omega);obtain⟨c,hc⟩: ∃c,c=(i+j) / 2:=⟨_,rfl⟩;rw[<-hc]at hh;simp only[go_sem,simprocAttr,h10,h11,hst,hh];refine⟨λhlt=>?_,λhge=>?_⟩
  .obtain⟨x,hxc⟩:=get_some (show c-m<B.length by omega);have e1:ys[c]?=some x:=(eb c (by omega) (by omega)).trans hxc;have hxm:=hmem x (acN hxc);simp only[go_sem,simprocAttr,an hid,aP hid,acO,acK,e1,ea,acM];refine⟨.of (by kernel_rfl),by omega,by omega,aD.go (gd:=none) (hcmp x hxm v hvm) ?_⟩;simp only[go_sem,simprocAttr];refine⟨λhl=>.here (j-(c+1)) (by omega) ⟨c+1,j,ag (N:=1048577) (by omega) (by simp[aq]),h11,rfl,by omega,by omega,hjb,λy _ hy=>?_,g2,by simp only[go_sem,simprocAttr,hst]⟩,λhl=>.here (c-i) (by omega) ⟨i,c,h10,rfl,rfl,hmi,by omega,by omega,g1,λy hy=>?_,by simp only[go_sem,simprocAttr,hst]⟩⟩
   .rw[show c+1-m-1=c-m by omega,hxc]at hy;cases hy;exact decide_eq_true hl
   .rw[hxc]at hy;cases hy;exact decide_eq_false hl
  grind
 simp only[go_sem,simprocAttr];have hps:=AO hw hB (i:=i-m) (v:=v) (by omega) (λx h0 hx=>hw.asym _ _ (g1 x h0 hx)) g2;refine ae.cC [0,10] (λk D=>∃ d:Nat,D.env 13= .int .i64 (a+d:Nat)/\k=i-m-d/\d<=i-m/\D.st=σ.set id (cJ (dN P B Q v d))) (i-m) ?_ λk D ⟨d,h13,hk,hd,hstD⟩=>?_
 .simp only[go_sem,simprocAttr];exact⟨0,rfl,rfl,Nat.zero_le _,by grind [dN,cJ,fV]⟩
 have w2:IntKind.i64.wrap ((i:Int)-1)=(i:Int)-1:=aG (by omega);unfold cJ at hstD;simp only[go_sem,simprocAttr,h13,h10,hstD,w2];refine⟨λhlt=>?_,λhge=>bz.ret ?_⟩
 .obtain⟨x,hxd⟩:=get_some (show d<B.length by omega);have q1:=GN P B Q v (k:=d) (by omega);have q2:=Ho P B Q v x hxd;have q3:=Vq P B Q v x hxd;have hln:(dN P B Q v d).length=n:=by grind [dN]
  rw[<-ha]at q1 q2 q3;generalize dN P B Q v d=zs at *;have w3:IntKind.i64.wrap (((a+d:Nat):Int)+1)=((a+d+1:Nat):Int):=by grind [aG]
  simp only[go_sem,simprocAttr,cK hidl,ma hidl,ey hidl,w3,acO,acK,q1,q2,acM,acR];refine⟨.of (by kernel_rfl),by omega,by omega,by omega,by omega,s6 (by grind),.here (i-m-(d+1)) (by omega) ⟨d+1,(by simp only[go_sem,simprocAttr];rfl),rfl,by omega,?_⟩⟩;rw[<-q3];simp only[go_sem,simprocAttr,cJ];simp
 .have hdi:d=i-m:=by omega
  subst hdi;simp only[go_sem,simprocAttr,hstD];exact⟨_,.refl _,by simp,_,GJ,GU hw hB hps.1 hps.2,by simp[cJ,dN]⟩
theorem L7 {f:Pkg->Pkg->Int}(hw:mA (ltF f))(σ:ab)(id n:Nat)(P X Q:List Pkg)(v:Pkg)(a m b:Nat)(ha:a=P.length)(hm:m=P.length+X.length)(hb:b=P.length+X.length+1)(hn:n=P.length+X.length+1+Q.length)(hx:n<=1048576)(h1:X.length≠1)
  (hB:dt (ltF f) X) (hid:σ[id]?=some (cJ (P++X++v::Q))) (g:FuncId) (caps:List AV) (hcmp:uz W0 f (P++X++v::Q) g caps):
  aS prog W0 248 [.row 51 id 0 n,.int .i64 a,.int .i64 m,.int .i64 b,.fn g caps] σ λr σ'=>∃ C,C.Perm (X++[v])/\dt (ltF f) C/\σ'=σ.set id (cJ (P++C++Q)):=by
 have hidl:id<σ.length:=(acG.1 hid).1;refine bZ [] [] func248 rfl rfl ntmps248 rfl rfl λhs=>?_
 have w0:IntKind.i64.wrap ((m:Int)-a)=(X.length:Int):=by grind [aG]
 have w1:IntKind.i64.wrap ((b:Int)-m)=1:=by grind [aG]
 have hx1:((X.length:Int)==1)=false:=by grind
 have hx2: ¬((X.length:Int)=1):=by omega
 simp only[go_sem,simprocAttr,w0,w1,hx1];obtain⟨ys,hys⟩: ∃ys,ys=P++X++v::Q:=⟨_,rfl⟩;rw[<-hys]at hid hcmp;have hyl:ys.length=n:=by grind
 have ea:ys[m]?=some v:=by grind
 have eb: ∀c,a<=c->c<m->ys[c]?=X[c-a]?:=λc h1 h2=>by
  grind
 have hmem: ∀x∈X,x∈ys:=λx h=>by simp_all
 have hvm:v∈ys:=by simp_all
 unfold cJ at hid;refine ae.at [0,2,4] (λE=>∃ i:Nat,E.env 14= .int .i64 i/\a<=i/\i<=m/\(∀x,0<i-a->X[i-a-1]?=some x->ltF f v x=false)/\(∀x,X[i-a]?=some x->ltF f v x=true)/\E.st=σ) ?_ λE ⟨i,h14,hmi,hib,g1,g2,hst⟩=>?_
 .refine ae.cC [0,2,4] (λk E=>∃ i j:Nat,E.env 14= .int .i64 i/\E.env 15= .int .i64 j/\k=j-i/\a<=i/\i<=j/\j<=m/\(∀x,0<i-a->X[i-a-1]?=some x->ltF f v x=false)/\(∀x,X[j-a]?=some x->ltF f v x=true)/\E.st=σ) (m-a) ?_ λk E ⟨i,j,h14,h15,hk,hmi,hij,hjb,g1,g2,hst⟩=>?_
  .simp only[go_sem,simprocAttr];refine⟨a,m,rfl,rfl,rfl,acV _,by omega,acV _,λx h=>by omega,λx h=>?_⟩;simp_all
  have hh:=o6 (i:=i) (j:=j) (by omega);obtain⟨c,hc⟩: ∃c,c=(i+j) / 2:=⟨_,rfl⟩;rw[<-hc]at hh;simp only[go_sem,simprocAttr,h14,h15,hst,hh];refine⟨λhlt=>?_,λhge=>?_⟩
  .obtain⟨x,hxc⟩:=get_some (show c-a<X.length by omega);have e1:ys[c]?=some x:=(eb c (by omega) (by omega)).trans hxc;have hxm:=hmem x (acN hxc);simp only[go_sem,simprocAttr,an hid,aP hid,acO,acK,e1,ea,acM];refine⟨.of (by kernel_rfl),by omega,by omega,aD.go (gd:=none) (hcmp v hvm x hxm) ?_⟩;simp only[go_sem,simprocAttr];refine⟨λhl=>.here (j-(c+1)) (by omega) ⟨c+1,j,ag (N:=1048577) (by omega) (by simp[aq]),h15,rfl,by omega,by omega,hjb,λy _ hy=>?_,g2,by simp only[go_sem,simprocAttr,hst]⟩,λhl=>.here (c-i) (by omega) ⟨i,c,h14,rfl,rfl,hmi,by omega,by omega,g1,λy hy=>?_,by simp only[go_sem,simprocAttr,hst]⟩⟩
   .rw[show c+1-a-1=c-a by omega,hxc]at hy;cases hy;exact decide_eq_false (by omega)
   .rw[hxc]at hy;cases hy;exact decide_eq_true (by omega)
  grind
 simp only[go_sem,simprocAttr];have hps:=AO hw hB (i:=i-a) (v:=v) (by omega) g1 (λx hx=>hw.asym _ _ (g2 x hx));refine ae.cC [0,14] (λk D=>∃ d:Nat,D.env 17= .int .i64 (a+d:Nat)/\k=d/\i-a<=d/\d<=X.length/\D.st=σ.set id (cJ (dN P X Q v d))) X.length ?_ λk D ⟨d,h17,hk,hd,hdl,hstD⟩=>?_
 .simp only[go_sem,simprocAttr];exact⟨X.length,by simp_all,rfl,by omega,acV _,by grind [dN,cJ,fV]⟩
 unfold cJ at hstD;simp only[go_sem,simprocAttr,h17,h14,hstD];refine⟨λhlt=>?_,λhge=>bz.ret ?_⟩
 .obtain⟨e,rfl⟩: ∃e,d=e+1:=⟨d-1,by omega⟩;obtain⟨x,hxd⟩:=get_some (show e<X.length by omega);have q1:=GN P X Q v (k:=e+1) (by omega);have q2:=JI P X Q v x hxd;have q3:=UA P X Q v x hxd;have hln:(dN P X Q v (e+1)).length=n:=by rw[dN,hn];grind
  rw[<-ha]at q1 q2 q3;rw[Nat.add_assoc]at q3;generalize dN P X Q v (e+1)=zs at *;have w3:IntKind.i64.wrap (((a+(e+1):Nat):Int)-1)=((a+e:Nat):Int):=by grind [aG]
  simp only[go_sem,simprocAttr,cK hidl,ma hidl,ey hidl,w3,acO,acK,q1,q2,acM,acR];refine⟨.of (by kernel_rfl),by omega,by omega,by omega,by omega,s6 (by grind),.here e (by omega) ⟨e,(by simp only[go_sem,simprocAttr]),rfl,by omega,by omega,?_⟩⟩;rw[<-q3];simp only[go_sem,simprocAttr,cJ];simp
 .have hdi:d=i-a:=by omega
  subst hdi;simp only[go_sem,simprocAttr,hstD];exact⟨_,.refl _,by simp,_,GJ.trans (List.perm_append_singleton v X).symm,GU hw hB hps.1 hps.2,by grind [dN]⟩
theorem Fj {f:Pkg->Pkg->Int}(hw:mA (ltF f))(g:FuncId)(caps:List AV): ∀L,Y4 W0 f g caps L:=by
 intro L
 induction L with
 |zero=>intro σ id n P A B Q a m b ha hm hb hn hx hA hB hL;omega
 |succ L ih=>
 intro σ id n P A B Q a m b ha hm hb hn hx hA0 hB0 hL hA hB hid hcmp;have hidl:id<σ.length:=(acG.1 hid).1;by_cases c1:A.length=1
 .obtain⟨v,rfl⟩:=acZ.1 c1;have:=Ml (W0:=W0) hw σ id n P B Q v a m b ha (by omega) (by omega) (by omega) hx hB (by simp_all) g caps (by simp_all);simp_all
 by_cases c2:B.length=1
 .obtain⟨v,rfl⟩:=acZ.1 c2;have:=L7 (W0:=W0) hw σ id n P A Q v a m b ha hm (by omega) (by omega) hx c1 hA (by simp_all) g caps (by simp_all);omega
 refine bZ [] [] func248 rfl rfl ntmps248 rfl rfl λhs=>?_
 have w0:IntKind.i64.wrap ((m:Int)-a)=(A.length:Int):=by grind [aG]
 have w1:IntKind.i64.wrap ((b:Int)-m)=(B.length:Int):=by grind [aG]
 have hx1:((A.length:Int)==1)=false:=by grind
 have hx2: ¬((A.length:Int)=1):=by omega
 have hx3:((B.length:Int)==1)=false:=by grind
 have hx4: ¬((B.length:Int)=1):=by omega
 have w2:=o6 (i:=a) (j:=b) (by omega);obtain⟨mid,hmid⟩: ∃mid,mid=(a+b) / 2:=⟨_,rfl⟩;rw[<-hmid]at w2;have w3:IntKind.i64.wrap ((mid:Int)+m)=((mid+m:Nat):Int):=by grind [aG]
 simp only[go_sem,simprocAttr,w0,w1,hx1,hx3,w2,w3];obtain⟨ys,hys⟩: ∃ys,ys=P++A++B++Q:=⟨_,rfl⟩;rw[<-hys]at hid hcmp;have hyl:ys.length=n:=by grind
 have ea: ∀c,a<=c->c<m->ys[c]?=A[c-a]?:=λc h1 h2=>by
  grind
 have eb: ∀c,m<=c->c<b->ys[c]?=B[c-m]?:=λc h1 h2=>by
  grind
 have hma: ∀x∈A,x∈ys:=λx h=>by simp_all
 have hmb: ∀x∈B,x∈ys:=λx h=>by simp_all
 let H1:Nat->Prop:=λs=>∀ x y,0<s-a->A[s-a-1]?=some x->B[mid-s]?=some y->ltF f y x=false
 let H2:Nat->Prop:=λr=>∀ x y,0<mid-r->A[r-a]?=some x->B[mid-r-1]?=some y->ltF f y x=true
 refine cm.at [0,1,2,3,4,18,19] (by kernel_rfl) (λE=>∃ s r:Nat,E.env 20= .int .i64 s/\E.env 21= .int .i64 r/\a<=s/\s<=r/\r<=m/\r<=mid/\mid-s<=B.length/\H1 s/\H2 r/\E.st=σ) (λhgt=>?_) (λhle=>?_) λE ⟨s0,r0,h20,h21,k1,k2,k3,k4,k5,k6,k7,hst⟩=>?_
 .have hgt:=of_decide_eq_true hgt;have w4:IntKind.i64.wrap (((mid+m:Nat):Int)-b)=((mid+m-b:Nat):Int):=by grind [aG]
  simp only[go_sem,simprocAttr,w4];refine⟨mid+m-b,mid,rfl,rfl,by omega,by omega,by omega,acV _,by omega,λx y h1 h2 h3=>?_,λx y h1 h2 h3=>by omega⟩;grind
 .have hle:=of_decide_eq_false hle;simp only[go_sem,simprocAttr];refine⟨a,m,rfl,rfl,by omega,by omega,by omega,by omega,by omega,λx y h1 h2 h3=>by omega,λx y h1 h2 h3=>?_⟩;simp_all
 have w5:IntKind.i64.wrap (((mid+m:Nat):Int)-1)=((mid+m-1:Nat):Int):=by grind [aG]
 unfold cJ at hid;simp only[go_sem,simprocAttr,w5];refine ae.at [0,1,2,3,4,18,19,22] (λE=>∃ s:Nat,E.env 20= .int .i64 s/\a<=s/\s<=m/\s<=mid/\mid-s<=B.length/\H1 s/\H2 s/\E.st=σ) ?_ λE ⟨s,h20,k1,k2,k3,k4,g1,g2,hst⟩=>?_
 .refine ae.cC [0,1,2,3,4,18,19,22] (λk E=>∃ s r:Nat,E.env 20= .int .i64 s/\E.env 21= .int .i64 r/\k=r-s/\a<=s/\s<=r/\r<=m/\r<=mid/\mid-s<=B.length/\H1 s/\H2 r/\E.st=σ) (r0-s0) ?_ λk E ⟨s,r,h20,h21,hk,k1,k2,k3,k4,k5,k6,k7,hst⟩=>?_
  .simp only[go_sem,simprocAttr,h20,h21,hst];grind
  have hh:=o6 (i:=s) (j:=r) (by omega);obtain⟨c,hc⟩: ∃c,c=(s+r) / 2:=⟨_,rfl⟩;rw[<-hc]at hh;simp only[go_sem,simprocAttr,h20,h21,hst,hh];refine⟨λhlt=>?_,λhge=>?_⟩
  .obtain⟨x,hxc⟩:=get_some (show c-a<A.length by omega);obtain⟨y,hyc⟩:=get_some (show mid-c-1<B.length by omega);have e1:ys[c]?=some x:=(ea c (by omega) (by omega)).trans hxc;have e2:ys[mid+m-1-c]?=some y:=(eb _ (by omega) (by omega)).trans (by rw[show mid+m-1-c-m=mid-c-1 by omega];exact hyc);have hxm:=hma x (acN hxc);have hym:=hmb y (acN hyc);have w6:IntKind.i64.wrap (((mid+m-1:Nat):Int)-c)=((mid+m-1-c:Nat):Int):=by rw[aG (by omega)];omega
   simp only[go_sem,simprocAttr,w6,an hid,aP hid,acO,acK,acR,e1,e2,acM];refine⟨.of (by kernel_rfl),by omega,by omega,aD.go (gd:=none) (hcmp y hym x hxm) ?_⟩;simp only[go_sem,simprocAttr];refine⟨λhl=>.here (r-(c+1)) (by omega) ⟨c+1,r,ag (N:=1048577) (by omega) (by simp[aq]),h21,rfl,by omega,by omega,k3,k4,by omega,λu v _ hu hv=>?_,k7,by simp only[go_sem,simprocAttr,hst]⟩,λhl=>.here (c-s) (by omega) ⟨s,c,h20,rfl,rfl,k1,by omega,by omega,by omega,k5,k6,λu v _ hu hv=>?_,by simp only[go_sem,simprocAttr,hst]⟩⟩
   .rw[show c+1-a-1=c-a by omega,hxc]at hu;rw[show mid-(c+1)=mid-c-1 by omega,hyc]at hv;cases hu;cases hv;exact decide_eq_false (by omega)
   .rw[hxc]at hu;rw[hyc]at hv;cases hu;cases hv;exact decide_eq_true (by omega)
  grind
 have w7:IntKind.i64.wrap (((mid+m:Nat):Int)-s)=((mid+m-s:Nat):Int):=by rw[aG (by omega)];omega
 have hcr:=aaQ hw hA hB (s:=s-a) (e:=mid-s) g1 (λx y h1 h2 h3=>g2 x y h1 h2 h3) (by omega) k4;obtain⟨A1,hA1⟩: ∃A1,A1=A.take (s-a):=⟨_,rfl⟩;obtain⟨A2,hA2⟩: ∃A2,A2=A.drop (s-a):=⟨_,rfl⟩;obtain⟨B1,hB1⟩: ∃B1,B1=B.take (mid-s):=⟨_,rfl⟩;obtain⟨B2,hB2⟩: ∃B2,B2=B.drop (mid-s):=⟨_,rfl⟩;have hAA:A=A1++A2:=by simp_all
 have hBB:B=B1++B2:=by grind [acI]
 have l1:A1.length=s-a:=by rw[hA1,ac7];omega
 have l2:B1.length=mid-s:=by grind
 have l3:A2.length=A.length-(s-a):=by grind
 have l4:B2.length=B.length-(mid-s):=by grind
 rw[<-hA1,<-hA2,<-hB1,<-hB2]at hcr;simp only[go_sem,simprocAttr,h20,w7];refine cm.at [0,1,3,4,18,20,24] (by kernel_rfl) (λE=>E.st=σ.set id (cJ (P++A1++B1++A2++B2++Q))) (λhr=>?_) (λhr=>?_) λE hst=>?_
 .simp only[acY,decide_eq_true_eq]at hr;have hd:=NG (W0:=W0) σ id n (P++A1) A2 B1 (B2++Q) s m (mid+m-s) (by grind) (by grind) (by simp;omega) (by omega) (by omega) (by grind) hx (by grind [cJ]) g caps;simp only[go_sem,simprocAttr,h20];refine aj.goes (by simp only[go_sem,simprocAttr];exact hst) hd λr σ1 hσ=>?_
  simp only[go_sem,simprocAttr];grind
 .simp only[go_sem,simprocAttr,hst]
  have:A2=[]\/B1=[]:=by
   rcases ac5 s m with h|h
   .right;simp only[ac1,decide_eq_false_iff_not]at hr;rcases hr with h'|h'
    .omega
    .exact acH (by omega)
   .left;exact acH (by omega)
  have e:P++A1++B1++A2++B2++Q=ys:=by
   rw[hys,hAA,hBB];rcases this with e|e<;>rw[e]<;>simp
  grind [cJ,fV]
 have hcmp1:uz W0 f (P++A1++B1++(A2++B2++Q)) g caps:=λx hx y hy=>hcmp x (by grind) y (by grind)
 simp only[go_sem,simprocAttr,h20];refine cm.at [0,3,4,18,24] (by kernel_rfl) (λE=>∃ C1:List Pkg,C1.Perm (A1++B1)/\dt (ltF f) C1/\E.st=σ.set id (cJ (P++C1++A2++B2++Q))) (λhr=>?_) (λhr=>?_) λE ⟨C1,p1,r1,hst⟩=>?_
 .simp only[acY,decide_eq_true_eq]at hr;have hd:=ih (σ.set id (cJ (P++A1++B1++A2++B2++Q))) id n P A1 B1 (A2++B2++Q) a s mid ha (by omega) (by omega) (by grind) hx (by omega) (by omega) (by omega) (hA.sublist (by grind)) (hB.sublist (by grind)) (by grind) hcmp1;simp only[go_sem,simprocAttr,h20];refine aj.goes (by simp only[go_sem,simprocAttr];grind) hd λr σ1 ⟨C1,p1,r1,hσ⟩=>?_
  simp only[go_sem,simprocAttr];grind [acS]
 .simp only[go_sem,simprocAttr,hst]
  have:A1=[]\/B1=[]:=by
   rcases ac5 a s with h|h
   .grind
   .left;exact acH (by omega)
  refine⟨A1++B1,.refl _,?_,by grind⟩;rcases this with e|e
  .grind
  grind
 have lc:=p1.length_eq;rw[acQ]at lc;have hcmp2:uz W0 f (P++C1++A2++B2++Q) g caps:=λx hx y hy=>hcmp x (by rw[hys,hAA,hBB];simp only[acP,p1.mem_iff]at hx ⊢;grind) y (by rw[hys,hAA,hBB];simp only[acP,p1.mem_iff]at hy ⊢;grind)
 have fin: ∀C2:List Pkg,C2.Perm (A2++B2)->dt (ltF f) C2-> ∃C,C.Perm (A++B)/\dt (ltF f) C/\σ.set id (cJ (P++C1++C2++Q))=σ.set id (cJ (P++C++Q)):=λC2 p2 r2=>by
  obtain⟨m1,m2⟩:=G4 hcr p1 p2 r1 r2;grind
 simp only[go_sem,simprocAttr];refine⟨λhr=>?_,λhr=>?_⟩
 .have hr:mid<mid+m-s/\mid+m-s<b:=by grind
  have hd:=ih (σ.set id (cJ (P++C1++A2++B2++Q))) id n (P++C1) A2 B2 Q mid (mid+m-s) b (by grind) (by simp;omega) (by grind) (by grind) hx (by omega) (by omega) (by omega) (hA.sublist (by grind)) (hB.sublist (by grind)) (List.getElem?_set_self hidl) hcmp2;refine aj.goes (by simp only[go_sem,simprocAttr];grind) hd λr σ1 ⟨C2,p2,r2,hσ⟩=>?_
  rw[acS]at hσ;simp only[go_sem,simprocAttr];refine bz.normal ?_;obtain⟨C,q1,q2,q3⟩:=fin C2 p2 r2;simp only[go_sem,simprocAttr,hσ];refine⟨_,.refl _,by simp,C,q1,q2,?_⟩;grind
 .refine bz.normal ?_
  have:A2=[]\/B2=[]:=by
   rcases ac5 mid (mid+m-s)with h|h
   .right
    have: ¬(mid+m-s<b):=λh'=>by grind
    exact acH (by omega)
   .left;exact acH (by omega)
  obtain⟨C,q1,q2,q3⟩:=fin (A2++B2) (.refl _) (by
   rcases this with e|e
   .grind
   grind)
  simp only[go_sem,simprocAttr,hst];refine⟨_,.refl _,by simp,C,q1,q2,?_⟩;grind
theorem uz.sub {f:Pkg->Pkg->Int}{xs ys:List Pkg}{g:FuncId}{caps:List AV}(h:uz W0 f xs g caps)(hs: ∀x∈ys,x∈xs):uz W0 f ys g caps:=λa ha b hb=>h a (hs a ha) b (hs b hb)
theorem Nv {f:Pkg->Pkg->Int}(hw:mA (ltF f))(σ:ab)(id n:Nat)(xs:List Pkg)(hn:n=xs.length)(hx:n<40)(hid:σ[id]?=some (cJ xs))(g:FuncId)(caps:List AV)(hcmp:uz W0 f xs g caps):
  aS prog W0 203 [.row 51 id 0 n,.int .i64 n,.fn g caps] σ λr σ'=>∃ C,C.Perm xs/\dt (ltF f) C/\σ'=σ.set id (cJ C):=by
 have hidl:id<σ.length:=(acG.1 hid).1;have hsl: ∀{C:List Pkg},C.Perm xs->C.length=n:=λh=>by rw[hn];exact h.length_eq
 refine bZ [] [] func203 rfl rfl ntmps203 rfl rfl λhs=>?_
 simp only[go_sem,simprocAttr];refine ae.at [0,1,2,6] (λE=>∃ S R:List Pkg,E.env 7= .int .i64 S.length/\(S++R).Perm xs/\dt (ltF f) S/\(S=[]/\n<20\/S.length=20)/\E.st=σ.set id (cJ (S++R))) ?_ λE ⟨S,R,h7,hp,hS,hl,hst⟩=>?_
 .refine ae.cC [0,1,2,6] (λk E=>(k=1/\E.env 7= .int .i64 0/\E.env 8= .int .i64 20/\E.st=σ)\/(k=0/\E.env 7= .int .i64 20/\E.env 8= .int .i64 40/\ ∃S R:List Pkg,(S++R).Perm xs/\dt (ltF f) S/\S.length=20/\E.st=σ.set id (cJ (S++R)))) 1 ?_ λk E hE=>?_
  .simp only[go_sem,simprocAttr];simp_all
  rcases hE with⟨rfl,h7,h8,hst⟩|⟨rfl,h7,h8,S,R,hp,hS,hl,hst⟩
  .simp only[go_sem,simprocAttr,h7,h8,hst];refine⟨λhle=>?_,λhgt=>⟨[],xs,rfl,.refl _,by simp_all,.inl ⟨rfl,by omega⟩,(fV hid).symm⟩⟩;have hd:=qO (W0:=W0) hw σ id n [] (xs.take 20) (xs.drop 20) 0 20 rfl (by grind) (by simp_all) (by omega) (by simp_all) g caps (hcmp.sub λx h=>by simp_all);refine aj.goes (by simp only[go_sem,simprocAttr];exact hst) hd λr σ1 ⟨C,p,r,hσ⟩=>?_
   simp only[go_sem,simprocAttr,h8];refine .here 0 (by omega) (.inr ⟨rfl,rfl,rfl,C,xs.drop 20,?_,r,by rw[p.length_eq];grind,by rw[hσ];rfl⟩);grind [acI]
  .simp only[go_sem,simprocAttr,h7,h8,hst];grind
 have hlen:=hsl hp;rw[acQ]at hlen;have hd:=qO (W0:=W0) hw (σ.set id (cJ (S++R))) id n S R [] S.length n rfl (by omega) (by simp_all) (by omega) (by simp_all) g caps (hcmp.sub λx h=>hp.subset (by simp_all));simp only[go_sem,simprocAttr,h7];refine aj.goes (by simp only[go_sem,simprocAttr];exact hst) hd λr σ1 ⟨C,p,r,hσ⟩=>?_
 rw[acS,List.append_nil]at hσ;have hp2:(S++C).Perm xs:=(p.append_left S).trans hp;have hCl:=p.length_eq;have hend:n<=20->dt (ltF f) (S++C):=λh=>by
  rcases hl with⟨e,_⟩|e
  .simp_all
  grind
 simp only[go_sem,simprocAttr];refine ae.cC [0,1,2] (λk E=>(k=1/\E.env 6= .int .i64 20/\E.st=σ.set id (cJ (S++C)))\/(k=0/\E.env 6= .int .i64 40/\ ∃D:List Pkg,D.Perm xs/\dt (ltF f) D/\E.st=σ.set id (cJ D))) 1 ?_ λk E hE=>?_
 .simp only[go_sem,simprocAttr];simp_all
 rcases hE with⟨rfl,h6,hst⟩|⟨rfl,h6,D,hD1,hD2,hst⟩
 .simp only[go_sem,simprocAttr,h6];refine⟨λhlt=>?_,λhge=>bz.normal ?_⟩
  .refine ae.at [0,1,2,6] (λE=>E.env 7= .int .i64 0/\E.st=σ.set id (cJ (S++C))) ?_ λE ⟨h7,hst⟩=>?_
   .refine ae.cC [0,1,2,6] (λk E=>E.env 7= .int .i64 0/\E.env 8= .int .i64 40/\E.st=σ.set id (cJ (S++C))) 0 ?_ λk E ⟨h7,h8,hst⟩=>?_
    .simp only[go_sem,simprocAttr,hst]
    simp only[go_sem,simprocAttr,h6,h7,h8,hst];omega
   have h20:S.length=20:=by omega
   have hd:=Fj (W0:=W0) hw g caps n (σ.set id (cJ (S++C))) id n [] S C [] 0 20 n rfl (by simp_all) (by simp_all) (by simp_all) (by omega) (by omega) (by omega) (by omega) hS r (by simp_all) (hcmp.sub λx h=>hp2.subset (by simp_all));simp only[go_sem,simprocAttr,h6,h7];refine cm.at [0,1,2,6] (by kernel_rfl) (λE=>∃ D:List Pkg,D.Perm xs/\dt (ltF f) D/\E.st=σ.set id (cJ D)) (λhr=>?_) (λhr=>?_) λE ⟨D,hD1,hD2,hst⟩=>?_
   .simp only[go_sem,simprocAttr,h7];refine aj.goes (by simp only[go_sem,simprocAttr];exact hst) hd λr σ1 ⟨D,p,r,hσ⟩=>?_
    rw[acS]at hσ;simp only[go_sem,simprocAttr];grind
   .simp_all
   simp only[go_sem,simprocAttr,h6];exact .here 0 (by omega) (.inr ⟨rfl,rfl,D,hD1,hD2,by simp only[go_sem,simprocAttr,hst]⟩)
  .simp only[go_sem,simprocAttr,hst];exact⟨_,.refl _,by simp,_,hp2,hend (by omega),rfl⟩
 .simp only[go_sem,simprocAttr,h6];refine⟨λhlt=>by omega,λhge=>bz.normal ?_⟩;simp only[go_sem,simprocAttr,hst];exact⟨_,.refl _,by simp,_,hD1,hD2,rfl⟩
end Go.Proofs.Tryz
end
section
namespace Go.Av
def yx (p q:Pkg):Int:=if bI p.ver=true/\bI q.ver=true then gm p q else if bI p.ver=true then-1 else if bI q.ver=true then 1 else 0
theorem Lp {p q:Pkg}(hp:bI p.ver=true)(hq:bI q.ver=true):yx p q=gm p q:=if_pos ⟨hp,hq⟩
theorem pn (p q:Pkg):yx q p= -yx p q:=by
 grind [yx,mH]
def ltV (p q:Pkg):Bool:=decide (yx p q<0)
theorem RJ :mA ltV where
 asym x y h:=by
  have:=of_decide_eq_true h;have h2:=pn x y;exact decide_eq_false (by omega)
 tr x y z h1 h2:=by
  have h1:=of_decide_eq_false h1;have h2:=of_decide_eq_false h2;have e1:=pn x y;have e2:=pn y z;have e3:=pn x z
  have:yx x z<=0:=by
   have a1:yx x y<=0:=by omega
   have a2:yx y z<=0:=by omega
   clear h1 h2 e1 e2 e3
   revert a1 a2
   unfold yx;cases hx:bI x.ver<;>cases hy:bI y.ver<;>cases hz:bI z.ver<;>simp
   exact λa b=>(TT.pkg hx hy hz a b).1
  exact decide_eq_false (by omega)
theorem MM {l:List Pkg}(hv:uC l)(h:dt ltV l):kf l:=by
 unfold kf;refine ac9 (λ{a b} ha hb hab=>?_) h;have:=of_decide_eq_false hab;rw[Lp (hv b hb) (hv a ha)]at this;grind [mH]
end Go.Av
end
