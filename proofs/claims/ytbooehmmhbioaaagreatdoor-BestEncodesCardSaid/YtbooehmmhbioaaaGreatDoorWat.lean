/- Texts that the last one of this claim rests on: a layer over the guide's own conditions for code; contracts of the functions that the law reaches, one by one. No conditions beside those of the given rows. -/
import Derived.Test.YtbooehmmhbioaaaGreatDoorWah
import Derived.Test.YtbooehmmhbioaaaGreatDoorWap
set_option linter.unusedSimpArgs false
set_option linter.unusedVariables false
section
namespace Go.Av
section
variable {α :Type}{lt:α→α→Bool}
structure kc (lt:α→α→Bool):Prop where
 asym: ∀x y,lt x y=true→lt y x=false
 tr: ∀x y z,lt y x=false→lt z y=false→lt z x=false
abbrev cy (lt:α→α→Bool)(l:List α):Prop:=l.Pairwise λx y=>lt y x=false
theorem CV (P Q:List α)(x y:α):(P++x::Q).set P.length y=P++y::Q:=by
 induction P with
 |nil=>rfl
 |cons a P ih=>simp[List.set_cons_succ,ih]
theorem iO (P Q:List α)(x:α):(P++x::Q)[P.length]?=some x:=by simp
theorem tj (P M Q:List α)(x y:α){i j:Nat}(hi:i=P.length)(hj:j=P.length+1+M.length):
  ((P++x::M++y::Q).set i y).set j x=P++y::M++x::Q:=by
 subst hi hj
 rw[show P++x::M++y::Q=P++x::(M++y::Q) by simp,CV]
 have:=CV (P++y::M) Q y x
 rw[show(P++y::M).length=P.length+1+M.length by simp;omega]at this
 rw[show P++y::(M++y::Q)=P++y::M++y::Q by simp,this]
theorem vf (P M Q:List α)(x y:α){i j:Nat}(hi:i=P.length)(hj:j=P.length+1+M.length):
  ((P++x::M++y::Q).set j x).set i y=P++y::M++x::Q:=by
 rw[List.set_comm _ _ (by omega),tj P M Q x y hi hj]
theorem D2 (hw:kc lt){S1 S2:List α}{v:α}(h:cy lt (S1++S2))(h2: ∀x∈S2,lt v x=true)(h1: ∀u,S1.getLast?=some u→lt v u=false):cy lt (S1++v::S2):=by
 rw[cy,List.pairwise_append]at h ⊢
 obtain⟨g1,g2,g3⟩:=h
 refine⟨g1,List.pairwise_cons.2 ⟨λx hx=>hw.asym _ _ (h2 x hx),g2⟩,λx hx y hy=>?_⟩
 rcases List.mem_cons.1 hy with rfl|hy
 ·rcases List.eq_nil_or_concat S1 with rfl|⟨L,u,rfl⟩
  ·cases hx
  ·have hu:=h1 u (by simp)
   rcases List.mem_append.1 (by simpa using hx:x∈L++[u])with hx|hx
   ·rw[List.concat_eq_append,List.pairwise_append]at g1
    exact hw.tr _ _ _ (g1.2.2 x hx u (by simp)) hu
   ·rw[List.mem_singleton.1 hx];exact hu
 ·exact g3 x hx y hy
theorem Ds (h: ∀(l:List α),cy lt l→True){l:List α}(hl:cy lt l){i j:Nat}{x y:α}(hij:i<j)(hx:l[i]?=some x)(hy:l[j]?=some y):lt y x=false:=by
 obtain⟨hi,rfl⟩:=List.getElem?_eq_some_iff.1 hx
 obtain⟨hj,rfl⟩:=List.getElem?_eq_some_iff.1 hy
 exact(List.pairwise_iff_getElem.1 hl) i j hi hj hij
theorem irr (hw:kc lt)(x:α):lt x x=false:=by
 cases h:lt x x
 ·rfl
 ·rw[hw.asym _ _ h]at h;exact h.symm
theorem gW (hw:kc lt){l:List α}(hl:cy lt l){i j:Nat}{x y:α}(hij:i≤j)(hx:l[i]?=some x)(hy:l[j]?=some y):lt y x=false:=by
 rcases Nat.lt_or_eq_of_le hij with h|rfl
 ·exact Ds (λ_ _=>trivial) hl h hx hy
 ·rw[hx]at hy;cases hy;exact irr hw x
theorem yf {l:List α}{n:Nat}{x:α}(h:x∈l.take n): ∃i,i<n∧l[i]?=some x:=by
 obtain⟨i,hi,e⟩:=List.mem_iff_getElem.1 h
 have hl:i<n:=by rw[List.length_take]at hi;omega
 refine⟨i,hl,?_⟩
 rw[←List.getElem?_take_of_lt hl,List.getElem?_eq_getElem hi,e]
theorem yB {l:List α}{n:Nat}{x:α}(h:x∈l.drop n): ∃i,n≤i∧l[i]?=some x:=by
 obtain⟨i,hi,e⟩:=List.mem_iff_getElem.1 h
 refine⟨n+i,by omega,?_⟩
 rw[←List.getElem?_drop,List.getElem?_eq_getElem hi,e]
theorem Tu (hw:kc lt){A B:List α}(hA:cy lt A)(hB:cy lt B){s e:Nat}
  (h1: ∀x y,0<s→A[s-1]?=some x→B[e]?=some y→lt y x=false)
  (h2: ∀x y,0<e→A[s]?=some x→B[e-1]?=some y→lt y x=true)
  (hs:s≤A.length) (he:e≤B.length):
  ∀x∈A.take s++B.take e,∀y∈A.drop s++B.drop e,lt y x=false:=by
 intro x hx y hy
 rcases List.mem_append.1 hx with hx|hx<;>rcases List.mem_append.1 hy with hy|hy<;>obtain⟨i,hi,hxi⟩:=yf hx<;>obtain⟨j,hj,hyj⟩:=yB hy
 ·exact gW hw hA (by omega) hxi hyj
 ·obtain⟨u,hu⟩: ∃u,A[s-1]?=some u:=⟨_,List.getElem?_eq_getElem (by omega)⟩
  have hel:e<B.length:=Nat.lt_of_le_of_lt hj (List.getElem?_eq_some_iff.1 hyj).1
  obtain⟨w,hwv⟩: ∃w,B[e]?=some w:=⟨_,List.getElem?_eq_getElem hel⟩
  exact hw.tr _ _ _ (gW hw hA (by omega) hxi hu) (hw.tr _ _ _ (h1 u w (by omega) hu hwv) (gW hw hB hj hwv hyj))
 ·obtain⟨u,hu⟩: ∃u,B[e-1]?=some u:=⟨_,List.getElem?_eq_getElem (by omega)⟩
  have hel:s<A.length:=Nat.lt_of_le_of_lt hj (List.getElem?_eq_some_iff.1 hyj).1
  obtain⟨w,hwv⟩: ∃w,A[s]?=some w:=⟨_,List.getElem?_eq_getElem hel⟩
  exact hw.tr _ _ _ (gW hw hB (by omega) hxi hu) (hw.tr _ _ _ (hw.asym _ _ (h2 w u (by omega) hwv hu)) (gW hw hA hj hwv hyj))
 ·exact gW hw hB (by omega) hxi hyj
theorem BC {A1 A2 B1 B2 C1 C2:List α}(hc: ∀x∈A1++B1,∀y∈A2++B2,lt y x=false)
  (p1:C1.Perm (A1++B1)) (p2:C2.Perm (A2++B2)) (r1:cy lt C1) (r2:cy lt C2):
  cy lt (C1++C2)∧(C1++C2).Perm ((A1++A2)++(B1++B2)):=by
 refine⟨List.pairwise_append.2 ⟨r1,r2,λx hx y hy=>hc x (p1.mem_iff.1 hx) y (p2.mem_iff.1 hy)⟩,(p1.append p2).trans ?_⟩
 rw[show A1++B1++(A2++B2)=A1++((B1++A2)++B2) by simp,show A1++A2++(B1++B2)=A1++((A2++B1)++B2) by simp]
 exact(List.perm_append_comm.append_right B2).append_left A1
theorem zj (hw:kc lt){B:List α}{v:α}{i:Nat}(hB:cy lt B)(h1: ∀x∈B.take i,lt v x=false)(h2: ∀x∈B.drop i,lt x v=false):cy lt (B.take i++v::B.drop i):=by
 have hB':=hB
 rw[←List.take_append_drop i B,cy,List.pairwise_append]at hB'
 refine List.pairwise_append.2 ⟨hB'.1,List.pairwise_cons.2 ⟨h2,hB'.2.1⟩,λx hx y hy=>?_⟩
 rcases List.mem_cons.1 hy with rfl|hy
 ·exact h1 x hx
 ·exact hB'.2.2 x hx y hy
theorem xW {B:List α}{v:α}{i:Nat}:(B.take i++v::B.drop i).Perm (v::B):=by
 refine List.perm_middle.trans (.cons v ?_)
 rw[List.take_append_drop]
theorem vq (hw:kc lt){X:List α}{v:α}{i:Nat}(hX:cy lt X)(hi:i≤X.length)
  (h1: ∀x,0<i→X[i-1]?=some x→lt v x=false) (h2: ∀x,X[i]?=some x→lt x v=false):
  (∀x∈X.take i,lt v x=false)∧ ∀x∈X.drop i,lt x v=false:=by
 refine⟨λx hx=>?_,λx hx=>?_⟩
 ·obtain⟨j,hj,hxj⟩:=yf hx
  obtain⟨u,hu⟩: ∃u,X[i-1]?=some u:=⟨_,List.getElem?_eq_getElem (by omega)⟩
  exact hw.tr _ _ _ (gW hw hX (by omega) hxj hu) (h1 u (by omega) hu)
 ·obtain⟨j,hj,hxj⟩:=yB hx
  have hl:i<X.length:=Nat.lt_of_le_of_lt hj (List.getElem?_eq_some_iff.1 hxj).1
  obtain⟨u,hu⟩: ∃u,X[i]?=some u:=⟨_,List.getElem?_eq_getElem hl⟩
  exact hw.tr _ _ _ (h2 u hu) (gW hw hX hj hu hxj)
def cZ (P X Q:List α)(v:α)(k:Nat):List α:=P++X.take k++v::X.drop k++Q
theorem Km (P X Q:List α)(v x:α){k:Nat}(hx:X[k]?=some x):((cZ P X Q v k).set (P.length+k) x).set (P.length+k+1) v=cZ P X Q v (k+1):=by
 obtain⟨hk,e⟩:=List.getElem?_eq_some_iff.1 hx
 have hd:X.drop k=x::X.drop (k+1):=by rw[List.drop_eq_getElem_cons hk,e]
 have ht:X.take (k+1)=X.take k++[x]:=by rw[List.take_add_one,hx];rfl
 unfold cZ
 have:=tj (P++X.take k) [] (X.drop (k+1)++Q) v x (i:=P.length+k) (j:=P.length+k+1) (by simp;omega) (by simp;omega)
 rw[hd,ht,show P++X.take k++v::x::X.drop (k+1)++Q=P++X.take k++v::[]++x::(X.drop (k+1)++Q) by simp,this]
 simp
theorem IE (P X Q:List α)(v x:α){k:Nat}(hx:X[k]?=some x):((cZ P X Q v (k+1)).set (P.length+k+1) x).set (P.length+k) v=cZ P X Q v k:=by
 obtain⟨hk,e⟩:=List.getElem?_eq_some_iff.1 hx
 have hd:X.drop k=x::X.drop (k+1):=by rw[List.drop_eq_getElem_cons hk,e]
 have ht:X.take (k+1)=X.take k++[x]:=by rw[List.take_add_one,hx];rfl
 unfold cZ
 have:=vf (P++X.take k) [] (X.drop (k+1)++Q) x v (i:=P.length+k) (j:=P.length+k+1) (by simp;omega) (by simp;omega)
 rw[hd,ht,show P++(X.take k++[x])++v::X.drop (k+1)++Q=P++X.take k++x::[]++v::(X.drop (k+1)++Q) by simp,this]
 simp
theorem z7 (P X Q:List α)(v:α){k:Nat}(hk:k≤X.length):(cZ P X Q v k)[P.length+k]?=some v:=by
 unfold cZ
 rw[show P++X.take k++v::X.drop k++Q=(P++X.take k)++v::(X.drop k++Q) by simp,show P.length+k=(P++X.take k).length by simp;omega]
 exact iO _ _ _
theorem Az (P X Q:List α)(v x:α){k:Nat}(hx:X[k]?=some x):(cZ P X Q v k)[P.length+k+1]?=some x:=by
 obtain⟨hk,e⟩:=List.getElem?_eq_some_iff.1 hx
 have hd:X.drop k=x::X.drop (k+1):=by rw[List.drop_eq_getElem_cons hk,e]
 unfold cZ
 rw[hd,show P++X.take k++v::x::X.drop (k+1)++Q=(P++X.take k++[v])++x::(X.drop (k+1)++Q) by simp,show P.length+k+1=(P++X.take k++[v]).length by simp;omega,iO]
theorem Aw (P X Q:List α)(v x:α){k:Nat}(hx:X[k]?=some x):(cZ P X Q v (k+1))[P.length+k]?=some x:=by
 obtain⟨hk,e⟩:=List.getElem?_eq_some_iff.1 hx
 unfold cZ
 have ht:X.take (k+1)=X.take k++[x]:=by rw[List.take_add_one,hx];rfl
 rw[ht,show P++(X.take k++[x])++v::X.drop (k+1)++Q=(P++X.take k)++x::(v::X.drop (k+1)++Q) by simp,show P.length+k=(P++X.take k).length by simp;omega,iO]
def eY (P X M Y Q:List α)(k:Nat):List α:=P++(Y.take k++X.drop k)++M++(X.take k++Y.drop k)++Q
theorem yb (P X M Y Q:List α):eY P X M Y Q 0=P++X++M++Y++Q:=by simp[eY]
theorem AY (P X M Y Q:List α){n:Nat}(h1:X.length=n)(h2:Y.length=n):eY P X M Y Q n=P++Y++M++X++Q:=by
 unfold eY
 rw[List.take_of_length_le (by omega),List.take_of_length_le (by omega),List.drop_eq_nil_of_le (by omega),List.drop_eq_nil_of_le (by omega)]
 simp
theorem z8 (P X M Y Q:List α){k:Nat}{x y:α}(hl:X.length=Y.length)(hx:X[k]?=some x)(hy:Y[k]?=some y):
  (eY P X M Y Q k)[P.length+k]?=some x∧(eY P X M Y Q k)[P.length+X.length+M.length+k]?=some y∧
  ((eY P X M Y Q k).set (P.length+k) y).set (P.length+X.length+M.length+k) x=eY P X M Y Q (k+1):=by
 obtain⟨hk,e⟩:=List.getElem?_eq_some_iff.1 hx
 obtain⟨hk2,e2⟩:=List.getElem?_eq_some_iff.1 hy
 have hd:X.drop k=x::X.drop (k+1):=by rw[List.drop_eq_getElem_cons hk,e]
 have hd2:Y.drop k=y::Y.drop (k+1):=by rw[List.drop_eq_getElem_cons hk2,e2]
 have ht:X.take (k+1)=X.take k++[x]:=by rw[List.take_add_one,hx];rfl
 have ht2:Y.take (k+1)=Y.take k++[y]:=by rw[List.take_add_one,hy];rfl
 have e0:eY P X M Y Q k=(P++Y.take k)++x::(X.drop (k+1)++M++X.take k)++y::(Y.drop (k+1)++Q):=by
  unfold eY;rw[hd,hd2];simp
 have e1:eY P X M Y Q (k+1)=(P++Y.take k)++y::(X.drop (k+1)++M++X.take k)++x::(Y.drop (k+1)++Q):=by
  unfold eY;rw[ht,ht2];simp
 have l1:P.length+k=(P++Y.take k).length:=by simp;omega
 have l2:P.length+X.length+M.length+k=(P++Y.take k).length+1+(X.drop (k+1)++M++X.take k).length:=by simp;omega
 refine⟨?_,?_,?_⟩
 ·rw[e0,l1,List.append_assoc]
  exact iO _ _ _
 ·rw[e0,l2,show(P++Y.take k).length+1+(X.drop (k+1)++M++X.take k).length=(P++Y.take k++x::(X.drop (k+1)++M++X.take k)).length by simp;omega]
  exact iO _ _ _
 ·rw[e0,e1]
  exact tj _ _ _ _ _ l1 l2
end
end Go.Av
end
section
namespace Go.Proofs.Tryz
open Go Go.Av
set_option maxRecDepth 10000
variable {W0 :World}
def bY (ys:List Pkg):Option cX:=some (.cells 54 (ys.map au))
def ltF (f:Pkg→Pkg→Int)(x y:Pkg):Bool:=decide (f x y<0)
def rC (W0:World)(f:Pkg→Pkg→Int)(xs:List Pkg)(g:FuncId)(caps:List AV):Prop:=∀ a∈xs,∀b∈xs,ag prog W0 g ([au a,au b]++caps) (.int .i64 (f a b))
theorem p9 {l:List AV}{i:Nat}(h:i<l.length):(l[i]?.bind λx=>some x).isSome=true:=by
 rw[List.getElem?_eq_getElem h];rfl
theorem oJ {f:Pkg→Pkg→Int}(hw:kc (ltF f))(σ:ab)(id n:Nat)(P A Q:List Pkg)(lo hi:Nat)(hlo:lo=P.length)(hhi:hi=P.length+A.length)(hn:n=(P++A++Q).length)(hx:n≤1048576)(hid:σ[id]?=some (bY (P++A++Q)))(g:FuncId)(caps:List AV)
  (hcmp:rC W0 f (P++A++Q) g caps):
  aY prog W0 206 [.row 54 id 0 n,.int .i64 lo,.int .i64 hi,.fn g caps] σ λr σ'=>∃ C,C.Perm A∧cy (ltF f) C∧σ'=σ.set id (bY (P++C++Q)):=by
 have hidl:id<σ.length:=(List.getElem?_eq_some_iff.1 hid).1
 have hn':n=P.length+A.length+Q.length:=by rw[hn];simp[Nat.add_assoc]
 refine cK [] [] func206 rfl rfl ntmps206 rfl rfl λhs=>?_
 simp only[go_sem,simprocAttr]
 refine ae.cu [0,1,2,3] (.of (by kernel_rfl)) (λk B=>∃ (i:Nat) (S R:List Pkg),B.env 8= .int .i64 i∧k=hi-i∧(S++R).Perm A∧cy (ltF f) S∧i=lo+max 1 S.length∧(A≠[]→1≤S.length)∧B.st=σ.set id (bY (P++S++R++Q))) (hi-(lo+1)) ?_ λk B ⟨i,S,R,h8,hk,hp,hr,hi1,hne,hst⟩=>?_
 ·simp only[go_sem,simprocAttr]
  refine⟨lo+1,A.take 1,A.drop 1,ah (N:=1048577) (by omega) (by rw[aq];omega),rfl,by rw[List.take_append_drop],?_,?_,?_,?_⟩
  ·rcases A with _|⟨a,A⟩<;>simp[cy]
  ·rw[List.length_take];omega
  ·intro h;rcases A with _|⟨a,A⟩
   ·exact absurd rfl h
   ·simp
  ·rw[←List.append_assoc (List.take 1 A),List.take_append_drop,←List.append_assoc];exact(fS hid).symm
 have hpl:=hp.length_eq
 rw[List.length_append]at hpl
 unfold bY at hst
 simp only[go_sem,simprocAttr,h8,hst]
 refine⟨λhih=>?_,λhih=>bO.normal ?_⟩
 ·have hA:A≠[]:=by rintro rfl;simp at hhi;omega
  have hS:=hne hA
  obtain⟨v,R',rfl⟩: ∃v R',R=v::R':=by
   rcases R with _|⟨v,R'⟩
   ·simp at hpl;omega
   ·exact⟨v,R',rfl⟩
  have hsub: ∀x∈S++v::R',x∈P++A++Q:=λx hx=>by
   have:=hp.subset hx
   simp[this]
  simp only[List.length_cons]at hpl
  refine ae.ats [0,1,2,3,8] (.of (by kernel_rfl)) (λB=>∃ S',S'.Perm (v::S)∧cy (ltF f) S'∧B.st=σ.set id (bY (P++S'++R'++Q))) ?_ λB ⟨S',hp',hr',hst⟩=>?_
  ·refine ae.cu [0,1,2,3,8] (.of (by kernel_rfl)) (λk B=>∃ S1 S2,B.env 9= .int .i64 (k:Nat)∧k=lo+S1.length∧S1++S2=S∧(∀x∈S2,ltF f v x=true)∧B.st=σ.set id (bY (P++S1++v::S2++R'++Q))) i ?_ λk B ⟨S1,S2,h9,hk1,hS12,hlt,hst⟩=>?_
   ·simp only[go_sem,simprocAttr]
    exact⟨S,[],by omega,by simp,by simp,by rw[hst,bY];simp⟩
   have hsl:S1.length+S2.length=S.length:=by rw[←hS12];simp
   obtain⟨ys,hys⟩: ∃ys,ys=P++S1++v::S2++R'++Q:=⟨_,rfl⟩
   rw[←hys]at hst
   have hyl:ys.length=n:=by rw[hys,hn'];simp;omega
   have ha:ys[k]?=some v:=by
    rw[hys,show P++S1++v::S2++R'++Q=(P++S1)++v::(S2++R'++Q) by simp,show k=(P++S1).length by simp;omega]
    exact iO _ _ _
   obtain⟨b,hb⟩:=get_some (show k-1<ys.length by omega)
   have hw1:IntKind.i64.wrap ((k:Int)-1)=(k:Int)-1:=aE (by omega)
   have hnn:((k:Int)-1).toNat=k-1:=by omega
   have ham:v∈P++A++Q:=hsub v (by simp)
   have hbm:b∈P++A++Q:=by
    have hbm:=List.mem_of_getElem? hb
    rw[hys]at hbm
    simp only[List.mem_append,List.mem_cons]at hbm
    rcases hbm with(((h|h)|h|h)|h)|h
    ·simp[h]
    ·exact hsub b (by rw[←hS12];simp[h])
    ·subst h;exact ham
    ·exact hsub b (by rw[←hS12];simp[h])
    ·exact hsub b (by simp[h])
    ·simp[h]
   unfold bY at hst
   simp only[go_sem,simprocAttr,h9,hst,bP hidl,ga hidl,hw1,hnn,Nat.zero_add,List.getElem?_map,ha,hb,Option.map_some]
   refine⟨.of (by kernel_rfl),λ_=>by omega,λ_=>by omega,aA.go (λ_=>hcmp v ham b hbm) ?_⟩
   simp only[go_sem,simprocAttr,h9,hst]
   have hlast:lo<k→S1.getLast?=some b:=λh=>by
    rcases List.eq_nil_or_concat S1 with rfl|⟨L,u,rfl⟩
    ·simp at hk1;omega
    ·simp only[List.concat_eq_append,List.getLast?_concat]
     rw[hys,show P++L.concat u++v::S2++R'++Q=(P++L)++u::(v::S2++R'++Q) by simp,show k-1=(P++L).length by simp at hk1 ⊢;omega,iO]at hb
     exact hb
   refine⟨λhl=>?_,λhge=>⟨S1++v::S2,?_,?_,?_⟩⟩
   ·simp only[Bool.and_eq_true,decide_eq_true_eq]at hl
    have hlk:lo<k:=hl.1
    have hfl:=hl.2
    have hlS:=hlast hlk
    obtain⟨L,u,rfl⟩: ∃L u,S1=L++[u]:=by
     rcases List.eq_nil_or_concat S1 with rfl|⟨L,u,rfl⟩
     ·simp at hlS
     ·exact⟨L,u,by simp⟩
    have:u=b:=by simpa using hlS
    subst this
    simp only[go_sem,simprocAttr,h9,hst,bP hidl,ga hidl,c7 hidl,hw1,hnn,Nat.zero_add,List.getElem?_map,ha,hb,Option.map_some]
    refine⟨.of (by kernel_rfl),by omega,by omega,by omega,by omega,?_,.here (k-1) (by omega) ⟨L,u::S2,?_,by simp at hk1;omega,by rw[←hS12];simp,?_,?_⟩⟩
    ·rw[←List.map_set]
     obtain⟨y,hy⟩:=get_some (show k-1<((ys.set k u).map au).length by simp;omega)
     rw[hy];rfl
    ·simp only[go_sem,simprocAttr]
     congr 1
     omega
    ·intro x hx
     rcases List.mem_cons.1 hx with rfl|hx
     ·exact decide_eq_true hfl
     ·exact hlt x hx
    ·simp only[go_sem,simprocAttr,hst,bY]
     have:=vf (P++L) [] (S2++R'++Q) u v (i:=k-1) (j:=k) (by simp at hk1 ⊢;omega) (by simp at hk1 ⊢;omega)
     have e:P++(L++v::u::(S2++(R'++Q)))=P++L++v::[]++u::(S2++R'++Q):=by simp
     rw[e,←this,List.map_set,List.map_set,hys]
     simp
   ·rw[←hS12];exact List.perm_middle
   ·refine D2 hw (by rw[hS12];exact hr) hlt λu hu=>?_
    by_cases hlk:lo<k
    ·have:=hlast hlk
     rw[hu]at this
     cases this
     simp only[Bool.and_eq_false_iff,decide_eq_false_iff_not]at hge
     rcases hge with h|h
     ·exact absurd hlk h
     ·exact decide_eq_false h
    ·have:S1=[]:=List.eq_nil_of_length_eq_zero (by omega)
     subst this;cases hu
   ·rw[hys];simp[bY]
  have hpl':=hp'.length_eq
  simp only[List.length_cons]at hpl'
  simp only[go_sem,simprocAttr,h8,hst]
  exact .here (hi-(i+1)) (by omega) ⟨i+1,S',R',ah hih (by rw[aq];omega),rfl,((hp'.append_right R').trans List.perm_middle.symm).trans hp,hr',by omega,λ_=>by omega,by simp only[go_sem,simprocAttr,hst]⟩
 ·have hR:R=[]:=by
   rcases A with _|⟨a,A⟩
   ·simp at hpl;exact hpl.2
   ·have:=hne (by simp)
    simp only[List.length_cons]at hpl hhi
    exact List.eq_nil_of_length_eq_zero (by omega)
  subst hR
  simp only[go_sem,simprocAttr,hst]
  exact⟨_,.refl _,by simp,S,by simpa using hp,hr,by simp[bY]⟩
end Go.Proofs.Tryz
end
section
namespace Go.Proofs.Tryz
open Go Go.Av
set_option maxRecDepth 10000
variable {W0 :World}
theorem k8 (σ:ab)(id n:Nat)(P X M Y Q:List Pkg)(a b k:Nat)(ha:a=P.length)(hb:b=P.length+X.length+M.length)(hX:X.length=k)(hY:Y.length=k)(hn:n=P.length+X.length+M.length+Y.length+Q.length)(hx:n≤1048576)(hid:σ[id]?=some (bY (P++X++M++Y++Q)))(g:AV):
  aY prog W0 263 [.row 54 id 0 n,.int .i64 a,.int .i64 b,.int .i64 k,g] σ λr σ'=>σ'=σ.set id (bY (P++Y++M++X++Q)):=by
 have hidl:id<σ.length:=(List.getElem?_eq_some_iff.1 hid).1
 refine cK [] [] func263 rfl rfl ntmps263 rfl rfl λhs=>?_
 simp only[go_sem,simprocAttr]
 refine ae.cu [0,1,2,3] (.of (by kernel_rfl)) (λm B=>∃ i:Nat,B.env 10= .int .i64 i∧m=k-i∧i≤k∧B.st=σ.set id (bY (eY P X M Y Q i))) k ?_ λm B ⟨i,h10,hm,hik,hst⟩=>?_
 ·simp only[go_sem,simprocAttr]
  exact⟨0,rfl,rfl,Nat.zero_le _,by rw[yb];exact(fS hid).symm⟩
 unfold bY at hst
 simp only[go_sem,simprocAttr,h10,hst]
 refine⟨λhlt=>?_,λhge=>bO.normal ?_⟩
 ·obtain⟨x,hxk⟩:=get_some (show i<X.length by omega)
  obtain⟨y,hyk⟩:=get_some (show i<Y.length by omega)
  obtain⟨c1,c2,c3⟩:=z8 P X M Y Q (by omega) hxk hyk
  have hlen:(eY P X M Y Q i).length=n:=by
   unfold eY
   simp only[List.length_append,List.length_take,List.length_drop]
   omega
  rw[←hb]at c2 c3
  rw[←ha]at c1 c3
  have w1:IntKind.i64.wrap ((a:Int)+i)=((a+i:Nat):Int):=by rw[aE (by omega)];omega
  have w2:IntKind.i64.wrap ((b:Int)+i)=((b+i:Nat):Int):=by rw[aE (by omega)];omega
  generalize eY P X M Y Q i=ys at *
  simp only[go_sem,simprocAttr,h10,hst,bP hidl,ga hidl,c7 hidl,w1,w2,Nat.zero_add,List.getElem?_map,c1,c2,Option.map_some,Int.toNat_natCast]
  refine⟨.of (by kernel_rfl),by omega,by omega,by omega,by omega,p9 (by simp;omega),.here (k-(i+1)) (by omega) ⟨i+1,ah (N:=1048577) (by omega) (by rw[aq];omega),rfl,by omega,?_⟩⟩
  rw[←c3]
  simp only[go_sem,simprocAttr,hst,bY]
  rw[List.map_set,List.map_set]
 ·have:i=k:=by omega
  subst this
  simp only[go_sem,simprocAttr,hst]
  exact⟨_,.refl _,by simp,by rw[AY P X M Y Q hX hY,bY];simp⟩
end Go.Proofs.Tryz
end
section
namespace Go.Proofs.Tryz
open Go Go.Av
set_option maxRecDepth 10000
set_option maxHeartbeats 1000000
variable {W0 :World}
theorem Df (σ:ab)(id n:Nat)(P U V Q:List Pkg)(a m b:Nat)(ha:a=P.length)(hm:m=P.length+U.length)(hb:b=P.length+U.length+V.length)(hU:0<U.length)(hV:0<V.length)(hn:n=P.length+U.length+V.length+Q.length)(hx:n≤1048576)(hid:σ[id]?=some (bY (P++U++V++Q)))(g:FuncId)(caps:List AV):
  aY prog W0 240 [.row 54 id 0 n,.int .i64 a,.int .i64 m,.int .i64 b,.fn g caps] σ λr σ'=>σ'=σ.set id (bY (P++V++U++Q)):=by
 have hidl:id<σ.length:=(List.getElem?_eq_some_iff.1 hid).1
 refine cK [] [] func240 rfl rfl ntmps240 rfl rfl λhs=>?_
 have w1:IntKind.i64.wrap ((m:Int)-a)=((m-a:Nat):Int):=by rw[aE (by omega)];omega
 have w2:IntKind.i64.wrap ((b:Int)-m)=((b-m:Nat):Int):=by rw[aE (by omega)];omega
 simp only[go_sem,simprocAttr,w1,w2]
 refine ae.at [0,2,4] (.of (by kernel_rfl)) (λB=>∃ (i:Nat) (P' U' V' Q':List Pkg),B.env 10= .int .i64 i∧U'.length=i∧V'.length=i∧P'.length+i=m∧P'.length+U'.length+V'.length+Q'.length=n∧P'++V'++U'++Q'=P++V++U++Q∧B.st=σ.set id (bY (P'++U'++V'++Q'))) ?_ λB ⟨i,P',U',V',Q',h10,hU',hV',hPi,hlen,heq,hst⟩=>?_
 ·refine ae.cu [0,2,4] (.of (by kernel_rfl)) (λk B=>∃ (i j:Nat) (P' U' V' Q':List Pkg),B.env 10= .int .i64 i∧B.env 11= .int .i64 j∧k=i+j∧0<i∧0<j∧U'.length=i∧V'.length=j∧P'.length+i=m∧P'.length+U'.length+V'.length+Q'.length=n∧P'++V'++U'++Q'=P++V++U++Q∧B.st=σ.set id (bY (P'++U'++V'++Q'))) (U.length+V.length) ?_ λk B ⟨i,j,P',U',V',Q',h10,h11,hk,hi0,hj0,hU',hV',hPi,hlen,heq,hst⟩=>?_
  ·simp only[go_sem,simprocAttr]
   exact⟨m-a,b-m,P,U,V,Q,rfl,rfl,by omega,by omega,by omega,by omega,by omega,by omega,by omega,by simp,by simpa using (fS hid).symm⟩
  have x1:IntKind.i64.wrap ((m:Int)-i)=((m-i:Nat):Int):=by rw[aE (by omega)];omega
  have x2:IntKind.i64.wrap ((m:Int)+j)=((m+j:Nat):Int):=by rw[aE (by omega)];omega
  have hst0:=hst
  simp only[go_sem,simprocAttr,h10,h11,x1,x2]
  refine⟨λhne=>⟨λhgt=>?_,λhle=>?_⟩,λhe=>⟨i,P',U',V',Q',rfl,hU',by omega,hPi,hlen,by simpa using heq,by simpa using hst0⟩⟩
  ·have e:P'++U'++V'++Q'=P'++U'.take j++U'.drop j++V'++Q':=by rw[List.append_assoc P' (U'.take j),List.take_append_drop]
   have hd:=k8 (W0:=W0) B.st id n P' (U'.take j) (U'.drop j) V' Q' (m-i) m j (by omega) (by simp;omega) (by simp;omega) hV' (by simp;omega) hx (by rw[hst0,←e];exact List.getElem?_set_self hidl) (.fn g caps)
   refine ak.goes (by simp only[go_sem,simprocAttr]) hd λr σ1 hσ=>?_
   have x3:IntKind.i64.wrap ((i:Int)-j)=((i-j:Nat):Int):=by rw[aE (by omega)];omega
   simp only[go_sem,simprocAttr,h10,h11,x3]
   refine .here (i-j+j) (by omega) ⟨i-j,j,P'++V',U'.drop j,U'.take j,Q',rfl,h11,rfl,by omega,hj0,by simp;omega,by simp;omega,by simp;omega,by simp;omega,?_,?_⟩
   ·rw[show P'++V'++(U'.take j++(U'.drop j++Q'))=P'++V'++U'++Q' by rw[←List.append_assoc (U'.take j),List.take_append_drop];simp,heq];simp
   ·simp only[go_sem,simprocAttr,hσ,hst0,List.set_set,List.append_assoc]
  ·have hd:=k8 (W0:=W0) B.st id n P' U' (V'.take (j-i)) (V'.drop (j-i)) Q' (m-i) (m+j-i) i (by omega) (by simp;omega) hU' (by simp;omega) (by simp;omega) hx (by rw[hst0,List.append_assoc (P'++U') (V'.take (j-i)),List.take_append_drop];exact List.getElem?_set_self hidl) (.fn g caps)
   have x4:IntKind.i64.wrap (((m+j:Nat):Int)-i)=((m+j-i:Nat):Int):=by rw[aE (by omega)];omega
   rw[x4]
   refine ak.goes (by simp only[go_sem,simprocAttr]) hd λr σ1 hσ=>?_
   have x3:IntKind.i64.wrap ((j:Int)-i)=((j-i:Nat):Int):=by rw[aE (by omega)];omega
   simp only[go_sem,simprocAttr,h10,h11,x3]
   refine .here (i+(j-i)) (by omega) ⟨i,j-i,P',V'.drop (j-i),V'.take (j-i),U'++Q',h10,rfl,rfl,hi0,by omega,by simp;omega,by simp;omega,hPi,by simp;omega,?_,?_⟩
   ·rw[show P'++(V'.take (j-i)++(V'.drop (j-i)++(U'++Q')))=P'++V'++U'++Q' by rw[←List.append_assoc (V'.take (j-i)),List.take_append_drop];simp,heq];simp
   ·simp only[go_sem,simprocAttr,hσ,hst0,List.set_set,List.append_assoc]
 have x1:IntKind.i64.wrap ((m:Int)-i)=((m-i:Nat):Int):=by rw[aE (by omega)];omega
 have hd:=k8 (W0:=W0) B.st id n P' U' [] V' Q' (m-i) m i (by omega) (by simp;omega) hU' hV' (by simp;omega) hx (by rw[hst,List.append_nil];exact List.getElem?_set_self hidl) (.fn g caps)
 simp only[go_sem,simprocAttr,h10,x1]
 refine ak.goes (by simp only[go_sem,simprocAttr]) hd λr σ1 hσ=>?_
 simp only[go_sem,simprocAttr]
 refine bO.normal ?_
 simp only[go_sem,simprocAttr]
 refine⟨_,.refl _,by rw[hσ,hst];simp,?_⟩
 rw[hσ,hst,List.set_set,List.append_nil,heq]
 simp
end Go.Proofs.Tryz
end
section
namespace Go.Proofs.Tryz
open Go Go.Av
set_option maxRecDepth 10000
set_option maxHeartbeats 1000000
variable {W0 :World}
def Oi (W0:World)(f:Pkg→Pkg→Int)(g:FuncId)(caps:List AV)(L:Nat):Prop:=∀ (σ:ab) (id n:Nat) (P A B Q:List Pkg) (a m b:Nat),a=P.length→m=P.length+A.length→b=P.length+A.length+B.length→n=P.length+A.length+B.length+Q.length→n≤1048576→
  0<A.length→0<B.length→A.length+B.length≤L→cy (ltF f) A→cy (ltF f) B→σ[id]?=some (bY (P++A++B++Q))→rC W0 f (P++A++B++Q) g caps→
  aY prog W0 207 [.row 54 id 0 n,.int .i64 a,.int .i64 m,.int .i64 b,.fn g caps] σ λr σ'=>∃ C,C.Perm (A++B)∧cy (ltF f) C∧σ'=σ.set id (bY (P++C++Q))
theorem mI {i j:Nat}(h:i+j≤4194304):IntKind.i64.wrap (Int.fdiv (IntKind.u64.wrap (IntKind.i64.wrap ((i:Int)+j))) (2^min 1 64))=(((i+j) / 2:Nat):Int):=by
 rw[aE (n:=(i:Int)+j) (by omega)]
 have:IntKind.u64.wrap ((i:Int)+j)=(i:Int)+j:=by simp[IntKind.wrap,IntKind.signed,IntKind.bits];omega
 rw[this,show(2:Int)^min 1 64=2 from rfl,Int.fdiv_eq_ediv_of_nonneg _ (by omega),aE (by omega)]
 omega
theorem get_at {P X Q:List Pkg}{k:Nat}(h:k<X.length):(P++X++Q)[P.length+k]?=X[k]?:=by
 rw[List.append_assoc,List.getElem?_append_right (by omega),Nat.add_sub_cancel_left,List.getElem?_append_left h]
theorem D1 {f:Pkg→Pkg→Int}(hw:kc (ltF f))(σ:ab)(id n:Nat)(P B Q:List Pkg)(v:Pkg)(a m b:Nat)(ha:a=P.length)(hm:m=P.length+1)(hb:b=P.length+1+B.length)(hn:n=P.length+1+B.length+Q.length)(hx:n≤1048576)
  (hB:cy (ltF f) B) (hid:σ[id]?=some (bY (P++v::B++Q))) (g:FuncId) (caps:List AV) (hcmp:rC W0 f (P++v::B++Q) g caps):
  aY prog W0 207 [.row 54 id 0 n,.int .i64 a,.int .i64 m,.int .i64 b,.fn g caps] σ λr σ'=>∃ C,C.Perm (v::B)∧cy (ltF f) C∧σ'=σ.set id (bY (P++C++Q)):=by
 have hidl:id<σ.length:=(List.getElem?_eq_some_iff.1 hid).1
 refine cK [] [] func207 rfl rfl ntmps207 rfl rfl λhs=>?_
 have w1:IntKind.i64.wrap ((m:Int)-a)=1:=by rw[aE (by omega)];omega
 simp only[go_sem,simprocAttr,w1]
 obtain⟨ys,hys⟩: ∃ys,ys=P++v::B++Q:=⟨_,rfl⟩
 rw[←hys]at hid hcmp
 have hyl:ys.length=n:=by rw[hys,hn];simp;omega
 have ea:ys[a]?=some v:=by rw[hys,ha,List.append_assoc,List.cons_append];exact iO _ _ _
 have eb: ∀c,m≤c→c<b→ys[c]?=B[c-m]?:=λc h1 h2=>by
  have:=get_at (P:=P++[v]) (X:=B) (Q:=Q) (k:=c-m) (by omega)
  rw[hys,←this]
  simp only[List.append_assoc,List.cons_append,List.nil_append,List.length_append,List.length_cons,List.length_nil]
  congr 1
  omega
 have hmem: ∀x∈B,x∈ys:=λx h=>by rw[hys];simp[h]
 have hvm:v∈ys:=by rw[hys];simp
 unfold bY at hid
 refine ae.at [0,1,4] (.of (by kernel_rfl)) (λE=>∃ i:Nat,E.env 10= .int .i64 i∧m≤i∧i≤b∧(∀x,0<i-m→B[i-m-1]?=some x→ltF f x v=true)∧(∀x,B[i-m]?=some x→ltF f x v=false)∧E.st=σ) ?_ λE ⟨i,h10,hmi,hib,g1,g2,hst⟩=>?_
 ·refine ae.cu [0,1,4] (.of (by kernel_rfl)) (λk E=>∃ i j:Nat,E.env 10= .int .i64 i∧E.env 11= .int .i64 j∧k=j-i∧m≤i∧i≤j∧j≤b∧(∀x,0<i-m→B[i-m-1]?=some x→ltF f x v=true)∧(∀x,B[j-m]?=some x→ltF f x v=false)∧E.st=σ) (b-m) ?_ λk E ⟨i,j,h10,h11,hk,hmi,hij,hjb,g1,g2,hst⟩=>?_
  ·simp only[go_sem,simprocAttr]
   refine⟨m,b,rfl,rfl,rfl,Nat.le_refl _,by omega,Nat.le_refl _,λx h=>by omega,λx h=>?_⟩
   rw[List.getElem?_eq_none (by omega)]at h
   cases h
  have hh:=mI (i:=i) (j:=j) (by omega)
  obtain⟨c,hc⟩: ∃c,c=(i+j) / 2:=⟨_,rfl⟩
  rw[←hc]at hh
  simp only[go_sem,simprocAttr,h10,h11,hst,hh]
  refine⟨λhlt=>?_,λhge=>?_⟩
  ·obtain⟨x,hxc⟩:=get_some (show c-m<B.length by omega)
   have e1:ys[c]?=some x:=(eb c (by omega) (by omega)).trans hxc
   have hxm:=hmem x (List.mem_of_getElem? hxc)
   simp only[go_sem,simprocAttr,h10,h11,hst,hh,aw hid,ay hid,Nat.zero_add,List.getElem?_map,Int.toNat_natCast,e1,ea,Option.map_some]
   refine⟨.of (by kernel_rfl),by omega,by omega,aA.go (gd:=none) (hcmp x hxm v hvm) ?_⟩
   simp only[go_sem,simprocAttr,h10,h11,hst]
   refine⟨λhl=>.here (j-(c+1)) (by omega) ⟨c+1,j,ah (N:=1048577) (by omega) (by rw[aq];omega),h11,rfl,by omega,by omega,hjb,λy _ hy=>?_,g2,by simp only[go_sem,simprocAttr,hst]⟩,λhl=>.here (c-i) (by omega) ⟨i,c,h10,rfl,rfl,hmi,by omega,by omega,g1,λy hy=>?_,by simp only[go_sem,simprocAttr,hst]⟩⟩
   ·rw[show c+1-m-1=c-m by omega,hxc]at hy
    cases hy
    exact decide_eq_true hl
   ·rw[hxc]at hy
    cases hy
    exact decide_eq_false hl
  ·have:i=j:=by omega
   subst this
   exact⟨i,rfl,hmi,hjb,g1,g2⟩
 simp only[go_sem,simprocAttr,h10]
 have hps:=vq hw hB (i:=i-m) (v:=v) (by omega) (λx h0 hx=>hw.asym _ _ (g1 x h0 hx)) g2
 refine ae.cu [0,10] (.of (by kernel_rfl)) (λk D=>∃ d:Nat,D.env 13= .int .i64 (a+d:Nat)∧k=i-m-d∧d≤i-m∧D.st=σ.set id (bY (cZ P B Q v d))) (i-m) ?_ λk D ⟨d,h13,hk,hd,hstD⟩=>?_
 ·simp only[go_sem,simprocAttr]
  exact⟨0,rfl,rfl,Nat.zero_le _,by rw[hst,cZ,bY];simp only[List.take_zero,List.drop_zero,List.append_nil];rw[show P++v::B++Q=ys from hys.symm];exact(fS hid).symm⟩
 have w2:IntKind.i64.wrap ((i:Int)-1)=(i:Int)-1:=aE (by omega)
 unfold bY at hstD
 simp only[go_sem,simprocAttr,h13,h10,hstD,w2]
 refine⟨λhlt=>?_,λhge=>bO.ret ?_⟩
 ·obtain⟨x,hxd⟩:=get_some (show d<B.length by omega)
  have q1:=z7 P B Q v (k:=d) (by omega)
  have q2:=Az P B Q v x hxd
  have q3:=Km P B Q v x hxd
  have hln:(cZ P B Q v d).length=n:=by rw[cZ,hn];simp;omega
  rw[←ha]at q1 q2 q3
  generalize cZ P B Q v d=zs at *
  have w3:IntKind.i64.wrap (((a+d:Nat):Int)+1)=((a+d+1:Nat):Int):=by rw[aE (by omega)];omega
  simp only[go_sem,simprocAttr,h13,h10,hstD,bP hidl,ga hidl,c7 hidl,w3,Nat.zero_add,List.getElem?_map,q1,q2,Option.map_some,Int.toNat_natCast]
  refine⟨.of (by kernel_rfl),by omega,by omega,by omega,by omega,p9 (by simp;omega),.here (i-m-(d+1)) (by omega) ⟨d+1,(by simp only[go_sem,simprocAttr];rfl),rfl,by omega,?_⟩⟩
  rw[←q3]
  simp only[go_sem,simprocAttr,hstD,bY]
  rw[List.map_set,List.map_set]
 ·have hdi:d=i-m:=by omega
  subst hdi
  simp only[go_sem,simprocAttr,hstD]
  exact⟨_,.refl _,by simp,_,xW,zj hw hB hps.1 hps.2,by rw[bY,cZ];simp⟩
theorem DT {f:Pkg→Pkg→Int}(hw:kc (ltF f))(σ:ab)(id n:Nat)(P X Q:List Pkg)(v:Pkg)(a m b:Nat)(ha:a=P.length)(hm:m=P.length+X.length)(hb:b=P.length+X.length+1)(hn:n=P.length+X.length+1+Q.length)(hx:n≤1048576)(h1:X.length≠1)
  (hB:cy (ltF f) X) (hid:σ[id]?=some (bY (P++X++v::Q))) (g:FuncId) (caps:List AV) (hcmp:rC W0 f (P++X++v::Q) g caps):
  aY prog W0 207 [.row 54 id 0 n,.int .i64 a,.int .i64 m,.int .i64 b,.fn g caps] σ λr σ'=>∃ C,C.Perm (X++[v])∧cy (ltF f) C∧σ'=σ.set id (bY (P++C++Q)):=by
 have hidl:id<σ.length:=(List.getElem?_eq_some_iff.1 hid).1
 refine cK [] [] func207 rfl rfl ntmps207 rfl rfl λhs=>?_
 have w0:IntKind.i64.wrap ((m:Int)-a)=(X.length:Int):=by rw[aE (by omega)];omega
 have w1:IntKind.i64.wrap ((b:Int)-m)=1:=by rw[aE (by omega)];omega
 have hx1:((X.length:Int)==1)=false:=by simp;omega
 have hx2: ¬((X.length:Int)=1):=by omega
 simp only[go_sem,simprocAttr,w0,w1,hx1,hx2]
 obtain⟨ys,hys⟩: ∃ys,ys=P++X++v::Q:=⟨_,rfl⟩
 rw[←hys]at hid hcmp
 have hyl:ys.length=n:=by rw[hys,hn];simp;omega
 have ea:ys[m]?=some v:=by rw[hys,hm,←List.length_append];exact iO _ _ _
 have eb: ∀c,a≤c→c<m→ys[c]?=X[c-a]?:=λc h1 h2=>by
  have:=get_at (P:=P) (X:=X) (Q:=v::Q) (k:=c-a) (by omega)
  rw[hys,←this]
  congr 1
  omega
 have hmem: ∀x∈X,x∈ys:=λx h=>by rw[hys];simp[h]
 have hvm:v∈ys:=by rw[hys];simp
 unfold bY at hid
 refine ae.at [0,2,4] (.of (by kernel_rfl)) (λE=>∃ i:Nat,E.env 14= .int .i64 i∧a≤i∧i≤m∧(∀x,0<i-a→X[i-a-1]?=some x→ltF f v x=false)∧(∀x,X[i-a]?=some x→ltF f v x=true)∧E.st=σ) ?_ λE ⟨i,h14,hmi,hib,g1,g2,hst⟩=>?_
 ·refine ae.cu [0,2,4] (.of (by kernel_rfl)) (λk E=>∃ i j:Nat,E.env 14= .int .i64 i∧E.env 15= .int .i64 j∧k=j-i∧a≤i∧i≤j∧j≤m∧(∀x,0<i-a→X[i-a-1]?=some x→ltF f v x=false)∧(∀x,X[j-a]?=some x→ltF f v x=true)∧E.st=σ) (m-a) ?_ λk E ⟨i,j,h14,h15,hk,hmi,hij,hjb,g1,g2,hst⟩=>?_
  ·simp only[go_sem,simprocAttr]
   refine⟨a,m,rfl,rfl,rfl,Nat.le_refl _,by omega,Nat.le_refl _,λx h=>by omega,λx h=>?_⟩
   rw[List.getElem?_eq_none (by omega)]at h
   cases h
  have hh:=mI (i:=i) (j:=j) (by omega)
  obtain⟨c,hc⟩: ∃c,c=(i+j) / 2:=⟨_,rfl⟩
  rw[←hc]at hh
  simp only[go_sem,simprocAttr,h14,h15,hst,hh]
  refine⟨λhlt=>?_,λhge=>?_⟩
  ·obtain⟨x,hxc⟩:=get_some (show c-a<X.length by omega)
   have e1:ys[c]?=some x:=(eb c (by omega) (by omega)).trans hxc
   have hxm:=hmem x (List.mem_of_getElem? hxc)
   simp only[go_sem,simprocAttr,h14,h15,hst,hh,aw hid,ay hid,Nat.zero_add,List.getElem?_map,Int.toNat_natCast,e1,ea,Option.map_some]
   refine⟨.of (by kernel_rfl),by omega,by omega,aA.go (gd:=none) (hcmp v hvm x hxm) ?_⟩
   simp only[go_sem,simprocAttr,h14,h15,hst]
   refine⟨λhl=>.here (j-(c+1)) (by omega) ⟨c+1,j,ah (N:=1048577) (by omega) (by rw[aq];omega),h15,rfl,by omega,by omega,hjb,λy _ hy=>?_,g2,by simp only[go_sem,simprocAttr,hst]⟩,λhl=>.here (c-i) (by omega) ⟨i,c,h14,rfl,rfl,hmi,by omega,by omega,g1,λy hy=>?_,by simp only[go_sem,simprocAttr,hst]⟩⟩
   ·rw[show c+1-a-1=c-a by omega,hxc]at hy
    cases hy
    exact decide_eq_false (by simpa using hl)
   ·rw[hxc]at hy
    cases hy
    exact decide_eq_true (by simpa using hl)
  ·have:i=j:=by omega
   subst this
   exact⟨i,rfl,hmi,hjb,g1,g2⟩
 simp only[go_sem,simprocAttr,h14]
 have hps:=vq hw hB (i:=i-a) (v:=v) (by omega) g1 (λx hx=>hw.asym _ _ (g2 x hx))
 refine ae.cu [0,14] (.of (by kernel_rfl)) (λk D=>∃ d:Nat,D.env 17= .int .i64 (a+d:Nat)∧k=d∧i-a≤d∧d≤X.length∧D.st=σ.set id (bY (cZ P X Q v d))) X.length ?_ λk D ⟨d,h17,hk,hd,hdl,hstD⟩=>?_
 ·simp only[go_sem,simprocAttr]
  exact⟨X.length,by rw[hm,ha],rfl,by omega,Nat.le_refl _,by rw[hst,cZ,bY];simp only[List.take_length,List.drop_length];rw[show P++X++[v]++Q=ys by rw[hys];simp];exact(fS hid).symm⟩
 unfold bY at hstD
 simp only[go_sem,simprocAttr,h17,h14,hstD]
 refine⟨λhlt=>?_,λhge=>bO.ret ?_⟩
 ·obtain⟨e,rfl⟩: ∃e,d=e+1:=⟨d-1,by omega⟩
  obtain⟨x,hxd⟩:=get_some (show e<X.length by omega)
  have q1:=z7 P X Q v (k:=e+1) (by omega)
  have q2:=Aw P X Q v x hxd
  have q3:=IE P X Q v x hxd
  have hln:(cZ P X Q v (e+1)).length=n:=by rw[cZ,hn];simp;omega
  rw[←ha]at q1 q2 q3
  rw[Nat.add_assoc]at q3
  generalize cZ P X Q v (e+1)=zs at *
  have w3:IntKind.i64.wrap (((a+(e+1):Nat):Int)-1)=((a+e:Nat):Int):=by rw[aE (by omega)];omega
  simp only[go_sem,simprocAttr,h17,h14,hstD,bP hidl,ga hidl,c7 hidl,w3,Nat.zero_add,List.getElem?_map,q1,q2,Option.map_some,Int.toNat_natCast]
  refine⟨.of (by kernel_rfl),by omega,by omega,by omega,by omega,p9 (by simp;omega),.here e (by omega) ⟨e,(by simp only[go_sem,simprocAttr]),rfl,by omega,by omega,?_⟩⟩
  rw[←q3]
  simp only[go_sem,simprocAttr,hstD,bY]
  rw[List.map_set,List.map_set]
 ·have hdi:d=i-a:=by omega
  subst hdi
  simp only[go_sem,simprocAttr,hstD]
  exact⟨_,.refl _,by simp,_,xW.trans (List.perm_append_singleton v X).symm,zj hw hB hps.1 hps.2,by rw[bY,cZ];simp⟩
theorem Am {f:Pkg→Pkg→Int}(hw:kc (ltF f))(g:FuncId)(caps:List AV): ∀L,Oi W0 f g caps L:=by
 intro L
 induction L with
 |zero=>intro σ id n P A B Q a m b ha hm hb hn hx hA hB hL;omega
 |succ L ih=>
 intro σ id n P A B Q a m b ha hm hb hn hx hA0 hB0 hL hA hB hid hcmp
 have hidl:id<σ.length:=(List.getElem?_eq_some_iff.1 hid).1
 by_cases c1:A.length=1
 ·obtain⟨v,rfl⟩:=List.length_eq_one_iff.1 c1
  have:=D1 (W0:=W0) hw σ id n P B Q v a m b ha (by simpa using hm) (by simpa using hb) (by simpa using hn) hx hB (by simpa using hid) g caps (by simpa using hcmp)
  simpa using this
 by_cases c2:B.length=1
 ·obtain⟨v,rfl⟩:=List.length_eq_one_iff.1 c2
  have:=DT (W0:=W0) hw σ id n P A Q v a m b ha hm (by simpa using hb) (by simpa using hn) hx c1 hA (by simpa using hid) g caps (by simpa using hcmp)
  simpa using this
 refine cK [] [] func207 rfl rfl ntmps207 rfl rfl λhs=>?_
 have w0:IntKind.i64.wrap ((m:Int)-a)=(A.length:Int):=by rw[aE (by omega)];omega
 have w1:IntKind.i64.wrap ((b:Int)-m)=(B.length:Int):=by rw[aE (by omega)];omega
 have hx1:((A.length:Int)==1)=false:=by simp;omega
 have hx2: ¬((A.length:Int)=1):=by omega
 have hx3:((B.length:Int)==1)=false:=by simp;omega
 have hx4: ¬((B.length:Int)=1):=by omega
 have w2:=mI (i:=a) (j:=b) (by omega)
 obtain⟨mid,hmid⟩: ∃mid,mid=(a+b) / 2:=⟨_,rfl⟩
 rw[←hmid]at w2
 have w3:IntKind.i64.wrap ((mid:Int)+m)=((mid+m:Nat):Int):=by rw[aE (by omega)];omega
 simp only[go_sem,simprocAttr,w0,w1,hx1,hx2,hx3,hx4,w2,w3]
 obtain⟨ys,hys⟩: ∃ys,ys=P++A++B++Q:=⟨_,rfl⟩
 rw[←hys]at hid hcmp
 have hyl:ys.length=n:=by rw[hys,hn];simp;omega
 have ea: ∀c,a≤c→c<m→ys[c]?=A[c-a]?:=λc h1 h2=>by
  have:=get_at (P:=P) (X:=A) (Q:=B++Q) (k:=c-a) (by omega)
  rw[hys,←this,List.append_assoc]
  congr 1
  omega
 have eb: ∀c,m≤c→c<b→ys[c]?=B[c-m]?:=λc h1 h2=>by
  have:=get_at (P:=P++A) (X:=B) (Q:=Q) (k:=c-m) (by omega)
  rw[hys,←this]
  congr 1
  simp only[List.length_append]
  omega
 have hma: ∀x∈A,x∈ys:=λx h=>by rw[hys];simp[h]
 have hmb: ∀x∈B,x∈ys:=λx h=>by rw[hys];simp[h]
 let H1:Nat→Prop:=λs=>∀ x y,0<s-a→A[s-a-1]?=some x→B[mid-s]?=some y→ltF f y x=false
 let H2:Nat→Prop:=λr=>∀ x y,0<mid-r→A[r-a]?=some x→B[mid-r-1]?=some y→ltF f y x=true
 refine cB.at [0,1,2,3,4,18,19] (by kernel_rfl) (λE=>∃ s r:Nat,E.env 20= .int .i64 s∧E.env 21= .int .i64 r∧a≤s∧s≤r∧r≤m∧r≤mid∧mid-s≤B.length∧H1 s∧H2 r∧E.st=σ) (λhgt=>?_) (λhle=>?_) λE ⟨s0,r0,h20,h21,k1,k2,k3,k4,k5,k6,k7,hst⟩=>?_
 ·have hgt:=of_decide_eq_true hgt
  have w4:IntKind.i64.wrap (((mid+m:Nat):Int)-b)=((mid+m-b:Nat):Int):=by rw[aE (by omega)];omega
  simp only[go_sem,simprocAttr,w4]
  refine⟨mid+m-b,mid,rfl,rfl,by omega,by omega,by omega,Nat.le_refl _,by omega,λx y h1 h2 h3=>?_,λx y h1 h2 h3=>by omega⟩
  rw[List.getElem?_eq_none (by omega)]at h3
  cases h3
 ·have hle:=of_decide_eq_false hle
  simp only[go_sem,simprocAttr]
  refine⟨a,m,rfl,rfl,by omega,by omega,by omega,by omega,by omega,λx y h1 h2 h3=>by omega,λx y h1 h2 h3=>?_⟩
  rw[List.getElem?_eq_none (by omega)]at h2
  cases h2
 have w5:IntKind.i64.wrap (((mid+m:Nat):Int)-1)=((mid+m-1:Nat):Int):=by rw[aE (by omega)];omega
 unfold bY at hid
 simp only[go_sem,simprocAttr,h20,h21,hst,w5]
 refine ae.at [0,1,2,3,4,18,19,22] (.of (by kernel_rfl)) (λE=>∃ s:Nat,E.env 20= .int .i64 s∧a≤s∧s≤m∧s≤mid∧mid-s≤B.length∧H1 s∧H2 s∧E.st=σ) ?_ λE ⟨s,h20,k1,k2,k3,k4,g1,g2,hst⟩=>?_
 ·refine ae.cu [0,1,2,3,4,18,19,22] (.of (by kernel_rfl)) (λk E=>∃ s r:Nat,E.env 20= .int .i64 s∧E.env 21= .int .i64 r∧k=r-s∧a≤s∧s≤r∧r≤m∧r≤mid∧mid-s≤B.length∧H1 s∧H2 r∧E.st=σ) (r0-s0) ?_ λk E ⟨s,r,h20,h21,hk,k1,k2,k3,k4,k5,k6,k7,hst⟩=>?_
  ·simp only[go_sem,simprocAttr,h20,h21,hst]
   exact⟨s0,r0,rfl,rfl,rfl,k1,k2,k3,k4,k5,k6,k7⟩
  have hh:=mI (i:=s) (j:=r) (by omega)
  obtain⟨c,hc⟩: ∃c,c=(s+r) / 2:=⟨_,rfl⟩
  rw[←hc]at hh
  simp only[go_sem,simprocAttr,h20,h21,hst,hh]
  refine⟨λhlt=>?_,λhge=>?_⟩
  ·obtain⟨x,hxc⟩:=get_some (show c-a<A.length by omega)
   obtain⟨y,hyc⟩:=get_some (show mid-c-1<B.length by omega)
   have e1:ys[c]?=some x:=(ea c (by omega) (by omega)).trans hxc
   have e2:ys[mid+m-1-c]?=some y:=(eb _ (by omega) (by omega)).trans (by rw[show mid+m-1-c-m=mid-c-1 by omega];exact hyc)
   have hxm:=hma x (List.mem_of_getElem? hxc)
   have hym:=hmb y (List.mem_of_getElem? hyc)
   have w6:IntKind.i64.wrap (((mid+m-1:Nat):Int)-c)=((mid+m-1-c:Nat):Int):=by rw[aE (by omega)];omega
   simp only[go_sem,simprocAttr,h20,h21,hst,hh,w6,aw hid,ay hid,Nat.zero_add,List.getElem?_map,Int.toNat_natCast,e1,e2,Option.map_some]
   refine⟨.of (by kernel_rfl),by omega,by omega,aA.go (gd:=none) (hcmp y hym x hxm) ?_⟩
   simp only[go_sem,simprocAttr,h20,h21,hst]
   refine⟨λhl=>.here (r-(c+1)) (by omega) ⟨c+1,r,ah (N:=1048577) (by omega) (by rw[aq];omega),h21,rfl,by omega,by omega,k3,k4,by omega,λu v _ hu hv=>?_,k7,by simp only[go_sem,simprocAttr,hst]⟩,λhl=>.here (c-s) (by omega) ⟨s,c,h20,rfl,rfl,k1,by omega,by omega,by omega,k5,k6,λu v _ hu hv=>?_,by simp only[go_sem,simprocAttr,hst]⟩⟩
   ·rw[show c+1-a-1=c-a by omega,hxc]at hu
    rw[show mid-(c+1)=mid-c-1 by omega,hyc]at hv
    cases hu;cases hv
    exact decide_eq_false (by simpa using hl)
   ·rw[hxc]at hu
    rw[hyc]at hv
    cases hu;cases hv
    exact decide_eq_true (by simpa using hl)
  ·have:s=r:=by omega
   subst this
   exact⟨s,rfl,k1,k3,k4,k5,k6,k7⟩
 have w7:IntKind.i64.wrap (((mid+m:Nat):Int)-s)=((mid+m-s:Nat):Int):=by rw[aE (by omega)];omega
 have hcr:=Tu hw hA hB (s:=s-a) (e:=mid-s) g1 (λx y h1 h2 h3=>g2 x y h1 h2 h3) (by omega) k4
 obtain⟨A1,hA1⟩: ∃A1,A1=A.take (s-a):=⟨_,rfl⟩
 obtain⟨A2,hA2⟩: ∃A2,A2=A.drop (s-a):=⟨_,rfl⟩
 obtain⟨B1,hB1⟩: ∃B1,B1=B.take (mid-s):=⟨_,rfl⟩
 obtain⟨B2,hB2⟩: ∃B2,B2=B.drop (mid-s):=⟨_,rfl⟩
 have hAA:A=A1++A2:=by rw[hA1,hA2,List.take_append_drop]
 have hBB:B=B1++B2:=by rw[hB1,hB2,List.take_append_drop]
 have l1:A1.length=s-a:=by rw[hA1,List.length_take];omega
 have l2:B1.length=mid-s:=by rw[hB1,List.length_take];omega
 have l3:A2.length=A.length-(s-a):=by rw[hA2,List.length_drop]
 have l4:B2.length=B.length-(mid-s):=by rw[hB2,List.length_drop]
 rw[←hA1,←hA2,←hB1,←hB2]at hcr
 simp only[go_sem,simprocAttr,h20,hst,w7]
 refine cB.at [0,1,3,4,18,20,24] (by kernel_rfl) (λE=>E.st=σ.set id (bY (P++A1++B1++A2++B2++Q))) (λhr=>?_) (λhr=>?_) λE hst=>?_
 ·simp only[Bool.and_eq_true,decide_eq_true_eq]at hr
  have hd:=Df (W0:=W0) σ id n (P++A1) A2 B1 (B2++Q) s m (mid+m-s) (by simp;omega) (by simp;omega) (by simp;omega) (by omega) (by omega) (by simp;omega) hx (by rw[hid,bY,hys,hAA,hBB];simp only[List.append_assoc]) g caps
  simp only[go_sem,simprocAttr,h20,hst]
  refine ak.goes (by simp only[go_sem,simprocAttr];exact hst) hd λr σ1 hσ=>?_
  simp only[go_sem,simprocAttr]
  rw[hσ]
  simp only[List.append_assoc]
 ·simp only[go_sem,simprocAttr,hst]
  have:A2=[]∨B1=[]:=by
   rcases Nat.lt_or_ge s m with h|h
   ·right
    simp only[Bool.and_eq_false_iff,decide_eq_false_iff_not]at hr
    rcases hr with h'|h'
    ·exact absurd h h'
    ·exact List.eq_nil_of_length_eq_zero (by omega)
   ·left
    exact List.eq_nil_of_length_eq_zero (by omega)
  have e:P++A1++B1++A2++B2++Q=ys:=by
   rw[hys,hAA,hBB]
   rcases this with e|e<;>rw[e]<;>simp
  simp only[List.append_assoc]at e ⊢
  rw[e,bY]
  exact(fS hid).symm
 have hcmp1:rC W0 f (P++A1++B1++(A2++B2++Q)) g caps:=λx hx y hy=>hcmp x (by rw[hys,hAA,hBB];simp only[List.mem_append]at hx ⊢;grind) y (by rw[hys,hAA,hBB];simp only[List.mem_append]at hy ⊢;grind)
 simp only[go_sem,simprocAttr,h20,hst]
 refine cB.at [0,3,4,18,24] (by kernel_rfl) (λE=>∃ C1:List Pkg,C1.Perm (A1++B1)∧cy (ltF f) C1∧E.st=σ.set id (bY (P++C1++A2++B2++Q))) (λhr=>?_) (λhr=>?_) λE ⟨C1,p1,r1,hst⟩=>?_
 ·simp only[Bool.and_eq_true,decide_eq_true_eq]at hr
  have hd:=ih (σ.set id (bY (P++A1++B1++A2++B2++Q))) id n P A1 B1 (A2++B2++Q) a s mid ha (by omega) (by omega) (by simp;omega) hx (by omega) (by omega) (by omega) (hA.sublist (by rw[hA1];exact List.take_sublist _ _)) (hB.sublist (by rw[hB1];exact List.take_sublist _ _)) (by rw[List.getElem?_set_self hidl];simp only[List.append_assoc]) hcmp1
  simp only[go_sem,simprocAttr,h20,hst]
  refine ak.goes (by simp only[go_sem,simprocAttr];simpa only[List.append_assoc]using hst) hd λr σ1 ⟨C1,p1,r1,hσ⟩=>?_
  simp only[go_sem,simprocAttr]
  exact⟨C1,p1,r1,by rw[hσ,List.set_set];simp only[List.append_assoc]⟩
 ·simp only[go_sem,simprocAttr,hst]
  have:A1=[]∨B1=[]:=by
   rcases Nat.lt_or_ge a s with h|h
   ·right
    simp only[Bool.and_eq_false_iff,decide_eq_false_iff_not]at hr
    rcases hr with h'|h'
    ·exact absurd h h'
    ·exact List.eq_nil_of_length_eq_zero (by omega)
   ·left
    exact List.eq_nil_of_length_eq_zero (by omega)
  refine⟨A1++B1,.refl _,?_,by simp only[List.append_assoc]⟩
  rcases this with e|e
  ·rw[e,List.nil_append,hB1];exact hB.sublist (List.take_sublist _ _)
  ·rw[e,List.append_nil,hA1];exact hA.sublist (List.take_sublist _ _)
 have lc:=p1.length_eq
 rw[List.length_append]at lc
 have hcmp2:rC W0 f (P++C1++A2++B2++Q) g caps:=λx hx y hy=>hcmp x (by rw[hys,hAA,hBB];simp only[List.mem_append,p1.mem_iff]at hx ⊢;grind) y (by rw[hys,hAA,hBB];simp only[List.mem_append,p1.mem_iff]at hy ⊢;grind)
 have fin: ∀C2:List Pkg,C2.Perm (A2++B2)→cy (ltF f) C2→ ∃C,C.Perm (A++B)∧cy (ltF f) C∧σ.set id (bY (P++C1++C2++Q))=σ.set id (bY (P++C++Q)):=λC2 p2 r2=>by
  obtain⟨m1,m2⟩:=BC hcr p1 p2 r1 r2
  exact⟨C1++C2,by rw[hAA,hBB];exact m2,m1,by simp only[List.append_assoc]⟩
 simp only[go_sem,simprocAttr,h20,hst]
 refine⟨λhr=>?_,λhr=>?_⟩
 ·have hr:mid<mid+m-s∧mid+m-s<b:=by simpa using hr
  have hd:=ih (σ.set id (bY (P++C1++A2++B2++Q))) id n (P++C1) A2 B2 Q mid (mid+m-s) b (by simp;omega) (by simp;omega) (by simp;omega) (by simp;omega) hx (by omega) (by omega) (by omega) (hA.sublist (by rw[hA2];exact List.drop_sublist _ _)) (hB.sublist (by rw[hB2];exact List.drop_sublist _ _)) (List.getElem?_set_self hidl) hcmp2
  refine ak.goes (by simp only[go_sem,simprocAttr];simpa only[List.append_assoc]using hst) hd λr σ1 ⟨C2,p2,r2,hσ⟩=>?_
  rw[List.set_set]at hσ
  simp only[go_sem,simprocAttr]
  refine bO.normal ?_
  obtain⟨C,q1,q2,q3⟩:=fin C2 p2 r2
  simp only[go_sem,simprocAttr,hσ]
  refine⟨_,.refl _,by simp,C,q1,q2,?_⟩
  simpa only[List.append_assoc]using q3
 ·refine bO.normal ?_
  have:A2=[]∨B2=[]:=by
   rcases Nat.lt_or_ge mid (mid+m-s)with h|h
   ·right
    have: ¬(mid+m-s<b):=λh'=>by simp[h,h']at hr
    exact List.eq_nil_of_length_eq_zero (by omega)
   ·left
    exact List.eq_nil_of_length_eq_zero (by omega)
  obtain⟨C,q1,q2,q3⟩:=fin (A2++B2) (.refl _) (by
   rcases this with e|e
   ·rw[e,List.nil_append,hB2];exact hB.sublist (List.drop_sublist _ _)
   ·rw[e,List.append_nil,hA2];exact hA.sublist (List.drop_sublist _ _))
  simp only[go_sem,simprocAttr,hst]
  refine⟨_,.refl _,by simp,C,q1,q2,?_⟩
  simpa only[List.append_assoc]using q3
end Go.Proofs.Tryz
end
section
namespace Go.Proofs.Tryz
open Go Go.Av
set_option maxRecDepth 10000
variable {W0 :World}
theorem rC.sub {f:Pkg→Pkg→Int}{xs ys:List Pkg}{g:FuncId}{caps:List AV}(h:rC W0 f xs g caps)(hs: ∀x∈ys,x∈xs):rC W0 f ys g caps:=λa ha b hb=>h a (hs a ha) b (hs b hb)
theorem DA {f:Pkg→Pkg→Int}(hw:kc (ltF f))(σ:ab)(id n:Nat)(xs:List Pkg)(hn:n=xs.length)(hx:n<40)(hid:σ[id]?=some (bY xs))(g:FuncId)(caps:List AV)(hcmp:rC W0 f xs g caps):
  aY prog W0 155 [.row 54 id 0 n,.int .i64 n,.fn g caps] σ λr σ'=>∃ C,C.Perm xs∧cy (ltF f) C∧σ'=σ.set id (bY C):=by
 have hidl:id<σ.length:=(List.getElem?_eq_some_iff.1 hid).1
 have hsl: ∀{C:List Pkg},C.Perm xs→C.length=n:=λh=>by rw[hn];exact h.length_eq
 refine cK [] [] func155 rfl rfl ntmps155 rfl rfl λhs=>?_
 simp only[go_sem,simprocAttr]
 refine ae.at [0,1,2,6] (.of (by kernel_rfl)) (λE=>∃ S R:List Pkg,E.env 7= .int .i64 S.length∧(S++R).Perm xs∧cy (ltF f) S∧(S=[]∧n<20∨S.length=20)∧E.st=σ.set id (bY (S++R))) ?_ λE ⟨S,R,h7,hp,hS,hl,hst⟩=>?_
 ·refine ae.cu [0,1,2,6] (.of (by kernel_rfl)) (λk E=>(k=1∧E.env 7= .int .i64 0∧E.env 8= .int .i64 20∧E.st=σ)∨(k=0∧E.env 7= .int .i64 20∧E.env 8= .int .i64 40∧ ∃S R:List Pkg,(S++R).Perm xs∧cy (ltF f) S∧S.length=20∧E.st=σ.set id (bY (S++R)))) 1 ?_ λk E hE=>?_
  ·simp only[go_sem,simprocAttr]
   exact .inl trivial
  rcases hE with⟨rfl,h7,h8,hst⟩|⟨rfl,h7,h8,S,R,hp,hS,hl,hst⟩
  ·simp only[go_sem,simprocAttr,h7,h8,hst]
   refine⟨λhle=>?_,λhgt=>⟨[],xs,rfl,.refl _,by simp[cy],.inl ⟨rfl,by omega⟩,(fS hid).symm⟩⟩
   have hd:=oJ (W0:=W0) hw σ id n [] (xs.take 20) (xs.drop 20) 0 20 rfl (by simp;omega) (by simp;omega) (by omega) (by rw[hid,List.nil_append,List.take_append_drop]) g caps (hcmp.sub λx h=>by simpa[List.take_append_drop]using h)
   refine ak.goes (by simp only[go_sem,simprocAttr];exact hst) hd λr σ1 ⟨C,p,r,hσ⟩=>?_
   simp only[go_sem,simprocAttr,h8]
   refine .here 0 (by omega) (.inr ⟨rfl,rfl,rfl,C,xs.drop 20,?_,r,by rw[p.length_eq];simp;omega,by rw[hσ];rfl⟩)
   have:=p.append_right (xs.drop 20)
   rwa [List.take_append_drop]at this
  ·simp only[go_sem,simprocAttr,h7,h8,hst]
   refine⟨λhle=>by omega,λhgt=>⟨S,R,by rw[hl];rfl,hp,hS,.inr hl,rfl⟩⟩
 have hlen:=hsl hp
 rw[List.length_append]at hlen
 have hd:=oJ (W0:=W0) hw (σ.set id (bY (S++R))) id n S R [] S.length n rfl (by omega) (by simp;omega) (by omega) (by rw[List.append_nil];exact List.getElem?_set_self hidl) g caps (hcmp.sub λx h=>hp.subset (by simpa using h))
 simp only[go_sem,simprocAttr,h7]
 refine ak.goes (by simp only[go_sem,simprocAttr];exact hst) hd λr σ1 ⟨C,p,r,hσ⟩=>?_
 rw[List.set_set,List.append_nil]at hσ
 have hp2:(S++C).Perm xs:=(p.append_left S).trans hp
 have hCl:=p.length_eq
 have hend:n≤20→cy (ltF f) (S++C):=λh=>by
  rcases hl with⟨e,_⟩|e
  ·rw[e];exact r
  ·rw[List.eq_nil_of_length_eq_zero (show C.length=0 by omega),List.append_nil];exact hS
 simp only[go_sem,simprocAttr]
 refine ae.cu [0,1,2] (.of (by kernel_rfl)) (λk E=>(k=1∧E.env 6= .int .i64 20∧E.st=σ.set id (bY (S++C)))∨(k=0∧E.env 6= .int .i64 40∧ ∃D:List Pkg,D.Perm xs∧cy (ltF f) D∧E.st=σ.set id (bY D))) 1 ?_ λk E hE=>?_
 ·simp only[go_sem,simprocAttr]
  exact .inl hσ
 rcases hE with⟨rfl,h6,hst⟩|⟨rfl,h6,D,hD1,hD2,hst⟩
 ·simp only[go_sem,simprocAttr,h6,hst]
  refine⟨λhlt=>?_,λhge=>bO.normal ?_⟩
  ·refine ae.at [0,1,2,6] (.of (by kernel_rfl)) (λE=>E.env 7= .int .i64 0∧E.st=σ.set id (bY (S++C))) ?_ λE ⟨h7,hst⟩=>?_
   ·refine ae.cu [0,1,2,6] (.of (by kernel_rfl)) (λk E=>E.env 7= .int .i64 0∧E.env 8= .int .i64 40∧E.st=σ.set id (bY (S++C))) 0 ?_ λk E ⟨h7,h8,hst⟩=>?_
    ·simp only[go_sem,simprocAttr,hst]
    simp only[go_sem,simprocAttr,h6,h7,h8,hst]
    exact λh=>by omega
   have h20:S.length=20:=by rcases hl with⟨_,h⟩|h<;>omega
   have hd:=Am (W0:=W0) hw g caps n (σ.set id (bY (S++C))) id n [] S C [] 0 20 n rfl (by simp;omega) (by simp;omega) (by simp;omega) (by omega) (by omega) (by omega) (by omega) hS r (by simp only[List.nil_append,List.append_nil];exact List.getElem?_set_self hidl) (hcmp.sub λx h=>hp2.subset (by simpa using h))
   simp only[go_sem,simprocAttr,h6,h7,hst]
   refine cB.at [0,1,2,6] (by kernel_rfl) (λE=>∃ D:List Pkg,D.Perm xs∧cy (ltF f) D∧E.st=σ.set id (bY D)) (λhr=>?_) (λhr=>?_) λE ⟨D,hD1,hD2,hst⟩=>?_
   ·simp only[go_sem,simprocAttr,h6,h7,hst]
    refine ak.goes (by simp only[go_sem,simprocAttr];exact hst) hd λr σ1 ⟨D,p,r,hσ⟩=>?_
    rw[List.set_set]at hσ
    simp only[go_sem,simprocAttr]
    exact⟨D,p.trans hp2,r,by rw[hσ];simp⟩
   ·exact absurd (of_decide_eq_false hr) (by omega)
   simp only[go_sem,simprocAttr,h6,hst]
   exact .here 0 (by omega) (.inr ⟨rfl,rfl,D,hD1,hD2,by simp only[go_sem,simprocAttr,hst]⟩)
  ·simp only[go_sem,simprocAttr,hst]
   exact⟨_,.refl _,by simp,_,hp2,hend (by omega),rfl⟩
 ·simp only[go_sem,simprocAttr,h6,hst]
  refine⟨λhlt=>by omega,λhge=>bO.normal ?_⟩
  simp only[go_sem,simprocAttr,hst]
  exact⟨_,.refl _,by simp,_,hD1,hD2,rfl⟩
end Go.Proofs.Tryz
end
section
namespace Go.Av
def uC (p q:Pkg):Int:=if bk p.ver=true∧bk q.ver=true then fQ p q else if bk p.ver=true then-1 else if bk q.ver=true then 1 else 0
theorem CC {p q:Pkg}(hp:bk p.ver=true)(hq:bk q.ver=true):uC p q=fQ p q:=if_pos ⟨hp,hq⟩
theorem mV (p q:Pkg):uC q p= -uC p q:=by
 unfold uC
 cases bk p.ver<;>cases bk q.ver<;>simp[kq p q]
def ltV (p q:Pkg):Bool:=decide (uC p q<0)
theorem EN :kc ltV where
 asym x y h:=by
  have:=of_decide_eq_true h
  have h2:=mV x y
  exact decide_eq_false (by omega)
 tr x y z h1 h2:=by
  have h1:=of_decide_eq_false h1
  have h2:=of_decide_eq_false h2
  have e1:=mV x y
  have e2:=mV y z
  have e3:=mV x z
  have:uC x z≤0:=by
   have a1:uC x y≤0:=by omega
   have a2:uC y z≤0:=by omega
   clear h1 h2 e1 e2 e3
   revert a1 a2
   unfold uC
   cases hx:bk x.ver<;>cases hy:bk y.ver<;>cases hz:bk z.ver<;>simp
   exact λa b=>(TT.pkg hx hy hz a b).1
  exact decide_eq_false (by omega)
theorem Ev {l:List Pkg}(hv:uz l)(h:cy ltV l):lx l:=by
 unfold lx
 refine List.Pairwise.imp_of_mem (λ{a b} ha hb hab=>?_) h
 have:=of_decide_eq_false hab
 rw[CC (hv b hb) (hv a ha)]at this
 rw[kq b a]
 omega
end Go.Av
end
