/- What the last text of this claim rests on. No conditions. -/
import Derived.Test.YtbkobngljnnmgaaGreatDoorWah
import Derived.Test.YtbkobngljnnmgaaGreatDoorWas
import Derived.Test.YtbkobngljnnmgaaGreatDoorWau
import Derived.Test.YtbkobngljnnmgaaGreatDoorWax
import Derived.Test.YtbkobngljnnmgaaGreatDoorWay
import Derived.Test.YtbkobngljnnmgaaGreatDoorWba
import Derived.Test.YtbkobngljnnmgaaGreatDoorWbc
import Derived.Test.YtbkobngljnnmgaaGreatDoorWbe
import Derived.Test.YtbkobngljnnmgaaGreatDoorWbf
set_option linter.unusedSimpArgs false
set_option linter.unusedVariables false
open List renaming getElem?_eq_some_iff->acf,length_map->acg,take_of_length_le->ach,append_assoc->aci,map_append->acj,append_nil->ack,length_append->acm,mem_of_getElem?->aco,getElem?_append_left->acp,length_take->acq,mem_map->acr,getElem?_set_ne->acs,getElem?_set_self->acu,getElem?_map->acw,mem_singleton->acz,getElem?_append_right->acA,take_zero->acB,any_eq_true->acC,filter_cons->acE,length_nil->acF,find?_eq_none->acG,mem_cons_self->acH,set_set->acI,length_filter_le->acL,mem_cons_of_mem->acN,filter_nil->acO,mem_map_of_mem->acP,filter_append->acS,mem_of_find?_eq_some->acT,pairwise_iff_getElem->acU,length_cons->acX,mem_filter->acY,length_set->acZ,mem_of_mem_take->ac1,map_cons->ac4,take_sublist->ac7,nodup_append->ac8,pairwise_map->ada,mem_append->adf,drop_zero->adg,map_nil->adh
open Nat renaming zero_le->acn,mul_le_mul->acy,le_refl->acM,zero_add->acQ,sub_self->ac6
open Bool renaming and_eq_true->acv,eq_iff_iff->acx,and_eq_false_iff->ac0,and_assoc->ac2,or_eq_false_iff->ac3,false_ne_true->ac5,not_eq_true'->ac9
open Option renaming getD_some->acD,map_eq_some_iff->acK,isSome_some->acR,isSome_iff_exists->acV,bind_some->acW,map_some->ade
open Decidable renaming not_not->acJ
open List.Sublist renaming map->adb
open List.Pairwise renaming sublist->adi
open Classical renaming not_not->adj
open Prod renaming ext->adk
section
namespace Go.Av
open Go.Proofs.Tryz
theorem JE (l:List (List Nat×List Nat)):(WB l).Perm l:=by
 have key: ∀(l o:List (List Nat×List Nat)),(l.foldl (λo p=>wU p o) o).Perm (o++l):=λl=>by
  induction l with
  |nil=>simp_all
  |cons p l ih=>
   grind [sX]
 have h:=key l [];rw[List.nil_append]at h;exact h
theorem dr.Pn {σ:ab}{v:AV}{e:TypeId}{xs:List AV}(h:dr σ v e xs){a:Nat}{x:AV}(hx:xs[a]?=some x): ∃id off,v= .row e id off xs.length/\Av.look σ id (off+a) []=some x/\live σ id:=by
 rcases h with⟨_,rfl⟩|⟨id,off,m,zs,rfl,g1,g2,g3⟩
 .simp at hx
 have hm:m=xs.length:=(dr.G8 (σ:=σ) (e:=e) (id:=id) g2 g3).symm;refine⟨id,off,by rw[hm],?_,by grind [aO]⟩;have hlt:=(acf.1 hx).1;have hz:zs[off+a]?=some x:=by
  grind
 unfold Av.look;rw[g1];simp only[hz,acW];rfl
@[go_sem] theorem abx (l:List Nat):unm (nN l)=nN l:=rfl
@[go_sem] theorem aa8 (gd:Option Bool)(l:List Nat):okM gd (cp l)=True:=eq_true trivial
@[go_sem] theorem aav (l:List Nat):unm (cp l)=cp l:=rfl
end Go.Av
end
section
namespace Go.Proofs.Tryz
open Go Go.Av
set_option maxRecDepth 10000
set_option maxHeartbeats 1000000
variable {W0 :World}
theorem Qh {a b:List Nat}(ha:a.length=5)(hb:b.length=5):cJ prog .eql 29 (cp a) (cp b)=True:=by
 unfold cp;simp only[go_sem,simprocAttr,K7 ha hb]
 try trivial
theorem O5 {a b:List Nat}(ha:a.length=5)(hb:b.length=5):cI prog .eql 29 (cp a) (cp b)= .bool (decide (a=b)):=by
 unfold cp;simp only[go_sem,simprocAttr,K7 ha hb];rfl
end Go.Proofs.Tryz
end
section
namespace Go.Av
theorem dr.nK {σ τ:ab}{v:AV}{e:TypeId}{xs:List AV}(h:dr σ v e xs)(hk:e7 σ τ):dr τ v e xs:=by
 rcases h with h|⟨id,off,m,zs,h1,h2,h3⟩
 .exact .inl h
 .exact .inr ⟨id,off,m,zs,h1,hk _ _ _ h2,h3⟩
end Go.Av
end
section
namespace Go.Proofs.Tryz
open Go Go.Av
set_option maxRecDepth 10000
set_option maxHeartbeats 1000000
variable {W0 :World}
theorem PV {σ:ab}{v:AV}{l:List (List UInt8)}(h:iR σ v 9 (bR l))(hl:l.length<=1000000):aP prog W0 216 [v] σ λr σ'=>r= .tup []/\dw σ v 9 (bR (l.mergeSort λx y=>decide (x<=y))) v σ':=by
 rcases h with⟨rfl,h⟩|⟨id,rfl,h,h0⟩
 .have:l=[]:=by simpa[bR]using h
  subst this;refine(tC (W0:=W0) σ).mono λr σ' ⟨hr,hs⟩=>⟨hr,?_⟩
  rw[hs];exact dw.refl (.inl ⟨rfl,by simp[bR]⟩)
 .have e:(bR l).length=l.length:=by simp[bR]
  have e2:(bR (l.mergeSort λx y=>decide (x<=y))).length=(bR l).length:=by simp[bR]
  have hil:=(acf.1 h).1;have h1:=xW (W0:=W0) σ id l h (λe=>h0 (by rw[e];rfl)) hl;rw[<-e]at h1;refine h1.mono λr σ' ⟨hr,hs⟩=>⟨hr,?_⟩
  rw[hs];refine⟨.inr ⟨id,by rw[e2],acu hil,λh3=>h0 (List.eq_nil_of_length_eq_zero (by rw[<-e2,h3];rfl))⟩,(Fr.refl _ σ).set (.inl (by simp[Av.aN])) _,λj hj=>.inl hj⟩
theorem Qy {σ:ab}{v:AV}{l:List (List UInt8)}(h:iR σ v 9 (bR l))(hl:l.length<=1000000):aP prog W0 217 [v] σ λr σ'=>dr σ' r 9 (bR (Lib.compact l))/\Fr (aN v) σ σ':=by
 rcases h with⟨rfl,h⟩|⟨id,rfl,h,h0⟩
 .have:l=[]:=by simpa[bR]using h
  subst this;refine(IE (W0:=W0) σ).mono λr σ' ⟨hr,hs⟩=>?_
  rw[hr,hs];exact⟨.inl ⟨rfl,rfl⟩,Fr.refl _ _⟩
 .have e:(bR l).length=l.length:=by simp[bR]
  have hil:=(acf.1 h).1;have h1:=Hi (W0:=W0) σ id l h (λe=>h0 (by rw[e];rfl)) hl;rw[<-e]at h1;refine h1.mono λr σ' ⟨hr,hs⟩=>?_
  rw[hr,hs];refine⟨.inr ⟨id,0,_,_,rfl,acu hil,?_,?_⟩,(Fr.refl _ σ).set (.inl (by simp[Av.aN])) _⟩
  .simp
  .unfold bR;rw[adg,acj,List.take_append_of_le_length (by simp),ach (by simp)]
def zD :Option j6->AV
 |some f=>cm f
 |none=>.agg 278 [.bool false,.aq,.aq,.aq,.aq]
def pO (n:List UInt8)(o w:Option j6)(wanted:Bool)(ver:List UInt8)(same kF:Bool):AV:=.agg 280 [.str n,zD o,zD w,.bool wanted,.str ver,.bool same,.bool kF]
theorem AR (o:Option j6):Sub (zD o) (cm (o.getD lk)):=by
 cases o with
 |some f=>exact .refl _
 |none=>
  refine .agg rfl λk x y hx hy=>?_
  rcases k with _|_|_|_|_|k<;>simp at hx hy<;>subst hx hy
  .exact .refl _
  all_goals exact .aq _
def jP (s:List aA)(t:List Pkg)(l:List (Pkg×Nat))(n:List UInt8):AV:=
 pO n ((cF s n).map λx=>eS l x.pkg) ((ja t n).map (eS l)) (ja t n).isSome (match ja t n with|some p=>p.ver|none=>[]) (match cF s n,ja t n with|some x,some p=>bt x.pkg.ver p.ver|_,_=>false) (!en s t n)
theorem LI (s:List aA)(t:List Pkg)(l:List (Pkg×Nat))(n:List UInt8):Sub (jP s t l n) (kN (qW s t l n)):=by
 refine .agg rfl λk x y hx hy=>?_
 have h1:(qW s t l n).old=((cF s n).map λx=>eS l x.pkg).getD lk:=by
  unfold qW;cases cF s n<;>rfl
 have h2:(qW s t l n).new=((ja t n).map (eS l)).getD lk:=by
  unfold qW;cases ja t n<;>rfl
 rcases k with _|_|_|_|_|_|_|k<;>simp at hx hy<;>subst hx hy
 .exact .refl _
 .rw[h1];exact AR _
 .rw[h2];exact AR _
 all_goals exact .refl _
end Go.Proofs.Tryz
end
section
namespace Go.Av
open Go
theorem App.Sm {σ σ':ab}{x v:AV}{e:TypeId}{xs zs:List AV}(hb:Bld σ x e xs)(h:App σ x e zs v σ'){mid:Nat}{kt:TypeId}{l:List (AV×AV)}(hm:σ[mid]?=some (some (.mp kt l))):σ'[mid]?=some (some (.mp kt l)):=by
 rw[h.old mid (acf.1 hm).1 λht=>?_,hm];have:=hb.jl ht;rw[hm]at this;cases this
theorem cM.G3 {σ st:ab}{id j:Nat}{vs:List AV}{es:List TypeId}{xss:List (List AV)}{mk:List AV->Option bH}(h:cM σ st id vs es xss mk)(hlo:σ.length<=j){te tq:TypeId}{ys zs:List AV}(hj:st[j]?=some (some (.cells te ys)))(hob:mk vs=some (.cells tq zs))(hne:te≠tq)(o:Option bH):cM σ (st.set j o) id vs es xss mk:=by
 refine⟨h.ext.set hlo _,h.low,?_,h.ob,λk v e xs h1 h2 h3=>?_,h.f,h.d,h.l1,h.l2⟩
 .rw[acs]
  .exact h.at_
  .rintro rfl;have:=h.at_;rw[hob,hj]at this;cases this;exact hne rfl
 .have hb:=h.b k v e xs h1 h2 h3;refine hb.keep λi hi=>acs ?_
  rintro rfl;exact hb.ne hj (by simp) hi
theorem dr.G3 {st:ab}{w:AV}{e:TypeId}{xs:List AV}(h:dr st w e xs){j:Nat}{te:TypeId}{ys:List AV}(hj:st[j]?=some (some (.cells te ys)))(hne:te≠e)(o:Option bH):dr (st.set j o) w e xs:=by
 rcases h with h|⟨id,off,m,zs,h1,h2,h3⟩
 .exact .inl h
 .refine .inr ⟨id,off,m,zs,h1,?_,h3⟩;rw[acs,h2];rintro rfl;rw[hj]at h2;cases h2;exact hne rfl
end Go.Av
end
section
namespace Go.Proofs.Tryz
open Go Go.Av
set_option maxRecDepth 10000
set_option maxHeartbeats 2000000
variable {W0 :World}
def ab2 :List TypeId:=[280,51,274]
def BT (mid:Nat):List AV->Option bH
 |[n,_,_]=>some (.cells 228 [.agg 228 [n,.mp mid,.aq,.aq,.aq]])
 |_=>none
structure nh (σ st:ab)(id mid:Nat)(n u v:AV)(N:List AV)(xs:List (Pkg×Nat))(w:AV)(al:List (List UInt8)):Prop where
 sea:cM σ st id [n,u,v] ab2 [N,(xs.map (·.1)).map ay,(xs.map (·.2)).map eH] (BT mid)
 row:dr st w 9 (bR al)
 map:st[mid]?=some (some (.mp 9 []))
 mlo:σ.length<=mid
theorem iR.Uc {st:ab}{v:AV}{e:TypeId}{xs:List AV}(h:iR st v e xs){j:Nat}{o:Option bH}(hj:st[j]?=some o)(hne: ∀ys,o≠some (.cells e ys)):j∉aN v:=by
 rcases h with⟨rfl,_⟩|⟨ir,rfl,h2,_⟩
 .simp[aN]
 .simp only[aN,acz];rintro rfl;rw[hj]at h2;cases h2;exact hne _ rfl
section
variable {σ st:ab}{id mid:Nat}{n u v:AV}{N:List AV}{xs:List (Pkg×Nat)}{w:AV}{al:List (List UInt8)}
theorem nh.more (h:nh σ st id mid n u v N xs w al)(l:ab):nh σ (st++l) id mid n u v N xs w al:=
 ⟨h.sea.more l,h.row.nK (e7.app _ _),by rw[acp (acf.1 h.map).1];exact h.map,h.mlo⟩
theorem nh.G3 (h:nh σ st id mid n u v N xs w al){j:Nat}(hlo:σ.length<=j){te:TypeId}{ys:List AV}(hj:st[j]?=some (some (.cells te ys)))(h1:te≠228)(h2:te≠9)(o:Option bH):nh σ (st.set j o) id mid n u v N xs w al:=by
 refine⟨h.sea.G3 hlo hj rfl h1 o,h.row.G3 hj h2 o,?_,h.mlo⟩;rw[acs]
 .exact h.map
 .rintro rfl;have:=h.map;rw[hj]at this;cases this
theorem nh.app {st1 st2:ab}{u' v':AV}{p:Pkg}{m:Nat}(h:nh σ st id mid n u v N xs w al)(ha:App st u 51 ((xs.map (·.1)).map ay++[ay p]) u' st1)(hb:App st1 v 274 ((xs.map (·.2)).map eH++[eH m]) v' st2):nh σ st2 id mid n u' v' N (xs++[(p,m)]) w al:=by
 have b1:=h.sea.b 1 u 51 _ rfl rfl rfl;have h1:=h.sea.cst.A7 (k:=1) rfl rfl ha;have b2:=h1.b 2 v 274 _ rfl rfl rfl;have h2:=h1.A7 (k:=2) rfl rfl hb;have h3:=h2.put (mk':=BT mid) ⟨_,_,rfl⟩;have e:st2.set id (BT mid [n,u',v'])=st2:=fN h2.at_;rw[show([n,u,v].set 1 u').set 2 v'=[n,u',v']from rfl]at h3;rw[e]at h3;refine⟨?_,(h.row.nK (ha.nK b1)).nK (hb.nK b2),hb.Sm b2 (ha.Sm b1 h.map),h.mlo⟩;have e1:((xs++[(p,m)]).map (·.1)).map ay=(xs.map (·.1)).map ay++[ay p]:=by simp
 have e2:((xs++[(p,m)]).map (·.2)).map eH=(xs.map (·.2)).map eH++[eH m]:=by simp
 rw[e1,e2];exact h3
theorem nh.abT {st1:ab}{n' x:AV}(h:nh σ st id mid n u v N xs w al)(ha:App st n 280 (N++[x]) n' st1):nh σ (st1.set id (BT mid [n',u,v])) id mid n' u v (N++[x]) xs w al:=by
 have b0:=h.sea.b 0 n 280 _ rfl rfl rfl;have h1:=h.sea.app (k:=0) rfl rfl ha ⟨_,_,rfl⟩;have hat:st1[id]?=some (BT mid [n,u,v]):=(h.sea.cst.A7 (k:=0) rfl rfl ha).at_;refine⟨h1,(h.row.nK (ha.nK b0)).G3 hat (by decide) _,?_,h.mlo⟩;have hm:=ha.Sm b0 h.map;rw[acs,hm];rintro rfl;rw[hm]at hat;cases hat
end
structure re (σ st:ab)(id mid fi yi:Nat)(n u v:AV)(N:List AV)(xs:List (Pkg×Nat))(w:AV)(al:List (List UInt8))(F:List UInt8)(Y:AV):Prop where
 beg:nh σ st id mid n u v N xs w al
 f:st[fi]?=some (some (.cells 5 (F.map ba)))
 y:st[yi]?=some (some (.cells 280 [Y]))
 flo:σ.length<=fi
 ylo:σ.length<=yi
section
variable {σ st:ab}{id mid fi yi:Nat}{n u v:AV}{N:List AV}{xs:List (Pkg×Nat)}{w:AV}{al:List (List UInt8)}{F:List UInt8}{Y:AV}
theorem re.more (h:re σ st id mid fi yi n u v N xs w al F Y)(l:ab):re σ (st++l) id mid fi yi n u v N xs w al F Y:=
 ⟨h.beg.more l,by rw[acp (acf.1 h.f).1];exact h.f,by rw[acp (acf.1 h.y).1];exact h.y,h.flo,h.ylo⟩
theorem re.ne (h:re σ st id mid fi yi n u v N xs w al F Y):fi≠yi:=λe=>by
 have h1:=h.f;rw[e,h.y]at h1;cases h1
theorem re.YB (h:re σ st id mid fi yi n u v N xs w al F Y)(Y':AV):re σ (st.set yi (some (.cells 280 [Y']))) id mid fi yi n u v N xs w al F Y':=
 ⟨h.beg.G3 h.ylo h.y (by decide) (by decide) _,by rw[acs (Ne.symm h.ne)];exact h.f,acu (acf.1 h.y).1,h.flo,h.ylo⟩
theorem re.aaT (h:re σ st id mid fi yi n u v N xs w al F Y)(F':List UInt8):re σ (st.set fi (some (.cells 5 (F'.map ba)))) id mid fi yi n u v N xs w al F' Y:=
 ⟨h.beg.G3 h.flo h.f (by decide) (by decide) _,acu (acf.1 h.f).1,by rw[acs h.ne];exact h.y,h.flo,h.ylo⟩
end
theorem D1 {s:List aA}{t:List Pkg}{n:List UInt8}(hn:n∈aY s t):((fB s t).any λx=>n==x)= !en s t n:=by
 unfold fB;rw[acx,acC];constructor
 .rintro⟨x,hx,e⟩;rw[beq_iff_eq]at e;subst e;exact(acY.1 hx).2
 .intro h;exact⟨n,acY.2 ⟨hn,h⟩,by simp⟩
theorem Ab {s:List aA}{t:List Pkg}{j:Nat}{m:List UInt8}:(lZ s t j m).length<=2:=by
 unfold lZ;cases cF s m<;>cases ja t m<;>simp
theorem QO (σ:ab)(s:List aA)(t:List Pkg)(hs:bJ s=0)(ht:aZ t=0)(htn:(t.map (·.name)).Nodup):aP prog W0 160 [aK s,aL t] σ λr σ'=>∃ id mid,r= .tup [.ptr 228 id 0 [],.str ((aY s t).map (ga s))]/\StS σ σ' id mid (kR s t) .aq .aq .aq [] [] []:=by
 have GP:=gZ hs;have ht10:=sy ht htn;refine jH [.tmp 4,.tmp 5] [9,11,18,27,161,4000041,2000186,4000043,2000192,5000192,2000005] func160 rfl rfl ntmps160 rfl rfl λhsm=>?_
 have hmt:mX prog 111=some (9,3):=by kernel_rfl
 simp only[go_sem,simprocAttr,hmt,aK,acg];have hzf:cV prog 228=[.aq,.lg,.aq,.aq,.aq]:=by kernel_rfl
 refine⟨by kernel_rfl,?_⟩;have e1: ∀i,((s.map (·.pkg.name)).take i).length<=10:=λi=>by simp;omega
 obtain⟨τ0,hτ⟩: ∃τ0,τ0=σ++[some (bH.mp 9 []),BT σ.length [.aq,.aq,.aq]]:=⟨_,rfl⟩;have hx0:iR τ0 .aq 9 []:=.inl ⟨rfl,rfl⟩;have hxt:Ext σ τ0:=by rw[hτ];exact(Ext.refl _).app _
 refine ae.at [0,1,6] (λA=>∃ v,A.env 7=v/\dw τ0 .aq 9 (bR (s.map (·.pkg.name))) v A.st) ?_ λB ⟨v,h7,hA⟩=>?_
 .refine ae.upto [0,1,6,32,33] s.length (λi A=>∃ v,A.env 34= .int .i64 i/\A.env 7=v/\dw τ0 .aq 9 (bR ((s.take i).map (·.pkg.name))) v A.st) 0 (acn _) ?_ λi B hi ⟨v,h34,h7,hA⟩=>?_
  .simp only[go_sem,simprocAttr];refine⟨_,rfl,?_⟩;rw[show(σ++[some (bH.mp 9 []),some (bH.cells 228 [.agg 228 ((cV prog 228).set 1 (.mp σ.length))])])=τ0 from by rw[hτ,hzf];rfl];exact dw.refl hx0
  simp only[go_sem,simprocAttr,h34,h7,acg];refine⟨λhc=>⟨hc,?_⟩,λhc=>?_⟩
  .obtain⟨x,hx⟩:=get_some hc;simp only[aw hx];have hA1:=hA.more [none];simp only[go_sem,simprocAttr,h34,h7,bf,ay,hA.row.v.st.ok,hA.row.v.st.un];refine bq.yj (by simp only[go_sem,simprocAttr]) 1048576 (by kernel_rfl) hA1.row.v (.lit _ _ _) (by simp) (by simp[bR];omega) λv' σ' ha=>?_
   simp only[go_sem,simprocAttr,h34,ha.row.v.st.ok,ha.row.v.st.un];refine⟨hc,v',ag hc (by rw[au];omega),rfl,?_⟩;have:=hA1.step ha;rw[ah hx];simpa[bR]using this
  .rw[ach hc]at hA;exact⟨v,rfl,hA⟩
 simp only[go_sem,simprocAttr,h7,aL,acg];refine ae.at [0,1,6] (λA=>∃ v,A.env 7=v/\dw τ0 .aq 9 (bR (lP s t)) v A.st) ?_ λB1 ⟨v1,h7,hA1⟩=>?_
 .refine ae.upto [0,1,6,45,46] t.length (λi A=>∃ v,A.env 47= .int .i64 i/\A.env 7=v/\dw τ0 .aq 9 (bR (s.map (·.pkg.name)++(t.take i).map (·.name))) v A.st) 0 (acn _) ?_ λi B1 hi ⟨v1,h47,h7',hA1⟩=>?_
  .simp only[go_sem,simprocAttr];refine⟨v,h7,?_⟩;simpa using hA
  simp only[go_sem,simprocAttr,h47,h7',acg];refine⟨λhc=>⟨hc,?_⟩,λhc=>?_⟩
  .obtain⟨x,hx⟩:=get_some hc;simp only[aw hx];have hA2:=hA1.more [none];simp only[go_sem,simprocAttr,h47,h7',ay,hA1.row.v.st.ok,hA1.row.v.st.un];refine bq.yj (by simp only[go_sem,simprocAttr]) 1048576 (by kernel_rfl) hA2.row.v (.lit _ _ _) (by simp) (by simp[bR];omega) λv' σ' ha=>?_
   simp only[go_sem,simprocAttr,h47,ha.row.v.st.ok,ha.row.v.st.un];refine⟨hc,v',ag hc (by rw[au];omega),rfl,?_⟩;have:=hA2.step ha;rw[ah hx];simpa[bR]using this
  .rw[ach hc]at hA1;exact⟨v1,rfl,hA1⟩
 have hall:(lP s t).length<=20:=by
  unfold lP;simp;omega
 simp only[go_sem,simprocAttr,h7,hA1.row.v.st.ok,hA1.row.v.st.un];refine aj.goes (by simp only[go_sem,simprocAttr]) (PV hA1.row (by omega)) λr st2 ⟨hr,hA2⟩=>?_
 subst hr;have hA3:=hA1.step hA2;simp only[go_sem,simprocAttr,h7,hA2.row.v.st.ok,hA2.row.v.st.un];refine aj.goes (by simp only[go_sem,simprocAttr]) (Qy hA2.row (by simp;omega)) λw st3 ⟨hrow,hfr⟩=>?_
 rw[yB]at hrow;have hnl:(aY s t).length<=20:=vh GP ht10;have hB0:nh σ st3 (σ.length+1) σ.length .aq .aq .aq [] [] w (aY s t):=by
  have g: ∀(j:Nat) (o:Option bH),τ0[j]?=some o->(∀ys,o≠some (.cells 9 ys))->st3[j]?=some o:=λj o hj hne=>by
   have h1:st2[j]?=some o:=by
    rw[hA3.fr.old j (acf.1 hj).1 (by simp[aN])];exact hj
   rw[hfr.old j (acf.1 h1).1 (iR.Uc hA2.row h1 hne)];exact h1
  have hx3:Ext σ st3:=by
   have h1:Ext σ st2:=hA3.fr.tM hxt λj hj=>by simp[aN]at hj
   refine hfr.tM h1 λj hj=>?_
   rcases hA3.aN j hj with h|h
   .simp[aN]at h
   .have:=hxt.le;omega
  refine⟨⟨hx3,by omega,g _ _ (by rw[hτ];simp) (λys e=>by cases e),⟨_,_,rfl⟩,λk v e xs h1 h2 h3=>?_,λk v t h1 h2=>?_,λj k u v t hne h1 h2 h3=>?_,rfl,rfl⟩,hrow,g _ _ (by rw[hτ];simp) (λys e=>by cases e),acM _⟩
  .rcases k with _|_|_|k<;>simp at h1 h3<;>subst h1 h3<;>exact .inl ⟨rfl,rfl⟩
  .rcases k with _|_|_|k<;>simp at h1<;>subst h1<;>cases h2
  .rcases j with _|_|_|j<;>simp at h1<;>subst h1<;>cases h3
 simp only[go_sem,simprocAttr,hrow.st.ok,hrow.st.un,hrow.st.len,hrow.st.gn];obtain⟨id,hid⟩: ∃id,id=σ.length+1:=⟨_,rfl⟩;obtain⟨mid,hmid⟩: ∃mid,mid=σ.length:=⟨_,rfl⟩;rw[<-hid,<-hmid]at hB0;have hsl:(bR (aY s t)).length=(aY s t).length:=by simp[bR]
 rw[hsl];refine ae.at [0,1,6,7] (λA=>∃ u v,A.env 12=u/\A.env 13=v/\nh σ A.st id mid .aq u v [] (cj s t) w (aY s t)) ?_ λB4 ⟨u,v,h12,h13,hB⟩=>?_
 .refine ae.upto [0,1,6,7,61,62] (aY s t).length (λi A=>∃ u v,A.env 63= .int .i64 i/\A.env 12=u/\A.env 13=v/\nh σ A.st id mid .aq u v [] (fmI (lZ s t) 0 ((aY s t).take i)) w (aY s t)) 0 (acn _) ?_ λi B4 hi ⟨u,v,h63,h12,h13,hB⟩=>?_
  .simp only[go_sem,simprocAttr];exact⟨_,_,rfl,rfl,hB0⟩
  simp only[go_sem,simprocAttr,h63,h12,h13];refine⟨λhc=>?_,λhc=>?_⟩
  .obtain⟨n,hn⟩:=get_some hc;have hn':(bR (aY s t))[i]?=some (.str n):=by unfold bR;rw[acw,hn];rfl
   obtain⟨ir,off,hw,hlk,hlv⟩:=hB.row.Pn hn';have hin:AV.int .i64 (IntKind.i64.wrap ((i:Int)+1))= .int .i64 (i+1:Nat):=ag hc (by rw[au];omega);have ep:fmI (lZ s t) 0 ((aY s t).take (i+1))=fmI (lZ s t) 0 ((aY s t).take i)++lZ s t i n:=cZ hn;subst hw;simp only[go_sem,simprocAttr,h63,h12,h13,hlk,hlv,acR,acD];have hpre:(fmI (lZ s t) 0 ((aY s t).take i)).length<=40:=by
    have h1:=ki (f:=lZ s t) (N:=2) (λj m=>Ab) (l:=(aY s t).take i) (b:=0);have h2:((aY s t).take i).length<=20:=by rw[acq];omega
    omega
   rw[ep];clear ep;generalize fmI (lZ s t) 0 ((aY s t).take i)=pre at *;obtain⟨E,hE⟩: ∃E:List (Pkg×Nat),E=match cF s n with|some x=>[(x.pkg,mK i false)]|none=>[]:=⟨_,rfl⟩
   have hEl:E.length<=1:=by rw[hE];cases cF s n<;>simp
   refine⟨by omega,aj.fn (nE s n) ?_⟩;simp only[go_sem,simprocAttr,h63,h12,h13];refine cc.at [0,1,6,7,14,15,61,62,63] (by kernel_rfl) (λA=>∃ u v,A.env 12=u/\A.env 13=v/\nh σ A.st id mid .aq u v [] (pre++E) (.row 9 ir off (bR (aY s t)).length) (aY s t)) (λh=>?_) (λh=>?_) λD ⟨u2,v2,h12',h13',hB2⟩=>?_
   .rcases dO (λx:aA=>x.pkg.name==n) s with⟨hi2,hall2⟩|⟨i2,a,ha,hqa,hbef,hi2⟩
    .rw[hi2]at h;simp at h
    have hf:cF s n=some a:=js ha hqa hbef;have h0: ¬(i2:Int)<0:=by omega
    rw[hf]at hE;rw[hi2,if_neg h0];have b1:=hB.sea.b 1 u 51 _ rfl rfl rfl;have hpo:okM none (ay a.pkg)=True:=eq_true trivial;have hpu:unm (ay a.pkg)=ay a.pkg:=rfl;have hpf:bb prog 51 (ay a.pkg)=true:=by kernel_rfl
    simp only[go_sem,simprocAttr,h12,acg,aw ha,bf,b1.ok,b1.un,hpo,hpu,hpf];refine⟨(acf.1 ha).1,bq.mI (σ:=B4.st) (by simp only[go_sem,simprocAttr]) 1048576 (by kernel_rfl) b1 (.lit _ _ _) (by simp;omega) λu' st4 hau=>?_⟩;have b2:=(hB.sea.cst.A7 (k:=1) rfl rfl hau).b 2 v 274 _ rfl rfl rfl;simp only[go_sem,simprocAttr,h13,b2.ok,b2.un];refine aj.fn (w8 i false (by omega)) ?_;simp only[go_sem,simprocAttr,h13,b2.ok,b2.un,eH];refine bq.mI (σ:=st4) (by simp only[go_sem,simprocAttr]) 1048576 (by kernel_rfl) b2 (.lit _ _ _) (by simp;omega) λv' st5 hav=>?_
    simp only[go_sem,simprocAttr,hau.bld.ok,hau.bld.un,hav.bld.ok,hav.bld.un];rw[hE];exact⟨u',v',rfl,rfl,hB.app hau hav⟩
   .have hf:cF s n=none:=by
     rcases dO (λx:aA=>x.pkg.name==n) s with⟨hi2,hall2⟩|⟨i2,a,ha,hqa,hbef,hi2⟩
     .exact acG.2 λx hx=>by rw[hall2 x hx];simp
     .rw[hi2]at h;simp at h
    rw[hf]at hE;simp only[go_sem,simprocAttr];rw[hE,ack];exact⟨u,v,h12,h13,hB⟩
   simp only[go_sem,simprocAttr,h63];refine aj.fn (uH t n) ?_;have hB3:=hB2.more [none];simp only[go_sem,simprocAttr,h63,ay];have hpk:lZ s t i n=E++match ja t n with|some p=>[(p,mK i true)]|none=>[]:=by rw[hE];rfl
   rw[hpk];refine⟨λh=>?_,λh=>⟨hc,u2,v2,hin,h12',h13',?_⟩⟩
   .obtain⟨p,hp⟩:=acV.1 h;rw[hp];have b1:=hB3.sea.b 1 u2 51 _ rfl rfl rfl;simp only[go_sem,simprocAttr,h12',b1.ok,b1.un,acD];refine bq.mI (σ:=D.st++[none]) (by simp only[go_sem,simprocAttr]) 1048576 (by kernel_rfl) b1 (.lit _ _ _) (by simp;omega) λu' st4 hau=>?_
    have b2:=(hB3.sea.cst.A7 (k:=1) rfl rfl hau).b 2 v2 274 _ rfl rfl rfl;simp only[go_sem,simprocAttr,h13',b2.ok,b2.un];refine aj.fn (w8 i true (by omega)) ?_;simp only[go_sem,simprocAttr,h13',b2.ok,b2.un,eH];refine bq.mI (σ:=st4) (by simp only[go_sem,simprocAttr]) 1048576 (by kernel_rfl) b2 (.lit _ _ _) (by simp;omega) λv' st5 hav=>?_
    simp only[go_sem,simprocAttr,h63,hau.bld.ok,hau.bld.un,hav.bld.ok,hav.bld.un];refine⟨hc,u',v',hin,rfl,rfl,?_⟩;rw[<-aci];exact hB3.app (p:=p) hau hav
   .have hp:ja t n=none:=by
     cases hp:ja t n with
     |none=>rfl
     |some p=>rw[hp]at h;cases h
    rw[hp,ack];exact hB3
  .rw[ach hc]at hB;exact⟨u,v,rfl,rfl,hB⟩
 simp only[go_sem,simprocAttr,h12,h13];refine aj.fn (wv s t (by omega) (by omega)) ?_;simp only[go_sem,simprocAttr,hrow.st.ok,hrow.st.un,hrow.st.len,hrow.st.gn];rw[hsl];refine Am.go (e:=5) 1048576 (by kernel_rfl) (z:=.int .u8 0) (by kernel_rfl) (by kernel_rfl) (by omega) ?_;simp only[go_sem,simprocAttr,hrow.st.ok,hrow.st.un,hrow.st.len,hrow.st.gn];rw[hsl];obtain⟨fi,hfi⟩: ∃fi,fi=B4.st.length:=⟨_,rfl⟩;obtain⟨NN,hNN⟩: ∃NN,NN=(aY s t).length:=⟨_,rfl⟩;have hF0:(B4.st++[some (bH.cells 5 (List.replicate NN (.int .u8 0)))])[fi]?=some (some (.cells 5 ((List.replicate NN 0).map ba))):=by
  rw[hfi,List.map_replicate,acA (acM _),ac6];rfl
 have hlf:σ.length<=fi:=by rw[hfi];exact hB.sea.ext.le
 rw[<-hNN,<-hfi];refine ae.at [6,21] (λA=>∃ n,nh σ A.st id mid n u v ((aY s t).map (jP s t (cj s t))) (cj s t) w (aY s t)/\A.st[fi]?=some (some (.cells 5 (((aY s t).map (ga s)).map ba)))) ?_ λB5 ⟨nn,hB5,hF5⟩=>?_
 .refine ae.upto [0,1,6,12,13,20,21,111,112] NN (λi A=>A.env 113= .int .i64 i/\ ∃n,nh σ A.st id mid n u v (((aY s t).take i).map (jP s t (cj s t))) (cj s t) w (aY s t)/\A.st[fi]?=some (some (.cells 5 ((((aY s t).take i).map (ga s)++List.replicate (NN-i) 0).map ba)))) 0 (acn _) ?_ λi B5 hi ⟨h113,nn,hB5,hF5⟩=>?_
  .simp only[go_sem,simprocAttr];exact⟨.aq,hB.more _,hF0⟩
  simp only[go_sem,simprocAttr,h113];refine⟨λhc=>?_,λhc=>?_⟩
  .obtain⟨n,hn⟩:=get_some (show i<(aY s t).length by omega);have hn':(bR (aY s t))[i]?=some (.str n):=by unfold bR;rw[acw,hn];rfl
   obtain⟨ir,off,hw,hlk,hlv⟩:=hB5.row.Pn hn';have hin:AV.int .i64 (IntKind.i64.wrap ((i:Int)+1))= .int .i64 (i+1:Nat):=ag hc (by rw[au];omega);subst hw;simp only[go_sem,simprocAttr,h113,hlk,hlv,acR,acD];have hst0:bR (fB s t)=(fB s t).map .str:=rfl;rw[hst0];refine⟨by rw[hsl];omega,aj.fn (II (fB s t) n) ?_⟩;rw[D1 (aco hn)];simp only[go_sem,simprocAttr,h113];obtain⟨mv,hmv⟩: ∃mv,mv= !en s t n:=⟨_,rfl⟩;rw[<-hmv];obtain⟨Fk,hFk⟩: ∃Fk:UInt8->List UInt8,Fk=λc=>((aY s t).take i).map (ga s)++c::List.replicate (NN-i-1) 0:=⟨_,rfl⟩
   have hFk0:((aY s t).take i).map (ga s)++List.replicate (NN-i) 0=Fk 0:=by
    rw[hFk,show NN-i=(NN-i-1)+1 by omega];rfl
   rw[hFk0]at hF5;have hFl: ∀c,((Fk c).map ba)[i]?=some (ba c):=λc=>by
    rw[hFk,acw,acA (by simp;omega)];simp[show min i (aY s t).length=i by omega]
   have hFs: ∀c d,((Fk c).map ba).set i (ba d)=(Fk d).map ba:=λc d=>by
    rw[hFk,<-List.map_set];congr 1;rw[List.set_append_right _ _ (by simp;omega)];simp[show min i (aY s t).length=i by omega]
   obtain⟨yi,hyi⟩: ∃yi,yi=B5.st.length:=⟨_,rfl⟩;obtain⟨st6,hst6⟩: ∃st6,st6=B5.st++[some (bH.cells 280 [.agg 280 [.str n,.agg 278 [.bool false,.aq,.aq,.aq,.aq],.agg 278 [.bool false,.aq,.aq,.aq,.aq],.bool false,.str [],.bool false,.bool mv]])]:=⟨_,rfl⟩;rw[<-hst6,<-hyi];have hY0:re σ st6 id mid fi yi nn u v (((aY s t).take i).map (jP s t (cj s t))) (cj s t) (.row 9 ir off (bR (aY s t)).length) (aY s t) (Fk 0) (pO n none none false [] false mv):=by
    rw[hst6];refine⟨hB5.more _,?_,?_,hlf,?_⟩
    .rw[acp (acf.1 hF5).1];exact hF5
    .rw[hyi,acA (acM _),ac6];rfl
    .rw[hyi];exact hB5.sea.ext.le
   have hpk40:(cj s t).length<=40:=by
    have h1:=ki (f:=lZ s t) (N:=2) (λj m=>Ab) (l:=aY s t) (b:=0);unfold cj;omega
   have hpk60:=Ag hnl;have hent:=λx hx=>(gk hs).2 x hx
   refine aj.fn (nE s n) ?_;simp only[go_sem,simprocAttr,h113];refine cc.at [0,1,6,12,13,20,21,23,24,25,26,111,112,113] (by kernel_rfl) (λA=>re σ A.st id mid fi yi nn u v (((aY s t).take i).map (jP s t (cj s t))) (cj s t) (.row 9 ir off (bR (aY s t)).length) (aY s t) (Fk (ga s n)) (pO n ((cF s n).map λx=>eS (cj s t) x.pkg) none false [] false mv)) (λh=>?_) (λh=>?_) λD hY1=>?_
   .rcases dO (λx:aA=>x.pkg.name==n) s with⟨hi2,hall2⟩|⟨i2,a,ha,hqa,hbef,hi2⟩
    .rw[hi2]at h;simp at h
    have hf:cF s n=some a:=js ha hqa hbef;have h0: ¬(i2:Int)<0:=by omega
    have hfc:ga s n=if a.k9=true then 2 else 1:=by unfold ga;rw[hf]
    rw[hi2,if_neg h0,hf,hfc];have b1:=hY0.beg.sea.b 1 u 51 _ rfl rfl rfl;have b2:=hY0.beg.sea.b 2 v 274 _ rfl rfl rfl;have hpo:okM none (ay a.pkg)=True:=eq_true trivial;have hpu:unm (ay a.pkg)=ay a.pkg:=rfl;simp only[go_sem,simprocAttr,h113,h12,h13,acg,aw ha,bf,b1.ok,b1.un,b2.ok,b2.un,hpo,hpu];refine⟨(acf.1 ha).1,aj.fn ((FM (cj s t) hpk40 hpk60 a.pkg (hent a (aco ha))).bS (.cons (.refl _) (.cons (.sub (Bld.Q0 b1)) (.cons (.sub (Bld.Q0 b2)) .nil)))) ?_⟩;have hko: ∀g f,okM g (cm f)=True:=λg f=>eq_true trivial
    have hku: ∀f,unm (cm f)=cm f:=λf=>rfl
    have hkf: ∀f,bb prog 278 (cm f)=true:=λf=>by kernel_rfl
    have hY1:=hY0.YB (pO n (some (eS (cj s t) a.pkg)) none false [] false mv);have hY0':=hY0.y;unfold pO zD at hY0';obtain⟨st7,hst7⟩: ∃st7,st7=st6.set yi (some (.cells 280 [pO n (some (eS (cj s t) a.pkg)) none false [] false mv])):=⟨_,rfl⟩;rw[<-hst7]at hY1;have hY2:=hY1.aaT (Fk 1);have hst7':st6.set yi (some (.cells 280 [.agg 280 [.str n,cm (eS (cj s t) a.pkg),.agg 278 [.bool false,.aq,.aq,.aq,.aq],.bool false,.str [],.bool false,.bool mv]]))=st7:=hst7.symm;simp only[go_sem,simprocAttr,h113,hko,hku,hkf,ak hY0',aC hY0',hst7',ak hY1.f,aO hY1.f,aC hY1.f,hFl,aw ha,acg,bf];have hs1:((Fk 0).map ba).set (0+i) (.int .u8 1)=(Fk 1).map ba:=by rw[acQ];exact hFs 0 1
    have hs2:((Fk 1).map ba).set (0+i) (.int .u8 2)=(Fk 2).map ba:=by rw[acQ];exact hFs 1 2
    have hf0: ∀c,((Fk c).map ba)[0+i]?=some (ba c):=λc=>by rw[acQ];exact hFl c
    have hY3:=hY2.aaT (Fk 2);rw[acI]at hY3;rw[hs1];simp only[go_sem,simprocAttr,ak hY2.f,aO hY2.f,aC hY2.f,hf0,hs2,acI,acW,acR,ade];refine⟨hc,(acf.1 ha).1,λhcf=>⟨hc,?_⟩,λhcf=>?_⟩
    .rw[if_pos hcf];exact hY3
    .rw[if_neg (by rw[hcf];simp)];exact hY2
   .have hf:cF s n=none:=by
     rcases dO (λx:aA=>x.pkg.name==n) s with⟨hi2,hall2⟩|⟨i2,a,ha,hqa,hbef,hi2⟩
     .exact acG.2 λx hx=>by rw[hall2 x hx];simp
     .rw[hi2]at h;simp at h
    have hfc:ga s n=0:=by unfold ga;rw[hf]
    rw[hf,hfc];simp only[go_sem,simprocAttr];exact hY0
   simp only[go_sem,simprocAttr,h113];refine aj.fn (uH t n) ?_;have hY4:=hY1.more [none];simp only[go_sem,simprocAttr,h113,ay];refine cc.at [0,1,6,12,13,20,21,24,111,112,113] (by kernel_rfl) (λA=>re σ A.st id mid fi yi nn u v (((aY s t).take i).map (jP s t (cj s t))) (cj s t) (.row 9 ir off (bR (aY s t)).length) (aY s t) (Fk (ga s n)) (jP s t (cj s t) n)) (λh=>?_) (λh=>?_) λG hY5=>?_
   .obtain⟨p,hp⟩:=acV.1 h;have hpm:p∈t:=acT hp;have hmp:=(gU ht).2 p hpm;have b1:=hY4.beg.sea.b 1 u 51 _ rfl rfl rfl;have b2:=hY4.beg.sea.b 2 v 274 _ rfl rfl rfl;have hko: ∀g f,okM g (cm f)=True:=λg f=>eq_true trivial
    have hku: ∀f,unm (cm f)=cm f:=λf=>rfl
    have hkf: ∀f,bb prog 278 (cm f)=true:=λf=>by kernel_rfl
    have hle:=((FM (W0:=W0) (cj s t) hpk40 hpk60 p hmp).bS (.cons (.refl _) (.cons (.sub (Bld.Q0 b1)) (.cons (.sub (Bld.Q0 b2)) .nil))));unfold ay at hle;rw[hp];simp only[go_sem,simprocAttr,h113,h12,h13,b1.ok,b1.un,b2.ok,b2.un,acD];refine⟨.of (by kernel_rfl),aD.go hle ?_⟩;have hY4':=hY4.y;unfold pO at hY4';generalize hO:(zD ((cF s n).map λx=>eS (cj s t) x.pkg))=O at hY4';have hL:zD none= .agg 278 [.bool false,.aq,.aq,.aq,.aq]:=rfl;rw[hL]at hY4';have hyl:=(acf.1 hY4').1;have hsl2: ∀o:Option bH,((D.st++[none]).set yi o)[yi]?=some o:=λo=>acu hyl
    rcases dO (λx:aA=>x.pkg.name==n) s with⟨hi2,hall2⟩|⟨i2,a,ha,hqa,hbef,hi2⟩
    .have hf:cF s n=none:=acG.2 λx hx=>by rw[hall2 x hx];simp
     rw[hi2];simp only[go_sem,simprocAttr,h113,hko,hku,hkf,ak hY4',aC hY4',ak (hsl2 _),aC (hsl2 _),acI,kj];refine⟨.of (by kernel_rfl),aD.fnG (r:=.bool false) (λh=>(ac5 h).elim) ?_⟩;simp only[go_sem,simprocAttr,ak (hsl2 _),aC (hsl2 _),acI,kj];have e:jP s t (cj s t) n=AV.agg 280 [.str n,O,cm (eS (cj s t) p),.bool true,.str p.ver,.bool false,.bool mv]:=by
      unfold jP pO;rw[hp,<-hmv,<-hO,hf];rfl
     rw[<-e];exact hY4.YB _
    .have hf:cF s n=some a:=js ha hqa hbef;have h0: ¬(i2:Int)<0:=by omega
     rw[hi2,if_neg h0];simp only[go_sem,simprocAttr,h113,hko,hku,hkf,ak hY4',aC hY4',ak (hsl2 _),aC (hsl2 _),acI,acg,aw ha,bf,ay];refine⟨.of (by kernel_rfl),(acf.1 ha).1,aD.fnG (λ_=>nF _ _) ?_⟩;simp only[go_sem,simprocAttr,ak (hsl2 _),aC (hsl2 _),acI];have e:jP s t (cj s t) n=AV.agg 280 [.str n,O,cm (eS (cj s t) p),.bool true,.str p.ver,.bool (bt a.pkg.ver p.ver),.bool mv]:=by
      unfold jP pO;rw[hp,<-hmv,<-hO,hf];rfl
     rw[<-e];exact hY4.YB _
   .have hp:ja t n=none:=by
     cases hp:ja t n with
     |none=>rfl
     |some p=>rw[hp]at h;cases h
    simp only[go_sem,simprocAttr];have e:jP s t (cj s t) n=pO n ((cF s n).map λx=>eS (cj s t) x.pkg) none false [] false mv:=by
     unfold jP;rw[hp,<-hmv];cases cF s n<;>rfl
    rw[e];exact hY4
   have hfin:=hY5.beg.sea.at_;unfold BT at hfin;have b0:=hY5.beg.sea.b 0 nn 280 _ rfl rfl rfl;have hy5:=hY5.y;rw[hid]at hfin;have hno: ∀g,okM g (jP s t (cj s t) n)=True:=λg=>eq_true trivial
   have hnu:unm (jP s t (cj s t) n)=jP s t (cj s t) n:=rfl;have hnf:bb prog 280 (jP s t (cj s t) n)=true:=by kernel_rfl
   simp only[go_sem,simprocAttr,h113,ak hfin,ak hy5,aO hfin,aO hy5,b0.ok,b0.un,hno,hnu,hnf];refine⟨.of (by kernel_rfl),bq.mI (σ:=G.st) (by simp only[go_sem,simprocAttr]) 1048576 (by kernel_rfl) b0 (.lit _ _ _) (by simp;omega) λn' st9 han=>?_⟩;have hbt:=(hY5.beg.sea.cst.A7 (k:=0) rfl rfl han).at_;have hB6:=hY5.beg.abT han;unfold BT at hbt hB6;rw[hid]at hbt;simp only[go_sem,simprocAttr,h113,ak hbt,aC hbt,aO hbt,han.bld.ok,han.bld.un,han.bld.fits];have hff:=han.nK b0 _ _ _ hY5.f;rw[ah hn,acj,acj];rw[<-hid]at hbt ⊢;refine⟨hc,hin,n',hB6,?_⟩;rw[acs,hff,hFk]
   .simp[Nat.sub_sub]
   .rintro rfl;rw[hff]at hbt;cases hbt
  .have e:i=NN:=by omega
   subst e;rw[ach (by omega),ac6,List.replicate_zero,ack]at hF5;rw[ach (by omega)]at hB5;exact⟨nn,hB5,hF5⟩
 simp only[go_sem,simprocAttr];have hfl:(((aY s t).map (ga s)).map ba).length=NN:=by simp[hNN]
 refine⟨.of (by kernel_rfl),lK.str (e:=5) (l:=(aY s t).map (ga s)) ⟨by kernel_rfl,by kernel_rfl,by kernel_rfl,by kernel_rfl⟩ (.inr (.inr ⟨fi,0,NN,((aY s t).map (ga s)).map ba,rfl,by simp only[go_sem,simprocAttr,hF5],by omega,by rw[adg,<-hfl,List.take_length]⟩)) ?_⟩;simp only[go_sem,simprocAttr];have hat:=hB5.sea.at_;have b0:=hB5.sea.b 0 nn 280 _ rfl rfl rfl;have hsub:Sub nn (lM (kR s t)):=by
  refine(Bld.Q0 b0).trans ?_;unfold lM kR;rw[List.map_map];exact Sub.WH _ λn _=>LI s t (cj s t) n
 have hagg:Sub (.agg 228 [nn,.mp mid,.aq,.aq,.aq]) (.agg 228 [lM (kR s t),.mp mid,.aq,.aq,.aq]):=by
  refine .agg rfl λk x y hx hy=>?_
  rcases k with _|_|_|_|_|k<;>simp at hx hy<;>subst hx hy
  .exact hsub
  all_goals exact .refl _
 have hidl:=(acf.1 hat).1;unfold BT at hat;refine cW.via (.inl rfl) (.bS id 0 (zs:=[.agg 228 [nn,.mp mid,.aq,.aq,.aq]]) (by simp only[go_sem,simprocAttr];exact hat) rfl hagg (.refl _)) ?_;simp only[go_sem,simprocAttr];have hle:=hB5.sea.ext.le;have hmi:mid≠id:=by omega
 refine⟨_,.refl _,by rw[acZ];exact hle,id,mid,by rw[hid],⟨⟨hB5.sea.ext.set hB5.sea.low _,hB5.sea.low,acu hidl,⟨_,_,rfl⟩,λk v e xs h1 h2 h3=>?_,λk v t h1 h2=>?_,λj k u v t hne h1 h2 h3=>?_,rfl,rfl⟩,hB5.mlo,⟨[],?_,λp hp=>(by cases hp),λk hk=>(by cases hk)⟩,λk hk=>(by cases hk)⟩⟩
 .rcases k with _|_|_|k<;>simp[bR,ff]at h1 h3<;>subst h1 h3<;>exact .inl ⟨rfl,rfl⟩
 .rcases k with _|_|_|k<;>simp at h1<;>subst h1<;>cases h2
 .rcases j with _|_|_|j<;>simp at h1<;>subst h1<;>cases h3
 .rw[acs (Ne.symm hmi)];exact hB5.map
set_option maxHeartbeats 1000000
def lH (l:List bL):AV:=.sl 100 (l.map bW)
theorem zE (l:List bL):aW 0 (lH l):=.sl λx hx=>by
 obtain⟨z,_,rfl⟩:=acr.1 hx;refine .agg λy hy=>?_
 simp at hy;rcases hy with rfl|rfl|rfl<;>first|exact .int _ _|exact .str _
def RN (r:List bL×Int):AV:=.tup [lH r.1,.int .i64 r.2]
theorem Vm (s:List aA)(t:List Pkg)(hsp: ∀x∈s,iT x.pkg)(hp: ∀p∈t,iT p):ai prog W0 91 [aK s,aL t] (RN (ig s t)):=by
 refine .I4 (.qT (zE _) (.int _ _)) λσ=>?_
 refine bY [4,5] [9,36,2000010,4000010] func91 rfl rfl ntmps91 rfl rfl λhsm=>?_
 simp only[go_sem,simprocAttr];refine aj.fn (p0 s hsp) ?_;simp only[go_sem,simprocAttr];refine⟨λh1=>bu.ret ?_,λh1=>?_⟩
 .simp only[go_sem,simprocAttr];have e:ig s t=([],bJ s):=by unfold ig;rw[if_pos h1]
  rw[e];exact⟨_,.refl _,dh (.aq _) (.refl _),.refl _⟩
 refine aj.fn (pz t hp) ?_;simp only[go_sem,simprocAttr];refine⟨λh2=>bu.ret ?_,λh2=>?_⟩
 .simp only[go_sem,simprocAttr];have e:ig s t=([],aZ t):=by unfold ig;rw[if_neg (by omega),if_pos h2]
  rw[e];exact⟨_,.refl _,dh (.aq _) (.refl _),.refl _⟩
 have hel:=gZ h1;have htl:=(gU h2).1;simp only[go_sem,simprocAttr,aL,acg];refine ae.at [0,1] (λA=>(t.map (·.name)).Nodup/\Ext σ A.st) ?_ λB ⟨hnd,hx⟩=>?_
 .refine ae.upto [0,1,25,26] t.length (λi A=>A.env 27= .int .i64 i/\Ext σ A.st/\((t.take i).map (·.name)).Nodup) 0 (acn _) ?_ λi B hi ⟨h27,hst,hI⟩=>?_
  .simp only[go_sem,simprocAttr];exact⟨.refl _,by simp⟩
  simp only[go_sem,simprocAttr,h27,acg];refine⟨λhc=>⟨hc,?_⟩,λhc=>?_⟩
  .obtain⟨p,hpi⟩:=get_some hc;simp only[aw hpi];simp only[go_sem,simprocAttr,h27,ay,acg];have hmt:(t.map ay).take i=(t.take i).map ay:=by rw[List.map_take]
   rw[hmt];refine⟨.of (by kernel_rfl),⟨by omega,by omega⟩,aD.go (uH (t.take i) p.name) ?_⟩;simp only[go_sem,simprocAttr,h27,ay];have ex:(ja (t.take i) p.name).isSome=true↔p.name∈(t.take i).map (·.name):=by
    unfold ja;rw[List.find?_isSome,acr];simp
   refine⟨λh=>bu.ret ?_,λh=>⟨hc,ag hc (by rw[au];omega),?_,?_⟩⟩
   .simp only[go_sem,simprocAttr];have hnn: ¬(t.map (·.name)).Nodup:=λhn=>by
     have h3:((t.take (i+1)).map (·.name)).Nodup:=(adb _ (ac7 _ _)).nodup hn;rw[ah hpi,acj,ac8]at h3;exact h3.2.2 _ (ex.1 h) _ (by simp) rfl
    have e:ig s t=([],1):=by unfold ig;rw[if_neg (by omega),if_neg (by omega),if_pos hnn]
    rw[e];exact⟨_,.refl _,by have:=hst.le;omega,dh (.aq _) (.refl _),hst.app _⟩
   .exact hst.app _
   .rw[ah hpi,acj,ac8];refine⟨hI,by simp,λa ha b hb e=>?_⟩;simp at hb;subst hb e;rw[ex.2 ha]at h;cases h
  .rw[ach hc]at hI;exact⟨hI,hst⟩
 simp only[go_sem,simprocAttr,aL];refine aj.fn (wv s t (by omega) (by omega)) ?_;simp only[go_sem,simprocAttr];have hsl:(bR (fB s t)).length=(fB s t).length:=by simp[bR]
 rw[hsl];refine⟨λh6=>bu.ret ?_,λh6=>?_⟩
 .simp only[go_sem,simprocAttr];have e:ig s t=([],12):=by unfold ig;rw[if_neg (by omega),if_neg (by omega),if_neg (by simpa using hnd),if_pos (by omega)]
  rw[e];exact⟨_,.refl _,hx.le,dh (.aq _) (.refl _),hx⟩
 refine aj.goes (by simp only[go_sem,simprocAttr]) (QO B.st s t h1 h2 hnd) λr st1 ⟨id,mid,hr,hS⟩=>?_
 subst hr;obtain⟨ns,hns⟩: ∃ns,ns=kR s t:=⟨_,rfl⟩;obtain⟨k0,hk0⟩: ∃k0,k0=(aY s t).map (ga s):=⟨_,rfl⟩;rw[<-hns]at hS;rw[<-hk0];have ht10:=sy h2 hnd;have hnl:=vh hel ht10;have hlow: ∀c∈k0,c.toNat<=4:=λc hc=>by
  rw[hk0]at hc;obtain⟨n,_,rfl⟩:=acr.1 hc;unfold ga;split
  .decide
  .split<;>decide
 have hH:BA ns k0:=by
  refine⟨by rw[hns,kR,acg];exact hnl,by rw[hns,hk0,kR,acg,acg],hlow,?_,λn hn=>?_⟩
  .rw[hns,kR,List.filter_map,acg]
   have:(aY s t).filter ((λn:bE=>n.kF)∘qW s t (cj s t))=fB s t:=rfl;rw[this];omega
  .rw[hns,kR]at hn;obtain⟨m,_,rfl⟩:=acr.1 hn;exact UU (gk h1).2 (gU h2).2 (Ag hnl) m
 have hk20:k0.length<=20:=by rw[hH.size];exact hH.len
 have hz:di prog 100=true:=by kernel_rfl
 simp only[go_sem,simprocAttr,hz];refine aj.goes (by simp only[go_sem,simprocAttr]) (O9 hS (by simp) rfl rfl k0 hk20 (-1) ⟨0,[],[]⟩ []) λr st2 ⟨hle2,a,b,c,hS2⟩=>?_
 rw[if_neg (by simp)]at hS2;have hE0:ExI B.st st2 id mid ns k0 [(k0,[])]:=⟨⟨a,b,c,_,_,hS2,yo.one _ _⟩,by simp,λx hx=>by
  rw[acz.1 hx];exact AH ns k0 hlow⟩
 obtain⟨R,hR⟩: ∃R,R=Cl _root_.id (ku ns) (pK ns) 20000 [(k0,[])] 0:=⟨_,rfl⟩;have hplan: ∀o,R=some o->ig s t=match o with|some p=>(p,0)|none=>([],8):=λo ho=>by
  unfold ig;rw[if_neg (by omega),if_neg (by omega),if_neg (by simpa using hnd),if_neg (by omega),<-hns,<-hk0,<-hR,ho];cases o<;>rfl
 simp only[go_sem,simprocAttr];refine ae.at [] (λA=>R=some none/\Ext σ A.st) ?_ λC ⟨hn,hC⟩=>?_
 .refine ae.cB [12] (λn A=>∃ (at_:Nat) (q:List (List UInt8×List bL)),A.env 14= .int .i64 at_/\n=20000-at_/\at_<=q.length/\ExI B.st A.st id mid ns k0 q/\Cl _root_.id (ku ns) (pK ns) (20000-at_) q at_=R) 20000 ?_ λn C ⟨at_,q,h14,hn,hal,hE,hb⟩=>?_
  .simp only[go_sem,simprocAttr];exact⟨0,_,rfl,rfl,by simp,hE0,hR.symm⟩
  have hsz:=hE.size hH;have hsz2:q.length<=15625:=by
   have g1:=vB hE.ways;have g2:5^(ns.filter (·.kF)).length<=5^6:=Nat.pow_le_pow_right (by decide) hH.few;omega
  obtain⟨a1,b1,c1,fr1,by1,hS3,hL⟩:=hE.ex;have hob:=hS3.sea.at_;have hxC:Ext σ C.st:=hx.trans hS3.sea.ext;unfold stO lM at hob;have v0:=hS3.sea.b 0 a1 9 _ rfl rfl rfl;have hql:(bR (q.map (·.1))).length=q.length:=by simp[bR]
  simp only[go_sem,simprocAttr,h14,ak hob,aO hob,v0.ok,v0.un,v0.len,v0.gn,hql];refine⟨λhc=>?_,λhc=>?_⟩
  .obtain⟨⟨k,p⟩,hk⟩:=get_some hc;have hkx:(bR (q.map (·.1)))[at_]?=some (.str k):=by
    unfold bR;rw[acw,acw,hk];rfl
   have hkw:k∈eO ns k0:=hE.ways.2 _ (aco hk);have hkl:k.length=ns.length:=(mq hkw).trans hH.size;have hstep:=Ls (κ:=_root_.id) (succ:=ku ns) (goal:=pK ns) (N:=20000) hk (by omega);rw[hb]at hstep;simp only[go_sem,simprocAttr,h14,v0.ok,v0.un,v0.ixV hkx,v0.ixC hkx,hql];refine⟨hc,aj.reads (by simp only[go_sem,simprocAttr]) (VB C.st id ns (.mp mid) a1 b1 c1 k hS3.sea.at_ hH.len hkl) ?_⟩;simp only[go_sem,simprocAttr,h14];refine⟨λhg=>?_,λhg=>?_⟩
   .refine aj.reads (by simp only[go_sem,simprocAttr]) (XR hS3 hL hsz hk) ?_;simp only[go_sem,simprocAttr];refine bu.ret ?_;simp only[go_sem,simprocAttr];rw[if_pos hg]at hstep;rw[hplan _ hstep];exact⟨_,.refl _,hxC.le,.refl _,hxC⟩
   .rw[if_neg (by rw[hg];simp)]at hstep;refine aj.goes (by simp only[go_sem,simprocAttr]) (NH hE hH hk) λr st4 ⟨hle4,hE4⟩=>?_
    simp only[go_sem,simprocAttr,h14];obtain⟨tt,htt⟩:=rH (κ:=_root_.id) p (ku ns k) q;have hin:AV.int .i64 (IntKind.i64.wrap ((at_:Int)+1))= .int .i64 (at_+1:Nat):=ag (N:=20001) (by omega) (by rw[au];omega);refine .here (20000-(at_+1)) (by omega) ⟨at_+1,_,hin,rfl,?_,hE4,hstep.symm⟩;rw[htt,acm];omega
  .rw[Tp hc (by omega)]at hb;exact⟨hb.symm,hxC⟩
 simp only[go_sem,simprocAttr];refine bu.ret ?_;simp only[go_sem,simprocAttr];rw[hplan none hn];exact⟨_,.refl _,hC.le,dh (.aq _) (.refl _),hC⟩
end Go.Proofs.Tryz
end
section
namespace Go.Av
open Go.Proofs.Tryz
def pN (all:List Pkg):Nat->Nat->Nat
 |0,_=>1
 |f+1,i=>if i=all.length then 1 else(aR all i-i+1)*pN all f (aR all i)
def abQ (all:List Pkg)(i:Nat):Nat:=pN all (all.length-i) i
theorem xu {all:List Pkg}{s:List aA}{l:List aM}{up:Bool}{x:List Nat×List Nat}(h:x∈nL all s l up):x.2∈eL all (all.length+1) 0 []/\iz l (atL all x.2) s=true/\x.1=uY all s (atL all x.2) up:=by
 obtain⟨t,ht,rfl⟩:=acr.1 ((JE _).subset h);simp_all
theorem GL {all:List Pkg}{s:List aA}{l:List aM}(h:dR all s l=true){t:List Pkg}(ht: ∀p∈t,p∈all):iz l t s=false:=by
 unfold dR at h;obtain⟨a,ha,h⟩:=acC.1 h;have hm:qA t s a=false:=by
  rw[Bool.or_eq_true,acv,acv,beq_iff_eq,beq_iff_eq,ac9]at h;unfold qA;rcases h with⟨h1,h2⟩|⟨h1,h2⟩
  .simp_all
  grind [fK]
 grind [iz]
theorem JS {all:List Pkg}{s:List aA}{l:List aM}{up:Bool}(h:dR all s l=true):nL all s l up=[]:=by
 refine List.eq_nil_iff_forall_not_mem.2 λx hx=>?_
 obtain⟨h1,h2,_⟩:=xu hx;grind [atL,GL]
def yn (all:List Pkg)(s:List aA)(l:List aM)(bud:Int):Nat->SSt
 |0=>.fresh
 |i+1=>(ib all s l bud (yn all s l bud i)).2.2
def l0 (all:List Pkg)(s:List aA)(l:List aM)(bud:Int):Bool:=!dR all s l&&decide (0<bud/\bud<Dj all s l)
def BE (all:List Pkg)(s:List aA)(l:List aM)(bud:Int)(i:Nat):Option FB×Int:=if l0 all s l bud=true then(none,11)else((e5 all s l)[i]?,0)
theorem PA {all:List Pkg}{s:List aA}{l:List aM}{bud:Int}: ∀i:Nat,yn all s l bud i=if dR all s l=true\/i=0 then .fresh else if l0 all s l bud=true then .fail else .run ((e5 all s l).drop i)
 |0=>by simp[yn]
 |i+1=>by
  rw[yn,PA i];cases hn:dR all s l with
  |true=>grind [ib]
  |false=>
   have hf:l0 all s l bud=decide (0<bud/\bud<Dj all s l):=by grind [l0]
   by_cases h:0<bud/\bud<Dj all s l
   .grind [ib]
   .rw[hf,decide_eq_false h];by_cases h0:i=0<;>simp[ib,hn,h0,h]
theorem Sh (all:List Pkg)(s:List aA)(l:List aM)(bud:Int)(i:Nat):ib all s l bud (yn all s l bud i)=((BE all s l bud i).1,(BE all s l bud i).2,yn all s l bud (i+1)):=by
 have key:(ib all s l bud (yn all s l bud i)).1=(BE all s l bud i).1/\(ib all s l bud (yn all s l bud i)).2.1=(BE all s l bud i).2:=by
  grind [PA,BE,e5,JS,l0,ib,List.head?_eq_getElem?]
 exact adk key.1 (adk key.2 rfl)
structure aca (repo:List Pkg)(s:List aA)(l:List aM)(all:List Pkg):Prop where
 sea:dH l=0->L0 all s l
 mn: ∀p∈all,iT p
 QU:bJ s=0
 new:nS all s l=dH l
 few:abQ all 0<=700
 may:aZ all=0
 srt:nR all
 sub: ∀x∈s,x.pkg∈all
 mns: ∀x∈s,iT x.pkg
end Go.Av
end
section
namespace Go.Proofs.Tryz
open Go Go.Av
set_option maxRecDepth 10000
set_option maxHeartbeats 1000000
variable {W0 :World}
theorem eF.via {σ σ':ab}{id:Nat}{all:List Pkg}{s:List aA}{l:List aM}{bud:Int}{st:SSt}(h:eF σ id all s l bud st)(h1:σ'[id]?=σ[id]?)(h2: ∀(j:Nat)(ys:List AV),σ[j]?=some (some (bH.cells 218 ys))->σ'[j]?=σ[j]?):eF σ' id all s l bud st:=by
 cases st with
 |fresh=>exact h1.trans h
 |run o=>
  obtain⟨g1,⟨v,g2,g3⟩,g4⟩:=h;refine⟨g1,⟨v,h1.trans g2,g3.keep λj hj=>?_⟩,g4⟩;rcases g3 with⟨rfl,_⟩|⟨k,off,m,zs,rfl,hk,_⟩
  .cases hj
  .cases acz.1 hj;simp_all
 |fail=>
  obtain⟨g1,g2,v,g3⟩:=h;exact⟨g1,g2,v,h1.trans g3⟩
theorem eF.ob {σ:ab}{id:Nat}{all:List Pkg}{s:List aA}{l:List aM}{bud:Int}{st:SSt}(h:eF σ id all s l bud st): ∃sp dn v,σ[id]?=some (ef all s l bud sp dn v):=by
 cases st with
 |fresh=>exact⟨_,_,_,h⟩
 |run o=>obtain⟨_,⟨v,h2,_⟩,_⟩:=h;grind
 |fail=>obtain⟨_,_,v,h3⟩:=h;grind
theorem eF.ext {σ σ':ab}{id:Nat}{all:List Pkg}{s:List aA}{l:List aM}{bud:Int}{st:SSt}(h:eF σ id all s l bud st)(hx:Ext σ σ'):eF σ' id all s l bud st:=by
 have key: ∀{j:Nat} {o:bH},σ[j]?=some (some o)->σ'[j]?=σ[j]?:=λ{j o} hj=>by
  rw[hx.eq,acp (acf.1 hj).1]
 obtain⟨_,_,_,ho⟩:=eF.ob h;unfold ef at ho;exact eF.via h (key ho) λj ys hj=>key hj
theorem eF.app {σ:ab}{id:Nat}{all:List Pkg}{s:List aA}{l:List aM}{bud:Int}{st:SSt}(h:eF σ id all s l bud st)(x:ab):eF (σ++x) id all s l bud st:=eF.ext h (.app (.refl _) x)
set_option maxHeartbeats 2000000
def coO :Option FB->List Nat
 |none=>[0,0,0,0,0]
 |some x=>x.1
theorem eF.fr {σ σ':ab}{id idx:Nat}{all:List Pkg}{s:List aA}{l:List aM}{bud bud':Int}{st st':SSt}(h:eF σ id all s l bud st)(hx:eF σ idx all s l bud' st')(hne:id≠idx)(hf:Fr [idx] σ σ'):eF σ' id all s l bud st:=by
 grind [eF.ob,eF.via,Fr.old,ef,cT]
theorem M1 {all:List Pkg}{s:List aA}{l:List aM}(i:Nat):(coO ((e5 all s l)[i]?)).length=5:=by
 unfold e5;rw[acw];cases h:(nL all s l (eV l))[i]? with
 |none=>rfl
 |some x=>
  obtain⟨_,_,h3⟩:=xu (aco h);show x.1.length=5;rw[h3];exact ma _ _ _ _ _ _
theorem XQ {all:List Pkg}{s:List aA}{l:List aM}{bud:Int}(hf:l0 all s l bud=false)(j:Nat):BE all s l bud j=((e5 all s l)[j]?,0):=by
 grind [BE]
theorem TU {all:List Pkg}{s:List aA}{l:List aM}{bud:Int}(hf:l0 all s l bud=true)(j:Nat):BE all s l bud j=(none,11):=by
 grind [BE]
end Go.Proofs.Tryz
end
section
namespace Go.Av
open Go.Proofs Go.Proofs.Tryz
structure qx where
 kind:Nat
 want:List aA
 steps:List bL
 cost:List Nat
 SP:List nP
 deriving DecidableEq
def iV (k:Nat):qx:=⟨k,[],[],[0,0,0,0,0],[]⟩
def dt (t:List Pkg)(s:List aA):List aA:=t.map λp=>⟨p,true,match cF s p.name with|some x=>x.hold|none=>false⟩
def fT (all:List Pkg)(x:FB):List Pkg:=atL all (bg all.length x.2)
def eA (all:List Pkg)(held:List aA):Bool->List FB->qx
 |some_,[]=>iV (if some_=true then 3 else 2)
 |_,x::r=>if (ig held (fT all x)).2=0 then⟨1,dt (fT all x) held,(ig held (fT all x)).1,x.1,[]⟩else eA all held true r
def cg (repo:List Pkg)(s:List aA)(l:List aM)(bud:Int):qx×Int:=
 if (c7 repo s).2≠0 then(iV 0,(c7 repo s).2)else if dH l≠0 then(iV 0,dH l)
 else if fH s≠[]/\(l.any λa=>a.kind==7)=false then(⟨4,[],[],[0,0,0,0,0],fH s⟩,0)
 else if l0 (c7 repo s).1 s l bud=true then(iV 5,0)else(eA (c7 repo s).1 (s.map (gG l)) false (e5 (c7 repo s).1 s l),0)
theorem wF (all:List Pkg)(held:List aA): ∀(l:List FB) (b:Bool),(eA all held b l).kind=1\/(eA all held b l).kind=2\/(eA all held b l).kind=3
 |[],b=>by
  cases b<;>simp[eA,iV]
 |x::r,b=>by
  rw[eA];split
  .exact .inl rfl
  .exact wF all held r true
theorem NX (all:List Pkg)(held:List aA): ∀(l:List FB) (b:Bool),(eA all held b l).kind≠0/\(eA all held b l).kind≠4/\(eA all held b l).kind≠5:=λl b=>by
 have:=wF all held l b;omega
end Go.Av
end
section
namespace Go.Proofs.Tryz
open Go Go.Av
set_option maxRecDepth 10000
set_option maxHeartbeats 1000000
variable {W0 :World}
theorem Rp (t:List Pkg)(s:List aA)(hm: ∀p∈t,aS p=0)(hl:t.length<20)(hr:tH (dt t s)):ai prog W0 92 [aL t,aK s] (aK (dt t s)):=by
 refine an [4] [7,2000035,2000005] func92 rfl rfl ntmps92 rfl rfl (qP _) λhs σ=>?_
 simp only[go_sem,simprocAttr,aL,acg];refine ae.at [] (λA=>∃ v,A.env 5=v/\aH σ A.st v 53 ((dt t s).map bf)) ?_ λB ⟨v,h5,hb⟩=>?_
 .refine ae.upto [1,10,11] t.length (λi A=>∃ v,A.env 12= .int .i64 i/\A.env 5=v/\aH σ A.st v 53 ((dt (t.take i) s).map bf)) 0 (acn _) ?_ λi B hi ⟨v,h12,h5,hb⟩=>?_
  .simp only[go_sem,simprocAttr];exact⟨_,rfl,aH.nil (.refl _) _⟩
  simp only[go_sem,simprocAttr,h12,h5,acg];refine⟨λhc=>⟨hc,?_⟩,λhc=>?_⟩
  .obtain⟨p,hpi⟩:=get_some hc;simp only[aw hpi];simp only[go_sem,simprocAttr,h12,h5,ay];refine aj.fn (nE s p.name) ?_;have hb1:=hb.more [none];have e:(dt (t.take (i+1)) s).map bf=(dt (t.take i) s).map bf++[bf ⟨p,true,match cF s p.name with|some x=>x.hold|none=>false⟩]:=by
    unfold dt;rw[ah hpi,acj,acj];rfl
   have hin:AV.int .i64 (IntKind.i64.wrap ((i:Int)+1))= .int .i64 (i+1:Nat):=ag hc (by rw[au];omega);rcases dO (λx:aA=>x.pkg.name==p.name) s with⟨hi2,hall2⟩|⟨i2,a,ha,hqa,hbef,hi2⟩
   .have hf:cF s p.name=none:=acG.2 λx hx=>by rw[hall2 x hx];simp
    rw[hf]at e;rw[hi2];simp only[go_sem,simprocAttr,h12,h5,hb.ok,hb.un,kj];refine⟨.of (by kernel_rfl),bq.own 1048576 (by kernel_rfl) hb1.bld (.lit _ _ _) (by simp[dt];omega) λv' σ' ha'=>?_⟩;have hb':=hb1.app ha';simp only[go_sem,simprocAttr,h12,hb'.ok,hb'.un];rw[e];exact⟨hc,v',hin,rfl,hb'⟩
   .have hf:cF s p.name=some a:=js ha hqa hbef;have h0: ¬(i2:Int)<0:=by omega
    rw[hf]at e;rw[hi2,if_neg h0];simp only[go_sem,simprocAttr,h12,h5,hb.ok,hb.un,aK,acg,aw ha,bf];refine⟨.of (by kernel_rfl),(acf.1 ha).1,bq.own 1048576 (by kernel_rfl) hb1.bld (.lit _ _ _) (by simp[dt];omega) λv' σ' ha'=>?_⟩;have hb':=hb1.app ha';simp only[go_sem,simprocAttr,h12,hb'.ok,hb'.un];rw[e];exact⟨hc,v',hin,rfl,hb'⟩
  .rw[ach hc]at hb;exact⟨v,rfl,hb⟩
 simp only[go_sem,simprocAttr,h5,hb.ok,hb.un];have hwl:(dt t s).length<20:=by unfold dt;rw[acg];exact hl
 refine aj.fn ((s7 (dt t s) (λx hx=>by
  unfold dt at hx;obtain⟨p,hp,rfl⟩:=acr.1 hx;exact hm p hp) hwl hr).bS (.cons hb.bS .nil)) ?_
 simp only[go_sem,simprocAttr];exact hb.ext
end Go.Proofs.Tryz
end
section
namespace Go.Av
theorem Ub (c:Clause)(l:List Pkg):mM c l=l.any λp=>c.any (dc p):=by
 unfold mM;rw[acx];simp only[acC];exact⟨λ⟨a,ha,p,hp,h⟩=>⟨p,hp,a,ha,h⟩,λ⟨p,hp,a,ha,h⟩=>⟨a,ha,p,hp,h⟩⟩
end Go.Av
end
section
namespace Go.Proofs.Tryz
open Go Go.Av
set_option maxRecDepth 10000
set_option maxHeartbeats 1000000
variable {W0 :World}
def du (v:nP):AV:=.agg 117 [.int .i64 (v.kind:Nat),.str v.name,.bool v.pre,.int .i64 (v.i:Nat),.str v.other]
def gM (l:List nP):AV:=.sl 117 (l.map du)
theorem TP (p:Pkg)(a:Atom):ai prog W0 186 [aU a,.loc 51 (ay p)] (.bool (dc p a)):=by
 refine an [3] [2] func186 rfl rfl ntmps186 rfl rfl (.bool _) λhs σ=>?_
 simp only[go_sem,simprocAttr];refine aj.fn (vu p a) ?_;simp only[go_sem,simprocAttr]
 try exact ar rfl
theorem Xd (c:Clause)(l:List Pkg):ai prog W0 120 [aF c,aL l] (.bool (mM c l)):=by
 refine an [4] [6] func120 rfl rfl ntmps120 rfl rfl (.bool _) λhs σ=>?_
 have hl:=(aQ (hs _ (acN _ (acH ..)))).1;rw[Ub];simp only[go_sem,simprocAttr,aL,acg];refine ae.upto [0,7,8] l.length (λi A=>A.env 9= .int .i64 i/\Ext σ A.st/\ ∀p∈l.take i,c.any (dc p)=false) 0 (acn _) ?_ λi B hi ⟨h9,hst,hI⟩=>?_
 .simp only[go_sem,simprocAttr];exact⟨.refl _,by simp⟩
 simp only[go_sem,simprocAttr,h9,acg];refine⟨λhc=>⟨hc,?_⟩,λhc=>?_⟩
 .obtain⟨p,hp⟩:=get_some hc;simp only[aw hp];simp only[go_sem,simprocAttr,h9];refine aj.fn (A5 aU df.atom c (dc p) _ [.loc 51 (ay p)] (λa _=>TP p a)) ?_;simp only[go_sem,simprocAttr,h9];refine⟨λh=>⟨ar (acC.2 ⟨p,aco hp,h⟩).symm,hst.app _⟩,λh=>⟨hc,ag hc hl,hst.app _,?_⟩⟩;rw[ah hp];intro q hq;rcases adf.1 hq with hq|hq
  .exact hI q hq
  .rw[acz.1 hq];exact h
 .rw[ach hc]at hI;exact⟨ar (List.any_eq_false.2 λp hp=>by rw[hI p hp];simp).symm,hst⟩
def IP (s:List aA):List AV->Option bH
 |[a,b]=>some (.cells 128 [.agg 128 [aK s,a,b]])
 |_=>none
def aby :List TypeId:=[51,117]
abbrev WrS (σ st:ab)(id:Nat)(s:List aA)(a b:AV)(on:List Pkg)(out:List nP):Prop:=cM σ st id [a,b] aby [on.map ay,out.map du] (IP s)
theorem FT (σ st:ab)(id:Nat)(s:List aA)(a b:AV)(on:List Pkg)(out:List nP)(n:List UInt8)(pre:Bool)(l:List Clause)(hW:WrS σ st id s a b on out)(hl:l.length<=12)(ho:out.length<=100000):
  aP prog W0 70 [.ptr 128 id 0 [],.str n,aB l,.bool pre] st λr st'=>∃ b',WrS σ st' id s a b' on (out++gV n pre on l):=by
 refine bY [] [] func70 rfl rfl ntmps70 rfl rfl λhs=>?_
 simp only[go_sem,simprocAttr,aB,acg];refine ae.upto [0,1,3,10,11] l.length (λi A=>∃ b',A.env 12= .int .i64 i/\st.length<=A.st.length/\WrS σ A.st id s a b' on (out++fmI (eR n pre on) 0 (l.take i))) 0 (acn _) ?_ λi B hi ⟨b',h12,hle,hS⟩=>?_
 .simp only[go_sem,simprocAttr];refine⟨b,?_⟩;simpa[fmI]using hW
 simp only[go_sem,simprocAttr,h12,acg];refine⟨λhc=>⟨hc,?_⟩,λhc=>?_⟩
 .obtain⟨c,hci⟩:=get_some hc;simp only[aw hci];have hba:=hS.b 0 a 51 _ rfl rfl rfl;have hbb:=hS.b 1 b' 117 _ rfl rfl rfl;have hat:=hS.at_;unfold IP at hat;have hin:AV.int .i64 (IntKind.i64.wrap ((i:Int)+1))= .int .i64 (i+1:Nat):=ag hc (by rw[au];omega);have hlen:(fmI (eR n pre on) 0 (l.take i)).length<=12:=by
   have:=eT (name:=n) (pre:=pre) (on:=on) (l:=l.take i);unfold gV at this;rw[acq]at this;omega
  simp only[go_sem,simprocAttr,h12,ak hat,aO hat,hba.ok,hba.un];refine aj.fn ((Xd c on).bS (.cons (.refl _) (.cons hba.bS .nil))) ?_;simp only[go_sem,simprocAttr,h12,ak hat,aO hat,hbb.ok,hbb.un];have e1:fmI (eR n pre on) 0 (l.take (i+1))=fmI (eR n pre on) 0 (l.take i)++eR n pre on i c:=cZ hci;refine⟨λh=>?_,λh=>⟨hc,b',hin,hle,?_⟩⟩
  .refine bq.mI (σ:=B.st) (by simp only[go_sem,simprocAttr]) 1048576 (by kernel_rfl) hbb (.lit _ _ _) (by simp;omega) λv' σ' ha=>?_
   have hS':=cM.app hS (k:=1) rfl rfl ha ⟨_,_,rfl⟩;have hidσ:σ'[id]?=B.st[id]?:=ha.old id (acf.1 hat).1 (λe=>by grind [Bld.jl]);rw[hat]at hidσ;have hbv:=ha.bld;simp only[go_sem,simprocAttr,h12,ak hidσ,aC hidσ,hbv.ok,hbv.un,hbv.fits];have h2:mM c on=false:=by simpa using h
   refine⟨hc,v',hin,?_,?_⟩
   .have:=ha.len;rw[acZ];omega
   .rw[e1,eR,if_neg (by rw[h2];simp),<-aci];show cM _ _ _ _ _ [_,List.map _ (_++[_])] _;rw[acj];exact hS'
  .have h2:mM c on=true:=by simpa using h
   rw[e1,eR,if_pos h2,ack];exact hS
 .rw[ach hc]at hS;refine bu.normal ?_;simp only[go_sem,simprocAttr];exact⟨_,.refl _,hle,b',hS⟩
theorem xr (σ st:ab)(id:Nat)(s:List aA)(a b:AV)(on:List Pkg)(out:List nP)(i kind:Nat)(x:aA)(l:List Atom)(hW:WrS σ st id s a b on out)(hx:s[i]?=some x)(hs24:s.length<=24)(hl:l.length<=12)(ho:out.length<=100000)(hk:kind<=3):
  aP prog W0 71 [.ptr 128 id 0 [],.int .i64 i,.int .i64 kind,aF l] st λr st'=>∃ b',WrS σ st' id s a b' on (out++jb kind x.pkg.name i s l):=by
 refine bY [] [9,11,2000067,4000007] func71 rfl rfl ntmps71 rfl rfl λhs=>?_
 simp only[go_sem,simprocAttr,aF,acg];refine ae.upto [0,1,2,12,13] l.length (λj A=>∃ b',A.env 14= .int .i64 j/\st.length<=A.st.length/\WrS σ A.st id s a b' on (out++fmI (de kind x.pkg.name i s) 0 (l.take j))) 0 (acn _) ?_ λj B hj ⟨b',h14,hle,hS⟩=>?_
 .simp only[go_sem,simprocAttr];refine⟨b,?_⟩;simpa[fmI]using hW
 simp only[go_sem,simprocAttr,h14,acg];refine⟨λhc=>⟨hc,?_⟩,λhc=>?_⟩
 .obtain⟨t,ht⟩:=get_some hc;simp only[aw ht];have hat:=hS.at_;unfold IP at hat;have hat1:(B.st++[none])[id]?=_:=(acp (acf.1 hat).1).trans hat;simp only[go_sem,simprocAttr,h14,ak hat1,aO hat1,aK,acg];have hS1:=hS.more [none];have hin:AV.int .i64 (IntKind.i64.wrap ((j:Int)+1))= .int .i64 (j+1:Nat):=ag hc (by rw[au];omega);have hlen:(fmI (de kind x.pkg.name i s) 0 (l.take j)).length<=288:=by
   have h1:=fb (kind:=kind) (name:=x.pkg.name) (i:=i) (s:=s) (l:=l.take j);unfold jb at h1;rw[acq]at h1;have h2:min j l.length*s.length<=12*24:=acy (by omega) hs24;omega
  have e1:fmI (de kind x.pkg.name i s) 0 (l.take (j+1))=fmI (de kind x.pkg.name i s) 0 (l.take j)++de kind x.pkg.name i s j t:=cZ ht;generalize fmI (de kind x.pkg.name i s) 0 (l.take j)=pre at *;rw[e1];refine ae.ats [0,1,2,12,13,14] (λA=>∃ b',st.length<=A.st.length/\WrS σ A.st id s a b' on (out++(pre++de kind x.pkg.name i s j t))) ?_ λC ⟨b2,hle2,hS2⟩=>?_
  .refine ae.upto [0,1,2,8,9,12,13,14,22,23] s.length (λk A=>∃ b',A.env 24= .int .i64 k/\st.length<=A.st.length/\WrS σ A.st id s a b' on (out++(pre++fmI (db kind x.pkg.name i j t) 0 (s.take k)))) 0 (acn _) ?_ λk C hk2 ⟨b2,h24,hle2,hS2⟩=>?_
   .simp only[go_sem,simprocAttr];refine⟨b',by omega,?_⟩;rw[show pre++fmI (db kind x.pkg.name i j t) 0 (s.take 0)=pre by simp[fmI]];exact hS1
   simp only[go_sem,simprocAttr,h24,acg];refine⟨λhc2=>⟨hc2,?_⟩,λhc2=>?_⟩
   .obtain⟨y,hy⟩:=get_some hc2;simp only[aw hy];simp only[go_sem,simprocAttr,h24,bf];refine aD.fnG (λ_=>vu y.pkg t) ?_;simp only[go_sem,simprocAttr,h24];have hq:((k:Int) !=i&&((kind:Int)==2||y.k9)&&dc y.pkg t)=GG kind i t k y:=by
     have a1:((k:Int) !=i)=decide (k≠i):=by rw[acx];simp only[bne_iff_ne,decide_eq_true_eq];omega
     have a2:((kind:Int)==2)=decide (kind=2):=by rw[acx];simp only[beq_iff_eq,decide_eq_true_eq];omega
     unfold GG;rw[a1,a2]
    rw[hq];have hin2:AV.int .i64 (IntKind.i64.wrap ((k:Int)+1))= .int .i64 (k+1:Nat):=ag hc2 (by rw[au];omega);have e2:fmI (db kind x.pkg.name i j t) 0 (s.take (k+1))=fmI (db kind x.pkg.name i j t) 0 (s.take k)++db kind x.pkg.name i j t k y:=cZ hy;have hlen2:(fmI (db kind x.pkg.name i j t) 0 (s.take k)).length<=24:=by
     have h1:=mS (kind:=kind) (name:=x.pkg.name) (i:=i) (s:=s.take k) (k:=j) (a:=t);unfold de at h1;rw[acq]at h1;omega
    have hbb:=hS2.b 1 b2 117 _ rfl rfl rfl;have hat2:=hS2.at_;unfold IP at hat2;have hat3:(C.st++[none])[id]?=_:=(acp (acf.1 hat2).1).trans hat2;have hS3:=hS2.more [none];refine⟨λh=>?_,λh=>⟨hc2,b2,hin2,by omega,?_⟩⟩
    .simp only[go_sem,simprocAttr,h24,ak hat3,aO hat3,hbb.ok,hbb.un,aK,aw hx,bf,ay];refine⟨.of (by kernel_rfl),by rw[acg];exact(acf.1 hx).1,?_⟩;have hb3:=hS3.b 1 b2 117 _ rfl rfl rfl;refine bq.mI (σ:=C.st++[none]) (by simp only[go_sem,simprocAttr]) 1048576 (by kernel_rfl) hb3 (.lit _ _ _) (by simp;omega) λv' σ' ha=>?_
     have hS':=cM.app hS3 (k:=1) rfl rfl ha ⟨_,_,rfl⟩;have hidσ:σ'[id]?=(C.st++[none])[id]?:=ha.old id (acf.1 hat3).1 (λe=>by grind [Bld.jl]);rw[hat3]at hidσ;have hbv:=ha.bld;simp only[go_sem,simprocAttr,h24,ak hidσ,aC hidσ,hbv.ok,hbv.un,hbv.fits];refine⟨hc2,v',hin2,?_,?_⟩
     .have:=ha.len;rw[acm]at this;rw[acZ];omega
     .rw[e2,db,if_pos h,<-aci,<-aci,aci out];show cM _ _ _ _ _ [_,List.map _ (_++[_])] _;rw[acj];exact hS'
    .rw[e2,db,if_neg (by rw[h];simp),ack];exact hS3
   .rw[ach hc2]at hS2;exact⟨b2,hle2,hS2⟩
  simp only[go_sem,simprocAttr,h14];exact⟨hc,b2,hin,hle2,hS2⟩
 .rw[ach hc]at hS;refine bu.normal ?_;simp only[go_sem,simprocAttr];exact⟨_,.refl _,hle,b',hS⟩
theorem QT {s:List aA}{i:Nat}{x:aA}(h:s[i]?=some x):onE (s.take (i+1))=onE (s.take i)++if x.k9=true then [x.pkg]else []:=by
 unfold onE;rw[ah h,acS,acj,acE,acO];split<;>rfl
theorem tu (l:List nP):aW 0 (gM l):=.sl λx hx=>by
 obtain⟨v,_,rfl⟩:=acr.1 hx;refine .agg λy hy=>?_
 simp at hy;rcases hy with rfl|rfl|rfl|rfl|rfl<;>first|exact .int _ _|exact .str _|exact .bool _
theorem pW {s:List aA}{i:Nat}{x:aA}(hx:aS x.pkg=0)(hs:s.length<=24):(dQ s i x).length<=600:=by
 have hG:=dz hx;have h1:=eT (name:=x.pkg.name) (pre:=true) (on:=onE s) (l:=x.pkg.pre);have h2:=eT (name:=x.pkg.name) (pre:=false) (on:=onE s) (l:=x.pkg.dep);have h3:=fb (kind:=2) (name:=x.pkg.name) (i:=i) (s:=s) (l:=x.pkg.con);have h4:=fb (kind:=3) (name:=x.pkg.name) (i:=i) (s:=s) (l:=x.pkg.brk);have h5:x.pkg.con.length*s.length<=12*24:=acy hG.con.1 hs;have h6:x.pkg.brk.length*s.length<=12*24:=acy hG.brk.1 hs;have h7:=hG.pre.1;have h8:=hG.dep.1;unfold dQ;simp only[acm];split
 .omega
 .simp only[acF];omega
theorem Q4 (s:List aA)(hm: ∀x∈s,aS x.pkg=0)(hs24:s.length<=24):ai prog W0 35 [aK s] (gM (fH s)):=by
 refine .I4 (tu _) λσ=>?_
 refine bY [2] [5,7,2000027,4000006] func35 rfl rfl ntmps35 rfl rfl λhs=>?_
 simp only[go_sem,simprocAttr,aK,acg];have hS0:WrS σ (σ++[IP s [.aq,.aq]]) σ.length s .aq .aq [] []:=by
  refine⟨.app (.refl _) _,acM _,by simp,⟨_,_,rfl⟩,λk v e xs hv _ hxs=>?_,λk v t hv ht=>?_,λj k u v t _ hu _ ht=>?_,rfl,rfl⟩
  .rcases k with _|_|k<;>simp at hv hxs<;>subst hv hxs<;>exact .inl ⟨rfl,rfl⟩
  .rcases k with _|_|k<;>simp at hv<;>subst hv<;>cases ht
  .rcases j with _|_|j<;>simp at hu<;>subst hu<;>cases ht
 obtain⟨id,hidd⟩: ∃id,id=σ.length:=⟨_,rfl⟩;rw[<-hidd]at hS0;rw[<-hidd];refine ae.at [0,3] (λA=>∃ a,WrS σ A.st id s a .aq (onE s) []) ?_ λB ⟨a,hS⟩=>?_
 .refine ae.upto [0,3,11,12] s.length (λi A=>∃ a,A.env 13= .int .i64 i/\WrS σ A.st id s a .aq (onE (s.take i)) []) 0 (acn _) ?_ λi B hi ⟨a,h13,hS⟩=>?_
  .simp only[go_sem,simprocAttr];exact⟨_,hS0⟩
  simp only[go_sem,simprocAttr,h13,acg];refine⟨λhc=>⟨hc,?_⟩,λhc=>?_⟩
  .obtain⟨x,hx⟩:=get_some hc;simp only[aw hx];have hin:AV.int .i64 (IntKind.i64.wrap ((i:Int)+1))= .int .i64 (i+1:Nat):=ag hc (by rw[au];omega);have hS1:=hS.more [none];have hba:=hS1.b 0 a 51 _ rfl rfl rfl;have hat:=hS1.at_;unfold IP at hat;rw[QT hx];simp only[go_sem,simprocAttr,h13,bf];refine⟨λh=>?_,λh=>⟨hc,a,hin,?_⟩⟩
   .simp only[go_sem,simprocAttr,h13,ak hat,aO hat,hba.ok,hba.un];have hol:(onE (s.take i)).length<=24:=by
     unfold onE;rw[acg];have:=acL (·.k9) (s.take i);rw[acq]at this;omega
    refine⟨.of (by kernel_rfl),bq.mI (σ:=B.st++[none]) (by simp only[go_sem,simprocAttr]) 1048576 (by kernel_rfl) hba (.lit _ _ _) (by simp;omega) λv' σ' ha=>?_⟩;have hS':=cM.app hS1 (k:=0) rfl rfl ha ⟨_,_,rfl⟩;have hidσ:σ'[id]?=(B.st++[none])[id]?:=ha.old id (acf.1 hat).1 (λe=>by grind [Bld.jl]);rw[hat]at hidσ;have hbv:=ha.bld;simp only[go_sem,simprocAttr,h13,ak hidσ,aC hidσ,hbv.ok,hbv.un,hbv.fits];refine⟨hc,v',hin,?_⟩;rw[if_pos h];show cM _ _ _ _ _ [List.map _ (_++[_]),_] _;rw[acj];exact hS'
   .rw[if_neg (by rw[h];simp),ack];exact hS1
  .rw[ach hc]at hS;exact⟨a,hS⟩
 simp only[go_sem,simprocAttr,acg];refine ae.at [3] (λA=>∃ b,WrS σ A.st id s a b (onE s) (fH s)) ?_ λC ⟨b,hS2⟩=>?_
 .refine ae.upto [3,31,32] s.length (λi A=>∃ b,A.env 33= .int .i64 i/\WrS σ A.st id s a b (onE s) (fmI (dQ s) 0 (s.take i))) 0 (acn _) ?_ λi C hi ⟨b,h33,hS2⟩=>?_
  .simp only[go_sem,simprocAttr];exact⟨_,hS⟩
  simp only[go_sem,simprocAttr,h33,acg];refine⟨λhc=>⟨hc,?_⟩,λhc=>?_⟩
  .obtain⟨x,hx⟩:=get_some hc;simp only[aw hx];have hin:AV.int .i64 (IntKind.i64.wrap ((i:Int)+1))= .int .i64 (i+1:Nat):=ag hc (by rw[au];omega);have hG:=dz (hm x (aco hx));have e1:fmI (dQ s) 0 (s.take (i+1))=fmI (dQ s) 0 (s.take i)++dQ s i x:=cZ hx;have hpl:(fmI (dQ s) 0 (s.take i)).length<=20000:=by
    have key: ∀j,j<=s.length->(fmI (dQ s) 0 (s.take j)).length<=j*600:=λj=>by
     induction j with
     |zero=>intro _;simp[fmI]
     |succ j ih=>
      intro hj;obtain⟨y,hy⟩:=get_some (show j<s.length by omega);have h1:=pW (s:=s) (i:=j) (hm y (aco hy)) hs24;have h2:=ih (by omega);rw[cZ hy,acm];omega
    have:=key i hi;omega
   rw[e1];generalize fmI (dQ s) 0 (s.take i)=pre at *;simp only[go_sem,simprocAttr,h33,bf,ay];refine aj.goes (by simp only[go_sem,simprocAttr]) (FT σ (C.st++[none]) id s a b (onE s) pre x.pkg.name true x.pkg.pre (hS2.more [none]) hG.pre.1 (by omega)) λr st1 ⟨b1,hS3⟩=>?_
   simp only[go_sem,simprocAttr,h33];have l1:=eT (name:=x.pkg.name) (pre:=true) (on:=onE s) (l:=x.pkg.pre);have l2:=eT (name:=x.pkg.name) (pre:=false) (on:=onE s) (l:=x.pkg.dep);have l3:=fb (kind:=2) (name:=x.pkg.name) (i:=i) (s:=s) (l:=x.pkg.con);have l4:x.pkg.con.length*s.length<=12*24:=acy hG.con.1 hs24;have g1:=hG.pre.1;have g2:=hG.dep.1;refine cc.at [3,6,7,31,32,33] (by kernel_rfl) (λA=>∃ b,WrS σ A.st id s a b (onE s) (pre++gV x.pkg.name true (onE s) x.pkg.pre++if x.k9=true then gV x.pkg.name false (onE s) x.pkg.dep else [])) (λh=>?_) (λh=>?_) λD ⟨b2,hS4⟩=>?_
   .simp only[go_sem,simprocAttr,h33,ay];refine aj.goes (by simp only[go_sem,simprocAttr]) (FT σ st1 id s a b1 (onE s) _ x.pkg.name false x.pkg.dep hS3 hG.dep.1 (by rw[acm];omega)) λr st2 ⟨b2,hS4⟩=>?_
    simp only[go_sem,simprocAttr,h33];rw[if_pos h];rw[aci]at hS4;exact⟨b2,hS4⟩
   .simp only[go_sem,simprocAttr,h33];rw[if_neg (by rw[h];simp),ack];exact⟨b1,hS3⟩
   have hol:(pre++gV x.pkg.name true (onE s) x.pkg.pre++if x.k9=true then gV x.pkg.name false (onE s) x.pkg.dep else []).length<=30000:=by
    simp only[acm];split
    .omega
    .simp only[acF];omega
   simp only[go_sem,simprocAttr,h33,ay];refine aj.goes (by simp only[go_sem,simprocAttr]) (xr σ D.st id s a b2 (onE s) _ i 2 x x.pkg.con hS4 hx hs24 hG.con.1 (by omega) (by omega)) λr st2 ⟨b3,hS5⟩=>?_
   simp only[go_sem,simprocAttr,h33,ay];refine aj.goes (by simp only[go_sem,simprocAttr]) (xr σ st2 id s a b3 (onE s) _ i 3 x x.pkg.brk hS5 hx hs24 hG.brk.1 (by rw[acm];omega) (by omega)) λr st3 ⟨b4,hS6⟩=>?_
   simp only[go_sem,simprocAttr,h33];refine⟨hc,b4,hin,?_⟩;unfold dQ;rw[<-aci,<-aci,<-aci];exact hS6
  .rw[ach hc]at hS2;exact⟨b,hS2⟩
 have hbb:=hS2.b 1 b 117 _ rfl rfl rfl;have hat:=hS2.at_;unfold IP at hat;simp only[go_sem,simprocAttr,ak hat,aO hat,hbb.ok,hbb.un];refine bu.ret ?_;simp only[go_sem,simprocAttr,hbb.ok,hbb.un];exact⟨_,.refl _,by rw[hidd];exact hS2.ext.le,hbb.bS,hS2.ext⟩
theorem vd :ri prog 117=some [1,2,3,1,2]:=by kernel_rfl
theorem PD (a b:nP):cI prog .neq 117 (du a) (du b)= .bool (!decide (a=b)):=by
 obtain⟨a1,a2,a3,a4,a5⟩:=a;obtain⟨b1,b2,b3,b4,b5⟩:=b;simp only[du,sc,o6 vd,uu,Cp,if_true,ade,acW,acD,nP.mk.injEq,Bool.and_true];congr 1;grind
theorem OL (a b:nP):cJ prog .neq 117 (du a) (du b)=True:=by
 simp[du,se,o6 vd,uu,Cp]
theorem yW (a b:List nP):ai prog W0 28 [gM a,gM b] (.bool (decide (a=b))):=by
 refine an [4] [] func28 rfl rfl ntmps28 rfl rfl (.bool _) λhs σ=>?_
 have hl:=(aQ (hs _ (acH ..))).1;have ho: ∀g x,okM g (du x)=True:=λg x=>eq_true trivial
 have hu: ∀x,unm (du x)=du x:=λx=>rfl
 simp only[go_sem,simprocAttr,gM,acg];refine⟨λh=>ar (decide_eq_false λe=>h (by rw[e])).symm,λh=>?_⟩;have hab:a.length=b.length:=by omega
 refine ae.upto [0,1,12] a.length (λi A=>A.env 13= .int .i64 i/\A.st=σ/\a.take i=b.take i) 0 (acn _) ?_ λi B hi ⟨h13,hst,hI⟩=>?_
 .simp only[go_sem,simprocAttr];simp
 simp only[go_sem,simprocAttr,h13,hst,acg];refine⟨λhc=>?_,λhc=>ar ?_⟩
 .obtain⟨x,hx⟩:=get_some hc;obtain⟨y,hy⟩:=get_some (show i<b.length by omega);simp only[go_sem,simprocAttr,h13,hst,acg,aw hx,aw hy,ho,hu,PD,OL];exact⟨.of (by kernel_rfl),hc,by omega,λhne=>ar (decide_eq_false (py hx hy hne)).symm,λe=>⟨hc,ag hc hl,ij hI hx (e▸hy)⟩⟩
 .rw[ach hc,ach (by omega)]at hI;exact(decide_eq_true hI).symm
def gD (o:qx):AV:=.agg 32 [.int .i64 (o.kind:Nat),aK o.want,lH o.steps,cp o.cost,gM o.SP]
end Go.Proofs.Tryz
end
section
namespace Go.Av
open Go.Proofs.Tryz
def EM (repo:List Pkg)(s:List aA):Bool:=
 gR 0 repo&&gR 0 (s.map (·.pkg))&&(decide ((c7 repo s).2≠0)||(HJ 60 (c7 repo s).1 1 0&&decide ((e8 (c7 repo s).1).length<=4)))
end Go.Av
end
section
namespace Go.Proofs.Tryz
open Go Go.Av
set_option maxRecDepth 10000
variable {W0 :World}
theorem YJ (l:List aM):ai prog W0 36 [bC l] (.bool (l.any λa=>a.kind==7)):=by
 refine an [2] [] func36 rfl rfl ntmps36 rfl rfl (.bool _) λhs σ=>?_
 simp only[go_sem,simprocAttr];refine aj.fn (A4 l 7) ?_;simp only[go_sem,simprocAttr]
 try exact .refl _
theorem UQ (repo:List Pkg)(s:List aA)(hp: ∀p∈repo,uE p)(hsp: ∀x∈s,uE x.pkg)(hsl:s.length<=733007751829):ai prog W0 10 [aL repo,aK s] (.bool (EM repo s)):=by
 refine an [4] [] func10 rfl rfl ntmps10 rfl rfl (.bool _) λhs σ=>?_
 simp only[go_sem,simprocAttr];refine aj.fn (Ar repo hp) ?_;simp only[go_sem,simprocAttr];have hbp: ∀p∈s.map (·.pkg),uE p:=λp hp2=>by
  grind
 refine aD.fnG (λ_=>QX s hsl) ?_;simp only[go_sem,simprocAttr];refine aD.fnG (λ_=>Ar (s.map (·.pkg)) hbp) ?_;simp only[go_sem,simprocAttr];refine⟨λhc=>?_,λhc=>?_⟩
 .have:EM repo s=false:=by
   grind [EM]
  rw[this];exact .refl _
 have hl:gR 0 repo=true/\gR 0 (s.map (·.pkg))=true:=by
  simp_all
 refine aj.fn (TQ repo s) ?_;simp only[go_sem,simprocAttr];refine aD.fnG (λ_=>Wm (c7 repo s).1 (by grind [FU]) 60 (by omega)) ?_;simp only[go_sem,simprocAttr];have h24:=FU repo s;refine aD.fnG (λ_=>zC (c7 repo s).1 (by omega)) ?_;simp only[go_sem,simprocAttr,acg];refine ar ?_;have e1:((c7 repo s).2 !=0)=decide ((c7 repo s).2≠0):=by rw[acx];simp
 have e2:decide ((((e8 (c7 repo s).1).length:Nat):Int)<=4)=decide ((e8 (c7 repo s).1).length<=4):=decide_eq_decide.2 (by omega);unfold EM;rw[hl.1,hl.2,e1,e2];rfl
end Go.Proofs.Tryz
end
section
namespace Go.Av
open Go.Proofs.Tryz
theorem Q1 {s:List aA}(h:bJ s=0)(i:Nat):aZ ((s.take i).map (·.pkg))=0:=by
 obtain⟨_,he⟩:=gk h;have hl:=gZ h;have hn:=gC h;have hd:pJ (s.map (·.pkg)):=by
  unfold pJ;rw[ada];rw[List.Nodup,ada]at hn;exact hn.imp λ{a b} e=>by
   unfold dE;rw[ac0];exact .inl (by simpa using e)
 refine xT (m:=s.map (·.pkg)) (adb _ (ac7 _ _)) (oZ (by rw[acg];omega) (λp hp=>?_) hd ?_)
 .obtain⟨x,hx,rfl⟩:=acr.1 hp;exact he x hx
 .have:=kl (dA (s.map (·.pkg)) []) ((s.map (·.pkg)).map (·.name)) (iM _ _ .nil) λn hn=>by
   rcases(jo _ _ n).1 hn with h|⟨p,hp,h⟩
   .cases h
   .exact acr.2 ⟨p,hp,h⟩
  rw[acg,acg]at this;omega
theorem OC {s:List aA}(hn:(s.map (·.pkg.name)).Nodup)(p:Pkg):(br (cO (s.map (·.pkg))) λq=>q.name==p.name&&bt q.ver p.ver).head?.isSome= !jL s p:=by
 rw[Fz,List.findIdx?_isSome,acx,acC];unfold jL;constructor
 .rintro⟨q,hq,h⟩;obtain⟨x,hx,rfl⟩:=acr.1 ((ey _).subset hq);rw[acv,beq_iff_eq]at h;have he:cF s p.name=some x:=by grind [mi]
  rw[he];simp[h.2]
 .intro h;cases he:cF s p.name with
  |none=>rw[he]at h;cases h
  |some x=>
   rw[he]at h;have h1:=acT he;have h2:=List.find?_some he;exact⟨x.pkg,(ey _).symm.subset (acP h1),by simp_all⟩
theorem LW {repo:List Pkg}{s:List aA}(h1:aZ repo=0)(h2:bJ s=0):c7 repo s=if aZ (dU repo s)=0 then(cO (dU repo s),0)else([],aZ (dU repo s)):=by
 obtain⟨_,hr⟩:=gU h1;obtain⟨_,he⟩:=gk h2;obtain⟨hd,_⟩:=fD h1;have hnm:=gC h2;have hmay: ∀p∈dU repo s,aS p=0:=λp hp=>by
  grind [dU]
 have hnd:pJ (dU repo s):=by
  refine List.pairwise_append.2 ⟨?_,adi List.filter_sublist hd,λp hp q hq=>?_⟩
  .grind [dE]
  .obtain⟨x,hx,rfl⟩:=acr.1 hp;grind [dE,mi]
 unfold c7;rw[if_neg (by omega),if_neg (by omega)];by_cases hc:24<(dU repo s).length\/10<(dA (dU repo s) []).length
 .have:aZ (dU repo s)=12:=by
   unfold aZ;by_cases h24:24<(dU repo s).length
   .rw[if_pos h24]
   .rw[if_neg h24,if_neg,if_neg,if_pos (hc.resolve_left h24)]
    .rw[(qQ _ _).2 ⟨by simp,hnd⟩];simp
    .rw[acJ,Ck];intro x hx;obtain⟨p,hp,rfl⟩:=acr.1 hx;exact hmay p hp
  rw[if_pos hc,this];rfl
 .rw[if_neg hc,if_pos];exact oZ (by omega) hmay hnd (by omega)
end Go.Av
end
section
namespace Go.Proofs.Tryz
open Go Go.Av
set_option maxRecDepth 10000
variable {W0 :World}
theorem Uq (i:Int):ai prog W0 67 [.int .i64 i] (.bool true):=by
 refine an [2] [] func67 rfl rfl ntmps67 rfl rfl (.bool _) λhs σ=>?_
 simp only[go_sem,simprocAttr]
 try exact .refl _
theorem Vl (l:List Pkg)(hl:l.length<=1024)(hm: ∀p∈l,aS p=0):ai prog W0 66 [fq l,.fn 67 []] (aL l):=by
 refine an [4] [7] func66 rfl rfl ntmps66 rfl rfl (kA _) λhs σ=>?_
 simp only[go_sem,simprocAttr];refine aj.fn (sv l) ?_;simp only[go_sem,simprocAttr];refine ae.at [] (λA=>∃ v,A.env 5=v/\aH σ A.st v 51 (l.map ay)) ?_ λB ⟨v,h5,hb⟩=>?_
 .refine ae.upto [0,1,10] l.length (λi A=>∃ v,A.env 5=v/\A.env 11= .int .i64 i/\aH σ A.st v 51 ((l.take i).map ay)) 0 (acn _) ?_ λi B hi ⟨v,h5,h11,hb⟩=>?_
  .simp only[go_sem,simprocAttr];exact⟨_,rfl,aH.nil (.refl _) _⟩
  simp only[go_sem,simprocAttr,h5,h11,hb.ok,hb.un];refine⟨λhc=>?_,λhc=>?_⟩
  .obtain⟨p,hp⟩:=get_some hc;refine aj.fn (Py l i hp (hm p (aco hp))) ?_;simp only[go_sem,simprocAttr,h5,h11,hb.ok,hb.un];refine aj.fn (Uq i) ?_;have hb1:=hb.more [none];simp only[go_sem,simprocAttr,h5,h11,hb.ok,hb.un];refine bq.own 1048576 (by kernel_rfl) hb1.bld (.lit _ _ _) (by simp;omega) λv' σ' ha'=>?_
   have hb':=hb1.app ha';simp only[go_sem,simprocAttr,h5,h11,hb'.ok,hb'.un];refine⟨hc,_,rfl,ag hc (by rw[au];omega),?_⟩;rw[ah hp,acj];exact hb'
  .rw[ach hc]at hb;exact⟨_,rfl,hb⟩
 simp only[go_sem,simprocAttr,h5,hb.ok,hb.un];exact⟨hb.bS,hb.ext⟩
theorem UP (repo:List Pkg)(s:List aA)(hp: ∀p∈repo,iT p)(hsp: ∀x∈s,iT x.pkg):ai prog W0 65 [aL repo,aK s] (.tup [if (c7 repo s).2=0 then fq (c7 repo s).1 else .nil,.int .i64 (c7 repo s).2]):=by
 refine an [4,5] [12,14] func65 rfl rfl ntmps65 rfl rfl (.qT (by split;exact Kp _;exact .nil) (.int _ _)) λhs σ=>?_
 simp only[go_sem,simprocAttr];refine aj.fn (pz repo hp) ?_;simp only[go_sem,simprocAttr];refine⟨λh1=>?_,λh1=>?_⟩
 .have:c7 repo s=([],aZ repo):=by unfold c7;rw[if_pos h1]
  rw[this,if_neg h1];exact .refl _
 refine aj.fn (p0 s hsp) ?_;simp only[go_sem,simprocAttr];refine⟨λh2=>?_,λh2=>?_⟩
 .have:c7 repo s=([],bJ s):=by unfold c7;rw[if_neg (by omega),if_pos h2]
  rw[this,if_neg h2];exact .refl _
 have hnm:=gC h2;have hel:=gZ h2;have h24:=dF h1;refine aj.fn ((sA [] (λ_ h=>by cases h)).bS (.cons (.aq _) .nil)) ?_;rw[if_pos (show aZ []=0 by decide)];simp only[go_sem,simprocAttr,aK,acg];refine ae.at [0] (λA=>∃ v,A.env 8=fq (cO (s.map (·.pkg)))/\A.env 10=v/\aH σ A.st v 51 ((s.map (·.pkg)).map ay)) ?_ λB ⟨v,h8,h10,hb⟩=>?_
 .refine ae.upto [0,31,32] s.length (λi A=>∃ v,A.env 33= .int .i64 i/\A.env 8=fq (cO ((s.take i).map (·.pkg)))/\A.env 10=v/\aH σ A.st v 51 (((s.take i).map (·.pkg)).map ay)) 0 (acn _) ?_ λi B hi ⟨v,h33,h8,h10,hb⟩=>?_
  .simp only[go_sem,simprocAttr];exact⟨_,rfl,rfl,aH.nil (.refl _) _⟩
  simp only[go_sem,simprocAttr,h33,acg];refine⟨λhc=>⟨hc,?_⟩,λhc=>?_⟩
  .obtain⟨x,hx⟩:=get_some hc;simp only[aw hx];have hb1:=hb.more [none];simp only[go_sem,simprocAttr,bf,h10,hb.ok,hb.un];refine bq.own 1048576 (by kernel_rfl) hb1.bld (.lit _ _ _) (by simp;omega) λv' σ' ha'=>?_
   have hb':=hb1.app ha';have e1:((s.take i).map (·.pkg)).map ay++[ay x.pkg]=((s.take (i+1)).map (·.pkg)).map ay:=by
    rw[ah hx,acj,acj];rfl
   rw[e1]at hb';simp only[go_sem,simprocAttr,hb'.ok,hb'.un];have hnew:=sA (W0:=W0) ((s.take (i+1)).map (·.pkg)) (λp hp=>by
    obtain⟨y,hy,rfl⟩:=acr.1 hp;exact hsp y (ac1 hy))
   rw[if_pos (Q1 h2 (i+1))]at hnew;refine aj.fn (hnew.bS (.cons hb'.bS .nil)) ?_;simp only[go_sem,simprocAttr,h33,hb'.ok,hb'.un];exact⟨hc,v',ag hc (by rw[au];omega),rfl,hb'⟩
  .rw[ach hc]at hb h8;exact⟨v,h8,h10,hb⟩
 simp only[go_sem,simprocAttr,h10,aL,acg];refine ae.at [] (λA=>∃ v,A.env 10=v/\aH σ A.st v 51 ((dU repo s).map ay)) ?_ λC ⟨v2,h10,hb2⟩=>?_
 .refine ae.upto [8,48,49] repo.length (λi A=>∃ v,A.env 50= .int .i64 i/\A.env 10=v/\aH σ A.st v 51 ((s.map (·.pkg)++(repo.take i).filter (jL s)).map ay)) 0 (acn _) ?_ λi C hi ⟨v2,h50,h10,hb2⟩=>?_
  .simp only[go_sem,simprocAttr];exact⟨v,h10,by simpa using hb⟩
  simp only[go_sem,simprocAttr,h50,acg];refine⟨λhc=>⟨hc,?_⟩,λhc=>?_⟩
  .obtain⟨p,hpi⟩:=get_some hc;simp only[aw hpi];have hlen:((repo.take i).filter (jL s)).length<=24:=Nat.le_trans (acL _ _) (by rw[acq];omega);have hb3:=hb2.more [none];have hin:AV.int .i64 (IntKind.i64.wrap ((i:Int)+1))= .int .i64 (i+1:Nat):=ag hc (by rw[au];omega);have hgo:(repo.take (i+1)).filter (jL s)=(repo.take i).filter (jL s)++(if jL s p=true then [p]else []):=by
    rw[ah hpi,acS,acE,acO]
   have hfi:=Kr (W0:=W0) (cO (s.map (·.pkg))) (by rw[(ey _).length_eq,acg];omega) p.name p.ver;rw[OC hnm p]at hfi;simp only[go_sem,simprocAttr,h8,ay];refine aj.fn hfi ?_;simp only[go_sem,simprocAttr,h50,h10];rw[hgo];refine⟨λh=>?_,λh=>?_⟩
   .simp only[go_sem,simprocAttr,h50,h10,hb2.ok,hb2.un];refine bq.own 1048576 (by kernel_rfl) hb3.bld (.lit _ _ _) (by simp only[acg,acm,acX,acF];omega) λv' σ' ha'=>?_
    have hb':=hb3.app ha';simp only[go_sem,simprocAttr,h50,hb'.ok,hb'.un];refine⟨hc,_,hin,rfl,?_⟩;rw[if_pos (by simpa using h),<-aci,acj];exact hb'
   .refine⟨hc,_,hin,rfl,?_⟩;rw[if_neg (by simpa using h),ack];exact hb3
  .rw[ach hc]at hb2;exact⟨v2,h10,hb2⟩
 simp only[go_sem,simprocAttr,h10,hb2.ok,hb2.un];have hnew:=sA (W0:=W0) (dU repo s) (λp h=>by
  rw[Ga]at h;rcases adf.1 h with h|h
  .obtain⟨y,hy,rfl⟩:=acr.1 h;exact hsp y hy
  .exact hp p (acY.1 h).1)
 refine aj.fn (hnew.bS (.cons hb2.bS .nil)) ?_;rw[LW h1 h2];by_cases hj:aZ (dU repo s)=0
 .simp only[if_pos hj];simp only[go_sem,simprocAttr];exact hb2.ext
 .simp only[if_neg hj];simp only[go_sem,simprocAttr];exact hb2.ext
theorem X5 (repo:List Pkg)(s:List aA)(hp: ∀p∈repo,iT p)(hsp: ∀x∈s,iT x.pkg):ai prog W0 33 [aL repo,aK s] (.tup [aL (c7 repo s).1,.int .i64 (c7 repo s).2]):=by
 refine an [4,5] [] func33 rfl rfl ntmps33 rfl rfl (.qT (kA _) (.int _ _)) λhs σ=>?_
 simp only[go_sem,simprocAttr];refine aj.fn (UP repo s hp hsp) ?_;by_cases h:(c7 repo s).2=0
 .obtain⟨h1,_,_,_⟩:=Cz h;have hl:=dF h1;simp only[if_pos h];simp only[go_sem,simprocAttr,h];refine aj.fn (Vl (c7 repo s).1 (by omega) λp hp=>dT h1 hp) ?_;simp only[go_sem,simprocAttr];rw[h];exact .refl _
 .simp only[if_neg h];have e:(c7 repo s).1=[]:=by
   unfold c7 at h ⊢;grind
  simp only[go_sem,simprocAttr];refine⟨λ_=>?_,λh2=>absurd h2 h⟩;rw[e];exact dh (.sub (.aq _)) (.refl _)
end Go.Proofs.Tryz
end
section
namespace Go.Av
open Go.Proofs.Tryz
theorem JG {all:List Pkg}{s:List aA}{l:List aM}{i:Nat}{x:FB}(h:(e5 all s l)[i]?=some x):x.1.length=5:=by
 have:=M1 (all:=all) (s:=s) (l:=l) i;rw[h]at this;exact this
theorem TJ {s:List aA}{t:List Pkg}(h:(ig s t).2=0):bJ s=0/\aZ t=0/\(t.map (·.name)).Nodup:=by
 unfold ig at h;split at h
 .exact absurd h ‹_›
 .split at h
  .exact absurd h ‹_›
  .split at h
   .cases h
   .exact⟨acJ.1 ‹_›,acJ.1 ‹_›,acJ.1 ‹_›⟩
end Go.Av
end
section
namespace Go.Proofs.Tryz
open Go Go.Av
set_option maxRecDepth 10000
set_option maxHeartbeats 2000000
variable {W0 :World}
theorem GW {all:List Pkg}{held:List aA}{t:List Pkg}(hs:nR all)(ht:t.Sublist all):tH (dt t held):=λi x y hx hy=>by
 have h1:t.Pairwise λp q=>gF p q<=0:=hs.sublist ht
 unfold dt at hx hy;rw[acw]at hx hy;obtain⟨p,hp,rfl⟩:=acK.1 hx;obtain⟨q,hq,rfl⟩:=acK.1 hy;obtain⟨hi,rfl⟩:=acf.1 hp;obtain⟨hj,rfl⟩:=acf.1 hq;have h2:=acU.1 h1 i (i+1) hi hj (by omega);have h3:=zG t[i].name t[i+1].name;unfold gF at h2
 dsimp only
 split at h2<;>omega
def VE (k:Int):AV:=.agg 32 [.int .i64 k,.aq,.aq,.agg 29 [.int .i64 0,.int .i64 0,.int .i64 0,.int .i64 0,.int .i64 0],.aq]
theorem oF (k:Nat):dj (VE k) (gD (iV k)):=.sub (.agg rfl λi a b ha hb=>by
 match i,ha,hb with
 |0,ha,hb=>cases ha;cases hb;exact .refl _
 |1,ha,hb=>cases ha;cases hb;exact .aq _
 |2,ha,hb=>cases ha;cases hb;exact .aq _
 |3,ha,hb=>cases ha;cases hb;exact .refl _
 |4,ha,hb=>cases ha;cases hb;exact .aq _)
theorem UL (o:qx):aW 0 (gD o):=.agg λy hy=>by
 simp at hy;rcases hy with rfl|rfl|rfl|rfl|rfl
 .exact .int _ _
 .exact qP _
 .exact zE _
 .refine .agg λx hx=>?_
  obtain⟨z,_,rfl⟩:=acr.1 hx;exact .int _ _
 .exact tu _
theorem eF.more {σ:ab}{id:Nat}{all:List Pkg}{s:List aA}{l:List aM}{bud:Int}{st:SSt}(h:eF σ id all s l bud st)(τ:ab):eF (σ++τ) id all s l bud st:=by
 have g: ∀{o:Option bH},σ[id]?=some o->(σ++τ)[id]?=some o:=λh=>by
  rw[acp (acf.1 h).1];exact h
 cases st with
 |fresh=>exact g h
 |run o=>
  obtain⟨h0,⟨v,h1,h2⟩,h3⟩:=h;exact⟨h0,⟨v,g h1,h2.nK (e7.app _ _)⟩,h3⟩
 |fail=>
  obtain⟨h0,h1,v,h2⟩:=h;exact⟨h0,h1,v,g h2⟩
theorem Iy (hW:qM W0)(σ:ab)(id:Nat)(all:List Pkg)(s held:List aA)(l:List aM)(bud:Int)(hH:L0 all s l)(hb0:0<=bud)(hbm:bud<=1000000)(hst:eF σ id all s l bud .fresh)(hh: ∀x∈held,iT x.pkg):
  aP prog W0 38 [.ptr 143 id 0 [],aK held] σ λr σ'=>r=gD (if l0 all s l bud=true then iV 5 else eA all held false (e5 all s l))/\Fr [id] σ σ':=by
 have hidl:id<σ.length:=(acf.1 hst).1;refine jH [.cell 4 32] [7] func38 rfl rfl ntmps38 rfl rfl λhs=>?_
 have hz:(zeroOf prog 32).isSome=true:=by kernel_rfl
 simp only[go_sem,simprocAttr];obtain⟨Z,hZ⟩: ∃Z:Option bH,Z=some (.cells 32 [.agg 32 [.int .i64 0,.aq,.aq,.agg 29 [.int .i64 0,.int .i64 0,.int .i64 0,.int .i64 0,.int .i64 0],.aq]]):=⟨_,rfl⟩;rw[<-hZ];refine ae.cB [0,1,4] (λn A=>∃ i,n=(e5 all s l).length-i/\i<=(e5 all s l).length/\A.env 5= .bool (decide (0<i))/\eF A.st id all s l bud (yn all s l bud i)/\Fr [id] σ A.st/\A.st[σ.length]?=some Z/\(0<i->l0 all s l bud=false)/\eA all held (decide (0<i)) ((e5 all s l).drop i)=eA all held false (e5 all s l)) ((e5 all s l).length) ?_ λn B ⟨i,hn,hil,h5,hS,hF,hz0,hfi,hR⟩=>?_
 .simp only[go_sem,simprocAttr];exact⟨0,by omega,by omega,by simp,hst.more _,.ext ((Ext.refl _).app _),λh=>by omega,by simp⟩
 have hnx:=Wj hW B.st id all s l bud (yn all s l bud i) hH hb0 (by omega) hS;rw[Sh]at hnx;simp only[go_sem,simprocAttr,h5];refine aj.goes (by simp only[go_sem,simprocAttr]) hnx λr st1 ⟨hr,hfr,hS1⟩=>?_
 subst hr;have hcf: ∀c,bb prog 29 (cp c)=true:=λc=>by kernel_rfl
 have hzl:σ.length<B.st.length:=(acf.1 hz0).1;have hz1:(st1++[none])[σ.length]?=some (some (.cells 32 [.agg 32 [.int .i64 0,.aq,.aq,.agg 29 [.int .i64 0,.int .i64 0,.int .i64 0,.int .i64 0,.int .i64 0],.aq]])):=by
  have h1:st1[σ.length]?=some Z:=by rw[hfr.old _ hzl (by simp;omega),hz0]
  rw[acp (acf.1 h1).1,h1,hZ]
 have hz1l:=(acf.1 hz1).1;have hsl: ∀o:Option bH,((st1++[none]).set σ.length o)[σ.length]?=some o:=λo=>acu hz1l
 have hF1:Fr [id] σ (st1++[none]):=(hF.trans hfr λj hj=>.inl hj).app _;have hF2: ∀o,Fr [id] σ ((st1++[none]).set σ.length o):=λo=>hF1.set (.inr (acM _)) o
 by_cases hfb:l0 all s l bud=true
 .rw[TU hfb];simp only[go_sem,simprocAttr,F8,hcf,ak hz1,aC hz1];refine cW.ret ?_;simp only[go_sem,simprocAttr,ak (hsl _),gP];rw[if_pos hfb];exact⟨_,oF 5,(hF2 _).len,rfl,hF2 _⟩
 .have hfb':l0 all s l bud=false:=by simpa using hfb
  rw[XQ hfb',if_neg hfb];cases hx:(e5 all s l)[i]? with
  |none=>
   have hil2:i=(e5 all s l).length:=by
    have:=List.getElem?_eq_none_iff.1 hx;omega
   rw[List.drop_of_length_le (by omega)]at hR;simp only[go_sem,simprocAttr,F8,h5,hcf,ak hz1,aC hz1];rw[<-hR];refine⟨λh=>cW.ret ?_,λh=>cW.ret ?_⟩
   .simp only[go_sem,simprocAttr,ak (hsl _),gP];rw[decide_eq_true h];exact⟨_,oF 3,(hF2 _).len,rfl,hF2 _⟩
   .simp only[go_sem,simprocAttr,ak (hsl _),gP];rw[decide_eq_false (by omega)];exact⟨_,oF 2,(hF2 _).len,rfl,hF2 _⟩
  |some x=>
   have hdr:(e5 all s l).drop i=x::(e5 all s l).drop (i+1):=by
    have hlt:=(acf.1 hx).1;rw[List.drop_eq_getElem_cons hlt,(acf.1 hx).2]
   rw[hdr,eA]at hR;have hlt:=(acf.1 hx).1;simp only[go_sem,simprocAttr,F8,h5,kj,hcf,ak hz1,aC hz1];have hsub:=xx all x.2;refine aj.fn (Vm held (fT all x) hh λp hp=>hH.hmn p (hsub.subset hp)) ?_;simp only[go_sem,simprocAttr,RN,ak hz1,aC hz1];refine⟨λhe=>?_,λhe=>?_⟩
   .obtain⟨g1,g2,g3⟩:=TJ he;rw[if_pos he]at hR;have hsrt:nR all:=by rw[hH.ho];exact kp (fD hH.h0).2
    have hwh:=Rp (W0:=W0) (fT all x) held (gU g2).2 (by have:=sy g2 g3;omega) (GW hsrt hsub);refine⟨.of (by kernel_rfl),aD.go hwh ?_⟩;have hso: ∀l,okM none (lH l)=True:=λl=>eq_true trivial
    have hsu: ∀l,unm (lH l)=lH l:=λl=>rfl
    have f1: ∀l,bb prog 22 (aK l)=true:=λl=>by kernel_rfl
    have f2: ∀l,bb prog 27 (lH l)=true:=λl=>by kernel_rfl
    simp only[go_sem,simprocAttr,ak hz1,aC hz1,hso,hsu,f1,f2,hcf];refine cW.ret ?_;simp only[go_sem,simprocAttr,ak (hsl _),gP];rw[<-hR];refine⟨gD ⟨1,dt (fT all x) held,(ig held (fT all x)).1,x.1,[]⟩,.sub (.agg rfl λi a b ha hb=>?_),(hF2 _).len,rfl,hF2 _⟩
    match i,ha,hb with
    |0,ha,hb=>cases ha;cases hb;exact .refl _
    |1,ha,hb=>cases ha;cases hb;exact .refl _
    |2,ha,hb=>cases ha;cases hb;exact .refl _
    |3,ha,hb=>cases ha;cases hb;exact .refl _
    |4,ha,hb=>cases ha;cases hb;exact .aq _
   .rw[if_neg he]at hR;refine .here ((e5 all s l).length-(i+1)) (by omega) ⟨i+1,rfl,by omega,?_⟩;simp only[go_sem,simprocAttr];exact⟨hS1.more _,hF1,by rw[hZ];exact hz1,hfb',hR⟩
theorem sT (hW:qM W0)(repo:List Pkg)(s:List aA)(l:List aM)(bud:Int)(hp: ∀p∈repo,iT p)(hsp: ∀x∈s,iT x.pkg)(hb0:0<=bud)(hbm:bud<=1000000):ai prog W0 12 [aK s,aL repo,bC l,.int .i64 bud] (.tup [gD (cg repo s l bud).1,.int .i64 (cg repo s l bud).2]):=by
 refine .I4 (.qT (UL _) (.int _ _)) λσ=>?_
 refine jH [.cell 8 32,.tmp 9] [] func12 rfl rfl ntmps12 rfl rfl λhs=>?_
 have hz0:(σ++[some (bH.cells 32 [VE 0])])[σ.length]?=some (some (.cells 32 [VE 0])):=by simp
 unfold VE at hz0;have hxz: ∀o,Ext σ (σ++[o]):=λo=>(Ext.refl _).app _
 simp only[go_sem,simprocAttr];refine aj.fn (X5 repo s hp hsp) ?_;simp only[go_sem,simprocAttr,ak hz0,aC hz0];refine⟨λh1=>cW.ret ?_,λh1=>?_⟩
 .have e:cg repo s l bud=(iV 0,(c7 repo s).2):=by unfold cg;rw[if_pos h1]
  simp only[go_sem,simprocAttr,gP];rw[e];exact⟨_,.refl _,by omega,dh (oF 0) (.refl _),hxz _⟩
 refine aj.fn (OJ l) ?_;simp only[go_sem,simprocAttr,ak hz0,aC hz0];refine⟨λh2=>cW.ret ?_,λh2=>?_⟩
 .have e:cg repo s l bud=(iV 0,dH l):=by unfold cg;rw[if_neg (by omega),if_pos h2]
  simp only[go_sem,simprocAttr,gP];rw[e];exact⟨_,.refl _,by omega,dh (oF 0) (.refl _),hxz _⟩
 obtain⟨k1,k2,k3,k4⟩:=Cz h1;have hmn: ∀p∈(c7 repo s).1,iT p:=by
  grind [c7,dU,ey]
 have hent:=(gk k4).2;have hel:=gZ k4;have hH:L0 (c7 repo s).1 s l:=⟨k1,(vZ k2).symm,hmn,hel,⟨(Vr h2).2.2.2,gC k4,λx hx=>⟨x.pkg,k3 x hx,rfl⟩⟩⟩;have hnew:nS (c7 repo s).1 s l=0:=by
  have hin:(s.any λx=>!(c7 repo s).1.any λp=>decide (p=x.pkg))=false:=by
   simp_all
  grind [nS,vZ]
 refine aj.fn (Q4 s hent (by omega)) ?_;simp only[go_sem,simprocAttr,gM,acg];refine aD.fnG (λ_=>YJ l) ?_;simp only[go_sem,simprocAttr,ak hz0,aC hz0];have hq:(decide ((0:Int)<((fH s).length:Nat))&& !l.any λa=>a.kind==7)=decide (fH s≠[]/\(l.any λa=>a.kind==7)=false):=by
  rw[acx];simp only[acv,decide_eq_true_eq,ac9];cases fH s<;>simp
 rw[hq];refine⟨λh3=>cW.ret ?_,λh3=>?_⟩
 .have h3':=of_decide_eq_true h3;have e:cg repo s l bud=(⟨4,[],[],[0,0,0,0,0],fH s⟩,0):=by unfold cg;rw[if_neg (by omega),if_neg (by omega),if_pos h3']
  simp only[go_sem,simprocAttr,gP];rw[e];refine⟨_,.refl _,by omega,dh (.sub (.agg rfl λi a b ha hb=>?_)) (.refl _),hxz _⟩
  match i,ha,hb with
  |0,ha,hb=>cases ha;cases hb;exact .refl _
  |1,ha,hb=>cases ha;cases hb;exact .aq _
  |2,ha,hb=>cases ha;cases hb;exact .aq _
  |3,ha,hb=>cases ha;cases hb;exact .refl _
  |4,ha,hb=>cases ha;cases hb;exact .refl _
 have h3':=of_decide_eq_false h3;have e:cg repo s l bud=(if l0 (c7 repo s).1 s l bud=true then iV 5 else eA (c7 repo s).1 (s.map (gG l)) false (e5 (c7 repo s).1 s l),0):=by
  unfold cg;rw[if_neg (by omega),if_neg (by omega),if_neg h3'];split<;>rfl
 refine aj.goes (by simp only[go_sem,simprocAttr]) (YS (σ++[some (.cells 32 [.agg 32 [.int .i64 0,.aq,.aq,.agg 29 [.int .i64 0,.int .i64 0,.int .i64 0,.int .i64 0,.int .i64 0],.aq]])]) (c7 repo s).1 s l bud hmn hsp) λr st1 ⟨hx,hr⟩=>?_
 rcases hr with⟨h,_⟩|⟨_,id,rfl,hid,hob⟩
 .exact absurd hnew h
 rw[Mf hH.hU.asks]at hob;rw[acm]at hid;have hz1:st1[σ.length]?=some (some (.cells 32 [.agg 32 [.int .i64 0,.aq,.aq,.agg 29 [.int .i64 0,.int .i64 0,.int .i64 0,.int .i64 0,.int .i64 0],.aq]])):=by
  exact Ext.keep hx hz0
 simp only[go_sem,simprocAttr];refine aj.fn (Kl l s hent (by omega)) ?_;simp only[go_sem,simprocAttr];refine aj.goes (by simp only[go_sem,simprocAttr]) (Iy hW st1 id (c7 repo s).1 s (s.map (gG l)) l bud hH hb0 hbm hob λx hx=>by
  obtain⟨y,hy,rfl⟩:=acr.1 hx;exact hsp y hy) λr st2 ⟨hr,hfr⟩=>?_
 subst hr;have hz2:st2[σ.length]?=some (some (.cells 32 [.agg 32 [.int .i64 0,.aq,.aq,.agg 29 [.int .i64 0,.int .i64 0,.int .i64 0,.int .i64 0,.int .i64 0],.aq]])):=by
  rw[hfr.old _ (acf.1 hz1).1 (by simp at hid ⊢;omega)];exact hz1
 have ho: ∀o:qx,okM none (gD o)=True:=λo=>eq_true trivial
 have hu: ∀o:qx,unm (gD o)=gD o:=λo=>rfl
 have hf: ∀o:qx,bb prog 32 (gD o)=true:=λo=>by kernel_rfl
 simp only[go_sem,simprocAttr,ak hz2,aC hz2,ho,hu,hf];refine cW.ret ?_;have hil2:=(acf.1 hz2).1;have hsl: ∀o:Option bH,(st2.set σ.length o)[σ.length]?=some o:=λo=>acu hil2
 simp only[go_sem,simprocAttr,ak (hsl _),gP];rw[e];have hx1:Ext σ st1:=Ext.low hx;have hx2:Ext σ st2:=hfr.tM hx1 λj hj=>by
  rw[acz.1 hj];omega
 have hx3:=λo:Option bH=>hx2.set (acM _) o
 exact⟨_,.refl _,(hx3 _).le,.refl _,hx3 _⟩
def cwA :Pkg:=⟨[97,97],[49],[],[[⟨[98,98],0,[]⟩]],[],[],[],[],false⟩
def cwB :Pkg:=⟨[98,98],[49],[],[],[],[],[],[],false⟩
def cwL :List Pkg:=[cwA,cwB]
def cwQ :List aM:=[⟨1,[97,97],[]⟩]
theorem Yg : ∀p∈cwL,iT p:=λp hp=>by
 simp[cwL]at hp;rcases hp with rfl|rfl<;>exact⟨by decide,by decide,by decide⟩
theorem abE :(cg cwL [] cwQ 0).2=0/\(cg cwL [] cwQ 0).1.kind=1/\(cg cwL [] cwQ 0).1.steps.length=4/\(cg cwL [] cwQ 0).1.cost=[0,0,0,2,0]:=by decide+kernel
theorem sZ (hW:qM W0):ai prog W0 11 [] (.bool true):=by
 refine an [0] [1] func11 rfl rfl ntmps11 rfl rfl (.bool _) λhs σ=>?_
 simp only[go_sem,simprocAttr];refine aj.fn ((sT hW cwL [] cwQ 0 Yg (λx hx=>by cases hx) (by decide) (by decide)).bS (.cons (.aq _) (.cons (.sub (ji (n:=10) (by kernel_rfl))) (.cons (.sub (ji (n:=10) (by kernel_rfl))) (.cons (.refl _) .nil))))) ?_;obtain⟨d1,d2,d3,d4⟩:=abE;generalize cg cwL [] cwQ 0=d at *;have hco1: ∀g c,okM g (cp c)=True:=λg c=>eq_true trivial
 have hco2: ∀c,unm (cp c)=cp c:=λc=>rfl
 have q1:cJ prog .eql 29 (cp d.1.cost) (.agg 29 [.int .i64 0,.int .i64 0,.int .i64 0,.int .i64 2,.int .i64 0])=True:=by
  rw[d4];exact Qh (a:=[0,0,0,2,0]) (b:=[0,0,0,2,0]) rfl rfl
 have q2:cI prog .eql 29 (cp d.1.cost) (.agg 29 [.int .i64 0,.int .i64 0,.int .i64 0,.int .i64 2,.int .i64 0])= .bool true:=by
  rw[d4];exact O5 (a:=[0,0,0,2,0]) (b:=[0,0,0,2,0]) rfl rfl
 simp only[go_sem,simprocAttr,gD,lH,acg,d1,d2,d3,q1,q2,hco1,hco2]
end Go.Proofs.Tryz
end
section
namespace Go.Av
open Go.Proofs Go.Proofs.Tryz
theorem xm {all:List Pkg}{s:List aA}{l:List aM}(held:List aA): ∀(r:List FB) (b:Bool),(∀x∈r,x.1.length=5)->(eA all held b r).cost.length=5
 |[],b,_=>by cases b<;>rfl
 |x::r,b,h=>by
  rw[eA];split
  .exact h x (acH ..)
  .exact xm (s:=s) (l:=l) held r true λy hy=>h y (acN _ hy)
theorem tL (repo:List Pkg)(s:List aA)(l:List aM)(bud:Int):(cg repo s l bud).1.cost.length=5:=by
 unfold cg;split
 .rfl
 split
 .rfl
 split
 .rfl
 split
 .rfl
 exact xm (s:=s) (l:=l) _ _ _ λx hx=>by
  obtain⟨i,hi⟩:=List.getElem?_of_mem hx;exact JG hi
theorem Vf {repo:List Pkg}{s:List aA}(h:EM repo s=true):(∀p∈repo,iT p)/\ ∀x∈s,iT x.pkg:=by
 unfold EM at h;simp only[acv]at h;exact⟨zB h.1.1,λx hx=>zB h.1.2 _ (acP hx)⟩
end Go.Av
end
section
namespace Go.Proofs.Tryz
open Go Go.Av
set_option maxRecDepth 10000
set_option maxHeartbeats 2000000
variable {W0 :World}
end Go.Proofs.Tryz
end
section
namespace Go.Av
open Go.Proofs Go.Proofs.Tryz
structure WrB (s:List aA):Prop where
 len:s.length<=26
 pk: ∀x∈s,x.pkg.pre.length<=14/\x.pkg.dep.length<=14/\x.pkg.con.length<=40/\x.pkg.brk.length<=40
theorem xE : ∀{l:List Pkg} {i:Nat},gR i l=true->i<=26->i+l.length<=26/\ ∀p∈l,p.pre.length<=14/\p.dep.length<=14/\p.con.length<=40/\p.brk.length<=40
 |[],i,_,h=>⟨h,by simp⟩
 |p::r,i,h,hi=>by
  rw[gR,acv]at h;have h1:=h.1;unfold qg at h1;simp only[List.all_cons,sV,acv,decide_eq_true_eq]at h1;obtain⟨a,b⟩:=xE h.2 (by omega);refine⟨by rw[acX];omega,λq hq=>?_⟩;rcases List.mem_cons.1 hq with rfl|hq
  .omega
  .exact b q hq
theorem Rb {s:List aA}(h:gR 0 (s.map (·.pkg))=true):WrB s:=by
 obtain⟨a,b⟩:=xE h (by omega);rw[acg]at a;exact⟨by omega,λx hx=>b x.pkg (acP hx)⟩
theorem pW {s:List aA}{i:Nat}{x:aA}(h:s.length<=26)(hx:x.pkg.pre.length<=14/\x.pkg.dep.length<=14/\x.pkg.con.length<=40/\x.pkg.brk.length<=40):(dQ s i x).length<=2200:=by
 unfold dQ;have h1:=eT (name:=x.pkg.name) (pre:=true) (on:=onE s) (l:=x.pkg.pre);have h2:=eT (name:=x.pkg.name) (pre:=false) (on:=onE s) (l:=x.pkg.dep);have h3:=fb (kind:=2) (name:=x.pkg.name) (i:=i) (s:=s) (l:=x.pkg.con);have h4:=fb (kind:=3) (name:=x.pkg.name) (i:=i) (s:=s) (l:=x.pkg.brk);have h5:x.pkg.con.length*s.length<=40*26:=acy hx.2.2.1 h;have h6:x.pkg.brk.length*s.length<=40*26:=acy hx.2.2.2 h;rw[acm,acm,acm];split
 .omega
 .rw[acF];omega
theorem MO {s:List aA}(h:WrB s)(i:Nat):(fmI (dQ s) 0 (s.take i)).length<=57200:=by
 have: ∀(l:List aA) (b:Nat),(∀x∈l,x∈s)->(fmI (dQ s) b l).length<=l.length*2200:=λl=>by
  induction l with
  |nil=>intro b _;simp[fmI]
  |cons x r ih=>
   intro b hm;have h1:=ih (b+1) λy hy=>hm y (acN _ hy)
   have h2:=pW (i:=b) h.len (h.pk x (hm x (acH ..)));rw[fmI,acm,acX,Nat.add_mul,Nat.one_mul];omega
 have h1:=this (s.take i) 0 λx hx=>ac1 hx
 have h2:=h.len;rw[acq]at h1;omega
end Go.Av
end
section
namespace Go.Proofs.Tryz
open Go Go.Av
set_option maxRecDepth 10000
set_option maxHeartbeats 4000000
variable {W0 :World}
theorem z7 (s:List aA)(hs0:WrB s):ai prog W0 27 [aK s] (gM (fH s)):=by
 refine an [2] [5,8,15,17,19,21] func27 rfl rfl ntmps27 rfl rfl (tu _) λhs σ=>?_
 have hmx:=au;have h26:=hs0.len;simp only[go_sem,simprocAttr,aK,acg];refine ae.at [0] (λA=>∃ v,A.env 3=v/\aH σ A.st v 51 ((onE s).map ay)) ?_ λB0 ⟨v3,h3,hb3⟩=>?_
 .refine ae.upto [0,22,23] s.length (λi A=>∃ v,A.env 3=v/\A.env 24= .int .i64 i/\aH σ A.st v 51 ((onE (s.take i)).map ay)) 0 (acn _) ?_ λi B hi ⟨v,h3,h24,hb⟩=>?_
  .simp only[go_sem,simprocAttr];exact⟨_,rfl,aH.nil (.refl _) _⟩
  simp only[go_sem,simprocAttr,h3,h24,hb.ok,hb.un,acg];refine⟨λhc=>⟨hc,?_⟩,λhc=>?_⟩
  .obtain⟨x,hx⟩:=get_some hc;simp only[aw hx];have hb1:=hb.more [none];simp only[go_sem,simprocAttr,bf,h3,h24,hb1.ok,hb1.un];have e0:onE (s.take (i+1))=onE (s.take i)++onE [x]:=by
    unfold onE;rw[ah hx,acS,acj]
   have hl:(onE (s.take i)).length<=26:=by
    unfold onE;have:=acL (·.k9) (s.take i);rw[acq]at this;rw[acg];omega
   refine⟨λhv=>?_,λhv=>?_⟩
   .refine bq.own 1048576 (by kernel_rfl) hb1.bld (.lit _ _ _) (by simp;omega) λv' σ' ha'=>?_
    have hb':=hb1.app ha';simp only[go_sem,simprocAttr,h3,h24,hb'.ok,hb'.un];refine⟨hc,_,rfl,ag hc (by omega),?_⟩;rw[e0,acj];simp only[onE,acE,hv,if_true,acO,ac4,adh];exact hb'
   .refine⟨hc,_,rfl,ag hc (by omega),?_⟩;rw[e0];simp only[onE,acE,hv,acO,adh,ack,Bool.false_eq_true,if_false];exact hb1
  .rw[ach hc]at hb;exact⟨_,rfl,hb⟩
 generalize hon:onE s=on at *;simp only[go_sem,simprocAttr,aK,acg];refine ae.at [] (λA=>∃ v,A.env 6=v/\aH σ A.st v 117 ((fH s).map du)) ?_ λB0 ⟨v,h6,hb⟩=>?_
 .refine ae.upto [0,3,36,37] s.length (λi A=>∃ v,A.env 6=v/\A.env 38= .int .i64 i/\aH σ A.st v 117 ((fmI (dQ s) 0 (s.take i)).map du)) 0 (acn _) ?_ λi B hi ⟨v,h6,h38,hb⟩=>?_
  .simp only[go_sem,simprocAttr];exact⟨_,rfl,aH.nil hb3.ext _⟩
  simp only[go_sem,simprocAttr,h3,h6,h38,hb3.ok,hb3.un,hb.ok,hb.un,acg];refine⟨λhc=>⟨hc,?_⟩,λhc=>?_⟩
  .obtain⟨x,hx⟩:=get_some hc;simp only[aw hx];obtain⟨x1,x2,x3,x4⟩:=hs0.pk x (aco hx);have eW:fmI (dQ s) 0 (s.take (i+1))=fmI (dQ s) 0 (s.take i)++dQ s i x:=cZ hx;have hbase:=MO hs0 i;have eX:dQ s i x=gV x.pkg.name true on x.pkg.pre++(if x.k9=true then gV x.pkg.name false on x.pkg.dep else [])++jb 2 x.pkg.name i s x.pkg.con++jb 3 x.pkg.name i s x.pkg.brk:=by
    unfold dQ;rw[hon]
   rw[eW,eX];generalize fmI (dQ s) 0 (s.take i)=base at *;have hb1:=hb.more [none];simp only[go_sem,simprocAttr,bf,ay,h3,h6,hb1.ok,hb1.un,aB,acg];refine ae.at [0,3,7,8,9,36,37,38] (λA=>∃ v,A.env 6=v/\aH σ A.st v 117 ((base++gV x.pkg.name true on x.pkg.pre).map du)) ?_ λC1 ⟨v,h6,hb⟩=>?_
   .refine ae.upto [0,3,7,8,9,36,37,38,48,49] x.pkg.pre.length (λk A=>∃ v,A.env 6=v/\A.env 50= .int .i64 k/\aH σ A.st v 117 ((base++fmI (eR x.pkg.name true on) 0 (x.pkg.pre.take k)).map du)) 0 (acn _) ?_ λk C hk ⟨v,h6,hcn,hb⟩=>?_
    .simp only[go_sem,simprocAttr,h6];refine⟨_,rfl,?_⟩;rw[acB,fmI,ack]
     first|exact hb1|exact hb
    simp only[go_sem,simprocAttr,h3,h6,hcn,hb3.ok,hb3.un,hb.ok,hb.un,acg];refine⟨λhc2=>⟨hc2,?_⟩,λhc2=>?_⟩
    .obtain⟨c,hci⟩:=get_some hc2;simp only[aw hci];simp only[go_sem,simprocAttr,h3,h6,hcn,hb3.ok,hb3.un,hb.ok,hb.un];refine aj.fn ((KW c on).bS (.cons (.refl _) (.cons hb3.bS .nil))) ?_;simp only[go_sem,simprocAttr,h3,h6,hcn,hb3.ok,hb3.un,hb.ok,hb.un];have e1:fmI (eR x.pkg.name true on) 0 (x.pkg.pre.take (k+1))=fmI (eR x.pkg.name true on) 0 (x.pkg.pre.take k)++eR x.pkg.name true on k c:=cZ hci;have hlen:(fmI (eR x.pkg.name true on) 0 (x.pkg.pre.take k)).length<=14:=by
      have:=eT (name:=x.pkg.name) (pre:=true) (on:=on) (l:=x.pkg.pre.take k);unfold gV at this;rw[acq]at this;omega
     rw[e1];generalize fmI (eR x.pkg.name true on) 0 (x.pkg.pre.take k)=q at *;refine⟨λh=>?_,λh=>⟨hc2,_,rfl,ag hc2 (by omega),?_⟩⟩
     .refine bq.own 1048576 (by kernel_rfl) hb.bld (.lit _ _ _) (by simp;omega) λv' σ' ha'=>?_
      have hb':=hb.app ha';simp only[go_sem,simprocAttr,h6,hcn,hb'.ok,hb'.un];refine⟨hc2,_,rfl,ag hc2 (by omega),?_⟩;have h2:mM c on=false:=by simpa using h
      rw[eR,if_neg (by rw[h2];simp),<-aci,acj];exact hb'
     .have h2:mM c on=true:=by simpa using h
      rw[eR,if_pos h2,ack];exact hb
    .rw[ach hc2]at hb;exact⟨_,rfl,hb⟩
   have hl1:=eT (name:=x.pkg.name) (pre:=true) (on:=on) (l:=x.pkg.pre);have hl2:=eT (name:=x.pkg.name) (pre:=false) (on:=on) (l:=x.pkg.dep);have hl3:=fb (kind:=2) (name:=x.pkg.name) (i:=i) (s:=s) (l:=x.pkg.con);have hl4:x.pkg.con.length*s.length<=40*26:=acy x3 h26;rw[<-aci,<-aci,<-aci];generalize hb0:base++gV x.pkg.name true on x.pkg.pre=base1 at *;have hbase1:base1.length<=57214:=by
    rw[<-hb0,acm];omega
   simp only[go_sem,simprocAttr,h3,h6,hb3.ok,hb3.un,hb.ok,hb.un];refine cc.at [0,3,7,8,9,36,37,38] (by kernel_rfl) (λA=>∃ v,A.env 6=v/\aH σ A.st v 117 ((base1++if x.k9=true then gV x.pkg.name false on x.pkg.dep else []).map du)) (λhcf=>?_) (λhcf=>?_) λC3 ⟨v,h6,hb⟩=>?_
   .rw[if_pos hcf];simp only[go_sem,simprocAttr,h3,h6,hb3.ok,hb3.un,hb.ok,hb.un,aB,acg];refine ae.ats [0,3,7,8,9,36,37,38] (λA=>∃ v,A.env 6=v/\aH σ A.st v 117 ((base1++gV x.pkg.name false on x.pkg.dep).map du)) ?_ λC2 ⟨v,h6,hb⟩=>?_
    .refine ae.upto [0,3,7,8,9,36,37,38,70,71] x.pkg.dep.length (λk A=>∃ v,A.env 6=v/\A.env 72= .int .i64 k/\aH σ A.st v 117 ((base1++fmI (eR x.pkg.name false on) 0 (x.pkg.dep.take k)).map du)) 0 (acn _) ?_ λk C hk ⟨v,h6,hcn,hb⟩=>?_
     .simp only[go_sem,simprocAttr,h6];refine⟨_,rfl,?_⟩;rw[acB,fmI,ack]
      first|exact hb1|exact hb
     simp only[go_sem,simprocAttr,h3,h6,hcn,hb3.ok,hb3.un,hb.ok,hb.un,acg];refine⟨λhc2=>⟨hc2,?_⟩,λhc2=>?_⟩
     .obtain⟨c,hci⟩:=get_some hc2;simp only[aw hci];simp only[go_sem,simprocAttr,h3,h6,hcn,hb3.ok,hb3.un,hb.ok,hb.un];refine aj.fn ((KW c on).bS (.cons (.refl _) (.cons hb3.bS .nil))) ?_;simp only[go_sem,simprocAttr,h3,h6,hcn,hb3.ok,hb3.un,hb.ok,hb.un];have e1:fmI (eR x.pkg.name false on) 0 (x.pkg.dep.take (k+1))=fmI (eR x.pkg.name false on) 0 (x.pkg.dep.take k)++eR x.pkg.name false on k c:=cZ hci;have hlen:(fmI (eR x.pkg.name false on) 0 (x.pkg.dep.take k)).length<=14:=by
       have:=eT (name:=x.pkg.name) (pre:=false) (on:=on) (l:=x.pkg.dep.take k);unfold gV at this;rw[acq]at this;omega
      rw[e1];generalize fmI (eR x.pkg.name false on) 0 (x.pkg.dep.take k)=q at *;refine⟨λh=>?_,λh=>⟨hc2,_,rfl,ag hc2 (by omega),?_⟩⟩
      .refine bq.own 1048576 (by kernel_rfl) hb.bld (.lit _ _ _) (by simp;omega) λv' σ' ha'=>?_
       have hb':=hb.app ha';simp only[go_sem,simprocAttr,h6,hcn,hb'.ok,hb'.un];refine⟨hc2,_,rfl,ag hc2 (by omega),?_⟩;have h2:mM c on=false:=by simpa using h
       rw[eR,if_neg (by rw[h2];simp),<-aci,acj];exact hb'
      .have h2:mM c on=true:=by simpa using h
       rw[eR,if_pos h2,ack];exact hb
     .rw[ach hc2]at hb;exact⟨_,rfl,hb⟩
    simp only[go_sem,simprocAttr,h6];exact⟨_,rfl,hb⟩
   .simp only[go_sem,simprocAttr,h6];rw[hcf,if_neg (by simp),ack];exact⟨_,rfl,hb⟩
   generalize hb0:(base1++if x.k9=true then gV x.pkg.name false on x.pkg.dep else [])=base2 at *;have hbase2:base2.length<=57228:=by
    rw[<-hb0,acm];split
    .omega
    .rw[acF];omega
   simp only[go_sem,simprocAttr,h3,h6,hb3.ok,hb3.un,hb.ok,hb.un,aF,acg];refine ae.at [0,3,7,8,9,36,37,38] (λA=>∃ v,A.env 6=v/\aH σ A.st v 117 ((base2++jb 2 x.pkg.name i s x.pkg.con).map du)) ?_ λC4 ⟨v,h6,hb⟩=>?_
   .refine ae.upto [0,3,7,8,9,36,37,38,90,91] x.pkg.con.length (λk A=>∃ v,A.env 6=v/\A.env 92= .int .i64 k/\aH σ A.st v 117 ((base2++fmI (de 2 x.pkg.name i s) 0 (x.pkg.con.take k)).map du)) 0 (acn _) ?_ λk C hk ⟨v,h6,hcn,hb⟩=>?_
    .simp only[go_sem,simprocAttr,h6];refine⟨_,rfl,?_⟩;rw[acB,fmI,ack];exact hb
    simp only[go_sem,simprocAttr,h3,h6,hcn,hb3.ok,hb3.un,hb.ok,hb.un,acg];refine⟨λhc2=>⟨hc2,?_⟩,λhc2=>?_⟩
    .obtain⟨t,ht⟩:=get_some hc2;simp only[aw ht];have hb2:=hb.more [none];simp only[go_sem,simprocAttr,h3,h6,hcn,hb2.ok,hb2.un,aK,acg];have e1:fmI (de 2 x.pkg.name i s) 0 (x.pkg.con.take (k+1))=fmI (de 2 x.pkg.name i s) 0 (x.pkg.con.take k)++de 2 x.pkg.name i s k t:=cZ ht;have hlen:(fmI (de 2 x.pkg.name i s) 0 (x.pkg.con.take k)).length<=1040:=by
      have h1:=fb (kind:=2) (name:=x.pkg.name) (i:=i) (s:=s) (l:=x.pkg.con.take k);unfold jb at h1;rw[acq]at h1;have h2:min k x.pkg.con.length*s.length<=40*26:=acy (by omega) h26;omega
     rw[e1];generalize fmI (de 2 x.pkg.name i s) 0 (x.pkg.con.take k)=q at *;refine ae.ats [0,3,7,8,9,36,37,38,90,91,92] (λA=>∃ v,A.env 6=v/\aH σ A.st v 117 ((base2++(q++de 2 x.pkg.name i s k t)).map du)) ?_ λD ⟨v,h6,hb⟩=>?_
     .refine ae.upto [0,3,7,8,9,14,15,36,37,38,90,91,92,97,98] s.length (λj A=>∃ v,A.env 6=v/\A.env 99= .int .i64 j/\aH σ A.st v 117 ((base2++(q++fmI (db 2 x.pkg.name i k t) 0 (s.take j))).map du)) 0 (acn _) ?_ λj D hj ⟨v,h6,hdn,hb⟩=>?_
      .simp only[go_sem,simprocAttr,h6];refine⟨_,rfl,?_⟩;rw[acB,fmI,ack];exact hb2
      simp only[go_sem,simprocAttr,h3,h6,hdn,hb3.ok,hb3.un,hb.ok,hb.un,acg];refine⟨λhc3=>⟨hc3,?_⟩,λhc3=>?_⟩
      .obtain⟨y,hy⟩:=get_some hc3;simp only[aw hy];have hb4:=hb.more [none];simp only[go_sem,simprocAttr,h3,h6,hdn,hb4.ok,hb4.un,bf];refine aD.fnG (λ_=>A8 y.pkg t) ?_;simp only[go_sem,simprocAttr,h3,h6,hdn,hb4.ok,hb4.un];have hq:((j:Int) !=i&&dc y.pkg t)=GG 2 i t j y:=by
        have a1:((j:Int) !=i)=decide (j≠i):=by rw[acx];simp only[bne_iff_ne,decide_eq_true_eq];omega
        unfold GG;rw[a1];simp
       first|rw[hq]|(rw[<-ac2]at hq;rw[hq])
       have e2:fmI (db 2 x.pkg.name i k t) 0 (s.take (j+1))=fmI (db 2 x.pkg.name i k t) 0 (s.take j)++db 2 x.pkg.name i k t j y:=cZ hy;have hlen2:(fmI (db 2 x.pkg.name i k t) 0 (s.take j)).length<=26:=by
        have h1:=mS (kind:=2) (name:=x.pkg.name) (i:=i) (s:=s.take j) (k:=k) (a:=t);unfold de at h1;rw[acq]at h1;omega
       rw[e2];generalize fmI (db 2 x.pkg.name i k t) 0 (s.take j)=q2 at *;refine⟨λh=>?_,λh=>⟨hc3,_,rfl,ag hc3 (by omega),?_⟩⟩
       .simp only[go_sem,simprocAttr,h6,hdn,hb4.ok,hb4.un,ay];refine bq.own 1048576 (by kernel_rfl) hb4.bld (.lit _ _ _) (by simp;omega) λv' σ' ha'=>?_
        have hb':=hb4.app ha';simp only[go_sem,simprocAttr,h6,hdn,hb'.ok,hb'.un];refine⟨hc3,_,rfl,ag hc3 (by omega),?_⟩;rw[db,if_pos h,<-aci,<-aci,aci base2,acj];exact hb'
       .rw[db,if_neg (by rw[h];simp),ack];exact hb4
      .rw[ach hc3]at hb;exact⟨_,rfl,hb⟩
     .simp only[go_sem,simprocAttr,h6,hcn,hb.ok,hb.un];exact⟨hc2,_,rfl,ag hc2 (by omega),hb⟩
    .rw[ach hc2]at hb;exact⟨_,rfl,hb⟩
   generalize hb0:base2++jb 2 x.pkg.name i s x.pkg.con=base3 at *;have hbase3:base3.length<=58268:=by
    rw[<-hb0,acm];omega
   simp only[go_sem,simprocAttr,h3,h6,hb3.ok,hb3.un,hb.ok,hb.un,aF,acg];refine ae.ats [0,3,36,37,38] (λA=>∃ v,A.env 6=v/\aH σ A.st v 117 ((base3++jb 3 x.pkg.name i s x.pkg.brk).map du)) ?_ λC5 ⟨v,h6,hb⟩=>?_
   .refine ae.upto [0,3,7,9,36,37,38,126,127] x.pkg.brk.length (λk A=>∃ v,A.env 6=v/\A.env 128= .int .i64 k/\aH σ A.st v 117 ((base3++fmI (de 3 x.pkg.name i s) 0 (x.pkg.brk.take k)).map du)) 0 (acn _) ?_ λk C hk ⟨v,h6,hcn,hb⟩=>?_
    .simp only[go_sem,simprocAttr,h6];refine⟨_,rfl,?_⟩;rw[acB,fmI,ack];exact hb
    simp only[go_sem,simprocAttr,h3,h6,hcn,hb3.ok,hb3.un,hb.ok,hb.un,acg];refine⟨λhc2=>⟨hc2,?_⟩,λhc2=>?_⟩
    .obtain⟨t,ht⟩:=get_some hc2;simp only[aw ht];have hb2:=hb.more [none];simp only[go_sem,simprocAttr,h3,h6,hcn,hb2.ok,hb2.un,aK,acg];have e1:fmI (de 3 x.pkg.name i s) 0 (x.pkg.brk.take (k+1))=fmI (de 3 x.pkg.name i s) 0 (x.pkg.brk.take k)++de 3 x.pkg.name i s k t:=cZ ht;have hlen:(fmI (de 3 x.pkg.name i s) 0 (x.pkg.brk.take k)).length<=1040:=by
      have h1:=fb (kind:=3) (name:=x.pkg.name) (i:=i) (s:=s) (l:=x.pkg.brk.take k);unfold jb at h1;rw[acq]at h1;have h2:min k x.pkg.brk.length*s.length<=40*26:=acy (by omega) h26;omega
     rw[e1];generalize fmI (de 3 x.pkg.name i s) 0 (x.pkg.brk.take k)=q at *;refine ae.ats [0,3,7,9,36,37,38,126,127,128] (λA=>∃ v,A.env 6=v/\aH σ A.st v 117 ((base3++(q++de 3 x.pkg.name i s k t)).map du)) ?_ λD ⟨v,h6,hb⟩=>?_
     .refine ae.upto [0,3,7,9,18,19,36,37,38,126,127,128,133,134] s.length (λj A=>∃ v,A.env 6=v/\A.env 135= .int .i64 j/\aH σ A.st v 117 ((base3++(q++fmI (db 3 x.pkg.name i k t) 0 (s.take j))).map du)) 0 (acn _) ?_ λj D hj ⟨v,h6,hdn,hb⟩=>?_
      .simp only[go_sem,simprocAttr,h6];refine⟨_,rfl,?_⟩;rw[acB,fmI,ack];exact hb2
      simp only[go_sem,simprocAttr,h3,h6,hdn,hb3.ok,hb3.un,hb.ok,hb.un,acg];refine⟨λhc3=>⟨hc3,?_⟩,λhc3=>?_⟩
      .obtain⟨y,hy⟩:=get_some hc3;simp only[aw hy];have hb4:=hb.more [none];simp only[go_sem,simprocAttr,h3,h6,hdn,hb4.ok,hb4.un,bf];refine aD.fnG (λ_=>A8 y.pkg t) ?_;simp only[go_sem,simprocAttr,h3,h6,hdn,hb4.ok,hb4.un];have hq:((j:Int) !=i&&y.k9&&dc y.pkg t)=GG 3 i t j y:=by
        have a1:((j:Int) !=i)=decide (j≠i):=by rw[acx];simp only[bne_iff_ne,decide_eq_true_eq];omega
        unfold GG;rw[a1];simp[ac2]
       first|rw[hq]|(rw[<-ac2]at hq;rw[hq])
       have e2:fmI (db 3 x.pkg.name i k t) 0 (s.take (j+1))=fmI (db 3 x.pkg.name i k t) 0 (s.take j)++db 3 x.pkg.name i k t j y:=cZ hy;have hlen2:(fmI (db 3 x.pkg.name i k t) 0 (s.take j)).length<=26:=by
        have h1:=mS (kind:=3) (name:=x.pkg.name) (i:=i) (s:=s.take j) (k:=k) (a:=t);unfold de at h1;rw[acq]at h1;omega
       rw[e2];generalize fmI (db 3 x.pkg.name i k t) 0 (s.take j)=q2 at *;refine⟨λh=>?_,λh=>⟨hc3,_,rfl,ag hc3 (by omega),?_⟩⟩
       .simp only[go_sem,simprocAttr,h6,hdn,hb4.ok,hb4.un,ay];refine bq.own 1048576 (by kernel_rfl) hb4.bld (.lit _ _ _) (by simp;omega) λv' σ' ha'=>?_
        have hb':=hb4.app ha';simp only[go_sem,simprocAttr,h6,hdn,hb'.ok,hb'.un];refine⟨hc3,_,rfl,ag hc3 (by omega),?_⟩;rw[db,if_pos h,<-aci,<-aci,aci base3,acj];exact hb'
       .rw[db,if_neg (by rw[h];simp),ack];exact hb4
      .rw[ach hc3]at hb;exact⟨_,rfl,hb⟩
     .simp only[go_sem,simprocAttr,h6,hcn,hb.ok,hb.un];exact⟨hc2,_,rfl,ag hc2 (by omega),hb⟩
    .rw[ach hc2]at hb;exact⟨_,rfl,hb⟩
   simp only[go_sem,simprocAttr,h6,h38];exact⟨hc,_,rfl,ag hc (by omega),hb⟩
  .rw[ach hc]at hb;exact⟨_,rfl,hb⟩
 simp only[go_sem,simprocAttr,h6,hb.ok,hb.un];exact⟨hb.bS,hb.ext⟩
end Go.Proofs.Tryz
end
section
namespace Go.Av
open Go.Proofs Go.Proofs.Tryz
def O7 :List aM:=[⟨7,[],[]⟩]
theorem rX {α β:Type}{f:Nat->α->List β}: ∀{l:List α} {b:Nat},(∀i a,l[i]?=some a->f (b+i) a=[])->fmI f b l=[]
 |[],_,_=>rfl
 |a::r,b,h=>by
  rw[fmI,rX (b:=b+1) λi x hx=>by
   have:=h (i+1) x (by simpa using hx);rw[show b+1+i=b+(i+1) by omega];exact this,ack]
  exact h 0 a rfl
theorem A6 {all:List Pkg}{s:List aA}{l:List aM}(hc:oN all){x:FB}(hx:x∈e5 all s l):gb (fT all x)=true/\(fT all x).Sublist all/\iz l (fT all x) s=true/\x.1=uY all s (fT all x) (eV l):=by
 obtain⟨y,hy,rfl⟩:=acr.1 hx;obtain⟨h1,h2,h3⟩:=xu hy;have e:fT all (toB y)=atL all y.2:=by
  unfold fT toB;rw[rT hc (tV h1)]
 rw[e];obtain⟨k1,k2⟩:=Oj h1 (acn _) (List.nil_sublist _) (by omega);exact⟨k2,k1,h2,h3⟩
theorem AA {all:List Pkg}{held:List aA}: ∀{r:List FB} {b:Bool},(eA all held b r).kind=1-> ∃pre x post,r=pre++x::post/\(∀y∈pre,(ig held (fT all y)).2≠0)/\(ig held (fT all x)).2=0/\eA all held b r=⟨1,dt (fT all x) held,(ig held (fT all x)).1,x.1,[]⟩
 |[],b,h=>by cases b<;>simp[eA,iV]at h
 |x::r,b,h=>by
  rw[eA]at h ⊢;split
  .rename_i hp;exact⟨[],x,r,rfl,by simp,hp,rfl⟩
  .rename_i hp;rw[if_neg hp]at h;obtain⟨pre,y,post,rfl,h2,h3,h4⟩:=AA h;exact⟨x::pre,y,post,rfl,by grind,h3,h4⟩
theorem xR {t:List Pkg}{s:List aA}{i:Nat}{x:aA}(h:(dt t s)[i]?=some x):t[i]?=some x.pkg/\x.k9=true:=by
 unfold dt at h;rw[acw]at h;obtain⟨p,hp,rfl⟩:=acK.1 h;exact⟨hp,rfl⟩
theorem AD (s:List aA): ∀t:List Pkg,onE (dt t s)=t
 |[]=>rfl
 |p::r=>by
  have ih:=AD s r;unfold onE dt at *;rw[ac4,acE,if_pos rfl,ac4,ih]
theorem Eg {t:List Pkg}(h:gb t=true)(held:List aA):fH (dt t held)=[]:=by
 have hH:=oh.1 h;refine rX λi x hx=>?_
 obtain⟨hp,hcf⟩:=xR hx;have hpm:=aco hp;rw[acQ];have hm: ∀pre cs,(∀c∈cs,c∈x.pkg.pre++x.pkg.dep)->gV x.pkg.name pre (onE (dt t held)) cs=[]:=λpre cs hcs=>rX λk c hc=>by
  rw[AD,eR,if_pos];exact vJ.2 (hH.met _ hpm c (hcs c (aco hc)))
 have hcl: ∀kind al,(∀a∈al,a∈x.pkg.con\/a∈x.pkg.brk)->jb kind x.pkg.name i (dt t held) al=[]:=λkind al has=>rX λk a ha=>rX λj y hy=>by
  rw[db,if_neg];intro hq;unfold GG at hq;simp only[acv,decide_eq_true_eq]at hq;obtain⟨⟨hne,_⟩,hsat⟩:=hq;rw[acQ]at hne;obtain⟨hq2,_⟩:=xR hy;have hpw:=acU.1 hH.pair;obtain⟨hi,e1⟩:=acf.1 hp;obtain⟨hj,e2⟩:=acf.1 hq2;have ha':=has a (aco ha);have hn:x.pkg.name≠y.pkg.name/\fR x.pkg y.pkg=false:=by
   rcases Nat.lt_or_gt_of_ne hne with hlt|hgt
   .have:=hpw j i hj hi hlt;rw[e1,e2]at this;exact⟨λe=>this.1 e.symm,by rw[mE];exact this.2⟩
   .have:=hpw i j hi hj hgt;rw[e1,e2]at this;exact this
  have hb:=hn.2;unfold fR at hb;simp only[ac0,bne_eq_false_iff_eq,ac3]at hb;rcases hb with hb|hb
  .exact hn.1 hb
  .have hg:=hb.1;unfold qR at hg;grind
 unfold dQ;rw[hm true _ λc hc=>List.mem_append_left _ hc,hm false _ λc hc=>List.mem_append_right _ hc,hcl 2 _ λa ha=>.inl ha,hcl 3 _ λa ha=>.inr ha,hcf];rfl
theorem xd (repo:List Pkg)(s:List aA)(l:List aM)(bud:Int):
  ((cg repo s l bud).2=0->((cg repo s l bud).1.kind=4↔fH s≠[]/\(l.any λa=>a.kind==7)=false))/\
  ((cg repo s l bud).1.kind=4->(cg repo s l bud).1.SP=fH s/\(l.any λa=>a.kind==7)=false)/\
  ((cg repo s l bud).1.kind=1->fH (cg repo s l bud).1.want=[]/\(cg repo s l bud).1.want.length<=24/\ ∀x∈(cg repo s l bud).1.want,aS x.pkg=0):=by
 unfold cg;split
 .rename_i h;exact⟨λh2=>absurd h2 h,λh=>by simp[iV]at h,λh=>by simp[iV]at h⟩
 rename_i hall;split
 .rename_i h;exact⟨λh2=>absurd h2 h,λh=>by simp[iV]at h,λh=>by simp[iV]at h⟩
 split
 .rename_i h;exact⟨λ_=>by simp[h],λ_=>⟨rfl,h.2⟩,λh=>by simp at h⟩
 rename_i hw;split
 .exact⟨λ_=>⟨λh=>by simp[iV]at h,λh=>absurd h hw⟩,λh=>by simp[iV]at h,λh=>by simp[iV]at h⟩
 have hr:=NX (c7 repo s).1 (s.map (gG l)) (e5 (c7 repo s).1 s l) false;refine⟨λ_=>⟨λh=>absurd h hr.2.1,λh=>absurd h hw⟩,λh=>absurd h hr.2.1,λh=>?_⟩;obtain⟨pre,x,post,e1,_,_,e2⟩:=AA h;obtain⟨g1,g2,_,_⟩:=Cz (adj.1 hall);obtain⟨k1,k2,_⟩:=A6 (ye g2) (x:=x) (s:=s) (l:=l) (by rw[e1];simp);rw[e2];refine⟨Eg k1 _,?_,λy hy=>?_⟩
 .have:=k2.length_le;have:=dF g1;simp only[dt,acg];omega
 .obtain⟨p,hp,rfl⟩:=acr.1 hy;exact(oh.1 k1).may p hp
end Go.Av
end
section
namespace Go.Proofs.Tryz
open Go Go.Av
set_option maxRecDepth 10000
set_option maxHeartbeats 2000000
variable {W0 :World}
theorem Jr (hW:qM W0)(s:List aA)(repo:List Pkg)(l:List aM)(hp: ∀p∈repo,uE p)(hsp: ∀x∈s,uE x.pkg)(hsl:s.length<=733007751829):ai prog W0 7 [aK s,aL repo,bC l] (.bool true):=by
 refine an [6] [7,9,42,57,60] func7 rfl rfl ntmps7 rfl rfl (.bool _) λhs σ=>?_
 simp only[go_sem,simprocAttr];refine aj.fn (UQ repo s hp hsp hsl) ?_;simp only[go_sem,simprocAttr,bC,acg];refine⟨λhc=>?_,λhc=>?_⟩
 .refine aj.fn (sZ hW) ?_;simp only[go_sem,simprocAttr]
  try exact .refl _
 have hfd:EM repo s=true:=by simp_all
 obtain⟨hmp,hms⟩:=Vf hfd;have hwb:WrB s:=Rb (by unfold EM at hfd;simp only[acv]at hfd;exact hfd.1.2);obtain⟨p1,p2,_⟩:=xd repo s l 0;obtain⟨_,f2,f3⟩:=xd repo s O7 0;have q0:=tL repo s l 0;have qf:=tL repo s O7 0;have ho: ∀o:qx,okM none (gD o)=True:=λo=>eq_true trivial
 have hu: ∀o:qx,unm (gD o)=gD o:=λo=>rfl
 have hf: ∀o:qx,bb prog 32 (gD o)=true:=λo=>by kernel_rfl
 have h5: ∀o:qx,(oP prog 32 0 (.loc 32 (gD o)))=True:=λo=>eq_true (by simp only[go_sem,simprocAttr,gD])
 have h6: ∀o:qx,nV prog 32 0 (.loc 32 (gD o))= .loc 3 (.int .i64 (o.kind:Nat)):=λo=>rfl
 refine aj.fn (sT hW repo s l 0 hmp hms (by omega) (by omega)) ?_;simp only[go_sem,simprocAttr,ho,hu,hf];refine aj.fn ((sT hW repo s O7 0 hmp hms (by omega) (by omega)).bS (.cons (.refl _) (.cons (.refl _) (.cons (.sub (ji (n:=10) (by kernel_rfl))) (.cons (.refl _) .nil))))) ?_;simp only[go_sem,simprocAttr,ho,hu,hf];refine aj.fn (z7 s hwb) ?_;generalize cg repo s l 0=d at *;generalize cg repo s O7 0=f at *;simp only[go_sem,simprocAttr,ho,hu,hf,h5,h6,gM,acg];have h8: ∀o:qx,(oP prog 32 4 (.loc 32 (gD o)))=True:=λo=>eq_true (by simp only[go_sem,simprocAttr,gD])
 have h9: ∀o:qx,nV prog 32 4 (.loc 32 (gD o))= .loc 30 (gM o.SP):=λo=>rfl
 refine⟨.of (by kernel_rfl),aD.fnG (λ_=>Va l 7) ?_⟩;simp only[go_sem,simprocAttr,ho,hu,hf,h5,h6,h8,h9,gM,acg];refine aD.fnG (λ_=>yW d.1.SP (fH s)) ?_;simp only[go_sem,simprocAttr,ho,hu,hf,h5,h6];have hbad:(d.2==0&& !(((d.1.kind:Int)==4)==(decide ((0:Int)<(fH s).length)&& !l.any λa=>a.kind==7))||(d.1.kind:Int)==4&& !decide (d.1.SP=fH s))=false:=by
  by_cases h4:d.1.kind=4
  .obtain⟨v1,v2⟩:=p2 h4;by_cases hz:d.2=0
   .have:=List.length_pos_iff.2 ((p1 hz).1 h4).1;simp[h4,hz,v1,v2];omega
   .simp[h4,hz,v1]
  .by_cases hz:d.2=0
   .have hn:=λh=>h4 ((p1 hz).2 h)
    have h4':((d.1.kind:Int)==4)=false:=by rw[beq_eq_false_iff_ne];omega
    rw[h4',hz];cases hw:fH s with
    |nil=>simp
    |cons a b=>
     rw[hw]at hn;cases ha:l.any λa=>a.kind==7 with
     |true=>simp
     |false=>exact absurd ⟨by simp,ha⟩ hn
   .have h4':((d.1.kind:Int)==4)=false:=by rw[beq_eq_false_iff_ne];omega
    simp[h4',hz]
 refine⟨λh=>absurd h (by rw[hbad];exact ac5),λ_=>⟨λhk=>?_,λhk=>?_⟩⟩
 .have hn4:((f.1.kind:Int) !=4)=true:=by
   rw[bne_iff_ne];intro h;have:=(f2 (by omega)).2;simp[O7]at this
  refine aD.fnG (λ_=>sZ hW) ?_;simp only[go_sem,simprocAttr,hn4]
  try exact .refl _
 simp only[ac3,bne_eq_false_iff_eq]at hk;obtain⟨w1,w2,w3⟩:=f3 (by omega);have hwb2:WrB f.1.want:=⟨by omega,λx hx=>by
  have h:=dz (w3 x hx);have:=h.pre.1;have:=h.dep.1;have:=h.con.1;have:=h.brk.1;omega⟩
 simp only[go_sem,simprocAttr,gD];refine aj.fn (z7 f.1.want hwb2) ?_;simp only[go_sem,simprocAttr,w1,gM];refine aD.fnG (λ_=>sZ hW) ?_;simp only[go_sem,simprocAttr]
end Go.Proofs.Tryz
end
