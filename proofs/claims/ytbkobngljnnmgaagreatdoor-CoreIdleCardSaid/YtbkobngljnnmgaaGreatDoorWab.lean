/- What the last text of this claim rests on. No conditions. -/
import Derived.Lib.ConvBytes
import Derived.Laws.BytesString
import Derived.Laws.Cells
import Derived.Lib.AppendStr
import Derived.Orders
import Derived.Laws.Externs
import Derived.Test.YtbkobngljnnmgaaGreatDoorWaa
set_option linter.unusedSimpArgs false
set_option linter.unusedVariables false
open List renaming getElem?_eq_some_iff->acG,getElem?_eq_getElem->acI,getElem?_append_right->acQ,mem_append_right->acT,size_toArray->acU,mem_append_left->acW,ext_getElem?->acZ,getElem?_toArray->ac0,mem_append->ac1,mem_zipIdx_iff_getElem?->ac2,getElem?_append_left->ac6,map_cons->ac9,getElem?_eq_none->adb,mem_range->adf,pairwise_cons->adh,all_eq_true->adm,filter_cons->adp,length_map->adr,length_nil->ads,mem_filter->adt,mem_cons->adA
open Array renaming getElem?_eq_some_iff->acH,toArray_toList->acN,getElem?_append_left->acO,getElem?_append_right->acV,getElem?_eq_getElem->acX,getD_eq_getD_getElem?->ac4,size_append->adj
open Nat renaming mul_le_mul_right->acJ,le_of_ble_eq_true->acL,le_trans->acM,le_refl->acP,add_mul->acY,zero_add->ac3,mul_one->ade,add_le_add_left->adg,lt_or_ge->adi,lt_trichotomy->adk,zero_le->adq,sub_self->adB
open Option renaming isSome_iff_exists->acK,getD_some->acR,join_some->adl,bind_some->adn,getD_none->ado
open Bool renaming and_eq_true->acS,false_eq_true->ac5,not_false->adu,and_self->adv,not_true->adw,false_or->adz
open Option.some renaming injEq->ac7,inj->ada
open Ne renaming symm->ac8
open List.Pairwise renaming filter->adC
section
namespace Go.Av
open Go
section
variable {P :Program}{W0 w w':World}{C C':Ctx}{σ σ':ab}{n:Nat}{A:aa}{a:Act}{o:Oper}
theorem CH (h:aE P W0 w C σ){id b base room:Nat}{fr:Nat×Nat}{e t':TypeId}{xs zs:List AV}{arr arr':Array Value}{cf:Nat->List Value}(hs:σ[id]?=some (some (.cells e xs)))(hm:C.m id=some (.obj b e base room))(hb:w.heap[b]?=some (.cells arr t' fr))(hf:uq fr arr.size)
  (hsz:arr.size=room) (hsize:arr'.size=arr.size) (hfit:base+zs.length*af P e<=room)
  (hz: ∀i x,zs[i]?=some x->Rel P w C x (cf i)/\(cf i).length=af P e/\fits P e x/\ ∀(j:Nat) (u:Value),(cf i)[j]?=some u->arr'[base+i*af P e+j]?=some u):
  Step w C (w.setRow b arr') C/\aE P W0 (w.setRow b arr') C (σ.set id (some (.cells e zs))):=by
 have hstep:=tN (w:=w) hm arr';have hidl:id<σ.length:=(acG.1 hs).1;refine⟨hstep,h.change hstep h.low (by simpa using h.nx) h.inj h.dom (λj=>?_)⟩;rw[mc _ _ _ _ hidl];by_cases hj:j=id
 .left;subst hj;rw[if_pos rfl,hm];refine⟨rfl,_,t',fr,setRow_heap w b arr _ t' _ hb,by simp_all,by omega,hfit,cf,λq x hq=>?_⟩;grind [Rel.mono]
 grind [setRow_other,Own.blk,aE.inj]
theorem tw {zs ys:List AV}{k:Nat}(h:k+ys.length<=zs.length):(j4 zs k ys).length=zs.length:=by grind [j4]
theorem A5 {zs ys:List AV}{k:Nat}(h:k+ys.length<=zs.length)(i:Nat):(j4 zs k ys)[i]?=if k<=i/\i<k+ys.length then ys[i-k]? else zs[i]?:=by
 grind [j4,acQ]
theorem Ah {zs:List AV}{k:Nat}:j4 zs k []=zs:=by simp[j4]
theorem rX (hr:aE P W0 w C σ){e te:TypeId}{id off m:Nat}{zs:List AV}{v:Value}(hv:aJ P w C (.row e id off m) v)(he:0<af P e)(hs:σ[id]?=some (some (.cells te zs))):
  te=e/\ ∃ad cap b base room arr t' fr,v= .slice ad m cap/\m<=cap/\cap<=maxLen/\C.m id=some (.obj b e base room)/\w.heap[b]?=some (.cells arr t' fr)/\uq fr arr.size/\arr.size=room/\base+zs.length*af P e<=room/\
   (0<cap->ad=some ⟨b,base+off*af P e,none⟩)/\zs.length<=off+cap/\id<C.nx/\
   ∃cf:Nat->List Value,∀i x,zs[i]?=some x->Rel P w C x (cf i)/\(cf i).length=af P e/\fits P e x/\ ∀(j:Nat) (c:Value),(cf i)[j]?=some c->arr[base+i*af P e+j]?=some c:=by
 have hv':=hv.aH rfl;obtain⟨b,base,room,arr,t',fr,m1,m2,mf,m3,m4,cf,m5⟩:=hr.cells hs;cases hv' with
 |row h1 h2 h3 h4=>
  obtain⟨b',base',room',e1,e2,e3⟩:=h4 _ m1;cases e1;refine⟨rfl,_,_,b,base,room,arr,t',fr,rfl,h1,h2,m1,m2,mf,m3,m4,e2,?_,h3,cf,m5⟩;rw[<-e3]at m4;have:=Nat.le_of_add_le_add_left m4;exact Nat.le_of_mul_le_mul_right this he
theorem FY (hr:eZ P W0 o w C A a){x y:Operand}{t u e:TypeId}{id off m:Nat}{zs ys:List AV}{z:AV}(ho:o.op= .call { callee:=.builtin .append,args:=#[x,y],argTypes:=#[t,u] })
  (hx:Is P W0 o A x (.row e id off m)) (hy:Is P W0 o A y z) (ht:elT P t=some e) (hu:elT P u=some e) (he:0<af P e) (hs:A.st[id]?=some (some (.cells e zs))) (hys:eV A.st z e ys) (hm:off+m+ys.length<=zs.length):
  ∃r w',(execOp a.eval o).run P w= .ok (.value r) w'/\Step w C w' C/\aE P W0 w' C (A.st.set id (some (.cells e (j4 zs (off+m) ys))))/\aJ P w' C (.row e id off (m+ys.length)) r:=by
 obtain⟨inf,hinf,hsz⟩:=bK he;have htu:=bR ht;have hrun: ∀b l c yv r w',(Builtin.append_ #[t,t] o.type #[.slice b l c,yv]).run P w= .ok r w'->a.eval x= .slice b l c->a.eval y=yv->(execOp a.eval o).run P w= .ok (.value r) w':=λb l c yv r w' h h1 h2=>by
  simp_all[gg,bR,execOp,resolve,invoke,builtin]
 have hxv:=hx w C a hr;have hyv:=hy w C a hr;obtain⟨ady,capy,cfy,hye,y3,y4,y5⟩:=hys.cells hr.st hyv;obtain⟨_,ad,cap,b,base,room,arr,t',fr,hxe,c1,c2,m1,m2,mf,m3,m4,e2,e3,hid,cf,m5⟩:=rX hr.st hxv he hs;have hidl:id<A.st.length:=(acG.1 hs).1;by_cases hyl:ys=[]
 .subst hyl;rw[Ah,show A.st.set id (some (.cells e zs))=A.st from by
   refine acZ λi=>?_
   grind]
  grind [gJ,Step.refl,eZ.st]
 have hpos:0<ys.length:=by grind
 obtain⟨by_,oy,rfl,news,n1,n2,n3,n4⟩:=y5 hpos;have n2': ∀j u,news[j]?=some u->w.cell? ((⟨by_,oy,none⟩:Addr).add j)=some u:=λj u hj=>by grind [Addr.add_lit]
 obtain rfl:=e2 (by omega);have h6:base+(off+m+ys.length)*af P e<=arr.size:=by rw[m3];exact acM (adg (acJ _ hm) _) m4
 have hfit:base+off*af P e+m*af P e+news.length<=arr.size:=by
  grind
 have hap:=gv (P:=P) w t o.type e inf htu hinf b (base+off*af P e) m cap t' fr arr m2 mf ⟨by_,oy,none⟩ ys.length capy news (by simp_all) n2' n3 (by omega) (by simp_all);rw[hsz]at hap;have hsize:(bC arr (base+off*af P e+m*af P e) news).size=arr.size:=dP hfit;have hoff:base+off*af P e+m*af P e=base+(off+m)*af P e:=by grind
 obtain⟨k1,k2⟩:=CH hr.st (zs:=j4 zs (off+m) ys) (cf:=λi=>if off+m<=i/\i<off+m+ys.length then cfy (i-(off+m))else cf i) hs m1 m2 mf m3 hsize (by grind [tw]) (λi x hx=>by
  rw[A5 hm]at hx;by_cases hi:off+m<=i/\i<off+m+ys.length
  .rw[if_pos hi]at hx;simp only[hi,and_self,if_true];refine⟨y3 _ x hx,(y4 _ x hx).1,(y4 _ x hx).2,λj u hj=>?_⟩;have:=n4 _ x hx j u hj;have hl:=(acG.1 this).1;have hmul:i*af P e=(off+m)*af P e+(i-(off+m))*af P e:=by rw[<-acY];simp_all
   rw[bQ hfit,if_pos (by omega),show base+i*af P e+j-(base+off*af P e+m*af P e)=(i-(off+m))*af P e+j by omega];exact this
  .rw[if_neg hi]at hx;simp only[hi,if_false];obtain⟨q1,q2,q3,q4⟩:=m5 i x hx;refine⟨q1,q2,q3,λj u hj=>?_⟩;have hjl:j<af P e:=by grind
   rw[bQ hfit,if_neg ?_]
   .grind
   .rintro⟨b1,b2⟩;rw[hoff]at b1 b2;rw[n1]at b2;rcases adi i (off+m)with hlt|hge
    .have h5:(i+1)*af P e<=(off+m)*af P e:=acJ _ hlt;grind
    .have h5:(off+m+ys.length)*af P e<=i*af P e:=acJ _ (by omega);grind)
 refine⟨_,_,hrun _ _ _ _ _ _ hap hxe hye,k1,k2,.one rfl (.row (by omega) c2 hid (λow how=>?_))⟩;have hxv':=hxv.aH rfl;rw[hxe]at hxv';cases hxv' with
 |row _ _ _ h4=>simp_all
theorem zB (hr:eZ P W0 o w C A a){x y:Operand}{t u e:TypeId}{id off m:Nat}{zs ys:List AV}{z:AV}(ho:o.op= .call { callee:=.builtin .append,args:=#[x,y],argTypes:=#[t,u] })
  (hx:Is P W0 o A x (.row e id off m)) (hy:Is P W0 o A y z) (ht:elT P t=some e) (hu:elT P u=some e) (he:0<af P e) (hz0:bn P e=true) (hs:A.st[id]?=some (some (.cells e zs))) (hm:off+m=zs.length) (hys:eV A.st z e ys)
  (hbytes:(m+ys.length)*bytesOf P e<=140737488355328) (hmax:m+ys.length<=maxLen):
  ∃r w' C' v' σ',(execOp a.eval o).run P w= .ok (.value r) w'/\((v'= .row e id off (m+ys.length)/\σ'=A.st.set id (some (.cells e (zs++ys))))\/(v'= .row e A.st.length 0 (m+ys.length)/\σ'=A.st++[some (.cells e (zs.drop off++ys))]))/\Step w C w' C'/\aE P W0 w' C' σ'/\aJ P w' C' v' r:=by
 obtain⟨inf,hinf,hsz⟩:=bK he;have htu:=bR ht;have hrun: ∀b l c yv r w',(Builtin.append_ #[t,t] o.type #[.slice b l c,yv]).run P w= .ok r w'->a.eval x= .slice b l c->a.eval y=yv->(execOp a.eval o).run P w= .ok (.value r) w':=λb l c yv r w' h h1 h2=>by
  simp_all[gg,bR,execOp,resolve,invoke,builtin]
 have hxv:=hx w C a hr;have hyv:=hy w C a hr;obtain⟨ady,capy,cfy,hye,y3,y4,y5⟩:=hys.cells hr.st hyv;obtain⟨_,ad,cap,b,base,room,arr,t',fr,hxe,c1,c2,m1,m2,mf,m3,m4,e2,e3,hid,cf,m5⟩:=rX hr.st hxv he hs;have hex:base+(off+cap)*af P e=room:=by
  have hxv':=hxv.aH rfl;rw[hxe]at hxv';cases hxv' with
  |row _ _ _ h4=>
   grind
 have hidl:id<A.st.length:=(acG.1 hs).1;by_cases hyl:ys=[]
 .subst hyl;refine⟨_,w,C,_,_,hrun _ _ _ _ _ _ (gJ htu hinf _ _ _ _ _ _ c1 w) hxe hye,.inl ⟨rfl,rfl⟩,.refl _ _,?_,by simp_all⟩;rw[List.append_nil,show A.st.set id (some (.cells e zs))=A.st from by
   refine acZ λi=>?_
   grind]
  exact hr.st
 have hpos:0<ys.length:=by grind
 obtain⟨by_,oy,rfl,news,n1,n2,n3,n4⟩:=y5 hpos;have n2': ∀j u,news[j]?=some u->w.cell? ((⟨by_,oy,none⟩:Addr).add j)=some u:=λj u hj=>by grind [Addr.add_lit]
 by_cases hroom:m+ys.length<=cap
 ·-- within its room
  obtain rfl:=e2 (by omega);have h6:(off+(m+ys.length))*af P e<=(off+cap)*af P e:=acJ _ (by omega);have hoff:base+off*af P e+m*af P e=base+(off+m)*af P e:=by grind
  have hfit:base+off*af P e+m*af P e+news.length<=arr.size:=by
   grind
  have hap:=gv (P:=P) w t o.type e inf htu hinf b (base+off*af P e) m cap t' fr arr m2 mf ⟨by_,oy,none⟩ ys.length capy news (by simp_all) n2' n3 hroom (by simp_all);rw[hsz]at hap;have hsize:(bC arr (base+off*af P e+m*af P e) news).size=arr.size:=dP hfit;obtain⟨k1,k2⟩:=CH hr.st (zs:=zs++ys) (cf:=λi=>if i<zs.length then cf i else cfy (i-zs.length)) hs m1 m2 mf m3 hsize (by
    grind) (λi x hx=>by
   by_cases hi:i<zs.length
   .rw[ac6 hi]at hx;simp only[hi,if_true];obtain⟨q1,q2,q3,q4⟩:=m5 i x hx;refine⟨q1,q2,q3,λj u hj=>?_⟩;have hjl:j<af P e:=by grind
    have h5:(i+1)*af P e<=(off+m)*af P e:=acJ _ (by omega);grind [bQ]
   .rw[acQ (by omega)]at hx;simp only[hi,if_false];refine⟨y3 _ x hx,(y4 _ x hx).1,(y4 _ x hx).2,λj u hj=>?_⟩;have:=n4 _ x hx j u hj;have hl:=(acG.1 this).1;have hmul:i*af P e=(off+m)*af P e+(i-zs.length)*af P e:=by rw[<-acY];simp_all
    rw[bQ hfit,if_pos (by omega),show base+i*af P e+j-(base+off*af P e+m*af P e)=(i-zs.length)*af P e+j by omega];exact this)
  refine⟨_,_,C,_,_,hrun _ _ _ _ _ _ hap hxe hye,.inl ⟨rfl,rfl⟩,k1,k2,.one rfl (.row hroom c2 hid (λow how=>?_))⟩;grind
 obtain⟨inf',z0,hinf',hiz,hzs⟩:=e7 hz0;obtain rfl:inf'=inf:=by simp_all
 rw[lV hinf]at hbytes;have hdl:(zs.drop off).length=m:=by grind
 have hlen:(zs.drop off++ys).length=m+ys.length:=by simp_all
 have hgetl: ∀i x,(zs.drop off++ys)[i]?=some x->(i<m/\zs[off+i]?=some x)\/(m<=i/\ys[i-m]?=some x):=λi x hx=>by
  grind
 cases ad with
 |none=>
  have hc0:cap=0:=by
   simp_all
  subst hc0;have hm0:m=0:=by omega
  subst hm0;have hz:zs.drop off=[]:=by simp_all
  rw[hz];simp only[ac3]at hbytes hmax;have hap:=run_append_nil (P:=P) w t o.type e inf' z0 htu hinf hiz ⟨by_,oy,none⟩ ys.length capy news (by simp_all) n2' hpos (by grind [maxLen]) (by omega);have hge:=grownCap_ge w ys.length 0 e;have hcap:=grownCap_le_maxLen w ys.length 0 e hmax;obtain⟨C',q1,q2,q3⟩:=lk (P:=P) (W0:=W0) hr.st.drew (e:=e) (zs:=ys) (cap:=grownCap w ys.length 0 e) (arr:=news.toArray++Builtin.zeroCells z0.cells (grownCap w ys.length 0 e-ys.length)) (cf:=cfy) hge hcap
   (by simp only[adj,acU,size_zeroCells,n1,hzs,<-acY];simp_all)
   (λi x hx=>⟨(y3 i x hx).mono (Step.drew w C),(y4 i x hx).1,(y4 i x hx).2,λj u hj=>by
    grind⟩)
  exact⟨_,_,C',_,_,hrun _ _ _ _ _ _ hap hxe hye,.inr ⟨rfl,rfl⟩,(Step.drew w C).trans q1,by simp_all,by simp_all⟩
 |some b'=>
  have hcells: ∃olds:List Value,olds.length=m*af P e/\(∀(j:Nat) (u:Value),olds[j]?=some u->w.cell? (b'.add j)=some u)/\ ∀i x,i<m->zs[off+i]?=some x-> ∀(j:Nat) (u:Value),(cf (off+i))[j]?=some u->olds[i*af P e+j]?=some u:=by
   by_cases hxl:m=0
   .simp_all
   .have hb':=e2 (by omega);cases hb';refine⟨(arr.toList.drop (base+off*af P e)).take (m*af P e),?_,λj u hj=>?_,λi x hi hx j u hj=>?_⟩
    .grind [acY]
    .grind [Addr.add_lit,World.cell?]
    .obtain⟨q1,q2,q3,q4⟩:=m5 _ x hx;have hjl:j<af P e:=by grind
     have h5:(i+1)*af P e<=m*af P e:=acJ _ hi;grind
  obtain⟨olds,p1,p2,p4⟩:=hcells;have hap:=run_append_grow (P:=P) w t o.type e inf' z0 htu hinf hiz b' m cap olds (by simp_all) p2 ⟨by_,oy,none⟩ ys.length capy news (by simp_all) n2' (by omega) (by grind [maxLen]) (growslice_fits (by omega) hbytes);have hge:=grownCap_ge w (m+ys.length) cap e;have hcap:=grownCap_le_maxLen w (m+ys.length) cap e hmax;obtain⟨C',g1,g2,g3⟩:=lk (P:=P) (W0:=W0) hr.st.drew (e:=e) (zs:=zs.drop off++ys) (cap:=grownCap w (m+ys.length) cap e)
   (arr:=olds.toArray++news.toArray++Builtin.zeroCells z0.cells (grownCap w (m+ys.length) cap e-(m+ys.length))) (cf:=λi=>if i<m then cf (off+i)else cfy (i-m)) (by omega) hcap
   (by simp only[adj,acU,size_zeroCells,p1,n1,hzs,<-acY];simp_all)
   (λi x hx=>by
    rcases hgetl i x hx with⟨hi,hx'⟩|⟨hi,hx'⟩
    .simp only[hi,if_true];obtain⟨q1,q2,q3,q4⟩:=m5 _ x hx';refine⟨q1.mono (Step.drew w C),q2,q3,λj u hj=>?_⟩;grind
    .simp only[show ¬i<m by omega,if_false];refine⟨(y3 _ x hx').mono (Step.drew w C),(y4 _ x hx').1,(y4 _ x hx').2,λj u hj=>?_⟩;have:=n4 _ x hx' j u hj;have hl:=(acG.1 this).1;have hmul:i*af P e=m*af P e+(i-m)*af P e:=by rw[<-acY];simp_all
     rw[acO (by grind),acV (by grind)];simp only[acU,p1,ac0];grind)
  rw[hlen]at g3;exact⟨_,_,C',_,_,hrun _ _ _ _ _ _ hap hxe hye,.inr ⟨rfl,rfl⟩,(Step.drew w C).trans g1,g2,g3⟩
theorem Rs (hr:eZ P W0 o w C A a){x:Operand}{t e:TypeId}{id off m:Nat}{zs:List AV}{v:AV}(ho:o.op= .call { callee:=.builtin .clear,args:=#[x],argTypes:=#[t] })
  (hx:Is P W0 o A x (.row e id off m)) (ht:elT P t=some e) (he:0<af P e) (hz:zeroOf P e=some v) (hs:A.st[id]?=some (some (.cells e zs))) (hm:off+m<=zs.length):
  ∃r w',(execOp a.eval o).run P w= .ok (.value r) w'/\Step w C w' C/\aE P W0 w' C (A.st.set id (some (.cells e (j4 zs off (List.replicate m v)))))/\aJ P w' C (.tup []) r:=by
 obtain⟨inf,z,hi,hiz,hc,hf⟩:=kX (w:=w) (C:=C) hz;obtain⟨inf',hinf,hsz⟩:=bK he;obtain rfl:inf'=inf:=by simp_all
 have hcl:z.cells.size=af P e:=by have:=hc.bL hf;omega
 have htu:=bR ht;have hxv:=hx w C a hr;obtain⟨_,ad,cap,b,base,room,arr,t',fr,hxe,c1,c2,m1,m2,mf,m3,m4,e2,e3,hid,cf,m5⟩:=rX hr.st hxv he hs;have hidl:id<A.st.length:=(acG.1 hs).1;have hrel: ∀w',aJ P w' C (.tup []) (.tuple #[]):=λw'=>.tup (vs:=[]) rfl (λi a v h=>by simp at h)
 have hzv:(zeroValue e).run P w= .ok z w:=by simp_all[zeroValue,typeInfo]
 by_cases hm0:m=0
 .subst hm0;rw[show j4 zs off (List.replicate 0 v)=zs from Ah,show A.st.set id (some (.cells e zs))=A.st from by
   refine acZ λi=>?_
   grind]
  refine⟨_,w,?_,.refl _ _,hr.st,hrel _⟩;cases ad<;>simp[execOp,ho,resolve,invoke,builtin,hxe,Builtin.clear_,run_underlying htu]
 obtain rfl:=e2 (by omega);have hzm:Builtin.zeroCells z.cells m=madeCells z.cells (m*af P e):=by grind [Builtin.zeroCells,madeCells]
 have hll:(Builtin.zeroCells z.cells m).toList.length=m*af P e:=by grind [size_zeroCells]
 have hrl:(List.replicate m v).length=m:=by simp
 have h6:base+(off+m)*af P e<=arr.size:=by rw[m3];exact acM (adg (acJ _ hm) _) m4
 have hfit:base+off*af P e+(Builtin.zeroCells z.cells m).toList.length<=arr.size:=by
  grind
 have hone: ∀u∈(Builtin.zeroCells z.cells m).toList,u.oneCell'=true:=λu hu=>by
  grind [madeCells,Nat.mod_lt,Rel.nq]
 have hst:=fb P b (base+off*af P e) t' fr (Builtin.zeroCells z.cells m).toList 0 arr w m2 mf (by omega) hone;simp only[Nat.add_zero]at hst;have hsize:(bC arr (base+off*af P e) (Builtin.zeroCells z.cells m).toList).size=arr.size:=dP hfit;obtain⟨k1,k2⟩:=CH hr.st (zs:=j4 zs off (List.replicate m v)) (cf:=λi=>if off<=i/\i<off+m then z.cells.toList else cf i) hs m1 m2 mf m3 hsize (by grind [tw]) (λi x hx=>by
  rw[A5 (by omega),hrl]at hx;by_cases hi:off<=i/\i<off+m
  .rw[if_pos hi,List.getElem?_replicate,if_pos (by omega)]at hx;cases hx;simp only[hi,and_self,if_true];refine⟨hc,by omega,hf,λj u hj=>?_⟩;have hjl:j<af P e:=by grind
   have h5:(i-off+1)*af P e<=m*af P e:=acJ _ (by omega);rw[Nat.succ_mul]at h5;have hmul:i*af P e=off*af P e+(i-off)*af P e:=by rw[<-acY];simp_all
   rw[bQ hfit,if_pos (by omega),show base+i*af P e+j-(base+off*af P e)=(i-off)*af P e+j by omega,hzm,Array.getElem?_toList];grind [wm]
  .rw[if_neg hi]at hx;simp only[hi,if_false];obtain⟨q1,q2,q3,q4⟩:=m5 i x hx;refine⟨q1,q2,q3,λj u hj=>?_⟩;have hjl:j<af P e:=by grind
   rw[bQ hfit,if_neg ?_]
   .grind
   .rintro⟨b1,b2⟩;rw[hll]at b2;rcases adi i off with hlt|hge
    .have h5:(i+1)*af P e<=off*af P e:=acJ _ hlt;grind
    .have h5:(off+m)*af P e<=i*af P e:=acJ _ (by omega);grind)
 refine⟨_,_,?_,k1,k2,hrel _⟩;have esp:bC arr (base+off*af P e) (Builtin.zeroCells z.cells m).toList=(arr.toList.take (base+off*af P e)++(Builtin.zeroCells z.cells m).toList++arr.toList.drop (base+off*af P e+(Builtin.zeroCells z.cells m).toList.length)).toArray:=rfl;rw[esp];have hne: ∀(q:Nat),m=q->(Builtin.clear_ #[t] o.type #[.slice (some ⟨b,base+off*af P e,none⟩) q cap]).run P w= .ok (.tuple #[]) (w.setRow b (arr.toList.take (base+off*af P e)++(Builtin.zeroCells z.cells m).toList++arr.toList.drop (base+off*af P e+(Builtin.zeroCells z.cells m).toList.length)).toArray):=λq hq=>by
  simp_all[Builtin.clear_,run_underlying]
 simp_all[execOp,resolve,invoke,builtin]
theorem zt {t e te:TypeId}{x:Operand}{lo hi:Option Operand}{id off m p q:Nat}{zs:List AV}(ho:o.op= .slice t x lo hi none)(hx:Is P W0 o A x (.row e id off m))(ht:elT P t=some e)(he:0<af P e)
  (hlo:j5 P W0 o A lo 0 p) (hhi:j5 P W0 o A hi m q) (h1:p<=q) (hs:A.st[id]?=some (some (.cells te zs))) (h2:off+q<=zs.length):bj P W0 o A (.row e id (off+p) (q-p)):=
 .of_same λw C a hr=>by
  obtain⟨inf,hinf,hsz⟩:=bK he;obtain⟨_,ad,cap,b,base,room,arr,t',fr,hv,g1,g2,m1,m2,mf,m3,m4,e2,e3,hid,cf,m5⟩:=rX hr.st (hx w C a hr) he hs;have hb:=fw hr true hlo hhi h1 (show q<=cap by omega);have h:=(hx w C a hr).aH rfl;rw[hv]at h;cases h with
  |row _ _ _ h4=>
   refine⟨.slice (if cap=p then ad else ad.map (·.add (p*af P e))) (q-p) (cap-p),?_,.one rfl (.row (by omega) (by omega) hid (λow how=>?_))⟩
   .simp[execOp,ho,Instr.sliceAt,Instr.slice,run_underlying (bR ht),hv,hb,sizeOf,typeInfo,hinf,hsz]
   grind [Addr.add_lit]
theorem NX {t e:TypeId}{x lo hi mx:Operand}{id off m:Nat}{k1 k2 k3:IntKind}{p q r:Int}(ho:o.op= .slice t x (some lo) (some hi) (some mx))(hx:Is P W0 o A x (.row e id off m))(ht:elT P t=some e)(he:0<af P e)
  (hlo:Is P W0 o A lo (.int k1 p)) (hhi:Is P W0 o A hi (.int k2 q)) (hmx:Is P W0 o A mx (.int k3 r)) (h0:0<=p) (h1:p<=q) (h2:q<=r) (h3:r<=m):bj P W0 o A .undef:=
 .of_same λw C a hr=>by
  obtain⟨inf,hinf,hsz⟩:=bK he;have h:=(hx w C a hr).aH rfl;have⟨ad,cap,hv,g1⟩: ∃ad cap,a.eval x= .slice ad m cap/\m<=cap:=by
   generalize a.eval x=v at h;cases h with
   |row h1 h2 h3 h4=>grind
  have e1:=(hlo w C a hr).cF;have e2:=(hhi w C a hr).cF;have e3:=(hmx w C a hr).cF;have b1:=λc=>run_sliceBound (P:=P) (w:=w) k1 c (i:=p) (y:=q.toNat) h0 rfl (by omega)
  have b2:=λc=>run_sliceBound (P:=P) (w:=w) k2 c (i:=q) (y:=r.toNat) (by omega) rfl (by omega)
  have b3:=λc=>run_sliceBound (P:=P) (w:=w) k3 c (i:=r) (y:=cap) (by omega) rfl (by omega)
  refine⟨.slice (if r.toNat=p.toNat then ad else ad.map (·.add (p.toNat*af P e))) (q.toNat-p.toNat) (r.toNat-p.toNat),?_,.undef _⟩;simp[execOp,ho,Instr.sliceAt,Instr.slice,Instr.sliceBounds,run_underlying (bR ht),hv,e1,e2,e3,b1,b2,b3,sizeOf,typeInfo,hinf,hsz]
theorem Ph (P:Program)(w:World)(C:Ctx)(c:UInt8):Rel P w C (ba c) [.int .u8 c.toNat]:=.int _ _
theorem Tk (hr:eZ P W0 o w C A a){s d e:TypeId}{x:Operand}{l:List UInt8}(ho:o.op= .convert s d x)(hx:Is P W0 o A x (.str l))(hs:bV P s=true)(hd:elT P d=some e)(he:fZ P e=some .u8)(h1:af P e=1)(hp:ck P e=true):
  ∃r w' C',(execOp a.eval o).run P w= .ok (.value r) w'/\Step w C w' C'/\aE P W0 w' C' (A.st++[some (.cells e (l.map ba))])/\aJ P w' C' (.row e A.st.length 0 l.length) r:=by
 obtain⟨hxe,hlm⟩:=(hx w C a hr).gF;have hrun:=Lib.run_convert_string_bytes (P:=P) w s d e ⟨l.toArray⟩ (eH hs) (bR hd) (kI he);have hsz:(⟨l.toArray⟩:ByteArray).size=l.length:=by simp[ByteArray.size]
 rw[hsz]at hrun;have hge:=grownCap_ge w l.length 0 e;have hcap:=grownCap_le_maxLen w l.length 0 e hlm;have hml:(l.map ba).length=l.length:=adr ..;have hbs:(Lib.bytesCells w e ⟨l.toArray⟩).size=grownCap w l.length 0 e*af P e:=by
  grind [Lib.bytesCells]
 obtain⟨C',k1,k2,k3,k4⟩:=yu (P:=P) (W0:=W0) hr.st.drew (e:=e) (zs:=l.map ba) (cap:=grownCap w l.length 0 e) (arr:=Lib.bytesCells w e ⟨l.toArray⟩) (cf:=λi=>[.int .u8 ((l.getD i 0).toNat:Nat)]) (by omega) hcap hbs (λi x hx=>by
  rw[List.getElem?_map]at hx;obtain⟨c,hc,rfl⟩:=Option.map_eq_some_iff.1 hx;have hi:=(acG.1 hc).1;have hcd:l.getD i 0=c:=by simp_all
  rw[hcd];refine⟨Ph P _ _ c,by simp[h1],⟨rfl,hp⟩,λj u hj=>?_⟩;grind [Lib.bytesCells])
 rw[hml]at k3;have hw:Lib.bytesWorld w e ⟨l.toArray⟩=(w.drew.alloc (.cells (Lib.bytesCells w e ⟨l.toArray⟩) e)).freeze ⟨w.heap.size,(Lib.bytesCells w e ⟨l.toArray⟩).size,none⟩ 1:=rfl;have hdz:w.drew.heap.size=w.heap.size:=rfl;rw[hdz]at k4;have hnew:=Lib.bytesWorld_at_new w e ⟨l.toArray⟩;have hsize:=Lib.bytesWorld_size w e ⟨l.toArray⟩;have hsz1:(w.drew.alloc (.cells (Lib.bytesCells w e ⟨l.toArray⟩) e)).heap.size=w.heap.size+1:=by simp_all
 have hblk: ∀b,b≠w.heap.size->(Lib.bytesWorld w e ⟨l.toArray⟩).heap[b]?=(w.drew.alloc (.cells (Lib.bytesCells w e ⟨l.toArray⟩) e)).heap[b]?:=λb hb=>by
  grind [Lib.bytesWorld_at_old,RowKit.Below.heap_alloc,World.drew]
 have hstep:Step (w.drew.alloc (.cells (Lib.bytesCells w e ⟨l.toArray⟩) e)) C' (Lib.bytesWorld w e ⟨l.toArray⟩) C':=by
  refine⟨acP _,λ_ _ _ h=>h,λb i hst=>?_,rfl,rfl,rfl,by omega,λb hb hn=>?_⟩
  .have hbb:b≠w.heap.size:=λe1=>by
    obtain⟨_,_,_,e2,_⟩:=hst.2 _ _ k4 (by grind [Own.blk]);cases e2
   refine⟨by grind [World.cell?],by have:=hst.1;omega,hst.2⟩
  grind [Own.blk]
 refine⟨_,_,C',?_,((Step.drew w C).trans k1).trans hstep,?_,k3.mono hstep⟩
 .simp_all[execOp]
 .refine k2.change hstep k2.low k2.nx k2.inj k2.dom (λi=>?_);by_cases hi:i=A.st.length
  .left;subst hi;rw[k4,acQ (acP _),adB];have ho:=k2.obj A.st.length;rw[k4,acQ (acP _),adB]at ho;simp only[List.getElem?_cons_zero,adl]at ho ⊢;obtain⟨_,arr,t',fr,q1,q2,q3,q4,cf,q5⟩:=ho;have ea:arr=Lib.bytesCells w e ⟨l.toArray⟩:=by
    grind [heap_alloc_new]
   subst ea;refine⟨rfl,_,_,_,hnew,.inr (acP _),q3,q4,cf,λq z hz=>?_⟩;grind [Rel.mono]
  grind [aE.inj,Own.blk]
theorem Mg (hr:eZ P W0 o w C A a){s d e:TypeId}{x:Operand}{u:AV}{l:List UInt8}(ho:o.op= .convert s d x)(hx:Is P W0 o A x u)(hu:eV A.st u e (l.map ba))(hs:elT P s=some e)(he:fZ P e=some .u8)(h1:af P e=1)(hd:bV P d=true):
  ∃r,(execOp a.eval o).run P w= .ok (.value r) w/\aJ P w C (.str l) r:=by
 obtain⟨ad,cap,cf,hxe,y3,y4,y5⟩:=hu.cells hr.st (hx w C a hr);have hml:(l.map ba).length=l.length:=adr ..;rw[hml]at hxe y5;have hcap:l.length<=maxLen:=by
  have hv:=hx w C a hr;rcases hu with h|⟨rfl,h⟩|⟨id,off,m,zs,rfl,h2,h3,h4⟩
  .unfold AV.lN at h;rw[<-hml];split at h<;>cases h
   .obtain⟨_,_,_,_,x1,x2,_⟩:=(hv.aH rfl).nT (.inl rfl);omega
   .obtain⟨_,_,_,_,x1,x2,_⟩:=(hv.aH rfl).nT (.inr (.inl rfl));omega
   .obtain⟨_,_,_,_,x1,x2,_⟩:=(hv.aH rfl).nT (.inr (.inr ⟨_,rfl⟩));omega
  .grind
  .have hv':=hv.aH rfl;rw[hxe]at hv';cases hv' with
   |row hm1 hm2=>omega
 have hc1:=run_convert_bytes_string (P:=P) w s d e ad l.length cap (bR hs) (kI he) (eH hd);refine⟨.string ⟨l.toArray⟩,?_,.one rfl (.str hcap)⟩;have hfold: ∀(l:List UInt8) (b:ByteArray),((l.map λc=>((c.toNat:Nat):Int)).foldl (λr n=>r.push (UInt8.ofNat n.toNat)) b)=⟨b.data++l.toArray⟩:=λl=>by
  induction l with
  |nil=>simp_all
  |cons c l ih=>
   simp_all
 have hrun:(Conv.bytesToString (.slice ad l.length cap)).run P w= .ok (.string ⟨l.toArray⟩) w:=by
  by_cases hl0:l=[]
  .subst hl0;cases ad with
   |none=>rfl
   |some ad=>
    have:=run_bytesToString (P:=P) w ad 0 cap [] (by
     have:=run_loadCells_list (P:=P) (w:=w) ad [] (by simp);simp_all)
    exact(by simp_all:(Conv.bytesToString (.slice (some ad) 0 cap)).run P w= .ok (.string ByteArray.empty) w)
  .obtain⟨b,off,rfl,news,n1,n2,n3,n4⟩:=y5 (by grind);have hnews:news=(l.map λc=>((c.toNat:Nat):Int)).map (Value.int .u8):=by
    rw[h1,ade]at n1;refine acZ λi=>?_
    by_cases hi:i<l.length
    .obtain⟨c,hc⟩: ∃c,l[i]?=some c:=⟨_,acI hi⟩;have hx:(l.map ba)[i]?=some (ba c):=by simp_all
     have hcf:cf i=[.int .u8 c.toNat]:=by
      have:=y3 i _ hx;generalize cf i=z at this;cases this;rfl
     have:=n4 i _ hx 0 (.int .u8 c.toNat) (by simp_all);simp_all
    simp_all
   have hload:=run_loadCells_list (P:=P) (w:=w) ⟨b,off,none⟩ news (λj u hj=>by grind [Addr.add_lit]);rw[h1,ade]at n1;rw[n1]at hload;rw[hnews]at hload;have:=run_bytesToString (P:=P) w ⟨b,off,none⟩ l.length cap _ hload;simp_all
 simp_all[execOp]
theorem ID {b:Nat}{arr:Array Value}{t':TypeId}{fr:Nat×Nat}(hb:w.heap[b]?=some (.cells arr t' fr))(hf:uq fr arr.size):
  ∃fr',(w.freeze ⟨b,arr.size,none⟩ 1).heap[b]?=some (.cells arr t' fr')/\uq fr' arr.size/\(∀k,k≠b->(w.freeze ⟨b,arr.size,none⟩ 1).heap[k]?=w.heap[k]?)/\(w.freeze ⟨b,arr.size,none⟩ 1).heap.size=w.heap.size:=by
 grind [World.freeze,uq]
theorem zu (hr:eZ P W0 o w C A a){s e:TypeId}{x:Operand}{id off m:Nat}{xs:List AV}(ho:o.op= .convert s s x)(hx:Is P W0 o A x (.row e id off m))(hs:elT P s=some e)(he:fZ P e=some .u8)(h0:0<m)(hσ:A.st[id]?=some (some (.cells e xs)))(hm:off+m<=xs.length):
  ∃r w' C',(execOp a.eval o).run P w= .ok (.value r) w'/\Step w C w' C'/\aE P W0 w' C' (A.st.set id none)/\aJ P w' C' (.sl e ((xs.drop off).take m)) r:=by
 have hv:=hx w C a hr;obtain⟨b,base,room,arr,t',fr,m1,m2,mf,m3,m4,cf,m5⟩:=hr.st.cells hσ;obtain⟨cap,hxe⟩: ∃cap,a.eval x= .slice (some ⟨b,base+off*af P e,none⟩) m cap:=by
  have h1:=hv.aH rfl;generalize a.eval x=y at h1 ⊢;cases h1 with
  |row g1 g2 g3 g4=>
   obtain⟨b',base',room',e1,e2,e3⟩:=g4 _ m1;cases e1;exact⟨_,by rw[e2 (by omega)]⟩
 obtain⟨fr',f1,f2,f3,f4⟩:=ID (w:=w) m2 mf;obtain⟨w',hw'⟩: ∃w',w'=w.freeze ⟨b,arr.size,none⟩ 1:=⟨_,rfl⟩;rw[<-hw']at f1 f3 f4;have hcell: ∀ad:Addr,w'.cell? ad=w.cell? ad:=λad=>by
  grind [World.cell?]
 have hstep:Step w C w' C:=by
  refine⟨acP _,λ_ _ _ h=>h,λb' i hst=>⟨hcell _,by rw[f4];exact hst.1,hst.2⟩,?_,?_,?_,by omega,λb' hb' hn=>⟨f3 _ λe1=>hn _ _ m1 (by grind [Own.blk]),hn⟩⟩
  all_goals grind [World.freeze]
 have hst2:aE P W0 w' C A.st:=by
  refine hr.st.change hstep hr.st.low hr.st.nx hr.st.inj hr.st.dom λi=>?_
  by_cases hi:i=id
  .left;subst hi;rw[hσ,adl,m1];refine⟨rfl,arr,t',fr',f1,f2,m3,m4,cf,λi x hx=>?_⟩;grind [Rel.mono]
  .right;exact⟨rfl,rfl,λow how=>f3 _ λe1=>hi (hr.st.inj i _ ow _ how m1 (by grind [Own.blk]))⟩
 have hidl:=(acG.1 hσ).1;obtain⟨k1,k2⟩:=hst2.kill id hidl;refine⟨_,w',C.kill id,?_,hstep.trans k1,k2,nj hst2 (hv.mono hstep) hσ hm⟩;have hsh:w.shape? b=some (t',arr.size):=by grind [World.shape?]
 rw[hxe,hw'];simp[execOp,ho,hxe,convert,run_underlying (bR hs),run_underlying (kI he),markStringish,hsh]
theorem EP (hr:eZ P W0 o w C A a){t e:TypeId}{m:Nat}{ps:Array (Nat×Operand)}{qs:List (Nat×AV)}(ho:o.op= .buildSlice t m ps)(ht:elT P t=some e)(he:0<af P e)(hz:bn P e=true)(hm:m*af P e<=2^24)
  (hq:lD P W0 o A ps.toList qs) (hk:qs.map (·.1)=List.range' 0 m) (hf: ∀p∈qs,fits P e p.2):
  ∃r w' C',(execOp a.eval o).run P w= .ok (.value r) w'/\Step w C w' C'/\aE P W0 w' C' (A.st++[some (.cells e (qs.map (·.2)))])/\aJ P w' C' (.row e A.st.length 0 m) r:=by
 obtain⟨inf,z,hinf,hiz,_⟩:=e7 hz;have hsz:inf.size=af P e:=by grind [af]
 have hlen:qs.length=m:=by have:=congrArg List.length hk;grind
 have hzv:(zeroValue e).run P w= .ok z w:=by simp_all[zeroValue,typeInfo]
 have hsv:(sizeOf e).run P w= .ok (af P e) w:=by simp_all[sizeOf,typeInfo]
 have hbig: ¬m*af P e>2^24:=by omega
 have hrun: ∀arr:Array Value,arr.size=m*af P e-> ∃cells',Instr.fill (λi=>some (i*af P e,af P e)) arr (ps.toList.map λq=>(q.1,a.eval q.2))=some cells'/\cells'.size=arr.size/\(∀p,p<0*af P e->cells'[p]?=arr[p]?)/\Sp P w C e 0 (qs.map (·.2)) cells':=
  λarr harr=>mP m qs (ps.toList.map λq=>(q.1,a.eval q.2)) 0 arr (by simp_all) (by simpa using hq.1) harr (by omega) (hq.rel hr) hf
 have e1:(Array.map (λx=>(x.1,a.eval x.2)) ps).toList=ps.toList.map λq=>(q.1,a.eval q.2):=by simp
 obtain⟨zc,hzc⟩: ∃zc:Array Value,zc=if m*af P e=0 then #[]else z.cells:=⟨_,rfl⟩;obtain⟨cells',f1,f2,_,cf,f4⟩:=hrun ((Array.range (m*af P e)).map (zc[· % zc.size]!)) (by simp);have hl:(qs.map (·.2)).length=m:=by simp_all
 have hmax:m<=maxLen:=by
  have:m*1<=m*af P e:=Nat.mul_le_mul_left _ he;grind [maxLen]
 have hsize:cells'.size=m*af P e:=by simp_all
 obtain⟨C',k1,k2,k3,_⟩:=yu (P:=P) (W0:=W0) hr.st (e:=e) (zs:=qs.map (·.2)) (cap:=m) (arr:=cells') (cf:=cf) (by omega) hmax hsize (λi x hx=>by
  grind [Rel.bL])
 rw[hl]at k3;refine⟨_,_,C',?_,k1,k2,k3⟩;simp only[execOp,ho,Instr.buildSlice,Sem.run_bind,Result.andThen_ok,run_underlying (bR ht),hsv,hbig,if_false,Sem.run_pure];by_cases h0:m*af P e=0
 .rw[if_pos h0]at hzc ⊢;subst hzc;simp only[Sem.run_bind,Sem.run_pure,Result.andThen_ok];rw[e1,f1];simp only[newRow,newObj,Sem.run_bind,Sem.run_pure];rfl
 .rw[if_neg h0]at hzc ⊢;subst hzc;simp only[Sem.run_bind,Sem.run_pure,Result.andThen_ok,hzv];rw[e1,f1];simp only[newRow,newObj,Sem.run_bind,Sem.run_pure];rfl
end
section
variable {P :Program}{W0 w w':World}{C C':Ctx}{σ σ':ab}{n:Nat}{A:aa}{a:Act}{o:Oper}
theorem qF {t u e:TypeId}{i:TypeInfo}(ht:P.underlying t=some (.slice e))(hu:P.underlying u=some .string)(hi:P.info? e=some i)(ty:TypeId)(b:Option Addr)(l c:Nat){s:ByteArray}(hs:s.size=0)(hl:l<=c)(w:World):
  (Builtin.append_ #[t,u] ty #[.slice b l c,.string s]).run P w= .ok (.slice b l c) w:=by
 have he:s.data= #[]:=by
  simp_all
 cases b<;>simp[Builtin.append_,run_underlying ht,run_underlying hu,sizeOf,typeInfo,hi,Builtin.lenOf,hs,hl,Builtin.firstCells,he,loadCells,storeCells]
theorem Dk (hr:eZ P W0 o w C A a){x y:Operand}{t u e:TypeId}{v:AV}{xs:List AV}{l:List UInt8}(ho:o.op= .call { callee:=.builtin .append,args:=#[x,y],argTypes:=#[t,u] })
  (hx:Is P W0 o A x v) (hy:Is P W0 o A y (.str l)) (ht:elT P t=some e) (hu:bV P u=true) (he8:fZ P e=some .u8) (h1:af P e=1) (hp:ck P e=true) (he:0<af P e) (hz0:bn P e=true) (hb:Bld A.st v e xs)
  (hbytes:(xs.length+l.length)*bytesOf P e<=140737488355328) (hmax:xs.length+l.length<=maxLen):
  ∃r w' C' v' σ',(execOp a.eval o).run P w= .ok (.value r) w'/\App A.st v e (xs++l.map ba) v' σ'/\Step w C w' C'/\aE P W0 w' C' σ'/\aJ P w' C' v' r:=by
 obtain⟨inf,hinf,hsz⟩:=bK he;have htu:=bR ht;have hus:=eH hu;have hrun: ∀b l c yv r w',(Builtin.append_ #[t,u] o.type #[.slice b l c,yv]).run P w= .ok r w'->a.eval x= .slice b l c->a.eval y=yv->(execOp a.eval o).run P w= .ok (.value r) w':=λb l c yv r w' h h1 h2=>by
  simp_all[execOp,resolve,invoke,builtin]
 have hxv:=hx w C a hr;obtain⟨hye,hlm⟩:=(hy w C a hr).gF;obtain⟨s,hs⟩: ∃s:ByteArray,s=⟨l.toArray⟩:=⟨_,rfl⟩;rw[<-hs]at hye;obtain⟨ys,hys⟩: ∃ys:List AV,ys=l.map ba:=⟨_,rfl⟩;have hyl0:ys.length=l.length:=by simp_all
 have hss:s.size=ys.length:=by grind [ByteArray.size]
 rw[<-hys];rw[<-hyl0]at hbytes hmax;obtain⟨cfy,hcfy⟩: ∃cfy:Nat->List Value,cfy=λi=>[.int .u8 ((l.getD i 0).toNat:Nat)]:=⟨_,rfl⟩
 have hgy: ∀(i:Nat) (x:AV),ys[i]?=some x-> ∃c,l[i]?=some c/\x=ba c/\cfy i=[.int .u8 c.toNat]:=λi x hx=>by
  grind
 have y3: ∀(i:Nat) (x:AV),ys[i]?=some x->Rel P w C x (cfy i):=λi x hx=>by
  obtain⟨c,_,rfl,e1⟩:=hgy i x hx;rw[e1];exact .int _ _
 have y4: ∀i x,ys[i]?=some x->(cfy i).length=af P e/\fits P e x:=λi x hx=>by
  obtain⟨c,_,rfl,e1⟩:=hgy i x hx;rw[e1];exact⟨by simp[h1],⟨rfl,hp⟩⟩
 obtain⟨bx,cx,hxe,hlx⟩: ∃b c,a.eval x= .slice b xs.length c/\xs.length<=c:=by
  rcases hb with⟨rfl,rfl⟩|rfl|⟨tok,rfl,_⟩
  .grind [aJ.dX]
  .have:=hxv.aH rfl;generalize a.eval x=v at this;cases this with
   |lit=>grind
  .obtain⟨b,cap,cf,h1,h2,_⟩:=(hxv.aH rfl).uL;grind
 cases hyl:ys with
 |nil=>
  rw[hyl]at hss;refine⟨_,w,C,v,A.st,hrun _ _ _ _ _ _ (qF htu hus hinf _ _ _ _ (by omega) hlx w) hxe hye,⟨by simp_all,acP _,λ_ _ _=>rfl,.inl rfl⟩,.refl _ _,hr.st,by simp_all⟩
 |cons y0 yr=>
  rw[<-hyl];have hpos:0<ys.length:=by simp[hyl]
  obtain⟨news,hnews⟩: ∃news:List Value,news=Lib.strCells s:=⟨_,rfl⟩;have n1:news.length=ys.length*af P e:=by grind [Lib.strCells_length]
  have n3: ∀u∈news,u.oneCell'=true:=by grind [Lib.strCells_oneCell]
  have n4: ∀i x,ys[i]?=some x-> ∀(j:Nat) (u:Value),(cfy i)[j]?=some u->news[i*af P e+j]?=some u:=λi x hx j u hj=>by
   obtain⟨c,hc,rfl,e1⟩:=hgy i x hx;rw[e1]at hj;cases j with
   |succ j=>simp at hj
   |zero=>
    simp_all[Lib.strCells]
  have hsa:s.data.map (λb=>Value.int .u8 b.toNat)=news.toArray:=by grind [Lib.strCells]
  obtain⟨inf',z0,hinf',hiz,hzs⟩:=e7 hz0;obtain rfl:inf'=inf:=by simp_all
  have hmax':xs.length+ys.length<=9223372036854775807:=by grind [maxLen]
  rw[lV hinf]at hbytes;rcases hb with⟨rfl,rfl⟩|rfl|⟨tok,rfl,htok⟩
  ·-- a nil slice
   simp only[ads,ac3]at hbytes hmax hmax';have hxe':=hxv.dX;have hap:=run_append_nil_string (P:=P) w t u o.type e inf' z0 htu hus hinf hiz s (by omega) (by omega) (by grind);rw[hss,hsa]at hap;have hge:=grownCap_ge w ys.length 0 e;have hcap:=grownCap_le_maxLen w ys.length 0 e hmax;obtain⟨C',g1,g2,g3⟩:=pE (P:=P) (W0:=W0) hr.st.drew (e:=e) (zs:=ys) (cap:=grownCap w ys.length 0 e) (arr:=news.toArray++Builtin.zeroCells z0.cells (grownCap w ys.length 0 e-ys.length)) (cf:=cfy) hge hcap
    (by grind [size_zeroCells])
    (λi x hx=>⟨(y3 i x hx).mono (Step.drew w C),(y4 i x hx).1,(y4 i x hx).2,λj u hj=>by
     grind⟩)
   refine⟨_,_,C',_,_,hrun _ _ _ _ _ _ hap hxe' hye,⟨.inr (.inr ⟨_,rfl,by simp⟩),by simp,λid hid _=>by grind,.inr ⟨_,rfl,acP _⟩⟩,(Step.drew w C).trans g1,g2,g3⟩
  ·-- a list as long as its row
   obtain⟨adx,capx,cfx,hxq,x1,x2,x3,x4,x5⟩:=(hxv.aH rfl).nT (.inr (.inl rfl));have hcx:capx=xs.length:=by
    have:=hxv.aH rfl;rw[hxq]at this;cases this;rfl
   subst hcx;have hlen:(xs++ys).length=xs.length+ys.length:=by simp
   have hgetl: ∀i x,(xs++ys)[i]?=some x->(i<xs.length/\xs[i]?=some x)\/(xs.length<=i/\ys[i-xs.length]?=some x):=λi x hx=>by
    grind
   have hge:=grownCap_ge w (xs.length+ys.length) xs.length e;have hcap:=grownCap_le_maxLen w (xs.length+ys.length) xs.length e hmax;have fin: ∀(olds:List Value),olds.length=xs.length*af P e->(∀i x,xs[i]?=some x-> ∀(j:Nat) (u:Value),(cfx i)[j]?=some u->olds[i*af P e+j]?=some u)->
     (Builtin.append_ #[t,u] o.type #[.slice adx xs.length xs.length,a.eval y]).run P w= .ok (.slice (some ⟨w.heap.size,0,none⟩) (xs.length+ys.length) (grownCap w (xs.length+ys.length) xs.length e)) (w.drew.alloc (.cells (olds.toArray++news.toArray++Builtin.zeroCells z0.cells (grownCap w (xs.length+ys.length) xs.length e-(xs.length+ys.length))) e))->
     ∃r w' C' v' σ',(execOp a.eval o).run P w= .ok (.value r) w'/\App A.st (.lit e xs) e (xs++ys) v' σ'/\Step w C w' C'/\aE P W0 w' C' σ'/\aJ P w' C' v' r:=λolds p1 p4 hap=>by
    obtain⟨C',g1,g2,g3⟩:=pE (P:=P) (W0:=W0) hr.st.drew (e:=e) (zs:=xs++ys) (cap:=grownCap w (xs.length+ys.length) xs.length e)
     (arr:=olds.toArray++news.toArray++Builtin.zeroCells z0.cells (grownCap w (xs.length+ys.length) xs.length e-(xs.length+ys.length))) (cf:=λi=>if i<xs.length then cfx i else cfy (i-xs.length)) (by omega) hcap
     (by grind [size_zeroCells])
     (λi x hx=>by
      rcases hgetl i x hx with⟨hi,hx'⟩|⟨hi,hx'⟩
      .simp only[hi,if_true];refine⟨(x3 i x hx').mono (Step.drew w C),(x4 i x hx').1,(x4 i x hx').2,λj u hj=>?_⟩;grind
      .simp only[show ¬i<xs.length by omega,if_false];refine⟨(y3 _ x hx').mono (Step.drew w C),(y4 _ x hx').1,(y4 _ x hx').2,λj u hj=>?_⟩;have:=n4 _ x hx' j u hj;have hl:=(acG.1 this).1;have hmul:i*af P e=xs.length*af P e+(i-xs.length)*af P e:=by grind
       rw[acO (by grind),acV (by grind)];simp only[acU,p1,ac0];rw[show i*af P e+j-xs.length*af P e=(i-xs.length)*af P e+j by omega];exact this)
    rw[hlen]at g3;exact⟨_,_,C',_,_,hrun _ _ _ _ _ _ hap hxq rfl,⟨.inr (.inr ⟨_,rfl,by simp⟩),by simp,λid hid _=>by grind,.inr ⟨_,rfl,acP _⟩⟩,(Step.drew w C).trans g1,g2,g3⟩
   rw[hye]at fin;cases adx with
   |none=>
    have hx0:xs=[]:=by
     cases xs with
     |nil=>rfl
     |cons c r=>obtain⟨b,off,e1,_⟩:=x5 (by simp);cases e1
    subst hx0;simp only[ads,ac3]at hbytes hmax hmax' fin;have hap:=run_append_nil_string (P:=P) w t u o.type e inf' z0 htu hus hinf hiz s (by omega) (by omega) (by grind);rw[hss,hsa]at hap;exact fin [] (by simp) (by simp) (by grind)
   |some b0=>
    have hcells: ∃olds:List Value,olds.length=xs.length*af P e/\(∀(j:Nat) (u:Value),olds[j]?=some u->w.cell? (b0.add j)=some u)/\ ∀i x,xs[i]?=some x-> ∀(j:Nat) (u:Value),(cfx i)[j]?=some u->olds[i*af P e+j]?=some u:=by
     by_cases hxl:xs=[]
     .subst hxl;exact⟨[],by simp,by simp,by simp⟩
     .have hxp:0<xs.length:=by grind
      obtain⟨bx',ox',e1,x6⟩:=x5 hxp;cases e1;obtain⟨olds,p1,p2,p3,p4⟩:=iS x3 x4 x6;exact⟨olds,p1,λj u hj=>by grind [Addr.add_lit],p4⟩
    obtain⟨olds,p1,p2,p4⟩:=hcells;have hap:=Lib.run_append_grow_string (P:=P) w t u o.type e inf' z0 htu hus hinf hiz b0 xs.length xs.length olds (by grind) p2 s (by omega) (by omega) (by rw[hss];exact growslice_fits (by omega) hbytes);rw[hss,<-hnews]at hap;exact fin olds p1 p4 hap
  ·-- a row of the call's own
   obtain⟨b,cap,cf,hxq,c1,c2,c3,c4,c5,c6⟩:=(hxv.aH rfl).uL;obtain⟨b',e',hw,cap',arr,t1,t2,t3,t4⟩:=hr.st.tok htok;have t5:=c6 _ t1;cases t5;have htl:tok<A.st.length:=(acG.1 htok).1;have hlen:(xs++ys).length=xs.length+ys.length:=by simp
   have hgetl: ∀i x,(xs++ys)[i]?=some x->(i<xs.length/\xs[i]?=some x)\/(xs.length<=i/\ys[i-xs.length]?=some x):=λi x hx=>by
    grind
   have hxcells: ∀(i:Nat) (x:AV),xs[i]?=some x-> ∀(j:Nat) (u:Value),(cf i)[j]?=some u->arr[i*af P e+j]?=some u/\i*af P e+j<xs.length*af P e:=λi x hx j u hj=>by
    have hi:=(acG.1 hx).1;obtain⟨b2,o2,e2,hc⟩:=c5 (by omega);cases e2;have h1:=(hc i hi j u hj).1;grind [World.cell?]
   by_cases hroom:xs.length+ys.length<=cap
   ·-- in place
    have hfit:xs.length*af P e+news.length<=arr.size:=by grind
    have hap:=Lib.run_append_room_string (P:=P) w t u o.type e inf' htu hus hinf (by omega) b xs.length cap arr t2 s (by omega) (by grind);rw[hss,<-hnews]at hap;have hsp:(arr.toList.take xs.length++news++arr.toList.drop (xs.length+ys.length)).toArray=bC arr (xs.length*af P e) news:=by
     unfold bC;rw[n1,h1,ade,ade]
    rw[hsp]at hap;obtain⟨C',g1,g2,g3,g4,g5⟩:=Eo hr.st htok t1 t2 t3 hfit;have hnewcell: ∀i,(w.setRow b (bC arr (xs.length*af P e) news)).cell? ⟨b,i,none⟩=(bC arr (xs.length*af P e) news)[i]?:=λi=>cell_setRow_same w b i arr _ e _ t2
    refine⟨_,_,C',.own e (xs++ys) A.st.length,_,hrun _ _ _ _ _ _ hap hxq hye,⟨.inr (.inr ⟨_,rfl,by simp⟩),by simp,λid hid hne=>?_,.inr ⟨_,rfl,acP _⟩⟩,g1,g2,?_⟩
    .grind [fJ]
    .rw[<-hlen];refine .one rfl (.own (λi=>if i<xs.length then cf i else cfy (i-xs.length)) (by omega) c2 (λi x hx=>?_) (λi x hx=>?_) (λ_=>⟨b,0,rfl,λi hi j u hj=>?_⟩) (by omega) (λow how=>?_))
     .grind [Rel.mono]
     .grind
     .have hst: ∀k,k<xs.length*af P e+news.length->fG (w.setRow b (bC arr (xs.length*af P e) news)) C' b k:=λk hk=>
       ⟨by simpa using (acH.1 t2).1,λid ow hm hbk=>⟨_,_,_,g5 id ow hm hbk,hk⟩⟩
      rw[hnewcell,ac3,bQ hfit];by_cases hix:i<xs.length
      .simp only[hix,if_true]at hj;obtain⟨q1,q2⟩:=hxcells i _ (acI hix) j u hj;grind
      .simp only[hix,if_false]at hj;rw[hlen]at hi;have hyi:=acI (show i-xs.length<ys.length by omega);have hnw:=n4 _ _ hyi j u hj;have hnl:=(acG.1 hnw).1;have hmul:i*af P e=xs.length*af P e+(i-xs.length)*af P e:=by grind
       rw[if_pos (by omega),show i*af P e+j-xs.length*af P e=(i-xs.length)*af P e+j by omega];grind
     grind
   ·-- a new row
    obtain⟨olds,p1,p2,p3,p4⟩:=iS (P:=P) (e:=e) (b:=b) (off:=0) c3 c4 (λi hi=>by
     obtain⟨b2,o2,e2,hc⟩:=c5 (by omega);grind)
    have hap:=Lib.run_append_grow_string (P:=P) w t u o.type e inf' z0 htu hus hinf hiz ⟨b,0,none⟩ xs.length cap olds (by grind) (λj u hj=>by grind [Addr.add_lit]) s (by omega) (by omega) (by rw[hss];exact growslice_fits (by omega) hbytes);rw[hss,<-hnews]at hap;have hge:=grownCap_ge w (xs.length+ys.length) cap e;have hcap:=grownCap_le_maxLen w (xs.length+ys.length) cap e hmax;obtain⟨k1,k2⟩:=hr.st.kill tok htl;obtain⟨C',g1,g2,g3⟩:=pE (P:=P) (W0:=W0) k2.drew (e:=e) (zs:=xs++ys) (cap:=grownCap w (xs.length+ys.length) cap e)
     (arr:=olds.toArray++news.toArray++Builtin.zeroCells z0.cells (grownCap w (xs.length+ys.length) cap e-(xs.length+ys.length))) (cf:=λi=>if i<xs.length then cf i else cfy (i-xs.length)) (by omega) hcap
     (by grind [size_zeroCells])
     (λi x hx=>by
      have hs:=k1.trans (Step.drew w _);rcases hgetl i x hx with⟨hi,hx'⟩|⟨hi,hx'⟩
      .grind [Rel.mono]
      .simp only[show ¬i<xs.length by omega,if_false];refine⟨(y3 _ x hx').mono hs,(y4 _ x hx').1,(y4 _ x hx').2,λj u hj=>?_⟩;have:=n4 _ x hx' j u hj;have hl:=(acG.1 this).1;have hmul:i*af P e=xs.length*af P e+(i-xs.length)*af P e:=by grind
       rw[acO (by grind),acV (by grind)];simp only[acU,p1,ac0];rw[show i*af P e+j-xs.length*af P e=(i-xs.length)*af P e+j by omega];exact this)
    rw[hlen]at g3;rw[List.length_set]at g3;refine⟨_,_,C',_,_,hrun _ _ _ _ _ _ hap hxq hye,⟨.inr (.inr ⟨A.st.length,rfl,by simp⟩),by simp,λid hid hne=>?_,.inr ⟨_,rfl,acP _⟩⟩,(k1.trans (Step.drew w _)).trans g1,g2,g3⟩;grind [fJ]
end
section
variable {P :Program}{W0 w w':World}{C C':Ctx}{σ σ':ab}{n:Nat}{A:aa}{a:Act}{o:Oper}{fz:List Nat}{K:aa->Prop}
theorem cY {v:Value}(hrun:(execOp a.eval o).run P w= .ok (.value v) w'){next:Act->World->Prop}{Qx:Exit->Act->World->Prop}(h:next (a.put o.dst v) w'):o.wp P a w next Qx:=by
 unfold Oper.wp;rw[hrun];exact h
theorem pk (hrun:(execOp a.eval o).run P w= .ok .skip w'){next:Act->World->Prop}{Qx:Exit->Act->World->Prop}(h:next (a.put o.dst undef) w'):o.wp P a w next Qx:=by
 unfold Oper.wp;rw[hrun];exact h
theorem cd {x:Operand}(hm:x∈o.op.operands){k:AV->Prop}(h:strip none (A.val x) k): ∃u,k u/\Is P W0 o A x u:=aZ (gd:=none) hm h
theorem oN {xs:List Operand}(hm: ∀x∈xs,x∈o.op.operands){k:List AV->Prop}(h:stripL none (xs.map A.val) k): ∃us,k us/\IsL P W0 o A xs us:=ij (gd:=none) _ _ hm h
theorem HV (hr:bG P W0 n w C A a)(hd:j0 n o.dst){t:TypeId}{x y:Operand}{u v:AV}(ho:o.op= .store t x y)(hx:Is P W0 o A x u)(hy:Is P W0 o A y v)
  (h:mD P fz A t x u v λA'=>K (A'.put o.dst .undef)) {next:Act->World->Prop} {Qx:Exit->Act->World->Prop}
  (hn: ∀A' C' a' w',K A'->bG P W0 n w' C' A' a'->Step w C w' C'->next a' w'):o.wp P a w next Qx:=by
 unfold mD at h;split at h
 .obtain⟨⟨rfl,hf⟩,h⟩:=h;rename_i t' id i path;split at h
  .rename_i te xs hs;split at h
   .rename_i z hz;split at h
    .rename_i y0 hy0;split at h
     .rename_i d;have hl:look A.st id i path=some y0:=by grind [look]
      obtain⟨w',r1,r2,r3⟩:=sn (hr.toO o) ho hx hy hl (gb hf) hs hz;have hidl:id<A.st.length:=(acG.1 hs).1;split at h
      ·-- given up
       obtain⟨rfl,h⟩:=h;have hzz:z=y0:=by grind [AV.at]
       subst hzz;have hi:i<xs.length:=(acG.1 hz).1;have hset:z.setAt [] v=v:=by cases z<;>rfl
       rw[hset]at r3;have hs':(A.st.set id (some (.cells te (xs.set i v))))[id]?=some (some (.cells te (xs.set i v))):=by simp_all
       have hv:=(hx w C a (hr.toO o)).mono r2;have hfr:=mF (x:=v) r3 hv hs' (by simp[hi]);obtain⟨k1,k2⟩:=r3.kill id (by simp_all);rw[List.set_set]at k2;have hr1:=hr.step (r2.trans k1) k2;have hdn:d<n:=by
        grind [bG.size,Act.eval,undef,aJ.rq]
       have hr2:bG P W0 n w' (C.kill id) ((A.upd d (.loc t' v)).ay (A.st.set id none)) a:=by
        refine⟨λj=>?_,hr1.defers,hr1.size,hr1.st⟩;by_cases hj:j=d
        .subst hj;have hfr':aJ P w' (C.kill id) (.loc t' v) (a.tmps.getD j undef):=hfr;grind [aa.upd,aa.ay]
        .have:=hr1.env j;grind [aa.upd,aa.ay]
       have hr3:=nA (o:=o) (v:=.undef) (x:=undef) hr2 hd (.undef _);grind [pk,Step.trans]
      .have hr1:=hr.step r2 r3;have hr3:=nA (o:=o) (v:=.undef) (x:=undef) hr1 hd (.undef _);exact pk r1 (hn _ _ _ _ h hr3 r2)
     simp_all
    simp_all
   simp_all
  simp_all
 simp_all
def O4 (fz:List Nat):Op->Prop
 | .store _ (.tmp d) _=>fz.contains d=false
 |_=>True
theorem EE (hr:eZ P W0 o w C A a){t:TypeId}{x y:Operand}{u v:AV}(ho:o.op= .store t x y)(hnf:O4 fz (.store t x y))(hx:Is P W0 o A x u)(hy:Is P W0 o A y v)
  (h:mD P fz A t x u v λA'=>K (A'.put o.dst .undef)) {next:Act->World->Prop} {Qx:Exit->Act->World->Prop}
  (hn: ∀v x σ' w' C',K ((A.put o.dst v).ay σ')->aJ P w' C' v x->aE P W0 w' C' σ'->Step w C w' C'->next (a.put o.dst x) w'):o.wp P a w next Qx:=by
 unfold mD at h;split at h
 .obtain⟨⟨rfl,hf⟩,h⟩:=h;rename_i t' id i path;split at h
  .rename_i te xs hs;split at h
   .rename_i z hz;split at h
    .rename_i y0 hy0;split at h
     .rename_i d;have hl:look A.st id i path=some y0:=by grind [look]
      obtain⟨w',r1,r2,r3⟩:=sn hr ho hx hy hl (gb hf) hs hz;rw[if_neg (by grind [O4])]at h;refine pk r1 (hn .undef undef _ w' C ?_ (.undef _) r3 r2);have e: ∀σ,(A.ay σ).put o.dst .undef=(A.put o.dst .undef).ay σ:=λσ=>by cases o.dst<;>rfl
      simp_all
     simp_all
    simp_all
   simp_all
  simp_all
 simp_all
theorem xP (hr:eZ P W0 o w C A a)(hnf:O4 fz o.op)(h:yR P W0 n fz o A K){next:Act->World->Prop}{Qx:Exit->Act->World->Prop}
  (hn: ∀v x σ' w' C',K ((A.put o.dst v).ay σ')->aJ P w' C' v x->aE P W0 w' C' σ'->Step w C w' C'->next (a.put o.dst x) w'):o.wp P a w next Qx:=by
 have hval:kS P W0 none o.op A (λv=>K (A.put o.dst v))->o.wp P a w next Qx:=λh=>by
  obtain⟨v,hK,hp⟩:=gV hr h;exact hp w C a hr _ _ λx w' hv hs hst=>hn v x A.st w' C (by
   have e:(A.put o.dst v).ay A.st=A.put o.dst v:=by cases o.dst<;>rfl
   rw[e];exact hK) hv hst hs
 obtain⟨hd,h⟩:=h;split at h
 .rename_i c hc;obtain⟨callee,args,argTypes⟩:=c;split at h
  .rename_i f hf;simp only at hf;subst hf;obtain⟨fv,h,hfv⟩:=cd (P:=P) (W0:=W0) (o:=o) (by simp[*,Op.operands,Call.operands]) h;obtain⟨us,h,hus⟩:=oN (P:=P) (W0:=W0) (o:=o) (λy hy=>by simp[*,Op.operands,Call.operands];simp at hy;simp[hy]) h;split at h
   .refine Er hr hc hfv hus h (λv r σ' w' C' hK hst hv hs=>hn r v σ' w' C' hK hv hst hs)
   .exact h.elim
  .rename_i hf;simp only at hf;subst hf;obtain⟨us,h2,hus⟩:=oN (P:=P) (W0:=W0) (o:=o) (λy hy=>by simp[*,Op.operands,Call.operands];simp at hy;simp[hy]) h;clear h;split at h2
   .obtain⟨x,y,hxy,hx,hy⟩:=qy hus;simp only at hxy;subst hxy;rcases h2 with h2|h2|h2|h2|h2|h2
    .unfold rn at h2;split at h2
     .rename_i ts t u hts;obtain rfl:argTypes= #[t,u]:=by rw[<-acN (xs:=argTypes)];simp only at hts;rw[hts]
      obtain⟨e,xs,ys,⟨h1,h2,h3,h4⟩,h5,h6,h7,h8,h9⟩:=h2;obtain⟨r,w',C',v',σ',g1,g2,g3,g4,g5⟩:=Lz hr hc hx hy h1 h2 h3 h4 h5 h6 h7 h8;exact cY g1 (hn v' r σ' w' C' (h9 v' σ' g2) g5 g4 g3)
     .exact h2.elim
    .unfold lC at h2;split at h2
     .rename_i ts t u hts;obtain rfl:argTypes= #[t,u]:=by rw[<-acN (xs:=argTypes)];simp only at hts;rw[hts]
      obtain⟨e,xs,ys,⟨h1,h2,h3,h4⟩,h5,h6,h7,h8,h9,h10⟩:=h2;obtain⟨r,w',C',v',σ',g1,g2,g3,g4,g5⟩:=Dv hr hc hx hy h1 h2 h3 h4 h5 h6 h7 h8;refine cY g1 (hn v' r σ' w' C' ?_ g5 g4 g3);rcases g2 with⟨e1,rfl,rfl⟩|⟨e1,rfl,rfl⟩
      .exact h9 e1
      .exact h10 e1
     .exact h2.elim
    .unfold kg at h2;split at h2
     .rename_i ts t u hts;obtain rfl:argTypes= #[t,u]:=by rw[<-acN (xs:=argTypes)];simp only at hts;rw[hts]
      obtain⟨e,m,z,k,kn,⟨rfl,rfl⟩,⟨h1,h2,h3,h4,h5⟩,h6,h7,h8,h9⟩:=h2;obtain⟨r,w',C',g1,g2,g3,g4⟩:=yL hr hc hx hy h1 h2 h3 h5 h6 h7 h8;exact cY g1 (hn _ r _ w' C' h9 g4 g3 g2)
     .exact h2.elim
    .unfold mN at h2;split at h2
     .rename_i ts t u hts;obtain rfl:argTypes= #[t,u]:=by rw[<-acN (xs:=argTypes)];simp only at hts;rw[hts]
      obtain⟨e,id,off,m,zs,ys,⟨h1,h2,h3⟩,rfl,h4,h5,h6,h7⟩:=h2;obtain⟨r,w',g1,g2,g3,g4⟩:=FY hr hc hx hy h1 h2 h3 h4 h5 h6;exact cY g1 (hn _ r _ w' C h7 g4 g3 g2)
     .exact h2.elim
    .unfold j9 at h2;split at h2
     .rename_i ts t u hts;obtain rfl:argTypes= #[t,u]:=by rw[<-acN (xs:=argTypes)];simp only at hts;rw[hts]
      obtain⟨e,id,off,m,zs,ys,⟨h1,h2,h3,h4⟩,rfl,h5,h6,h7,h8,h9,h10,h11⟩:=h2;obtain⟨r,w',C',v',σ',g1,g5,g2,g3,g4⟩:=zB hr hc hx hy h1 h2 h3 h4 h5 h6 h7 h8 h9;rcases g5 with⟨rfl,rfl⟩|⟨rfl,rfl⟩
      .exact cY g1 (hn _ r _ w' C' h10 g4 g3 g2)
      .exact cY g1 (hn _ r _ w' C' h11 g4 g3 g2)
     .exact h2.elim
    .unfold lj at h2;split at h2
     .rename_i ts t u hts;obtain rfl:argTypes= #[t,u]:=by rw[<-acN (xs:=argTypes)];simp only at hts;rw[hts]
      obtain⟨e,xs,l,⟨h1,h3,h4,h5,h6,h7⟩,h8,rfl,h9,h10,h11⟩:=h2;obtain⟨r,w',C',v',σ',g1,g5,g2,g3,g4⟩:=Dk hr hc hx hy h1 h3 h4 h5 h6 (by rw[h5];decide) h7 h8 h9 h10;exact cY g1 (hn _ r _ w' C' (h11 v' σ' g5) g4 g3 g2)
     .exact h2.elim
   .exact h2.elim
  .rename_i hf;simp only at hf;subst hf;obtain⟨us,h2,hus⟩:=oN (P:=P) (W0:=W0) (o:=o) (λy hy=>by simp[*,Op.operands,Call.operands];simp at hy;simp[hy]) h;clear h;split at h2
   .obtain⟨x,hxy,hx⟩:=je hus;simp only at hxy;subst hxy;unfold vh at h2;split at h2
    .rename_i ts t hts;obtain rfl:argTypes= #[t]:=by rw[<-acN (xs:=argTypes)];simp only at hts;rw[hts]
     obtain⟨e,id,off,m,zs,v,⟨h1,h2,h3⟩,rfl,h4,h5,h6⟩:=h2;obtain⟨r,w',g1,g2,g3,g4⟩:=Rs hr hc hx h1 h2 h3 h4 h5;exact cY g1 (hn _ r _ w' C h6 g4 g3 g2)
    .exact h2.elim
   .exact h2.elim
  .exact hval h
 .rename_i t x hop;split at h
  .rename_i d hdst;split at h
   .obtain⟨v,h,hv⟩:=cd (P:=P) (W0:=W0) (o:=o) (by simp[*,Op.operands]) h;exact(R1 hop hv (gb h.1)).pure w C a hr _ _ λx w' hv hs hst=>hn _ x A.st w' C (by
     have e:(A.put o.dst (.loc t v)).ay A.st=A.put o.dst (.loc t v):=by cases o.dst<;>rfl
     rw[e,hdst];exact h.2) hv hst hs
   .obtain⟨v,h,hv⟩:=cd (P:=P) (W0:=W0) (o:=o) (by simp[*,Op.operands]) h;obtain⟨y,w',C',g1,g2,g3,g4⟩:=WM hr hop hv (gb h.1);exact cY g1 (hn _ y _ w' C' (by rw[hdst];exact h.2) g2 g4 g3)
  .exact h.elim
 .rename_i t hop;split at h
  .rename_i v hz;obtain⟨y,w',C',g1,g2,g3,g4⟩:=Mu hr hop hz;exact cY g1 (hn _ y _ w' C' h g2 g4 g3)
  .exact h.elim
 .rename_i t x y hop;obtain⟨u,h,hu⟩:=cd (P:=P) (W0:=W0) (o:=o) (by simp[*,Op.operands]) h;obtain⟨v,h,hv⟩:=cd (P:=P) (W0:=W0) (o:=o) (by simp[*,Op.operands]) h;unfold BQ at h;split at h
  .obtain⟨rfl,h⟩:=h;split at h
   .rename_i e he;split at h
    .rename_i z hz;obtain⟨h1,h2,h3,h4,h5⟩:=h;obtain⟨r,w',C',g1,g2,g3,g4⟩:=Di hr hop hu hv he hz h1 h2 h3 h4;exact cY g1 (hn _ r _ w' C' h5 g4 g3 g2)
    .exact h.elim
   .exact h.elim
  .exact h.elim
 .rename_i t x y hop;obtain⟨u,h,hu⟩:=cd (P:=P) (W0:=W0) (o:=o) (by simp[*,Op.operands]) h;obtain⟨v,h,hv⟩:=cd (P:=P) (W0:=W0) (o:=o) (by simp[*,Op.operands]) h;exact EE hr hop (by rw[hop]at hnf;exact hnf) hu hv h hn
 .rename_i t x hop;obtain⟨ht,h⟩:=h;obtain⟨u,h,hu⟩:=cd (P:=P) (W0:=W0) (o:=o) (by simp[*,Op.operands]) h;split at h
  .obtain⟨y,w',C',g1,g2,g3,g4⟩:=Rr hr hop hu (eH ht);exact cY g1 (hn _ y _ w' C' h g2 g4 g3)
  .exact h.elim
 .rename_i x hop;obtain⟨u,h,hu⟩:=cd (P:=P) (W0:=W0) (o:=o) (by simp[*,Op.operands]) h;split at h
  .split at h
   .rename_i l pos hs;rcases adi pos l.length with hp|hp
    .obtain⟨y,w',g1,g2,g3,g4⟩:=Og hr hop hu hs hp;exact cY g1 (hn _ y _ w' C (h.1 hp) g2 g4 g3)
    .obtain⟨y,g1,g2⟩:=Ny hr hop hu hs hp;exact cY g1 (hn _ y A.st w C (by
      have e:(A.put o.dst (.tup [.bool false])).ay A.st=A.put o.dst (.tup [.bool false]):=by cases o.dst<;>rfl
      rw[e];exact h.2 hp) g2 hr.st (.refl _ _))
   .exact h.elim
  .exact h.elim
 .rename_i t x lo hi mx hop;rcases h with h|h
  .exact hval h
  obtain⟨u,h,hu⟩:=cd (P:=P) (W0:=W0) (o:=o) (by simp[*,Op.operands]) h;have fin: ∀v,bj P W0 o A v->K (A.put o.dst v)->o.wp P a w next Qx:=λv hv hK=>hv.pure w C a hr _ _ λx w' hv hs hst=>hn v x A.st w' C (by
   have e:(A.put o.dst v).ay A.st=A.put o.dst v:=by cases o.dst<;>rfl
   rw[e];exact hK) hv hst hs
  unfold HK at h;split at h
  .obtain⟨⟨h1,h2⟩,h⟩:=h;split at h
   .obtain⟨p,h,hp⟩:=cL (P:=P) (W0:=W0) (o:=o) (gd:=none) (λy hy=>by simp[hop,Op.operands,hy]) h;obtain⟨q,h,hq⟩:=cL (P:=P) (W0:=W0) (o:=o) (gd:=none) (λy hy=>by simp[hop,Op.operands,hy]) h;obtain⟨⟨h3,te,zs,h4,h5⟩,hK⟩:=h;exact fin _ (zt hop hu h1 h2 hp hq h3 h4 h5) hK
   .obtain⟨⟨hl,hh⟩,h⟩:=h;obtain⟨y1,rfl⟩:=acK.1 hl;obtain⟨y2,rfl⟩:=acK.1 hh;rename_i y3;obtain⟨p,h,hp⟩:=cL (P:=P) (W0:=W0) (o:=o) (gd:=none) (λy hy=>by cases hy;simp[hop,Op.operands]) h;obtain⟨q,h,hq⟩:=cL (P:=P) (W0:=W0) (o:=o) (gd:=none) (λy hy=>by cases hy;simp[hop,Op.operands]) h;obtain⟨r,h,hr'⟩:=cL (P:=P) (W0:=W0) (o:=o) (gd:=none) (λy hy=>by cases hy;simp[hop,Op.operands]) h;obtain⟨⟨h3,h4,h5⟩,hK⟩:=h;obtain⟨k1,i1,p1,p2,p3⟩:=hp;obtain⟨k2,i2,q1,q2,q3⟩:=hq;obtain⟨k3,i3,r1,r2,r3⟩:=hr';exact fin _ (NX hop hu h1 h2 p1 q1 r1 p2 (by omega) (by omega) (by omega)) hK
  .exact h.elim
 .rename_i s d x hop;rcases h with h|h
  .exact hval h
  obtain⟨u,h,hu⟩:=cd (P:=P) (W0:=W0) (o:=o) (by simp[*,Op.operands]) h;rcases h with⟨l,e,rfl,⟨h1,h2,h3,h4,h5⟩,hK⟩|⟨l,e,h0,⟨h1,h2,h3,h4⟩,hK⟩|⟨e,id,off,m,xs,rfl,⟨rfl,h1,h2⟩,h3,h4,h5,hK⟩
  .obtain⟨y,w',C',g1,g2,g3,g4⟩:=Tk hr hop hu h1 h2 h3 h4 h5;exact cY g1 (hn _ y _ w' C' hK g4 g3 g2)
  .obtain⟨y,g1,g2⟩:=Mg hr hop hu h0 h1 h2 h3 h4;exact cY g1 (hn _ y _ w C hK g2 hr.st (.refl _ _))
  .obtain⟨y,w',C',g1,g2,g3,g4⟩:=zu hr hop hu h1 h2 h3 h4 h5;exact cY g1 (hn _ y _ w' C' hK g4 g3 g2)
 .rename_i t m ps hop;rcases h with h|h
  .exact hval h
  obtain⟨qs,h,hq⟩:=jk (gd:=none) (P:=P) (W0:=W0) (o:=o) _ _ (λp hp=>by simp only[hop,Op.operands];exact List.mem_toArray.2 (List.mem_map_of_mem hp)) h;unfold qd at h;split at h
  .rename_i e he;obtain⟨⟨g1,g2,g3,g4,g5⟩,hK⟩:=h;obtain⟨y,w',C',q1,q2,q3,q4⟩:=EP hr hop he g1 g2 (by omega) hq g4 (λp hp=>gb (adm.1 g5 p hp));exact cY q1 (hn _ y _ w' C' hK q4 q3 q2)
  .exact h.elim
 .rename_i t hop;split at h
  .rename_i kt vt ht;obtain⟨y,w',C',g1,g2,g3,g4⟩:=Wy hr hop kt;exact cY g1 (hn _ y _ w' C' h g2 g4 g3)
  .exact h.elim
 .rename_i t x ix y hop;obtain⟨u,h,hu⟩:=cd (P:=P) (W0:=W0) (o:=o) (by simp[*,Op.operands]) h;obtain⟨k,h,hk⟩:=cd (P:=P) (W0:=W0) (o:=o) (by simp[*,Op.operands]) h;obtain⟨v,h,hv⟩:=cd (P:=P) (W0:=W0) (o:=o) (by simp[*,Op.operands]) h;unfold zX at h;split at h
  .obtain⟨kt,vt,l,h1,h2,h3,h4,h5,h6⟩:=h;obtain⟨w',g1,g2,g3⟩:=UQ (u:=.nil) hr hop hu hk hv h1 h2 h3 h4 h5;exact pk g1 (hn .undef undef _ w' C h6 (.undef _) g3 g2)
  .exact h.elim
 .exact hval h
theorem BA (hr:bG P W0 n w C A a)(h:yR P W0 n fz o A K){next:Act->World->Prop}{Qx:Exit->Act->World->Prop}
  (hn: ∀A' C' a' w',K A'->bG P W0 n w' C' A' a'->Step w C w' C'->next a' w'):o.wp P a w next Qx:=by
 have key:O4 fz o.op->o.wp P a w next Qx:=λhnf=>xP (hr.toO o) hnf h λv x σ' w' C' hK hv hst hs=>hn _ C' _ w' hK (mq hr h.1 hs hst hv) hs
 cases hop:o.op
 case store t x y=>
  obtain⟨hd,h2⟩:=h;rw[hop]at h2;obtain⟨u,h2,hu⟩:=cd (P:=P) (W0:=W0) (o:=o) (by simp[*,Op.operands]) h2;obtain⟨v,h2,hv⟩:=cd (P:=P) (W0:=W0) (o:=o) (by simp[*,Op.operands]) h2;exact HV hr hd hop hu hv h2 hn
 all_goals exact key (by rw[hop];trivial)
theorem xX {ops:Array Oper}{j:Nat}{want G:Bool}(hr:bG P W0 n w C A a)(h:DI ops A j want=some G)(ho:o.guard=some (j,want)):Region.wanted o (yielded ops a.tmps)=G:=by
 unfold DI at h;split at h
 .rename_i d hd;have he:=hr.env d;have hget:a.tmps.getD d undef=(a.tmps[d]?).getD undef:=by simp
  split at h
  .rename_i b hb;rw[hb]at he;simp only[ac7]at h;have hv:=he.iu;rw[hget]at hv;cases ht:a.tmps[d]? with
   |none=>rw[ht]at hv;cases hv
   |some v=>
    grind [yielded,Region.wanted]
  .rename_i g b hb;rw[hb]at he;simp only[ac7]at h;cases he with
   |one h1=>grind [AV.bk]
   |maybe h1 h2=>
    cases g with
    |true=>
     have hv:=(h1 rfl).iu;rw[hget]at hv;cases ht:a.tmps[d]? with
     |none=>rw[ht]at hv;cases hv
     |some v=>
      grind [yielded,Region.wanted]
    |false=>
     have hv:=h2 rfl;rw[hget]at hv;subst h;have hy:yielded ops a.tmps j=none:=by
      unfold yielded;rw[hd];simp only[adn];cases ht:a.tmps[d]? with
      |none=>rfl
      |some v=>
       rw[ht]at hv;simp only[acR]at hv;subst hv;rfl
     grind [Region.wanted]
  .rename_i v0 hnb hb;rw[hb]at he;simp only[ac7]at h;cases he with
   |one h1=>grind [AV.bk]
   |maybe h1 h2=>
    have hv:=h2 rfl;rw[hget]at hv;subst h;have hy:yielded ops a.tmps j=none:=by
     unfold yielded;rw[hd];simp only[adn];cases ht:a.tmps[d]? with
     |none=>rfl
     |some v=>
      rw[ht]at hv;simp only[acR]at hv;subst hv;rfl
    grind [Region.wanted]
  .cases h
 .cases h
theorem SV {G:Bool}(hr:bG P W0 n w C A a)(h:kS P W0 (some G) o.op A λv=>K (A.put o.dst (.maybe G v))):
  ∃v,K (A.put o.dst (.maybe G v))/\(G=true->dQ P W0 o A v):=gV (hr.toO o) h
theorem jO {ops:Array Oper}{Qx:Exit->Act->World->Prop}: ∀(l:List Oper) (K:aa->Prop) (A:aa) (w:World) (C:Ctx) (a:Act),bG P W0 n w C A a->rH P W0 n fz ops l K A->
  (∀A' C' a' w',K A'->bG P W0 n w' C' A' a'->Step w C w' C'->Qx .normal a' w')->mK P ops Qx l a w
 |[],K,A,w,C,a,hr,h,hn=>GD (hn A C a w h hr (.refl _ _))
 |o::r,K,A,w,C,a,hr,h,hn=>by
  have nd: ∀{K':aa->Prop},yR P W0 n fz o A K'-> ∀c,o.op≠ .defer c:=λh=>e6 (BA hr h λA' C' a' w' _ hr' _=>hr'.defers.trans hr.defers.symm)
  simp only[rH]at h;split at h
  .rename_i hg;exact qD (by grind [Region.wanted]) (BA hr h (λA' C' a' w' hK hr' hs=>jO r K A' w' C' a' hr' hK (λA'' C'' a'' w'' hK' hr'' hs'=>hn A'' C'' a'' w'' hK' hr'' (hs.trans hs')))) (nd h)
  .rename_i j want hg;split at h
   .rename_i G hG;obtain⟨hd,h⟩:=h;have hw:=xX hr hG hg;rcases h with h|⟨ht,hf⟩
    case inr=>
     cases G with
     |true=>exact qD hw (BA hr (ht rfl) (λA' C' a' w' hK hr' hs=>jO r K A' w' C' a' hr' hK (λA'' C'' a'' w'' hK' hr'' hs'=>hn A'' C'' a'' w'' hK' hr'' (hs.trans hs')))) (nd (ht rfl))
     |false=>
      obtain⟨v0,hf0⟩:=hf rfl;exact rC hw (jO r K (A.put o.dst (.maybe false v0)) w C _ (nA hr hd (aJ.maybe (λe=>by cases e) (λ_=>rfl))) hf0 hn)
    obtain⟨v,hK,hp⟩:=SV hr h;cases G with
    |true=>
     refine qD hw (hp rfl w C a (hr.toO o) _ _ λx w' hv hs hst=>jO r K (A.put o.dst (.maybe true v)) w' C _ ?_ hK (λA'' C'' a'' w'' hK' hr'' hs'=>hn A'' C'' a'' w'' hK' hr'' (hs.trans hs'))) (e6 (hp rfl w C a (hr.toO o) _ _ λx w' _ _ _=>put_defers a o.dst x));have:=mq (o:=o) hr hd hs hst (aJ.maybe (g:=true) (λ_=>hv) (λe=>by cases e));cases ho:o.dst<;>simpa[ho,aa.put,aa.upd,aa.ay]using this
    |false=>
     refine rC hw (jO r K (A.put o.dst (.maybe false v)) w C _ ?_ hK hn);exact nA hr hd (aJ.maybe (λe=>by cases e) (λ_=>rfl))
   simp_all
theorem VC.region {id:Nat}{l:List Oper}{Q:Exit->aa->Prop}(h:rH P W0 n fz l.toArray l (λA'=>Q .normal A') A):VC P W0 n (.region id l.toArray false) Q A:=λw C a hr=>
 w9 (jO l _ A w C a hr h λA' C' _ _ q r s=>⟨A',C',q,r,s⟩)
def iP (args:List AV):Nat->AV:=λi=>args[i]?.getD .undef
def js (env:Nat->AV):List Nat->AV
 |[t]=>env t
 |ts=>.tup (ts.map env)
theorem Ad {F:ResultVar->Sem Value}{tmps:Array Value}(hF: ∀t,(F (.tmp t)).run P w= .ok (tmps.getD t undef) w): ∀ts:List Nat,((ts.map ResultVar.tmp).mapM F).run P w= .ok (ts.map λt=>tmps.getD t undef) w
 |[]=>rfl
 |t::ts=>by
  rw[ac9,List.mapM_cons];simp only[Sem.run_bind,hF,Result.andThen_ok,Ad hF ts,Sem.run_pure,ac9]
theorem oB {fn:Func}{ts:List Nat}(hr:bG P W0 n w C A a)(h:fn.results=(ts.map ResultVar.tmp).toArray): ∃v,(results fn a.tmps).run P w= .ok v w/\aJ P w C (js A.env ts) v:=by
 have hm:(results fn a.tmps).run P w= .ok (if h:(ts.map λt=>a.tmps.getD t undef).toArray.size=1 then(ts.map λt=>a.tmps.getD t undef).toArray[0]else .tuple (ts.map λt=>a.tmps.getD t undef).toArray) w:=by
  unfold results;rw[h,Array.mapM_eq_mapM_toList];simp only[Sem.run_bind,Sem.run_map];rw[Ad (tmps:=a.tmps) (λt=>rfl) ts];rfl
 match ts,hm with
 |[],hm=>exact⟨_,hm,.tup (vs:=[]) rfl (by simp)⟩
 |[t],hm=>exact⟨_,hm,hr.env t⟩
 |t::u::ts,hm=>
  refine⟨_,hm,?_⟩;rw[dif_neg (by simp)];refine .tup (by simp) (λi x v hx hv=>?_);grind [bG.env]
def Zd (ts:List Nat)(Q:AV->ab->Prop)(σ:ab):Exit->aa->Prop
 | .normal,A| .ret,A=>∃ r' σ',dq (js A.env ts) r'/\(σ.length<=σ'.length/\σ'=A.st.take σ'.length)/\(∀id te xs,id<σ'.length->A.st[id]?=some (some (.cells te xs))-> ∀x∈xs,aX σ'.length x)/\aX σ'.length r'/\Q r' σ'
 |_,_=>False
theorem mu {args:List AV}{vs:List Value}{m:Nat}(hst:aE P W0 w C σ)(hl:args.length=vs.length)(hv: ∀(i:Nat)(a:AV)(v:Value),args[i]?=some a->vs[i]?=some v->aJ P w C a v)(hargs:args.length<=m):
  bG P W0 m w C ⟨iP args,σ⟩ { tmps:=vs.toArray++Array.replicate (m-vs.toArray.size) undef,defers:=[] }:=by
 refine⟨λi=>?_,rfl,by simp_all,hst⟩;simp only[iP];by_cases hi:i<args.length
 .have h1:=acI hi;have h2:=acI (l:=vs) (show i<vs.length by omega);rw[h1,acR];have h3:=hv i _ _ h1 h2
  have:(vs.toArray++Array.replicate (m-vs.toArray.size) undef).getD i undef=vs[i]:=by
   rw[ac4,acO (by grind)];simp[h2]
  simp_all
 .rw[adb (by omega),ado];exact .undef _
theorem ui {f : FuncId} {fn : Func} {c : Code} {args : List AV} {Q : AV → ab → Prop} (hf : P.funcs[f]? = some fn) (hb : fn.body = some c) (hnm : (fn.name == "runtime.NumGoroutine") = false) (hargs : args.length ≤ fn.ntmps) {ts : List Nat} (hres : fn.results = (ts.map ResultVar.tmp).toArray)
  (h:VC P W0 fn.ntmps c (Zd ts Q σ) ⟨iP args,σ⟩):aS P W0 f args σ Q:=by
 refine λw C vs hst hl hv=>.inl ⟨⟨fn,hf,by simp[hb],hnm⟩,calls_of_wp hf hb ?_⟩
 have hr:bG P W0 fn.ntmps w C ⟨iP args,σ⟩ { tmps:=vs.toArray++Array.replicate (fn.ntmps-vs.toArray.size) undef,defers:=[] }:=by
  refine⟨λi=>?_,rfl,by simp_all,hst⟩;simp only[iP];by_cases hi:i<args.length
  .have h1:=acI hi;have h2:=acI (l:=vs) (show i<vs.length by omega);rw[h1,acR];have h3:=hv i _ _ h1 h2
   have:(vs.toArray++Array.replicate (fn.ntmps-vs.toArray.size) undef).getD i undef=vs[i]:=by
    rw[ac4,acO (by grind)];simp[h2]
   simp_all
  .rw[adb (by omega),ado];exact .undef _
 refine wp_mono (Cj (h w C _ hr)) λe a' w' ⟨A',C',q,r,s⟩=>?_
 have fin:(∃r' σ',dq (js A'.env ts) r'/\(σ.length<=σ'.length/\σ'=A'.st.take σ'.length)/\(∀id te xs,id<σ'.length->A'.st[id]?=some (some (.cells te xs))-> ∀x∈xs,aX σ'.length x)/\aX σ'.length r'/\Q r' σ')->
   a'.defers=[]/\ ∃v,(results fn a'.tmps).run P w'= .ok v w'/\ ∃v₁ r σ' C',Ending.returned v= .returned v₁/\Q r σ'/\aE P W0 w' C' σ'/\aJ P w' C' r v₁/\Step w C w' C':=by
  rintro⟨r1,σ',h2,⟨h3,h4⟩,h5,h6,h7⟩;obtain⟨v,g1,g2⟩:=oB r hres;have hle:σ'.length<=A'.st.length:=by grind
  refine⟨r.defers,v,g1,v,r1,σ',C'.eY σ'.length,rfl,h7,?_,(g2.cb h2).eY h6,s.eY (by grind [aE.nx])⟩;grind [aE.eY,bG.st]
 cases e with
 |normal=>exact fin q
 |ret=>exact fin q
 |_=>exact q.elim
end
def isW :Op->Bool| .store _ _ _=>true|_=>false
def Vm (fz:List Nat):Option Nat->Bool|some d=>fz.contains (2000000+d)|none=>false
def rdM (fz:List Nat):Option Nat->Bool|some d=>fz.contains (3000000+d)|none=>false
def eM (fz:List Nat)(id:Nat)(o:Oper):Bool:=match o.dst with|some d=>fz.contains (2000000+d)|none=>fz.contains (4000000+id)
def isR (fz:List Nat)(dst:Option Nat):Op->Bool
 | .load _ (.tmp d)=>!(fz.contains d||fz.contains (6000000+d))
 | .load _ _=>true
 | .indexAddr _ _ _=>true
 | .lookup _ _ _ _=>true
 | .call _=>rdM fz dst
 |_=>false
def isZ :Op->Bool| .load _ (.tmp _)=>true|_=>false
def YJ :Op->Bool| .alloc _=>true|_=>false
def kM (fz:List Nat):Option Nat->Bool|some d=>fz.contains (1000000+d)|none=>false
def G1 (fz:List Nat)(o:Oper):Bool:=YJ o.op||kM fz o.dst
def e5 (σ τ:ab):Prop:=∀ (id:Nat) (te:TypeId) (xs:List AV),σ[id]?=some (some (.cells te xs))->τ[id]?=some (some (.cells te xs))
theorem e5.refl (σ:ab):e5 σ σ:=λ_ _ _ h=>h
theorem e5.trans {σ τ υ:ab}(h:e5 σ τ)(h':e5 τ υ):e5 σ υ:=λ_ _ _ g=>h' _ _ _ (h _ _ _ g)
theorem e5.app (σ τ:ab):e5 σ (σ++τ):=λid _ _ h=>by
 rw[ac6 (acG.1 h).1];exact h
theorem AU {op:Op}(h:isW op=true):isZ op=false:=by cases op<;>first|rfl|grind [isW]
def jW (P:Program)(W0:World)(fz:List Nat)(o:Oper)(A:aa)(v:AV):Prop:=
 dQ P W0 o A v/\(isR fz o.dst o.op=false-> ∀σ,dQ P W0 o (A.ay σ) v)/\(isZ o.op=true-> ∀τ,e5 A.st τ->dQ P W0 o (A.ay τ) v)
def KY (P:Program)(W0:World)(o:Oper)(A:aa)(σ':ab):Prop:=
 ∀w C a,eZ P W0 o w C A a-> ∃w',(execOp a.eval o).run P w= .ok .skip w'/\Step w C w' C/\aE P W0 w' C σ'
def iB (P:Program)(W0:World)(n:Nat)(fz:List Nat)(ops:Array Oper)(o:Oper)(A:aa)(v:AV)(σ':ab):Prop:=
 j0 n o.dst/\(match o.guard with
  |none=>(isW o.op=false/\σ'=A.st/\jW P W0 fz o A v)\/(isW o.op=true/\v= .undef/\KY P W0 o A σ')
  |some (j,want)=>isW o.op=false/\σ'=A.st/\ ∃G u,DI ops A j want=some G/\v= .maybe G u/\(G=true->jW P W0 fz o A u))
inductive Seq (P:Program)(W0:World)(n:Nat)(fz:List Nat)(E:Oper->Bool)(ops:Array Oper):List Oper->aa->List AV->List ab->aa->Prop
 |nil (A):Seq P W0 n fz E ops [] A [] [] A
 |cons {o r A v σ' vs ss B}:E o=false->iB P W0 n fz ops o A v σ'->Seq P W0 n fz E ops r ((A.put o.dst v).ay σ') vs ss B->Seq P W0 n fz E ops (o::r) A (v::vs) (σ'::ss) B
 |skip {o r A vs ss B}:E o=true->Seq P W0 n fz E ops r A vs ss B->Seq P W0 n fz E ops (o::r) A (.undef::vs) (A.st::ss) B
def KJ :List (List Nat)->List Oper->List (List Nat)
 |acc,[]=>acc
 |acc,o::r=>KJ (acc++[((o.after.toList.filter (Region.binds .any)).flatMap λe=>e.on::(acc[e.on]?).getD []).eraseDups]) r
def aaO (ops:Array Oper)(ac:List (List Nat)):Bool:=
 (List.range ops.size).all λi=>match ops[i]? with
  |none=>true
  |some o=>((ac[i]?).getD []).all λj=>o.after.any λe=>Region.binds .any e&&(e.on==j||((ac[e.on]?).getD []).contains j)
def fX (o:Oper)(j:Nat):Bool:=o.after.any λe=>e.on==j&&Region.binds .any e
def JV (fz:List Nat)(E:Oper->Bool)(ops:Array Oper)(ac:List (List Nat))(i j:Nat)(oi oj:Oper):Bool:=
 ((match oj.dst with
  |none=>true
  |some d=>oi.dst !=some d&&(!(oi.looksAt ops).contains d||((if j<i then fX oi j else fX oj i)&&(!E oj||E oi||decide (i<j))&&(!(E oi&& !E oj)||decide (j<i)))))&&
 (!(!E oj&& !E oi&&isW oj.op&&(isW oi.op||isR fz oi.dst oi.op))||(if j<i then((ac[i]?).getD []).contains j else((ac[j]?).getD []).contains i)))&&
 ((!(E oi&&E oj&&decide (j<i))||((ac[i]?).getD []).contains j)&&
 (!(E oi&& !E oj&&(isW oj.op||isR fz oj.dst oj.op))||((G1 fz oi&&isZ oj.op)||((ac[i]?).getD []).contains j)))
def Ey (fz:List Nat)(E:Oper->Bool)(ops:Array Oper)(ac:List (List Nat)):Bool:=
 aaO ops ac&&(List.range ops.size).all λi=>match ops[i]? with
  |none=>true
  |some oi=>oi.after.all (λe=>!Region.binds .any e||decide (e.on<i))&&(!E oi||oi.guard.isNone)&&(List.range ops.size).all λj=>match ops[j]? with
   |none=>true
   |some oj=>i==j||JV fz E ops ac i j oi oj
structure jC (E:Oper->Bool)(ops:Array Oper)(vs:List AV)(A:aa)(S:Nat->Prop)(B:aa):Prop where
 set: ∀i o d v,S i->ops[i]?=some o->E o=false->o.dst=some d->vs[i]?=some v->B.env d=v
 old: ∀d,(∀i o,S i->ops[i]?=some o->E o=false->o.dst≠some d)->B.env d=A.env d
section
variable {P :Program}{W0 w w':World}{C C':Ctx}{n:Nat}{A:aa}{a:Act}{o:Oper}{ops:Array Oper}{K:aa->Prop}{fz:List Nat}{E:Oper->Bool}{ac:List (List Nat)}
theorem aa.TH (A:aa)(d:Option Nat)(v:AV):(A.put d v).st=A.st:=by cases d<;>rfl
theorem ki {d:Nat}(h:o.dst=some d)(v:AV):(A.put o.dst v).env d=v:=by rw[h];exact A.Gl d v
theorem fN {d:Nat}(h:o.dst≠some d)(v:AV):(A.put o.dst v).env d=A.env d:=by
 cases ho:o.dst with
 |none=>rfl
 |some d'=>exact A.xz v (λe=>h (by rw[ho,e]))
def ye (ops:Array Oper):Prop:=∀ (i j:Nat) (oi oj:Oper) (d:Nat),ops[i]?=some oi->ops[j]?=some oj->oi.dst=some d->oj.dst=some d->i=j
theorem jC.put {vs:List AV}{S:Nat->Prop}{B:aa}{i:Nat}{v:AV}(hD:ye ops)(h:jC E ops vs A S B)(hi:ops[i]?=some o)(hE:E o=false)(hv:vs[i]?=some v):jC E ops vs A (λj=>S j\/j=i) (B.put o.dst v):=by
 refine⟨λj oj d u hj hoj hej hd hu=>?_,λd hd=>?_⟩
 .rcases hj with hj|rfl
  .by_cases hod:o.dst=some d
   .have:=hD i j o oj d hi hoj hod hd;grind [ki]
   grind [fN,jC.set]
  grind [ki]
 grind [fN,jC.old]
theorem jL (A:aa)(σ:ab):(A.ay σ).env=A.env:=rfl
theorem HW {vs:List AV}{ss:List ab}: ∀(l:List Oper) (us:List AV) (ts:List ab) (k:Nat) (T B:aa),ye ops->(∀j,l[j]?=ops[k+j]?)->(∀j,us[j]?=vs[k+j]?)->(∀j,ts[j]?=ss[k+1+j]?)->ss[k]?=some T.st->Seq P W0 n fz E ops l T us ts B->jC E ops vs A (· <k) T->
  (∀j o v,l[j]?=some o->us[j]?=some v-> ∃Tj σ',jC E ops vs A (· <k+j) Tj/\ss[k+j]?=some Tj.st/\ss[k+j+1]?=some σ'/\(E o=true->σ'=Tj.st)/\(E o=false->iB P W0 n fz ops o Tj v σ'))/\jC E ops vs A (· <k+l.length) B/\us.length=l.length/\ss[k+l.length]?=some B.st
 |[],us,ts,k,T,B,_,_,_,_,h0,hs,he=>by
  cases hs;simp_all
 |o::r,us,ts,k,T,B,hD,hl,hu,ht,h0,hs,he=>by
  have hok:ops[k]?=some o:=by have:=hl 0;simp_all
  have hl': ∀j,r[j]?=ops[k+1+j]?:=λj=>by have:=hl (j+1);grind
  cases hs with
  |cons hE h1 h2=>
   rename_i v σ' vs' ss';have hvk:vs[k]?=some v:=by have:=hu 0;simp_all
   have hsk:ss[k+1]?=some σ':=by have:=ht 0;simp_all
   have he':jC E ops vs A (· <k+1) ((T.put o.dst v).ay σ'):=by
    have:=he.put hD hok hE hvk;exact⟨λi oi d u hi=>this.set i oi d u (by omega),λd hd=>this.old d (λi oi hi=>hd i oi (by omega))⟩
   obtain⟨g1,g2,g3,g4⟩:=HW r vs' ss' (k+1) _ B hD hl' (λj=>by have:=hu (j+1);grind)
    (λj=>by have:=ht (j+1);grind) hsk h2 he'
   refine⟨λj oj u hj huj=>?_,?_,by simp[g3],?_⟩
   .cases j with
    |zero=>grind
    |succ j=>
     grind
   .grind
   grind
  |skip hE h2=>
   rename_i vs' ss';have hsk:ss[k+1]?=some T.st:=by have:=ht 0;simp_all
   have he':jC E ops vs A (· <k+1) T:=by
    refine⟨λi oi d u hi hoi hei=>?_,λd hd=>he.old d (λi oi hi=>hd i oi (by omega))⟩;grind [jC.set]
   obtain⟨g1,g2,g3,g4⟩:=HW r vs' ss' (k+1) _ B hD hl' (λj=>by have:=hu (j+1);grind)
    (λj=>by have:=ht (j+1);grind) hsk h2 he'
   refine⟨λj oj u hj huj=>?_,?_,by simp[g3],?_⟩
   .cases j with
    |zero=>grind
    |succ j=>
     grind
   .grind
   grind
theorem qv {T B:aa}(hst:B.st=T.st)(he: ∀d∈o.looksAt ops,B.env d=T.env d){w:World}{C:Ctx}{a:Act}(hr:eZ P W0 o w C B a):eZ P W0 o w C T a:=by
 have hval: ∀x∈o.op.operands,T.val x=B.val x:=λx hx=>by
  cases x with
  |tmp t=>
   refine(he t ?_).symm;simp only[Oper.looksAt,ac1,List.mem_filterMap];exact .inl ⟨.tmp t,Array.mem_toList_iff.2 hx,rfl⟩
  |_=>rfl
 exact⟨λx hx=>by grind [eZ.ops],by grind [eZ.st]⟩
theorem ej {T B:aa}(hst:B.st=T.st)(he: ∀d∈o.looksAt ops,B.env d=T.env d){u:AV}(hp:dQ P W0 o T u):dQ P W0 o B u:=λw C a hr next Q hn=>by
 have:=hp w C a (qv hst he hr) next Q;simp_all
theorem iB.congr {T B:aa}{v:AV}{σ':ab}(h:iB P W0 n fz ops o T v σ')(hst:(isW o.op||isR fz o.dst o.op)=true->B.st=T.st)(he: ∀d∈o.looksAt ops,B.env d=T.env d):
  iB P W0 n fz ops o B v (if isW o.op then σ' else B.st):=by
 obtain⟨hd,h⟩:=h;have hp: ∀u,jW P W0 fz o T u->isW o.op=false->dQ P W0 o B u:=λu hp hw=>by
  cases hR:isR fz o.dst o.op with
  |true=>exact ej (ops:=ops) (hst (by simp[hR])) he hp.1
  |false=>exact ej (ops:=ops) (T:=T.ay B.st) (B:=B) rfl he (hp.2.1 hR B.st)
 have hp2: ∀u,jW P W0 fz o T u->isW o.op=false->jW P W0 fz o B u:=λu hu hw=>⟨hp u hu hw,λhR σ=>ej (ops:=ops) (T:=T.ay σ) (B:=B.ay σ) rfl he (hu.2.1 hR σ),λhz τ hk=>by
  cases hR:isR fz o.dst o.op with
  |true=>
   have e:=hst (by simp[hR]);exact ej (ops:=ops) (T:=T.ay τ) (B:=B.ay τ) rfl he (hu.2.2 hz τ (by rw[<-e];exact hk))
  |false=>exact ej (ops:=ops) (T:=T.ay τ) (B:=B.ay τ) rfl he (hu.2.1 hR _)⟩
 refine⟨hd,?_⟩;split at h
 .rcases h with⟨h1,h2,h3⟩|⟨h1,h2,h3⟩
  .simp_all
  .refine .inr ⟨h1,h2,?_⟩;rw[if_pos h1];exact λw C a hr=>h3 w C a (qv (ops:=ops) (hst (by simp[h1])) he hr)
 grind [DI,Oper.looksAt]
theorem iB.Yv {T B:aa}{v:AV}{σ':ab}(h:iB P W0 n fz ops o T v σ')(hz:isZ o.op=true)(hst:e5 T.st B.st)(he: ∀d∈o.looksAt ops,B.env d=T.env d):iB P W0 n fz ops o B v B.st:=by
 obtain⟨hd,h⟩:=h;have hW:isW o.op=false:=by grind [AU]
 have hp2: ∀u,jW P W0 fz o T u->jW P W0 fz o B u:=λu hu=>⟨ej (ops:=ops) (T:=T.ay B.st) (B:=B) rfl he (hu.2.2 hz _ hst),λhR σ=>ej (ops:=ops) (T:=T.ay σ) (B:=B.ay σ) rfl he (hu.2.1 hR σ),
  λ_ τ' hk=>ej (ops:=ops) (T:=T.ay τ') (B:=B.ay τ') rfl he (hu.2.2 hz _ (hst.trans hk))⟩
 refine⟨hd,?_⟩;split at h
 .simp_all
 grind [DI,Oper.looksAt]
structure gB (fz:List Nat)(E:Oper->Bool)(ops:Array Oper)(ac:List (List Nat)):Prop where
 anc: ∀(i:Nat) (oi:Oper) (j:Nat),ops[i]?=some oi->j∈(ac[i]?).getD []-> ∃e∈oi.after,Region.binds .any e=true/\(e.on=j\/j∈(ac[e.on]?).getD [])
 TM:ye ops
 Cd: ∀(i:Nat) (oi:Oper),ops[i]?=some oi-> ∀e∈oi.after,Region.binds .any e=true->e.on<i
 gd: ∀(i:Nat) (oi:Oper),ops[i]?=some oi->E oi=true->oi.guard=none
 look: ∀(i j:Nat) (oi oj:Oper) (d:Nat),ops[i]?=some oi->ops[j]?=some oj->i≠j->oj.dst=some d->d∈oi.looksAt ops->(j<i->fX oi j=true)/\(i<j->fX oj i=true)/\(E oj=true->E oi=false->i<j)/\(E oi=true->E oj=false->j<i)
 wr: ∀(i j:Nat) (oi oj:Oper),ops[i]?=some oi->ops[j]?=some oj->i≠j->E oi=false->E oj=false->isW oj.op=true->(isW oi.op||isR fz oi.dst oi.op)=true->(j<i->j∈(ac[i]?).getD [])/\(i<j->i∈(ac[j]?).getD [])
 chain: ∀(i j:Nat) (oi oj:Oper),ops[i]?=some oi->ops[j]?=some oj->E oi=true->E oj=true->j<i->j∈(ac[i]?).getD []
 last: ∀(i j:Nat) (oi oj:Oper),ops[i]?=some oi->ops[j]?=some oj->E oi=true->E oj=false->(isW oj.op||isR fz oj.dst oj.op)=true->(G1 fz oi&&isZ oj.op)=false->j∈(ac[i]?).getD []
theorem NQ (h:Ey fz E ops ac=true):gB fz E ops ac:=by
 unfold Ey at h;rw[acS]at h;obtain⟨hanc,h⟩:=h;have hall: ∀(i:Nat) (oi:Oper),ops[i]?=some oi->oi.after.all (λe=>!Region.binds .any e||decide (e.on<i))=true/\(!E oi||oi.guard.isNone)=true/\ ∀(j:Nat) (oj:Oper),ops[j]?=some oj->(i==j||JV fz E ops ac i j oi oj)=true:=λi oi hi=>by
  grind
 have pair: ∀(i j:Nat) (oi oj:Oper),ops[i]?=some oi->ops[j]?=some oj->i≠j->(((match oj.dst with
  |none=>true
  |some d=>oi.dst !=some d&&(!(oi.looksAt ops).contains d||((if j<i then fX oi j else fX oj i)&&(!E oj||E oi||decide (i<j))&&(!(E oi&& !E oj)||decide (j<i)))))=true/\
  (!(!E oj&& !E oi&&isW oj.op&&(isW oi.op||isR fz oi.dst oi.op))||(if j<i then((ac[i]?).getD []).contains j else((ac[j]?).getD []).contains i))=true)/\
  (!(E oi&&E oj&&decide (j<i))||((ac[i]?).getD []).contains j)=true/\(!(E oi&& !E oj&&(isW oj.op||isR fz oj.dst oj.op))||((G1 fz oi&&isZ oj.op)||((ac[i]?).getD []).contains j))=true):=λi j oi oj hi hj hne=>by
  grind [JV]
 refine⟨λi oi j hi hj=>?_,λi j oi oj d hi hj hdi hdj=>?_,λi oi hi e he hb=>?_,λi oi hi hE=>?_,λi j oi oj d hi hj hne hd hm=>?_,λi j oi oj hi hj hne h1 h2 hw hr=>?_,λi j oi oj hi hj h1 h2 hlt=>?_,λi j oi oj hi hj h1 h2 hr haz=>?_⟩
 .have h1:=adm.1 hanc i (adf.2 (acH.1 hi).1);grind
 .by_cases hij:i=j
  .exact hij
  .have:=(pair i j oi oj hi hj hij).1.1;simp_all
 .grind [Array.all_eq_true_iff_forall_mem]
 .have:=(hall i oi hi).2.1;simp_all
 .have:=(pair i j oi oj hi hj hne).1.1;rw[hd]at this;simp only[acS,bne_iff_ne,ne_eq,Bool.or_eq_true,Bool.not_eq_true',List.contains_eq_mem,decide_eq_false_iff_not]at this;rcases this.2 with h|⟨⟨h,h3⟩,h4⟩
  .simp_all
  .refine⟨λhlt=>by simp_all,λhgt=>by grind,λhE hE'=>?_,λhE hE'=>?_⟩
   .simp_all
   simp_all
 .have:=(pair i j oi oj hi hj hne).1.2;simp only[h1,h2,hw,hr,adu,adv,adw,adz]at this;refine⟨λhlt=>by simp_all,λhgt=>by grind⟩
 .have:=(pair i j oi oj hi hj (by omega)).2.1;simp_all
 .have:=(pair i j oi oj hi hj (λe=>by simp_all)).2.2;simp only[h1,h2,hr,haz,adu,adv,adw,adz]at this;simp_all
theorem rS (hf:gB fz E ops ac){S:Nat->Prop}(hcl: ∀(i:Nat)(oi:Oper),ops[i]?=some oi->S i-> ∀e∈oi.after,Region.binds .any e=true->S e.on):
  ∀(i:Nat) (oi:Oper),ops[i]?=some oi->(∀e∈oi.after,Region.binds .any e=true->S e.on)-> ∀j∈(ac[i]?).getD [],S j:=λi=>by
 induction i using Nat.strongRecOn with
 |_ i ih=>
  intro oi hi hs j hj;obtain⟨e,he,hb,hj'⟩:=hf.anc i oi j hi hj;grind [gB.Cd]
theorem ib {j:Nat}(h:fX o j=true): ∃e∈o.after,e.on=j/\Region.binds .any e=true:=by
 grind [fX]
theorem sj {α:Type}{p q:α->Bool}: ∀{l:List α} {x:α},(∀y∈l,q y=true->p y=true)->x∈l->p x=true->q x=false->l.countP q<l.countP p
 |y::l,x,hpq,hx,hp,hq=>by
  have hle:l.countP q<=l.countP p:=List.countP_mono_left (λz hz=>hpq z (by simp[hz]));rcases adA.1 hx with rfl|hx
  .grind
  .have ih:=sj (l:=l) (λz hz=>hpq z (by simp[hz])) hx hp hq;grind
def Uh (E:Oper->Bool)(ops:Array Oper)(ss:List ab)(listed:Array Bool)(st:ab):Prop:=
 ∃m,m<=ops.size/\ss[m]?=some st/\ ∀(j:Nat) (oj:Oper),ops[j]?=some oj->E oj=false->isW oj.op=true->(listed.getD j false=true↔j<m)
def eVC (P:Program)(W0:World)(n:Nat)(fz:List Nat):List Oper->(aa->Prop)->aa->Prop
 |[],K,B=>K B
 |o::r,K,B=>O4 fz o.op/\yR P W0 n fz o B λB'=>eVC P W0 n fz r K B'/\(kM fz o.dst=true->e5 B.st B'.st)
theorem jh {listed:Array Bool}{i:Nat}(hi:i<listed.size)(j:Nat):(listed.setIfInBounds i true).getD j false=true↔(listed.getD j false=true\/j=i):=by
 by_cases hj:j=i
 .simp_all
 simp_all[ac8]
theorem db {listed:Array Bool}{i:Nat}(hi:i<listed.size)(j:Nat):(listed.setIfInBounds i true).getD j false=false↔(listed.getD j false=false/\j≠i):=by
 grind [jh]
theorem ni (hf:gB fz E ops ac){listed:Array Bool}(hsz:listed.size=ops.size)(hnil:Region.ready .any ops listed=[]): ∀i,i<ops.size->listed.getD i false=true:=λi=>by
 induction i using Nat.strongRecOn with
 |_ i ih=>
  intro hi;cases hl:listed.getD i false with
  |true=>rfl
  |false=>
   exfalso
   have:i∈Region.ready .any ops listed:=mem_ready.2 ⟨by
    simp_all,ops[i],acX hi,λe he hb=>ih e.on (hf.Cd i _ (acX hi) e he hb) (by have:=hf.Cd i _ (acX hi) e he hb;omega)⟩
   simp_all
theorem AI {listed:Array Bool}(hfuel:(List.range ops.size).countP (λi=>!listed.getD i true)<=0):Region.ready .any ops listed=[]:=by
 cases hrd:Region.ready .any ops listed with
 |nil=>rfl
 |cons i r=>
  exfalso;have hi:i∈Region.ready .any ops listed:=by simp_all
  grind [mem_ready,List.countP_pos_iff]
theorem OH {listed:Array Bool}{i fuel:Nat}(hsz:listed.size=ops.size)(hilt:i<ops.size)(h1:listed.getD i true=false)(hfuel:(List.range ops.size).countP (λi=>!listed.getD i true)<=fuel+1):
  (List.range ops.size).countP (λj=>!(listed.setIfInBounds i true).getD j true)<=fuel:=by
 have:=sj (l:=List.range ops.size) (p:=λj=>!listed.getD j true) (q:=λj=>!(listed.setIfInBounds i true).getD j true) (x:=i) (λj _ hj=>by
  by_cases hji:j=i
  .simp_all
  simp_all[ac8]) (adf.2 hilt) (by simp_all) (by
   simp_all)
 omega
def wH (ops:Array Oper)(listed:Array Bool):Prop:=∀ (i:Nat) (oi:Oper),ops[i]?=some oi->listed.getD i true=true-> ∀e∈oi.after,Region.binds .any e=true->listed.getD e.on false=true
theorem wH.next {listed:Array Bool}{i:Nat}(hcl:wH ops listed)(ho:ops[i]?=some o)(h2: ∀e∈o.after,Region.binds .any e=true->listed.getD e.on false=true):wH ops (listed.setIfInBounds i true):=λj oj hj hlj e he hb=>by
 by_cases hji:j=i
 .grind [getD_set_true]
 .rw[getD_set_ne true (ac8 hji)]at hlj;exact getD_set_true (hcl j oj hj hlj e he hb)
structure Mid (fz:List Nat)(E:Oper->Bool)(ops:Array Oper)(vs:List AV)(ss:List ab)(A:aa)(listed:Array Bool)(rem:List (Oper×Nat))(D B:aa):Prop where
 a: ∀(i:Nat) (o:Oper) (d:Nat),ops[i]?=some o->E o=false->o.dst=some d->listed.getD i false=false->D.env d=A.env d
 b: ∀d,(∀(i:Nat) (o:Oper),ops[i]?=some o->E o=false->o.dst=some d->listed.getD i false=true)->D.env d=B.env d
 st:D.st=B.st
 v: ∀(i:Nat) (o:Oper) (d:Nat) (v:AV),ops[i]?=some o->E o=false->o.dst=some d->vs[i]?=some v->B.env d=v
 o: ∀d,(∀(i:Nat) (o:Oper),ops[i]?=some o->o.dst=some d->E o=true/\listed.getD i false=false)->B.env d=A.env d
 rw: ∀(i:Nat) (o:Oper),ops[i]?=some o->E o=false->(isW o.op||isR fz o.dst o.op)=true->isZ o.op=false->listed.getD i false=true
 z: ∀(i:Nat) (o:Oper) (σi:ab),ops[i]?=some o->E o=false->isR fz o.dst o.op=true->isZ o.op=true->listed.getD i false=false->ss[i]?=some σi->e5 σi D.st
 r1: ∀p∈rem,ops[p.2]?=some p.1/\E p.1=true/\listed.getD p.2 false=false
 r2: ∀(i:Nat) (o:Oper),ops[i]?=some o->E o=true->listed.getD i false=false->(o,i)∈rem
 r3:rem.Pairwise λp q=>p.2<q.2
theorem EN {vs:List AV}{ss:List ab}{Qx:Exit->Act->World->Prop}(hf:gB fz E ops ac)(hlen:vs.length=ops.size)
  (hat: ∀j o v,ops[j]?=some o->vs[j]?=some v-> ∃Tj σ',jC E ops vs A (· <j) Tj/\ss[j]?=some Tj.st/\ss[j+1]?=some σ'/\(E o=true->σ'=Tj.st)/\(E o=false->iB P W0 n fz ops o Tj v σ')):
  ∀(fuel:Nat) (listed:Array Bool) (D B:aa) (rem:List (Oper×Nat)) (w:World) (C:Ctx) (a:Act),listed.size=ops.size->(List.range ops.size).countP (λi=>!listed.getD i true)<=fuel->wH ops listed->
   Mid fz E ops vs ss A listed rem D B->bG P W0 n w C D a->eVC P W0 n fz (rem.map (·.1)) K B->(∀B' C' a' w',K B'->bG P W0 n w' C' B' a'->Step w C w' C'->Qx .normal a' w')->lR P .any ops Qx fuel listed a w:=by
 have hend: ∀(listed:Array Bool) (D B:aa) (rem:List (Oper×Nat)),(∀i,i<ops.size->listed.getD i false=true)->Mid fz E ops vs ss A listed rem D B->eVC P W0 n fz (rem.map (·.1)) K B->D=B/\K B:=λlisted D B rem hall hm hK=>by
  have hrem:rem=[]:=by
   cases rem with
   |nil=>rfl
   |cons p r=>
    obtain⟨h1,_,h3⟩:=hm.r1 p (by simp);grind
  subst hrem;refine⟨?_,hK⟩;have h1:=hm.st;have h2:D.env=B.env:=funext λd=>hm.b d λi o hi _ _=>hall i (acH.1 hi).1
  cases D;simp_all
 intro fuel
 induction fuel with
 |zero=>
  intro listed D B rem w C a hsz hfuel hclosed hm hr hK hq;have hnil:=AI hfuel;obtain⟨rfl,hKB⟩:=hend listed D B rem (ni hf hsz hnil) hm hK;exact⟨hnil,hq _ C a w hKB hr (.refl _ _)⟩
 |succ fuel ih=>
  intro listed D B rem w C a hsz hfuel hclosed hm hr hK hq;refine⟨λhnil=>?_,λi hi=>?_⟩
  .grind [ni,Step.refl]
  .obtain⟨h1,o,ho,h2⟩:=mem_ready.1 hi;have hilt:=(acH.1 ho).1;have hil:i<listed.size:=by omega
   have hif:listed.getD i false=false:=by
    grind
   have hcl: ∀(j:Nat) (oj:Oper),ops[j]?=some oj->listed.getD j false=true->fX oj i=true->False:=λj oj hj hlj hwt=>by
    have hjlt:=(acH.1 hj).1;obtain⟨e,he,e1,e2⟩:=ib hwt;have:=hclosed j oj hj (by
     grind) e he e2
    grind
   have hwt: ∀(j:Nat),fX o j=true->listed.getD j false=true:=λj hw=>by
    grind [ib]
   have hdone: ∀j∈(ac[i]?).getD [],listed.getD j false=true:=rS hf (S:=λj=>listed.getD j false=true) (λj oj hj hlj=>hclosed j oj hj (by
    grind)) i o ho h2
   have hsz':(listed.setIfInBounds i true).size=ops.size:=by grind
   have hfuel':=OH hsz hilt h1 hfuel;have hclosed':=hclosed.next ho h2;unfold Kz;rw[ho];simp only;cases hEo:E o with
   |false=>
    obtain⟨vi,hv⟩: ∃v,vs[i]?=some v:=⟨_,acI (l:=vs) (show i<vs.length by omega)⟩;obtain⟨T,σ',hT,hTs,_,_,hstep⟩:=hat i o vi ho hv;have hnrw:(isW o.op||isR fz o.dst o.op)=false\/(isR fz o.dst o.op=true/\isZ o.op=true):=by
     grind [Mid.rw,AU]
    have hW:isW o.op=false:=by
     grind [AU]
    have hlook: ∀d∈o.looksAt ops,D.env d=T.env d:=(λd hd=>by
     by_cases hex: ∃(j:Nat) (oj:Oper),ops[j]?=some oj/\oj.dst=some d
     .obtain⟨j,oj,hj,hdj⟩:=hex;have honly: ∀k ok,ops[k]?=some ok->ok.dst=some d->k=j:=λk ok hk hdk=>hf.TM k j ok oj d hk hj hdk hdj
      by_cases hEj:E oj=true
      .have hji:j≠i:=λe=>by grind
       have hl:=hf.look i j o oj d ho hj (ac8 hji) hdj hd;have hgt:=hl.2.2.1 hEj hEo;have hnl:listed.getD j false=false:=by
        grind
       rw[hm.b d (λk ok hk hok hdk=>by grind),hm.o d (λk ok hk hdk=>by grind),hT.old d (λk ok _ hk hok hdk=>by grind)]
      have hEj:E oj=false:=by grind
      have hvj:=acI (l:=vs) (show j<vs.length by grind);rcases adk j i with hlt|heq|hgt
      .have hlj:=hwt j ((hf.look i j o oj d ho hj (by omega) hdj hd).1 hlt);rw[hm.b d (λk ok hk _ hdk=>by grind),hm.v j oj d _ hj hEj hdj hvj,hT.set j oj d _ hlt hj hEj hdj hvj]
      .subst heq;rw[hm.a j oj d hj hEj hdj hif,hT.old d (λk ok hk hok _ hdk=>by grind)]
      .have hnl:listed.getD j false=false:=by
        grind [gB.look]
       rw[hm.a j oj d hj hEj hdj hnl,hT.old d (λk ok hk hok _ hdk=>by grind)]
     .rw[hm.b d (λk ok hk _ hdk=>absurd ⟨k,ok,hk,hdk⟩ hex),hm.o d (λk ok hk hdk=>absurd ⟨k,ok,hk,hdk⟩ hex),hT.old d (λk ok _ hk _ hdk=>hex ⟨k,ok,hk,hdk⟩)])
    have hstepD:iB P W0 n fz ops o D vi D.st:=by
     grind [iB.congr,Mid.z,iB.Yv]
    have hmid:Mid fz E ops vs ss A (listed.setIfInBounds i true) rem (D.put o.dst vi) B:=by
     refine⟨λj oj d hj hEj hdj hlj=>?_,λd hd=>?_,by rw[aa.TH];exact hm.st,hm.v,λd hd'=>hm.o d λj oj hj hdj=>⟨(hd' j oj hj hdj).1,((db hil j).1 (hd' j oj hj hdj).2).1⟩,λj oj hj hEj hx hz=>(jh hil j).2 (.inl (hm.rw j oj hj hEj hx hz)),λj oj σj hj hEj hR hz hl hs=>by grind [aa.TH,Mid.z,db],λp hp=>?_,λj oj hj hEj hlj=>?_,hm.r3⟩
     .obtain⟨g1,g2⟩:=(db hil j).1 hlj;rw[fN (λhod=>g2 (hf.TM j i oj o d hj ho hdj hod))];grind [Mid.a]
     .grind [ki,Mid.v,fN,Mid.b,jh]
     .grind [Mid.r1,db]
     grind [Mid.r2,db]
    have hgo: ∀w' C' a',bG P W0 n w' C' (D.put o.dst vi) a'->Step w C w' C'->lR P .any ops Qx fuel (listed.setIfInBounds i true) a' w':=λw' C' a' hr' hs=>
     ih _ _ B rem w' C' a' hsz' hfuel' hclosed' hmid hr' hK (λB' C'' a'' w'' hKB hr'' hs''=>hq B' C'' a'' w'' hKB hr'' (hs.trans hs''))
    obtain⟨hd,hstepD⟩:=hstepD;have same: ∀v,(D.put o.dst v).ay D.st=D.put o.dst v:=λv=>by cases o.dst<;>rfl
    have fin: ∀x w',aJ P w' C vi x->Step w C w' C->aE P W0 w' C D.st->lR P .any ops Qx fuel (listed.setIfInBounds i true) (a.put o.dst x) w':=λx w' hv hs hst=>hgo w' C _ (by
     grind [mq]) hs
    split at hstepD
    .rename_i hg;rw[if_pos (by grind [Region.wanted])];rcases hstepD with⟨_,_,hp⟩|⟨hW',_⟩
     .exact⟨hp.1 w C a (hr.toO o) _ _ fin,e6 (hp.1 w C a (hr.toO o) _ _ λx _ _ _ _=>put_defers a o.dst x)⟩
     grind
    .rename_i j want hg;obtain⟨_,_,G,u,g1,g2,g3⟩:=hstepD;have hw:=xX hr g1 hg;rw[hw];cases G with
     |true=>
      rw[if_pos rfl];exact⟨(g3 rfl).1 w C a (hr.toO o) _ _ λx w' hv hs hst=>fin x w' (by rw[g2];exact .maybe (λ_=>hv) (λe=>by cases e)) hs hst,e6 ((g3 rfl).1 w C a (hr.toO o) _ _ λx _ _ _ _=>put_defers a o.dst x)⟩
     |false=>
      rw[if_neg (by simp)];exact hgo w C _ (nA hr hd (v:=vi) (x:=undef) (by rw[g2];exact .maybe (λe=>by cases e) (λ_=>rfl))) (.refl _ _)
   |true=>
    have hmem:=hm.r2 i o ho hEo hif;cases hrem:rem with
    |nil=>grind
    |cons p r=>
     have hhead:p=(o,i):=by
      rw[hrem]at hmem;rcases adA.1 hmem with h|h
      .grind
      .exfalso;have h3:=hm.r3;rw[hrem]at h3;have hlt:=(adh.1 h3).1 (o,i) h;obtain⟨g1,g2,g3⟩:=hm.r1 p (by grind);grind [gB.chain]
     subst hhead;rw[hrem,ac9]at hK;obtain⟨hnf,hop⟩:=hK;rw[if_pos (by grind [Region.wanted,gB.gd])];have hrO:eZ P W0 o w C B a:=qv (ops:=ops) (T:=B) (B:=D) hm.st (λd hd=>hm.b d λj oj hj hEj hdj=>by
      have hne:i≠j:=λe=>by grind
      have hl:=hf.look i j o oj d ho hj hne hdj hd;grind) (hr.toO o)
     have hd:=hop.1;have hop:yR P W0 n fz o B (λB'=>eVC P W0 n fz (r.map (·.1)) K B'/\(G1 fz o=true->e5 B.st B'.st)):=by
      cases hal:YJ o.op with
      |false=>
       have e:G1 fz o=kM fz o.dst:=by simp[G1,hal]
       rw[e];exact hop
      |true=>
       obtain⟨h1,h2⟩:=hop;refine⟨h1,?_⟩;cases ho':o.op<;>rw[ho']at hal h2<;>first|(simp[YJ]at hal;done)|skip
       simp only at h2 ⊢;split at h2
       .exact⟨h2.1,λ_=>e5.app _ _⟩
       omega
     refine⟨xP hrO hnf hop λv x σ' w' C' hK' hv hst hs=>?_,e6 (xP hrO hnf hop λ_ x _ _ _ _ _ _ _=>put_defers a o.dst x)⟩;obtain⟨hK',hup⟩:=hK';have hr':=mq (o:=o) hr hd hs hst hv;refine ih _ ((D.put o.dst v).ay σ') ((B.put o.dst v).ay σ') r w' C' _ hsz' hfuel' hclosed' ?_ hr' hK' (λB' C'' a'' w'' hKB hr'' hs''=>hq B' C'' a'' w'' hKB hr'' (hs.trans hs''));have hEne: ∀(j:Nat) (oj:Oper),ops[j]?=some oj->E oj=false->j≠i:=λj oj hj hEj e=>by grind
     refine⟨λj oj d hj hEj hdj hlj=>?_,λd hd'=>?_,rfl,λj oj d u hj hEj hdj hu=>?_,λd hd'=>?_,λj oj hj hEj hx hz=>(jh hil j).2 (.inl (hm.rw j oj hj hEj hx hz)),λj oj σj hj hEj hR hz hl hs'=>?_,λp hp=>?_,λj oj hj hEj hlj=>?_,?_⟩
     .rw[jL,fN (λhod=>hEne j oj hj hEj (hf.TM j i oj o d hj ho hdj hod))];grind [Mid.a,db]
     .rw[jL,jL];by_cases hod:o.dst=some d
      .grind [ki]
      grind [fN,Mid.b,jh]
     .rw[jL,fN (λhod=>hEne j oj hj hEj (hf.TM j i oj o d hj ho hdj hod))];grind [Mid.v]
     .have hne:o.dst≠some d:=λhod=>by
       grind [jh]
      rw[jL,fN hne];grind [Mid.o,db]
     .obtain⟨g1,g2⟩:=(db hil j).1 hl;have hτ:=hm.z j oj σj hj hEj hR hz g1 hs';cases hal:G1 fz o with
      |false=>
       grind [gB.last]
      |true=>
       have e1:e5 B.st σ':=hup hal;show e5 σj σ';rw[hm.st]at hτ;exact hτ.trans e1
     .obtain⟨g1,g2,g3⟩:=hm.r1 p (by grind);have h3:=hm.r3;grind [adh,db]
     .grind [db,Mid.r2]
     .have h3:=hm.r3;grind
theorem qa (E:Oper->Bool): ∀(l:List Oper) (k:Nat),((l.zipIdx k).filter (λp=>E p.1)).map (·.1)=l.filter E
 |[],_=>rfl
 |o::r,k=>by
  rw[List.zipIdx_cons,adp,adp];cases h:E o with
  |true=>simp only[if_true,ac9];rw[qa E r]
  |false=>simp only[ac5,if_false];rw[qa E r]
theorem Mo {vs:List AV}{ss:List ab}{B:aa}{Qx:Exit->Act->World->Prop}(hf:gB fz E ops ac)(hseq:Seq P W0 n fz E ops ops.toList A vs ss B)(hK:eVC P W0 n fz (ops.toList.filter E) K B):
  ∀(fuel:Nat) (listed:Array Bool) (D:aa) (w:World) (C:Ctx) (a:Act),listed.size=ops.size->(List.range ops.size).countP (λi=>!listed.getD i true)<=fuel->
   (∀(i:Nat) (oi:Oper),ops[i]?=some oi->listed.getD i true=true-> ∀e∈oi.after,Region.binds .any e=true->listed.getD e.on false=true)->
   (∀(i:Nat) (oi:Oper),ops[i]?=some oi->E oi=true->listed.getD i false=false)->
   jC E ops vs A (λi=>listed.getD i false=true) D->Uh E ops (A.st::ss) listed D.st->bG P W0 n w C D a->(∀B' C' a' w',K B'->bG P W0 n w' C' B' a'->Step w C w' C'->Qx .normal a' w')->lR P .any ops Qx fuel listed a w:=by
 have hD:=hf.TM;have hedge:=hf.Cd;have he0:jC E ops vs A (· <0) A:=⟨λi _ _ _ hi=>absurd hi (Nat.not_lt_zero i),λ_ _=>rfl⟩;obtain⟨hat,hB,hlen,hBs⟩:=HW (ss:=A.st::ss) ops.toList vs ss 0 A B hD (by simp) (by simp) (λj=>by rw[show 0+1+j=j+1 by omega];simp) rfl hseq he0;simp only[ac3]at hat hB hBs;have hBs':(A.st::ss)[ops.size]?=some B.st:=by simpa using hBs
 have hsame: ∀(d m:Nat),m+d<=ops.size->(∀(j:Nat) (oj:Oper),m<=j->j<m+d->ops[j]?=some oj->E oj=false->isW oj.op=false)->(A.st::ss)[m+d]?=(A.st::ss)[m]?:=λd=>by
  induction d with
  |zero=>intro m _ _;rfl
  |succ d ihd=>
   intro m hm hno;rw[<-ihd m (by omega) (λj oj h1 h2=>hno j oj h1 (by omega))];have hlt:m+d<ops.size:=by omega
   obtain⟨vj,hvj⟩: ∃v,vs[m+d]?=some v:=⟨_,acI (l:=vs) (show m+d<vs.length by rw[hlen];simpa using hlt)⟩;obtain⟨T,σ',_,e1,e2,hsk,hok⟩:=hat (m+d) ops[m+d] vj (by simp[hlt]) hvj
   have:σ'=T.st:=by
    cases hEm:E ops[m+d]with
    |true=>exact hsk hEm
    |false=>
    have hnw:=hno (m+d) ops[m+d] (by omega) (by omega) (by simp[hlt]) hEm;have h2:=(hok hEm).2;split at h2
    .rcases h2 with h2|h2
     .exact h2.2.1
     .rw[hnw]at h2;cases h2.1
    .exact h2.2.1
   rw[show m+(d+1)=m+d+1 by omega,e2,e1,this]
 have hstEnd: ∀(listed:Array Bool) (D:aa),(∀(i:Nat) (o:Oper),ops[i]?=some o->E o=false->(isW o.op||isR fz o.dst o.op)=true->isZ o.op=false->listed.getD i false=true)->Uh E ops (A.st::ss) listed D.st->D.st=B.st:=λlisted D hall ⟨m,hm,hs,hw⟩=>by
  have:=hsame (ops.size-m) m (by omega) (λj oj h1 h2 hoj hEj=>by
   cases hwj:isW oj.op with
   |false=>rfl
   |true=>
    have:=(hw j oj hoj hEj hwj).1 (hall j oj hoj hEj (by simp[hwj]) (AU hwj));omega)
  rw[show m+(ops.size-m)=ops.size by omega,hBs',hs]at this;exact(ada this).symm
 have hat': ∀j o v,ops[j]?=some o->vs[j]?=some v-> ∃Tj σ',jC E ops vs A (· <j) Tj/\(A.st::ss)[j]?=some Tj.st/\(A.st::ss)[j+1]?=some σ'/\(E o=true->σ'=Tj.st)/\(E o=false->iB P W0 n fz ops o Tj v σ'):=λj o v hj hv=>hat j o v (by simpa using hj) hv
 have hover: ∀(fuel:Nat) (listed:Array Bool) (D:aa) (w:World) (C:Ctx) (a:Act),listed.size=ops.size->(List.range ops.size).countP (λi=>!listed.getD i true)<=fuel->wH ops listed->
   (∀(i:Nat) (oi:Oper),ops[i]?=some oi->E oi=true->listed.getD i false=false)->jC E ops vs A (λi=>listed.getD i false=true) D->Uh E ops (A.st::ss) listed D.st->bG P W0 n w C D a->
   (∀(i:Nat) (o:Oper),ops[i]?=some o->E o=false->(isW o.op||isR fz o.dst o.op)=true->isZ o.op=false->listed.getD i false=true)->(∀B' C' a' w',K B'->bG P W0 n w' C' B' a'->Step w C w' C'->Qx .normal a' w')->lR P .any ops Qx fuel listed a w:=λfuel listed D w C a hsz hfuel hclosed hEl hE hS hr hall hq=>by
  refine EN hf (by rw[hlen];simp) hat' fuel listed D B ((ops.toList.zipIdx 0).filter (λp=>E p.1)) w C a hsz hfuel hclosed ⟨λi o d hi hEi hdi hl=>?_,λd hd=>?_,hstEnd listed D hall hS,λi o d v hi hEi hdi hv=>?_,λd hd=>?_,hall,λi o σi hi hEi hR hz hl hs=>?_,λp hp=>?_,λi o hi hEi hl=>?_,?_⟩ hr (by rw[qa];exact hK) hq
  .exact hE.old d λk ok hk hok _ hdk=>by have:=hD k i ok o d hok hi hdk hdi;subst this;rw[hl]at hk;cases hk
  .by_cases hex: ∃(i:Nat) (o:Oper),ops[i]?=some o/\E o=false/\o.dst=some d
   .obtain⟨i,o,hi,hEi,hdi⟩:=hex;have hlt:=(acH.1 hi).1;have hv:=acI (l:=vs) (show i<vs.length by rw[hlen];simpa using hlt);rw[hE.set i o d _ (hd i o hi hEi hdi) hi hEi hdi hv,hB.set i o d _ (by simpa using hlt) hi hEi hdi hv]
   .rw[hE.old d (λi o _ hi hEi hdi=>hex ⟨i,o,hi,hEi,hdi⟩),hB.old d (λi o _ hi hEi hdi=>hex ⟨i,o,hi,hEi,hdi⟩)]
  .exact hB.set i o d v (by simpa using (acH.1 hi).1) hi hEi hdi hv
  .exact hB.old d λi o _ hi hEi hdi=>by have:=(hd i o hi hdi).1;rw[hEi]at this;cases this
  .have hlt:=(acH.1 hi).1;have hnow: ∀(j:Nat) (oj:Oper),i<=j->j<i+(ops.size-i)->ops[j]?=some oj->E oj=false->isW oj.op=false:=λj oj h1 h2 hj hEj=>by
    cases hwj:isW oj.op with
    |false=>rfl
    |true=>
     have hne:i≠j:=λe=>by subst e;rw[hi]at hj;cases hj;rw[AU hwj]at hz;cases hz
     have hlj:=hall j oj hj hEj (by simp[hwj]) (AU hwj);have hmem:=(hf.wr i j o oj hi hj hne hEi hEj hwj (by simp[hR])).2 (by omega);have:=rS hf (S:=λj=>listed.getD j false=true) (λk ok hk hlk=>hclosed k ok hk (by
      have h3:k<listed.size:=by have:=(acH.1 hk).1;omega
      simp[Array.getD,h3]at hlk ⊢;exact hlk)) j oj hj (hclosed j oj hj (by
      have h3:j<listed.size:=by have:=(acH.1 hj).1;omega
      simp[Array.getD,h3]at hlj ⊢;exact hlj)) i hmem
     rw[hl]at this;cases this
   have hsm:=hsame (ops.size-i) i (by omega) hnow;rw[show i+(ops.size-i)=ops.size by omega,hBs',hs]at hsm;have e:D.st=σi:=by rw[hstEnd listed D hall hS];exact ada hsm
   rw[e];exact e5.refl _
  .obtain⟨hp1,hp2⟩:=adt.1 hp;have h3:ops[p.2]?=some p.1:=by
    have:=ac2.1 hp1;simpa using this
   exact⟨h3,hp2,hEl p.2 p.1 h3 hp2⟩
  .exact adt.2 ⟨ac2.2 (by simpa using hi),hEi⟩
  .refine adC _ ?_;rw[List.pairwise_iff_getElem];intro i j hi hj hij;simp only[List.getElem_zipIdx];omega
 intro fuel
 induction fuel with
 |zero=>
  intro listed D w C a hsz hfuel hclosed hEl hE hS hr hq;refine hover 0 listed D w C a hsz hfuel hclosed hEl hE hS hr (λi o hi _ _ _=>ni hf hsz (AI hfuel) i (acH.1 hi).1) hq
 |succ fuel ih=>
  intro listed D w C a hsz hfuel hclosed hEl hE hS hr hq;by_cases hall: ∀(i:Nat) (o:Oper),ops[i]?=some o->E o=false->(isW o.op||isR fz o.dst o.op)=true->isZ o.op=false->listed.getD i false=true
  .exact hover (fuel+1) listed D w C a hsz hfuel hclosed hEl hE hS hr hall hq
  refine⟨λhnil=>absurd (λi o hi _ _ _=>ni hf hsz hnil i (acH.1 hi).1) hall,λi hi=>?_⟩
  .obtain⟨h1,o,ho,h2⟩:=mem_ready.1 hi;have hilt:=(acH.1 ho).1;obtain⟨vi,hv⟩: ∃v,vs[i]?=some v:=⟨_,acI (l:=vs) (show i<vs.length by rw[hlen];simpa using hilt)⟩;obtain⟨T,σ',hT,hTs,hTs',_,hstep⟩:=hat i o _ (by simpa using ho) hv;have hif:listed.getD i false=false:=by
    have h3:i<listed.size:=by omega
    simp[Array.getD,h3]at h1 ⊢;exact h1
   have hil:i<listed.size:=by omega
   have hdone: ∀j∈(ac[i]?).getD [],listed.getD j false=true:=rS hf (S:=λj=>listed.getD j false=true) (λj oj hj hlj=>hclosed j oj hj (by
    have h3:j<listed.size:=by have:=(acH.1 hj).1;omega
    simp[Array.getD,h3]at hlj ⊢;exact hlj)) i o ho h2
   have hEo:E o=false:=by
    cases hEo:E o with
    |false=>rfl
    |true=>exact absurd (λj oj hj hEj hx hz=>hdone j (hf.last i j o oj ho hj hEo hEj hx (by rw[hz,Bool.and_false]))) hall
   replace hstep:=hstep hEo;have hdoneOf: ∀(j:Nat) (oj:Oper),ops[j]?=some oj->listed.getD j false=true-> ∀k∈(ac[j]?).getD [],listed.getD k false=true:=λj oj hj hlj=>by
    have hcl': ∀(j:Nat) (oj:Oper),ops[j]?=some oj->listed.getD j false=true-> ∀e∈oj.after,Region.binds .any e=true->listed.getD e.on false=true:=λj oj hj hlj=>hclosed j oj hj (by
     have h3:j<listed.size:=by have:=(acH.1 hj).1;omega
     simp[Array.getD,h3]at hlj ⊢;exact hlj)
    exact rS hf (S:=λj=>listed.getD j false=true) hcl' j oj hj (hcl' j oj hj hlj)
   obtain⟨m,hm,hms,hmw⟩:=hS;have hcl: ∀(j:Nat) (oj:Oper),ops[j]?=some oj->listed.getD j false=true->fX oj i=true->False:=λj oj hj hlj hwt=>by
    have hjlt:=(acH.1 hj).1;obtain⟨e,he,e1,e2⟩:=ib hwt;have:=hclosed j oj hj (by
     have h3:j<listed.size:=by omega
     simp[Array.getD,h3]at hlj ⊢;exact hlj) e he e2
    rw[e1,hif]at this;cases this
   have hpos:(isW o.op||isR fz o.dst o.op)=true->(A.st::ss)[i]?=(A.st::ss)[m]?/\(∀(j:Nat) (oj:Oper),ops[j]?=some oj->E oj=false->isW oj.op=true->j≠i->(listed.getD j false=true↔j<i)):=λhlk=>by
    have hiff: ∀(j:Nat) (oj:Oper),ops[j]?=some oj->E oj=false->isW oj.op=true->j≠i->(listed.getD j false=true↔j<i):=λj oj hj hEj hwj hne=>by
     obtain⟨g1,g2⟩:=hf.wr i j o oj ho hj (ac8 hne) hEo hEj hwj hlk;constructor
     .intro hlj;rcases Nat.lt_or_gt_of_ne hne with hlt|hgt
      .exact hlt
      .have:=hdoneOf j oj hj hlj i (g2 hgt);rw[hif]at this;cases this
     .intro hlt;exact hdone j (g1 hlt)
    refine⟨?_,hiff⟩;rcases Nat.le_total m i with hle|hle
    .have:=hsame (i-m) m (by omega) (λj oj g1 g2 hoj hEj=>by
      cases hwj:isW oj.op with
      |false=>rfl
      |true=>
       have:=(hmw j oj hoj hEj hwj).1 ((hiff j oj hoj hEj hwj (by omega)).2 (by omega));omega)
     rwa [show m+(i-m)=i by omega]at this
    .have:=hsame (m-i) i (by omega) (λj oj g1 g2 hoj hEj=>by
      cases hwj:isW oj.op with
      |false=>rfl
      |true=>
       have hlj:=(hmw j oj hoj hEj hwj).2 (by omega);by_cases hji:j=i
       .subst hji;rw[hif]at hlj;cases hlj
       .have:=(hiff j oj hoj hEj hwj hji).1 hlj;omega)
     rw[show i+(m-i)=m by omega]at this;exact this.symm
   have hstD:(isW o.op||isR fz o.dst o.op)=true->D.st=T.st:=λhlk=>by
    have:=(hpos hlk).1;rw[hTs,hms]at this;exact(ada this).symm
   have hstepD:iB P W0 n fz ops o D vi (if isW o.op then σ' else D.st):=hstep.congr hstD (λd hd=>by
    by_cases hex: ∃(j:Nat) (oj:Oper),ops[j]?=some oj/\oj.dst=some d
    .obtain⟨j,oj,hj,hdj⟩:=hex;have hjlt:=(acH.1 hj).1;have hvj:=acI (l:=vs) (show j<vs.length by rw[hlen];simpa using hjlt);have honly: ∀k ok,ops[k]?=some ok->ok.dst=some d->k=j:=λk ok hk hdk=>hD k j ok oj d hk hj hdk hdj
     by_cases hEj:E oj=true
     .rw[hE.old d (λk ok _ hk hok hdk=>by have:=honly k ok hk hdk;subst this;rw[hj]at hk;cases hk;rw[hEj]at hok;cases hok),hT.old d (λk ok _ hk hok hdk=>by have:=honly k ok hk hdk;subst this;rw[hj]at hk;cases hk;rw[hEj]at hok;cases hok)]
     have hEj:E oj=false:=by simpa using hEj
     rcases adk j i with hlt|heq|hgt
     .obtain⟨e,he,e1,e2⟩:=ib ((hf.look i j o oj d ho hj (by omega) hdj hd).1 hlt);have hlj:listed.getD j false=true:=by rw[<-e1];exact h2 e he e2
      rw[hE.set j oj d _ hlj hj hEj hdj hvj,hT.set j oj d _ hlt hj hEj hdj hvj]
     .subst heq;have e1:D.env d=A.env d:=hE.old d (λk ok hk hok _ hdk=>by have:=honly k ok hok hdk;subst this;rw[hif]at hk;cases hk);have e2:T.env d=A.env d:=hT.old d (λk ok hk hok _ hdk=>by have:=honly k ok hok hdk;omega);rw[e1,e2]
     .have hnl:listed.getD j false=false:=by
       cases hlj:listed.getD j false with
       |false=>rfl
       |true=>
        exfalso;obtain⟨e,he,e1,e2⟩:=ib ((hf.look i j o oj d ho hj (by omega) hdj hd).2.1 hgt);have:=hclosed j oj hj (by
         have h3:j<listed.size:=by omega
         simp[Array.getD,h3]at hlj ⊢;exact hlj) e he e2
        rw[e1,hif]at this;cases this
      have e1:D.env d=A.env d:=hE.old d (λk ok hk hok _ hdk=>by have:=honly k ok hok hdk;subst this;rw[hnl]at hk;cases hk);have e2:T.env d=A.env d:=hT.old d (λk ok hk hok _ hdk=>by have:=honly k ok hok hdk;omega);rw[e1,e2]
    .rw[hE.old d (λk ok _ hk _ hdk=>hex ⟨k,ok,hk,hdk⟩),hT.old d (λk ok _ hk _ hdk=>hex ⟨k,ok,hk,hdk⟩)])
   have hput:jC E ops vs A (λj=>(listed.setIfInBounds i true).getD j false=true) ((D.put o.dst vi).ay (if isW o.op then σ' else D.st)):=by
    have hp:=hE.put hD ho hEo hv;have hiff: ∀j,(listed.setIfInBounds i true).getD j false=true↔(listed.getD j false=true\/j=i):=λj=>by
     by_cases hj:j=i
     .subst hj;have h3:j<listed.size:=by omega
      simp[Array.getD,h3]
     .rw[getD_set_ne false (ac8 hj)];simp[hj]
    exact⟨λj oj d u hj=>hp.set j oj d u ((hiff j).1 hj),λd hd=>hp.old d (λj oj hj=>hd j oj ((hiff j).2 hj))⟩
   have hsz':(listed.setIfInBounds i true).size=ops.size:=by simpa using hsz
   have hfuel':(List.range ops.size).countP (λj=>!(listed.setIfInBounds i true).getD j true)<=fuel:=by
    have:=sj (l:=List.range ops.size) (p:=λj=>!listed.getD j true) (q:=λj=>!(listed.setIfInBounds i true).getD j true) (x:=i) (λj _ hj=>by
     by_cases hji:j=i
     .subst hji;simpa using h1
     .rw[getD_set_ne true (ac8 hji)]at hj;exact hj) (adf.2 hilt) (by rw[h1];rfl) (by
      have h3:i<listed.size:=by omega
      simp[Array.getD,h3])
    omega
   have hclosed': ∀(j:Nat) (oj:Oper),ops[j]?=some oj->(listed.setIfInBounds i true).getD j true=true-> ∀e∈oj.after,Region.binds .any e=true->(listed.setIfInBounds i true).getD e.on false=true:=λj oj hj hlj e he hb=>by
    by_cases hji:j=i
    .subst hji;rw[ho]at hj;cases hj;exact getD_set_true (h2 e he hb)
    .rw[getD_set_ne true (ac8 hji)]at hlj;exact getD_set_true (hclosed j oj hj hlj e he hb)
   have hS':Uh E ops (A.st::ss) (listed.setIfInBounds i true) (if isW o.op then σ' else D.st):=by
    have hset: ∀j,(listed.setIfInBounds i true).getD j false=true↔(listed.getD j false=true\/j=i):=λj=>by
     by_cases hj:j=i
     .subst hj;have h3:j<listed.size:=by omega
      simp[Array.getD,h3]
     .rw[getD_set_ne false (ac8 hj)];simp[hj]
    cases hW:isW o.op with
    |false=>
     refine⟨m,hm,by simpa using hms,λj oj hj hEj hwj=>?_⟩;have hji:j≠i:=λe=>by subst e;rw[ho]at hj;cases hj;rw[hW]at hwj;cases hwj
     rw[hset];simp only[hji,or_false];exact hmw j oj hj hEj hwj
    |true=>
     refine⟨i+1,by omega,by simpa using hTs',λj oj hj hEj hwj=>?_⟩;rw[hset];by_cases hji:j=i
     .subst hji;simp
     .have:=(hpos (by simp[hW])).2 j oj hj hEj hwj hji;simp only[hji,or_false,this];omega
   have hgo: ∀w' C' a',bG P W0 n w' C' ((D.put o.dst vi).ay (if isW o.op then σ' else D.st)) a'->Step w C w' C'->lR P .any ops Qx fuel (listed.setIfInBounds i true) a' w':=λw' C' a' hr' hs=>
    ih _ _ w' C' a' hsz' hfuel' hclosed' (λj oj hj hEj=>(db hil j).2 ⟨hEl j oj hj hEj,λe=>by subst e;rw[ho]at hj;cases hj;rw[hEo]at hEj;cases hEj⟩) hput hS' hr' (λB' C'' a'' w'' hKB hr'' hs''=>hq B' C'' a'' w'' hKB hr'' (hs.trans hs''))
   unfold Kz;rw[ho];simp only;obtain⟨hd,hstepD⟩:=hstepD;have fin:isW o.op=false-> ∀x w',aJ P w' C vi x->Step w C w' C->aE P W0 w' C D.st->lR P .any ops Qx fuel (listed.setIfInBounds i true) (a.put o.dst x) w':=λhW x w' hv hs hst=>hgo w' C _ (by
    have:=mq (o:=o) hr hd hs hst hv;simpa[hW]using this) hs
   split at hstepD
   .rename_i hg;rw[if_pos (by simp[Region.wanted,hg])];rcases hstepD with⟨hW,_,hp⟩|⟨hW,hu,hp⟩
    .exact⟨hp.1 w C a (hr.toO o) _ _ (fin hW),e6 (hp.1 w C a (hr.toO o) _ _ λx _ _ _ _=>put_defers a o.dst x)⟩
    .rw[if_pos hW]at hp;obtain⟨w',r1,r2,r3⟩:=hp w C a (hr.toO o);refine⟨pk r1 (hgo w' C _ ?_ r2),e6 (pk r1 (put_defers a o.dst undef))⟩;rw[if_pos hW,hu];exact mq (o:=o) hr hd r2 r3 (.undef _)
   .rename_i j want hg;obtain⟨hW,_,G,u,g1,g2,g3⟩:=hstepD;have hw:=xX hr g1 hg;rw[hw];cases G with
    |true=>
     rw[if_pos rfl];exact⟨(g3 rfl).1 w C a (hr.toO o) _ _ λx w' hv hs hst=>fin hW x w' (by rw[g2];exact .maybe (λ_=>hv) (λe=>by cases e)) hs hst,e6 ((g3 rfl).1 w C a (hr.toO o) _ _ λx _ _ _ _=>put_defers a o.dst x)⟩
    |false=>
     rw[if_neg (by simp)];refine hgo w C _ ?_ (.refl _ _);have e:(D.put o.dst vi).ay D.st=D.put o.dst vi:=by cases o.dst<;>rfl
     have:=nA hr hd (v:=vi) (x:=undef) (by rw[g2];exact .maybe (λe=>by cases e) (λ_=>rfl));rw[<-e]at this;simpa[hW]using this
theorem VC.aa0 {id:Nat}{l:List Oper}{Q:Exit->aa->Prop}(hm:P.follows .mixedOrders=true)(hdep:Ey fz E l.toArray ac=true)(h: ∃vs ss B,Seq P W0 n fz E l.toArray l A vs ss B/\eVC P W0 n fz (l.filter E) (Q .normal) B):VC P W0 n (.region id l.toArray true) Q A:=λw C a hr=>by
 obtain⟨vs,ss,B,hseq,hB⟩:=h;have hr':bG P W0 n w.drew C A a:=hr.step (Step.drew w C) hr.st.drew;refine xR hm (Mo (K:=Q .normal) (NQ hdep) (vs:=vs) (ss:=ss) (B:=B) (by omega) (by omega) l.toArray.size _ A w.drew C a (by simp) ?_ ?_ ?_ ?_ ?_ hr' ?_)
 .grind [List.countP_le_length]
 .intro i oi hi hl;simp_all[Array.getD]
 .simp[Array.getD]
 .refine⟨λi o d v hi=>?_,λ_ _=>rfl⟩;simp_all[Array.getD]
 .exact⟨0,adq _,rfl,λj oj _ _ _=>by simp[Array.getD]⟩
 .intro B' C' a' w' hK hr' hs;exact⟨B',C',hK,hr',(Step.drew w C).trans hs⟩
end
def unm :AV->AV| .maybe _ v=>v|v=>v
def okM (gd:Option Bool):AV->Prop| .maybe g _=>imp gd (g=true)|_=>True
def ie (gd:Option Bool)(b:Bool):AV->Prop| .maybe g _=>imp gd (b=true->g=true)|_=>True
def En :AV->Prop| .bool _=>True|_=>False
def bl :AV->Bool| .bool b=>b|_=>false
def isI :AV->Prop| .int _ _=>True|_=>False
def iv :AV->Int| .int _ n=>n|_=>0
def oJ (b:Bool)(u v:AV):AV:=oq b u v
def cZ (P:Program)(op:BinOp)(t:TypeId)(u v:AV):AV:=(dc P op t u v).getD .undef
def dd (P:Program)(op:BinOp)(t:TypeId)(u v:AV):Prop:=(dc P op t u v).isSome=true
def unV (op:UnOp)(u:AV):AV:=match op,u with| .not,.bool b=>.bool (!b)| .neg,.int k m=>.int k (k.wrap (-m))|_,_=>.undef
def unC (op:UnOp)(u:AV):Prop:=match op,u with| .not,.bool _=>True| .neg,.int _ _=>True|_,_=>False
def tM (σ:ab):AV->AV| .loc _ v=>v| .ptr _ id i path=>(look σ id i path).getD .undef|_=>.undef
def tX (gd:Option Bool)(σ:ab)(t:TypeId):AV->Prop| .loc t' _=>t'=t| .ptr t' id i path=>t'=t/\imp gd ((look σ id i path).isSome=true)|_=>False
def qi (P:Program)(s:TypeId)(k:Nat):AV->AV
 | .loc _ (.agg _ fs)=>.loc ((((bt P s).getD [])[k]?).getD 0) (fs[k]?.getD .undef)
 | .ptr _ id i path=>.ptr ((((bt P s).getD [])[k]?).getD 0) id i (path++[k])
 |_=>.undef
def qc (P:Program)(s:TypeId)(k:Nat):AV->Prop
 | .loc t (.agg t' fs)=>t=s/\t'=s/\bq P s=true/\(bt P s).isSome=true/\(((bt P s).getD [])[k]?).isSome=true/\fs[k]?.isSome=true
 | .ptr t _ _ _=>t=s/\bq P s=true/\(bt P s).isSome=true/\(((bt P s).getD [])[k]?).isSome=true
 |_=>False
def fvV (k:Nat):AV->AV| .agg _ fs=>fs[k]?.getD .undef|_=>.undef
def fvC (P:Program)(s:TypeId)(k:Nat):AV->Prop| .agg t fs=>t=s/\bq P s=true/\(bt P s).isSome=true/\(((bt P s).getD [])[k]?).isSome=true/\fs[k]?.isSome=true|_=>False
def atV (xs:List AV)(i:Int):AV:=xs[i.toNat]?.getD .undef
def fc (P:Program)(t:TypeId)(i:Int):AV->AV
 | .ptr _ id j path=>.ptr ((jd P t).getD 0) id j (path++[i.toNat])
 | .loc _ (.agg _ fs)=>.loc ((jd P t).getD 0) (fs[i.toNat]?.getD .undef)
 | .row e id off _=>.ptr e id (off+i.toNat) []
 | .sl e xs=>.loc e (atV xs i)
 | .lit e xs=>.loc e (atV xs i)
 | .own e xs _=>.loc e (atV xs i)
 |_=>.undef
def fj (P:Program)(gd:Option Bool)(σ:ab)(t:TypeId)(i:Int):AV->Prop
 | .ptr t' _ _ _=>t'=t/\(jd P t).isSome=true/\(bt P t).isSome=true/\imp gd (0<=i/\i.toNat<((bt P t).getD []).length)
 | .loc t' (.agg t'' fs)=>t'=t/\t''=t/\(jd P t).isSome=true/\(bt P t).isSome=true/\imp gd (0<=i/\i.toNat<fs.length)
 | .row e id _ m=>elT P t=some e/\0<af P e/\imp gd (0<=i/\i.toNat<m)/\live σ id
 | .sl e xs=>elT P t=some e/\0<af P e/\imp gd (0<=i/\i.toNat<xs.length)
 | .lit e xs=>elT P t=some e/\0<af P e/\imp gd (0<=i/\i.toNat<xs.length)
 | .own e xs _=>elT P t=some e/\0<af P e/\imp gd (0<=i/\i.toNat<xs.length)
 |_=>False
def Cb (i:Int):AV->AV| .str l=>.int .u8 (l[i.toNat]?.getD 0).toNat| .agg _ fs=>fs[i.toNat]?.getD .undef|_=>.undef
def Bf (P:Program)(gd:Option Bool)(t:TypeId)(i:Int):AV->Prop| .str l=>bV P t=true/\imp gd (0<=i/\i.toNat<l.length)| .agg t' fs=>t'=t/\(jd P t).isSome=true/\(bt P t).isSome=true/\imp gd (0<=i/\i.toNat<fs.length)|_=>False
def rW (k:Nat):AV->AV| .tup as=>as[k]?.getD .undef|_=>.undef
def r8 (k:Nat):AV->Prop| .tup as=>as[k]?.isSome=true|_=>False
def jQ (P:Program)(d:TypeId):AV->AV| .int _ m=>(match fZ P d with|some k'=>.int k' (k'.wrap m)|none=>.str (GC m))| .str l=>.str l| .lit _ xs=>.str (xs.map kA)| .sl _ xs=>.str (xs.map kA)| .own _ xs _=>.str (xs.map kA)|_=>.undef
def byC (P:Program)(s d e:TypeId)(xs:List AV):Prop:=elT P s=some e/\fZ P e=some .u8/\af P e=1/\bV P d=true/\jo xs
def jF (P:Program)(s d:TypeId):AV->Prop| .int _ _=>(fZ P s).isSome=true/\((fZ P d).isSome||bV P d)=true| .str _=>bV P s=true/\bV P d=true| .lit e xs=>byC P s d e xs| .sl e xs=>byC P s d e xs| .own e xs _=>byC P s d e xs|_=>False
def cW (A:aa)(d:Nat):Option Operand->Nat|none=>d|some y=>(iv (unm (A.val y))).toNat
def qB (gd:Option Bool)(A:aa):Option Operand->Prop|none=>True|some y=>okM gd (A.val y)/\isI (unm (A.val y))/\imp gd (0<=iv (unm (A.val y)))
def lP (A:aa)(lo hi:Option Operand):AV->AV
 | .row e id off m=>.row e id (off+cW A 0 lo) (cW A m hi-cW A 0 lo)
 | .ar=>.ar
 | .str l=>.str (iK l (cW A 0 lo) (cW A l.length hi))
 | .sl e xs=>.sl e (iK xs (cW A 0 lo) (cW A xs.length hi))
 | .lit e xs=>.sl e (iK xs (cW A 0 lo) (cW A xs.length hi))
 | .own e xs _=>.sl e (iK xs (cW A 0 lo) (cW A xs.length hi))
 |_=>.undef
def om (gd:Option Bool)(A:aa)(lo hi:Option Operand)(m:Nat):Prop:=qB gd A lo/\qB gd A hi/\imp gd (cW A 0 lo<=cW A m hi/\cW A m hi<=m)
def kr (P:Program)(gd:Option Bool)(A:aa)(t:TypeId)(lo hi:Option Operand):AV->Prop
 | .row e _ _ m=>elT P t=some e/\0<af P e/\om gd A lo hi m
 | .ar=>(elT P t).isSome=true/\0<af P ((elT P t).getD 0)/\qB gd A lo/\qB gd A hi/\imp gd (cW A 0 lo=0/\cW A 0 hi=0)
 | .str l=>bV P t=true/\om gd A lo hi l.length
 | .sl e xs=>elT P t=some e/\0<af P e/\om gd A lo hi xs.length
 | .lit e xs=>elT P t=some e/\0<af P e/\om gd A lo hi xs.length
 | .own e xs _=>elT P t=some e/\0<af P e/\om gd A lo hi xs.length
 |_=>False
def eB (A:aa):List (Nat×Operand)->List (Nat×AV)|[]=>[]|(i,x)::r=>(i,unm (A.val x))::eB A r
def gL (gd:Option Bool)(A:aa):List (Nat×Operand)->Prop|[]=>True|(_,x)::r=>okM gd (A.val x)/\gL gd A r
def cI (P:Program)(t:TypeId):List AV:=match zeroOf P t with|some (.agg _ fs)=>fs|_=>[]
def c9 (P:Program)(t:TypeId):Bool:=match zeroOf P t with|some (.agg t' _)=>t'==t|_=>false
def G9 (P:Program)(t:TypeId)(qs:List (Nat×AV)):Prop:=(bt P t).isSome=true/\c9 P t=true/\o9 P ((bt P t).getD []) qs=true
def ga (P:Program)(t:TypeId)(m:Nat)(qs:List (Nat×AV)):Prop:=match elT P t with
 |some e=>0<af P e/\bn P e=true/\m*af P e<=16777216/\qs.map (·.1)=List.range' 0 m/\qs.all (λp=>bc P e p.2)=true
 |none=>False
def oA :AV->AV
 | .str l=>.int .i64 l.length
 | .sl _ xs=>.int .i64 xs.length
 | .lit _ xs=>.int .i64 xs.length
 | .own _ xs _=>.int .i64 xs.length
 | .ar=>.int .i64 0
 | .row _ _ _ n=>.int .i64 n
 |_=>.undef
def fR (P:Program)(t:TypeId):AV->Prop
 | .str _=>bV P t=true
 | .sl _ _=>(elT P t).isSome=true
 | .lit _ _=>(elT P t).isSome=true
 | .own _ _ _=>(elT P t).isSome=true
 | .ar=>(elT P t).isSome=true
 | .row _ _ _ _=>(elT P t).isSome=true
 |_=>False
def ju (b:Builtin)(us:List AV):AV:=match b,us with
 | .len,[u]=>oA u
 | .cap,[_]=>.int .i64 0
 | .max,[.int k p,.int _ q]=>.int k (GV p q)
 | .min,[.int k p,.int _ q]=>.int k (uy p q)
 |_,_=>.undef
def kV (P:Program)(b:Builtin)(ts:List TypeId)(us:List AV):Prop:=match b,us with
 | .len,[u]=>(match ts with|[t]=>fR P t u|_=>False)
 | .cap,[u]=>(match ts with|[t]=>(match u with| .ar=>(elT P t).isSome=true|_=>False)|_=>False)
 | .max,[.int k _,.int k' _]=>k'=k
 | .min,[.int k _,.int k' _]=>k'=k
 |_,_=>False
def cT (A:aa):List Operand->List AV|[]=>[]|x::r=>unm (A.val x)::cT A r
def e8 (gd:Option Bool)(A:aa):List Operand->Prop|[]=>True|x::r=>okM gd (A.val x)/\e8 gd A r
noncomputable def TS (P:Program)(σ:ab)(t:TypeId)(k u:AV):AV:=match nm P t with|some (kt,vt)=>wI P ((uD σ kt u).getD []) k (iO P vt)|none=>.undef
noncomputable def xx (P:Program)(σ:ab)(t:TypeId)(k u:AV):AV:=match nm P t with|some (kt,vt)=>.tup [wI P ((uD σ kt u).getD []) k (iO P vt),.bool (Ck P ((uD σ kt u).getD []) k)]|none=>.undef
def uh (P:Program)(gd:Option Bool)(σ:ab)(t:TypeId)(k u:AV):Prop:=match nm P t with|some (kt,vt)=>bn P vt=true/\Maps.Keyed P kt/\imp gd (Df P kt k)/\(uD σ kt u).isSome=true|none=>False
noncomputable def opV (P:Program)(gd:Option Bool)(A:aa):Op->AV
 | .move x=>(match gd with|none=>A.val x|some _=>unm (A.val x))
 | .assign x=>(match gd with|none=>A.val x|some _=>unm (A.val x))
 | .pick c x y=>oJ (bl (unm (A.val c))) (unm (A.val x)) (unm (A.val y))
 | .binOp op t x y _=>cZ P op t (unm (A.val x)) (unm (A.val y))
 | .unOp op _ x=>unV op (unm (A.val x))
 | .load _ x=>tM A.st (unm (A.val x))
 | .fieldAddr s x k=>qi P s k (unm (A.val x))
 | .field s x k=>fvV k (unm (A.val x))
 | .indexAddr t x ix=>fc P t (iv (unm (A.val ix))) (unm (A.val x))
 | .index _ x ix=>Cb (iv (unm (A.val ix))) (unm (A.val x))
 | .extract x k=>rW k (unm (A.val x))
 | .nilCheck x=>unm (A.val x)
 | .convert _ d x=>jQ P d (unm (A.val x))
 | .makeFunc (.func f) _ caps=>.fn f (cT A caps.toList)
 | .slice _ x lo hi _=>lP A lo hi (unm (A.val x))
 | .build t ps=>.agg t (pZ (eB A ps.toList) (cI P t))
 | .buildSlice t _ ps=>.lit ((elT P t).getD 0) ((eB A ps.toList).map (·.2))
 | .box t x=>.loc t (unm (A.val x))
 | .lookup t x ix false=>TS P A.st t (unm (A.val ix)) (unm (A.val x))
 | .lookup t x ix true=>xx P A.st t (unm (A.val ix)) (unm (A.val x))
 | .makeInterface t x=>.iface t (unm (A.val x))
 | .typeAssert x _ d ok=>lH P d ok (unm (A.val x))
 | .call c=>(match c.callee with| .builtin b=>ju b (cT A c.args.toList)|_=>.undef)
 |_=>.undef
def opC (P:Program)(gd:Option Bool)(A:aa):Op->Prop
 | .move x=>(match gd with|none=>True|some _=>okM gd (A.val x))
 | .assign x=>(match gd with|none=>True|some _=>okM gd (A.val x))
 | .pick c x y=>okM gd (A.val c)/\En (unm (A.val c))/\ie gd (bl (unm (A.val c))) (A.val x)/\ie gd (!bl (unm (A.val c))) (A.val y)
 | .binOp op t x y _=>okM gd (A.val x)/\okM gd (A.val y)/\dd P op t (unm (A.val x)) (unm (A.val y))
 | .unOp op _ x=>okM gd (A.val x)/\unC op (unm (A.val x))
 | .load t x=>okM gd (A.val x)/\tX gd A.st t (unm (A.val x))
 | .fieldAddr s x k=>okM gd (A.val x)/\qc P s k (unm (A.val x))
 | .field s x k=>okM gd (A.val x)/\fvC P s k (unm (A.val x))
 | .indexAddr t x ix=>okM gd (A.val x)/\okM gd (A.val ix)/\isI (unm (A.val ix))/\fj P gd A.st t (iv (unm (A.val ix))) (unm (A.val x))
 | .index t x ix=>okM gd (A.val x)/\okM gd (A.val ix)/\isI (unm (A.val ix))/\Bf P gd t (iv (unm (A.val ix))) (unm (A.val x))
 | .extract x k=>okM gd (A.val x)/\r8 k (unm (A.val x))
 | .nilCheck x=>okM gd (A.val x)/\(unm (A.val x)).ig=true
 | .convert s d x=>okM gd (A.val x)/\jF P s d (unm (A.val x))
 | .makeFunc (.func _) first caps=>first.toList=[]/\e8 gd A caps.toList/\(cT A caps.toList).all AV.bk=true
 | .slice t x lo hi mx=>mx=none/\okM gd (A.val x)/\kr P gd A t lo hi (unm (A.val x))
 | .build t ps=>gL gd A ps.toList/\G9 P t (eB A ps.toList)
 | .buildSlice t m ps=>gL gd A ps.toList/\ga P t m (eB A ps.toList)
 | .box t x=>okM gd (A.val x)/\bc P t (unm (A.val x))=true
 | .lookup t x ix false=>okM gd (A.val x)/\okM gd (A.val ix)/\uh P gd A.st t (unm (A.val ix)) (unm (A.val x))
 | .lookup t x ix true=>okM gd (A.val x)/\okM gd (A.val ix)/\uh P gd A.st t (unm (A.val ix)) (unm (A.val x))
 | .makeInterface t x=>okM gd (A.val x)/\oD P t=true/\(unm (A.val x)).bk=true
 | .typeAssert x _ d ok=>okM gd (A.val x)/\pA P d ok (unm (A.val x))
 | .call c=>(match c.callee with| .builtin b=>e8 gd A c.args.toList/\kV P b c.argTypes.toList (cT A c.args.toList)|_=>False)
 |_=>False
section
variable {P :Program}{W0:World}{σ:ab}{n:Nat}{A:aa}{gd:Option Bool}{K:AV->Prop}
theorem aU {x:AV}{k:AV->Prop}(h1:okM gd x)(h2:k (unm x)):strip gd x k:=by cases x<;>first|exact⟨h1,h2⟩|exact h2
theorem Ao {b:Bool}{x:AV}{k:AV->Prop}(h1:ie gd b x)(h2:k (unm x)):xI gd b x k:=by cases x<;>first|exact⟨h1,h2⟩|exact h2
theorem gY : ∀{xs:List Operand} {k:List AV->Prop},e8 gd A xs->k (cT A xs)->stripL gd (xs.map A.val) k
 |[],_,_,h=>h
 |_::_,_,h1,h2=>aU h1.1 (gY h1.2 h2)
theorem nh : ∀{ps:List (Nat×Operand)} {k:List (Nat×AV)->Prop},gL gd A ps->k (eB A ps)->pf gd A ps k
 |[],_,_,h=>h
 |(_,_)::_,_,h1,h2=>aU h1.1 (nh h1.2 h2)
theorem Hq {v:AV}(h:isI v): ∃k,v= .int k (iv v):=by cases v<;>first|exact⟨_,rfl⟩|exact h.elim
theorem UW {v:AV}(h:En v):v= .bool (bl v):=by cases v<;>first|rfl|exact h.elim
theorem iG {x:Option Operand}{d:Nat}{k:Nat->Prop}(h1:qB gd A x)(h2:k (cW A d x)):gk gd A x d k:=by
 cases x with
 |none=>exact h2
 |some y=>
  obtain⟨h3,h4,h5⟩:=h1;refine aU h3 ?_;obtain⟨kk,hk⟩:=Hq h4;rw[hk];exact⟨h5,h2⟩
theorem xT {lo hi:Option Operand}{m:Nat}{k:Nat->Nat->Prop}(h:om gd A lo hi m)(hk:k (cW A 0 lo) (cW A m hi)):gk gd A lo 0 λp=>gk gd A hi m λq=>imp gd (p<=q/\q<=m)/\k p q:=
 iG h.1 (iG h.2.1 ⟨h.2.2,hk⟩)
theorem UK {lo hi:Option Operand}{k:Nat->Nat->Prop}(h:qB gd A lo/\qB gd A hi/\imp gd (cW A 0 lo=0/\cW A 0 hi=0))(hk:k (cW A 0 lo) (cW A 0 hi)):gk gd A lo 0 λp=>gk gd A hi 0 λq=>imp gd (p=0/\q=0)/\k p q:=
 iG h.1 (iG h.2.1 ⟨h.2.2,hk⟩)
theorem Ic {t:TypeId}{u:AV}{lo hi:Option Operand}(h1:kr P gd A t lo hi u)(h2:K (lP A lo hi u)):va P gd A t u lo hi K:=by
 unfold kr at h1;split at h1
 .exact⟨⟨h1.1,h1.2.1⟩,xT (k:=λp q=>K (.row _ _ (_+p) (q-p))) h1.2.2 h2⟩
 .obtain⟨h3,h4,h5⟩:=h1;obtain⟨e,he⟩:=acK.1 h3;rw[he]at h4;show(match elT P t with|some e=>0<af P e/\gk gd A lo 0 λp=>gk gd A hi 0 λq=>imp gd (p=0/\q=0)/\K .ar|none=>False);rw[he];exact⟨h4,UK (k:=λ_ _=>K .ar) h5 h2⟩
 .exact⟨h1.1,xT (k:=λp q=>K (.str (iK _ p q))) h1.2 h2⟩
 .exact⟨⟨h1.1,h1.2.1⟩,xT (k:=λp q=>K (.sl _ (iK _ p q))) h1.2.2 h2⟩
 .exact⟨⟨h1.1,h1.2.1⟩,xT (k:=λp q=>K (.sl _ (iK _ p q))) h1.2.2 h2⟩
 .exact⟨⟨h1.1,h1.2.1⟩,xT (k:=λp q=>K (.sl _ (iK _ p q))) h1.2.2 h2⟩
 simp_all
theorem vo {op:Op}(h1:opC P gd A op)(h2:K (opV P gd A op)):kS P W0 gd op A K:=by
 cases op
 case move x=>cases gd<;>first|exact h2|exact aU h1 h2
 case assign x=>cases gd<;>first|exact h2|exact aU h1 h2
 case pick c x y=>
  obtain⟨g1,g2,g3,g4⟩:=h1;refine aU g1 ?_;rw[UW g2];exact Ao g3 (Ao g4 h2)
 case binOp op t x y _=>
  obtain⟨g1,g2,g3⟩:=h1;refine aU g1 (aU g2 ?_);obtain⟨z,hz⟩:=acK.1 g3;grind [opV,cZ,Tq]
 case unOp op _ x=>
  refine aU h1.1 ?_;have h3:=h1.2;simp only[opV]at h2
  revert h2 h3
  generalize unm (A.val x)=u;intro h2 h3;cases op<;>cases u<;>first|exact h2|exact h3.elim
 case load t x=>
  refine aU h1.1 ?_;have h3:=h1.2;simp only[opV]at h2
  revert h2 h3
  generalize unm (A.val x)=u;intro h2 h3;cases u<;>first|exact h3.elim|skip
  .exact⟨h3,h2⟩
  .simp only[tX]at h3;refine⟨h3.1,?_⟩;grind [tM]
 case field s x k=>
  refine aU h1.1 ?_;have h3:=h1.2;simp only[opV]at h2
  revert h2 h3
  generalize unm (A.val x)=u;intro h2 h3;cases u<;>first|exact h3.elim|skip
  grind [fvC,fvV,XI]
 case fieldAddr s x k=>
  refine aU h1.1 ?_;have h3:=h1.2;simp only[opV]at h2
  revert h2 h3
  generalize unm (A.val x)=u;intro h2 h3;cases u<;>first|exact h3.elim|skip
  .rename_i t v;cases v<;>first|exact h3.elim|skip
   grind [qc,qi,qS]
  grind [qc,qi,qS]
 case indexAddr t x ix=>
  obtain⟨g1,g2,g3,h3⟩:=h1;refine aU g1 (aU g2 ?_);obtain⟨kk,hk⟩:=Hq g3;rw[hk];simp only[opV]at h2
  revert h2 h3
  generalize unm (A.val x)=u;intro h2 h3;cases u<;>first|exact h3.elim|skip
  .exact⟨⟨h3.1,h3.2.1⟩,h3.2.2,h2⟩
  .exact⟨⟨h3.1,h3.2.1⟩,h3.2.2,h2⟩
  .exact⟨⟨h3.1,h3.2.1⟩,h3.2.2,h2⟩
  .exact⟨⟨h3.1,h3.2.1⟩,h3.2.2.1,h3.2.2.2,h2⟩
  .rename_i t' v;cases v<;>first|exact h3.elim|skip
   exact⟨⟨h3.1,h3.2.1,h3.2.2.1,h3.2.2.2.1⟩,h3.2.2.2.2,h2⟩
  .obtain⟨e1,e2,e3,e4⟩:=h3;obtain⟨ts,hts⟩:=acK.1 e3;simp only[hts,acR]at e4;simp only[lr,hts];exact⟨⟨e1,e2⟩,e4,h2⟩
 case index t x ix=>
  obtain⟨g1,g2,g3,h3⟩:=h1;refine aU g1 (aU g2 ?_);obtain⟨kk,hk⟩:=Hq g3;rw[hk];simp only[opV]at h2
  revert h2 h3
  generalize unm (A.val x)=u;intro h2 h3;cases u<;>first|exact h3.elim|skip
  .exact⟨h3.1,h3.2,h2⟩
  .exact⟨⟨h3.1,h3.2.1,h3.2.2.1⟩,h3.2.2.2,h2⟩
 case extract x k=>
  refine aU h1.1 ?_;have h3:=h1.2;simp only[opV]at h2
  revert h2 h3
  generalize unm (A.val x)=u;intro h2 h3;cases u<;>first|exact h3.elim|skip
  grind [r8,rW,sL]
 case nilCheck x=>exact aU h1.1 ⟨h1.2,h2⟩
 case makeInterface t x=>exact aU h1.1 ⟨h1.2,h2⟩
 case typeAssert x xt d ok=>exact aU h1.1 ⟨h1.2,h2⟩
 case convert s d x=>
  refine aU h1.1 ?_;have h3:=h1.2;simp only[opV]at h2
  revert h2 h3
  generalize unm (A.val x)=u;intro h2 h3;cases u<;>first|exact h3.elim|skip
  .grind [jF,fZ,jQ,sB]
  all_goals exact⟨h3,h2⟩
 case makeFunc fn first caps=>
  cases fn<;>first|exact h1.elim|skip
  exact⟨h1.1,gY h1.2.1 ⟨h1.2.2,h2⟩⟩
 case slice t x lo hi mx=>exact⟨h1.1,aU h1.2.1 (Ic h1.2.2 h2)⟩
 case build t ps=>
  refine nh h1.1 ?_;obtain⟨g1,g2',g4⟩:=h1.2;grind [c9,acK,opV,cI,uZ]
 case buildSlice t m ps=>
  refine nh h1.1 ?_;have h3:=h1.2;grind [ga,opV,kb]
 case box t x=>exact aU h1.1 ⟨h1.2,h2⟩
 case lookup t x ix c=>
  cases c
  case true=>
   refine aU h1.1 (aU h1.2.1 ?_);have h3:=h1.2.2;grind [uh,opV,xx,BE]
  refine aU h1.1 (aU h1.2.1 ?_);have h3:=h1.2.2;grind [uh,opV,TS,Il]
 case call c=>
  obtain⟨callee,args,argTypes⟩:=c;cases callee<;>first|exact h1.elim|skip
  rename_i b;refine gY h1.1 ?_;have h3:=h1.2;simp only[opV]at h2
  revert h2 h3
  generalize cT A args.toList=us;intro h2 h3;unfold kV at h3;unfold pD;split at h3
  .rename_i u;split at h3
   .rename_i t ht;simp only at ht;simp only[ht];simp only[ju]at h2;cases u<;>first|exact h3.elim|exact⟨h3,λ_=>h2⟩
   simp_all
  .grind [ju]
  .exact⟨h3,h2⟩
  .exact⟨h3,h2⟩
  simp_all
 all_goals exact h1.elim
end
def tK (ops:Array Oper)(j:Nat):Option Nat:=(ops[j]?).bind (·.dst)
def dw (gd:Option Bool)(v:AV):AV:=match gd with|none=>v|some G=>.maybe G v
def gdV (want:Bool):AV->Bool| .bool b=>b==want| .maybe g (.bool b)=>g&&(b==want)|_=>false
def gdC :AV->Prop| .bool _=>True| .maybe _ (.bool _)=>True| .maybe g _=>g=false|_=>False
inductive Tag {α:Type}(x:α):Type|mk:Tag x
def aD (P:Program)(W0:World)(gd:Option Bool)(so:Option ab)(f:AV)(us:List AV)(dst:Option Nat)(A:aa)(k:aa->Prop)(_:Tag k):Prop:=kH P W0 gd so f us λr=>k (A.put dst (dw gd r))
def aj (P:Program)(W0:World)(f:AV)(us:List AV)(dst:Option Nat)(A:aa)(k:aa->Prop)(_:Tag k):Prop:=
 match f with
 | .fn g caps=>aS P W0 g (us++caps) A.st λr σ'=>k ((A.put dst r).ay σ')
 |_=>False
def bA (P:Program)(ts:List TypeId)(us:List AV)(dst:Option Nat)(A:aa)(k:aa->Prop)(_:Tag k):Prop:=
 match us with
 |[x,y]=>(rn P A.st ts x y λv σ'=>k ((A.put dst v).ay σ'))\/(lC P A.st ts x y λv σ'=>k ((A.put dst v).ay σ'))\/(kg P A.st ts x y λv σ'=>k ((A.put dst v).ay σ'))\/mN P A.st ts x y (λv σ'=>k ((A.put dst v).ay σ'))\/j9 P A.st ts x y (λv σ'=>k ((A.put dst v).ay σ'))\/lj P A.st ts x y λv σ'=>k ((A.put dst v).ay σ')
 |_=>False
def qj (P:Program)(ts:List TypeId)(us:List AV)(dst:Option Nat)(A:aa)(k:aa->Prop)(_:Tag k):Prop:=
 match us with
 |[x]=>vh P A.st ts x λσ'=>k ((A.put dst (.tup [])).ay σ')
 |_=>False
def IZ (P:Program)(t:TypeId)(u ix v:AV)(A:aa)(k:aa->Prop)(_:Tag k):Prop:=zX P A.st t u ix v λσ'=>k (A.ay σ')
def ovM (fz:List Nat):Option Nat->Bool|some d=>fz.contains (5000000+d)|none=>false
def K6 (σ:ab)(id m:Nat):Prop:=∃ te zs,σ[id]?=some (some (.cells te zs))/\m<=zs.length
def Gn (P:Program)(A:aa)(t:TypeId)(lo hi mx:Option Operand):AV->Prop
 | .row e id off m=>elT P t=some e/\0<af P e/\qB none A lo/\qB none A hi/\cW A 0 lo<=cW A m hi/\(match mx with
  |none=>K6 A.st id (off+cW A m hi)
  |some _=>lo.isSome=true/\hi.isSome=true/\qB none A mx/\cW A m hi<=cW A m mx/\cW A m mx<=m)
 |_=>False
def GW (A:aa)(lo hi mx:Option Operand):AV->AV
 | .row e id off m=>(match mx with|none=>.row e id (off+cW A 0 lo) (cW A m hi-cW A 0 lo)|some _=>.undef)
 |_=>.undef
theorem NP {P:Program}{A:aa}{t:TypeId}{lo hi mx:Option Operand}{u:AV}{K:AV->Prop}(h1:Gn P A t lo hi mx u)(h2:K (GW A lo hi mx u)):HK P A t u lo hi mx K:=by
 unfold Gn at h1;split at h1
 .obtain⟨g1,g2,g3,g4,g5,g6⟩:=h1;refine⟨⟨g1,g2⟩,?_⟩;cases mx with
  |none=>
   obtain⟨te,zs,e1,e2⟩:=g6;exact iG g3 (iG g4 ⟨⟨g5,te,zs,e1,e2⟩,h2⟩)
  |some y=>exact⟨⟨g6.1,g6.2.1⟩,iG g3 (iG g4 (iG g6.2.2.1 ⟨⟨g5,g6.2.2.2.1,g6.2.2.2.2⟩,h2⟩))⟩
 .exact h1.elim
def lI (P:Program)(s d:TypeId)(u:AV)(dst:Option Nat)(A:aa)(k:aa->Prop)(_:Tag k):Prop:=Ln P A.st s d u λv σ'=>k ((A.put dst v).ay σ')
def A4 (P:Program)(t:TypeId)(u v:AV)(dst:Option Nat)(A:aa)(k:aa->Prop)(_:Tag k):Prop:=BQ P A t u v λr σ'=>k ((A.put dst r).ay σ')
def dY (σ:ab)(id i:Nat)(path:List Nat)(v:AV):ab:=
 match σ[id]? with
 |some (some (.cells te xs))=>σ.set id (some (.cells te (xs.set i ((xs[i]?.getD .undef).setAt path v))))
 |_=>σ
def jV (P:Program)(fz:List Nat)(t:TypeId)(x:Operand)(v:AV)(A:aa)(k:aa->Prop)(_:Tag k):AV->Prop
 | .ptr t' id i path=>t'=t/\bc P t v=true/\(look A.st id i path).isSome=true/\(match x with
  | .tmp d=>if fz.contains d then path=[]/\k ((A.upd d (.loc t v)).ay (A.st.set id none))else k (A.ay (dY A.st id i path v))
  |_=>False)
 |_=>False
def Ee (id:Nat)(dst:Option Nat)(A:aa)(k:aa->Prop):Option (Option bJ)->Prop
 |some (some (.iter l pos))=>(pos<l.length->k ((A.put dst (.tup [.bool true,.int .i64 pos,.int .i32 (iR l pos).1])).ay (A.st.set id (some (.iter l (pos+(iR l pos).2))))))/\(l.length<=pos->k (A.put dst (.tup [.bool false])))
 |_=>False
def ym (P:Program)(t:TypeId)(dst:Option Nat)(A:aa)(k:aa->Prop):AV->Prop
 | .str l=>bV P t=true/\k ((A.put dst (.it A.st.length)).ay (A.st++[some (.iter l 0)]))
 |_=>False
def FA (dst:Option Nat)(A:aa)(k:aa->Prop):AV->Prop
 | .it id=>Ee id dst A k A.st[id]?
 |_=>False
def vop (P:Program)(W0:World)(gd:Option Bool)(so:Option ab)(dst:Option Nat)(A:aa)(k:aa->Prop):Op->Prop
 | .call c=>(match c.callee with
  | .value f=>okM gd (A.val f)/\e8 gd A c.args.toList/\aD P W0 gd so (unm (A.val f)) (cT A c.args.toList) dst A k .mk
  |_=>imp gd (opC P gd A (.call c))/\k (A.put dst (dw gd (opV P gd A (.call c)))))
 |op=>imp gd (opC P gd A op)/\k (A.put dst (dw gd (opV P gd A op)))
def op2 (P:Program)(W0:World)(fz:List Nat)(dst:Option Nat)(A:aa)(k:aa->Prop):Op->Prop
 | .call c=>(match c.callee with
  | .value f=>okM none (A.val f)/\e8 none A c.args.toList/\aj P W0 (unm (A.val f)) (cT A c.args.toList) dst A k .mk
  | .builtin .append=>e8 none A c.args.toList/\bA P c.argTypes.toList (cT A c.args.toList) dst A k .mk
  | .builtin .clear=>e8 none A c.args.toList/\qj P c.argTypes.toList (cT A c.args.toList) dst A k .mk
  |_=>vop P W0 none (some A.st) dst A k (.call c))
 | .box t x=>(match dst with
  |some d=>if fz.contains d then vop P W0 none (some A.st) dst A k (.box t x)
   else okM none (A.val x)/\bc P t (unm (A.val x))=true/\k ((A.upd d (.ptr t A.st.length 0 [])).ay (A.st++[some (.cells t [unm (A.val x)])]))
  |none=>False)
 | .alloc t=>(zeroOf P t).isSome=true/\k ((A.put dst (.ptr t A.st.length 0 [])).ay (A.st++[some (.cells t [(zeroOf P t).getD .undef])]))
 | .makeSlice t x y=>okM none (A.val x)/\okM none (A.val y)/\A4 P t (unm (A.val x)) (unm (A.val y)) dst A k .mk
 | .store t x y=>okM none (A.val x)/\okM none (A.val y)/\jV P fz t x (unm (A.val y)) A (λA'=>k (A'.put dst .undef)) .mk (unm (A.val x))
 | .range t x=>okM none (A.val x)/\ym P t dst A k (unm (A.val x))
 | .next x true=>okM none (A.val x)/\FA dst A k (unm (A.val x))
 | .slice t x lo hi mx=>if ovM fz dst then okM none (A.val x)/\Gn P A t lo hi mx (unm (A.val x))/\k (A.put dst (GW A lo hi mx (unm (A.val x))))else vop P W0 none (some A.st) dst A k (.slice t x lo hi mx)
 | .convert s d x=>if ovM fz dst then okM none (A.val x)/\lI P s d (unm (A.val x)) dst A k .mk else vop P W0 none (some A.st) dst A k (.convert s d x)
 | .buildSlice t m ps=>if ovM fz dst then gL none A ps.toList/\ga P t m (eB A ps.toList)/\k ((A.put dst (.row ((elT P t).getD 0) A.st.length 0 m)).ay (A.st++[some (.cells ((elT P t).getD 0) ((eB A ps.toList).map (·.2)))]))else vop P W0 none (some A.st) dst A k (.buildSlice t m ps)
 | .makeMap t none=>(nm P t).isSome=true/\k ((A.put dst (.mp A.st.length)).ay (A.st++[some (.mp ((nm P t).getD (0,0)).1 [])]))
 | .mapUpdate t x ix y=>okM none (A.val x)/\okM none (A.val ix)/\okM none (A.val y)/\IZ P t (unm (A.val x)) (unm (A.val ix)) (unm (A.val y)) A (λA'=>k (A'.put dst .undef)) .mk
 |op=>vop P W0 none (some A.st) dst A k op
def Kx (fz:List Nat):List Oper->List Nat
 |[]=>[]
 |o::r=>(match o.op with
  | .load _ (.tmp d)=>if fz.contains (6000000+d)then [d]else []
  |_=>[])++Kx fz r
def D3 (fz:List Nat)(l:List Oper):List Nat:=if fz.all (λx=>decide (x<6000000))then []else Kx fz l
def IS (A:aa)(d:Nat):aa:=match A.env d with
 | .ptr t id 0 []=>(match A.st[id]? with
  |some (some (.cells te [z]))=>if te=t then(A.upd d (.loc t z)).ay (A.st.set id none)else A
  |_=>A)
 |_=>A
def nU :List Nat->aa->(aa->Prop)->Prop
 |[],A,k=>k A
 |d::r,A,k=>nU r (IS A d) k
def F9 (fz:List Nat)(id:Nat)(ops:Array Oper)(_:Tag ops):Prop:=Ey fz (eM fz id) ops (KJ [] ops.toList)=true
def owr (fz:List Nat)(dst:Option Nat)(op:Op):List Nat:=match op with
 | .load _ (.tmp d)=>if fz.contains (6000000+d)then d::dst.toList else dst.toList
 | .store _ (.tmp d) _=>if fz.contains d then d::dst.toList else dst.toList
 |_=>dst.toList
def nX (fz:List Nat):Code->List Nat
 | .region _ ops _=>ops.toList.flatMap λo=>owr fz o.dst o.op
 | .seq x y=>nX fz x++nX fz y
 | .cond _ x y=>nX fz x++nX fz y
 | .block _ c=>nX fz c
 | .loop c=>nX fz c
 |_=>[]
def cO (ws:List Nat)(A B:aa):Prop:=∀ i,i∉ws->B.env i=A.env i
def ae (P:Program)(W0:World)(n:Nat)(fz:List Nat)(c:Code)(_:Tag c)(Q:Exit->aa->Prop)(_:Tag Q)(A:aa):Prop:=VC P W0 n (.loop c) (λe A'=>Q e A'/\cO (nX fz c) A A') A
def gop (P:Program)(W0:World)(G:Bool)(dst:Option Nat)(A:aa)(k:aa->Prop):Op->Prop
 | .call c=>(match c.callee with
  | .value f=>okM (some G) (A.val f)/\e8 (some G) A c.args.toList/\(G=true->aj P W0 (unm (A.val f)) (cT A c.args.toList) dst A k .mk)/\(G=false-> ∃v,k (A.put dst (.maybe false v)))
  | .builtin .append=>e8 (some G) A c.args.toList/\(G=true->bA P c.argTypes.toList (cT A c.args.toList) dst A k .mk)/\(G=false-> ∃v,k (A.put dst (.maybe false v)))
  |_=>False)
 |_=>False
def jT (P:Program)(W0:World)(n:Nat)(fz:List Nat)(ops:Array Oper):List Oper->(aa->Prop)->aa->Prop
 |[],K,A=>K A
 |o::r,K,A=>j0 n o.dst/\(match o.guard with
  |none=>op2 P W0 fz o.dst A (λA'=>jT P W0 n fz ops r K A') o.op
  |some (j,want)=>(match tK ops j with
   |some d=>gdC (A.env d)/\(if Vm fz o.dst then gop P W0 (gdV want (A.env d)) o.dst A (λA'=>jT P W0 n fz ops r K A') o.op else vop P W0 (some (gdV want (A.env d))) (some A.st) o.dst A (λA'=>jT P W0 n fz ops r K A') o.op)
   |none=>False))
def vH :AV->Bool| .loc _ _=>true|_=>false
def vA (fz:List Nat)(A:aa):Operand->Prop
 | .tmp d=>(fz.contains d||fz.contains (6000000+d))=true->vH (unm (A.env d))=true
 |_=>True
def dop (P:Program)(W0:World)(fz:List Nat)(gd:Option Bool)(dst:Option Nat)(A:aa)(k:aa->Prop):Op->Prop
 | .store t x y=>gd=none/\okM none (A.val x)/\okM none (A.val y)/\jV P [] t x (unm (A.val y)) A (λA'=>k (A'.put dst .undef)) .mk (unm (A.val x))
 | .load t x=>vA fz A x/\vop P W0 gd none dst A k (.load t x)
 | .call c=>vop P W0 gd (if rdM fz dst then some A.st else none) dst A k (.call c)
 |op=>vop P W0 gd none dst A k op
def dz (P:Program)(W0:World)(n:Nat)(fz:List Nat)(id:Nat)(ops:Array Oper):List Oper->(aa->Prop)->aa->Prop
 |[],K,A=>K A
 |o::r,K,A=>if eM fz id o then dz P W0 n fz id ops r K A else j0 n o.dst/\(match o.guard with
  |none=>dop P W0 fz none o.dst A (λA'=>dz P W0 n fz id ops r K A') o.op
  |some (j,want)=>(match tK ops j with
   |some d=>gdC (A.env d)/\dop P W0 fz (some (gdV want (A.env d))) o.dst A (λA'=>dz P W0 n fz id ops r K A') o.op
   |none=>False))
def TR (fz:List Nat):Operand->Prop
 | .tmp d=>fz.contains d=false
 |_=>True
def eop (P:Program)(W0:World)(fz:List Nat)(dst:Option Nat)(A:aa)(k:aa->Prop):Op->Prop
 | .store t x y=>TR fz x/\okM none (A.val x)/\okM none (A.val y)/\jV P fz t x (unm (A.val y)) A (λA'=>k (A'.put dst .undef)) .mk (unm (A.val x))
 |op=>op2 P W0 fz dst A k op
def lg (P:Program)(W0:World)(n:Nat)(fz:List Nat)(id:Nat):List Oper->(aa->Prop)->aa->Prop
 |[],K,A=>K A
 |o::r,K,A=>if eM fz id o then j0 n o.dst/\eop P W0 fz o.dst A (λA'=>if kM fz o.dst then e5 A.st A'.st/\lg P W0 n fz id r K A' else lg P W0 n fz id r K A') o.op else lg P W0 n fz id r K A
def oz (P:Program)(W0:World)(n:Nat)(fz:List Nat)(id:Nat)(l:List Oper)(K:aa->Prop)(A:aa):Prop:=
 if fz.all (λx=>decide (x<2000000))then K A else lg P W0 n fz id l K A
def cVC (P:Program)(W0:World)(n:Nat)(fz:List Nat):Code->(Exit->aa->Prop)->aa->Prop
 | .skip,Q,A=>Q .normal A
 | .ret,Q,A=>Q .ret A
 | .exit id,Q,A=>Q (.exit id) A
 | .seq x y,Q,A=>cVC P W0 n fz x (cr (cVC P W0 n fz y Q) Q) A
 | .cond c x y,Q,A=>okM none (A.val c)/\En (unm (A.val c))/\(bl (unm (A.val c))=true->cVC P W0 n fz x Q A)/\(bl (unm (A.val c))=false->cVC P W0 n fz y Q A)
 | .block id c,Q,A=>cVC P W0 n fz c (eD id Q) A
 | .region id ops true,Q,A=>P.follows .mixedOrders=true/\F9 fz id ops .mk/\nU (D3 fz ops.toList) A (dz P W0 n fz id ops ops.toList (λB=>oz P W0 n fz id ops.toList (Q .normal) B))
 | .region _ ops false,Q,A=>jT P W0 n fz ops ops.toList (Q .normal) A
 | .loop c,Q,A=>ae P W0 n fz c .mk Q .mk A
 |_,_,_=>False
def iQ :Code->Bool
 | .ret=>true
 | .exit _=>true
 | .seq x y=>iQ x||iQ y
 | .cond _ x y=>iQ x&&iQ y
 |_=>false
def cm (P:Program)(W0:World)(n:Nat)(fz:List Nat)(b:Bool)(x:Code)(_:Tag x)(y:Code)(_:Tag y)(z:Code)(_:Tag z)(Q:Exit->aa->Prop)(_:Tag Q)(A:aa):Prop:=
 (b=true->cVC P W0 n fz x (cr (cVC P W0 n fz z Q) Q) A)/\(b=false->cVC P W0 n fz y (cr (cVC P W0 n fz z Q) Q) A)
section
variable {P :Program}{W0:World}{σ:ab}{n:Nat}{A:aa}{gd:Option Bool}{fz:List Nat}
theorem wZ {dst:Option Nat}{k:aa->Prop}{op:Op}(hg: ∀p:Prop,imp gd p->p)(h:vop P W0 gd (some A.st) dst A k op):kS P W0 gd op A λv=>k (A.put dst (dw gd v)):=by
 unfold vop at h;split at h
 .rename_i c;obtain⟨callee,args,argTypes⟩:=c;split at h
  .rename_i f hf;simp only at hf;subst hf;exact aU h.1 (gY h.2.1 h.2.2)
  grind [vo]
 grind [vo]
theorem mo {dst:Option Nat}{k:aa->Prop}{op:Op}(h:vop P W0 none (some A.st) dst A k op):kS P W0 none op A λv=>k (A.put dst v):=wZ (gd:=none) (λ_ h=>h) h
theorem Ow {so:Option ab}{dst:Option Nat}{k:aa->Prop}{op:Op}(h:vop P W0 gd so dst A k op): ∃v,k (A.put dst (dw gd v)):=by
 unfold vop at h;split at h
 .split at h
  .have h3:=h.2.2;unfold aD kH at h3;grind
  grind
 grind
theorem C9 {t:TypeId}{x:Operand}{u v:AV}{k:aa->Prop}(h:jV P fz t x v A k .mk u):mD P fz A t x u v k:=by
 unfold jV at h;grind [mD,acK,look,dY]
theorem lY {o:Oper}{k:aa->Prop}(hd:j0 n o.dst)(h:op2 P W0 fz o.dst A k o.op):yR P W0 n fz o A k:=by
 refine⟨hd,?_⟩;unfold op2 at h;split at h
 .rename_i c hc;rw[hc];obtain⟨callee,args,argTypes⟩:=c;simp only at h ⊢;split at h
  .rename_i f;refine aU h.1 (gY h.2.1 ?_);have h3:=h.2.2;unfold aj at h3;split at h3
   .rename_i g caps he;rw[he];exact h3
   .exact h3.elim
  .refine gY h.1 ?_;have h3:=h.2;unfold bA at h3;split at h3
   .rename_i x y he;rw[he];exact h3
   .exact h3.elim
  .refine gY h.1 ?_;have h3:=h.2;unfold qj at h3;split at h3
   .rename_i x he;rw[he];exact h3
   .exact h3.elim
  .have h3:=mo (W0:=W0) h;rename_i hne1 hne2 hne3;split
   .exact absurd rfl (hne1 _)
   .exact absurd rfl hne2
   .exact absurd rfl hne3
   .exact h3
 .rename_i t x hop;rw[hop];simp only;split at h
  .rename_i d hdst;rw[hdst];simp only;split at h
   .rename_i hc;rw[if_pos hc];have h2:=h.2;rw[hdst]at h2;exact aU h.1.1 ⟨h.1.2,h2⟩
   .rename_i hc;rw[if_neg hc];exact aU h.1 ⟨h.2.1,h.2.2⟩
  .exact h.elim
 .rename_i t hop;rw[hop];simp only;obtain⟨v,hv⟩:=acK.1 h.1;have h2:=h.2;rw[hv]at h2 ⊢;exact h2
 .rename_i t x y hop;rw[hop];simp only;exact aU h.1 (aU h.2.1 h.2.2)
 .rename_i t x y hop;rw[hop];simp only;exact aU h.1 (aU h.2.1 (C9 h.2.2))
 .rename_i t x hop;rw[hop];simp only;have h2:=h.2;unfold ym at h2;split at h2
  .rename_i l he;exact⟨h2.1,aU h.1 (by rw[he];exact h2.2)⟩
  .exact h2.elim
 .rename_i x hop;rw[hop];simp only;have h2:=h.2;unfold FA at h2;split at h2
  .rename_i id he;refine aU h.1 ?_;rw[he];simp only;unfold Ee at h2;split at h2
   .rename_i l pos hs;rw[hs];exact h2
   .exact h2.elim
  .exact h2.elim
 .rename_i t x lo hi mx hop;rw[hop];simp only;split at h
  .exact .inr (aU h.1 (NP h.2.1 h.2.2))
  .exact .inl (mo (W0:=W0) h)
 .rename_i s d x hop;rw[hop];simp only;split at h
  .exact .inr (aU h.1 h.2)
  .exact .inl (mo (W0:=W0) h)
 .rename_i t m ps hop;rw[hop];simp only;split at h
  .refine .inr (nh h.1 ?_);obtain⟨_,h2,h3⟩:=h;unfold ga at h2;unfold qd;split at h2
   .rename_i e he;simp only[he,acR]at h3 ⊢;exact⟨h2,h3⟩
   .exact h2.elim
  .exact .inl (mo (W0:=W0) h)
 .rename_i t hop;rw[hop];simp only;obtain⟨⟨kt,vt⟩,hv⟩:=acK.1 h.1;have h2:=h.2;rw[hv]at h2 ⊢;exact h2
 .rename_i t x ix y hop;rw[hop];simp only;refine aU h.1 (aU h.2.1 (aU h.2.2.1 ?_));have h2:=h.2.2.2;unfold IZ zX at h2;unfold zX;split at h2
  .obtain⟨kt,vt,l,g1,g2,g3,g4,g5,g6⟩:=h2;exact⟨kt,vt,l,g1,g2,g3,g4,g5,by
    have e: ∀σ,(A.ay σ).put o.dst .undef=(A.put o.dst .undef).ay σ:=λσ=>by cases o.dst<;>rfl
    show k ((A.put o.dst .undef).ay _);rw[<-e];exact g6⟩
  .exact h2.elim
 .rename_i h1 h2 h3 h8 h4 h6 h7 h9 h12 h13 h10 h11;have h5:=mo (W0:=W0) h;split
  .rename_i c hc;exact absurd hc (h1 c)
  .rename_i t x hc;exact absurd hc (h2 t x)
  .rename_i t hc;exact absurd hc (h3 t)
  .rename_i t x y hc;exact absurd hc (h8 t x y)
  .rename_i t x y hc;exact absurd hc (h4 t x y)
  .rename_i t x hc;exact absurd hc (h6 t x)
  .rename_i x hc;exact absurd hc (h7 x)
  .rename_i t x lo hi mx hc;exact absurd hc (h9 t x lo hi mx)
  .rename_i s d x hc;exact absurd hc (h12 s d x)
  .rename_i t m ps hc;exact absurd hc (h13 t m ps)
  .rename_i t hc;exact absurd hc (h10 t)
  .rename_i t x ix y hc;exact absurd hc (h11 t x ix y)
  .exact h5
theorem TO {ops:Array Oper}{j d:Nat}{want:Bool}(hj:tK ops j=some d)(hc:gdC (A.env d)):DI ops A j want=some (gdV want (A.env d)):=by
 unfold tK at hj;unfold DI;rw[hj];simp only
 revert hc
 generalize A.env d=u;intro hc;cases u<;>first|rfl|skip
 all_goals first|exact hc.elim|skip
 rename_i g v;cases v<;>first|rfl|(cases g<;>first|rfl|(cases hc))
theorem cO.refl (ws:List Nat)(A:aa):cO ws A A:=λ_ _=>rfl
theorem cO.trans {ws vs:List Nat}{A B C:aa}(h:cO ws A B)(k:cO vs B C):cO (ws++vs) A C:=λi hi=>(k i (λe=>hi (acT _ e))).trans (h i (λe=>hi (acW _ e)))
theorem cO.mono {ws vs:List Nat}{A B:aa}(h:cO ws A B)(hs: ∀i∈ws,i∈vs):cO vs A B:=λi hi=>h i λe=>hi (hs i e)
theorem bo (A:aa)(dst:Option Nat)(v:AV):cO dst.toList A (A.put dst v):=λi hi=>by
 cases dst with
 |none=>rfl
 |some d=>exact A.xz v (λe=>hi (by simp[e]))
theorem cD {ws:List Nat}{A B:aa}(h:cO ws A B)(σ:ab):cO ws A (B.ay σ):=h
theorem en {so:Option ab}{dst:Option Nat}{k k':aa->Prop}{op:Op}(hk: ∀A',cO dst.toList A A'->k A'->k' A')(h:vop P W0 gd so dst A k op):vop P W0 gd so dst A k' op:=by
 cases op
 case call c=>
  obtain⟨callee,args,argTypes⟩:=c;cases callee
  case value f=>
   obtain⟨h1,h2,h3⟩:=h;refine⟨h1,h2,?_⟩;unfold aD kH at h3 ⊢;grind [bo]
  all_goals exact⟨h.1,hk _ (bo _ _ _) h.2⟩
 all_goals exact⟨h.1,hk _ (bo _ _ _) h.2⟩
theorem Dq {dst:Option Nat}{op:Op}{i:Nat}(hi:i∈dst.toList):i∈owr fz dst op:=by
 unfold owr;grind
theorem mr {dst:Option Nat}{k k':aa->Prop}{op:Op}(hk: ∀A',cO (owr fz dst op) A A'->k A'->k' A')(h:op2 P W0 fz dst A k op):op2 P W0 fz dst A k' op:=by
 cases op
 case call c=>
  obtain⟨callee,args,argTypes⟩:=c;cases callee
  case value f=>
   obtain⟨h1,h2,h3⟩:=h;refine⟨h1,h2,?_⟩;unfold aj at h3 ⊢;split at h3
   .exact h3.mono λ_ _=>hk _ (cD (bo _ _ _) _)
   .exact h3.elim
  case builtin b=>
   cases b
   case append=>
    refine⟨h.1,?_⟩;have h3:=h.2;unfold bA at h3 ⊢;split at h3
    .rcases h3 with h3|h3|h3|h3|h3|h3
     .left;unfold rn at h3 ⊢;split at h3
      .obtain⟨e,xs,ys,g1,g2,g3,g4,g5,g6⟩:=h3;exact⟨e,xs,ys,g1,g2,g3,g4,g5,λv σ' hv=>hk _ (cD (bo _ _ _) _) (g6 v σ' hv)⟩
      .exact h3.elim
     .right;left;unfold lC at h3 ⊢;split at h3
      .obtain⟨e,xs,ys,g1,g2,g3,g4,g5,g6,g7⟩:=h3;exact⟨e,xs,ys,g1,g2,g3,g4,g5,λhe=>hk _ (cD (bo _ _ _) _) (g6 he),λhe=>hk _ (cD (bo _ _ _) _) (g7 he)⟩
      .exact h3.elim
     .right;right;left;unfold kg at h3 ⊢;split at h3
      .obtain⟨e,m,z,k,kn,g1,g2,g3,g4,g5,g6⟩:=h3;exact⟨e,m,z,k,kn,g1,g2,g3,g4,g5,hk _ (cD (bo _ _ _) _) g6⟩
      .exact h3.elim
     .right;right;right;left;unfold mN at h3 ⊢;split at h3
      .obtain⟨e,id,off,m,zs,ys,g1,g2,g3,g4,g5,g6⟩:=h3;exact⟨e,id,off,m,zs,ys,g1,g2,g3,g4,g5,hk _ (cD (bo _ _ _) _) g6⟩
      .exact h3.elim
     .right;right;right;right;left;unfold j9 at h3 ⊢;split at h3
      .obtain⟨e,id,off,m,zs,ys,g1,g2,g3,g4,g5,g6,g7,g8,g9⟩:=h3;exact⟨e,id,off,m,zs,ys,g1,g2,g3,g4,g5,g6,g7,hk _ (cD (bo _ _ _) _) g8,hk _ (cD (bo _ _ _) _) g9⟩
      .exact h3.elim
     .right;right;right;right;right;unfold lj at h3 ⊢;split at h3
      .obtain⟨e,xs,l,g1,g2,g3,g4,g5,g6⟩:=h3;exact⟨e,xs,l,g1,g2,g3,g4,g5,λv σ' ha=>hk _ (cD (bo _ _ _) _) (g6 v σ' ha)⟩
      .exact h3.elim
    .exact h3.elim
   case clear=>
    refine⟨h.1,?_⟩;have h3:=h.2;unfold qj at h3 ⊢;split at h3
    .unfold vh at h3 ⊢;split at h3
     .obtain⟨e,id,off,m,zs,v,g1,g2,g3,g4,g5⟩:=h3;exact⟨e,id,off,m,zs,v,g1,g2,g3,g4,hk _ (cD (bo _ _ _) _) g5⟩
     .exact h3.elim
    .exact h3.elim
   all_goals (simp only[op2]at h ⊢;exact en hk h)
  all_goals (simp only[op2]at h ⊢;exact en hk h)
 case box t x=>
  simp only[op2]at h ⊢;split at h
  .split at h
   .rename_i hc;rw[if_pos hc];exact en hk h
   .rename_i hc;rw[if_neg hc];exact⟨h.1,h.2.1,hk _ (cD (bo A (some _) _) _) h.2.2⟩
  .exact h.elim
 case alloc t=>exact⟨h.1,hk _ (cD (bo _ _ _) _) h.2⟩
 case convert s d x=>
  simp only[op2]at h ⊢;split at h
  .rename_i hc;rw[if_pos hc];refine⟨h.1,?_⟩;rcases h.2 with⟨l,e,g1,g2,g3⟩|⟨l,e,g1,g2,g3⟩|⟨e,id,off,m,xs,g1,g2,g3,g4,g5,g6⟩
   .exact .inl ⟨l,e,g1,g2,hk _ (cD (bo _ _ _) _) g3⟩
   .exact .inr (.inl ⟨l,e,g1,g2,hk _ (cD (bo _ _ _) _) g3⟩)
   .exact .inr (.inr ⟨e,id,off,m,xs,g1,g2,g3,g4,g5,hk _ (cD (bo _ _ _) _) g6⟩)
  .rename_i hc;rw[if_neg hc];exact en hk h
 case buildSlice t m ps=>
  simp only[op2]at h ⊢;split at h
  .rename_i hc;rw[if_pos hc];exact⟨h.1,h.2.1,hk _ (cD (bo _ _ _) _) h.2.2⟩
  .rename_i hc;rw[if_neg hc];exact en hk h
 case makeSlice t x y=>
  refine⟨h.1,h.2.1,?_⟩;have h3:=h.2.2;unfold A4 BQ at h3 ⊢;split at h3
  .refine⟨h3.1,?_⟩;have h4:=h3.2;split at h4
   .split at h4
    .obtain⟨g1,g2,g3,g4,g5⟩:=h4;exact⟨g1,g2,g3,g4,hk _ (cD (bo _ _ _) _) g5⟩
    .exact h4.elim
   .exact h4.elim
  .exact h3.elim
 case store t x y=>
  refine⟨h.1,h.2.1,?_⟩;have h3:=h.2.2
  revert h3
  generalize unm (A.val x)=u;intro h3;unfold jV at h3 ⊢;split at h3
  .obtain⟨g1,g2,g3,g4⟩:=h3;refine⟨g1,g2,g3,?_⟩;split at g4
   .simp only;split at g4
    .rename_i hc;rw[if_pos hc];refine⟨g4.1,hk _ (λi hi=>?_) g4.2⟩;simp only[owr,hc,if_true]at hi;exact(bo _ dst .undef i (λe=>hi (by simp[e]))).trans (A.xz _ (λe=>hi (by simp[e])))
    .rename_i hc;rw[if_neg hc];refine hk _ (λi hi=>?_) g4;simp only[owr,hc,ac5,if_false]at hi;exact bo (A.ay _) dst .undef i hi
   .exact g4.elim
  .exact h3.elim
 case range t x=>
  refine⟨h.1,?_⟩;have h2:=h.2;unfold ym at h2 ⊢;split at h2
  .exact⟨h2.1,hk _ (cD (bo _ _ _) _) h2.2⟩
  .exact h2.elim
 case next x b=>
  cases b
  .simp only[op2]at h ⊢;exact en hk h
  .refine⟨h.1,?_⟩;have h2:=h.2;unfold FA at h2 ⊢;split at h2
   .unfold Ee at h2 ⊢;split at h2
    .exact⟨λhp=>hk _ (cD (bo _ _ _) _) (h2.1 hp),λhp=>hk _ (bo _ _ _) (h2.2 hp)⟩
    .exact h2.elim
   .exact h2.elim
 case slice t x lo hi mx=>
  simp only[op2]at h ⊢;split at h
  .rename_i hc;rw[if_pos hc];exact⟨h.1,h.2.1,hk _ (bo _ _ _) h.2.2⟩
  .rename_i hc;rw[if_neg hc];exact en hk h
 case makeMap t r=>
  cases r
  .exact⟨h.1,hk _ (cD (bo _ _ _) _) h.2⟩
  .simp only[op2]at h ⊢;exact en hk h
 case mapUpdate t x ix y=>
  refine⟨h.1,h.2.1,h.2.2.1,?_⟩;have h3:=h.2.2.2;unfold IZ zX at h3 ⊢;split at h3
  .obtain⟨kt,vt,l,g1,g2,g3,g4,g5,g6⟩:=h3;exact⟨kt,vt,l,g1,g2,g3,g4,g5,hk _ (bo (A.ay _) dst .undef) g6⟩
  .exact h3.elim
 all_goals (simp only[op2]at h ⊢;exact en (λA' ha=>hk A' (ha.mono λi hi=>Dq hi)) h)
theorem Tt {g:Bool}{v:AV}(hg:g=true)(h:okM (some g) v):okM none v:=by
 cases v<;>first|trivial|exact h hg
theorem qJ {g:Bool}(hg:g=true): ∀{l:List Operand},e8 (some g) A l->e8 none A l
 |[],_=>trivial
 |_::_,h=>⟨Tt hg h.1,qJ hg h.2⟩
theorem N9 {G:Bool}{o:Oper}{k:aa->Prop}(hd:j0 n o.dst)(h:gop P W0 G o.dst A k o.op):(G=true->yR P W0 n fz o A k)/\(G=false-> ∃v,k (A.put o.dst (.maybe false v))):=by
 unfold gop at h;split at h
 .rename_i c hc;obtain⟨callee,args,argTypes⟩:=c;simp only at h;split at h
  .rename_i f;refine⟨λhG=>lY (P:=P) (W0:=W0) (fz:=fz) hd ?_,h.2.2.2⟩;rw[hc];exact⟨Tt hG h.1,qJ hG h.2.1,h.2.2.1 hG⟩
  .refine⟨λhG=>lY (P:=P) (W0:=W0) (fz:=fz) hd ?_,h.2.2⟩;rw[hc];exact⟨qJ hG h.1,h.2.1 hG⟩
  simp_all
 simp_all
theorem FK {G:Bool}{dst:Option Nat}{k k':aa->Prop}{op:Op}(hk: ∀A',cO dst.toList A A'->k A'->k' A')(h:gop P W0 G dst A k op):gop P W0 G dst A k' op:=by
 unfold gop at h ⊢;split at h
 .rename_i c;split at h
  .rename_i f hf;refine⟨h.1,h.2.1,λhG=>?_,λhG=>(h.2.2.2 hG).imp λ_=>hk _ (bo _ _ _)⟩;have h3:=h.2.2.1 hG;unfold aj at h3 ⊢;grind [aS.mono,cD,bo]
  .refine⟨h.1,λhG=>?_,λhG=>(h.2.2 hG).imp λ_=>hk _ (bo _ _ _)⟩;exact(mr (P:=P) (W0:=W0) (fz:=[]) (op:=.call ⟨.builtin .append,c.args,c.argTypes⟩) (λA' ha=>hk A' ha) ⟨qJ hG h.1,h.2.1 hG⟩).2
  omega
 omega
theorem mV {ops:Array Oper}: ∀(l:List Oper) (K:aa->Prop) (A:aa),jT P W0 n fz ops l K A->rH P W0 n fz ops l K A
 |[],_,_,h=>h
 |o::r,K,A,h=>by
  simp only[jT]at h;obtain⟨hd,h⟩:=h;simp only[rH];have ih:=mV (ops:=ops) r K;split at h
  .grind [lY,mr]
  .rename_i j want hg;simp only[hg];split at h
   .rename_i d hj;rw[TO hj h.1];refine⟨hd,?_⟩;have h2:=h.2;split at h2
    .exact .inr (N9 hd (FK (λA' _=>ih A') h2))
    .have h3:=en (λA' _=>ih A') h2
     revert h3
     generalize gdV want (A.env d)=G;intro h3;cases G with
     |true=>exact .inl (wZ (gd:=some true) (λ_ h=>h rfl) h3)
     |false=>exact .inr ⟨λe=>(Bool.false_ne_true e).elim,λ_=>Ow h3⟩
   simp_all
theorem rP (σ:ab): ∀l:List Operand,e8 gd (A.ay σ) l=e8 gd A l
 |[]=>rfl
 |x::r=>by rw[e8,e8,rP σ r];rfl
theorem pj (σ:ab): ∀l:List Operand,cT (A.ay σ) l=cT A l
 |[]=>rfl
 |x::r=>by rw[cT,cT,pj σ r];rfl
theorem sQ (σ:ab): ∀l:List (Nat×Operand),gL gd (A.ay σ) l=gL gd A l
 |[]=>rfl
 |(_,x)::r=>by rw[gL,gL,sQ σ r];rfl
theorem sD (σ:ab): ∀l:List (Nat×Operand),eB (A.ay σ) l=eB A l
 |[]=>rfl
 |(_,x)::r=>by rw[eB,eB,sD σ r];rfl
theorem X6 {dst:Option Nat}{op:Op}(h:isR fz dst op=false)(hl: ∀t x,op= .load t x->vA fz A x)(σ:ab):opC P gd (A.ay σ) op=opC P gd A op/\opV P gd (A.ay σ) op=opV P gd A op:=by
 cases op<;>first|exact⟨rfl,rfl⟩|(simp[isR]at h;done)|skip
 .simp[opC,opV,sQ,sD]
 .simp[opC,opV,sQ,sD]
 .rename_i t x;have h2:=hl t x rfl;cases x<;>first|(simp[isR]at h;done)|skip
  rename_i d;simp only[isR,Bool.not_eq_false']at h;have h3:vH (unm (A.val (.tmp d)))=true:=h2 h;have hv:(A.ay σ).val (.tmp d)=A.val (.tmp d):=rfl;simp only[opC,opV,hv]
  revert h3
  generalize unm (A.val (.tmp d))=u;intro h3;cases u<;>first|(simp[vH]at h3;done)|exact⟨rfl,rfl⟩
 .rename_i fn first caps;cases fn<;>simp only[opC,opV,rP,pj,and_self]
 simp[opC,opV,rP,pj]
theorem VG {σ τ:ab}{id i:Nat}{path:List Nat}(h:(look σ id i path).isSome=true)(hk:e5 σ τ):look τ id i path=look σ id i path:=by
 obtain⟨y,hy⟩:=acK.1 h;obtain⟨te,xs,y0,hs,hx,hy0⟩:=oP hy;have:=hk _ _ _ hs;unfold look;rw[this,hs]
theorem XA {op:Op}(h:opC P gd A op)(hz:isZ op=true)(hg: ∀g,gd=some g->g=true){τ:ab}(hk:e5 A.st τ):opC P gd (A.ay τ) op/\opV P gd (A.ay τ) op=opV P gd A op:=by
 cases op<;>first|(simp[isZ]at hz;done)|skip
 rename_i t x;have hv:(A.ay τ).val x=A.val x:=by cases x<;>rfl
 have hst:(A.ay τ).st=τ:=rfl;simp only[opC,opV,hv,hst]at h ⊢;obtain⟨h1,h2⟩:=h
 revert h2
 generalize unm (A.val x)=u;intro h2;cases u<;>first|exact h2.elim|exact⟨⟨h1,h2⟩,rfl⟩|skip
 rename_i t' id i path;obtain⟨e,h3⟩:=h2;have h4:(look A.st id i path).isSome=true:=by
  cases gd with
  |none=>exact h3
  |some g=>exact h3 (hg g rfl)
 have h5:=VG h4 hk;refine⟨⟨h1,e,?_⟩,?_⟩
 .simp_all
 .show(look τ id i path).getD .undef=_;rw[h5];rfl
theorem wL {o:Oper}(hl: ∀t x,o.op= .load t x->vA fz A x)(h:opC P gd A o.op):imp gd (jW P W0 fz o A (opV P gd A o.op)):=by
 have key: ∀A':aa,opC P gd A' o.op->imp gd (dQ P W0 o A' (opV P gd A' o.op)):=λA' h'=>by
  have hv:kS P W0 gd o.op A' (· =opV P gd A' o.op):=vo h' rfl;cases gd with
  |none=>
   intro w C a hr;obtain⟨v,rfl,hp⟩:=gV hr hv;exact hp w C a hr
  |some g=>
   intro hg w C a hr;obtain⟨v,rfl,hp⟩:=gV hr hv;exact hp hg w C a hr
 have k2:isR fz o.dst o.op=false-> ∀σ,imp gd (dQ P W0 o (A.ay σ) (opV P gd A o.op)):=λhR σ=>by
  obtain⟨e1,e2⟩:=X6 (P:=P) (gd:=gd) (A:=A) hR hl σ;grind
 have k3:isZ o.op=true->(∀g,gd=some g->g=true)-> ∀τ,e5 A.st τ->opC P gd (A.ay τ) o.op/\opV P gd (A.ay τ) o.op=opV P gd A o.op:=λhz hg τ hk=>XA h hz hg hk
 cases gd with
 |none=>exact⟨key A h,k2,λhz τ hk=>by
   obtain⟨g1,g2⟩:=k3 hz (λg e=>by cases e) τ hk;have:=key _ g1;rw[g2]at this;exact this⟩
 |some g=>exact λhg=>⟨key A h hg,λhR σ=>k2 hR σ hg,λhz τ hk=>by
   obtain⟨g1,g2⟩:=k3 hz (λg' e=>by simp_all) τ hk;have:=key _ g1;rw[g2]at this;exact this hg⟩
theorem MO {o:Oper}(hl: ∀t x,o.op= .load t x->vA fz A x)(h:imp gd (opC P gd A o.op)):imp gd (jW P W0 fz o A (opV P gd A o.op)):=by
 cases gd with
 |none=>exact wL hl h
 |some g=>exact λhg=>wL (gd:=some g) hl (h hg) hg
theorem GB {o:Oper}{so:Option ab}{f:Operand}{args:Array Operand}{argTypes:Array TypeId}{r:AV}(ho:o.op= .call ⟨.value f,args,argTypes⟩)(hso:so=none\/(so=some A.st/\rdM fz o.dst=true))(h1:okM gd (A.val f))(h2:e8 gd A args.toList)
  (h3:kH P W0 gd so (unm (A.val f)) (cT A args.toList) (· =r)):imp gd (jW P W0 fz o A r):=by
 have key: ∀σ:ab,(so=some A.st->σ=A.st)->imp gd (dQ P W0 o (A.ay σ) r):=λσ hσ=>by
  have h3':kH P W0 gd (some σ) (unm (A.val f)) (cT A args.toList) (· =r):=by
   unfold kH at h3 ⊢;split at h3
   .obtain⟨r',g1,g2⟩:=h3;refine⟨r',g1.map λg=>?_,g2⟩;rcases hso with rfl|⟨rfl,_⟩
    .exact g σ
    simp_all
   omega
  have hv:kS P W0 gd o.op (A.ay σ) (· =r):=by
   rw[ho];exact aU (x:=(A.ay σ).val f) h1 (gY (A:=A.ay σ) (by grind [rP]) (by rw[pj];exact h3'))
  cases gd with
  |none=>
   intro w C a hr;obtain⟨v,rfl,hp⟩:=gV hr hv;exact hp w C a hr
  |some g=>
   intro hg w C a hr;obtain⟨v,rfl,hp⟩:=gV hr hv;exact hp hg w C a hr
 have hall:isR fz o.dst o.op=false-> ∀σ,(so=some A.st->σ=A.st):=λhR σ hs=>by
  grind [isR]
 cases gd with
 |none=>exact⟨key A.st λ_=>rfl,λhR σ=>key σ (hall hR σ),λhz=>by rw[ho]at hz;cases hz⟩
 |some g=>exact λhg=>⟨key A.st (λ_=>rfl) hg,λhR σ=>key σ (hall hR σ) hg,λhz=>by rw[ho]at hz;cases hz⟩
theorem AS {o:Oper}{k:aa->Prop}(hW:isW o.op=false)(h:dop P W0 fz gd o.dst A k o.op): ∃v,k (A.put o.dst (dw gd v))/\imp gd (jW P W0 fz o A v):=by
 have hgen:(∀t x,o.op= .load t x->vA fz A x)->imp gd (opC P gd A o.op)/\k (A.put o.dst (dw gd (opV P gd A o.op)))-> ∃v,k (A.put o.dst (dw gd v))/\imp gd (jW P W0 fz o A v):=λhl h=>⟨_,h.2,MO hl h.1⟩
 cases hop:o.op
 case call c=>
  obtain⟨callee,args,argTypes⟩:=c;cases callee
  case value f=>
   rw[hop]at h;obtain⟨h1,h2,h3⟩:=h;unfold aD kH at h3;split at h3
   .rename_i g caps hf;obtain⟨r,h4,h5⟩:=h3;refine⟨r,h5,GB (so:=if rdM fz o.dst then some A.st else none) hop ?_ h1 h2 (by grind [kH])⟩;simp_all
   simp_all
  all_goals (rw[hop]at h;exact hgen (λt x e=>by simp_all) (by rw[hop];exact h))
 case load t x=>
  rw[hop]at h;exact hgen (λt' x' e=>by rw[hop]at e;cases e;exact h.1) (by rw[hop];exact h.2)
 case store t x y=>rw[hop]at hW;cases hW
 all_goals (rw[hop]at h;exact hgen (λt x e=>by rw[hop]at e;cases e) (by rw[hop];exact h))
theorem EO {o:Oper}{t:TypeId}{x y:Operand}{k:aa->Prop}(ho:o.op= .store t x y)(h1:okM none (A.val x))(h2:okM none (A.val y))(h:jV P [] t x (unm (A.val y)) A k .mk (unm (A.val x))): ∃σ',k (A.ay σ')/\KY P W0 o A σ':=by
 have isx:Is P W0 o A x (unm (A.val x)):=by
  obtain⟨u,hu,hi⟩:=cd (P:=P) (W0:=W0) (o:=o) (A:=A) (x:=x) (by grind [Op.operands]) (k:=(· =unm (A.val x))) (aU h1 rfl);simp_all
 have isy:Is P W0 o A y (unm (A.val y)):=by
  obtain⟨u,hu,hi⟩:=cd (P:=P) (W0:=W0) (o:=o) (A:=A) (x:=y) (by grind [Op.operands]) (k:=(· =unm (A.val y))) (aU h2 rfl);simp_all
 unfold jV at h;split at h
 .rename_i t' id i path hux;obtain⟨rfl,g2,g3,g4⟩:=h;rw[hux]at isx;obtain⟨z,hz⟩:=acK.1 g3;obtain⟨te,xs,y0,hs,hx,hy0⟩:=oP hz;split at g4
  .simp only[List.contains_nil,ac5,if_false]at g4;refine⟨_,g4,λw C a hr=>?_⟩;grind [sn,gb,dY]
  simp_all
 simp_all
theorem kW {id:Nat}{ops:Array Oper}: ∀(l:List Oper) (K:aa->Prop) (A:aa),dz P W0 n fz id ops l K A-> ∃vs ss B,Seq P W0 n fz (eM fz id) ops l A vs ss B/\K B
 |[],_,A,h=>⟨[],[],A,.nil A,h⟩
 |o::r,K,A,h=>by
  simp only[dz]at h;split at h
  .rename_i hE;obtain⟨vs,ss,B,h1,h2⟩:=kW r K _ h;exact⟨_,_,B,.skip hE h1,h2⟩
  rename_i hE;replace hE:eM fz id o=false:=by simp_all
  obtain⟨hd,h⟩:=h;have same: ∀v,(A.put o.dst v).ay A.st=A.put o.dst v:=λv=>by cases o.dst<;>rfl
  split at h
  .rename_i hg;have gen:isW o.op=false->dop P W0 fz none o.dst A (λA'=>dz P W0 n fz id ops r K A') o.op-> ∃vs ss B,Seq P W0 n fz (eM fz id) ops (o::r) A vs ss B/\K B:=λhW hv=>by
    obtain⟨v,hk,hp⟩:=AS hW hv;obtain⟨vs,ss,B,h1,h2⟩:=kW r K _ hk;exact⟨v::vs,A.st::ss,B,.cons hE ⟨hd,by rw[hg];exact .inl ⟨hW,rfl,hp⟩⟩ (by rw[same];exact h1),h2⟩
   cases hop:o.op
   case store t x y=>
    rw[hop]at h;obtain⟨_,h1,h2,h3⟩:=h;obtain⟨σ',hk,hs⟩:=EO (W0:=W0) hop h1 h2 h3;obtain⟨vs,ss,B,g1,g2⟩:=kW r K _ hk;have e:(A.ay σ').put o.dst .undef=(A.put o.dst .undef).ay σ':=by cases o.dst<;>rfl
    rw[e]at g1;exact⟨.undef::vs,σ'::ss,B,.cons hE ⟨hd,by rw[hg];exact .inr ⟨by rw[hop];rfl,rfl,hs⟩⟩ g1,g2⟩
   all_goals exact gen (by rw[hop];rfl) (by rw[hop]at h ⊢;exact h)
  .rename_i j want hg;split at h
   .rename_i d hj;have hW:isW o.op=false:=by
     cases hop:o.op<;>first|rfl|skip
     have:=h.2;rw[hop]at this;cases this.1
    obtain⟨v,hk,hp⟩:=AS hW h.2;obtain⟨vs,ss,B,h1,h2⟩:=kW r K _ hk;refine⟨_::vs,A.st::ss,B,.cons hE ⟨hd,by rw[hg];exact⟨hW,rfl,_,v,TO hj h.1,rfl,hp⟩⟩ (by rw[same];exact h1),h2⟩
   simp_all
theorem Ga {dst:Option Nat}{k k':aa->Prop}{op:Op}(hk: ∀A',cO (owr fz dst op) A A'->k A'->k' A')(h:eop P W0 fz dst A k op):eop P W0 fz dst A k' op:=by
 cases op
 case store t x y=>exact⟨h.1,mr (P:=P) (W0:=W0) (op:=.store t x y) hk h.2⟩
 all_goals exact mr (P:=P) (W0:=W0) hk h
theorem Mr {o:Oper}{k:aa->Prop}(hd:j0 n o.dst)(h:eop P W0 fz o.dst A k o.op):O4 fz o.op/\yR P W0 n fz o A k:=by
 cases hop:o.op
 case store t x y=>
  rw[hop]at h;refine⟨?_,lY hd (by rw[hop];exact h.2)⟩;have:=h.1;cases x<;>first|trivial|exact this
 all_goals exact⟨trivial,lY hd (by rw[hop]at h ⊢;exact h)⟩
theorem nL {id:Nat}: ∀(l:List Oper) (K:aa->Prop) (A:aa),lg P W0 n fz id l K A->eVC P W0 n fz (l.filter (eM fz id)) K A
 |[],_,_,h=>h
 |o::r,K,A,h=>by
  simp only[lg]at h;split at h
  .rename_i hE;rw[List.filter_cons_of_pos hE];refine Mr (n:=n) h.1 (Ga (λA' _ hA=>?_) h.2);split at hA
   .exact⟨nL r K A' hA.2,λ_=>hA.1⟩
   .rename_i hk;exact⟨nL r K A' hA,λh=>absurd h hk⟩
  .rename_i hE;rw[List.filter_cons_of_neg hE];exact nL r K A h
theorem CA {id:Nat}{l:List Oper}{K:aa->Prop}(h:oz P W0 n fz id l K A):eVC P W0 n fz (l.filter (eM fz id)) K A:=by
 unfold oz at h;split at h
 .rename_i hall
  have:l.filter (eM fz id)=[]:=by
   grind [List.filter_eq_nil_iff,eM]
  rw[this];exact h
 grind [nL]
theorem Qs {dst:Option Nat}{k k':aa->Prop}{op:Op}(hk: ∀A',cO dst.toList A A'->k A'->k' A')(h:dop P W0 fz gd dst A k op):dop P W0 fz gd dst A k' op:=by
 cases op
 case store t x y=>exact⟨h.1,mr (P:=P) (W0:=W0) (fz:=[]) (op:=.store t x y) (λA' ha=>hk A' (by cases x<;>exact ha)) h.2⟩
 case load t x=>exact⟨h.1,en hk h.2⟩
 case call c=>exact en (op:=.call c) hk h
 all_goals (simp only[dop]at h ⊢;exact en hk h)
theorem AT : ∀(l:List Oper) (i:Nat),i∈Kx fz l->i∈l.flatMap λo=>owr fz o.dst o.op
 |[],_,h=>by cases h
 |o::r,i,h=>by
  rw[Kx]at h;rw[List.flatMap_cons];rcases ac1.1 h with h|h
  .grind [owr]
  .exact acT _ (AT r i h)
theorem SP (l:List Oper)(i:Nat)(h:i∈D3 fz l):i∈l.flatMap λo=>owr fz o.dst o.op:=by
 grind [D3,AT]
theorem I0 (A:aa)(d:Nat):cO [d] A (IS A d):=λi hi=>by
 have hne:i≠d:=λe=>hi (by simp[e])
 unfold IS;split
 .split
  .split
   .exact A.xz _ hne
   .rfl
  .rfl
 .rfl
theorem nU.mono : ∀(l:List Nat) (A:aa) {k k':aa->Prop},(∀B,cO l A B->k B->k' B)->nU l A k->nU l A k'
 |[],A,_,_,hk,h=>hk A (.refl _ _) h
 |d::r,A,_,_,hk,h=>nU.mono r (IS A d) (λB hB=>hk B (by simpa using (I0 A d).trans hB)) h
theorem LS {w:World}{C:Ctx}{a:Act}(h:bG P W0 n w C A a)(d:Nat): ∃C',bG P W0 n w C' (IS A d) a/\Step w C w C':=by
 unfold IS;split
 .rename_i t id he;split
  .rename_i te z hs;split
   .rename_i ht;subst ht;have hv:=h.env d;rw[he]at hv;have hfr:=mF h.st hv hs (i:=0) (x:=z) rfl;obtain⟨k1,k2⟩:=h.st.kill id (acG.1 hs).1;have hr1:=h.step k1 k2;refine⟨_,⟨λj=>?_,hr1.defers,hr1.size,hr1.st⟩,k1⟩;by_cases hj:j=d
    .grind [aa.upd,aa.ay]
    .have:=hr1.env j;grind [aa.upd,aa.ay]
   grind [Step.refl]
  grind [Step.refl]
 grind [Step.refl]
theorem VC.yld {c:Code}{Q:Exit->aa->Prop}: ∀(l:List Nat) (A:aa),nU l A (VC P W0 n c Q)->VC P W0 n c Q A
 |[],_,h=>h
 |d::r,A,h=>λw C a hr=>by
  obtain⟨C',h1,h2⟩:=LS hr d;exact iC (VC.yld r _ h w C' a h1) λe a' w' ⟨A',C'',q,g1,g2⟩=>⟨A',C'',q,g1,h2.trans g2⟩
theorem nU.step {d:Nat}{r:List Nat}{t:TypeId}{id:Nat}{z:AV}{k:aa->Prop}(h1:A.env d= .ptr t id 0 [])(h2:A.st[id]?=some (some (.cells t [z])))(hk:nU r ((A.upd d (.loc t z)).ay (A.st.set id none)) k):nU (d::r) A k:=by
 grind [IS,nU]
theorem zT {ops:Array Oper}{K K':aa->Prop}: ∀(l:List Oper) (A:aa),(∀A',cO (l.flatMap λo=>owr fz o.dst o.op) A A'->K A'->K' A')->jT P W0 n fz ops l K A->jT P W0 n fz ops l K' A
 |[],A,hk,h=>hk _ (.refl _ _) h
 |o::r,A,hk,h=>by
  simp only[jT]at h ⊢;refine⟨h.1,?_⟩;have h2:=h.2;have step: ∀A',cO (owr fz o.dst o.op) A A'->jT P W0 n fz ops r K A'->jT P W0 n fz ops r K' A':=λA' ha=>zT r A' λA'' hb=>hk A'' (by grind [cO.trans])
  split at h2
  .grind [mr]
  grind [FK,cO.mono,Dq,en]
theorem uo {id:Nat}{ops:Array Oper}{K K':aa->Prop}: ∀(l:List Oper) (A:aa),(∀A',cO (l.flatMap λo=>owr fz o.dst o.op) A A'->K A'->K' A')->dz P W0 n fz id ops l K A->dz P W0 n fz id ops l K' A
 |[],A,hk,h=>hk _ (.refl _ _) h
 |o::r,A,hk,h=>by
  simp only[dz]at h ⊢;have step: ∀A',cO o.dst.toList A A'->dz P W0 n fz id ops r K A'->dz P W0 n fz id ops r K' A':=λA' ha=>uo r A' λA'' hb=>hk A'' (by
   refine cO.mono (ha.trans hb) λi hi=>?_
   grind [Dq])
  grind [cO.refl,Qs]
theorem AL {id:Nat}{K K':aa->Prop}: ∀(l:List Oper) (A:aa),(∀A',cO (l.flatMap λo=>owr fz o.dst o.op) A A'->K A'->K' A')->lg P W0 n fz id l K A->lg P W0 n fz id l K' A
 |[],A,hk,h=>hk _ (.refl _ _) h
 |o::r,A,hk,h=>by
  simp only[lg]at h ⊢;have step: ∀A',cO (owr fz o.dst o.op) A A'->lg P W0 n fz id r K A'->lg P W0 n fz id r K' A':=λA' ha=>AL r A' λA'' hb=>hk A'' (by grind [cO.trans])
  grind [Ga,cO.refl]
theorem Fa {id:Nat}{l:List Oper}{K K':aa->Prop}(hk: ∀A',cO (l.flatMap λo=>owr fz o.dst o.op) A A'->K A'->K' A')(h:oz P W0 n fz id l K A):oz P W0 n fz id l K' A:=by
 grind [oz,cO.refl,AL]
theorem fC : ∀(c:Code) {Q Q':Exit->aa->Prop} (A:aa) (_: ∀e A',cO (nX fz c) A A'->Q e A'->Q' e A'),cVC P W0 n fz c Q A->cVC P W0 n fz c Q' A
 | .skip,_,_,A,hq,h=>hq _ A (.refl _ _) h
 | .ret,_,_,A,hq,h=>hq _ A (.refl _ _) h
 | .exit _,_,_,A,hq,h=>hq _ A (.refl _ _) h
 | .seq x y,Q,Q',A,hq,h=>fC x A (λe A' ha q=>by
   cases e with
   |normal=>exact fC y A' (λe A'' hb=>hq e A'' (ha.trans hb)) q
   |_=>exact hq _ _ (ha.mono λi hi=>acW _ hi) q) h
 | .cond c x y,_,_,A,hq,h=>⟨h.1,h.2.1,λhb=>fC x A (λe A' ha=>hq e A' (ha.mono λi hi=>acW _ hi)) (h.2.2.1 hb),λhb=>fC y A (λe A' ha=>hq e A' (ha.mono λi hi=>acT _ hi)) (h.2.2.2 hb)⟩
 | .block id c,_,_,A,hq,h=>fC c A (λe A' ha q=>by
   cases e with
   |exit id'=>
    simp only[eD]at q ⊢;split at q
    .rename_i he;rw[if_pos he];exact hq _ _ ha q
    .rename_i he;rw[if_neg he];exact hq _ _ ha q
   |_=>exact hq _ _ ha q) h
 | .region _ _ true,_,_,A,hq,h=>⟨h.1,h.2.1,nU.mono _ A (λB hB hd=>uo (fz:=fz) _ B (λA' ha q=>Fa (λA'' hb q=>hq _ A'' ((hB.trans (ha.trans hb)).mono λi hi=>by
   rcases ac1.1 hi with h|h
   .exact SP _ _ h
   .rcases ac1.1 h with h|h<;>exact h) q) q) hd) h.2.2⟩
 | .region _ _ false,_,_,A,hq,h=>zT _ A (λA' ha q=>hq _ A' ha q) h
 | .loop c,_,_,_,hq,h=>VC.mono h λe A' q=>⟨hq e A' q.2 q.1,q.2⟩
 | .rangeFunc ..,_,_,_,_,h=>h.elim
 | .scope ..,_,_,_,_,h=>h.elim
 | .label ..,_,_,_,_,h=>h.elim
 | .goto ..,_,_,_,_,h=>h.elim
 | .refuse ..,_,_,_,_,h=>h.elim
def Ls (fz:List Nat)(l:List Oper)(A:aa)(k:aa->Prop)(_:Tag k):Prop:=nU (D3 fz l) A k
def DO (fz:List Nat)(l:List Oper)(A:aa)(k:aa->Prop)(_:Tag k):Prop:=nU (D3 fz l) A k
theorem DO.no {l:List Oper}{k:aa->Prop}(h:D3 fz l=[])(hk:k A):DO fz l A k .mk:=by
 unfold DO;rw[h];exact hk
theorem DO.of {l:List Oper}{k:aa->Prop}(ds:List Nat)(h:D3 fz l=ds)(hk:nU ds A k):DO fz l A k .mk:=by
 grind [DO]
theorem nU.done {k:aa->Prop}(hk:k A):nU [] A k:=hk
theorem cm.cut {b:Bool}{x y z:Code}{Q:Exit->aa->Prop}(R:aa->Prop)(h: ∀A,R A->cVC P W0 n fz z Q A)(h1:b=true->cVC P W0 n fz x (cr R Q) A)(h2:b=false->cVC P W0 n fz y (cr R Q) A):cm P W0 n fz b x .mk y .mk z .mk Q .mk A:=
 ⟨λhb=>fC x A (λe A' _ q=>by cases e<;>first|exact h _ q|exact q) (h1 hb),λhb=>fC y A (λe A' _ q=>by cases e<;>first|exact h _ q|exact q) (h2 hb)⟩
theorem cm.both {b:Bool}{x y z:Code}{Q:Exit->aa->Prop}(h1:b=true->cVC P W0 n fz x (cr (cVC P W0 n fz z Q) Q) A)(h2:b=false->cVC P W0 n fz y (cr (cVC P W0 n fz z Q) Q) A):cm P W0 n fz b x .mk y .mk z .mk Q .mk A:=⟨h1,h2⟩
def keep (ks:List Nat)(A B:aa):aa:=⟨λi=>if ks.contains i then A.env i else B.env i,B.st⟩
theorem Du {ks ws:List Nat}{B:aa}(hk:ks.all (λi=>!ws.contains i)=true)(h:cO ws A B):keep ks A B=B:=by
 obtain⟨env,st⟩:=B;show aa.mk _ st=aa.mk env st;congr 1;funext i;show(if ks.contains i then A.env i else env i)=env i;split
 .rename_i hi;refine(h i λhw=>?_).symm;simp_all
 .rfl
theorem cm.at {b:Bool}{x y z:Code}{Q:Exit->aa->Prop}(ks:List Nat)(hks:ks.all (λi=>!(nX fz x++nX fz y).contains i)=true)(R:aa->Prop)(h1:b=true->cVC P W0 n fz x (cr R Q) A)(h2:b=false->cVC P W0 n fz y (cr R Q) A)
  (h: ∀B,R B->cVC P W0 n fz z Q (keep ks A B)):cm P W0 n fz b x .mk y .mk z .mk Q .mk A:=by
 have key: ∀B,cO (nX fz x++nX fz y) A B->R B->cVC P W0 n fz z Q B:=λB ha hR=>by
  grind [Du]
 exact⟨λhb=>fC x A (λe A' ha q=>by cases e<;>first|exact key _ (ha.mono λi hi=>acW _ hi) q|exact q) (h1 hb),λhb=>fC y A (λe A' ha q=>by cases e<;>first|exact key _ (ha.mono λi hi=>acT _ hi) q|exact q) (h2 hb)⟩
theorem VC.Z6 {c:Operand}{x y:Code}{Q:Exit->aa->Prop}(h1:okM none (A.val c))(h2:En (unm (A.val c)))(ht:bl (unm (A.val c))=true->VC P W0 n x Q A)(hf:bl (unm (A.val c))=false->VC P W0 n y Q A):VC P W0 n (.cond c x y) Q A:=λw C a hr=>by
 have hv:=hr.val c;have hb:a.eval c= .bool (bl (unm (A.val c))):=by
  revert hv h1 h2
  generalize A.val c=u;intro h1 h2 hv;cases u<;>first|exact h2.elim|exact hv.iu|skip
  rename_i g v;have:=hv.strip h1;cases v<;>first|exact h2.elim|exact this.iu
 exact oV hb (λh=>ht h w C a hr) (λh=>hf h w C a hr)
theorem bB : ∀(c:Code) (Q:Exit->aa->Prop) (A:aa),cVC P W0 n fz c Q A->VC P W0 n c Q A
 | .skip,_,_,h=>.skip h
 | .ret,_,_,h=>.ret h
 | .exit _,_,_,h=>.exit h
 | .seq x y,Q,A,h=>.seq ((bB x _ A h).mono λe A' q=>by
   cases e with
   |normal=>exact bB y Q A' q
   |_=>exact q)
 | .cond c x y,Q,A,h=>.Z6 h.1 h.2.1 (λhb=>bB x Q A (h.2.2.1 hb)) (λhb=>bB y Q A (h.2.2.2 hb))
 | .block id c,Q,A,h=>.block (bB c _ A h)
 | .region id ops true,Q,A,h=>.yld _ A (nU.mono _ A (λA1 _ hd=>by
  obtain⟨vs,ss,B,h3,h4⟩:=kW _ _ _ hd;have h5:=CA h4;have:=VC.aa0 (id:=id) (l:=ops.toList) (Q:=Q) (A:=A1) (ac:=KJ [] ops.toList) h.1 (by have:=h.2.1;simp_all[F9]) ⟨vs,ss,B,by omega,h5⟩;omega) h.2.2)
 | .region id ops false,Q,A,h=>by
  have h3:=mV _ _ _ h;have:=VC.region (id:=id) (l:=ops.toList) (fz:=fz) (Q:=Q) (by omega);omega
 | .loop c,Q,A,h=>VC.mono h λ_ _ q=>q.1
 | .rangeFunc ..,_,_,h=>h.elim
 | .scope ..,_,_,h=>h.elim
 | .label ..,_,_,h=>h.elim
 | .goto ..,_,_,h=>h.elim
 | .refuse ..,_,_,h=>h.elim
end
inductive Small :AV->Prop
 |undef:Small .undef
 |int (k n):Small (.int k n)
 |bool (b):Small (.bool b)
 |str {l:List UInt8}:l.length<=maxLen->Small (.str l)
 |nil:Small .nil
 |ar:Small .ar
 |lf:Small .lf
 |df:Small .df
 |kd:Small .kd
 |iface {t v}:Small v->Small (.iface t v)
 |sl {e} {xs:List AV}:xs.length<=maxLen->(∀x∈xs,Small x)->Small (.sl e xs)
 |lit {e} {xs:List AV}:xs.length<=maxLen->(∀x∈xs,Small x)->Small (.lit e xs)
 |own {e} {xs:List AV} {tok}:xs.length<=maxLen->(∀x∈xs,Small x)->Small (.own e xs tok)
 |row {e id off n}:n<=maxLen->Small (.row e id off n)
 |agg {t} {fs:List AV}:(∀x∈fs,Small x)->Small (.agg t fs)
 |loc {t v}:Small v->Small (.loc t v)
 |ptr (t id i path):Small (.ptr t id i path)
 |it (id):Small (.it id)
 |mp (id):Small (.mp id)
 |yl (l):Small (.yl l)
 |fn {f} {caps:List AV}:(∀x∈caps,Small x)->Small (.fn f caps)
 |tup {vs:List AV}:(∀x∈vs,Small x)->Small (.tup vs)
 |maybe {g v}:(g=true->Small v)->Small (.maybe g v)
section
variable {P :Program}{W0 w w':World}{C C':Ctx}{σ σ':ab}{n:Nat}{A:aa}{a:Act}{fz:List Nat}
theorem eg {xs:List AV}(h: ∀(i:Nat)(x:AV),xs[i]?=some x->Small x): ∀x∈xs,Small x:=λx hx=>by
 obtain⟨i,hi,he⟩:=List.getElem_of_mem hx;exact h i x (by simp_all)
theorem Rel.small {x:AV}{cs:List Value}(h:Rel P w C x cs):Small x:=by
 induction h with
 |int k n=>exact .int k n
 |bool b=>exact .bool b
 |str h=>exact .str h
 |nil=>exact .nil
 |ar=>exact .ar
 |lf=>exact .lf
 |df=>exact .df
 |kd=>exact .kd
 |iface _ _ ih=>exact .iface ih
 |sl cf h1 h2 _ _ _ ih=>exact .sl (acM h1 h2) (eg ih)
 |lit cf h1 _ _ _ ih=>exact .lit h1 (eg ih)
 |own cf h1 h2 _ _ _ _ _ ih=>exact .own (acM h1 h2) (eg ih)
 |row h1 h2=>exact .row (acM h1 h2)
 |agg cf _ _ _ _ _ _ ih=>exact .agg (eg ih)
 |loc _ _ _ _ ih=>exact .loc ih
 |ptr=>exact .ptr ..
 |it=>exact .it _
 |mp=>exact .mp _
 |yl=>exact .yl _
 |fn h1 h2 h3 ih=>exact .fn (eg λi x hx=>ih i x _ hx (acI (by grind)))
theorem aJ.small {x:AV}{v:Value}(h:aJ P w C x v):Small x:=by
 induction h with
 |undef=>exact .undef
 |maybe _ _ ih=>exact .maybe ih
 |tup h1 _ ih=>exact .tup (eg λi x hx=>ih i x _ hx (acI (by grind)))
 |agg h=>exact h.small
 |one _ h=>exact h.small
structure WkA (A B:aa):Prop where
 env: ∀i,dq (A.env i) (B.env i)
 st:A.st=B.st
theorem WkA.refl (A:aa):WkA A A:=⟨λ_=>.refl _,rfl⟩
theorem WkA.upd {A B:aa}{d:Nat}{v:AV}(h:WkA A B)(hv:dq (A.env d) v):WkA A (B.upd d v):=⟨λi=>by
 grind [aa.Gl,aa.xz,WkA.env],h.st⟩
def QF (I:aa->Prop)(A:aa):Prop:=I A
theorem QF.here {I:aa->Prop}(h:I A):QF I A:=h
def Wj (I:Nat->aa->Prop)(k:Nat)(A:aa):Prop:=∃ k',k'<k/\I k' A
theorem Wj.here {I:Nat->aa->Prop}{k:Nat}(k':Nat)(hk:k'<k)(h:I k' A):Wj I k A:=⟨k',hk,h⟩
def Kept (fz:List Nat)(c:Code)(_:Tag c)(ks:List Nat):Prop:=ks.all (λi=>!(nX fz c).contains i)=true
theorem Kept.of {c:Code}{ks:List Nat}(h:ks.all (λi=>!(nX fz c).contains i)=true):Kept fz c .mk ks:=h
theorem Kept.nil {c:Code}:Kept fz c .mk []:=rfl
theorem ae.cC {c:Code}{Q:Exit->aa->Prop}(ks:List Nat)(I:Nat->aa->Prop)(k₀:Nat)(h₀:I k₀ A)
  (round: ∀k B,I k B->cVC P W0 n fz c (cr (Wj I k) Q) (keep ks A B)) (hks:Kept fz c .mk ks:=by exact .of (by kernel_rfl)):ae P W0 n fz c .mk Q .mk A:=by
 refine .loop (λk B=>cO (nX fz c) A B/\I k B) k₀ ⟨.refl _ _,h₀⟩ λk B ⟨ha,hI⟩=>?_
 have h1:=round k B hI;rw[Du hks ha]at h1;refine(bB c _ B (fC (Q':=cr (λA'=>∃ k',k'<k/\cO (nX fz c) A A'/\I k' A') λe A'=>Q e A'/\cO (nX fz c) A A') c B (λe A' hb q=>?_) h1));have hab:cO (nX fz c) A A':=(ha.trans hb).mono λi hi=>by simp_all
 cases e with
 |normal=>
  obtain⟨k',hk,hI'⟩:=q;exact⟨k',hk,hab,hI'⟩
 |_=>exact⟨q,hab⟩
theorem ae.upto {c:Code}{Q:Exit->aa->Prop}(ks:List Nat)(N:Nat)(I:Nat->aa->Prop)(i₀:Nat)(hi₀:i₀<=N)(h₀:I i₀ A)
  (round: ∀i B,i<=N->I i B->cVC P W0 n fz c (cr (λA'=>i<N/\I (i+1) A') Q) (keep ks A B)) (hks:Kept fz c .mk ks:=by exact .of (by kernel_rfl)):ae P W0 n fz c .mk Q .mk A:=by
 refine .cC ks (λk B=>∃ i,i<=N/\k=N-i/\I i B) (N-i₀) ⟨i₀,hi₀,rfl,h₀⟩ (hks:=hks) λk B ⟨i,hi,hk,hI⟩=>?_
 refine fC c _ (λe A' _ q=>?_) (round i B hi hI);cases e with
 |normal=>exact⟨N-(i+1),by have:=q.1;omega,i+1,q.1,rfl,q.2⟩
 |_=>exact q
theorem VC.cC {c:Code}{Q:Exit->aa->Prop}(fz:List Nat)(I:Nat->aa->Prop)(k₀:Nat)(h₀:QF (I k₀) A)
  (round: ∀k A,I k A->cVC P W0 n fz c (cr (Wj I k) Q) A):ae P W0 n fz c .mk Q .mk A:=.cC [] I k₀ h₀ round .nil
theorem VC.upto {c:Code}{Q:Exit->aa->Prop}(fz:List Nat)(N:Nat)(I:Nat->aa->Prop)(i₀:Nat)(hi₀:i₀<=N)(h₀:QF (I i₀) A)
  (round: ∀i A,i<=N->I i A->cVC P W0 n fz c (cr (λA'=>i<N/\QF (I (i+1)) A') Q) A):ae P W0 n fz c .mk Q .mk A:=.upto [] N I i₀ hi₀ h₀ round .nil
theorem ae.at {c:Code}{id:Nat}{K:aa->Prop}{Q:Exit->aa->Prop}(ks:List Nat)(R:aa->Prop)(h:ae P W0 n fz c .mk (eD id (cr R Q)) .mk A)(hR: ∀B,R B->K (keep ks A B))(hks:Kept fz c .mk ks:=by exact .of (by kernel_rfl)):ae P W0 n fz c .mk (eD id (cr K Q)) .mk A:=
 VC.mono h λe A' ⟨q,ha⟩=>by
  have key:R A'->K A':=λhr=>by
   have:=hR A' hr
   rwa [Du hks ha]at this
  refine⟨?_,ha⟩;cases e with
  |normal=>exact key q
  |exit id'=>
   simp only[eD]at q ⊢;split at q
   .rename_i he;rw[if_pos he];exact key q
   .rename_i he;rw[if_neg he];exact q
  |_=>exact q
theorem ae.cut {c:Code}{id:Nat}{K:aa->Prop}{Q:Exit->aa->Prop}(R:aa->Prop)(hR: ∀A,R A->K A)(h:ae P W0 n fz c .mk (eD id (cr R Q)) .mk A):ae P W0 n fz c .mk (eD id (cr K Q)) .mk A:=.at [] R h hR .nil
def Xy (ts:List Nat)(r:AV)(σ:ab):Exit->aa->Prop
 | .normal,A| .ret,A=>dq (js A.env ts) r/\A.st.take σ.length=σ
 |_,_=>False
theorem ak {f : FuncId} {fn : Func} {c : Code} {args : List AV} {r : AV} {m : Nat} (ts : List Nat) (fz : List Nat) (hf : P.funcs[f]? = some fn) (hb : fn.body = some c) (hnm : (fn.name == "runtime.NumGoroutine") = false)
  (hm:fn.ntmps=m) (hargs:Nat.ble args.length m=true) (hres:fn.results=(ts.map ResultVar.tmp).toArray) (hr:aX 0 r)
  (h:(∀a∈args,Small a)-> ∀σ,cVC P W0 m fz c (Xy ts r σ) ⟨iP args,σ⟩):ai P W0 f args r:=λσ=>by
 subst hm;refine λw C vs hst hl hv=>?_
 have hsm: ∀a∈args,Small a:=eg λi x hx=>(hv i x _ hx (acI (by grind))).small
 have hvc:=bB c _ _ (h hsm σ);refine(ui hf hb hnm (acL hargs) hres (Q:=λr' σ'=>r'=r/\σ'=σ) (hvc.mono λe A' q=>?_)) w C vs hst hl hv;have key:dq (js A'.env ts) r/\A'.st.take σ.length=σ->Zd ts (λr' σ'=>r'=r/\σ'=σ) σ .ret A':=λ⟨q1,q2⟩=>by
  refine⟨r,σ,q1,⟨acP _,q2.symm⟩,λid te xs hid hs=>?_,fo (adq _) hr,rfl,rfl⟩
  have:σ[id]?=some (some (.cells te xs)):=by grind
  exact hst.ids this
 cases e with
 |normal=>exact key q
 |ret=>exact key q
 |_=>exact q.elim
def yO (P:Program)(t u e:TypeId)(N:Nat):Bool:=elT P t==some e&&(elT P u==some e&&(Nat.ble 1 (af P e)&&(bn P e&&(Nat.ble (N*bytesOf P e) 140737488355328&&Nat.ble N 9223372036854775807))))
theorem vB {t u e:TypeId}{N:Nat}(h:yO P t u e N=true):(elT P t=some e/\elT P u=some e/\0<af P e/\bn P e=true)/\N*bytesOf P e<=140737488355328/\N<=maxLen:=by
 simp only[yO,acS,beq_iff_eq]at h;obtain⟨h1,h2,h3,h4,h5,h6⟩:=h;exact⟨⟨h1,h2,acL h3,h4⟩,acL h5,acL h6⟩
inductive Frz :aa->aa->Prop
 |refl (D:aa):Frz D D
 |row {D B:aa} (d:Nat) {e te:TypeId} {id off m:Nat} {xs:List AV}:D.env d= .row e id off m->D.st[id]?=some (some (.cells te xs))->off+m<=xs.length->Frz ((D.upd d (.sl e ((xs.drop off).take m))).ay (D.st.set id none)) B->Frz D B
theorem bG.frz {B:aa}(hf:Frz A B): ∀{C:Ctx},bG P W0 n w C A a-> ∃C',bG P W0 n w C' B a/\Step w C w C':=by
 induction hf with
 |refl A=>grind [Step.refl]
 |row d h1 h2 h3 _ ih=>
  intro C h;have hv:=h.env d;rw[h1]at hv;have hfr:=nj h.st hv h2 h3;obtain⟨k1,k2⟩:=h.st.kill _ (acG.1 h2).1;have hr1:=h.step k1 k2;have hr2:bG P W0 n w (C.kill _) ((aa.upd _ d (.sl _ _)).ay (List.set _ _ none)) a:=⟨λj=>by
   by_cases hj:j=d
   .subst hj;simpa[aa.upd,aa.ay]using hfr
   .have:=hr1.env j;simpa[aa.upd,aa.ay,hj]using this,hr1.defers,hr1.size,hr1.st⟩
  grind [Step.trans]
def bz (R:aa->Prop):Exit->aa->Prop
 | .normal,A| .ret,A=>∃ A',Frz A A'/\R A'
 |_,_=>False
theorem bz.ret {R:aa->Prop}(h:R A):bz R .ret A:=⟨A,.refl A,h⟩
theorem bz.normal {R:aa->Prop}(h:R A):bz R .normal A:=⟨A,.refl A,h⟩
theorem bz.frz {R:aa->Prop}{x:Exit}(d:Nat){e te:TypeId}{id off m:Nat}{xs:List AV}(h1:A.env d= .row e id off m)(h2:A.st[id]?=some (some (.cells te xs)))(h3:off+m<=xs.length)
  (h:bz R x ((A.upd d (.sl e ((xs.drop off).take m))).ay (A.st.set id none))):bz R x A:=by
 cases x with
 |normal=>obtain⟨A',g1,g2⟩:=h;exact⟨A',.row d h1 h2 h3 g1,g2⟩
 |ret=>obtain⟨A',g1,g2⟩:=h;exact⟨A',.row d h1 h2 h3 g1,g2⟩
 |_=>exact h.elim
theorem bz.vc {R:aa->Prop}{c:Code}(h:VC P W0 n c (bz R) A):VC P W0 n c (λe A'=>(e= .normal\/e= .ret)/\R A') A:=λw C a hr=>
 iC (h w C a hr) λe a' w' ⟨A',C',q,r,s⟩=>by
  cases e with
  |normal=>obtain⟨B,g1,g2⟩:=q;grind [bG.frz,Step.trans]
  |ret=>obtain⟨B,g1,g2⟩:=q;grind [bG.frz,Step.trans]
  |_=>exact q.elim
theorem bZ {f : FuncId} {fn : Func} {c : Code} {args : List AV} {Q : AV → ab → Prop} {m : Nat} (ts : List Nat) (fz : List Nat) (hf : P.funcs[f]? = some fn) (hb : fn.body = some c) (hnm : (fn.name == "runtime.NumGoroutine") = false)
  (hm:fn.ntmps=m) (hargs:Nat.ble args.length m=true) (hres:fn.results=(ts.map ResultVar.tmp).toArray)
  (h:(∀a∈args,Small a)->cVC P W0 m fz c (bz λA=>∃ r,dq (js A.env ts) r/\σ.length<=A.st.length/\Q r A.st) ⟨iP args,σ⟩):aS P W0 f args σ Q:=by
 subst hm;refine λw C vs hst hl hv=>?_
 have hsm: ∀a∈args,Small a:=eg λi x hx=>(hv i x _ hx (acI (by grind))).small
 have hvc:=bz.vc (bB c _ _ (h hsm));refine .inl ⟨⟨fn,hf,by simp[hb],hnm⟩,calls_of_wp hf hb (wp_mono (Cj (hvc w C _ (mu hst hl hv (acL hargs)))) λe a' w' ⟨A',C',q,r,s⟩=>?_)⟩;have fin:a'.defers=[]/\ ∃v,(results fn a'.tmps).run P w'= .ok v w'/\ ∃v₁ r σ' C',Ending.returned v= .returned v₁/\Q r σ'/\aE P W0 w' C' σ'/\aJ P w' C' r v₁/\Step w C w' C':=by
  obtain⟨_,r1,h2,_,h4⟩:=q;obtain⟨v,g1,g2⟩:=oB r hres;exact⟨r.defers,v,g1,v,r1,A'.st,C',rfl,h4,r.st,g2.cb h2,s⟩
 rcases q.1 with rfl|rfl
 .exact fin
 .exact fin
theorem lZ {f : FuncId} {fn : Func} {c : Code} {args : List AV} {r : AV} {m : Nat} (ts : List Nat) (fz : List Nat) (hf : P.funcs[f]? = some fn) (hb : fn.body = some c) (hnm : (fn.name == "runtime.NumGoroutine") = false)
  (hm:fn.ntmps=m) (hargs:Nat.ble args.length m=true) (hres:fn.results=(ts.map ResultVar.tmp).toArray) (hr:aX σ.length r)
  (h:(∀a∈args,Small a)->cVC P W0 m fz c (bz λA=>dq (js A.env ts) r/\A.st.take σ.length=σ) ⟨iP args,σ⟩):aS P W0 f args σ λr' σ'=>r'=r/\σ'=σ:=by
 subst hm;refine λw C vs hst hl hv=>?_
 have hsm: ∀a∈args,Small a:=eg λi x hx=>(hv i x _ hx (acI (by grind))).small
 have hvc:=bz.vc (bB c _ _ (h hsm));refine(ui hf hb hnm (acL hargs) hres (Q:=λr' σ'=>r'=r/\σ'=σ) (hvc.mono λe A' ⟨he,q1,q2⟩=>?_)) w C vs hst hl hv;have key:Zd ts (λr' σ'=>r'=r/\σ'=σ) σ .ret A':=by
  refine⟨r,σ,q1,⟨acP _,q2.symm⟩,λid te xs hid hs=>?_,hr,rfl,rfl⟩
  have:σ[id]?=some (some (.cells te xs)):=by grind
  exact hst.ids this
 rcases he with rfl|rfl
 .exact key
 omega
theorem jJ {f : FuncId} {fn : Func} {c : Code} {args : List AV} {r : AV} {m : Nat} (ts : List Nat) (fz : List Nat) (hf : P.funcs[f]? = some fn) (hb : fn.body = some c) (hnm : (fn.name == "runtime.NumGoroutine") = false)
  (hm:fn.ntmps=m) (hargs:Nat.ble args.length m=true) (hres:fn.results=(ts.map ResultVar.tmp).toArray) (hr:aX 0 r)
  (h:(∀a∈args,Small a)-> ∀σ,cVC P W0 m fz c (bz λA=>dq (js A.env ts) r/\A.st.take σ.length=σ) ⟨iP args,σ⟩):ai P W0 f args r:=λσ=>
 lZ ts fz hf hb hnm hm hargs hres (fo (adq _) hr) λhs=>h hs σ
theorem Xw {f : FuncId} {fn : Func} {e : Array Value → Sem Value} {args : List AV} {r : AV} (hf : P.funcs[f]? = some fn) (hname : (fn.name == "runtime.NumGoroutine") = false)
  (hb:fn.body.isNone=true) (hn:Extern.findNext fn=none) (he:Extern.find fn=some e) (h: ∀w C (vs:List Value),args.length=vs.length->(∀(i:Nat) (a:AV) (v:Value),args[i]?=some a->vs[i]?=some v->aJ P w C a v)-> ∃v,(e vs.toArray).run P w= .ok v w/\aJ P w C r v):ai P W0 f args r:=λσ w C vs hst hl hv=>by
 obtain⟨v,h1,h2⟩:=h w C vs hl hv;refine .inr ⟨v,w,?_,v,r,σ,C,rfl,⟨rfl,rfl⟩,hst,h2,.refl _ _⟩;simp_all[run_callFunc_extern]
theorem bA.own {t u e:TypeId}{x y:AV}{xs ys:List AV}{dst:Option Nat}{k:aa->Prop}(N:Nat)(ho:yO P t u e N=true)(hb:Bld A.st x e xs)(hy:eV A.st y e ys)(hN:xs.length+ys.length<=N)
  (hk: ∀v σ',App A.st x e (xs++ys) v σ'->k ((A.put dst v).ay σ')):bA P [t,u] [x,y] dst A k .mk:=by
 obtain⟨h1,h2,h3⟩:=vB ho;exact .inl ⟨e,xs,ys,h1,hb,hy,acM (acJ _ hN) h2,acM hN h3,hk⟩
theorem bA.row {t u e:TypeId}{x y:AV}{xs ys:List AV}{dst:Option Nat}{k:aa->Prop}(N:Nat)(ho:yO P t u e N=true)(hb:ee A.st x e xs)(hy:eV A.st y e ys)(hN:xs.length+ys.length<=N)
  (h0:ys=[]->k ((A.put dst x).ay A.st)) (hk:ys≠[]->k ((A.put dst (.row e A.st.length 0 (xs.length+ys.length))).ay (cq x A.st++[some (.cells e (xs++ys))]))):bA P [t,u] [x,y] dst A k .mk:=by
 obtain⟨h1,h2,h3⟩:=vB ho;exact .inr (.inl ⟨e,xs,ys,h1,hb,hy,acM (acJ _ hN) h2,acM hN h3,h0,hk⟩)
theorem bA.zero {t u e:TypeId}{k' kn:IntKind}{m:Nat}{z:AV}{dst:Option Nat}{k:aa->Prop}(N:Nat)(ht:elT P t=some e)(hu:P.underlying u=some (.int kn))(hz:zeroOf P e=some z)(ho:(Nat.ble 1 (af P e)&&(bn P e&&(Nat.ble (N*bytesOf P e) 140737488355328&&Nat.ble N 9223372036854775807)))=true)(h0:0<m)(hN:m<=N)
  (hk:k ((A.put dst (.row e A.st.length 0 m)).ay (A.st++[some (.cells e (List.replicate m z))]))):bA P [t,u] [.ar,.int k' m] dst A k .mk:=by
 simp only[acS]at ho;obtain⟨h1,h2,h3,h4⟩:=ho;exact .inr (.inr (.inl ⟨e,m,z,k',kn,⟨rfl,rfl⟩,⟨ht,hu,acL h1,h2,hz⟩,h0,acM (acJ _ hN) (acL h3),acM hN (acL h4),hk⟩))
theorem bA.keep {t u e:TypeId}{id off m:Nat}{y:AV}{zs ys:List AV}{dst:Option Nat}{k:aa->Prop}(N:Nat)(ho:yO P t u e N=true)(hs:A.st[id]?=some (some (.cells e zs)))(hm:off+m=zs.length)(hy:eV A.st y e ys)(hN:m+ys.length<=N)
  (hin:k ((A.put dst (.row e id off (m+ys.length))).ay (A.st.set id (some (.cells e (zs++ys)))))) (hnew:k ((A.put dst (.row e A.st.length 0 (m+ys.length))).ay (A.st++[some (.cells e (zs.drop off++ys))]))):bA P [t,u] [.row e id off m,y] dst A k .mk:=by
 obtain⟨h1,h2,h3⟩:=vB ho;exact .inr (.inr (.inr (.inr (.inl ⟨e,id,off,m,zs,ys,h1,rfl,hs,hm,hy,acM (acJ _ hN) h2,acM hN h3,hin,hnew⟩))))
theorem qj.row {t e:TypeId}{id off m:Nat}{zs:List AV}{v:AV}{dst:Option Nat}{k:aa->Prop}(h1:elT P t=some e)(h3:0<af P e)(hz:zeroOf P e=some v)(hs:A.st[id]?=some (some (.cells e zs)))(hN:off+m<=zs.length)
  (hk:k ((A.put dst (.tup [])).ay (A.st.set id (some (.cells e (j4 zs off (List.replicate m v))))))):qj P [t] [.row e id off m] dst A k .mk:=
 ⟨e,id,off,m,zs,v,⟨h1,h3,hz⟩,rfl,hs,hN,hk⟩
theorem IZ.put {t kt vt:TypeId}{id:Nat}{ix v:AV}{l:List (AV×AV)}{k:aa->Prop}(h1:nm P t=some (kt,vt))(h2:Maps.Keyed P kt)(h3:Df P kt ix)(h4:(qo v).isSome=true)(hs:A.st[id]?=some (some (.mp kt l)))
  (hk:k (A.ay (A.st.set id (some (.mp kt (uF P l ix v)))))):IZ P t (.mp id) ix v A k .mk:=⟨kt,vt,l,h1,h2,h3,h4,hs,hk⟩
theorem A4.go {t e:TypeId}{k k':IntKind}{m:Nat}{z:AV}{dst:Option Nat}{K:aa->Prop}(N:Nat)(ht:elT P t=some e)(hz:zeroOf P e=some z)(ho:(Nat.ble 1 (af P e)&&Nat.ble (N*bytesOf P e) 281474976710656&&Nat.ble N 9223372036854775807)=true)(hN:m<=N)
  (hk:K ((A.put dst (.row e A.st.length 0 m)).ay (A.st++[some (.cells e (List.replicate m z))]))):A4 P t (.int k m) (.int k' m) dst A K .mk:=by
 rw[acS,acS]at ho;refine⟨rfl,?_⟩;simp only[ht,hz,Int.toNat_natCast];refine⟨acL ho.1.1,Int.natCast_nonneg _,acM (acJ _ hN) (acL ho.1.2),acM hN (acL ho.2),hk⟩
theorem Hl.of {so:Option ab}{g:FuncId}{us:List AV}{r:AV}(h:ai P W0 g us r):Hl P W0 so g us r:=by cases so<;>first|exact h|exact h _
theorem aD.go {gd:Option Bool}{so:Option ab}{g:FuncId}{caps us:List AV}{dst:Option Nat}{k:aa->Prop}{r:AV}(h:imp gd (ai P W0 g (us++caps) r))(hk:k (A.put dst (dw gd r))):aD P W0 gd so (.fn g caps) us dst A k .mk:=⟨r,h.map .of,hk⟩
theorem aD.st {gd:Option Bool}{g:FuncId}{caps us:List AV}{dst:Option Nat}{k:aa->Prop}{r:AV}(h:imp gd (aS P W0 g (us++caps) σ λr' σ'=>r'=r/\σ'=σ))(hk:k (A.put dst (dw gd r))):aD P W0 gd (some σ) (.fn g caps) us dst A k .mk:=⟨r,h,hk⟩
theorem aD.fn {gd:Option Bool}{so:Option ab}{g:FuncId}{us:List AV}{dst:Option Nat}{k:aa->Prop}{r:AV}(h:ai P W0 g us r)(hk:k (A.put dst (dw gd r))):aD P W0 gd so (.fn g []) us dst A k .mk:=⟨r,.of (.of (by simp_all)),hk⟩
theorem aD.fnG {G:Bool}{so:Option ab}{g:FuncId}{us:List AV}{dst:Option Nat}{k:aa->Prop}{r:AV}(h:G=true->ai P W0 g us r)(hk:k (A.put dst (.maybe G r))):aD P W0 (some G) so (.fn g []) us dst A k .mk:=⟨r,λhg=>.of (by simp_all),hk⟩
theorem qm (dst:Option Nat)(r:AV):(A.put dst r).ay A.st=A.put dst r:=by cases dst<;>rfl
theorem aj.pure {g:FuncId}{caps us:List AV}{dst:Option Nat}{k:aa->Prop}{r:AV}(h:ai P W0 g (us++caps) r)(hk:k (A.put dst r)):aj P W0 (.fn g caps) us dst A k .mk:=
 (h A.st).mono λr' σ' ⟨h1,h2⟩=>by grind [qm]
theorem aj.fn {g:FuncId}{us:List AV}{dst:Option Nat}{k:aa->Prop}{r:AV}(h:ai P W0 g us r)(hk:k (A.put dst r)):aj P W0 (.fn g []) us dst A k .mk:=.pure (by simp_all) hk
end
end Go.Av
end
