/- What the last text of this claim rests on. No conditions. -/
import Derived.Sort.Walk0
import Derived.Lib.SlicesCompact
import Derived.Test.YtbkobngljnnmgaaGreatDoorWah
import Derived.Test.YtbkobngljnnmgaaGreatDoorWak
import Derived.Test.YtbkobngljnnmgaaGreatDoorWap
import Derived.Test.YtbkobngljnnmgaaGreatDoorWas
import Derived.Test.YtbkobngljnnmgaaGreatDoorWax
import Derived.Test.YtbkobngljnnmgaaGreatDoorWay
import Derived.Test.YtbkobngljnnmgaaGreatDoorWba
import Derived.Test.YtbkobngljnnmgaaGreatDoorWbb
set_option linter.unusedSimpArgs false
set_option linter.unusedVariables false
open List renaming getElem?_eq_some_iff->acf,length_map->acg,getElem?_append_left->ach,mem_append->aci,mem_singleton->acj,mem_map->ack,getElem?_set_self->acm,getElem?_append_right->aco,take_of_length_le->acq,length_append->acr,append_nil->acs,mem_of_getElem?->acv,mem_flatMap->acw,length_cons->acx,mem_take_iff_getElem->acy,mergeSort_perm->acz,map_append->acA,pairwise_cons->acB,takeWhile_append_dropWhile->acC,foldl_cons->acD,length_nil->acE,drop_eq_getElem_cons->acG,pairwise_iff_getElem->acH,pairwise_mergeSort->acL,mem_filter->acN,mem_cons_self->acQ,nodup_append->acR,flatMap_cons->acS,length_take->acU,filter_cons->acV,take_length->acW,all_eq_true->acX,map_cons->ac3,map_nil->ac5
open Nat renaming zero_le->acn,or_lt_two_pow->acp,pow_lt_pow_right->acu,lt_of_lt_of_le->acF,le_refl->acI,sub_self->acM,pow_le_pow_right->acO,two_pow_pos->acY,mul_le_mul->ac1,le_trans->ac4
open Bool renaming not_eq_true'->acJ,and_eq_true->acT,eq_iff_iff->acZ,or_eq_true->ac0
open Option renaming bind_some->acK
open List.Perm renaming length_eq->acP
open Classical renaming byContradiction->ac2
open Option.some renaming injEq->ac6
open List.Pairwise renaming imp->ac7
section
namespace Go.Av
open Go
def iR (σ:ab)(x:AV)(e:TypeId)(xs:List AV):Prop:=(x= .aq/\xs=[])\/ ∃id,x= .row e id 0 xs.length/\σ[id]?=some (some (.cells e xs))/\xs≠[]
theorem iR.v {σ:ab}{x:AV}{e:TypeId}{xs:List AV}(h:iR σ x e xs):dr σ x e xs:=by
 rcases h with h|⟨id,rfl,h,_⟩
 .exact .inl h
 .exact .inr ⟨id,0,_,xs,rfl,h,by omega,by simp⟩
theorem iR.keep {st st':ab}{v:AV}{e:TypeId}{xs:List AV}(h:iR st v e xs)(hk: ∀j∈aN v,st'[j]?=st[j]?):iR st' v e xs:=by
 rcases h with h|⟨id,rfl,h,h1⟩
 .exact .inl h
 .exact .inr ⟨id,rfl,by grind [aN],h1⟩
structure dw (σ:ab)(x:AV)(e:TypeId)(zs:List AV)(v:AV)(σ':ab):Prop where
 row:iR σ' v e zs
 fr:Fr (aN x) σ σ'
 aN: ∀j∈aN v,j∈aN x\/σ.length<=j
theorem bq.yj {P:Program}{A:aa}{σ:ab}{t u e:TypeId}{x y:AV}{xs ys:List AV}{dst:Option Nat}{k:aa->Prop}(hσ:A.st=σ)(N:Nat)(ho:yw P t u e N=true)(hb:dr σ x e xs)(hy:eP σ y e ys)(h0:ys≠[])(hN:xs.length+ys.length<=N)
  (hk: ∀v σ',dw σ x e (xs++ys) v σ'->k ((A.put dst v).ax σ')):bq P [t,u] [x,y] dst A k .mk:=by
 subst hσ;have hkl:(cn x A.st).length=A.st.length:=by unfold cn;grind
 refine bq.row N ho hb.st hy hN (λhe=>absurd he h0) λhe=>hk _ _ ⟨.inr ⟨A.st.length,by simp_all,?_,by simp[h0]⟩,?_,λj hj=>?_⟩
 .simp_all
 .refine Fr.app ?_ _;unfold cn;grind [Fr.set,Fr.refl,aN]
 grind [aN]
open Go.Proofs.Tryz
theorem Dy {all:List Pkg}: ∀{f i:Nat},i<=all.length->((dY all f i).map List.length).sum<=all.length-i
 |0,i,_=>by simp[dY]
 |f+1,i,hi=>by
  rw[dY];split
  .simp
  .rename_i h;obtain⟨p,hp⟩:=get_some (show i<all.length by omega);obtain⟨b1,b2⟩:=eD hp;have ih:=Dy (f:=f) b2;grind
theorem D4 {all:List Pkg}(s:List aA)(l:List aM)(hc:oN all):(aV all s l).map (·.2)=dY all (all.length+1) 0:=by
 simp_all[aV,nk]
theorem VZ {l:List Nat}{n:Nat}(h: ∀i∈l,i<n):bZ l<2^n:=by
 induction l with
 |nil=>exact acY n
 |cons a r ih=>simp_all[bZ,acp,acu]
theorem Ik (all:List Pkg)(s:List aA)(l:List aM):(aV all s l).length<=all.length:=by
 grind [aV,sC,B8]
theorem SJ {all:List Pkg}(s:List aA)(l:List aM)(hc:oN all)(D:Dat):j2 D (aV all s l) 0 0+1<=2*2^all.length:=by
 have hg:=D4 s l hc;have h1:=KN D (gs:=aV all s l) 0 0 λg hgm=>KP (all:=all) (f:=all.length+1) (i:=0) g.2 (by grind) (by omega)
 have h2:=Gl (aV all s l);have h3:((aV all s l).map λg=>g.2.length).sum<=all.length:=by
  have:(aV all s l).map (λg=>g.2.length)=((aV all s l).map (·.2)).map List.length:=by simp
  grind [Dy]
 have h4:2^((aV all s l).map λg=>g.2.length).sum<=2^all.length:=acO (by decide) h3;omega
end Go.Av
end
section
namespace Go.Proofs.Tryz
open Go Go.Av
set_option maxRecDepth 10000
set_option maxHeartbeats 2000000
variable {W0 :World}
def jw (gs:List (Bool×List Nat)):AV:=.sl 88 (gs.map λg=>nN g.2)
def jq (gs:List (Bool×List Nat)):AV:=.sl 4 (gs.map λg=>.bool g.1)
def ef (all:List Pkg)(s:List aA)(l:List aM)(bud sp:Int)(dn:Bool)(v:AV):Option bH:=
 cT (aL all) (aK s) (bC l) (jw (aV all s l)) (jq (aV all s l)) (eJ all s l) (fo (s.map (je all))) (.bool (eV l)) (.bool (dR all s l)) (.int .i64 bud) (.int .i64 sp) (.bool dn) v
theorem Mf {all:List Pkg}{s:List aA}{l:List aM}(hn:(l.map (·.name)).Nodup)(bud:Int):Bn all s l bud=ef all s l bud 0 false .aq:=by
 have e1:(nmB all all.length).map (λn=>nN (br all λp=>p.name==n))=(aV all s l).map λg=>nN g.2:=by
  simp[aV,sC,zH]
 have e2:(nmB all all.length).map (λn=>AV.bool (ua l s n))=(aV all s l).map λg=>.bool g.1:=by
  simp_all[aV,sC,Ui]
 grind [je,List.map_congr_left,zH,Bn,fy,ef,jw,jq,eJ,SY]
def yG (b:Br):AV:=.agg 261 [.int .i64 (b.1:Nat),cL b.2.1,cL b.2.2]
structure dL (σ:ab)(id:Nat)(all:List Pkg)(s:List aA)(l:List aM)(bud:Int)(st:List Br)(os:List Nat)(sp:Nat)(v3 v12:AV)(τ:ab):Prop where
 todo:dr τ v3 261 (st.map yG)
 out:iR τ v12 218 ((os.map λS=>(kH all s S (eV l),S)).map fW)
 obj:τ[id]?=some (ef all s l bud sp false v12)
 fr:Fr [id] σ τ
 f3: ∀j∈aN v3,σ.length<=j
 f12: ∀j∈aN v12,σ.length<=j
structure Q7 (all:List Pkg)(s:List aA)(l:List aM)(bud:Int)(st:List Br)(os:List Nat)(sp:Nat):Prop where
 perm:(os++s5 (fc all s l) (aV all s l) st).Perm (pG (fc all s l) (aV all s l) 0 0)
 cnt:sp+mF (fc all s l) (aV all s l) st=j2 (fc all s l) (aV all s l) 0 0
 len:os.length<=sp
 bud:bud=0\/(sp:Int)<=bud
 ok: ∀b∈st,b.1<=(aV all s l).length/\b.2.1<2^all.length/\b.2.2<2^all.length
 oks: ∀S∈os,S<2^all.length
section
variable {σ τ:ab}{id:Nat}{all:List Pkg}{s:List aA}{l:List aM}{bud:Int}{st:List Br}{os:List Nat}{sp:Nat}{v3 v12:AV}
theorem dL.ne3 (h:dL σ id all s l bud st os sp v3 v12 τ):id∉aN v3:=by
 have:=h.obj;unfold ef cT at this;exact h.todo.ne this (by decide)
theorem dL.Xv (h:dL σ id all s l bud st os sp v3 v12 τ):id∉aN v12:=by
 have:=h.obj;unfold ef cT at this;exact h.out.v.ne this (by decide)
theorem dL.more (h:dL σ id all s l bud st os sp v3 v12 τ)(J:ab):dL σ id all s l bud st os sp v3 v12 (τ++J):=
 ⟨h.todo.keep λj hj=>by rw[ach (h.todo.lt j hj)],h.out.keep λj hj=>by rw[ach (h.out.v.lt j hj)],by grind [ach,dL.obj],h.fr.app _,h.f3,h.f12⟩
theorem dL.aaF (h:dL σ id all s l bud st os sp v3 v12 τ)(sp':Nat):dL σ id all s l bud st os sp' v3 v12 (τ.set id (ef all s l bud sp' false v12)):=
 ⟨h.todo.keep λj hj=>by grind [dL.ne3],h.out.keep λj hj=>by grind [dL.Xv],acm (acf.1 h.obj).1,h.fr.set (.inl (by simp)) _,h.f3,h.f12⟩
theorem dL.cut {n:Nat}(h:dL σ id all s l bud st os sp v3 v12 τ)(hn:n<=st.length):dL σ id all s l bud (st.take n) os sp (uo 0 n v3) v12 τ:=
 ⟨by have:=h.todo.cut (a:=0) (b:=n) (acn _) (by simp_all);simp_all,h.out,h.obj,h.fr,λj hj=>h.f3 j (by grind [pd]),h.f12⟩
theorem dL.add {τ':ab}{v:AV}{S:Nat}(h:dL σ id all s l bud st os sp v3 v12 τ)(ha:dw τ v12 218 ((os.map λS=>(kH all s S (eV l),S)).map fW++[fW (kH all s S (eV l),S)]) v τ'):dL σ id all s l bud st (os++[S]) sp v3 v (τ'.set id (ef all s l bud sp false v)):=by
 have hlen:=h.fr.len;have hidl:=(acf.1 h.obj).1;have hobj':=h.obj;unfold ef cT at hobj';have hidv:id∉aN v:=λhj=>by
  rcases ha.aN id hj with h1|h1
  .exact h.Xv h1
  .omega
 have hf: ∀j∈aN v3,τ'[j]?=τ[j]?:=λj hj=>ha.fr.old j (h.todo.lt j hj) λhj2=>by
  rcases h.out with⟨rfl,_⟩|⟨ido,rfl,ho,_⟩
  .grind [aN]
  .simp[aN]at hj2;subst hj2;exact h.todo.ne ho (by decide) hj
 refine⟨h.todo.keep λj hj=>?_,?_,acm (acF hidl ha.fr.len),?_,h.f3,λj hj=>?_⟩
 .grind [dL.ne3]
 .rw[acA,acA];exact ha.row.keep λj hj=>by grind
 .refine Fr.set (id:=id) ⟨by have:=ha.fr.len;omega,λj hj hF=>?_⟩ (.inl (by simp)) _;rw[ha.fr.old j (by omega) λhj2=>by have:=h.f12 j hj2;omega,h.fr.old j hj hF]
 .rcases ha.aN j hj with h1|h1
  .exact h.f12 j h1
  .omega
theorem dL.push {τ':ab}{v:AV}{x:Br}(h:dL σ id all s l bud st os sp v3 v12 τ)(ha:dw τ v3 261 (st.map yG++[yG x]) v τ'):dL σ id all s l bud (st++[x]) os sp v v12 τ':=by
 have hlen:=h.fr.len;refine⟨by grind [iR.v,dw.row],h.out.keep λj hj=>ha.fr.old j (h.out.v.lt j hj) λhj2=>?_,by rw[ha.fr.old id (acf.1 h.obj).1 h.ne3,h.obj],?_,λj hj=>?_,h.f12⟩
 .rcases h.out with⟨rfl,_⟩|⟨ido,rfl,ho,_⟩
  .grind [aN]
  .simp[aN]at hj;subst hj;exact h.todo.ne ho (by decide) hj2
 .exact⟨by have:=ha.fr.len;omega,λj hj hF=>by rw[ha.fr.old j (by omega) λhj2=>by have:=h.f3 j hj2;omega,h.fr.old j hj hF]⟩
 .rcases ha.aN j hj with h1|h1
  .exact h.f3 j h1
  .omega
end
theorem Uf (hW:qM W0)(σ:ab)(id:Nat)(all:List Pkg)(s:List aA)(l:List aM)(bud:Int)(hn:(l.map (·.name)).Nodup)(h0:aZ all=0)(ho:all=cO all)(hmn: ∀p∈all,iT p)(GP:s.length<=10)(hb0:0<=bud)(hbm:bud<=1000000000000)
  (hid:σ[id]?=some (ef all s l bud 0 false .aq)):
  aP prog W0 156 [.ptr 143 id 0 []] σ λr σ'=>Fr [id] σ σ'/\
   ((0<bud/\bud<j2 (fc all s l) (aV all s l) 0 0/\r= .int .i64 11/\ ∃v,σ'[id]?=some (ef all s l bud bud false v))\/
    ((bud=0\/j2 (fc all s l) (aV all s l) 0 0<=bud)/\r= .int .i64 0/\ ∃(v:AV) (o:List FB),σ'[id]?=some (ef all s l bud (j2 (fc all s l) (aV all s l) 0 0) true v)/\dr σ' v 218 (o.map fW)/\(∀j∈aN v,σ.length<=j)/\o.Perm (Bf all s l (eV l))/\o.Pairwise λx y=>ltB y x=false)):=by
 have hidl:=(acf.1 hid).1;have h24:=dF h0;have hcont:oN all:=ye (by rw[ho];exact kp (fD h0).2);have htot:=SJ s l hcont (fc all s l);have h2n:2^all.length<=16777216:=ac4 (acO (n:=2) (by decide) h24) (by decide);refine jH [.tmp 2] [5,8,5000010,3000069,2000072,4000011,2000140,2000003] func156 rfl rfl ntmps156 rfl rfl λhs=>?_
 have hid':=hid;simp only[go_sem,simprocAttr];refine ae.at [0] (λA=>∃ os sp v3 v12,dL σ id all s l bud [] os sp v3 v12 A.st/\Q7 all s l bud [] os sp) ?_ λB ⟨os,sp,v3,v12,hI,hC⟩=>?_
 .refine ae.cB [0] (λk A=>∃ st os sp v3 v12,A.env 3=v3/\k=mF (fc all s l) (aV all s l) st/\dL σ id all s l bud st os sp v3 v12 A.st/\Q7 all s l bud st os sp) _ ⟨[(0,0,0)],[],0,_,.aq,rfl,rfl,?_⟩ λk B ⟨st,os,sp,v3,v12,h3,hk,hI,hC⟩=>?_
  .simp only[go_sem,simprocAttr];have hx0:Ext σ (σ++[some (.cells 261 [yG (0,0,0)])]):=Ext.app (.refl _) _;obtain⟨r1,r2⟩:=Md (D:=fc all s l) (gs:=aV all s l);refine⟨⟨.inr ⟨σ.length,0,1,[yG (0,0,0)],rfl,?_,by simp,by simp⟩,.inl ⟨rfl,rfl⟩,?_,Fr.ext hx0,λj hj=>?_,λj hj=>by grind [aN]⟩,?_,?_,by simp,?_,λb hb=>?_,λS hS=>by cases hS⟩
   .rw[aco (acI _),acM];rfl
   .grind
   .grind [aN]
   .grind
   .omega
   .omega
   grind
  have hob:=hI.obj;unfold ef cT jw jq eJ at hob;have hspt:sp<=j2 (fc all s l) (aV all s l) 0 0:=by grind [Q7.cnt]
  have hw:IntKind.i64.wrap ((sp:Int)+1)=((sp+1:Nat):Int):=by grind [aJ]
  obtain⟨τ,hτ⟩: ∃τ,τ=B.st.set id (ef all s l bud (sp+1:Nat) false v12):=⟨_,rfl⟩;have hIτ:=hI.aaF (sp+1);rw[<-hτ]at hIτ;unfold ef cT jw jq eJ at hτ;simp only[go_sem,simprocAttr,h3,hI.todo.st.ok,hI.todo.st.un,hI.todo.st.len,hI.todo.st.gn,ak hob,aC hob,hw,acg];refine⟨λhpos=>⟨.of (by kernel_rfl),λhbs=>cW.ret ?_,λhbs=>?_⟩,λhneg=>?_⟩
  .rw[acT,decide_eq_true_eq,beq_iff_eq]at hbs;have hrl:=yb (D:=fc all s l) (gs:=aV all s l) st;have hcnt:=hC.cnt;have hobj:=hI.obj;rw[hbs.2]at hobj;simp only[go_sem,simprocAttr];exact⟨_,.refl _,hI.fr.len,hI.fr,.inl ⟨hbs.1,by omega,rfl,v12,hobj⟩⟩
  .rw[<-hτ];clear hτ;obtain⟨st',b,rfl⟩: ∃st' b,st=st'++[b]:=by
    have hne:st≠[]:=λe=>by grind
    exact⟨st.dropLast,st.getLast hne,(List.dropLast_concat_getLast hne).symm⟩
   have hrl:=yb (D:=fc all s l) (gs:=aV all s l) (st'++[b]);have hcnt:=hC.cnt;have hstl:(st'++[b]).length=st'.length+1:=by simp
   have hwl:IntKind.i64.wrap (((st'.length+1:Nat):Int)-1)=(st'.length:Int):=by grind [aJ]
   have hcut:=(hIτ.cut (n:=st'.length) (by omega)).more [none];rw[List.take_left' rfl]at hcut;obtain⟨hb1,hb2,hb3⟩:=hC.ok b (by simp);have hidx: ∃idt off zs,v3= .row 261 idt off (st'.length+1)/\τ[idt]?=some (some (.cells 261 zs))/\zs[off+st'.length]?=some (yG b):=by
    rcases hIτ.todo with⟨_,hnil⟩|⟨idt,off,m,zs,rfl,hz,hle,hx⟩
    .simp at hnil
    have hml:m=st'.length+1:=by
     grind [acU]
    subst hml;refine⟨idt,off,zs,rfl,hz,?_⟩;have h1:((st'++[b]).map yG)[st'.length]?=some (yG b):=by simp
    grind
   obtain⟨idt,off,zs,rfl,hzτ,hzi⟩:=hidx;have hobu:=hcut.obj;have hbud1:bud=0\/((sp+1:Nat):Int)<=bud:=by
    rcases hC.bud with h|h
    .omega
    grind
   unfold ef cT jw jq eJ at hobu;simp only[go_sem,simprocAttr,hwl,ak hzτ,aO hzτ,Int.toNat_natCast,hzi,yG,cL,ak hobu,acg];refine⟨by omega,by omega,.of (by kernel_rfl),λhleaf=>?_,λhnode=>?_⟩
   .have hbud':bud=0\/((sp+1:Nat):Int)<=bud:=hbud1;have hleaf':b.1=(aV all s l).length:=by omega
    have hhl:=Iu (W0:=W0) hW _ id all s l b.2.1 h24 hb2 hcut.obj;refine aj.reads (by simp only[go_sem,simprocAttr]) hhl ?_;simp only[go_sem,simprocAttr];have hcut':dL σ id all s l bud st' os (sp+1) (.row 261 idt off st'.length) v12 (τ++[none]):=by grind [uo]
    have hleafR:=Sj (D:=fc all s l) (gs:=aV all s l) (st:=st') hleaf';refine cc.at [0,3] (by kernel_rfl) (λA=>∃ v,dL σ id all s l bud st' (if fZ all b.2.1=true then os++[b.2.1]else os) (sp+1) (.row 261 idt off st'.length) v A.st) (λhh=>?_) (λhh=>?_) λB1 ⟨v,hI1⟩=>?_
    .rw[if_pos hh];have hco:=QK (W0:=W0) hW _ id all s l b.2.1 (eV l) h24 (λp hp=>by grind [dz,dT,ux.rcm]) GP hb2 hcut.obj;simp only[go_sem,simprocAttr,ak hobu];refine⟨.of (by kernel_rfl),aD.st hco ?_⟩;obtain⟨c,hc⟩: ∃c,c=kH all s b.2.1 (eV l):=⟨_,rfl⟩;rw[<-hc];have hco1: ∀g,okM g (cp c)=True:=λg=>cr trivial
     have hco2:unm (cp c)=cp c:=rfl;have hco3:bb prog 29 (cp c)=true:=by kernel_rfl
     have hosl:os.length<=sp:=hC.len;simp only[go_sem,simprocAttr,hco1,hco2,hco3,hcut'.out.v.st.ok,hcut'.out.v.st.un];refine bq.yj (σ:=τ++[none]) (by simp only[go_sem,simprocAttr]) 1000000000 (by kernel_rfl) hcut'.out.v (.lit _ _ _) (by simp) (by grind) λv τ2 ha=>?_
     have hadd:=hcut'.add (by rw[hc]at ha;exact ha);have hob2:τ2[id]?=some (ef all s l bud (sp+1:Nat) false v12):=by rw[ha.fr.old id (acf.1 hcut'.obj).1 hcut'.Xv,hcut'.obj]
     unfold ef cT jw jq eJ at hob2;simp only[go_sem,simprocAttr,ak hob2,aC hob2,ha.row.v.st.ok,ha.row.v.st.un,ha.row.v.st.fits];exact⟨v,hadd⟩
    .rw[if_neg (by grind)];simp only[go_sem,simprocAttr];grind
    .simp only[go_sem,simprocAttr];have hperm:=hC.perm;rw[hleafR.1]at hperm;refine .here (mF (fc all s l) (aV all s l) st') (by omega) ⟨st',_,sp+1,_,v,rfl,rfl,hI1,?_,by omega,?_,hbud',λx hx=>hC.ok x (by simp[hx]),?_⟩
     .by_cases hh:fZ all b.2.1=true
      .rw[if_pos hh];rw[if_pos (show(fc all s l).hl b.2.1=true from hh)]at hperm;grind
      .rw[if_neg hh];rw[if_neg (show ¬(fc all s l).hl b.2.1=true from hh),acs]at hperm;omega
     .have:=hC.len;grind
     .intro S hS;split at hS
      .rcases aci.1 hS with h|h
       .exact hC.oks S h
       grind
      .exact hC.oks S hS
   .have hblt:b.1<(aV all s l).length:=by
     omega
    obtain⟨g,hg⟩:=get_some hblt;have hnodeR:=Rw (D:=fc all s l) (st:=st') hg;have hatw:atV ((aV all s l).map λg=>AV.bool g.1) (b.1:Int)= .bool g.1:=aw hg;have hatn:atV ((aV all s l).map λg=>nN g.2) (b.1:Int)= .sl 3 (g.2.map λk=>.int .i64 (k:Nat)):=aw hg;have hcut':dL σ id all s l bud st' os (sp+1) (.row 261 idt off st'.length) v12 (τ++[none]):=by grind [uo]
    obtain⟨k0,hk0⟩: ∃k0:List Br,k0=if g.1=true then [(b.1+1,b.2.1,b.2.2)]else []:=⟨_,rfl⟩;have hgl:(aV all s l).length<=24:=by
     grind [Ik]
    have hwb:IntKind.i64.wrap ((b.1:Int)+1)=((b.1+1:Nat):Int):=by grind [aJ]
    have hstl2:st'.length<=100000000:=by omega
    simp only[go_sem,simprocAttr,hatw];refine⟨.of (by kernel_rfl),hblt,cc.at [0,5] (by kernel_rfl) (λA=>∃ v3,A.env 3=v3/\dL σ id all s l bud (st'++k0) os (sp+1) v3 v12 A.st) (λhh=>?_) (λhh=>?_) λB1 ⟨v3,h3',hI1⟩=>?_⟩
    .rw[if_pos hh]at hk0;simp only[go_sem,simprocAttr,hwb];refine bq.yj (σ:=τ++[none]) (by simp only[go_sem,simprocAttr]) 1000000000 (by kernel_rfl) hcut'.todo (.lit _ _ _) (by simp) (by grind) λv τ2 ha=>?_
     have hpu:=hcut'.push (x:=(b.1+1,b.2.1,b.2.2)) ha;simp only[go_sem,simprocAttr];grind
    .rw[if_neg (by grind)]at hk0;simp only[go_sem,simprocAttr];grind
    .have hob1:=hI1.obj;unfold ef cT jw jq eJ at hob1;have hg2: ∃n,g.2=placesOf all n:=by
      grind [aV]
     obtain⟨n,hgn⟩:=hg2;have hg24: ∀i∈g.2,i<all.length:=λi hi=>by
      grind [cb]
     have hg2l:g.2.length<=24:=by
      grind [placesOf]
     have hk0l:k0.length<=1:=by grind
     obtain⟨P,hP⟩: ∃P:Nat->Bool,P=λi=>(fc all s l).may i&& !b.2.2.testBit i:=⟨_,rfl⟩
     simp only[go_sem,simprocAttr,ak hob1,hatn,acg];refine⟨.of (by kernel_rfl),hblt,?_⟩;refine ae.ats [0,5,101,102] (λA=>∃ v3,A.env 3=v3/\dL σ id all s l bud (st'++(k0++(g.2.filter P).map (D7 (fc all s l) b))) os (sp+1) v3 v12 A.st) ?_ λB2 ⟨v3,h3',hI2⟩=>?_
     .refine ae.upto [0,5,101,102] g.2.length (λi A=>A.env 103= .int .i64 i/\ ∃v3,A.env 3=v3/\dL σ id all s l bud (st'++(k0++((g.2.take i).filter P).map (D7 (fc all s l) b))) os (sp+1) v3 v12 A.st) 0 (acn _) ?_ λi B2 hi ⟨h103,v3,h3',hI2⟩=>?_
      .simp only[go_sem,simprocAttr,h3'];grind
      have hob2:=hI2.obj;unfold ef cT jw jq eJ at hob2;simp only[go_sem,simprocAttr,h103,h3'];refine⟨λhlt=>?_,λhge=>?_⟩
      .obtain⟨y,hy⟩:=get_some hlt;have hyn:=hg24 y (acv hy);obtain⟨p,hp⟩:=get_some hyn;have hatV:atV (g.2.map λk=>AV.int .i64 (k:Nat)) (i:Int)= .int .i64 (y:Nat):=aw hy;have hat:=tj (s:=s) (l:=l) hp;have hlen:((List.range all.length).map λi=>iC all s l i ((all[i]?).getD xl)).length=all.length:=by grind
       have h232:b.2.2<4294967296:=by omega
       have hpw:2^y<4294967296:=oq (by omega);have hand:=ia b.2.2 (2^y) h232 hpw;have hor1:=jN b.2.1 (2^y) (by omega) hpw;have hcl:iD all y<4294967296:=mR λz hz=>by grind
       have hor2:=jN b.2.2 (iD all y) h232 hcl;have hz:(((b.2.2 &&& 2^y:Nat):Int)==0)= !b.2.2.testBit y:=by
        grind [GI]
       have hPy:P y=(oe l s p&& !b.2.2.testBit y):=by
        rw[hP];show(DP all s l y&&_)=_;grind [DP,W4]
       have hfl:(g.2.take (i+1)).filter P=(g.2.take i).filter P++if P y=true then [y]else []:=by
        rw[ah hy,List.filter_append,acV,List.filter_nil]
       have hkl:(st'++(k0++((g.2.take i).filter P).map (D7 (fc all s l) b))).length<=100000100:=by
        grind
       simp only[go_sem,simprocAttr,hatV,ak hob2,hat,hlen,acg];refine⟨hlt,hyn,.of (by kernel_rfl),aD.fnG (λ_=>sd y (by omega)) ?_⟩;simp only[go_sem,simprocAttr,hand,hz];rw[<-hPy];have hIf:=hI2.more [none];refine⟨λhh=>?_,λhh=>?_⟩
       .rw[if_pos hh]at hfl;refine⟨.of (by kernel_rfl),?_⟩;refine aD.fn (sd y (by omega)) ?_;simp only[go_sem,simprocAttr,hor1,hor2,hwb,h3',hIf.todo.st.ok,hIf.todo.st.un,cL];refine bq.yj (σ:=B2.st++[none]) (ys:=[yG (D7 (fc all s l) b y)]) (by first|rfl|simp only[go_sem,simprocAttr]) 1000000000 (by kernel_rfl) hIf.todo (.lit _ _ _) (by simp) (by grind) λv τ2 ha=>?_
        have hpu:=hIf.push (x:=D7 (fc all s l) b y) ha;simp only[go_sem,simprocAttr,h103];grind [ag,au]
       .rw[if_neg (by grind),acs]at hfl;simp only[go_sem,simprocAttr,h103,h3'];grind [ag,au]
      grind
     .simp only[go_sem,simprocAttr];have hkids:k0++(g.2.filter P).map (D7 (fc all s l) b)=kids (fc all s l) g b:=by
       grind [kids]
      rw[hkids]at hI2;have hperm:=hC.perm;rw[hnodeR.1]at hperm;refine .here (mF (fc all s l) (aV all s l) (st'++kids (fc all s l) g b)) (by omega) ⟨_,os,sp+1,v3,v12,by simp only[go_sem,simprocAttr,h3'],rfl,hI2,hperm,by omega,by have:=hC.len;omega,hbud1,λx hx=>?_,hC.oks⟩;rcases aci.1 hx with hx|hx
      .exact hC.ok x (by simp[hx])
      .rw[<-hkids]at hx;rcases aci.1 hx with hx|hx
       .grind
       .obtain⟨y,hy,rfl⟩:=ack.1 hx;have hyn:=hg24 y (acN.1 hy).1;refine⟨hblt,acp hb2 (acu (by decide) hyn),acp hb3 ?_⟩;exact VZ λz hz=>by grind
  .have hst0:st=[]:=by
    cases st with
    |nil=>rfl
    |cons a r=>grind
   grind
 .have hob:=hI.obj;unfold ef cT jw jq eJ at hob;have hcnt:=hC.cnt;rw[show mF (fc all s l) (aV all s l) []=0 from rfl,Nat.add_zero]at hcnt;have hperm:=hC.perm;rw[show s5 (fc all s l) (aV all s l) []=[]from rfl,acs]at hperm;have hpf:(os.map λS=>(kH all s S (eV l),S)).Perm (Bf all s l (eV l)):=hperm.map _;have hfok: ∀x∈(os.map λS=>(kH all s S (eV l),S)),RT x:=λx hx=>by
   obtain⟨S,hS,rfl⟩:=ack.1 hx;have:=hC.oks S hS;exact⟨ma _ _ _ _ _ _,by omega⟩
  have hbud2:bud=0\/((j2 (fc all s l) (aV all s l) 0 0:Nat):Int)<=bud:=by rw[<-hcnt];exact hC.bud
  rcases hI.out with⟨rfl,hnil⟩|⟨ido,rfl,hz,hne⟩
  .simp only[go_sem,simprocAttr,ak hob];refine aj.fn DA ?_;simp only[go_sem,simprocAttr,ak hob,aC hob];have hos:os=[]:=by simpa using hnil
   subst hos;refine cW.ret ?_;simp only[go_sem,simprocAttr];refine⟨_,.refl _,by have:=hI.fr.len;grind,hI.fr.set (.inl (by simp)) _,.inr ⟨hbud2,rfl,.aq,[],?_,.inl ⟨rfl,rfl⟩,λj hj=>by grind [aN],hpf,.nil⟩⟩;rw[<-hcnt,acm (acf.1 hI.obj).1];rfl
  .obtain⟨xs,hxs⟩: ∃xs,xs=os.map λS=>(kH all s S (eV l),S):=⟨_,rfl⟩
   rw[<-hxs]at hz hne hpf hfok hob hI;have hxl:xs.length<=1000000000:=by rw[hxs,acg];have:=hC.len;omega
   have hso:=Iw (W0:=W0) B.st ido xs hz (λe=>hne (by grind)) hxl hfok;simp only[go_sem,simprocAttr,ak hob,acg];refine aj.goes (by simp only[go_sem,simprocAttr]) hso λr σ1 ⟨ys,hy1,hy2,hσ1⟩=>?_
   subst hσ1;have hidne:id≠ido:=λe=>by
    grind
   have hob2:(B.st.set ido (some (.cells 218 (ys.map fW))))[id]?=some (ef all s l bud sp false (.row 218 ido 0 (xs.map fW).length)):=by grind [dL.obj]
   have hob2':=hob2;unfold ef cT jw jq eJ at hob2;simp only[go_sem,simprocAttr,ak hob2,aC hob2];refine cW.ret ?_;simp only[go_sem,simprocAttr];have hf12:=hI.f12 ido (by simp[aN]);have hidol:ido<(B.st).length:=(acf.1 hz).1;have hidl2:id<B.st.length:=(acf.1 hI.obj).1;refine⟨_,.refl _,by grind,(hI.fr.set (.inr hf12) _).set (.inl (by simp)) _,.inr ⟨hbud2,rfl,.row 218 ido 0 (xs.map fW).length,ys,?_,?_,λj hj=>?_,hy1.trans hpf,hy2⟩⟩
   .rw[<-hcnt,acm (by grind)];rfl
   .refine .inr ⟨ido,0,_,ys.map fW,rfl,?_,?_,?_⟩
    .grind
    .simp[hy1.length_eq]
    grind [acq,acP]
   grind [aN]
structure L0 (all:List Pkg)(s:List aA)(l:List aM):Prop where
 h0:aZ all=0
 ho:all=cO all
 hmn: ∀p∈all,iT p
 GP:s.length<=10
 hU:Uni all s l
def Dj (all:List Pkg)(s:List aA)(l:List aM):Nat:=j2 (fc all s l) (aV all s l) 0 0
def e5 (all:List Pkg)(s:List aA)(l:List aM):List FB:=(nL all s l (eV l)).map toB
inductive SSt |fresh|run (o:List FB)|fail
def eF (σ:ab)(id:Nat)(all:List Pkg)(s:List aA)(l:List aM)(bud:Int):SSt->Prop
 | .fresh=>σ[id]?=some (ef all s l bud 0 false .aq)
 | .run o=>dR all s l=false/\(∃v,σ[id]?=some (ef all s l bud (Dj all s l) true v)/\dr σ v 218 (o.map fW))/\ ∀x∈o,x.1.length=5/\x.2<2^all.length
 | .fail=>dR all s l=false/\0<bud/\ ∃v,σ[id]?=some (ef all s l bud bud false v)
def ib (all:List Pkg)(s:List aA)(l:List aM)(bud:Int)(st:SSt):Option FB×Int×SSt:=
 if dR all s l=true then(none,0,st)else match st with
  | .fail=>(none,11,.fail)
  | .fresh=>if 0<bud/\bud<Dj all s l then(none,11,.fail)else((e5 all s l).head?,0,.run (e5 all s l).tail)
  | .run o=>(o.head?,0,.run o.tail)
def F8 (all:List Pkg):Option FB->Int->AV
 |none,e=>.tup [aL [],cp [0,0,0,0,0],.bool false,.int .i64 e]
 |some x,e=>.tup [aL (atL all (bg all.length x.2)),cp x.1,.bool true,.int .i64 e]
theorem L0.abO {all:List Pkg}{s:List aA}{l:List aM}(h:L0 all s l)(hnv:dR all s l=false){o:List FB}(hp:o.Perm (Bf all s l (eV l)))(hs:o.Pairwise λx y=>ltB y x=false):o=e5 all s l:=
 Ih (dF h.h0) (λp hp=>dT h.h0 hp) (ye (by rw[h.ho];exact kp (fD h.h0).2)) h.hU hnv _ hp hs
theorem S9 (σ:ab)(id:Nat)(all:List Pkg)(s:List aA)(l:List aM)(bud:Int)(v:AV)(hb:0<bud)(hid:σ[id]?=some (ef all s l bud bud false v)):
  aP prog W0 156 [.ptr 143 id 0 []] σ λr σ'=>r= .int .i64 11/\σ'=σ:=by
 have hidl:=(acf.1 hid).1;refine aP.back (.int _ _) ?_;refine jH [.tmp 2] [5,8,5000010,3000069,2000072,4000011,2000140,2000003] func156 rfl rfl ntmps156 rfl rfl λhs=>?_
 simp only[go_sem,simprocAttr];refine ae.at [0] (λA=>False) ?_ λB hF=>hF.elim
 refine ae.cB [0] (λk A=>A.env 3= .row 261 σ.length 0 1/\Ext σ A.st) 0 ?_ λk B ⟨h3,hx⟩=>?_
 .simp only[go_sem,simprocAttr];exact Ext.app (.refl _) _
 have hob:B.st[id]?=some (ef all s l bud bud false v):=by
  have e:=congrArg (·[id]?) hx;simp_all
 unfold ef cT at hob;have hc:(decide (0<bud)&&(bud==bud))=true:=by simp[hb]
 have hd:decide (0<bud)=true:=decide_eq_true hb;simp only[go_sem,simprocAttr,h3,ak hob,hd];refine⟨.of (by kernel_rfl),cW.ret ?_⟩;simp only[go_sem,simprocAttr];exact⟨_,.refl _,hx.le,.refl _,hx⟩
@[go_sem] theorem Zy {A:aa}(t u v w:ResultVar):uA A [t,u,v,w]= .tup [gP A t,gP A u,gP A v,gP A w]:=rfl
theorem Cj {n:Nat}(D:Dat): ∀{gs:List (Bool×List Nat)} (s c:Nat),(∀g∈gs,∀i∈g.2,i<n)->s<2^n-> ∀S∈pG D gs s c,S<2^n
 |[],s,c,_,h,S,hS=>by
  grind [pG]
 |g::r,s,c,hg,h,S,hS=>by
  rw[pG]at hS;rcases aci.1 hS with hS|hS
  .split at hS
   .exact Cj D s c (λg' h'=>hg g' (by simp[h'])) h S hS
   simp_all
  .obtain⟨i,hi,hS⟩:=acw.1 hS;exact Cj D _ _ (λg' h'=>hg g' (by simp[h'])) (acp h (acu (by decide) (hg g (by simp) i (acN.1 hi).1))) S hS
theorem NR {all:List Pkg}(s:List aA)(l:List aM)(D:Dat)(t c:Nat)(ht:t<2^all.length){S:Nat}(hS:S∈pG D (aV all s l) t c):S<2^all.length:=by
 refine Cj D t c (λg hg i hi=>?_) ht S hS;grind [aV,cb]
theorem pc (all:List Pkg)(e:Int):dj (.tup [.aq,.agg 29 [.int .i64 0,.int .i64 0,.int .i64 0,.int .i64 0,.int .i64 0],.bool false,.int .i64 e]) (F8 all none e):=by
 refine .tup rfl λi x y hx hy=>?_
 match i,hx,hy with
 |0,hx,hy=>cases hx;cases hy;exact .aq _
 |1,hx,hy=>cases hx;cases hy;exact .refl _
 |2,hx,hy=>cases hx;cases hy;exact .refl _
 |3,hx,hy=>cases hx;cases hy;exact .refl _
theorem Wj (hW:qM W0)(σ:ab)(id:Nat)(all:List Pkg)(s:List aA)(l:List aM)(bud:Int)(st:SSt)(hH:L0 all s l)(hb0:0<=bud)(hbm:bud<=1000000000000)(hst:eF σ id all s l bud st):
  aP prog W0 90 [.ptr 143 id 0 []] σ λr σ'=>r=F8 all (ib all s l bud st).1 (ib all s l bud st).2.1/\Fr [id] σ σ'/\eF σ' id all s l bud (ib all s l bud st).2.2:=by
 obtain⟨sp,dn,v,hob,hdn,hvn⟩: ∃(sp:Int) (dn:Bool) (v:AV),σ[id]?=some (ef all s l bud sp dn v)/\(dn=true↔ ∃o,st= .run o)/\(dR all s l=true->v= .aq):=by
  cases st with
  |fresh=>exact⟨0,false,.aq,hst,by simp,λ_=>rfl⟩
  |run o=>obtain⟨h0,⟨v,h1,_⟩,_⟩:=hst;grind
  |fail=>obtain⟨h0,_,v,h1⟩:=hst;grind
 have hidl:=(acf.1 hob).1;have hn:=hH.hU.asks;refine jH [.tmp 2,.cell 3 29,.tmp 4,.tmp 5] [7,3000059,4000011] func90 rfl rfl ntmps90 rfl rfl λhs=>?_
 have hob1: ∀J,(σ++J)[id]?=some (ef all s l bud sp dn v):=λJ=>by grind
 have hob2:=hob1;unfold ef cT at hob2;simp only[go_sem,simprocAttr,ak (hob2 _)];obtain⟨cz,hcz⟩: ∃cz:Option bH,cz=some (.cells 29 [.agg 29 [.int .i64 0,.int .i64 0,.int .i64 0,.int .i64 0,.int .i64 0]]):=⟨_,rfl⟩;have hz0:(σ++[cz])[σ.length]?=some cz:=by simp_all
 have hfr0:Fr [id] σ (σ++[cz]):=Fr.ext (Ext.app (.refl _) _);have hrv: ∀{J:ab} {o:List FB} {w:AV},dr σ w 218 (o.map fW)->dr (σ++J) w 218 (o.map fW):=λh=>h.keep λj hj=>by grind [dr.lt]
 refine cc.at [0,3] (by kernel_rfl) (λA=>A.st[σ.length]?=some cz/\Fr [id] σ A.st/\((dR all s l=true/\A.st=σ++[cz])\/(∃o,eF A.st id all s l bud (.run o)/\ib all s l bud st=(o.head?,0,.run o.tail)))) (λhc=>?_) (λhc=>?_) λB ⟨hz,hfr,hcase⟩=>?_
 .simp only[acT,acJ]at hc;obtain⟨hc1,hc2⟩:=hc;cases st with
  |fresh=>
   have hst0:(σ++[cz])[id]?=some (ef all s l bud 0 false .aq):=by rw[ach hidl];exact hst
   have hfi:=Uf (W0:=W0) hW (σ++[cz]) id all s l bud hn hH.h0 hH.ho hH.hmn hH.GP hb0 hbm hst0;simp only[go_sem,simprocAttr];refine aj.goes (by simp only[go_sem,simprocAttr];rw[hcz]) hfi λr σ1 ⟨hfr1,hr⟩=>?_
   have hfr2:Fr [id] σ σ1:=⟨by have:=hfr1.len;grind,λj hj hF=>by rw[hfr1.old j (by grind) hF,hfr0.old j hj hF]⟩;have hz1:σ1[σ.length]?=some cz:=by grind [Fr.old]
   rcases hr with⟨g1,g2,rfl,w,g3⟩|⟨g1,rfl,w,o,g3,g4,g5,g6,g7⟩
   .have hnx:ib all s l bud .fresh=(none,11,.fail):=by
     unfold ib;rw[if_neg (by simp_all)];exact if_pos ⟨g1,g2⟩
    rw[hnx];have hz1':=hz1;rw[hcz]at hz1';simp only[go_sem,simprocAttr,ak hz1',aC hz1',fN hz1'];refine cW.ret ?_;simp only[go_sem,simprocAttr,ak hz1',gP];exact⟨_,pc all 11,hfr2.len,rfl,hfr2,hc2,g1,w,g3⟩
   .have hob3:=g3;have ho:=hH.abO hc2 g6 g7;simp only[go_sem,simprocAttr];refine⟨hz1,hfr2,.inr ⟨e5 all s l,⟨hc2,⟨w,g3,by simp_all⟩,λx hx=>?_⟩,?_⟩⟩
    .rw[<-ho]at hx;obtain⟨S,hS,rfl⟩:=ack.1 (g6.subset hx);exact⟨ma _ _ _ _ _ _,NR s l _ 0 0 (acY _) hS⟩
    grind [ib,Dj]
  |run o=>simp_all
  |fail=>
   obtain⟨_,q1,w,q2⟩:=hst;have hst0:(σ++[cz])[id]?=some (ef all s l bud bud false w):=by simp_all
   have hnx:ib all s l bud .fail=(none,11,.fail):=by
    grind [ib]
   rw[hnx];have hz1':=hz0;rw[hcz]at hz1';simp only[go_sem,simprocAttr];refine aj.reads (by simp only[go_sem,simprocAttr];rw[hcz]) (S9 (σ++[cz]) id all s l bud w q1 hst0) ?_;simp only[go_sem,simprocAttr,ak hz1',aC hz1',fN hz1'];refine cW.ret ?_;simp only[go_sem,simprocAttr,ak hz1',gP];rw[hcz]at hfr0 hst0;exact⟨_,pc all 11,by simp,rfl,hfr0,hc2,q1,w,hst0⟩
 .have hc':dn=true\/dR all s l=true:=by
   grind
  simp only[go_sem,simprocAttr];rw[<-hcz];refine⟨rfl,hfr0,?_⟩;by_cases hnv:dR all s l=true
  .simp_all
  .have hd:dn=true:=by simp_all
   obtain⟨o,rfl⟩:=hdn.1 hd;obtain⟨p1,⟨w,p2,p3⟩,p4⟩:=hst;refine .inr ⟨o,⟨p1,⟨w,by simp_all,hrv p3⟩,p4⟩,?_⟩;grind [ib]
 .have hz1:=hz;rw[hcz]at hz1;rcases hcase with⟨hnv,hBst⟩|⟨o,⟨p1,⟨w,p2,p3⟩,p4⟩,hnx⟩
  .have hnx:ib all s l bud st=(none,0,st):=by simp_all[ib]
   have hvn':=hvn hnv;subst hvn';have hob3:B.st[id]?=some (ef all s l bud sp dn .aq):=by simp_all
   unfold ef cT at hob3;rw[hnx];simp only[go_sem,simprocAttr,ak hob3,hnv,ak hz1,aC hz1,fN hz1];refine cW.ret ?_;simp only[go_sem,simprocAttr,ak hz1,gP];refine⟨_,pc all 0,by simp_all,rfl,hfr,?_⟩;cases st with
   |fresh=>
    show B.st[id]?=_;rw[hBst,ach hidl];exact hst
   |run o=>exact absurd hst.1 (by simp_all)
   |fail=>exact absurd hst.1 (by simp_all)
  .have hob3:=p2;unfold ef cT at hob3;rw[hnx];simp only[go_sem,simprocAttr,ak hob3,p3.st.ok,p3.st.un,p3.st.len,p3.st.gn,p1,acg,ak hz1,aC hz1,fN hz1];refine⟨λh0=>cW.ret ?_,λh0=>?_⟩
   .have ho:o=[]:=List.length_eq_zero_iff.1 (by omega);subst ho;simp only[go_sem,simprocAttr,ak hz1,gP];exact⟨_,pc all 0,hfr.len,rfl,hfr,p1,⟨w,p2,p3⟩,p4⟩
   .obtain⟨x,r,rfl⟩: ∃x r,o=x::r:=by
     cases o with
     |nil=>simp_all
     |cons x r=>simp_all
    have hcut:=p3.cut (a:=1) (b:=(x::r).length) (by simp) (by simp);rcases p3 with⟨rfl,hnil⟩|⟨ido,off,m,zs,rfl,hz2,hle,hx⟩
    .simp_all
    have hml:m=r.length+1:=by
     grind [List.length_drop]
    subst hml;have hzi:zs[off+0]?=some (fW x):=by
     have h1:((x::r).map fW)[0]?=some (fW x):=rfl;simp_all
    have hob4:(B.st++[none])[id]?=some (ef all s l bud (Dj all s l) true (.row 218 ido off (r.length+1))):=by grind
    have hob5:=hob4;unfold ef cT at hob5;obtain⟨τ,hτ⟩: ∃τ,τ=(B.st++[none]).set id (ef all s l bud (Dj all s l) true (.row 218 ido (off+1) r.length)):=⟨_,rfl⟩;have hlid:id<(B.st++[none]).length:=(acf.1 hob4).1;have hobτ:τ[id]?=some (ef all s l bud (Dj all s l) true (.row 218 ido (off+1) r.length)):=by simp_all
    have hne1:id≠σ.length:=by omega
    have hzτ:τ[σ.length]?=some cz:=by grind
    have hzτ':=hzτ;rw[hcz]at hzτ';obtain⟨hx5,hx2⟩:=p4 x (by simp);have hwh:=Pp (W0:=W0) hW τ id all x.2 hH.h0 hH.ho hH.hmn hx2 hobτ;have hτ':=hτ;unfold ef cT at hτ';have hco1: ∀g,okM g (cp x.1)=True:=λg=>cr trivial
    have hco2:unm (cp x.1)=cp x.1:=rfl;have hco3:bb prog 29 (cp x.1)=true:=by kernel_rfl
    simp only[go_sem,simprocAttr,ak hz2,aO hz2,hzi,fW,cL,ak hob5,aC hob5,acx];rw[<-hτ'];refine⟨.of (by kernel_rfl),aD.st hwh ?_⟩;simp only[go_sem,simprocAttr,hco1,hco2,hco3,ak hzτ',aC hzτ'];have hl3:σ.length<τ.length:=(acf.1 hzτ).1;have hlk:(τ.set σ.length (some (.cells 29 [cp x.1])))[σ.length]?=some (some (.cells 29 [cp x.1])):=acm hl3;have hco4: ∀σ',tR none σ' 29 (.loc 29 (cp x.1))=True:=λσ'=>eq_true rfl
    have hfrτ:Fr [id] σ τ:=by grind [Fr.set,Fr.app]
    refine cW.ret ?_;simp only[go_sem,simprocAttr,ak hlk,gP];refine⟨_,.refl _,by grind,rfl,hfrτ.set (.inr (acI _)) _,p1,⟨.row 218 ido (off+1) r.length,?_,?_⟩,λy hy=>p4 y (List.mem_cons_of_mem _ hy)⟩
    .grind
    .have hidne:ido≠id:=λe=>by
      simp_all
     have hidne2:ido≠σ.length:=λe=>by
      simp_all
     have hr:dr B.st (.row 218 ido (off+1) r.length) 218 (r.map fW):=by
      grind [uo,acq]
     refine hr.keep λj hj=>?_
     simp[aN]at hj;grind
theorem JN (fs gs:List AV):kJ prog 29 fs gs=uu [1,1,1,1,1] fs gs:=by
 have hu:prog.underlying 29=some (.array 5 3):=by kernel_rfl
 have hc:(af prog 3==1&& !prog.eqGuardType prog.depth 29)=true:=by kernel_rfl
 have hf:bz prog 29=some [3,3,3,3,3]:=by kernel_rfl
 have hk:[3,3,3,3,3].map (eqK prog)=[1,1,1,1,1]:=by kernel_rfl
 grind [kJ,Je]
theorem K7 {a b:List Nat}(ha:a.length=5)(hb:b.length=5):kJ prog 29 (a.map λx=>.int .i64 (x:Nat)) (b.map λx=>.int .i64 (x:Nat))=some (decide (a=b)):=by
 rw[JN]
 match a,ha,b,hb with
 |[a0,a1,a2,a3,a4],_,[b0,b1,b2,b3,b4],_=>
  simp only[ac3,ac5,uu,Cp,if_true,acK,Option.map_some,Bool.and_true,ac6];grind
theorem Ar (l:List Pkg)(hp: ∀p∈l,uE p):ai prog W0 30 [aL l] (.bool (gR 0 l)):=by
 refine an [2] [4] func30 rfl rfl ntmps30 rfl rfl (.bool _) λhs σ=>?_
 have hl:=(aQ (hs _ (acQ ..))).1;have hls:=(aQ (hs _ (acQ ..))).2;simp only[go_sem,simprocAttr,aL,acg];refine ae.upto [9,10] l.length (λi A=>A.env 11= .int .i64 i/\Ext σ A.st/\gR i (l.drop i)=gR 0 l) 0 (acn _) ?_ λi B hi ⟨h8,hst,hI⟩=>?_
 .simp only[go_sem,simprocAttr];simp[Ext.refl]
 simp only[go_sem,simprocAttr,h8,acg];refine⟨λhc=>⟨hc,?_⟩,λhc=>?_⟩
 .obtain⟨p,hpi⟩:=get_some hc;simp only[aw hpi];have hR:=hp p (acv hpi);have r1:=hR.con;have r2:=hR.brk;have r3:=hR.eI;rw[OT]at r1 r2 r3;have hw1:IntKind.i64.wrap ((p.con.length:Int)+(p.brk.length:Int))=((p.con.length:Int)+(p.brk.length:Int)):=aJ (by omega);have hw2:IntKind.i64.wrap ((p.con.length:Int)+(p.brk.length:Int)+(p.eI.length:Int))=((p.con.length:Int)+(p.brk.length:Int)+(p.eI.length:Int)):=aJ (by omega);rw[acG hc,gR]at hI;have hpe:l[i]=p:=(acf.1 hpi).2;rw[hpe]at hI;simp only[go_sem,simprocAttr,ay,aF,cy,acg,hw1,hw2];have e3:[aB p.pre,aB p.dep,aB p.rcm]=[p.pre,p.dep,p.rcm].map aB:=rfl;refine⟨λhb=>⟨ar ?_,hst.app _⟩,λhb=>?_⟩
  .grind [qg]
  simp only[Bool.or_eq_false_iff,decide_eq_false_iff_not]at hb;have hP:qg i p=[p.pre,p.dep,p.rcm].all sV:=by
   grind [qg]
  simp only[e3];have hds:=hls p (acv hpi);refine ae.ats [9,10,11] (λA=>Ext σ A.st/\qg i p=true) ?_ λB2 ⟨hst,h6⟩=>?_
  .refine ae.upto [9,10,11,38] 3 (λj A=>A.env 39= .int .i64 j/\Ext σ A.st/\([p.pre,p.dep,p.rcm].drop j).all sV=[p.pre,p.dep,p.rcm].all sV) 0 (acn _) ?_ λj B2 hj ⟨h39,hst,hJ⟩=>?_
   .simp only[go_sem,simprocAttr];exact hst.app _
   simp only[go_sem,simprocAttr,h39];simp only[e3];refine⟨λhc2=>?_,λhc2=>?_⟩
   .have hc3:j<[p.pre,p.dep,p.rcm].length:=by grind
    obtain⟨d,hdj⟩:=get_some hc3;have hde:=(acf.1 hdj).2;rw[acG hc3,hde,List.all_cons]at hJ;simp only[getD_map hdj];simp only[go_sem,simprocAttr,aB,acg];refine⟨hc3,?_⟩;have hlD:sV d=(decide (d.length<=14)&&d.all λc=>decide (c.length<=10)):=rfl;refine⟨λhb=>⟨ar ?_,hst⟩,λhb=>?_⟩
    .grind
    rw[decide_eq_true (show d.length<=14 by omega),Bool.true_and]at hlD;refine ae.ats [9,10,11,38,39] (λA=>Ext σ A.st/\(d.all λc=>decide (c.length<=10))=true) ?_ λB3 ⟨hst,h6⟩=>?_
    .refine ae.upto [9,10,11,38,39,45,46] d.length (λk A=>A.env 47= .int .i64 k/\Ext σ A.st/\ ∀c∈d.take k,c.length<=10) 0 (acn _) ?_ λk B3 hk ⟨h47,hst,hK⟩=>?_
     .simp only[go_sem,simprocAttr];simp[hst]
     simp only[go_sem,simprocAttr,h47,acg];refine⟨λhc4=>⟨hc4,?_⟩,λhc4=>?_⟩
     .obtain⟨c,hck⟩:=get_some hc4;simp only[aw hck];simp only[go_sem,simprocAttr,aF,acg];refine⟨λhb=>⟨ar ?_,hst⟩,λhb=>⟨hc4,ag hc4 (by grind [au]),hst,?_⟩⟩
      .grind
      .rw[ah hck];grind
     grind
    simp only[go_sem,simprocAttr,h39];grind [ag,au]
   .have:j=3:=by omega
    simp_all
  simp only[go_sem,simprocAttr,h8];grind [ag]
 .have:i=l.length:=by omega
  subst this;rw[List.drop_length]at hI;exact⟨ar hI,hst⟩
theorem QX (l:List aA)(hl:l.length<=733007751829):ai prog W0 15 [aK l] (aL (l.map (·.pkg))):=by
 refine an [2] [5] func15 rfl rfl ntmps15 rfl rfl (kA _) λhs σ=>?_
 simp only[go_sem,simprocAttr,aK,acg];refine ae.at [6,7] (λA=>∃ v,A.env 3=v/\aH σ A.st v 51 ((l.map (·.pkg)).map ay)) ?_ λB ⟨v,h3,hb⟩=>?_
 .refine ae.upto [6,7] l.length (λi A=>∃ v,A.env 3=v/\A.env 8= .int .i64 i/\aH σ A.st v 51 (((l.take i).map (·.pkg)).map ay)) 0 (acn _) ?_ λi B hi ⟨v,h3,h8,hb⟩=>?_
  .simp only[go_sem,simprocAttr];simp[aH.nil,Ext.refl]
  simp only[go_sem,simprocAttr,h3,h8,hb.ok,hb.un,acg];refine⟨λhlt=>⟨hlt,?_⟩,λhlt=>?_⟩
  .obtain⟨x,hx⟩:=get_some hlt;simp only[aw hx];have hb1:=hb.more [none];simp only[go_sem,simprocAttr,bf,ay];refine bq.own 733007751829 (by kernel_rfl) hb1.bld (.lit _ _ _) (by grind) λv' σ' ha'=>?_
   have hb':=hb1.app ha';simp only[go_sem,simprocAttr,h8];refine⟨hlt,_,rfl,ag hlt (by grind [au]),?_⟩;rw[ah hx,acA,acA];exact hb'
  grind
 simp only[go_sem,simprocAttr,h3];exact⟨hb.bS,hb.ext⟩
theorem V6 {n:Nat}{a:AV}(h:OfT prog (n+2) 66 a): ∃p,a=ck p:=by
 obtain⟨xs,rfl,g⟩:=oC (ts:=[3,9,9]) (by kernel_rfl) h;obtain _|⟨x,_|⟨y,_|⟨z,_|_⟩⟩⟩:=xs<;>simp only[wJ,and_false,and_true]at g
 obtain⟨h1,h2,h3⟩:=g;obtain⟨k,rfl,_⟩:=Ku (k:=.i64) (by kernel_rfl) h1;obtain⟨s,rfl,_⟩:=lC (by kernel_rfl) h2;obtain⟨v,rfl,_⟩:=lC (by kernel_rfl) h3;exact⟨⟨k,s,v⟩,rfl⟩
theorem RA {n:Nat}{a:AV}(h:OfT prog (n+3) 24 a): ∃l,a=bC l:=by
 obtain⟨l,rfl,_⟩:=rC (f:=ck) (e:=66) (by kernel_rfl) (λx=>V6) h;exact⟨l,rfl⟩
end Go.Proofs.Tryz
end
section
namespace Go.Av
open Go.Proofs.Tryz
def BJ (n x:List UInt8):Bool:=Op.bytesLess x n
def mc (n:List UInt8)(o:List (List UInt8)):List (List UInt8):=if (o.dropWhile (BJ n)).head?=some n then o else o.takeWhile (BJ n)++n::o.dropWhile (BJ n)
def e8 (l:List Pkg):List (List UInt8):=l.foldl (λo p=>mc p.name o) []
theorem n5 {l:List Pkg}{i:Nat}{p:Pkg}(h:l[i]?=some p):e8 (l.take (i+1))=mc p.name (e8 (l.take i)):=by
 simp_all[e8,ah]
theorem Sy (n:List UInt8)(o:List (List UInt8)):(mc n o).length<=o.length+1:=by
 grind [mc,acC]
theorem Hg (l:List Pkg):(e8 l).length<=l.length:=by
 have key: ∀(l:List Pkg) (o:List (List UInt8)),(l.foldl (λo p=>mc p.name o) o).length<=o.length+l.length:=λl=>by
  induction l with
  |nil=>simp_all
  |cons p l ih=>
   grind [Sy]
 grind [e8]
theorem wC (n x:List UInt8)(o:List (List UInt8)):x∈mc n o↔x=n\/x∈o:=by
 have h0:=acC (p:=BJ n) (l:=o);grind [mc,List.mem_of_head?]
theorem vM {n:List UInt8}: ∀{o:List (List UInt8)},o.Pairwise (λx y=>Op.bytesLess x y=true)->(mc n o).Pairwise λx y=>Op.bytesLess x y=true
 |[],_=>by simp[mc]
 |x::r,h=>by
  obtain⟨h1,h2⟩:=acB.1 h;by_cases hx:BJ n x=true
  .have e:mc n (x::r)=x::mc n r:=by
    grind [mc,List.dropWhile_cons_of_pos,List.takeWhile_cons_of_pos]
   rw[e];refine acB.2 ⟨λy hy=>?_,vM h2⟩;rcases(wC n y r).1 hy with rfl|hy
   .exact hx
   simp_all
  .unfold mc;rw[List.dropWhile_cons_of_neg hx,List.takeWhile_cons_of_neg hx];grind [kT,BJ,ew]
theorem M0 (l:List Pkg):(e8 l).length=(dA l []).length:=by
 have key: ∀(l:List Pkg) (o:List (List UInt8)),o.Pairwise (λx y=>Op.bytesLess x y=true)->(l.foldl (λo p=>mc p.name o) o).Pairwise (λx y=>Op.bytesLess x y=true)/\ ∀x,x∈l.foldl (λo p=>mc p.name o) o↔x∈o\/ ∃p∈l,p.name=x:=λl=>by
  induction l with
  |nil=>simp_all
  |cons p l ih=>
   grind [vM,wC]
 obtain⟨g1,g2⟩:=key l [] .nil;grind [e8,ac7,eu,acP,iM,jo]
end Go.Av
end
section
namespace Go.Proofs.Tryz
open Go Go.Av
set_option maxRecDepth 10000
variable {W0 :World}
theorem zC (l:List Pkg)(hl:l.length<=1024):ai prog W0 32 [aL l] (.sl 9 ((e8 l).map .str)):=by
 refine jA [2] [5,45,2000044,2000048,2000052,2000003] func32 rfl rfl ntmps32 rfl rfl (zU _) λhs σ=>?_
 have ht:elT prog 73=some 9:=by kernel_rfl
 simp only[go_sem,simprocAttr,aL];refine ae.at [7,8] (λA=>∃ v,A.env 3=v/\dI σ A.st v 9 ((e8 l).map .str)) ?_ λB ⟨v,h3,hb⟩=>?_
 .refine ae.upto [7,8] l.length (λi A=>∃ v,A.env 3=v/\A.env 9= .int .i64 i/\dI σ A.st v 9 ((e8 (l.take i)).map .str)) 0 (acn _) ?_ λi B hi ⟨v,h3,h9,hb⟩=>?_
  .simp only[go_sem,simprocAttr];exact⟨_,rfl,dI.nil (.refl _) _⟩
  have hok:=hb.nI.ok;have hun:=hb.nI.un;simp only[go_sem,simprocAttr,h3,h9,acg];refine⟨λhc=>?_,λhc=>?_⟩
  .obtain⟨p,hp⟩:=get_some hc;have ho:(e8 (l.take i)).length<=1024:=by grind [Hg]
   obtain⟨o,hoo⟩: ∃o,o=e8 (l.take i):=⟨_,rfl⟩;rw[<-hoo]at hb ho;have hb':=hb.more [none];have hlen:oU v= .int .i64 o.length:=by rw[hb.row.st.len,acg]
   have hlc:=λt=>hb.row.st.gn prog t
   simp only[go_sem,simprocAttr,aw hp,ay];refine⟨hc,ae.at [3,5,7,8,9] (λA=>∃ a:Nat,A.env 6= .int .i64 a/\a<=o.length/\A.st=B.st++[none]/\(∀k x,k<a->o[k]?=some x->BJ p.name x=true)/\(∀x,o[a]?=some x->BJ p.name x=false)) ?_ λC ⟨a,h6,hle,hst,hI,hJ⟩=>?_⟩
   .refine ae.upto [3,5,7,8,9] o.length (λa A=>A.env 6= .int .i64 a/\A.st=B.st++[none]/\(∀k x,k<a->o[k]?=some x->BJ p.name x=true)) 0 (acn _) ?_ λa C hle ⟨h6,hst,hI⟩=>?_
    .simp only[go_sem,simprocAttr]
    by_cases hlt:a<o.length
    .obtain⟨q,hq⟩:=get_some hlt;have hok2:=hok;rcases hb'.row with⟨rfl,h0⟩|⟨id,off,m,zs,rfl,g1,g2,g3⟩
     .simp_all
     have hm:m=o.length:=by rw[<-dr.G8 (σ:=B.st) (e:=9) (id:=id) g2 g3,acg]
     have hz:zs[off+a]?=some (AV.str q):=by
      have h1:((zs.drop off).take m)[a]?=some (AV.str q):=by grind
      simp_all
     have hk0:Av.look C.st id (off+a) []=some (.str q):=by
      rw[hst];unfold Av.look;rw[g1];simp only[hz,acK];rfl
     have hlv:live C.st id:=by grind [aO]
     simp only[go_sem,simprocAttr,h3,h6,hm,hk0,hlv,hlt];refine⟨.of (by kernel_rfl),?_⟩;refine⟨λhb1=>⟨ag hlt (by grind [au]),hst,λk x hk hx=>?_⟩,λhb0=>⟨a,rfl,hle,hst,hI,λx hx=>?_⟩⟩
     .rcases Nat.lt_succ_iff_lt_or_eq.1 hk with h|rfl
      .grind
      .rw[hq]at hx;cases hx;exact hb1
     .rw[hq]at hx;cases hx;exact hb0
    .simp only[go_sem,simprocAttr,h3,h6,hok,hun,hlen,hlc,hlt,kj];refine⟨.of (by kernel_rfl),?_⟩;grind
   have hrow:dr C.st v 9 (o.map AV.str):=by grind [dI.row]
   have hle':a<=(o.map AV.str).length:=by simp_all
   have hc1:=hrow.cut (acn a) hle';have hc2:=hrow.cut hle' (acI _);rw[acg]at hc2;have q1:=hc1.st.ok;have q2:=hc1.st.un;have q3:=hc2.st.ok;have q4:=hc2.st.un;have hdr:(o.drop a).head?=o[a]?:=by simp_all
   by_cases hlt:a<o.length
   .obtain⟨q,hq⟩:=get_some hlt;rcases hrow with⟨rfl,h0⟩|⟨id,off,m,zs,rfl,g1,g2,g3⟩
    .simp_all
    have hrow:dr C.st (.row 9 id off m) 9 (o.map AV.str):=.inr ⟨id,off,m,zs,rfl,g1,g2,g3⟩;have hm:m=o.length:=by rw[<-dr.G8 (σ:=B.st) (e:=9) (id:=id) g2 g3,acg]
    subst hm;have hz:zs[off+a]?=some (AV.str q):=by
     have h1:((zs.drop off).take o.length)[a]?=some (AV.str q):=by grind
     simp_all
    have hlk:Av.look C.st id (off+a) []=some (.str q):=by
     unfold Av.look;rw[g1];simp only[hz,acK];rfl
    have hlv:live C.st id:=by grind [aO]
    have hf:((a:Int)==(o.length:Int))=false:=by grind
    simp only[go_sem,simprocAttr,h3,h6,h9,hlk,hlv,hf,hlt,kj];refine⟨.of (by kernel_rfl),λhnq=>?_,λheq=>?_⟩
    .have hne: ¬(o.drop a).head?=some p.name:=by simp_all
     simp only[go_sem,simprocAttr,hle];refine⟨.of (by kernel_rfl),acn _,bq.AU (σ:=C.st) (by simp only[go_sem,simprocAttr]) 1048576 (by kernel_rfl) (.inl ⟨rfl,rfl⟩) hc1.st.read (by grind) λv1 σ1 ha1=>?_⟩;have q5:=ha1.row.st.ok;have q6:=ha1.row.st.un;simp only[go_sem,simprocAttr,q5,q6];refine bq.AU (σ:=σ1) (by simp only[go_sem,simprocAttr]) 1048576 (by kernel_rfl) ha1.row (.lit _ _ _) (by grind) λv2 σ2 ha2=>?_
     have q7:=ha2.row.st.ok;have q8:=ha2.row.st.un;have hk:dr σ2 (uo a o.length (.row 9 id off o.length)) 9 _:=hc2.keep λj hj=>by
      rw[pd]at hj;have hj1:=hrow.lt j hj;have hj2:j∉aN v1:=λh=>by
       rcases ha1.aN j h with h|h
       .grind [aN]
       .omega
      rw[ha2.fr.old j (acF hj1 ha1.fr.len) hj2,ha1.fr.old j hj1 (by simp[aN])]
     simp only[go_sem,simprocAttr,q7,q8];refine bq.AU (σ:=σ2) (by simp only[go_sem,simprocAttr]) 1048576 (by kernel_rfl) ha2.row hk.st.read (by grind) λv3 σ3 ha3=>?_
     have q9:=ha3.row.st.ok;have q10:=ha3.row.st.un;simp only[go_sem,simprocAttr,h9];refine⟨hc,_,rfl,ag hc (by grind [au]),?_⟩;have hx:Ext σ C.st:=by grind [dI.ext]
     have hfin:=(((dI.nil hx 9).app ha1).app ha2).app ha3;rw[n5 hp,<-hoo,mc,(ic hI hJ).1,(ic hI hJ).2,if_neg hne];grind [acq,List.map_take,List.map_drop]
    .have hqe:q=p.name:=by omega
     refine⟨hc,_,rfl,ag hc (by grind [au]),?_⟩;rw[n5 hp,<-hoo,mc,(ic hI hJ).2,if_pos (by simp_all),hst];exact hb'
   .have hal:a=o.length:=by omega
    have hlen2:oU v= .int .i64 o.length:=hlen;have hf:((a:Int)==(o.length:Int))=true:=by simp_all
    have hne: ¬(o.drop a).head?=some p.name:=by simp_all
    simp only[go_sem,simprocAttr,h3,h6,h9,hok,hun,hlen2,hlc,hf,uO,hrow.ZD,hrow.oo ht,hle,acg,q1,q2];refine⟨.of (by kernel_rfl),?_⟩;refine⟨.of (by kernel_rfl),acn _,bq.AU (σ:=C.st) (by simp only[go_sem,simprocAttr]) 1048576 (by kernel_rfl) (.inl ⟨rfl,rfl⟩) hc1.st.read (by grind) λv1 σ1 ha1=>?_⟩;have q5:=ha1.row.st.ok;have q6:=ha1.row.st.un;simp only[go_sem,simprocAttr,q5,q6];refine bq.AU (σ:=σ1) (by simp only[go_sem,simprocAttr]) 1048576 (by kernel_rfl) ha1.row (.lit _ _ _) (by grind) λv2 σ2 ha2=>?_
    have q7:=ha2.row.st.ok;have q8:=ha2.row.st.un;have hk:dr σ2 (uo a o.length v) 9 _:=hc2.keep λj hj=>by
     rw[pd]at hj;have hj1:=hrow.lt j hj;have hj2:j∉aN v1:=λh=>by
      rcases ha1.aN j h with h|h
      .grind [aN]
      .omega
     rw[ha2.fr.old j (acF hj1 ha1.fr.len) hj2,ha1.fr.old j hj1 (by simp[aN])]
    simp only[go_sem,simprocAttr,q3,q4,q7,q8];refine bq.AU (σ:=σ2) (by simp only[go_sem,simprocAttr]) 1048576 (by kernel_rfl) ha2.row hk.st.read (by grind) λv3 σ3 ha3=>?_
    have q9:=ha3.row.st.ok;have q10:=ha3.row.st.un;simp only[go_sem,simprocAttr,h9];refine⟨hc,_,rfl,ag hc (by grind [au]),?_⟩;have hx:Ext σ C.st:=by grind [dI.ext]
    have hfin:=(((dI.nil hx 9).app ha1).app ha2).app ha3;rw[n5 hp,<-hoo,mc,(ic hI hJ).1,(ic hI hJ).2,if_neg hne];grind
  grind
 simp only[go_sem,simprocAttr,h3];exact fC.T3 (hb.nI) (.inl rfl) (by simp only[go_sem,simprocAttr])
end Go.Proofs.Tryz
end
section
namespace Go.Av
open Go.Proofs.Tryz
structure j6 where
 ess:Bool
 pre:List Nat
 dep:List Nat
 con:List Nat
 brk:List Nat
 deriving DecidableEq
structure bE where
 name:List UInt8
 old:j6
 new:j6
 wanted:Bool
 ver:List UInt8
 same:Bool
 kF:Bool
 deriving DecidableEq
def ja (t:List Pkg)(n:List UInt8):Option Pkg:=t.find? λp=>p.name==n
def en (s:List aA)(t:List Pkg)(n:List UInt8):Bool:=match cF s n,ja t n with
 |some x,some p=>x.k9&&bt x.pkg.ver p.ver
 |_,_=>false
def aY (s:List aA)(t:List Pkg):List (List UInt8):=e8 (s.map (·.pkg)++t)
def mK (i:Nat)(w:Bool):Nat:=2^(2*i+if w=true then 1 else 0)
def lZ (s:List aA)(t:List Pkg)(i:Nat)(n:List UInt8):List (Pkg×Nat):=
 (match cF s n with|some x=>[(x.pkg,mK i false)]|none=>[])++match ja t n with|some p=>[(p,mK i true)]|none=>[]
def cj (s:List aA)(t:List Pkg):List (Pkg×Nat):=fmI (lZ s t) 0 (aY s t)
def fA (l:List (Pkg×Nat))(c:Clause):Nat:=l.foldl (λo x=>if c.any (dc x.1)=true then o ||| x.2 else o) 0
def eS (l:List (Pkg×Nat))(p:Pkg):j6:=⟨p.ess,p.pre.map (fA l),p.dep.map (fA l),p.con.map λa=>fA l [a],p.brk.map λa=>fA l [a]⟩
def lk :j6:=⟨false,[],[],[],[]⟩
def qW (s:List aA)(t:List Pkg)(l:List (Pkg×Nat))(n:List UInt8):bE where
 name:=n
 old:=match cF s n with|some x=>eS l x.pkg|none=>lk
 new:=match ja t n with|some p=>eS l p|none=>lk
 wanted:=(ja t n).isSome
 ver:=match ja t n with|some p=>p.ver|none=>[]
 same:=match cF s n,ja t n with|some x,some p=>bt x.pkg.ver p.ver|_,_=>false
 kF:=!en s t n
def ga (s:List aA)(n:List UInt8):UInt8:=match cF s n with|none=>0|some x=>if x.k9=true then 2 else 1
def tI (n:bE)(c:UInt8):Bool:=if n.wanted=true then c==4||(c==2&&n.same)else c==0
def pK (ns:List bE)(k:List UInt8):Bool:=(ns.zip k).all λx=>tI x.1 x.2
def Oz (kind n:Nat)(pre:Bool)(i o:Nat):Nat:=(((kind*256+n)*2+if pre=true then 1 else 0)*16+i)*256+o
def gQ (k:List UInt8):Nat:=(fmI (λi c=>if c=0 then []else [mK i (decide (3<=c.toNat))]) 0 k).foldl (· ||| ·) 0
def onK (k:List UInt8):Nat:=(fmI (λi c=>if c=2\/c=4 then [mK i (decide (3<=c.toNat))]else []) 0 k).foldl (· ||| ·) 0
def gp (n:Nat)(pre:Bool)(on i m:Nat):List Nat:=if m &&& on=0 then [Oz 1 n pre i 0]else []
def nW (kind n:Nat)(there i m k:Nat):List Nat:=if k≠n/\m &&& there &&& (mK k false ||| mK k true)≠0 then [Oz kind n false i k]else []
def cH (kind n len there i m:Nat):List Nat:=(List.range len).flatMap (nW kind n there i m)
def iZ (ns:List bE)(k:List UInt8)(i:Nat)(c:UInt8):List Nat:=
 if c=0 then []else match ns[i]? with
  |none=>[]
  |some n=>
   let f:=if 3<=c.toNat then n.new else n.old
   fmI (gp i true (onK k)) 0 f.pre++(if c=2\/c=4 then fmI (gp i false (onK k)) 0 f.dep else [])++fmI (cH 2 i ns.length (gQ k)) 0 f.con++fmI (cH 3 i ns.length (onK k)) 0 f.brk
def fY (ns:List bE)(k:List UInt8):List Nat:=fmI (iZ ns k) 0 k
def fJ (n:bE)(kind:Nat)(c:UInt8):Option UInt8:=
 if kind=1 then(if c=2\/c=4 then some (c-1)else none)
 else if kind=4 then(if c=1\/c=3 then some (c+1)else none)
 else if kind=2 then(if c≠0/\(if 3<=c.toNat then n.new else n.old).ess=false then some 0 else none)
 else if n.wanted=true/\(c=0\/((c=1\/c=2)/\n.same=false))then some 3 else none
def jd (k:List UInt8):Nat:=(k.filter (· !=0)).length
def nG (ns:List bE)(k:List UInt8)(kind i:Nat)(n:bE):List (bL×List UInt8):=match k[i]? with
 |none=>[]
 |some c=>match fJ n kind c with
  |none=>[]
  |some d=>
   if n.kF=true/\jd (k.set i d)<=10/\(fY ns (k.set i d)).all (λv=>(fY ns k).contains v)=true then [(⟨kind,n.name,if kind=3 then n.ver else []⟩,k.set i d)]else []
def ku (ns:List bE)(k:List UInt8):List (bL×List UInt8):=[1,2,3,4].flatMap λkind=>fmI (nG ns k kind) 0 ns
def kR (s:List aA)(t:List Pkg):List bE:=(aY s t).map (qW s t (cj s t))
def fB (s:List aA)(t:List Pkg):List (List UInt8):=(aY s t).filter λn=>!en s t n
def ig (s:List aA)(t:List Pkg):List bL×Int:=
 if bJ s≠0 then([],bJ s)else if aZ t≠0 then([],aZ t)else if ¬(t.map (·.name)).Nodup then([],1)
 else if 6<(fB s t).length then([],12)
 else match Cl id (ku (kR s t)) (pK (kR s t)) 20000 [((aY s t).map (ga s),[])] 0 with
  |some (some p)=>(p,0)
  |_=>([],8)
end Go.Av
end
section
namespace Go.Av
open Go.Proofs Go.Proofs.Tryz
def uw (x y:List UInt8):Prop:=Op.bytesLess x y=true
theorem Xu (x y:List UInt8):decide (x<=y)= !Op.bytesLess y x:=by
 rw[Go.Proofs.bytesLess_eq,acZ];simp[List.not_lt]
theorem HK {x y z:List UInt8}(h1:Op.bytesLess y x=false)(h2:Op.bytesLess z y=false):Op.bytesLess z x=false:=by
 grind [kT,ew,eu]
theorem zQ (l:List (List UInt8)):(l.mergeSort λx y=>decide (x<=y)).Pairwise λx y=>Op.bytesLess y x=false:=by
 refine(acL (λx y z h1 h2=>?_) (λx y=>?_) l).imp λ{x y} h=>?_
 .simp only[Xu,acJ]at *;exact HK h1 h2
 .simp only[Xu,ac0,acJ];grind [kT,ew,eu]
 .simpa[Xu]using h
theorem Be : ∀{l m:List (List UInt8)},l.Pairwise uw->m.Pairwise uw->(∀x,x∈l↔x∈m)->l=m
 |[],[],_,_,_=>rfl
 |[],y::m,_,_,h=>absurd ((h y).2 (by simp)) (by simp)
 |x::l,[],_,_,h=>absurd ((h x).1 (by simp)) (by simp)
 |x::l,y::m,h1,h2,h=>by
  obtain⟨a1,a2⟩:=acB.1 h1;obtain⟨b1,b2⟩:=acB.1 h2;unfold uw at a1 b1;have e:x=y:=by
   refine ac2 λhne=>?_
   have g1:=(h x).1 (by simp);have g2:=(h y).2 (by simp);grind [ew,eu]
  subst e;rw[Be a2 b2 λz=>?_];have:=h z;grind [eu]
theorem Rl {o m:List (List UInt8)}(ho:o.Nodup)(hm:m.Pairwise uw)(h: ∀x,x∈o↔x∈m):(o.mergeSort λx y=>decide (x<=y))=m:=by
 have hp:=acz o λx y=>decide (x<=y)
 refine Be ?_ hm λx=>(hp.mem_iff).trans (h x)
 have h1:=zQ o;have h2:(o.mergeSort λx y=>decide (x<=y)).Nodup:=(hp.nodup_iff).2 ho;refine(h1.and h2).imp λ{x y} ⟨g1,g2⟩=>?_
 exact kT (λe=>g2 e.symm) g1
def gw (q:List UInt8->Bool)(o:List (List UInt8))(n:List UInt8):List (List UInt8):=if (q n&& !o.any λx=>n==x)=true then o++[n]else o
theorem Ri (q:List UInt8->Bool)(l:List (List UInt8)): ∀(o:List (List UInt8)) (x:List UInt8),x∈l.foldl (gw q) o↔x∈o\/(x∈l/\q x=true):=by
 induction l with
 |nil=>simp
 |cons n r ih=>
  intro o x;rw[acD,ih];unfold gw;grind
theorem JZ (q:List UInt8->Bool)(l:List (List UInt8)): ∀(o:List (List UInt8)),o.Nodup->(l.foldl (gw q) o).Nodup:=by
 induction l with
 |nil=>simp
 |cons n r ih=>
  intro o ho;rw[acD];refine ih _ ?_;unfold gw;grind [acR]
theorem wB (q:List UInt8->Bool)(l:List (List UInt8)): ∀(o:List (List UInt8)),(l.foldl (gw q) o).length<=o.length+l.length:=by
 induction l with
 |nil=>simp
 |cons n r ih=>
  intro o;rw[acD];have:=ih (gw q o n);unfold gw at *;grind
theorem tZ {zs:List (List UInt8)}(hz:zs.Pairwise λx y=>Op.bytesLess y x=false): ∀m,m<=zs.length->(Lib.compactUpTo zs.toArray m).Pairwise uw/\ ∀x,x∈Lib.compactUpTo zs.toArray m↔x∈zs.take m
 |0,_=>by simp[Lib.compactUpTo]
 |m+1,hm=>by
  obtain⟨i1,i2⟩:=tZ hz m (by omega);have hg:zs[m]?=some zs[m]:=List.getElem?_eq_getElem (by omega);have hgm:zs.toArray[m]! =zs[m]:=by simp[getElem!_pos,show m<zs.length by omega]
  rw[Lib.compactUpTo_succ,ah hg,hgm];by_cases h0:m=0
  .subst h0
   have:Lib.keeps zs.toArray 0=true:=by simp[Lib.keeps]
   simp[this,Lib.compactUpTo]
  have hgp:zs.toArray[m-1]! =zs[m-1]:=by simp[getElem!_pos,show m-1<zs.length by omega]
  have hle: ∀x∈zs.take m,Op.bytesLess zs[m] x=false:=λx hx=>by
   obtain⟨j,hj,rfl⟩:=acy.1 hx;exact acH.1 hz j m (by omega) (by omega) (by omega)
  have hle2: ∀x∈zs.take m,x=zs[m-1]\/Op.bytesLess zs[m-1] x=false:=λx hx=>by
   obtain⟨j,hj,rfl⟩:=acy.1 hx;by_cases e:j=m-1
   .subst e;exact .inl rfl
   .exact .inr (acH.1 hz j (m-1) (by omega) (by omega) (by omega))
  have hpm:zs[m-1]∈zs.take m:=acy.2 ⟨m-1,by omega,rfl⟩;by_cases hk:zs[m]=zs[m-1]
  .have:Lib.keeps zs.toArray m=false:=Lib.keeps_neg (by omega) (by rw[hgm,hgp];exact hk);rw[this];simp only[Bool.false_eq_true,if_false,acs];refine⟨i1,λx=>?_⟩;rw[i2];grind
  .have:Lib.keeps zs.toArray m=true:=Lib.keeps_pos (by rw[hgm,hgp];exact hk);rw[this];simp only[if_true];refine⟨List.pairwise_append.2 ⟨i1,by simp,λx hx y hy=>?_⟩,λx=>?_⟩
   .rw[acj.1 hy];have h1:=(i2 x).1 hx;have h2:=hle2 x h1;have h3:=hle _ h1;have h4:=hle _ hpm;unfold uw;grind [kT,ew,eu]
   .rw[aci,aci,i2]
theorem ES {l m:List (List UInt8)}(hm:m.Pairwise uw)(h: ∀x,x∈l↔x∈m):Lib.compact (l.mergeSort λx y=>decide (x<=y))=m:=by
 obtain⟨h1,h2⟩:=tZ (zQ l) _ (acI _);refine Be h1 hm λx=>?_
 have h3:=h2 x;rw[acW]at h3;exact h3.trans ((acz l _).mem_iff.trans (h x))
theorem qt (l:List Pkg):(e8 l).Pairwise uw:=by
 have key: ∀(l:List Pkg) (o:List (List UInt8)),o.Pairwise uw->(l.foldl (λo p=>mc p.name o) o).Pairwise uw:=λl=>by
  induction l with
  |nil=>exact λo h=>h
  |cons p l ih=>exact λo h=>ih _ (vM h)
 exact key l [] .nil
theorem Hm (l:List Pkg)(x:List UInt8):x∈e8 l↔ ∃p∈l,p.name=x:=by
 have key: ∀(l:List Pkg) (o:List (List UInt8)),x∈l.foldl (λo p=>mc p.name o) o↔x∈o\/ ∃p∈l,p.name=x:=λl=>by
  induction l with
  |nil=>simp
  |cons p l ih=>
   intro o;rw[acD,ih,wC];grind
 rw[e8,key];simp
def lP (s:List aA)(t:List Pkg):List (List UInt8):=s.map (·.pkg.name)++t.map (·.name)
theorem vI (s:List aA)(t:List Pkg)(x:List UInt8):x∈lP s t↔x∈aY s t:=by
 unfold lP aY;rw[Hm];grind
theorem IA (s:List aA)(t:List Pkg)(b:Bool):(((lP s t).foldl (gw λn=>en s t n==b) []).mergeSort λx y=>decide (x<=y))=(aY s t).filter λn=>en s t n==b:=by
 refine Rl (JZ _ _ _ .nil) ((qt _).filter _) λx=>?_
 rw[Ri,acN,vI];simp
theorem yB (s:List aA)(t:List Pkg):Lib.compact ((lP s t).mergeSort λx y=>decide (x<=y))=aY s t:=ES (qt _) (vI s t)
end Go.Av
end
section
namespace Go.Av
open Go.Proofs.Tryz
def eO :List bE->List UInt8->List (List UInt8)
 |n::ns,c::k=>(if n.kF=true then [0,1,2,3,4]else [c]).flatMap λd=>(eO ns k).map (d:: ·)
 |_,k=>[k]
theorem DT : ∀(ns:List bE) (k:List UInt8),(eO ns k).length<=5^(ns.filter (·.kF)).length
 |[],k=>by simp[eO]
 |n::ns,[]=>by
  simp only[eO,acx,acE];exact Nat.pow_pos (by decide)
 |n::ns,c::k=>by
  have ih:=DT ns k;rw[eO,acV];cases h:n.kF
  .simpa using ih
  .simp only[if_pos,acS,List.flatMap_nil,acr,acg,acE,acx,Nat.pow_succ];omega
theorem AH : ∀(ns:List bE) (k:List UInt8),(∀c∈k,c.toNat<=4)->k∈eO ns k
 |[],k,_=>by simp[eO]
 |n::ns,[],_=>by simp[eO]
 |n::ns,c::k,h=>by
  have ih:=AH ns k λd hd=>h d (by simp[hd])
  rw[eO,acw];refine⟨c,?_,ack.2 ⟨k,ih,rfl⟩⟩;split
  .have:=h c (by simp);have e: ∀m:UInt8,m.toNat=c.toNat->c=m:=λm hm=>UInt8.toNat_inj.1 hm.symm
   have:c.toNat=0\/c.toNat=1\/c.toNat=2\/c.toNat=3\/c.toNat=4:=by omega
   rcases this with h|h|h|h|h
   .rw[e 0 (by simp[h])];simp
   .rw[e 1 (by simp[h])];simp
   .rw[e 2 (by simp[h])];simp
   .rw[e 3 (by simp[h])];simp
   .rw[e 4 (by simp[h])];simp
  .simp
theorem xj {d:UInt8}(hd:d∈([0,1,2,3,4]:List UInt8)): ∀{ns:List bE} {k k':List UInt8} {i:Nat} {n:bE},k'∈eO ns k->ns[i]?=some n->n.kF=true->i<k.length->k'.set i d∈eO ns k
 |n::ns,[],_,i,m,_,_,_,h=>by cases h
 |n::ns,c::k,k',i,m,hk,hn,hm,hi=>by
  rw[eO,acw]at hk ⊢;obtain⟨x,hx,hk⟩:=hk;obtain⟨r,hr,rfl⟩:=ack.1 hk;cases i with
  |zero=>
   cases hn;rw[if_pos hm]at hx ⊢;exact⟨d,hd,ack.2 ⟨r,hr,rfl⟩⟩
  |succ i=>exact⟨x,hx,ack.2 ⟨r.set i d,xj hd hr hn hm (by simpa using hi),rfl⟩⟩
theorem mq : ∀{ns:List bE} {k k':List UInt8},k'∈eO ns k->k'.length=k.length
 |[],k,k',h=>by simp[eO]at h;rw[h]
 |n::ns,[],k',h=>by simp[eO]at h;rw[h]
 |n::ns,c::k,k',h=>by
  rw[eO,acw]at h;obtain⟨x,_,h⟩:=h;obtain⟨r,hr,rfl⟩:=ack.1 h;simp[mq hr]
theorem w9 {n:bE}{kind:Nat}{c d:UInt8}(h:fJ n kind c=some d):d∈([0,1,2,3,4]:List UInt8):=by
 unfold fJ at h;have key: ∀(p:Prop) [Decidable p] (x:UInt8),(if p then some x else none)=some d->p/\x=d:=λp _ x h=>by
  split at h
  .exact⟨by assumption,by simpa using h⟩
  .cases h
 by_cases h1:kind=1
 .rw[if_pos h1]at h;obtain⟨g,rfl⟩:=key _ _ h;rcases g with rfl|rfl<;>decide
 rw[if_neg h1]at h;by_cases h4:kind=4
 .rw[if_pos h4]at h;obtain⟨g,rfl⟩:=key _ _ h;rcases g with rfl|rfl<;>decide
 rw[if_neg h4]at h;by_cases h2:kind=2
 .rw[if_pos h2]at h;obtain⟨_,rfl⟩:=key _ _ h;decide
 .rw[if_neg h2]at h;obtain⟨_,rfl⟩:=key _ _ h;decide
def Ks (ns:List bE)(k0:List UInt8)(l:List (List UInt8×List bL)):Prop:=(l.map (·.1)).Nodup/\ ∀x∈l,x.1∈eO ns k0
theorem JI {ns:List bE}{k0 k:List UInt8}(hl:k0.length=ns.length)(h4: ∀c∈k0,c.toNat<=4)(hk:k∈eO ns k0): ∀x∈ku ns k,x.2∈eO ns k0:=λx hx=>by
 have key: ∀(kind b:Nat) (l:List bE),(∀j n,l[j]?=some n->ns[b+j]?=some n)->x∈fmI (nG ns k kind) b l->x.2∈eO ns k0:=λkind b l=>by
  induction l generalizing b with
  |nil=>intro _ h;cases h
  |cons n l ih=>
   intro hb h;rw[fmI]at h;rcases aci.1 h with h|h
   .have hn:ns[b]?=some n:=hb 0 n rfl;have hbl:=(acf.1 hn).1;unfold nG at h;split at h
    .cases h
    rename_i c hc;split at h
    .cases h
    rename_i d hd;split at h
    .rename_i hm;cases acj.1 h;exact xj (w9 hd) hk hn hm.1 (by omega)
    .cases h
   .exact ih (b+1) (λj m hj=>by have:=hb (j+1) m hj;rwa [show b+(j+1)=b+1+j by omega]at this) h
 obtain⟨kind,_,hx⟩:=acw.1 hx;exact key kind 0 ns (λj n hj=>by rwa [Nat.zero_add]) hx
theorem AN {ns:List bE}{k0:List UInt8}(p:List bL): ∀{m:List (bL×List UInt8)} {l:List (List UInt8×List bL)},(∀x∈m,x.2∈eO ns k0)->Ks ns k0 l->Ks ns k0 (kU id p m l)
 |[],l,_,h=>h
 |x::m,l,hm,h=>by
  rw[kU];refine AN p (λy hy=>hm y (by simp[hy])) ?_;split
  .exact h
  .rename_i hx;refine⟨?_,λy hy=>?_⟩
   .rw[acA,acR];refine⟨h.1,by simp,λa ha b hb e=>?_⟩;rw[ac3,ac5,acj]at hb;subst e hb;exact hx ha
   .rcases aci.1 hy with hy|hy
    .exact h.2 y hy
    .rw[acj.1 hy];exact hm x (by simp)
theorem vB {ns:List bE}{k0:List UInt8}{l:List (List UInt8×List bL)}(h:Ks ns k0 l):l.length<=5^(ns.filter (·.kF)).length:=by
 have h1:=kl (l.map (·.1)) (eO ns k0) h.1 λx hx=>by
  obtain⟨y,hy,rfl⟩:=ack.1 hx;exact h.2 y hy
 rw[acg]at h1;exact ac4 h1 (DT ns k0)
end Go.Av
end
section
namespace Go.Av
open Go.Proofs Go.Proofs.Tryz
theorem Gc (l:List Nat)(a:Nat):(l++[a]).foldl (· ||| ·) 0=l.foldl (· ||| ·) 0 ||| a:=by simp
theorem GO {e:Nat}: ∀{l:List Nat} {o:Nat},(∀x∈l,x<2^e)->o<2^e->l.foldl (· ||| ·) o<2^e
 |[],_,_,h=>h
 |x::r,o,h,ho=>GO (l:=r) (λy hy=>h y (by simp[hy])) (acp ho (h x (by simp)))
theorem nb {i:Nat}{w:Bool}(hi:i<=20):mK i w<2^60:=acu (by decide) (by split<;>omega)
theorem uJ {α β:Type}{f:Nat->α->List β}{y:β}: ∀{l:List α} {b:Nat},y∈fmI f b l-> ∃i a,l[i]?=some a/\y∈f (b+i) a
 |[],b,h=>by cases h
 |a::r,b,h=>by
  rw[fmI]at h;rcases aci.1 h with h|h
  .exact⟨0,a,rfl,h⟩
  .obtain⟨i,c,h1,h2⟩:=uJ h;exact⟨i+1,c,by simpa using h1,by rw[show b+(i+1)=b+1+i by omega];exact h2⟩
theorem Gy {k:List UInt8}{i:Nat}{c:UInt8}(h:k[i]?=some c):gQ (k.take (i+1))=if c=0 then gQ (k.take i)else gQ (k.take i) ||| mK i (decide (3<=c.toNat)):=by
 unfold gQ;rw[cZ h];by_cases hc:c=0
 .rw[if_pos hc,if_pos hc,acs]
 .rw[if_neg hc,if_neg hc,Gc]
theorem Tf {k:List UInt8}{i:Nat}{c:UInt8}(h:k[i]?=some c):onK (k.take (i+1))=if c=2\/c=4 then onK (k.take i) ||| mK i (decide (3<=c.toNat))else onK (k.take i):=by
 unfold onK;rw[cZ h];by_cases hc:c=2\/c=4
 .rw[if_pos hc,if_pos hc,Gc]
 .rw[if_neg hc,if_neg hc,acs]
theorem AO {k:List UInt8}(hk:k.length<=20):gQ k<2^60:=by
 refine GO (λx hx=>?_) (by decide);obtain⟨i,a,h1,h2⟩:=uJ hx;have:=(acf.1 h1).1;split at h2
 .cases h2
 .rw[acj.1 h2];exact nb (by omega)
theorem Qb {k:List UInt8}(hk:k.length<=20):onK k<2^60:=by
 refine GO (λx hx=>?_) (by decide);obtain⟨i,a,h1,h2⟩:=uJ hx;have:=(acf.1 h1).1;split at h2
 .rw[acj.1 h2];exact nb (by omega)
 .cases h2
structure AQ (f:j6):Prop where
 pre:f.pre.length<=12
 dep:f.dep.length<=12
 con:f.con.length<=12
 brk:f.brk.length<=12
 ab7: ∀m∈f.pre,m<2^60
 ab0: ∀m∈f.dep,m<2^60
 abC: ∀m∈f.con,m<2^60
 abY: ∀m∈f.brk,m<2^60
structure zJ (n:bE):Prop where
 old:AQ n.old
 new:AQ n.new
theorem l9 {n:Nat}{pre:Bool}{on:Nat}{l:List Nat}:(fmI (gp n pre on) 0 l).length<=l.length:=by
 have:=ki (f:=gp n pre on) (N:=1) (λi a=>by unfold gp;split<;>simp) (l:=l) (b:=0);omega
theorem qO {kind n len there i m:Nat}:(cH kind n len there i m).length<=len:=by
 unfold cH;have h: ∀l:List Nat,(l.flatMap (nW kind n there i m)).length<=l.length:=λl=>by
  induction l with
  |nil=>simp
  |cons a r ih=>
   rw[acS,acr,acx]
   have:(nW kind n there i m a).length<=1:=by unfold nW;split<;>simp
   omega
 simpa using h (List.range len)
theorem nm {kind n len there:Nat}{l:List Nat}:(fmI (cH kind n len there) 0 l).length<=l.length*len:=ki (λ_ _=>qO)
theorem Jd {ns:List bE}{k:List UInt8}{i:Nat}{c:UInt8}(hb: ∀n∈ns,zJ n)(hn:ns.length<=20):(iZ ns k i c).length<=504:=by
 unfold iZ;split
 .simp
 .split
  .simp
  .rename_i n hni;have hB:=hb n (acv hni);have key: ∀f,AQ f->(fmI (gp i true (onK k)) 0 f.pre++(if c=2\/c=4 then fmI (gp i false (onK k)) 0 f.dep else [])++fmI (cH 2 i ns.length (gQ k)) 0 f.con++fmI (cH 3 i ns.length (onK k)) 0 f.brk).length<=504:=λf hf=>by
    have h1:=l9 (n:=i) (pre:=true) (on:=onK k) (l:=f.pre);have h2:=l9 (n:=i) (pre:=false) (on:=onK k) (l:=f.dep);have h3:=nm (kind:=2) (n:=i) (len:=ns.length) (there:=gQ k) (l:=f.con);have h4:=nm (kind:=3) (n:=i) (len:=ns.length) (there:=onK k) (l:=f.brk);have h5:f.con.length*ns.length<=12*20:=ac1 hf.con hn;have h6:f.brk.length*ns.length<=12*20:=ac1 hf.brk hn;have:=hf.pre;have:=hf.dep;simp only[acr];split
    .omega
    .simp only[acE];omega
   refine key _ ?_;split
   .exact hB.new
   .exact hB.old
theorem qk {ns:List bE}{k:List UInt8}{i:Nat}(hb: ∀n∈ns,zJ n)(hn:ns.length<=20)(hk:k.length<=20):(fmI (iZ ns k) 0 (k.take i)).length<=10080:=by
 have h1:=ki (f:=iZ ns k) (N:=504) (λi c=>Jd hb hn) (l:=k.take i) (b:=0);have h2:(k.take i).length<=20:=by rw[acU];omega
 omega
def gr (ns:List bE)(k:List UInt8):List Int:=((fY ns k).map λn:Nat=>(n:Int)).mergeSort λx y=>decide (x<=y)
theorem IL (ns:List bE)(k:List UInt8):(gr ns k).Pairwise (· <= ·):=
 (acL (λx y z h1 h2=>by simp only[decide_eq_true_eq]at *;omega) (λx y=>by simp only[ac0,decide_eq_true_eq];omega) _).imp λ{x y} h=>of_decide_eq_true h
theorem IZ (ns:List bE)(k:List UInt8)(x:Int):x∈gr ns k↔ ∃n∈fY ns k,(n:Int)=x:=by
 unfold gr;rw[(acz _ _).mem_iff,ack]
theorem HF {ns:List bE}{k:List UInt8}(hb: ∀n∈ns,zJ n)(hn:ns.length<=20)(hk:k.length<=20):(gr ns k).length<=10080:=by
 unfold gr;rw[(acz _ _).length_eq,acg];have:=qk (k:=k) (i:=k.length) hb hn hk;rw[acW]at this;exact this
def Cx (a b:List Int):Bool:=a.all λn=>b.contains n
theorem Ip (ns:List bE)(k k':List UInt8):Cx (gr ns k) (gr ns k')=(fY ns k).all λv=>(fY ns k').contains v:=by
 unfold Cx;rw[acZ,acX,acX];simp only[List.contains_iff_mem,IZ];constructor
 .intro h v hv;obtain⟨n,hn,e⟩:=h v ⟨v,hv,rfl⟩;rw[<-show n=v by omega];exact hn
 .rintro h x ⟨n,hn,rfl⟩;exact⟨n,h n hn,rfl⟩
theorem E3 {K S C:Type} [DecidableEq C] {κ:K->C}(p:List S): ∀(l m:List (S×K)) (ns:List (K×List S)),kU κ p (l++m) ns=kU κ p m (kU κ p l ns)
 |[],_,_=>rfl
 |x::r,m,ns=>by rw[List.cons_append,kU,kU,E3 p r m]
def dN (ns:List bE)(k:List UInt8)(j i:Nat):List (bL×List UInt8):=(([1,2,3,4]:List Nat).take j).flatMap (λkind=>fmI (nG ns k kind) 0 ns)++fmI (nG ns k (j+1)) 0 (ns.take i)
theorem Fv (ns:List bE)(k:List UInt8):dN ns k 0 0=[]:=by simp[dN,fmI]
theorem Gq {ns:List bE}{k:List UInt8}{j i:Nat}{n:bE}(h:ns[i]?=some n):dN ns k j (i+1)=dN ns k j i++nG ns k (j+1) i n:=by
 unfold dN;rw[cZ h,List.append_assoc]
theorem E2 {ns:List bE}{k:List UInt8}{j i:Nat}(hi:ns.length<=i)(hj:j<4):dN ns k (j+1) 0=dN ns k j i:=by
 unfold dN;rw[acq hi]
 have:j=0\/j=1\/j=2\/j=3:=by omega
 rcases this with rfl|rfl|rfl|rfl<;>simp[fmI]
theorem HU (ns:List bE)(k:List UInt8):dN ns k 4 0=ku ns k:=by simp[dN,ku,fmI]
structure yo (q:List (List UInt8×List bL))(fr:List Int)(by_:List bL):Prop where
 l1:fr.length=q.length
 l2:by_.length=q.length
 on: ∀(i:Nat) (k:List UInt8) (p:List bL),q[i]?=some (k,p)->(i=0/\p=[])\/ ∃(j:Nat) (k':List UInt8) (p':List bL) (st:bL),j<i/\fr[i]?=some (j:Int)/\by_[i]?=some st/\q[j]?=some (k',p')/\p=p'++[st]
theorem yo.snoc {q:List (List UInt8×List bL)}{fr:List Int}{by_:List bL}(h:yo q fr by_){at_:Nat}{k:List UInt8}{p:List bL}(ha:q[at_]?=some (k,p))(key:List UInt8)(st:bL):
  yo (q++[(key,p++[st])]) (fr++[(at_:Int)]) (by_++[st]):=by
 have hl1:=h.l1;have hl2:=h.l2;have hal:=(acf.1 ha).1;refine⟨by simp[hl1],by simp[hl2],λi k1 p1 hi=>?_⟩;by_cases hq:i<q.length
 .rw[ach hq]at hi;rcases h.on i k1 p1 hi with h1|⟨j,k',p',s,g1,g2,g3,g4,g5⟩
  .exact .inl h1
  .exact .inr ⟨j,k',p',s,g1,by rw[ach (by omega)];exact g2,by rw[ach (by omega)];exact g3,by rw[ach (by omega)];exact g4,g5⟩
 .have hil:=(acf.1 hi).1;simp only[acr,acx,acE]at hil;have e:i=q.length:=by omega
  subst e;rw[aco (acI _),acM]at hi;cases hi;refine .inr ⟨at_,k,p,st,hal,?_,?_,?_,rfl⟩
  .rw[aco (by omega),hl1,acM];rfl
  .rw[aco (by omega),hl2,acM];rfl
  .rw[ach hal];exact ha
theorem yo.one (k:List UInt8)(st:bL):yo [(k,[])] [-1] [st]:=⟨rfl,rfl,λi k1 p1 hi=>by
 match i,hi with
 |0,hi=>cases hi;exact .inl ⟨rfl,rfl⟩⟩
theorem Ls {K S C:Type} [DecidableEq C] {κ:K->C}{succ:K->List (S×K)}{goal:K->Bool}{q:List (K×List S)}{at_ N:Nat}{k:K}{p:List S}(h:q[at_]?=some (k,p))(hN:at_<N):
  Cl κ succ goal (N-at_) q at_=if goal k=true then some (some p)else Cl κ succ goal (N-(at_+1)) (kU κ p (succ k) q) (at_+1):=by
 rw[show N-at_=(N-(at_+1))+1 by omega,Cl,h]
theorem Tp {K S C:Type} [DecidableEq C] {κ:K->C}{succ:K->List (S×K)}{goal:K->Bool}{q:List (K×List S)}{at_ N:Nat}(h:q.length<=at_)(hN:at_<N):Cl κ succ goal (N-at_) q at_=some none:=by
 rw[show N-at_=(N-(at_+1))+1 by omega,Cl,List.getElem?_eq_none h]
theorem MG {l:List (List UInt8)}(h:l.Pairwise uw):l.Nodup:=h.imp λ{x y} h e=>by
 subst e;unfold uw at h;rw[eu]at h;cases h
theorem vh {s:List aA}{t:List Pkg}(hs:s.length<=10)(ht:t.length<=10):(aY s t).length<=20:=by
 have:=kl (aY s t) (lP s t) (MG (qt _)) λx hx=>(vI s t x).2 hx
 unfold lP at this;simp only[acr,acg]at this;omega
theorem Ag {s:List aA}{t:List Pkg}(hn:(aY s t).length<=20): ∀x∈cj s t,x.2<2^60:=λx hx=>by
 obtain⟨i,n,h1,h2⟩:=uJ hx;have:=(acf.1 h1).1;unfold lZ at h2;rcases aci.1 h2 with h2|h2
 .split at h2
  .rw[acj.1 h2];exact nb (by omega)
  .cases h2
 .split at h2
  .rw[acj.1 h2];exact nb (by omega)
  .cases h2
theorem EX {l:List (Pkg×Nat)}{c:Clause}(hl: ∀x∈l,x.2<2^60):fA l c<2^60:=by
 have h: ∀(l:List (Pkg×Nat)) (o:Nat),(∀x∈l,x.2<2^60)->o<2^60->(l.foldl (λo x=>if c.any (dc x.1)=true then o ||| x.2 else o) o)<2^60:=λl=>by
  induction l with
  |nil=>exact λo _ ho=>ho
  |cons x r ih=>
   intro o h ho;refine ih _ (λy hy=>h y (by simp[hy])) ?_
   dsimp only
   split
   .exact acp ho (h x (by simp))
   .exact ho
 exact h l 0 hl (by decide)
theorem Dr {l:List (Pkg×Nat)}{p:Pkg}(hl: ∀x∈l,x.2<2^60)(hp:aS p=0):AQ (eS l p):=by
 have hG:=dz hp;refine⟨by simpa[eS]using hG.pre.1,by simpa[eS]using hG.dep.1,by simpa[eS]using hG.con.1,by simpa[eS]using hG.brk.1,λm hm=>?_,λm hm=>?_,λm hm=>?_,λm hm=>?_⟩<;>
 .obtain⟨c,_,rfl⟩:=ack.1 hm;exact EX hl
theorem J9 :AQ lk:=⟨by simp[lk],by simp[lk],by simp[lk],by simp[lk],by simp[lk],by simp[lk],by simp[lk],by simp[lk]⟩
theorem UU {s:List aA}{t:List Pkg}{l:List (Pkg×Nat)}(hs: ∀x∈s,aS x.pkg=0)(ht: ∀p∈t,aS p=0)(hl: ∀x∈l,x.2<2^60)(n:List UInt8):zJ (qW s t l n):=by
 unfold qW;refine⟨?_,?_⟩
 .dsimp only
  split
  .rename_i x hx;exact Dr hl (hs x (AE hx).1)
  .exact J9
 .dsimp only
  split
  .rename_i p hp;exact Dr hl (ht p (List.mem_of_find?_eq_some hp))
  .exact J9
theorem sy {t:List Pkg}(h:aZ t=0)(hn:(t.map (·.name)).Nodup):t.length<=10:=by
 have h1:=rO h;have h2:=kl (t.map (·.name)) (dA t []) hn λx hx=>by
  obtain⟨p,hp,e⟩:=ack.1 hx;exact(jo _ _ x).2 (.inr ⟨p,hp,e⟩)
 rw[acg]at h2;omega
end Go.Av
end
