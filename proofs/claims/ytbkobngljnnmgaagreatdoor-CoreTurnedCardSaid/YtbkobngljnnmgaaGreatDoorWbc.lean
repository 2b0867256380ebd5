/- What the last text of this claim rests on. No conditions. -/
import Derived.Sort.Walk0
import Derived.Lib.SlicesCompact
import Derived.Test.YtbkobngljnnmgaaGreatDoorWah
import Derived.Test.YtbkobngljnnmgaaGreatDoorWak
import Derived.Test.YtbkobngljnnmgaaGreatDoorWap
import Derived.Test.YtbkobngljnnmgaaGreatDoorWas
import Derived.Test.YtbkobngljnnmgaaGreatDoorWax
import Derived.Test.YtbkobngljnnmgaaGreatDoorWay
import Derived.Test.YtbkobngljnnmgaaGreatDoorWba
import Derived.Test.YtbkobngljnnmgaaGreatDoorWbb
set_option linter.unusedSimpArgs false
set_option linter.unusedVariables false
open List renaming getElem?_eq_some_iff->ab4,length_map->ab5,getElem?_append_left->ab6,mem_append->ab7,mem_singleton->ab8,mem_map->ab9,getElem?_set_self->aca,getElem?_append_right->acd,take_of_length_le->acf,length_append->acg,append_nil->ach,mem_of_getElem?->acj,mem_flatMap->ack,length_cons->acm,mem_take_iff_getElem->acn,mergeSort_perm->aco,map_append->acp,pairwise_cons->acq,takeWhile_append_dropWhile->acr,foldl_cons->acs,length_nil->acu,drop_eq_getElem_cons->acw,pairwise_iff_getElem->acx,pairwise_mergeSort->acB,mem_filter->acD,mem_cons_self->acG,nodup_append->acH,flatMap_cons->acI,length_take->acK,filter_cons->acL,take_length->acM,all_eq_true->acN,map_cons->acT,map_nil->acV
open Nat renaming zero_le->acb,or_lt_two_pow->ace,pow_lt_pow_right->aci,lt_of_lt_of_le->acv,le_refl->acy,sub_self->acC,pow_le_pow_right->acE,two_pow_pos->acO,mul_le_mul->acR,le_trans->acU
open Bool renaming not_eq_true'->acz,and_eq_true->acJ,eq_iff_iff->acP,or_eq_true->acQ
open Option renaming bind_some->acA
open List.Perm renaming length_eq->acF
open Classical renaming byContradiction->acS
open Option.some renaming injEq->acW
open List.Pairwise renaming imp->acX
section
namespace Go.Av
open Go
def iE (σ:ab)(x:AV)(e:TypeId)(xs:List AV):Prop:=(x= .ar/\xs=[])\/ ∃id,x= .row e id 0 xs.length/\σ[id]?=some (some (.cells e xs))/\xs≠[]
theorem iE.v {σ:ab}{x:AV}{e:TypeId}{xs:List AV}(h:iE σ x e xs):dp σ x e xs:=by
 rcases h with h|⟨id,rfl,h,_⟩
 .exact .inl h
 .exact .inr ⟨id,0,_,xs,rfl,h,by omega,by simp⟩
theorem iE.keep {st st':ab}{v:AV}{e:TypeId}{xs:List AV}(h:iE st v e xs)(hk: ∀j∈aQ v,st'[j]?=st[j]?):iE st' v e xs:=by
 rcases h with h|⟨id,rfl,h,h1⟩
 .exact .inl h
 .exact .inr ⟨id,rfl,by grind [aQ],h1⟩
structure dw (σ:ab)(x:AV)(e:TypeId)(zs:List AV)(v:AV)(σ':ab):Prop where
 row:iE σ' v e zs
 fr:Fr (aQ x) σ σ'
 aQ: ∀j∈aQ v,j∈aQ x\/σ.length<=j
theorem bz.yS {P:Program}{A:aa}{σ:ab}{t u e:TypeId}{x y:AV}{xs ys:List AV}{dst:Option Nat}{k:aa->Prop}(hσ:A.st=σ)(N:Nat)(ho:zb P t u e N=true)(hb:dp σ x e xs)(hy:eG σ y e ys)(h0:ys≠[])(hN:xs.length+ys.length<=N)
  (hk: ∀v σ',dw σ x e (xs++ys) v σ'->k ((A.put dst v).ax σ')):bz P [t,u] [x,y] dst A k .mk:=by
 subst hσ;have hkl:(cn x A.st).length=A.st.length:=by unfold cn;grind
 refine bz.row N ho hb.st hy hN (λhe=>absurd he h0) λhe=>hk _ _ ⟨.inr ⟨A.st.length,by simp_all,?_,by simp[h0]⟩,?_,λj hj=>?_⟩
 .simp_all
 .refine Fr.app ?_ _;unfold cn;grind [Fr.set,Fr.refl,aQ]
 grind [aQ]
open Go.Proofs.Tryz
theorem E6 {all:List Pkg}: ∀{f i:Nat},i<=all.length->((dU all f i).map List.length).sum<=all.length-i
 |0,i,_=>by simp[dU]
 |f+1,i,hi=>by
  rw[dU];split
  .simp
  .rename_i h;obtain⟨p,hp⟩:=get_some (show i<all.length by omega);obtain⟨b1,b2⟩:=eT hp;have ih:=E6 (f:=f) b2;grind
theorem DQ {all:List Pkg}(s:List aD)(l:List aM)(hc:pB all):(aW all s l).map (·.2)=dU all (all.length+1) 0:=by
 simp_all[aW,mW]
theorem Ur {l:List Nat}{n:Nat}(h: ∀i∈l,i<n):bZ l<2^n:=by
 induction l with
 |nil=>exact acO n
 |cons a r ih=>simp_all[bZ,ace,aci]
theorem Jf (all:List Pkg)(s:List aD)(l:List aM):(aW all s l).length<=all.length:=by
 grind [aW,sd,CS]
theorem R1 {all:List Pkg}(s:List aD)(l:List aM)(hc:pB all)(D:Dat):jP D (aW all s l) 0 0+1<=2*2^all.length:=by
 have hg:=DQ s l hc;have h1:=KW D (gs:=aW all s l) 0 0 λg hgm=>Ky (all:=all) (f:=all.length+1) (i:=0) g.2 (by grind) (by omega)
 have h2:=Ge (aW all s l);have h3:((aW all s l).map λg=>g.2.length).sum<=all.length:=by
  have:(aW all s l).map (λg=>g.2.length)=((aW all s l).map (·.2)).map List.length:=by simp
  grind [E6]
 have h4:2^((aW all s l).map λg=>g.2.length).sum<=2^all.length:=acE (by decide) h3;omega
end Go.Av
end
section
namespace Go.Proofs.Tryz
open Go Go.Av
set_option maxRecDepth 10000
set_option maxHeartbeats 2000000
variable {W0 :World}
def jd (gs:List (Bool×List Nat)):AV:=.sl 88 (gs.map λg=>nL g.2)
def jj (gs:List (Bool×List Nat)):AV:=.sl 4 (gs.map λg=>.bool g.1)
def ee (all:List Pkg)(s:List aD)(l:List aM)(bud sp:Int)(dn:Bool)(v:AV):Option bJ:=
 cX (aL all) (aJ s) (bF l) (jd (aW all s l)) (jj (aW all s l)) (eB all s l) (eW (s.map (iL all))) (.bool (eX l)) (.bool (dQ all s l)) (.int .i64 bud) (.int .i64 sp) (.bool dn) v
theorem Nj {all:List Pkg}{s:List aD}{l:List aM}(hn:(l.map (·.name)).Nodup)(bud:Int):CF all s l bud=ee all s l bud 0 false .ar:=by
 have e1:(nmB all all.length).map (λn=>nL (br all λp=>p.name==n))=(aW all s l).map λg=>nL g.2:=by
  simp[aW,sd,AF]
 have e2:(nmB all all.length).map (λn=>AV.bool (tM l s n))=(aW all s l).map λg=>.bool g.1:=by
  simp_all[aW,sd,Uj]
 grind [iL,List.map_congr_left,AF,CF,fp,ee,jd,jj,eB,Qo]
def yd (b:Br):AV:=.agg 261 [.int .i64 (b.1:Nat),cL b.2.1,cL b.2.2]
structure dH (σ:ab)(id:Nat)(all:List Pkg)(s:List aD)(l:List aM)(bud:Int)(st:List Br)(os:List Nat)(sp:Nat)(v3 v12:AV)(τ:ab):Prop where
 todo:dp τ v3 261 (st.map yd)
 out:iE τ v12 218 ((os.map λS=>(ki all s S (eX l),S)).map fK)
 obj:τ[id]?=some (ee all s l bud sp false v12)
 fr:Fr [id] σ τ
 f3: ∀j∈aQ v3,σ.length<=j
 f12: ∀j∈aQ v12,σ.length<=j
structure RN (all:List Pkg)(s:List aD)(l:List aM)(bud:Int)(st:List Br)(os:List Nat)(sp:Nat):Prop where
 perm:(os++sa (eV all s l) (aW all s l) st).Perm (pA (eV all s l) (aW all s l) 0 0)
 cnt:sp+mo (eV all s l) (aW all s l) st=jP (eV all s l) (aW all s l) 0 0
 len:os.length<=sp
 bud:bud=0\/(sp:Int)<=bud
 ok: ∀b∈st,b.1<=(aW all s l).length/\b.2.1<2^all.length/\b.2.2<2^all.length
 oks: ∀S∈os,S<2^all.length
section
variable {σ τ:ab}{id:Nat}{all:List Pkg}{s:List aD}{l:List aM}{bud:Int}{st:List Br}{os:List Nat}{sp:Nat}{v3 v12:AV}
theorem dH.ne3 (h:dH σ id all s l bud st os sp v3 v12 τ):id∉aQ v3:=by
 have:=h.obj;unfold ee cX at this;exact h.todo.ne this (by decide)
theorem dH.Xw (h:dH σ id all s l bud st os sp v3 v12 τ):id∉aQ v12:=by
 have:=h.obj;unfold ee cX at this;exact h.out.v.ne this (by decide)
theorem dH.more (h:dH σ id all s l bud st os sp v3 v12 τ)(J:ab):dH σ id all s l bud st os sp v3 v12 (τ++J):=
 ⟨h.todo.keep λj hj=>by rw[ab6 (h.todo.lt j hj)],h.out.keep λj hj=>by rw[ab6 (h.out.v.lt j hj)],by grind [ab6,dH.obj],h.fr.app _,h.f3,h.f12⟩
theorem dH.Z9 (h:dH σ id all s l bud st os sp v3 v12 τ)(sp':Nat):dH σ id all s l bud st os sp' v3 v12 (τ.set id (ee all s l bud sp' false v12)):=
 ⟨h.todo.keep λj hj=>by grind [dH.ne3],h.out.keep λj hj=>by grind [dH.Xw],aca (ab4.1 h.obj).1,h.fr.set (.inl (by simp)) _,h.f3,h.f12⟩
theorem dH.cut {n:Nat}(h:dH σ id all s l bud st os sp v3 v12 τ)(hn:n<=st.length):dH σ id all s l bud (st.take n) os sp (uc 0 n v3) v12 τ:=
 ⟨by have:=h.todo.cut (a:=0) (b:=n) (acb _) (by simp_all);simp_all,h.out,h.obj,h.fr,λj hj=>h.f3 j (by grind [oV]),h.f12⟩
theorem dH.add {τ':ab}{v:AV}{S:Nat}(h:dH σ id all s l bud st os sp v3 v12 τ)(ha:dw τ v12 218 ((os.map λS=>(ki all s S (eX l),S)).map fK++[fK (ki all s S (eX l),S)]) v τ'):dH σ id all s l bud st (os++[S]) sp v3 v (τ'.set id (ee all s l bud sp false v)):=by
 have hlen:=h.fr.len;have hidl:=(ab4.1 h.obj).1;have hobj':=h.obj;unfold ee cX at hobj';have hidv:id∉aQ v:=λhj=>by
  rcases ha.aQ id hj with h1|h1
  .exact h.Xw h1
  .omega
 have hf: ∀j∈aQ v3,τ'[j]?=τ[j]?:=λj hj=>ha.fr.old j (h.todo.lt j hj) λhj2=>by
  rcases h.out with⟨rfl,_⟩|⟨ido,rfl,ho,_⟩
  .grind [aQ]
  .simp[aQ]at hj2;subst hj2;exact h.todo.ne ho (by decide) hj
 refine⟨h.todo.keep λj hj=>?_,?_,aca (acv hidl ha.fr.len),?_,h.f3,λj hj=>?_⟩
 .grind [dH.ne3]
 .rw[acp,acp];exact ha.row.keep λj hj=>by grind
 .refine Fr.set (id:=id) ⟨by have:=ha.fr.len;omega,λj hj hF=>?_⟩ (.inl (by simp)) _;rw[ha.fr.old j (by omega) λhj2=>by have:=h.f12 j hj2;omega,h.fr.old j hj hF]
 .rcases ha.aQ j hj with h1|h1
  .exact h.f12 j h1
  .omega
theorem dH.push {τ':ab}{v:AV}{x:Br}(h:dH σ id all s l bud st os sp v3 v12 τ)(ha:dw τ v3 261 (st.map yd++[yd x]) v τ'):dH σ id all s l bud (st++[x]) os sp v v12 τ':=by
 have hlen:=h.fr.len;refine⟨by grind [iE.v,dw.row],h.out.keep λj hj=>ha.fr.old j (h.out.v.lt j hj) λhj2=>?_,by rw[ha.fr.old id (ab4.1 h.obj).1 h.ne3,h.obj],?_,λj hj=>?_,h.f12⟩
 .rcases h.out with⟨rfl,_⟩|⟨ido,rfl,ho,_⟩
  .grind [aQ]
  .simp[aQ]at hj;subst hj;exact h.todo.ne ho (by decide) hj2
 .exact⟨by have:=ha.fr.len;omega,λj hj hF=>by rw[ha.fr.old j (by omega) λhj2=>by have:=h.f3 j hj2;omega,h.fr.old j hj hF]⟩
 .rcases ha.aQ j hj with h1|h1
  .exact h.f3 j h1
  .omega
end
theorem V2 (hW:rW W0)(σ:ab)(id:Nat)(all:List Pkg)(s:List aD)(l:List aM)(bud:Int)(hn:(l.map (·.name)).Nodup)(h0:aR all=0)(ho:all=cQ all)(hmn: ∀p∈all,gW p)(HE:s.length<=10)(hb0:0<=bud)(hbm:bud<=1000000000000)
  (hid:σ[id]?=some (ee all s l bud 0 false .ar)):
  aO prog W0 156 [.ptr 143 id 0 []] σ λr σ'=>Fr [id] σ σ'/\
   ((0<bud/\bud<jP (eV all s l) (aW all s l) 0 0/\r= .int .i64 11/\ ∃v,σ'[id]?=some (ee all s l bud bud false v))\/
    ((bud=0\/jP (eV all s l) (aW all s l) 0 0<=bud)/\r= .int .i64 0/\ ∃(v:AV) (o:List FB),σ'[id]?=some (ee all s l bud (jP (eV all s l) (aW all s l) 0 0) true v)/\dp σ' v 218 (o.map fK)/\(∀j∈aQ v,σ.length<=j)/\o.Perm (BZ all s l (eX l))/\o.Pairwise λx y=>ltB y x=false)):=by
 have hidl:=(ab4.1 hid).1;have h24:=dK h0;have hcont:pB all:=Ek (by rw[ho];exact iS (eE h0).2);have htot:=R1 s l hcont (eV all s l);have h2n:2^all.length<=16777216:=acU (acE (n:=2) (by decide) h24) (by decide);refine ju [.tmp 2] [5,8,5000010,3000069,2000072,4000011,2000140,2000003] func156 rfl rfl ntmps156 rfl rfl λhs=>?_
 have hid':=hid;simp only[go_sem,simprocAttr];refine ae.at [0] (λA=>∃ os sp v3 v12,dH σ id all s l bud [] os sp v3 v12 A.st/\RN all s l bud [] os sp) ?_ λB ⟨os,sp,v3,v12,hI,hC⟩=>?_
 .refine ae.cB [0] (λk A=>∃ st os sp v3 v12,A.env 3=v3/\k=mo (eV all s l) (aW all s l) st/\dH σ id all s l bud st os sp v3 v12 A.st/\RN all s l bud st os sp) _ ⟨[(0,0,0)],[],0,_,.ar,rfl,rfl,?_⟩ λk B ⟨st,os,sp,v3,v12,h3,hk,hI,hC⟩=>?_
  .simp only[go_sem,simprocAttr];have hx0:Ext σ (σ++[some (.cells 261 [yd (0,0,0)])]):=Ext.app (.refl _) _;obtain⟨r1,r2⟩:=Ml (D:=eV all s l) (gs:=aW all s l);refine⟨⟨.inr ⟨σ.length,0,1,[yd (0,0,0)],rfl,?_,by simp,by simp⟩,.inl ⟨rfl,rfl⟩,?_,Fr.ext hx0,λj hj=>?_,λj hj=>by grind [aQ]⟩,?_,?_,by simp,?_,λb hb=>?_,λS hS=>by cases hS⟩
   .rw[acd (acy _),acC];rfl
   .grind
   .grind [aQ]
   .grind
   .omega
   .omega
   grind
  have hob:=hI.obj;unfold ee cX jd jj eB at hob;have hspt:sp<=jP (eV all s l) (aW all s l) 0 0:=by grind [RN.cnt]
  have hw:IntKind.i64.wrap ((sp:Int)+1)=((sp+1:Nat):Int):=by grind [aH]
  obtain⟨τ,hτ⟩: ∃τ,τ=B.st.set id (ee all s l bud (sp+1:Nat) false v12):=⟨_,rfl⟩;have hIτ:=hI.Z9 (sp+1);rw[<-hτ]at hIτ;unfold ee cX jd jj eB at hτ;simp only[go_sem,simprocAttr,h3,hI.todo.st.ok,hI.todo.st.un,hI.todo.st.len,hI.todo.st.fY,an hob,aB hob,hw,ab5];refine⟨λhpos=>⟨.of (by kernel_rfl),λhbs=>cY.ret ?_,λhbs=>?_⟩,λhneg=>?_⟩
  .rw[acJ,decide_eq_true_eq,beq_iff_eq]at hbs;have hrl:=wm (D:=eV all s l) (gs:=aW all s l) st;have hcnt:=hC.cnt;have hobj:=hI.obj;rw[hbs.2]at hobj;simp only[go_sem,simprocAttr];exact⟨_,.refl _,hI.fr.len,hI.fr,.inl ⟨hbs.1,by omega,rfl,v12,hobj⟩⟩
  .rw[<-hτ];clear hτ;obtain⟨st',b,rfl⟩: ∃st' b,st=st'++[b]:=by
    have hne:st≠[]:=λe=>by grind
    exact⟨st.dropLast,st.getLast hne,(List.dropLast_concat_getLast hne).symm⟩
   have hrl:=wm (D:=eV all s l) (gs:=aW all s l) (st'++[b]);have hcnt:=hC.cnt;have hstl:(st'++[b]).length=st'.length+1:=by simp
   have hwl:IntKind.i64.wrap (((st'.length+1:Nat):Int)-1)=(st'.length:Int):=by grind [aH]
   have hcut:=(hIτ.cut (n:=st'.length) (by omega)).more [none];rw[List.take_left' rfl]at hcut;obtain⟨hb1,hb2,hb3⟩:=hC.ok b (by simp);have hidx: ∃idt off zs,v3= .row 261 idt off (st'.length+1)/\τ[idt]?=some (some (.cells 261 zs))/\zs[off+st'.length]?=some (yd b):=by
    rcases hIτ.todo with⟨_,hnil⟩|⟨idt,off,m,zs,rfl,hz,hle,hx⟩
    .simp at hnil
    have hml:m=st'.length+1:=by
     grind [acK]
    subst hml;refine⟨idt,off,zs,rfl,hz,?_⟩;have h1:((st'++[b]).map yd)[st'.length]?=some (yd b):=by simp
    grind
   obtain⟨idt,off,zs,rfl,hzτ,hzi⟩:=hidx;have hobu:=hcut.obj;have hbud1:bud=0\/((sp+1:Nat):Int)<=bud:=by
    rcases hC.bud with h|h
    .omega
    grind
   unfold ee cX jd jj eB at hobu;simp only[go_sem,simprocAttr,hwl,an hzτ,aP hzτ,Int.toNat_natCast,hzi,yd,cL,an hobu,ab5];refine⟨by omega,by omega,.of (by kernel_rfl),λhleaf=>?_,λhnode=>?_⟩
   .have hbud':bud=0\/((sp+1:Nat):Int)<=bud:=hbud1;have hleaf':b.1=(aW all s l).length:=by omega
    have hhl:=H4 (W0:=W0) hW _ id all s l b.2.1 h24 hb2 hcut.obj;refine aj.reads (by simp only[go_sem,simprocAttr]) hhl ?_;simp only[go_sem,simprocAttr];have hcut':dH σ id all s l bud st' os (sp+1) (.row 261 idt off st'.length) v12 (τ++[none]):=by grind [uc]
    have hleafR:=QP (D:=eV all s l) (gs:=aW all s l) (st:=st') hleaf';refine cj.at [0,3] (by kernel_rfl) (λA=>∃ v,dH σ id all s l bud st' (if fM all b.2.1=true then os++[b.2.1]else os) (sp+1) (.row 261 idt off st'.length) v A.st) (λhh=>?_) (λhh=>?_) λB1 ⟨v,hI1⟩=>?_
    .rw[if_pos hh];have hco:=OH (W0:=W0) hW _ id all s l b.2.1 (eX l) h24 (λp hp=>by grind [dt,dP,sR.rcm]) HE hb2 hcut.obj;simp only[go_sem,simprocAttr,an hobu];refine⟨.of (by kernel_rfl),aC.st hco ?_⟩;obtain⟨c,hc⟩: ∃c,c=ki all s b.2.1 (eX l):=⟨_,rfl⟩;rw[<-hc];have hco1: ∀g,okM g (bW c)=True:=λg=>cp trivial
     have hco2:unm (bW c)=bW c:=rfl;have hco3:bb prog 29 (bW c)=true:=by kernel_rfl
     have hosl:os.length<=sp:=hC.len;simp only[go_sem,simprocAttr,hco1,hco2,hco3,hcut'.out.v.st.ok,hcut'.out.v.st.un];refine bz.yS (σ:=τ++[none]) (by simp only[go_sem,simprocAttr]) 1000000000 (by kernel_rfl) hcut'.out.v (.lit _ _ _) (by simp) (by grind) λv τ2 ha=>?_
     have hadd:=hcut'.add (by rw[hc]at ha;exact ha);have hob2:τ2[id]?=some (ee all s l bud (sp+1:Nat) false v12):=by rw[ha.fr.old id (ab4.1 hcut'.obj).1 hcut'.Xw,hcut'.obj]
     unfold ee cX jd jj eB at hob2;simp only[go_sem,simprocAttr,an hob2,aB hob2,ha.row.v.st.ok,ha.row.v.st.un,ha.row.v.st.fits];exact⟨v,hadd⟩
    .rw[if_neg (by grind)];simp only[go_sem,simprocAttr];grind
    .simp only[go_sem,simprocAttr];have hperm:=hC.perm;rw[hleafR.1]at hperm;refine .here (mo (eV all s l) (aW all s l) st') (by omega) ⟨st',_,sp+1,_,v,rfl,rfl,hI1,?_,by omega,?_,hbud',λx hx=>hC.ok x (by simp[hx]),?_⟩
     .by_cases hh:fM all b.2.1=true
      .rw[if_pos hh];rw[if_pos (show(eV all s l).hl b.2.1=true from hh)]at hperm;grind
      .rw[if_neg hh];rw[if_neg (show ¬(eV all s l).hl b.2.1=true from hh),ach]at hperm;omega
     .have:=hC.len;grind
     .intro S hS;split at hS
      .rcases ab7.1 hS with h|h
       .exact hC.oks S h
       grind
      .exact hC.oks S hS
   .have hblt:b.1<(aW all s l).length:=by
     omega
    obtain⟨g,hg⟩:=get_some hblt;have hnodeR:=Qc (D:=eV all s l) (st:=st') hg;have hatw:atV ((aW all s l).map λg=>AV.bool g.1) (b.1:Int)= .bool g.1:=aw hg;have hatn:atV ((aW all s l).map λg=>nL g.2) (b.1:Int)= .sl 3 (g.2.map λk=>.int .i64 (k:Nat)):=aw hg;have hcut':dH σ id all s l bud st' os (sp+1) (.row 261 idt off st'.length) v12 (τ++[none]):=by grind [uc]
    obtain⟨k0,hk0⟩: ∃k0:List Br,k0=if g.1=true then [(b.1+1,b.2.1,b.2.2)]else []:=⟨_,rfl⟩;have hgl:(aW all s l).length<=24:=by
     grind [Jf]
    have hwb:IntKind.i64.wrap ((b.1:Int)+1)=((b.1+1:Nat):Int):=by grind [aH]
    have hstl2:st'.length<=100000000:=by omega
    simp only[go_sem,simprocAttr,hatw];refine⟨.of (by kernel_rfl),hblt,cj.at [0,5] (by kernel_rfl) (λA=>∃ v3,A.env 3=v3/\dH σ id all s l bud (st'++k0) os (sp+1) v3 v12 A.st) (λhh=>?_) (λhh=>?_) λB1 ⟨v3,h3',hI1⟩=>?_⟩
    .rw[if_pos hh]at hk0;simp only[go_sem,simprocAttr,hwb];refine bz.yS (σ:=τ++[none]) (by simp only[go_sem,simprocAttr]) 1000000000 (by kernel_rfl) hcut'.todo (.lit _ _ _) (by simp) (by grind) λv τ2 ha=>?_
     have hpu:=hcut'.push (x:=(b.1+1,b.2.1,b.2.2)) ha;simp only[go_sem,simprocAttr];grind
    .rw[if_neg (by grind)]at hk0;simp only[go_sem,simprocAttr];grind
    .have hob1:=hI1.obj;unfold ee cX jd jj eB at hob1;have hg2: ∃n,g.2=placesOf all n:=by
      grind [aW]
     obtain⟨n,hgn⟩:=hg2;have hg24: ∀i∈g.2,i<all.length:=λi hi=>by
      grind [cb]
     have hg2l:g.2.length<=24:=by
      grind [placesOf]
     have hk0l:k0.length<=1:=by grind
     obtain⟨P,hP⟩: ∃P:Nat->Bool,P=λi=>(eV all s l).may i&& !b.2.2.testBit i:=⟨_,rfl⟩
     simp only[go_sem,simprocAttr,an hob1,hatn,ab5];refine⟨.of (by kernel_rfl),hblt,?_⟩;refine ae.ats [0,5,101,102] (λA=>∃ v3,A.env 3=v3/\dH σ id all s l bud (st'++(k0++(g.2.filter P).map (Dj (eV all s l) b))) os (sp+1) v3 v12 A.st) ?_ λB2 ⟨v3,h3',hI2⟩=>?_
     .refine ae.upto [0,5,101,102] g.2.length (λi A=>A.env 103= .int .i64 i/\ ∃v3,A.env 3=v3/\dH σ id all s l bud (st'++(k0++((g.2.take i).filter P).map (Dj (eV all s l) b))) os (sp+1) v3 v12 A.st) 0 (acb _) ?_ λi B2 hi ⟨h103,v3,h3',hI2⟩=>?_
      .simp only[go_sem,simprocAttr,h3'];grind
      have hob2:=hI2.obj;unfold ee cX jd jj eB at hob2;simp only[go_sem,simprocAttr,h103,h3'];refine⟨λhlt=>?_,λhge=>?_⟩
      .obtain⟨y,hy⟩:=get_some hlt;have hyn:=hg24 y (acj hy);obtain⟨p,hp⟩:=get_some hyn;have hatV:atV (g.2.map λk=>AV.int .i64 (k:Nat)) (i:Int)= .int .i64 (y:Nat):=aw hy;have hat:=sJ (s:=s) (l:=l) hp;have hlen:((List.range all.length).map λi=>gT all s l i ((all[i]?).getD xK)).length=all.length:=by grind
       have h232:b.2.2<4294967296:=by omega
       have hpw:2^y<4294967296:=oD (by omega);have hand:=gO b.2.2 (2^y) h232 hpw;have hor1:=jx b.2.1 (2^y) (by omega) hpw;have hcl:ia all y<4294967296:=nq λz hz=>by grind
       have hor2:=jx b.2.2 (ia all y) h232 hcl;have hz:(((b.2.2 &&& 2^y:Nat):Int)==0)= !b.2.2.testBit y:=by
        grind [DD]
       have hPy:P y=(oc l s p&& !b.2.2.testBit y):=by
        rw[hP];show(Dd all s l y&&_)=_;grind [Dd,XB]
       have hfl:(g.2.take (i+1)).filter P=(g.2.take i).filter P++if P y=true then [y]else []:=by
        rw[ai hy,List.filter_append,acL,List.filter_nil]
       have hkl:(st'++(k0++((g.2.take i).filter P).map (Dj (eV all s l) b))).length<=100000100:=by
        grind
       simp only[go_sem,simprocAttr,hatV,an hob2,hat,hlen,ab5];refine⟨hlt,hyn,.of (by kernel_rfl),aC.fnG (λ_=>sH y (by omega)) ?_⟩;simp only[go_sem,simprocAttr,hand,hz];rw[<-hPy];have hIf:=hI2.more [none];refine⟨λhh=>?_,λhh=>?_⟩
       .rw[if_pos hh]at hfl;refine⟨.of (by kernel_rfl),?_⟩;refine aC.fn (sH y (by omega)) ?_;simp only[go_sem,simprocAttr,hor1,hor2,hwb,h3',hIf.todo.st.ok,hIf.todo.st.un,cL];refine bz.yS (σ:=B2.st++[none]) (ys:=[yd (Dj (eV all s l) b y)]) (by first|rfl|simp only[go_sem,simprocAttr]) 1000000000 (by kernel_rfl) hIf.todo (.lit _ _ _) (by simp) (by grind) λv τ2 ha=>?_
        have hpu:=hIf.push (x:=Dj (eV all s l) b y) ha;simp only[go_sem,simprocAttr,h103];grind [ah,au]
       .rw[if_neg (by grind),ach]at hfl;simp only[go_sem,simprocAttr,h103,h3'];grind [ah,au]
      grind
     .simp only[go_sem,simprocAttr];have hkids:k0++(g.2.filter P).map (Dj (eV all s l) b)=kids (eV all s l) g b:=by
       grind [kids]
      rw[hkids]at hI2;have hperm:=hC.perm;rw[hnodeR.1]at hperm;refine .here (mo (eV all s l) (aW all s l) (st'++kids (eV all s l) g b)) (by omega) ⟨_,os,sp+1,v3,v12,by simp only[go_sem,simprocAttr,h3'],rfl,hI2,hperm,by omega,by have:=hC.len;omega,hbud1,λx hx=>?_,hC.oks⟩;rcases ab7.1 hx with hx|hx
      .exact hC.ok x (by simp[hx])
      .rw[<-hkids]at hx;rcases ab7.1 hx with hx|hx
       .grind
       .obtain⟨y,hy,rfl⟩:=ab9.1 hx;have hyn:=hg24 y (acD.1 hy).1;refine⟨hblt,ace hb2 (aci (by decide) hyn),ace hb3 ?_⟩;exact Ur λz hz=>by grind
  .have hst0:st=[]:=by
    cases st with
    |nil=>rfl
    |cons a r=>grind
   grind
 .have hob:=hI.obj;unfold ee cX jd jj eB at hob;have hcnt:=hC.cnt;rw[show mo (eV all s l) (aW all s l) []=0 from rfl,Nat.add_zero]at hcnt;have hperm:=hC.perm;rw[show sa (eV all s l) (aW all s l) []=[]from rfl,ach]at hperm;have hpf:(os.map λS=>(ki all s S (eX l),S)).Perm (BZ all s l (eX l)):=hperm.map _;have hfok: ∀x∈(os.map λS=>(ki all s S (eX l),S)),Rm x:=λx hx=>by
   obtain⟨S,hS,rfl⟩:=ab9.1 hx;have:=hC.oks S hS;exact⟨mc _ _ _ _ _ _,by omega⟩
  have hbud2:bud=0\/((jP (eV all s l) (aW all s l) 0 0:Nat):Int)<=bud:=by rw[<-hcnt];exact hC.bud
  rcases hI.out with⟨rfl,hnil⟩|⟨ido,rfl,hz,hne⟩
  .simp only[go_sem,simprocAttr,an hob];refine aj.fn D1 ?_;simp only[go_sem,simprocAttr,an hob,aB hob];have hos:os=[]:=by simpa using hnil
   subst hos;refine cY.ret ?_;simp only[go_sem,simprocAttr];refine⟨_,.refl _,by have:=hI.fr.len;grind,hI.fr.set (.inl (by simp)) _,.inr ⟨hbud2,rfl,.ar,[],?_,.inl ⟨rfl,rfl⟩,λj hj=>by grind [aQ],hpf,.nil⟩⟩;rw[<-hcnt,aca (ab4.1 hI.obj).1];rfl
  .obtain⟨xs,hxs⟩: ∃xs,xs=os.map λS=>(ki all s S (eX l),S):=⟨_,rfl⟩
   rw[<-hxs]at hz hne hpf hfok hob hI;have hxl:xs.length<=1000000000:=by rw[hxs,ab5];have:=hC.len;omega
   have hso:=Ip (W0:=W0) B.st ido xs hz (λe=>hne (by grind)) hxl hfok;simp only[go_sem,simprocAttr,an hob,ab5];refine aj.goes (by simp only[go_sem,simprocAttr]) hso λr σ1 ⟨ys,hy1,hy2,hσ1⟩=>?_
   subst hσ1;have hidne:id≠ido:=λe=>by
    grind
   have hob2:(B.st.set ido (some (.cells 218 (ys.map fK))))[id]?=some (ee all s l bud sp false (.row 218 ido 0 (xs.map fK).length)):=by grind [dH.obj]
   have hob2':=hob2;unfold ee cX jd jj eB at hob2;simp only[go_sem,simprocAttr,an hob2,aB hob2];refine cY.ret ?_;simp only[go_sem,simprocAttr];have hf12:=hI.f12 ido (by simp[aQ]);have hidol:ido<(B.st).length:=(ab4.1 hz).1;have hidl2:id<B.st.length:=(ab4.1 hI.obj).1;refine⟨_,.refl _,by grind,(hI.fr.set (.inr hf12) _).set (.inl (by simp)) _,.inr ⟨hbud2,rfl,.row 218 ido 0 (xs.map fK).length,ys,?_,?_,λj hj=>?_,hy1.trans hpf,hy2⟩⟩
   .rw[<-hcnt,aca (by grind)];rfl
   .refine .inr ⟨ido,0,_,ys.map fK,rfl,?_,?_,?_⟩
    .grind
    .simp[hy1.length_eq]
    grind [acf,acF]
   grind [aQ]
structure LP (all:List Pkg)(s:List aD)(l:List aM):Prop where
 h0:aR all=0
 ho:all=cQ all
 hmn: ∀p∈all,gW p
 HE:s.length<=10
 hU:Uni all s l
def BK (all:List Pkg)(s:List aD)(l:List aM):Nat:=jP (eV all s l) (aW all s l) 0 0
def fB (all:List Pkg)(s:List aD)(l:List aM):List FB:=(nD all s l (eX l)).map toB
inductive SSt |fresh|run (o:List FB)|fail
def ew (σ:ab)(id:Nat)(all:List Pkg)(s:List aD)(l:List aM)(bud:Int):SSt->Prop
 | .fresh=>σ[id]?=some (ee all s l bud 0 false .ar)
 | .run o=>dQ all s l=false/\(∃v,σ[id]?=some (ee all s l bud (BK all s l) true v)/\dp σ v 218 (o.map fK))/\ ∀x∈o,x.1.length=5/\x.2<2^all.length
 | .fail=>dQ all s l=false/\0<bud/\ ∃v,σ[id]?=some (ee all s l bud bud false v)
def gR (all:List Pkg)(s:List aD)(l:List aM)(bud:Int)(st:SSt):Option FB×Int×SSt:=
 if dQ all s l=true then(none,0,st)else match st with
  | .fail=>(none,11,.fail)
  | .fresh=>if 0<bud/\bud<BK all s l then(none,11,.fail)else((fB all s l).head?,0,.run (fB all s l).tail)
  | .run o=>(o.head?,0,.run o.tail)
def DP (all:List Pkg):Option FB->Int->AV
 |none,e=>.tup [aL [],bW [0,0,0,0,0],.bool false,.int .i64 e]
 |some x,e=>.tup [aL (atL all (bg all.length x.2)),bW x.1,.bool true,.int .i64 e]
theorem LP.abk {all:List Pkg}{s:List aD}{l:List aM}(h:LP all s l)(hnv:dQ all s l=false){o:List FB}(hp:o.Perm (BZ all s l (eX l)))(hs:o.Pairwise λx y=>ltB y x=false):o=fB all s l:=
 JH (dK h.h0) (λp hp=>dP h.h0 hp) (Ek (by rw[h.ho];exact iS (eE h.h0).2)) h.hU hnv _ hp hs
theorem SJ (σ:ab)(id:Nat)(all:List Pkg)(s:List aD)(l:List aM)(bud:Int)(v:AV)(hb:0<bud)(hid:σ[id]?=some (ee all s l bud bud false v)):
  aO prog W0 156 [.ptr 143 id 0 []] σ λr σ'=>r= .int .i64 11/\σ'=σ:=by
 have hidl:=(ab4.1 hid).1;refine aO.back (.int _ _) ?_;refine ju [.tmp 2] [5,8,5000010,3000069,2000072,4000011,2000140,2000003] func156 rfl rfl ntmps156 rfl rfl λhs=>?_
 simp only[go_sem,simprocAttr];refine ae.at [0] (λA=>False) ?_ λB hF=>hF.elim
 refine ae.cB [0] (λk A=>A.env 3= .row 261 σ.length 0 1/\Ext σ A.st) 0 ?_ λk B ⟨h3,hx⟩=>?_
 .simp only[go_sem,simprocAttr];exact Ext.app (.refl _) _
 have hob:B.st[id]?=some (ee all s l bud bud false v):=by
  have e:=congrArg (·[id]?) hx;simp_all
 unfold ee cX at hob;have hc:(decide (0<bud)&&(bud==bud))=true:=by simp[hb]
 have hd:decide (0<bud)=true:=decide_eq_true hb;simp only[go_sem,simprocAttr,h3,an hob,hd];refine⟨.of (by kernel_rfl),cY.ret ?_⟩;simp only[go_sem,simprocAttr];exact⟨_,.refl _,hx.le,.refl _,hx⟩
@[go_sem] theorem Zq {A:aa}(t u v w:ResultVar):tY A [t,u,v,w]= .tup [gE A t,gE A u,gE A v,gE A w]:=rfl
theorem Cd {n:Nat}(D:Dat): ∀{gs:List (Bool×List Nat)} (s c:Nat),(∀g∈gs,∀i∈g.2,i<n)->s<2^n-> ∀S∈pA D gs s c,S<2^n
 |[],s,c,_,h,S,hS=>by
  grind [pA]
 |g::r,s,c,hg,h,S,hS=>by
  rw[pA]at hS;rcases ab7.1 hS with hS|hS
  .split at hS
   .exact Cd D s c (λg' h'=>hg g' (by simp[h'])) h S hS
   simp_all
  .obtain⟨i,hi,hS⟩:=ack.1 hS;exact Cd D _ _ (λg' h'=>hg g' (by simp[h'])) (ace h (aci (by decide) (hg g (by simp) i (acD.1 hi).1))) S hS
theorem Lh {all:List Pkg}(s:List aD)(l:List aM)(D:Dat)(t c:Nat)(ht:t<2^all.length){S:Nat}(hS:S∈pA D (aW all s l) t c):S<2^all.length:=by
 refine Cd D t c (λg hg i hi=>?_) ht S hS;grind [aW,cb]
theorem o9 (all:List Pkg)(e:Int):df (.tup [.ar,.agg 29 [.int .i64 0,.int .i64 0,.int .i64 0,.int .i64 0,.int .i64 0],.bool false,.int .i64 e]) (DP all none e):=by
 refine .tup rfl λi x y hx hy=>?_
 match i,hx,hy with
 |0,hx,hy=>cases hx;cases hy;exact .ar _
 |1,hx,hy=>cases hx;cases hy;exact .refl _
 |2,hx,hy=>cases hx;cases hy;exact .refl _
 |3,hx,hy=>cases hx;cases hy;exact .refl _
theorem Vw (hW:rW W0)(σ:ab)(id:Nat)(all:List Pkg)(s:List aD)(l:List aM)(bud:Int)(st:SSt)(hH:LP all s l)(hb0:0<=bud)(hbm:bud<=1000000000000)(hst:ew σ id all s l bud st):
  aO prog W0 90 [.ptr 143 id 0 []] σ λr σ'=>r=DP all (gR all s l bud st).1 (gR all s l bud st).2.1/\Fr [id] σ σ'/\ew σ' id all s l bud (gR all s l bud st).2.2:=by
 obtain⟨sp,dn,v,hob,hdn,hvn⟩: ∃(sp:Int) (dn:Bool) (v:AV),σ[id]?=some (ee all s l bud sp dn v)/\(dn=true↔ ∃o,st= .run o)/\(dQ all s l=true->v= .ar):=by
  cases st with
  |fresh=>exact⟨0,false,.ar,hst,by simp,λ_=>rfl⟩
  |run o=>obtain⟨h0,⟨v,h1,_⟩,_⟩:=hst;grind
  |fail=>obtain⟨h0,_,v,h1⟩:=hst;grind
 have hidl:=(ab4.1 hob).1;have hn:=hH.hU.asks;refine ju [.tmp 2,.cell 3 29,.tmp 4,.tmp 5] [7,3000059,4000011] func90 rfl rfl ntmps90 rfl rfl λhs=>?_
 have hob1: ∀J,(σ++J)[id]?=some (ee all s l bud sp dn v):=λJ=>by grind
 have hob2:=hob1;unfold ee cX at hob2;simp only[go_sem,simprocAttr,an (hob2 _)];obtain⟨cz,hcz⟩: ∃cz:Option bJ,cz=some (.cells 29 [.agg 29 [.int .i64 0,.int .i64 0,.int .i64 0,.int .i64 0,.int .i64 0]]):=⟨_,rfl⟩;have hz0:(σ++[cz])[σ.length]?=some cz:=by simp_all
 have hfr0:Fr [id] σ (σ++[cz]):=Fr.ext (Ext.app (.refl _) _);have hrv: ∀{J:ab} {o:List FB} {w:AV},dp σ w 218 (o.map fK)->dp (σ++J) w 218 (o.map fK):=λh=>h.keep λj hj=>by grind [dp.lt]
 refine cj.at [0,3] (by kernel_rfl) (λA=>A.st[σ.length]?=some cz/\Fr [id] σ A.st/\((dQ all s l=true/\A.st=σ++[cz])\/(∃o,ew A.st id all s l bud (.run o)/\gR all s l bud st=(o.head?,0,.run o.tail)))) (λhc=>?_) (λhc=>?_) λB ⟨hz,hfr,hcase⟩=>?_
 .simp only[acJ,acz]at hc;obtain⟨hc1,hc2⟩:=hc;cases st with
  |fresh=>
   have hst0:(σ++[cz])[id]?=some (ee all s l bud 0 false .ar):=by rw[ab6 hidl];exact hst
   have hfi:=V2 (W0:=W0) hW (σ++[cz]) id all s l bud hn hH.h0 hH.ho hH.hmn hH.HE hb0 hbm hst0;simp only[go_sem,simprocAttr];refine aj.goes (by simp only[go_sem,simprocAttr];rw[hcz]) hfi λr σ1 ⟨hfr1,hr⟩=>?_
   have hfr2:Fr [id] σ σ1:=⟨by have:=hfr1.len;grind,λj hj hF=>by rw[hfr1.old j (by grind) hF,hfr0.old j hj hF]⟩;have hz1:σ1[σ.length]?=some cz:=by grind [Fr.old]
   rcases hr with⟨g1,g2,rfl,w,g3⟩|⟨g1,rfl,w,o,g3,g4,g5,g6,g7⟩
   .have hnx:gR all s l bud .fresh=(none,11,.fail):=by
     unfold gR;rw[if_neg (by simp_all)];exact if_pos ⟨g1,g2⟩
    rw[hnx];have hz1':=hz1;rw[hcz]at hz1';simp only[go_sem,simprocAttr,an hz1',aB hz1',fN hz1'];refine cY.ret ?_;simp only[go_sem,simprocAttr,an hz1',gE];exact⟨_,o9 all 11,hfr2.len,rfl,hfr2,hc2,g1,w,g3⟩
   .have hob3:=g3;have ho:=hH.abk hc2 g6 g7;simp only[go_sem,simprocAttr];refine⟨hz1,hfr2,.inr ⟨fB all s l,⟨hc2,⟨w,g3,by simp_all⟩,λx hx=>?_⟩,?_⟩⟩
    .rw[<-ho]at hx;obtain⟨S,hS,rfl⟩:=ab9.1 (g6.subset hx);exact⟨mc _ _ _ _ _ _,Lh s l _ 0 0 (acO _) hS⟩
    grind [gR,BK]
  |run o=>simp_all
  |fail=>
   obtain⟨_,q1,w,q2⟩:=hst;have hst0:(σ++[cz])[id]?=some (ee all s l bud bud false w):=by simp_all
   have hnx:gR all s l bud .fail=(none,11,.fail):=by
    grind [gR]
   rw[hnx];have hz1':=hz0;rw[hcz]at hz1';simp only[go_sem,simprocAttr];refine aj.reads (by simp only[go_sem,simprocAttr];rw[hcz]) (SJ (σ++[cz]) id all s l bud w q1 hst0) ?_;simp only[go_sem,simprocAttr,an hz1',aB hz1',fN hz1'];refine cY.ret ?_;simp only[go_sem,simprocAttr,an hz1',gE];rw[hcz]at hfr0 hst0;exact⟨_,o9 all 11,by simp,rfl,hfr0,hc2,q1,w,hst0⟩
 .have hc':dn=true\/dQ all s l=true:=by
   grind
  simp only[go_sem,simprocAttr];rw[<-hcz];refine⟨rfl,hfr0,?_⟩;by_cases hnv:dQ all s l=true
  .simp_all
  .have hd:dn=true:=by simp_all
   obtain⟨o,rfl⟩:=hdn.1 hd;obtain⟨p1,⟨w,p2,p3⟩,p4⟩:=hst;refine .inr ⟨o,⟨p1,⟨w,by simp_all,hrv p3⟩,p4⟩,?_⟩;grind [gR]
 .have hz1:=hz;rw[hcz]at hz1;rcases hcase with⟨hnv,hBst⟩|⟨o,⟨p1,⟨w,p2,p3⟩,p4⟩,hnx⟩
  .have hnx:gR all s l bud st=(none,0,st):=by simp_all[gR]
   have hvn':=hvn hnv;subst hvn';have hob3:B.st[id]?=some (ee all s l bud sp dn .ar):=by simp_all
   unfold ee cX at hob3;rw[hnx];simp only[go_sem,simprocAttr,an hob3,hnv,an hz1,aB hz1,fN hz1];refine cY.ret ?_;simp only[go_sem,simprocAttr,an hz1,gE];refine⟨_,o9 all 0,by simp_all,rfl,hfr,?_⟩;cases st with
   |fresh=>
    show B.st[id]?=_;rw[hBst,ab6 hidl];exact hst
   |run o=>exact absurd hst.1 (by simp_all)
   |fail=>exact absurd hst.1 (by simp_all)
  .have hob3:=p2;unfold ee cX at hob3;rw[hnx];simp only[go_sem,simprocAttr,an hob3,p3.st.ok,p3.st.un,p3.st.len,p3.st.fY,p1,ab5,an hz1,aB hz1,fN hz1];refine⟨λh0=>cY.ret ?_,λh0=>?_⟩
   .have ho:o=[]:=List.length_eq_zero_iff.1 (by omega);subst ho;simp only[go_sem,simprocAttr,an hz1,gE];exact⟨_,o9 all 0,hfr.len,rfl,hfr,p1,⟨w,p2,p3⟩,p4⟩
   .obtain⟨x,r,rfl⟩: ∃x r,o=x::r:=by
     cases o with
     |nil=>simp_all
     |cons x r=>simp_all
    have hcut:=p3.cut (a:=1) (b:=(x::r).length) (by simp) (by simp);rcases p3 with⟨rfl,hnil⟩|⟨ido,off,m,zs,rfl,hz2,hle,hx⟩
    .simp_all
    have hml:m=r.length+1:=by
     grind [List.length_drop]
    subst hml;have hzi:zs[off+0]?=some (fK x):=by
     have h1:((x::r).map fK)[0]?=some (fK x):=rfl;simp_all
    have hob4:(B.st++[none])[id]?=some (ee all s l bud (BK all s l) true (.row 218 ido off (r.length+1))):=by grind
    have hob5:=hob4;unfold ee cX at hob5;obtain⟨τ,hτ⟩: ∃τ,τ=(B.st++[none]).set id (ee all s l bud (BK all s l) true (.row 218 ido (off+1) r.length)):=⟨_,rfl⟩;have hlid:id<(B.st++[none]).length:=(ab4.1 hob4).1;have hobτ:τ[id]?=some (ee all s l bud (BK all s l) true (.row 218 ido (off+1) r.length)):=by simp_all
    have hne1:id≠σ.length:=by omega
    have hzτ:τ[σ.length]?=some cz:=by grind
    have hzτ':=hzτ;rw[hcz]at hzτ';obtain⟨hx5,hx2⟩:=p4 x (by simp);have hwh:=S8 (W0:=W0) hW τ id all x.2 hH.h0 hH.ho hH.hmn hx2 hobτ;have hτ':=hτ;unfold ee cX at hτ';have hco1: ∀g,okM g (bW x.1)=True:=λg=>cp trivial
    have hco2:unm (bW x.1)=bW x.1:=rfl;have hco3:bb prog 29 (bW x.1)=true:=by kernel_rfl
    simp only[go_sem,simprocAttr,an hz2,aP hz2,hzi,fK,cL,an hob5,aB hob5,acm];rw[<-hτ'];refine⟨.of (by kernel_rfl),aC.st hwh ?_⟩;simp only[go_sem,simprocAttr,hco1,hco2,hco3,an hzτ',aB hzτ'];have hl3:σ.length<τ.length:=(ab4.1 hzτ).1;have hlk:(τ.set σ.length (some (.cells 29 [bW x.1])))[σ.length]?=some (some (.cells 29 [bW x.1])):=aca hl3;have hco4: ∀σ',tB none σ' 29 (.loc 29 (bW x.1))=True:=λσ'=>eq_true rfl
    have hfrτ:Fr [id] σ τ:=by grind [Fr.set,Fr.app]
    refine cY.ret ?_;simp only[go_sem,simprocAttr,an hlk,gE];refine⟨_,.refl _,by grind,rfl,hfrτ.set (.inr (acy _)) _,p1,⟨.row 218 ido (off+1) r.length,?_,?_⟩,λy hy=>p4 y (List.mem_cons_of_mem _ hy)⟩
    .grind
    .have hidne:ido≠id:=λe=>by
      simp_all
     have hidne2:ido≠σ.length:=λe=>by
      simp_all
     have hr:dp B.st (.row 218 ido (off+1) r.length) 218 (r.map fK):=by
      grind [uc,acf]
     refine hr.keep λj hj=>?_
     simp[aQ]at hj;grind
theorem G7 (fs gs:List AV):kE prog 29 fs gs=ra [1,1,1,1,1] fs gs:=by
 have hu:prog.underlying 29=some (.array 5 3):=by kernel_rfl
 have hc:(af prog 3==1&& !prog.eqGuardType prog.depth 29)=true:=by kernel_rfl
 have hf:bw prog 29=some [3,3,3,3,3]:=by kernel_rfl
 have hk:[3,3,3,3,3].map (eqK prog)=[1,1,1,1,1]:=by kernel_rfl
 grind [kE,HK]
theorem KH {a b:List Nat}(ha:a.length=5)(hb:b.length=5):kE prog 29 (a.map λx=>.int .i64 (x:Nat)) (b.map λx=>.int .i64 (x:Nat))=some (decide (a=b)):=by
 rw[G7]
 match a,ha,b,hb with
 |[a0,a1,a2,a3,a4],_,[b0,b1,b2,b3,b4],_=>
  simp only[acT,acV,ra,vw,if_true,acA,Option.map_some,Bool.and_true,acW];grind
theorem AH (l:List Pkg)(hp: ∀p∈l,uf p):ag prog W0 30 [aL l] (.bool (jM 0 l)):=by
 refine ak [2] [4] func30 rfl rfl ntmps30 rfl rfl (.bool _) λhs σ=>?_
 have hl:=(aN (hs _ (acG ..))).1;have hls:=(aN (hs _ (acG ..))).2;simp only[go_sem,simprocAttr,aL,ab5];refine ae.upto [9,10] l.length (λi A=>A.env 11= .int .i64 i/\Ext σ A.st/\jM i (l.drop i)=jM 0 l) 0 (acb _) ?_ λi B hi ⟨h8,hst,hI⟩=>?_
 .simp only[go_sem,simprocAttr];simp[Ext.refl]
 simp only[go_sem,simprocAttr,h8,ab5];refine⟨λhc=>⟨hc,?_⟩,λhc=>?_⟩
 .obtain⟨p,hpi⟩:=get_some hc;simp only[aw hpi];have hR:=hp p (acj hpi);have r1:=hR.con;have r2:=hR.brk;have r3:=hR.eY;rw[P1]at r1 r2 r3;have hw1:IntKind.i64.wrap ((p.con.length:Int)+(p.brk.length:Int))=((p.con.length:Int)+(p.brk.length:Int)):=aH (by omega);have hw2:IntKind.i64.wrap ((p.con.length:Int)+(p.brk.length:Int)+(p.eY.length:Int))=((p.con.length:Int)+(p.brk.length:Int)+(p.eY.length:Int)):=aH (by omega);rw[acw hc,jM]at hI;have hpe:l[i]=p:=(ab4.1 hpi).2;rw[hpe]at hI;simp only[go_sem,simprocAttr,ay,aF,ct,ab5,hw1,hw2];have e3:[aA p.pre,aA p.dep,aA p.rcm]=[p.pre,p.dep,p.rcm].map aA:=rfl;refine⟨λhb=>⟨aq ?_,hst.app _⟩,λhb=>?_⟩
  .grind [r7]
  simp only[Bool.or_eq_false_iff,decide_eq_false_iff_not]at hb;have hP:r7 i p=[p.pre,p.dep,p.rcm].all xL:=by
   grind [r7]
  simp only[e3];have hds:=hls p (acj hpi);refine ae.ats [9,10,11] (λA=>Ext σ A.st/\r7 i p=true) ?_ λB2 ⟨hst,h6⟩=>?_
  .refine ae.upto [9,10,11,38] 3 (λj A=>A.env 39= .int .i64 j/\Ext σ A.st/\([p.pre,p.dep,p.rcm].drop j).all xL=[p.pre,p.dep,p.rcm].all xL) 0 (acb _) ?_ λj B2 hj ⟨h39,hst,hJ⟩=>?_
   .simp only[go_sem,simprocAttr];exact hst.app _
   simp only[go_sem,simprocAttr,h39];simp only[e3];refine⟨λhc2=>?_,λhc2=>?_⟩
   .have hc3:j<[p.pre,p.dep,p.rcm].length:=by grind
    obtain⟨d,hdj⟩:=get_some hc3;have hde:=(ab4.1 hdj).2;rw[acw hc3,hde,List.all_cons]at hJ;simp only[getD_map hdj];simp only[go_sem,simprocAttr,aA,ab5];refine⟨hc3,?_⟩;have hlD:xL d=(decide (d.length<=14)&&d.all λc=>decide (c.length<=10)):=rfl;refine⟨λhb=>⟨aq ?_,hst⟩,λhb=>?_⟩
    .grind
    rw[decide_eq_true (show d.length<=14 by omega),Bool.true_and]at hlD;refine ae.ats [9,10,11,38,39] (λA=>Ext σ A.st/\(d.all λc=>decide (c.length<=10))=true) ?_ λB3 ⟨hst,h6⟩=>?_
    .refine ae.upto [9,10,11,38,39,45,46] d.length (λk A=>A.env 47= .int .i64 k/\Ext σ A.st/\ ∀c∈d.take k,c.length<=10) 0 (acb _) ?_ λk B3 hk ⟨h47,hst,hK⟩=>?_
     .simp only[go_sem,simprocAttr];simp[hst]
     simp only[go_sem,simprocAttr,h47,ab5];refine⟨λhc4=>⟨hc4,?_⟩,λhc4=>?_⟩
     .obtain⟨c,hck⟩:=get_some hc4;simp only[aw hck];simp only[go_sem,simprocAttr,aF,ab5];refine⟨λhb=>⟨aq ?_,hst⟩,λhb=>⟨hc4,ah hc4 (by grind [au]),hst,?_⟩⟩
      .grind
      .rw[ai hck];grind
     grind
    simp only[go_sem,simprocAttr,h39];grind [ah,au]
   .have:j=3:=by omega
    simp_all
  simp only[go_sem,simprocAttr,h8];grind [ah]
 .have:i=l.length:=by omega
  subst this;rw[List.drop_length]at hI;exact⟨aq hI,hst⟩
theorem R5 (l:List aD)(hl:l.length<=733007751829):ag prog W0 15 [aJ l] (aL (l.map (·.pkg))):=by
 refine ak [2] [5] func15 rfl rfl ntmps15 rfl rfl (kq _) λhs σ=>?_
 simp only[go_sem,simprocAttr,aJ,ab5];refine ae.at [6,7] (λA=>∃ v,A.env 3=v/\aK σ A.st v 51 ((l.map (·.pkg)).map ay)) ?_ λB ⟨v,h3,hb⟩=>?_
 .refine ae.upto [6,7] l.length (λi A=>∃ v,A.env 3=v/\A.env 8= .int .i64 i/\aK σ A.st v 51 (((l.take i).map (·.pkg)).map ay)) 0 (acb _) ?_ λi B hi ⟨v,h3,h8,hb⟩=>?_
  .simp only[go_sem,simprocAttr];simp[aK.nil,Ext.refl]
  simp only[go_sem,simprocAttr,h3,h8,hb.ok,hb.un,ab5];refine⟨λhlt=>⟨hlt,?_⟩,λhlt=>?_⟩
  .obtain⟨x,hx⟩:=get_some hlt;simp only[aw hx];have hb1:=hb.more [none];simp only[go_sem,simprocAttr,bf,ay];refine bz.own 733007751829 (by kernel_rfl) hb1.bld (.lit _ _ _) (by grind) λv' σ' ha'=>?_
   have hb':=hb1.app ha';simp only[go_sem,simprocAttr,h8];refine⟨hlt,_,rfl,ah hlt (by grind [au]),?_⟩;rw[ai hx,acp,acp];exact hb'
  grind
 simp only[go_sem,simprocAttr,h3];exact⟨hb.bT,hb.ext⟩
theorem VY {n:Nat}{a:AV}(h:OfT prog (n+2) 66 a): ∃p,a=cm p:=by
 obtain⟨xs,rfl,g⟩:=og (ts:=[3,9,9]) (by kernel_rfl) h;obtain _|⟨x,_|⟨y,_|⟨z,_|_⟩⟩⟩:=xs<;>simp only[vE,and_false,and_true]at g
 obtain⟨h1,h2,h3⟩:=g;obtain⟨k,rfl,_⟩:=KQ (k:=.i64) (by kernel_rfl) h1;obtain⟨s,rfl,_⟩:=lp (by kernel_rfl) h2;obtain⟨v,rfl,_⟩:=lp (by kernel_rfl) h3;exact⟨⟨k,s,v⟩,rfl⟩
theorem Tg {n:Nat}{a:AV}(h:OfT prog (n+3) 24 a): ∃l,a=bF l:=by
 obtain⟨l,rfl,_⟩:=qQ (f:=cm) (e:=66) (by kernel_rfl) (λx=>VY) h;exact⟨l,rfl⟩
end Go.Proofs.Tryz
end
section
namespace Go.Av
open Go.Proofs.Tryz
def By (n x:List UInt8):Bool:=Op.bytesLess x n
def lQ (n:List UInt8)(o:List (List UInt8)):List (List UInt8):=if (o.dropWhile (By n)).head?=some n then o else o.takeWhile (By n)++n::o.dropWhile (By n)
def eS (l:List Pkg):List (List UInt8):=l.foldl (λo p=>lQ p.name o) []
theorem nY {l:List Pkg}{i:Nat}{p:Pkg}(h:l[i]?=some p):eS (l.take (i+1))=lQ p.name (eS (l.take i)):=by
 simp_all[eS,ai]
theorem Rl (n:List UInt8)(o:List (List UInt8)):(lQ n o).length<=o.length+1:=by
 grind [lQ,acr]
theorem Jr (l:List Pkg):(eS l).length<=l.length:=by
 have key: ∀(l:List Pkg) (o:List (List UInt8)),(l.foldl (λo p=>lQ p.name o) o).length<=o.length+l.length:=λl=>by
  induction l with
  |nil=>simp_all
  |cons p l ih=>
   grind [Rl]
 grind [eS]
theorem xb (n x:List UInt8)(o:List (List UInt8)):x∈lQ n o↔x=n\/x∈o:=by
 have h0:=acr (p:=By n) (l:=o);grind [lQ,List.mem_of_head?]
theorem vu {n:List UInt8}: ∀{o:List (List UInt8)},o.Pairwise (λx y=>Op.bytesLess x y=true)->(lQ n o).Pairwise λx y=>Op.bytesLess x y=true
 |[],_=>by simp[lQ]
 |x::r,h=>by
  obtain⟨h1,h2⟩:=acq.1 h;by_cases hx:By n x=true
  .have e:lQ n (x::r)=x::lQ n r:=by
    grind [lQ,List.dropWhile_cons_of_pos,List.takeWhile_cons_of_pos]
   rw[e];refine acq.2 ⟨λy hy=>?_,vu h2⟩;rcases(xb n y r).1 hy with rfl|hy
   .exact hx
   simp_all
  .unfold lQ;rw[List.dropWhile_cons_of_neg hx,List.takeWhile_cons_of_neg hx];grind [ke,By,eu]
theorem N6 (l:List Pkg):(eS l).length=(cC l []).length:=by
 have key: ∀(l:List Pkg) (o:List (List UInt8)),o.Pairwise (λx y=>Op.bytesLess x y=true)->(l.foldl (λo p=>lQ p.name o) o).Pairwise (λx y=>Op.bytesLess x y=true)/\ ∀x,x∈l.foldl (λo p=>lQ p.name o) o↔x∈o\/ ∃p∈l,p.name=x:=λl=>by
  induction l with
  |nil=>simp_all
  |cons p l ih=>
   grind [vu,xb]
 obtain⟨g1,g2⟩:=key l [] .nil;grind [eS,acX,eh,acF,e5,gC]
end Go.Av
end
section
namespace Go.Proofs.Tryz
open Go Go.Av
set_option maxRecDepth 10000
variable {W0 :World}
theorem zP (l:List Pkg)(hl:l.length<=1024):ag prog W0 32 [aL l] (.sl 9 ((eS l).map .str)):=by
 refine jC [2] [5,45,2000044,2000048,2000052,2000003] func32 rfl rfl ntmps32 rfl rfl (Ad _) λhs σ=>?_
 have ht:elT prog 73=some 9:=by kernel_rfl
 simp only[go_sem,simprocAttr,aL];refine ae.at [7,8] (λA=>∃ v,A.env 3=v/\dE σ A.st v 9 ((eS l).map .str)) ?_ λB ⟨v,h3,hb⟩=>?_
 .refine ae.upto [7,8] l.length (λi A=>∃ v,A.env 3=v/\A.env 9= .int .i64 i/\dE σ A.st v 9 ((eS (l.take i)).map .str)) 0 (acb _) ?_ λi B hi ⟨v,h3,h9,hb⟩=>?_
  .simp only[go_sem,simprocAttr];exact⟨_,rfl,dE.nil (.refl _) _⟩
  have hok:=hb.nA.ok;have hun:=hb.nA.un;simp only[go_sem,simprocAttr,h3,h9,ab5];refine⟨λhc=>?_,λhc=>?_⟩
  .obtain⟨p,hp⟩:=get_some hc;have ho:(eS (l.take i)).length<=1024:=by grind [Jr]
   obtain⟨o,hoo⟩: ∃o,o=eS (l.take i):=⟨_,rfl⟩;rw[<-hoo]at hb ho;have hb':=hb.more [none];have hlen:oK v= .int .i64 o.length:=by rw[hb.row.st.len,ab5]
   have hlc:=λt=>hb.row.st.fY prog t
   simp only[go_sem,simprocAttr,aw hp,ay];refine⟨hc,ae.at [3,5,7,8,9] (λA=>∃ a:Nat,A.env 6= .int .i64 a/\a<=o.length/\A.st=B.st++[none]/\(∀k x,k<a->o[k]?=some x->By p.name x=true)/\(∀x,o[a]?=some x->By p.name x=false)) ?_ λC ⟨a,h6,hle,hst,hI,hJ⟩=>?_⟩
   .refine ae.upto [3,5,7,8,9] o.length (λa A=>A.env 6= .int .i64 a/\A.st=B.st++[none]/\(∀k x,k<a->o[k]?=some x->By p.name x=true)) 0 (acb _) ?_ λa C hle ⟨h6,hst,hI⟩=>?_
    .simp only[go_sem,simprocAttr]
    by_cases hlt:a<o.length
    .obtain⟨q,hq⟩:=get_some hlt;have hok2:=hok;rcases hb'.row with⟨rfl,h0⟩|⟨id,off,m,zs,rfl,g1,g2,g3⟩
     .simp_all
     have hm:m=o.length:=by rw[<-dp.GD (σ:=B.st) (e:=9) (id:=id) g2 g3,ab5]
     have hz:zs[off+a]?=some (AV.str q):=by
      have h1:((zs.drop off).take m)[a]?=some (AV.str q):=by grind
      simp_all
     have hk0:Av.look C.st id (off+a) []=some (.str q):=by
      rw[hst];unfold Av.look;rw[g1];simp only[hz,acA];rfl
     have hlv:live C.st id:=by grind [aP]
     simp only[go_sem,simprocAttr,h3,h6,hm,hk0,hlv,hlt];refine⟨.of (by kernel_rfl),?_⟩;refine⟨λhb1=>⟨ah hlt (by grind [au]),hst,λk x hk hx=>?_⟩,λhb0=>⟨a,rfl,hle,hst,hI,λx hx=>?_⟩⟩
     .rcases Nat.lt_succ_iff_lt_or_eq.1 hk with h|rfl
      .grind
      .rw[hq]at hx;cases hx;exact hb1
     .rw[hq]at hx;cases hx;exact hb0
    .simp only[go_sem,simprocAttr,h3,h6,hok,hun,hlen,hlc,hlt,j6];refine⟨.of (by kernel_rfl),?_⟩;grind
   have hrow:dp C.st v 9 (o.map AV.str):=by grind [dE.row]
   have hle':a<=(o.map AV.str).length:=by simp_all
   have hc1:=hrow.cut (acb a) hle';have hc2:=hrow.cut hle' (acy _);rw[ab5]at hc2;have q1:=hc1.st.ok;have q2:=hc1.st.un;have q3:=hc2.st.ok;have q4:=hc2.st.un;have hdr:(o.drop a).head?=o[a]?:=by simp_all
   by_cases hlt:a<o.length
   .obtain⟨q,hq⟩:=get_some hlt;rcases hrow with⟨rfl,h0⟩|⟨id,off,m,zs,rfl,g1,g2,g3⟩
    .simp_all
    have hrow:dp C.st (.row 9 id off m) 9 (o.map AV.str):=.inr ⟨id,off,m,zs,rfl,g1,g2,g3⟩;have hm:m=o.length:=by rw[<-dp.GD (σ:=B.st) (e:=9) (id:=id) g2 g3,ab5]
    subst hm;have hz:zs[off+a]?=some (AV.str q):=by
     have h1:((zs.drop off).take o.length)[a]?=some (AV.str q):=by grind
     simp_all
    have hlk:Av.look C.st id (off+a) []=some (.str q):=by
     unfold Av.look;rw[g1];simp only[hz,acA];rfl
    have hlv:live C.st id:=by grind [aP]
    have hf:((a:Int)==(o.length:Int))=false:=by grind
    simp only[go_sem,simprocAttr,h3,h6,h9,hlk,hlv,hf,hlt,j6];refine⟨.of (by kernel_rfl),λhnq=>?_,λheq=>?_⟩
    .have hne: ¬(o.drop a).head?=some p.name:=by simp_all
     simp only[go_sem,simprocAttr,hle];refine⟨.of (by kernel_rfl),acb _,bz.BL (σ:=C.st) (by simp only[go_sem,simprocAttr]) 1048576 (by kernel_rfl) (.inl ⟨rfl,rfl⟩) hc1.st.read (by grind) λv1 σ1 ha1=>?_⟩;have q5:=ha1.row.st.ok;have q6:=ha1.row.st.un;simp only[go_sem,simprocAttr,q5,q6];refine bz.BL (σ:=σ1) (by simp only[go_sem,simprocAttr]) 1048576 (by kernel_rfl) ha1.row (.lit _ _ _) (by grind) λv2 σ2 ha2=>?_
     have q7:=ha2.row.st.ok;have q8:=ha2.row.st.un;have hk:dp σ2 (uc a o.length (.row 9 id off o.length)) 9 _:=hc2.keep λj hj=>by
      rw[oV]at hj;have hj1:=hrow.lt j hj;have hj2:j∉aQ v1:=λh=>by
       rcases ha1.aQ j h with h|h
       .grind [aQ]
       .omega
      rw[ha2.fr.old j (acv hj1 ha1.fr.len) hj2,ha1.fr.old j hj1 (by simp[aQ])]
     simp only[go_sem,simprocAttr,q7,q8];refine bz.BL (σ:=σ2) (by simp only[go_sem,simprocAttr]) 1048576 (by kernel_rfl) ha2.row hk.st.read (by grind) λv3 σ3 ha3=>?_
     have q9:=ha3.row.st.ok;have q10:=ha3.row.st.un;simp only[go_sem,simprocAttr,h9];refine⟨hc,_,rfl,ah hc (by grind [au]),?_⟩;have hx:Ext σ C.st:=by grind [dE.ext]
     have hfin:=(((dE.nil hx 9).app ha1).app ha2).app ha3;rw[nY hp,<-hoo,lQ,(gL hI hJ).1,(gL hI hJ).2,if_neg hne];grind [acf,List.map_take,List.map_drop]
    .have hqe:q=p.name:=by omega
     refine⟨hc,_,rfl,ah hc (by grind [au]),?_⟩;rw[nY hp,<-hoo,lQ,(gL hI hJ).2,if_pos (by simp_all),hst];exact hb'
   .have hal:a=o.length:=by omega
    have hlen2:oK v= .int .i64 o.length:=hlen;have hf:((a:Int)==(o.length:Int))=true:=by simp_all
    have hne: ¬(o.drop a).head?=some p.name:=by simp_all
    simp only[go_sem,simprocAttr,h3,h6,h9,hok,hun,hlen2,hlc,hf,uJ,hrow.aaW,hrow.nQ ht,hle,ab5,q1,q2];refine⟨.of (by kernel_rfl),?_⟩;refine⟨.of (by kernel_rfl),acb _,bz.BL (σ:=C.st) (by simp only[go_sem,simprocAttr]) 1048576 (by kernel_rfl) (.inl ⟨rfl,rfl⟩) hc1.st.read (by grind) λv1 σ1 ha1=>?_⟩;have q5:=ha1.row.st.ok;have q6:=ha1.row.st.un;simp only[go_sem,simprocAttr,q5,q6];refine bz.BL (σ:=σ1) (by simp only[go_sem,simprocAttr]) 1048576 (by kernel_rfl) ha1.row (.lit _ _ _) (by grind) λv2 σ2 ha2=>?_
    have q7:=ha2.row.st.ok;have q8:=ha2.row.st.un;have hk:dp σ2 (uc a o.length v) 9 _:=hc2.keep λj hj=>by
     rw[oV]at hj;have hj1:=hrow.lt j hj;have hj2:j∉aQ v1:=λh=>by
      rcases ha1.aQ j h with h|h
      .grind [aQ]
      .omega
     rw[ha2.fr.old j (acv hj1 ha1.fr.len) hj2,ha1.fr.old j hj1 (by simp[aQ])]
    simp only[go_sem,simprocAttr,q3,q4,q7,q8];refine bz.BL (σ:=σ2) (by simp only[go_sem,simprocAttr]) 1048576 (by kernel_rfl) ha2.row hk.st.read (by grind) λv3 σ3 ha3=>?_
    have q9:=ha3.row.st.ok;have q10:=ha3.row.st.un;simp only[go_sem,simprocAttr,h9];refine⟨hc,_,rfl,ah hc (by grind [au]),?_⟩;have hx:Ext σ C.st:=by grind [dE.ext]
    have hfin:=(((dE.nil hx 9).app ha1).app ha2).app ha3;rw[nY hp,<-hoo,lQ,(gL hI hJ).1,(gL hI hJ).2,if_neg hne];grind
  grind
 simp only[go_sem,simprocAttr,h3];exact fc.T0 (hb.nA) (.inl rfl) (by simp only[go_sem,simprocAttr])
end Go.Proofs.Tryz
end
section
namespace Go.Av
open Go.Proofs.Tryz
structure jU where
 ess:Bool
 pre:List Nat
 dep:List Nat
 con:List Nat
 brk:List Nat
 deriving DecidableEq
structure bE where
 name:List UInt8
 old:jU
 new:jU
 wanted:Bool
 ver:List UInt8
 same:Bool
 kC:Bool
 deriving DecidableEq
def iR (t:List Pkg)(n:List UInt8):Option Pkg:=t.find? λp=>p.name==n
def ec (s:List aD)(t:List Pkg)(n:List UInt8):Bool:=match cI s n,iR t n with
 |some x,some p=>x.px&&bn x.pkg.ver p.ver
 |_,_=>false
def aZ (s:List aD)(t:List Pkg):List (List UInt8):=eS (s.map (·.pkg)++t)
def mY (i:Nat)(w:Bool):Nat:=2^(2*i+if w=true then 1 else 0)
def lV (s:List aD)(t:List Pkg)(i:Nat)(n:List UInt8):List (Pkg×Nat):=
 (match cI s n with|some x=>[(x.pkg,mY i false)]|none=>[])++match iR t n with|some p=>[(p,mY i true)]|none=>[]
def cg (s:List aD)(t:List Pkg):List (Pkg×Nat):=fmI (lV s t) 0 (aZ s t)
def fk (l:List (Pkg×Nat))(c:Clause):Nat:=l.foldl (λo x=>if c.any (dO x.1)=true then o ||| x.2 else o) 0
def eF (l:List (Pkg×Nat))(p:Pkg):jU:=⟨p.ess,p.pre.map (fk l),p.dep.map (fk l),p.con.map λa=>fk l [a],p.brk.map λa=>fk l [a]⟩
def lx :jU:=⟨false,[],[],[],[]⟩
def rP (s:List aD)(t:List Pkg)(l:List (Pkg×Nat))(n:List UInt8):bE where
 name:=n
 old:=match cI s n with|some x=>eF l x.pkg|none=>lx
 new:=match iR t n with|some p=>eF l p|none=>lx
 wanted:=(iR t n).isSome
 ver:=match iR t n with|some p=>p.ver|none=>[]
 same:=match cI s n,iR t n with|some x,some p=>bn x.pkg.ver p.ver|_,_=>false
 kC:=!ec s t n
def fP (s:List aD)(n:List UInt8):UInt8:=match cI s n with|none=>0|some x=>if x.px=true then 2 else 1
def tH (n:bE)(c:UInt8):Bool:=if n.wanted=true then c==4||(c==2&&n.same)else c==0
def pH (ns:List bE)(k:List UInt8):Bool:=(ns.zip k).all λx=>tH x.1 x.2
def K7 (kind n:Nat)(pre:Bool)(i o:Nat):Nat:=(((kind*256+n)*2+if pre=true then 1 else 0)*16+i)*256+o
def gD (k:List UInt8):Nat:=(fmI (λi c=>if c=0 then []else [mY i (decide (3<=c.toNat))]) 0 k).foldl (· ||| ·) 0
def onK (k:List UInt8):Nat:=(fmI (λi c=>if c=2\/c=4 then [mY i (decide (3<=c.toNat))]else []) 0 k).foldl (· ||| ·) 0
def fZ (n:Nat)(pre:Bool)(on i m:Nat):List Nat:=if m &&& on=0 then [K7 1 n pre i 0]else []
def nS (kind n:Nat)(there i m k:Nat):List Nat:=if k≠n/\m &&& there &&& (mY k false ||| mY k true)≠0 then [K7 kind n false i k]else []
def cG (kind n len there i m:Nat):List Nat:=(List.range len).flatMap (nS kind n there i m)
def iV (ns:List bE)(k:List UInt8)(i:Nat)(c:UInt8):List Nat:=
 if c=0 then []else match ns[i]? with
  |none=>[]
  |some n=>
   let f:=if 3<=c.toNat then n.new else n.old
   fmI (fZ i true (onK k)) 0 f.pre++(if c=2\/c=4 then fmI (fZ i false (onK k)) 0 f.dep else [])++fmI (cG 2 i ns.length (gD k)) 0 f.con++fmI (cG 3 i ns.length (onK k)) 0 f.brk
def fQ (ns:List bE)(k:List UInt8):List Nat:=fmI (iV ns k) 0 k
def fx (n:bE)(kind:Nat)(c:UInt8):Option UInt8:=
 if kind=1 then(if c=2\/c=4 then some (c-1)else none)
 else if kind=4 then(if c=1\/c=3 then some (c+1)else none)
 else if kind=2 then(if c≠0/\(if 3<=c.toNat then n.new else n.old).ess=false then some 0 else none)
 else if n.wanted=true/\(c=0\/((c=1\/c=2)/\n.same=false))then some 3 else none
def iZ (k:List UInt8):Nat:=(k.filter (· !=0)).length
def nE (ns:List bE)(k:List UInt8)(kind i:Nat)(n:bE):List (bH×List UInt8):=match k[i]? with
 |none=>[]
 |some c=>match fx n kind c with
  |none=>[]
  |some d=>
   if n.kC=true/\iZ (k.set i d)<=10/\(fQ ns (k.set i d)).all (λv=>(fQ ns k).contains v)=true then [(⟨kind,n.name,if kind=3 then n.ver else []⟩,k.set i d)]else []
def kH (ns:List bE)(k:List UInt8):List (bH×List UInt8):=[1,2,3,4].flatMap λkind=>fmI (nE ns k kind) 0 ns
def kK (s:List aD)(t:List Pkg):List bE:=(aZ s t).map (rP s t (cg s t))
def ff (s:List aD)(t:List Pkg):List (List UInt8):=(aZ s t).filter λn=>!ec s t n
def jV (s:List aD)(t:List Pkg):List bH×Int:=
 if bK s≠0 then([],bK s)else if aR t≠0 then([],aR t)else if ¬(t.map (·.name)).Nodup then([],1)
 else if 6<(ff s t).length then([],12)
 else match Cb id (kH (kK s t)) (pH (kK s t)) 20000 [((aZ s t).map (fP s),[])] 0 with
  |some (some p)=>(p,0)
  |_=>([],8)
end Go.Av
end
section
namespace Go.Av
open Go.Proofs Go.Proofs.Tryz
def uj (x y:List UInt8):Prop:=Op.bytesLess x y=true
theorem Ys (x y:List UInt8):decide (x<=y)= !Op.bytesLess y x:=by
 rw[Go.Proofs.bytesLess_eq,acP];simp[List.not_lt]
theorem I4 {x y z:List UInt8}(h1:Op.bytesLess y x=false)(h2:Op.bytesLess z y=false):Op.bytesLess z x=false:=by
 grind [ke,eu,eh]
theorem zS (l:List (List UInt8)):(l.mergeSort λx y=>decide (x<=y)).Pairwise λx y=>Op.bytesLess y x=false:=by
 refine(acB (λx y z h1 h2=>?_) (λx y=>?_) l).imp λ{x y} h=>?_
 .simp only[Ys,acz]at *;exact I4 h1 h2
 .simp only[Ys,acQ,acz];grind [ke,eu,eh]
 .simpa[Ys]using h
theorem C5 : ∀{l m:List (List UInt8)},l.Pairwise uj->m.Pairwise uj->(∀x,x∈l↔x∈m)->l=m
 |[],[],_,_,_=>rfl
 |[],y::m,_,_,h=>absurd ((h y).2 (by simp)) (by simp)
 |x::l,[],_,_,h=>absurd ((h x).1 (by simp)) (by simp)
 |x::l,y::m,h1,h2,h=>by
  obtain⟨a1,a2⟩:=acq.1 h1;obtain⟨b1,b2⟩:=acq.1 h2;unfold uj at a1 b1;have e:x=y:=by
   refine acS λhne=>?_
   have g1:=(h x).1 (by simp);have g2:=(h y).2 (by simp);grind [eu,eh]
  subst e;rw[C5 a2 b2 λz=>?_];have:=h z;grind [eh]
theorem SM {o m:List (List UInt8)}(ho:o.Nodup)(hm:m.Pairwise uj)(h: ∀x,x∈o↔x∈m):(o.mergeSort λx y=>decide (x<=y))=m:=by
 have hp:=aco o λx y=>decide (x<=y)
 refine C5 ?_ hm λx=>(hp.mem_iff).trans (h x)
 have h1:=zS o;have h2:(o.mergeSort λx y=>decide (x<=y)).Nodup:=(hp.nodup_iff).2 ho;refine(h1.and h2).imp λ{x y} ⟨g1,g2⟩=>?_
 exact ke (λe=>g2 e.symm) g1
def gf (q:List UInt8->Bool)(o:List (List UInt8))(n:List UInt8):List (List UInt8):=if (q n&& !o.any λx=>n==x)=true then o++[n]else o
theorem PR (q:List UInt8->Bool)(l:List (List UInt8)): ∀(o:List (List UInt8)) (x:List UInt8),x∈l.foldl (gf q) o↔x∈o\/(x∈l/\q x=true):=by
 induction l with
 |nil=>simp
 |cons n r ih=>
  intro o x;rw[acs,ih];unfold gf;grind
theorem Ho (q:List UInt8->Bool)(l:List (List UInt8)): ∀(o:List (List UInt8)),o.Nodup->(l.foldl (gf q) o).Nodup:=by
 induction l with
 |nil=>simp
 |cons n r ih=>
  intro o ho;rw[acs];refine ih _ ?_;unfold gf;grind [acH]
theorem xC (q:List UInt8->Bool)(l:List (List UInt8)): ∀(o:List (List UInt8)),(l.foldl (gf q) o).length<=o.length+l.length:=by
 induction l with
 |nil=>simp
 |cons n r ih=>
  intro o;rw[acs];have:=ih (gf q o n);unfold gf at *;grind
theorem tI {zs:List (List UInt8)}(hz:zs.Pairwise λx y=>Op.bytesLess y x=false): ∀m,m<=zs.length->(Lib.compactUpTo zs.toArray m).Pairwise uj/\ ∀x,x∈Lib.compactUpTo zs.toArray m↔x∈zs.take m
 |0,_=>by simp[Lib.compactUpTo]
 |m+1,hm=>by
  obtain⟨i1,i2⟩:=tI hz m (by omega);have hg:zs[m]?=some zs[m]:=List.getElem?_eq_getElem (by omega);have hgm:zs.toArray[m]! =zs[m]:=by simp[getElem!_pos,show m<zs.length by omega]
  rw[Lib.compactUpTo_succ,ai hg,hgm];by_cases h0:m=0
  .subst h0
   have:Lib.keeps zs.toArray 0=true:=by simp[Lib.keeps]
   simp[this,Lib.compactUpTo]
  have hgp:zs.toArray[m-1]! =zs[m-1]:=by simp[getElem!_pos,show m-1<zs.length by omega]
  have hle: ∀x∈zs.take m,Op.bytesLess zs[m] x=false:=λx hx=>by
   obtain⟨j,hj,rfl⟩:=acn.1 hx;exact acx.1 hz j m (by omega) (by omega) (by omega)
  have hle2: ∀x∈zs.take m,x=zs[m-1]\/Op.bytesLess zs[m-1] x=false:=λx hx=>by
   obtain⟨j,hj,rfl⟩:=acn.1 hx;by_cases e:j=m-1
   .subst e;exact .inl rfl
   .exact .inr (acx.1 hz j (m-1) (by omega) (by omega) (by omega))
  have hpm:zs[m-1]∈zs.take m:=acn.2 ⟨m-1,by omega,rfl⟩;by_cases hk:zs[m]=zs[m-1]
  .have:Lib.keeps zs.toArray m=false:=Lib.keeps_neg (by omega) (by rw[hgm,hgp];exact hk);rw[this];simp only[Bool.false_eq_true,if_false,ach];refine⟨i1,λx=>?_⟩;rw[i2];grind
  .have:Lib.keeps zs.toArray m=true:=Lib.keeps_pos (by rw[hgm,hgp];exact hk);rw[this];simp only[if_true];refine⟨List.pairwise_append.2 ⟨i1,by simp,λx hx y hy=>?_⟩,λx=>?_⟩
   .rw[ab8.1 hy];have h1:=(i2 x).1 hx;have h2:=hle2 x h1;have h3:=hle _ h1;have h4:=hle _ hpm;unfold uj;grind [ke,eu,eh]
   .rw[ab7,ab7,i2]
theorem FX {l m:List (List UInt8)}(hm:m.Pairwise uj)(h: ∀x,x∈l↔x∈m):Lib.compact (l.mergeSort λx y=>decide (x<=y))=m:=by
 obtain⟨h1,h2⟩:=tI (zS l) _ (acy _);refine C5 h1 hm λx=>?_
 have h3:=h2 x;rw[acM]at h3;exact h3.trans ((aco l _).mem_iff.trans (h x))
theorem qc (l:List Pkg):(eS l).Pairwise uj:=by
 have key: ∀(l:List Pkg) (o:List (List UInt8)),o.Pairwise uj->(l.foldl (λo p=>lQ p.name o) o).Pairwise uj:=λl=>by
  induction l with
  |nil=>exact λo h=>h
  |cons p l ih=>exact λo h=>ih _ (vu h)
 exact key l [] .nil
theorem Jl (l:List Pkg)(x:List UInt8):x∈eS l↔ ∃p∈l,p.name=x:=by
 have key: ∀(l:List Pkg) (o:List (List UInt8)),x∈l.foldl (λo p=>lQ p.name o) o↔x∈o\/ ∃p∈l,p.name=x:=λl=>by
  induction l with
  |nil=>simp
  |cons p l ih=>
   intro o;rw[acs,ih,xb];grind
 rw[eS,key];simp
def lL (s:List aD)(t:List Pkg):List (List UInt8):=s.map (·.pkg.name)++t.map (·.name)
theorem vI (s:List aD)(t:List Pkg)(x:List UInt8):x∈lL s t↔x∈aZ s t:=by
 unfold lL aZ;rw[Jl];grind
theorem Jg (s:List aD)(t:List Pkg)(b:Bool):(((lL s t).foldl (gf λn=>ec s t n==b) []).mergeSort λx y=>decide (x<=y))=(aZ s t).filter λn=>ec s t n==b:=by
 refine SM (Ho _ _ _ .nil) ((qc _).filter _) λx=>?_
 rw[PR,acD,vI];simp
theorem xX (s:List aD)(t:List Pkg):Lib.compact ((lL s t).mergeSort λx y=>decide (x<=y))=aZ s t:=FX (qc _) (vI s t)
end Go.Av
end
section
namespace Go.Av
open Go.Proofs.Tryz
def eD :List bE->List UInt8->List (List UInt8)
 |n::ns,c::k=>(if n.kC=true then [0,1,2,3,4]else [c]).flatMap λd=>(eD ns k).map (d:: ·)
 |_,k=>[k]
theorem Gu : ∀(ns:List bE) (k:List UInt8),(eD ns k).length<=5^(ns.filter (·.kC)).length
 |[],k=>by simp[eD]
 |n::ns,[]=>by
  simp only[eD,acm,acu];exact Nat.pow_pos (by decide)
 |n::ns,c::k=>by
  have ih:=Gu ns k;rw[eD,acL];cases h:n.kC
  .simpa using ih
  .simp only[if_pos,acI,List.flatMap_nil,acg,ab5,acu,acm,Nat.pow_succ];omega
theorem zA : ∀(ns:List bE) (k:List UInt8),(∀c∈k,c.toNat<=4)->k∈eD ns k
 |[],k,_=>by simp[eD]
 |n::ns,[],_=>by simp[eD]
 |n::ns,c::k,h=>by
  have ih:=zA ns k λd hd=>h d (by simp[hd])
  rw[eD,ack];refine⟨c,?_,ab9.2 ⟨k,ih,rfl⟩⟩;split
  .have:=h c (by simp);have e: ∀m:UInt8,m.toNat=c.toNat->c=m:=λm hm=>UInt8.toNat_inj.1 hm.symm
   have:c.toNat=0\/c.toNat=1\/c.toNat=2\/c.toNat=3\/c.toNat=4:=by omega
   rcases this with h|h|h|h|h
   .rw[e 0 (by simp[h])];simp
   .rw[e 1 (by simp[h])];simp
   .rw[e 2 (by simp[h])];simp
   .rw[e 3 (by simp[h])];simp
   .rw[e 4 (by simp[h])];simp
  .simp
theorem xA {d:UInt8}(hd:d∈([0,1,2,3,4]:List UInt8)): ∀{ns:List bE} {k k':List UInt8} {i:Nat} {n:bE},k'∈eD ns k->ns[i]?=some n->n.kC=true->i<k.length->k'.set i d∈eD ns k
 |n::ns,[],_,i,m,_,_,_,h=>by cases h
 |n::ns,c::k,k',i,m,hk,hn,hm,hi=>by
  rw[eD,ack]at hk ⊢;obtain⟨x,hx,hk⟩:=hk;obtain⟨r,hr,rfl⟩:=ab9.1 hk;cases i with
  |zero=>
   cases hn;rw[if_pos hm]at hx ⊢;exact⟨d,hd,ab9.2 ⟨r,hr,rfl⟩⟩
  |succ i=>exact⟨x,hx,ab9.2 ⟨r.set i d,xA hd hr hn hm (by simpa using hi),rfl⟩⟩
theorem mh : ∀{ns:List bE} {k k':List UInt8},k'∈eD ns k->k'.length=k.length
 |[],k,k',h=>by simp[eD]at h;rw[h]
 |n::ns,[],k',h=>by simp[eD]at h;rw[h]
 |n::ns,c::k,k',h=>by
  rw[eD,ack]at h;obtain⟨x,_,h⟩:=h;obtain⟨r,hr,rfl⟩:=ab9.1 h;simp[mh hr]
theorem wZ {n:bE}{kind:Nat}{c d:UInt8}(h:fx n kind c=some d):d∈([0,1,2,3,4]:List UInt8):=by
 unfold fx at h;have key: ∀(p:Prop) [Decidable p] (x:UInt8),(if p then some x else none)=some d->p/\x=d:=λp _ x h=>by
  split at h
  .exact⟨by assumption,by simpa using h⟩
  .cases h
 by_cases h1:kind=1
 .rw[if_pos h1]at h;obtain⟨g,rfl⟩:=key _ _ h;rcases g with rfl|rfl<;>decide
 rw[if_neg h1]at h;by_cases h4:kind=4
 .rw[if_pos h4]at h;obtain⟨g,rfl⟩:=key _ _ h;rcases g with rfl|rfl<;>decide
 rw[if_neg h4]at h;by_cases h2:kind=2
 .rw[if_pos h2]at h;obtain⟨_,rfl⟩:=key _ _ h;decide
 .rw[if_neg h2]at h;obtain⟨_,rfl⟩:=key _ _ h;decide
def Km (ns:List bE)(k0:List UInt8)(l:List (List UInt8×List bH)):Prop:=(l.map (·.1)).Nodup/\ ∀x∈l,x.1∈eD ns k0
theorem Iy {ns:List bE}{k0 k:List UInt8}(hl:k0.length=ns.length)(h4: ∀c∈k0,c.toNat<=4)(hk:k∈eD ns k0): ∀x∈kH ns k,x.2∈eD ns k0:=λx hx=>by
 have key: ∀(kind b:Nat) (l:List bE),(∀j n,l[j]?=some n->ns[b+j]?=some n)->x∈fmI (nE ns k kind) b l->x.2∈eD ns k0:=λkind b l=>by
  induction l generalizing b with
  |nil=>intro _ h;cases h
  |cons n l ih=>
   intro hb h;rw[fmI]at h;rcases ab7.1 h with h|h
   .have hn:ns[b]?=some n:=hb 0 n rfl;have hbl:=(ab4.1 hn).1;unfold nE at h;split at h
    .cases h
    rename_i c hc;split at h
    .cases h
    rename_i d hd;split at h
    .rename_i hm;cases ab8.1 h;exact xA (wZ hd) hk hn hm.1 (by omega)
    .cases h
   .exact ih (b+1) (λj m hj=>by have:=hb (j+1) m hj;rwa [show b+(j+1)=b+1+j by omega]at this) h
 obtain⟨kind,_,hx⟩:=ack.1 hx;exact key kind 0 ns (λj n hj=>by rwa [Nat.zero_add]) hx
theorem zV {ns:List bE}{k0:List UInt8}(p:List bH): ∀{m:List (bH×List UInt8)} {l:List (List UInt8×List bH)},(∀x∈m,x.2∈eD ns k0)->Km ns k0 l->Km ns k0 (kj id p m l)
 |[],l,_,h=>h
 |x::m,l,hm,h=>by
  rw[kj];refine zV p (λy hy=>hm y (by simp[hy])) ?_;split
  .exact h
  .rename_i hx;refine⟨?_,λy hy=>?_⟩
   .rw[acp,acH];refine⟨h.1,by simp,λa ha b hb e=>?_⟩;rw[acT,acV,ab8]at hb;subst e hb;exact hx ha
   .rcases ab7.1 hy with hy|hy
    .exact h.2 y hy
    .rw[ab8.1 hy];exact hm x (by simp)
theorem w9 {ns:List bE}{k0:List UInt8}{l:List (List UInt8×List bH)}(h:Km ns k0 l):l.length<=5^(ns.filter (·.kC)).length:=by
 have h1:=gJ (l.map (·.1)) (eD ns k0) h.1 λx hx=>by
  obtain⟨y,hy,rfl⟩:=ab9.1 hx;exact h.2 y hy
 rw[ab5]at h1;exact acU h1 (Gu ns k0)
end Go.Av
end
section
namespace Go.Av
open Go.Proofs Go.Proofs.Tryz
theorem F2 (l:List Nat)(a:Nat):(l++[a]).foldl (· ||| ·) 0=l.foldl (· ||| ·) 0 ||| a:=by simp
theorem Jp {e:Nat}: ∀{l:List Nat} {o:Nat},(∀x∈l,x<2^e)->o<2^e->l.foldl (· ||| ·) o<2^e
 |[],_,_,h=>h
 |x::r,o,h,ho=>Jp (l:=r) (λy hy=>h y (by simp[hy])) (ace ho (h x (by simp)))
theorem mw {i:Nat}{w:Bool}(hi:i<=20):mY i w<2^60:=aci (by decide) (by split<;>omega)
theorem uu {α β:Type}{f:Nat->α->List β}{y:β}: ∀{l:List α} {b:Nat},y∈fmI f b l-> ∃i a,l[i]?=some a/\y∈f (b+i) a
 |[],b,h=>by cases h
 |a::r,b,h=>by
  rw[fmI]at h;rcases ab7.1 h with h|h
  .exact⟨0,a,rfl,h⟩
  .obtain⟨i,c,h1,h2⟩:=uu h;exact⟨i+1,c,by simpa using h1,by rw[show b+(i+1)=b+1+i by omega];exact h2⟩
theorem FR {k:List UInt8}{i:Nat}{c:UInt8}(h:k[i]?=some c):gD (k.take (i+1))=if c=0 then gD (k.take i)else gD (k.take i) ||| mY i (decide (3<=c.toNat)):=by
 unfold gD;rw[fb h];by_cases hc:c=0
 .rw[if_pos hc,if_pos hc,ach]
 .rw[if_neg hc,if_neg hc,F2]
theorem Ro {k:List UInt8}{i:Nat}{c:UInt8}(h:k[i]?=some c):onK (k.take (i+1))=if c=2\/c=4 then onK (k.take i) ||| mY i (decide (3<=c.toNat))else onK (k.take i):=by
 unfold onK;rw[fb h];by_cases hc:c=2\/c=4
 .rw[if_pos hc,if_pos hc,F2]
 .rw[if_neg hc,if_neg hc,ach]
theorem Ak {k:List UInt8}(hk:k.length<=20):gD k<2^60:=by
 refine Jp (λx hx=>?_) (by decide);obtain⟨i,a,h1,h2⟩:=uu hx;have:=(ab4.1 h1).1;split at h2
 .cases h2
 .rw[ab8.1 h2];exact mw (by omega)
theorem RS {k:List UInt8}(hk:k.length<=20):onK k<2^60:=by
 refine Jp (λx hx=>?_) (by decide);obtain⟨i,a,h1,h2⟩:=uu hx;have:=(ab4.1 h1).1;split at h2
 .rw[ab8.1 h2];exact mw (by omega)
 .cases h2
structure zt (f:jU):Prop where
 pre:f.pre.length<=12
 dep:f.dep.length<=12
 con:f.con.length<=12
 brk:f.brk.length<=12
 abC: ∀m∈f.pre,m<2^60
 abo: ∀m∈f.dep,m<2^60
 abn: ∀m∈f.con,m<2^60
 abS: ∀m∈f.brk,m<2^60
structure zC (n:bE):Prop where
 old:zt n.old
 new:zt n.new
theorem l9 {n:Nat}{pre:Bool}{on:Nat}{l:List Nat}:(fmI (fZ n pre on) 0 l).length<=l.length:=by
 have:=j3 (f:=fZ n pre on) (N:=1) (λi a=>by unfold fZ;split<;>simp) (l:=l) (b:=0);omega
theorem qM {kind n len there i m:Nat}:(cG kind n len there i m).length<=len:=by
 unfold cG;have h: ∀l:List Nat,(l.flatMap (nS kind n there i m)).length<=l.length:=λl=>by
  induction l with
  |nil=>simp
  |cons a r ih=>
   rw[acI,acg,acm]
   have:(nS kind n there i m a).length<=1:=by unfold nS;split<;>simp
   omega
 simpa using h (List.range len)
theorem nt {kind n len there:Nat}{l:List Nat}:(fmI (cG kind n len there) 0 l).length<=l.length*len:=j3 (λ_ _=>qM)
theorem JK {ns:List bE}{k:List UInt8}{i:Nat}{c:UInt8}(hb: ∀n∈ns,zC n)(hn:ns.length<=20):(iV ns k i c).length<=504:=by
 unfold iV;split
 .simp
 .split
  .simp
  .rename_i n hni;have hB:=hb n (acj hni);have key: ∀f,zt f->(fmI (fZ i true (onK k)) 0 f.pre++(if c=2\/c=4 then fmI (fZ i false (onK k)) 0 f.dep else [])++fmI (cG 2 i ns.length (gD k)) 0 f.con++fmI (cG 3 i ns.length (onK k)) 0 f.brk).length<=504:=λf hf=>by
    have h1:=l9 (n:=i) (pre:=true) (on:=onK k) (l:=f.pre);have h2:=l9 (n:=i) (pre:=false) (on:=onK k) (l:=f.dep);have h3:=nt (kind:=2) (n:=i) (len:=ns.length) (there:=gD k) (l:=f.con);have h4:=nt (kind:=3) (n:=i) (len:=ns.length) (there:=onK k) (l:=f.brk);have h5:f.con.length*ns.length<=12*20:=acR hf.con hn;have h6:f.brk.length*ns.length<=12*20:=acR hf.brk hn;have:=hf.pre;have:=hf.dep;simp only[acg];split
    .omega
    .simp only[acu];omega
   refine key _ ?_;split
   .exact hB.new
   .exact hB.old
theorem p9 {ns:List bE}{k:List UInt8}{i:Nat}(hb: ∀n∈ns,zC n)(hn:ns.length<=20)(hk:k.length<=20):(fmI (iV ns k) 0 (k.take i)).length<=10080:=by
 have h1:=j3 (f:=iV ns k) (N:=504) (λi c=>JK hb hn) (l:=k.take i) (b:=0);have h2:(k.take i).length<=20:=by rw[acK];omega
 omega
def gh (ns:List bE)(k:List UInt8):List Int:=((fQ ns k).map λn:Nat=>(n:Int)).mergeSort λx y=>decide (x<=y)
theorem Ie (ns:List bE)(k:List UInt8):(gh ns k).Pairwise (· <= ·):=
 (acB (λx y z h1 h2=>by simp only[decide_eq_true_eq]at *;omega) (λx y=>by simp only[acQ,decide_eq_true_eq];omega) _).imp λ{x y} h=>of_decide_eq_true h
theorem JP (ns:List bE)(k:List UInt8)(x:Int):x∈gh ns k↔ ∃n∈fQ ns k,(n:Int)=x:=by
 unfold gh;rw[(aco _ _).mem_iff,ab9]
theorem Hd {ns:List bE}{k:List UInt8}(hb: ∀n∈ns,zC n)(hn:ns.length<=20)(hk:k.length<=20):(gh ns k).length<=10080:=by
 unfold gh;rw[(aco _ _).length_eq,ab5];have:=p9 (k:=k) (i:=k.length) hb hn hk;rw[acM]at this;exact this
def Bd (a b:List Int):Bool:=a.all λn=>b.contains n
theorem IJ (ns:List bE)(k k':List UInt8):Bd (gh ns k) (gh ns k')=(fQ ns k).all λv=>(fQ ns k').contains v:=by
 unfold Bd;rw[acP,acN,acN];simp only[List.contains_iff_mem,JP];constructor
 .intro h v hv;obtain⟨n,hn,e⟩:=h v ⟨v,hv,rfl⟩;rw[<-show n=v by omega];exact hn
 .rintro h x ⟨n,hn,rfl⟩;exact⟨n,h n hn,rfl⟩
theorem Fq {K S C:Type} [DecidableEq C] {κ:K->C}(p:List S): ∀(l m:List (S×K)) (ns:List (K×List S)),kj κ p (l++m) ns=kj κ p m (kj κ p l ns)
 |[],_,_=>rfl
 |x::r,m,ns=>by rw[List.cons_append,kj,kj,Fq p r m]
def dN (ns:List bE)(k:List UInt8)(j i:Nat):List (bH×List UInt8):=(([1,2,3,4]:List Nat).take j).flatMap (λkind=>fmI (nE ns k kind) 0 ns)++fmI (nE ns k (j+1)) 0 (ns.take i)
theorem FI (ns:List bE)(k:List UInt8):dN ns k 0 0=[]:=by simp[dN,fmI]
theorem Dr {ns:List bE}{k:List UInt8}{j i:Nat}{n:bE}(h:ns[i]?=some n):dN ns k j (i+1)=dN ns k j i++nE ns k (j+1) i n:=by
 unfold dN;rw[fb h,List.append_assoc]
theorem ER {ns:List bE}{k:List UInt8}{j i:Nat}(hi:ns.length<=i)(hj:j<4):dN ns k (j+1) 0=dN ns k j i:=by
 unfold dN;rw[acf hi]
 have:j=0\/j=1\/j=2\/j=3:=by omega
 rcases this with rfl|rfl|rfl|rfl<;>simp[fmI]
theorem Hl (ns:List bE)(k:List UInt8):dN ns k 4 0=kH ns k:=by simp[dN,kH,fmI]
structure yn (q:List (List UInt8×List bH))(fr:List Int)(by_:List bH):Prop where
 l1:fr.length=q.length
 l2:by_.length=q.length
 on: ∀(i:Nat) (k:List UInt8) (p:List bH),q[i]?=some (k,p)->(i=0/\p=[])\/ ∃(j:Nat) (k':List UInt8) (p':List bH) (st:bH),j<i/\fr[i]?=some (j:Int)/\by_[i]?=some st/\q[j]?=some (k',p')/\p=p'++[st]
theorem yn.snoc {q:List (List UInt8×List bH)}{fr:List Int}{by_:List bH}(h:yn q fr by_){at_:Nat}{k:List UInt8}{p:List bH}(ha:q[at_]?=some (k,p))(key:List UInt8)(st:bH):
  yn (q++[(key,p++[st])]) (fr++[(at_:Int)]) (by_++[st]):=by
 have hl1:=h.l1;have hl2:=h.l2;have hal:=(ab4.1 ha).1;refine⟨by simp[hl1],by simp[hl2],λi k1 p1 hi=>?_⟩;by_cases hq:i<q.length
 .rw[ab6 hq]at hi;rcases h.on i k1 p1 hi with h1|⟨j,k',p',s,g1,g2,g3,g4,g5⟩
  .exact .inl h1
  .exact .inr ⟨j,k',p',s,g1,by rw[ab6 (by omega)];exact g2,by rw[ab6 (by omega)];exact g3,by rw[ab6 (by omega)];exact g4,g5⟩
 .have hil:=(ab4.1 hi).1;simp only[acg,acm,acu]at hil;have e:i=q.length:=by omega
  subst e;rw[acd (acy _),acC]at hi;cases hi;refine .inr ⟨at_,k,p,st,hal,?_,?_,?_,rfl⟩
  .rw[acd (by omega),hl1,acC];rfl
  .rw[acd (by omega),hl2,acC];rfl
  .rw[ab6 hal];exact ha
theorem yn.one (k:List UInt8)(st:bH):yn [(k,[])] [-1] [st]:=⟨rfl,rfl,λi k1 p1 hi=>by
 match i,hi with
 |0,hi=>cases hi;exact .inl ⟨rfl,rfl⟩⟩
theorem LY {K S C:Type} [DecidableEq C] {κ:K->C}{succ:K->List (S×K)}{goal:K->Bool}{q:List (K×List S)}{at_ N:Nat}{k:K}{p:List S}(h:q[at_]?=some (k,p))(hN:at_<N):
  Cb κ succ goal (N-at_) q at_=if goal k=true then some (some p)else Cb κ succ goal (N-(at_+1)) (kj κ p (succ k) q) (at_+1):=by
 rw[show N-at_=(N-(at_+1))+1 by omega,Cb,h]
theorem Rx {K S C:Type} [DecidableEq C] {κ:K->C}{succ:K->List (S×K)}{goal:K->Bool}{q:List (K×List S)}{at_ N:Nat}(h:q.length<=at_)(hN:at_<N):Cb κ succ goal (N-at_) q at_=some none:=by
 rw[show N-at_=(N-(at_+1))+1 by omega,Cb,List.getElem?_eq_none h]
theorem Mi {l:List (List UInt8)}(h:l.Pairwise uj):l.Nodup:=h.imp λ{x y} h e=>by
 subst e;unfold uj at h;rw[eh]at h;cases h
theorem vf {s:List aD}{t:List Pkg}(hs:s.length<=10)(ht:t.length<=10):(aZ s t).length<=20:=by
 have:=gJ (aZ s t) (lL s t) (Mi (qc _)) λx hx=>(vI s t x).2 hx
 unfold lL at this;simp only[acg,ab5]at this;omega
theorem Af {s:List aD}{t:List Pkg}(hn:(aZ s t).length<=20): ∀x∈cg s t,x.2<2^60:=λx hx=>by
 obtain⟨i,n,h1,h2⟩:=uu hx;have:=(ab4.1 h1).1;unfold lV at h2;rcases ab7.1 h2 with h2|h2
 .split at h2
  .rw[ab8.1 h2];exact mw (by omega)
  .cases h2
 .split at h2
  .rw[ab8.1 h2];exact mw (by omega)
  .cases h2
theorem Gl {l:List (Pkg×Nat)}{c:Clause}(hl: ∀x∈l,x.2<2^60):fk l c<2^60:=by
 have h: ∀(l:List (Pkg×Nat)) (o:Nat),(∀x∈l,x.2<2^60)->o<2^60->(l.foldl (λo x=>if c.any (dO x.1)=true then o ||| x.2 else o) o)<2^60:=λl=>by
  induction l with
  |nil=>exact λo _ ho=>ho
  |cons x r ih=>
   intro o h ho;refine ih _ (λy hy=>h y (by simp[hy])) ?_
   dsimp only
   split
   .exact ace ho (h x (by simp))
   .exact ho
 exact h l 0 hl (by decide)
theorem EU {l:List (Pkg×Nat)}{p:Pkg}(hl: ∀x∈l,x.2<2^60)(hp:aS p=0):zt (eF l p):=by
 have hG:=dt hp;refine⟨by simpa[eF]using hG.pre.1,by simpa[eF]using hG.dep.1,by simpa[eF]using hG.con.1,by simpa[eF]using hG.brk.1,λm hm=>?_,λm hm=>?_,λm hm=>?_,λm hm=>?_⟩<;>
 .obtain⟨c,_,rfl⟩:=ab9.1 hm;exact Gl hl
theorem Kc :zt lx:=⟨by simp[lx],by simp[lx],by simp[lx],by simp[lx],by simp[lx],by simp[lx],by simp[lx],by simp[lx]⟩
theorem Um {s:List aD}{t:List Pkg}{l:List (Pkg×Nat)}(hs: ∀x∈s,aS x.pkg=0)(ht: ∀p∈t,aS p=0)(hl: ∀x∈l,x.2<2^60)(n:List UInt8):zC (rP s t l n):=by
 unfold rP;refine⟨?_,?_⟩
 .dsimp only
  split
  .rename_i x hx;exact EU hl (hs x (Az hx).1)
  .exact Kc
 .dsimp only
  split
  .rename_i p hp;exact EU hl (ht p (List.mem_of_find?_eq_some hp))
  .exact Kc
theorem sI {t:List Pkg}(h:aR t=0)(hn:(t.map (·.name)).Nodup):t.length<=10:=by
 have h1:=rO h;have h2:=gJ (t.map (·.name)) (cC t []) hn λx hx=>by
  obtain⟨p,hp,e⟩:=ab9.1 hx;exact(gC _ _ x).2 (.inr ⟨p,hp,e⟩)
 rw[ab5]at h2;omega
end Go.Av
end
