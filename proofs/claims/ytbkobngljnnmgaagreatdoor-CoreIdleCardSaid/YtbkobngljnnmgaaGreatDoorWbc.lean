/- What the last text of this claim rests on. No conditions. -/
import Derived.Sort.Walk0
import Derived.Lib.SlicesCompact
import Derived.Test.YtbkobngljnnmgaaGreatDoorWah
import Derived.Test.YtbkobngljnnmgaaGreatDoorWak
import Derived.Test.YtbkobngljnnmgaaGreatDoorWap
import Derived.Test.YtbkobngljnnmgaaGreatDoorWas
import Derived.Test.YtbkobngljnnmgaaGreatDoorWax
import Derived.Test.YtbkobngljnnmgaaGreatDoorWay
import Derived.Test.YtbkobngljnnmgaaGreatDoorWba
import Derived.Test.YtbkobngljnnmgaaGreatDoorWbb
set_option linter.unusedSimpArgs false
set_option linter.unusedVariables false
open List renaming getElem?_eq_some_iff->acG,length_map->acH,getElem?_append_left->acI,mem_append->acJ,mem_singleton->acK,mem_map->acL,getElem?_set_self->acM,getElem?_append_right->acO,take_of_length_le->acQ,length_append->acR,append_nil->acS,mem_of_getElem?->acU,mem_flatMap->acV,length_cons->acW,mem_take_iff_getElem->acX,mergeSort_perm->acY,map_append->acZ,pairwise_cons->ac0,takeWhile_append_dropWhile->ac1,foldl_cons->ac2,length_nil->ac3,drop_eq_getElem_cons->ac5,pairwise_iff_getElem->ac6,pairwise_mergeSort->ada,mem_filter->ade,mem_cons_self->adh,nodup_append->adi,flatMap_cons->adj,length_take->adl,filter_cons->adm,take_length->adn,all_eq_true->ado,map_cons->adu,map_nil->adw
open Nat renaming zero_le->acN,or_lt_two_pow->acP,pow_lt_pow_right->acT,lt_of_lt_of_le->ac4,le_refl->ac7,sub_self->adb,pow_le_pow_right->adf,two_pow_pos->adp,mul_le_mul->ads,le_trans->adv
open Bool renaming not_eq_true'->ac8,and_eq_true->adk,eq_iff_iff->adq,or_eq_true->adr
open Option renaming bind_some->ac9
open List.Perm renaming length_eq->adg
open Classical renaming byContradiction->adt
open Option.some renaming injEq->adz
open List.Pairwise renaming imp->adA
section
namespace Go.Av
open Go
def iL (σ:ab)(x:AV)(e:TypeId)(xs:List AV):Prop:=(x= .ar/\xs=[])\/ ∃id,x= .row e id 0 xs.length/\σ[id]?=some (some (.cells e xs))/\xs≠[]
theorem iL.v {σ:ab}{x:AV}{e:TypeId}{xs:List AV}(h:iL σ x e xs):dx σ x e xs:=by
 rcases h with h|⟨id,rfl,h,_⟩
 .exact .inl h
 .exact .inr ⟨id,0,_,xs,rfl,h,by omega,by simp⟩
theorem iL.keep {st st':ab}{v:AV}{e:TypeId}{xs:List AV}(h:iL st v e xs)(hk: ∀j∈aR v,st'[j]?=st[j]?):iL st' v e xs:=by
 rcases h with h|⟨id,rfl,h,h1⟩
 .exact .inl h
 .exact .inr ⟨id,rfl,by grind [aR],h1⟩
structure dD (σ:ab)(x:AV)(e:TypeId)(zs:List AV)(v:AV)(σ':ab):Prop where
 row:iL σ' v e zs
 fr:Fr (aR x) σ σ'
 aR: ∀j∈aR v,j∈aR x\/σ.length<=j
theorem bA.za {P:Program}{A:aa}{σ:ab}{t u e:TypeId}{x y:AV}{xs ys:List AV}{dst:Option Nat}{k:aa->Prop}(hσ:A.st=σ)(N:Nat)(ho:yO P t u e N=true)(hb:dx σ x e xs)(hy:eV σ y e ys)(h0:ys≠[])(hN:xs.length+ys.length<=N)
  (hk: ∀v σ',dD σ x e (xs++ys) v σ'->k ((A.put dst v).ay σ')):bA P [t,u] [x,y] dst A k .mk:=by
 subst hσ;have hkl:(cq x A.st).length=A.st.length:=by unfold cq;grind
 refine bA.row N ho hb.st hy hN (λhe=>absurd he h0) λhe=>hk _ _ ⟨.inr ⟨A.st.length,by simp_all,?_,by simp[h0]⟩,?_,λj hj=>?_⟩
 .simp_all
 .refine Fr.app ?_ _;unfold cq;grind [Fr.set,Fr.refl,aR]
 grind [aR]
open Go.Proofs.Tryz
theorem FF {all:List Pkg}: ∀{f i:Nat},i<=all.length->((ef all f i).map List.length).sum<=all.length-i
 |0,i,_=>by simp[ef]
 |f+1,i,hi=>by
  rw[ef];split
  .simp
  .rename_i h;obtain⟨p,hp⟩:=get_some (show i<all.length by omega);obtain⟨b1,b2⟩:=dR hp;have ih:=FF (f:=f) b2;grind
theorem Gr {all:List Pkg}(s:List aB)(l:List aN)(hc:mW all):(aW all s l).map (·.2)=ef all (all.length+1) 0:=by
 simp_all[aW,nu]
theorem Vi {l:List Nat}{n:Nat}(h: ∀i∈l,i<n):cc l<2^n:=by
 induction l with
 |nil=>exact adp n
 |cons a r ih=>simp_all[cc,acP,acT]
theorem It (all:List Pkg)(s:List aB)(l:List aN):(aW all s l).length<=all.length:=by
 grind [aW,sq,Ds]
theorem Ql {all:List Pkg}(s:List aB)(l:List aN)(hc:mW all)(D:Dat):jU D (aW all s l) 0 0+1<=2*2^all.length:=by
 have hg:=Gr s l hc;have h1:=Lg D (gs:=aW all s l) 0 0 λg hgm=>Kl (all:=all) (f:=all.length+1) (i:=0) g.2 (by grind) (by omega)
 have h2:=GM (aW all s l);have h3:((aW all s l).map λg=>g.2.length).sum<=all.length:=by
  have:(aW all s l).map (λg=>g.2.length)=((aW all s l).map (·.2)).map List.length:=by simp
  grind [FF]
 have h4:2^((aW all s l).map λg=>g.2.length).sum<=2^all.length:=adf (by decide) h3;omega
end Go.Av
end
section
namespace Go.Proofs.Tryz
open Go Go.Av
set_option maxRecDepth 10000
set_option maxHeartbeats 2000000
variable {W0 :World}
def jj (gs:List (Bool×List Nat)):AV:=.sl 88 (gs.map λg=>nV g.2)
def ji (gs:List (Bool×List Nat)):AV:=.sl 4 (gs.map λg=>.bool g.1)
def er (all:List Pkg)(s:List aB)(l:List aN)(bud sp:Int)(dn:Bool)(v:AV):Option bJ:=
 c7 (aI all) (aK s) (bM l) (jj (aW all s l)) (ji (aW all s l)) (eR all s l) (fk (s.map (iU all))) (.bool (eL l)) (.bool (dU all s l)) (.int .i64 bud) (.int .i64 sp) (.bool dn) v
theorem OS {all:List Pkg}{s:List aB}{l:List aN}(hn:(l.map (·.name)).Nodup)(bud:Int):CQ all s l bud=er all s l bud 0 false .ar:=by
 have e1:(nmB all all.length).map (λn=>nV (bu all λp=>p.name==n))=(aW all s l).map λg=>nV g.2:=by
  simp[aW,sq,AR]
 have e2:(nmB all all.length).map (λn=>AV.bool (tV l s n))=(aW all s l).map λg=>.bool g.1:=by
  simp_all[aW,sq,Wr]
 grind [iU,List.map_congr_left,AR,CQ,fq,er,jj,ji,eR,SF]
def yV (b:Br):AV:=.agg 261 [.int .i64 (b.1:Nat),cR b.2.1,cR b.2.2]
structure dO (σ:ab)(id:Nat)(all:List Pkg)(s:List aB)(l:List aN)(bud:Int)(st:List Br)(os:List Nat)(sp:Nat)(v3 v12:AV)(τ:ab):Prop where
 todo:dx τ v3 261 (st.map yV)
 out:iL τ v12 218 ((os.map λS=>(kB all s S (eL l),S)).map fS)
 obj:τ[id]?=some (er all s l bud sp false v12)
 fr:Fr [id] σ τ
 f3: ∀j∈aR v3,σ.length<=j
 f12: ∀j∈aR v12,σ.length<=j
structure To (all:List Pkg)(s:List aB)(l:List aN)(bud:Int)(st:List Br)(os:List Nat)(sp:Nat):Prop where
 perm:(os++sH (fh all s l) (aW all s l) st).Perm (pL (fh all s l) (aW all s l) 0 0)
 cnt:sp+mU (fh all s l) (aW all s l) st=jU (fh all s l) (aW all s l) 0 0
 len:os.length<=sp
 bud:bud=0\/(sp:Int)<=bud
 ok: ∀b∈st,b.1<=(aW all s l).length/\b.2.1<2^all.length/\b.2.2<2^all.length
 oks: ∀S∈os,S<2^all.length
section
variable {σ τ:ab}{id:Nat}{all:List Pkg}{s:List aB}{l:List aN}{bud:Int}{st:List Br}{os:List Nat}{sp:Nat}{v3 v12:AV}
theorem dO.ne3 (h:dO σ id all s l bud st os sp v3 v12 τ):id∉aR v3:=by
 have:=h.obj;unfold er c7 at this;exact h.todo.ne this (by decide)
theorem dO.X8 (h:dO σ id all s l bud st os sp v3 v12 τ):id∉aR v12:=by
 have:=h.obj;unfold er c7 at this;exact h.out.v.ne this (by decide)
theorem dO.more (h:dO σ id all s l bud st os sp v3 v12 τ)(J:ab):dO σ id all s l bud st os sp v3 v12 (τ++J):=
 ⟨h.todo.keep λj hj=>by rw[acI (h.todo.lt j hj)],h.out.keep λj hj=>by rw[acI (h.out.v.lt j hj)],by grind [acI,dO.obj],h.fr.app _,h.f3,h.f12⟩
theorem dO.aau (h:dO σ id all s l bud st os sp v3 v12 τ)(sp':Nat):dO σ id all s l bud st os sp' v3 v12 (τ.set id (er all s l bud sp' false v12)):=
 ⟨h.todo.keep λj hj=>by grind [dO.ne3],h.out.keep λj hj=>by grind [dO.X8],acM (acG.1 h.obj).1,h.fr.set (.inl (by simp)) _,h.f3,h.f12⟩
theorem dO.cut {n:Nat}(h:dO σ id all s l bud st os sp v3 v12 τ)(hn:n<=st.length):dO σ id all s l bud (st.take n) os sp (uw 0 n v3) v12 τ:=
 ⟨by have:=h.todo.cut (a:=0) (b:=n) (acN _) (by simp_all);simp_all,h.out,h.obj,h.fr,λj hj=>h.f3 j (by grind [pv]),h.f12⟩
theorem dO.add {τ':ab}{v:AV}{S:Nat}(h:dO σ id all s l bud st os sp v3 v12 τ)(ha:dD τ v12 218 ((os.map λS=>(kB all s S (eL l),S)).map fS++[fS (kB all s S (eL l),S)]) v τ'):dO σ id all s l bud st (os++[S]) sp v3 v (τ'.set id (er all s l bud sp false v)):=by
 have hlen:=h.fr.len;have hidl:=(acG.1 h.obj).1;have hobj':=h.obj;unfold er c7 at hobj';have hidv:id∉aR v:=λhj=>by
  rcases ha.aR id hj with h1|h1
  .exact h.X8 h1
  .omega
 have hf: ∀j∈aR v3,τ'[j]?=τ[j]?:=λj hj=>ha.fr.old j (h.todo.lt j hj) λhj2=>by
  rcases h.out with⟨rfl,_⟩|⟨ido,rfl,ho,_⟩
  .grind [aR]
  .simp[aR]at hj2;subst hj2;exact h.todo.ne ho (by decide) hj
 refine⟨h.todo.keep λj hj=>?_,?_,acM (ac4 hidl ha.fr.len),?_,h.f3,λj hj=>?_⟩
 .grind [dO.ne3]
 .rw[acZ,acZ];exact ha.row.keep λj hj=>by grind
 .refine Fr.set (id:=id) ⟨by have:=ha.fr.len;omega,λj hj hF=>?_⟩ (.inl (by simp)) _;rw[ha.fr.old j (by omega) λhj2=>by have:=h.f12 j hj2;omega,h.fr.old j hj hF]
 .rcases ha.aR j hj with h1|h1
  .exact h.f12 j h1
  .omega
theorem dO.push {τ':ab}{v:AV}{x:Br}(h:dO σ id all s l bud st os sp v3 v12 τ)(ha:dD τ v3 261 (st.map yV++[yV x]) v τ'):dO σ id all s l bud (st++[x]) os sp v v12 τ':=by
 have hlen:=h.fr.len;refine⟨by grind [iL.v,dD.row],h.out.keep λj hj=>ha.fr.old j (h.out.v.lt j hj) λhj2=>?_,by rw[ha.fr.old id (acG.1 h.obj).1 h.ne3,h.obj],?_,λj hj=>?_,h.f12⟩
 .rcases h.out with⟨rfl,_⟩|⟨ido,rfl,ho,_⟩
  .grind [aR]
  .simp[aR]at hj;subst hj;exact h.todo.ne ho (by decide) hj2
 .exact⟨by have:=ha.fr.len;omega,λj hj hF=>by rw[ha.fr.old j (by omega) λhj2=>by have:=h.f3 j hj2;omega,h.fr.old j hj hF]⟩
 .rcases ha.aR j hj with h1|h1
  .exact h.f3 j h1
  .omega
end
theorem Ub (hW:qL W0)(σ:ab)(id:Nat)(all:List Pkg)(s:List aB)(l:List aN)(bud:Int)(hn:(l.map (·.name)).Nodup)(h0:aY all=0)(ho:all=cV all)(hmn: ∀p∈all,iM p)(D6:s.length<=10)(hb0:0<=bud)(hbm:bud<=1000000000000)
  (hid:σ[id]?=some (er all s l bud 0 false .ar)):
  aS prog W0 156 [.ptr 143 id 0 []] σ λr σ'=>Fr [id] σ σ'/\
   ((0<bud/\bud<jU (fh all s l) (aW all s l) 0 0/\r= .int .i64 11/\ ∃v,σ'[id]?=some (er all s l bud bud false v))\/
    ((bud=0\/jU (fh all s l) (aW all s l) 0 0<=bud)/\r= .int .i64 0/\ ∃(v:AV) (o:List FB),σ'[id]?=some (er all s l bud (jU (fh all s l) (aW all s l) 0 0) true v)/\dx σ' v 218 (o.map fS)/\(∀j∈aR v,σ.length<=j)/\o.Perm (B0 all s l (eL l))/\o.Pairwise λx y=>ltB y x=false)):=by
 have hidl:=(acG.1 hid).1;have h24:=dK h0;have hcont:mW all:=vn (by rw[ho];exact kl (eX h0).2);have htot:=Ql s l hcont (fh all s l);have h2n:2^all.length<=16777216:=adv (adf (n:=2) (by decide) h24) (by decide);refine jE [.tmp 2] [5,8,5000010,3000069,2000072,4000011,2000140,2000003] func156 rfl rfl ntmps156 rfl rfl λhs=>?_
 have hid':=hid;simp only[go_sem,simprocAttr];refine ae.at [0] (λA=>∃ os sp v3 v12,dO σ id all s l bud [] os sp v3 v12 A.st/\To all s l bud [] os sp) ?_ λB ⟨os,sp,v3,v12,hI,hC⟩=>?_
 .refine ae.cC [0] (λk A=>∃ st os sp v3 v12,A.env 3=v3/\k=mU (fh all s l) (aW all s l) st/\dO σ id all s l bud st os sp v3 v12 A.st/\To all s l bud st os sp) _ ⟨[(0,0,0)],[],0,_,.ar,rfl,rfl,?_⟩ λk B ⟨st,os,sp,v3,v12,h3,hk,hI,hC⟩=>?_
  .simp only[go_sem,simprocAttr];have hx0:Ext σ (σ++[some (.cells 261 [yV (0,0,0)])]):=Ext.app (.refl _) _;obtain⟨r1,r2⟩:=LR (D:=fh all s l) (gs:=aW all s l);refine⟨⟨.inr ⟨σ.length,0,1,[yV (0,0,0)],rfl,?_,by simp,by simp⟩,.inl ⟨rfl,rfl⟩,?_,Fr.ext hx0,λj hj=>?_,λj hj=>by grind [aR]⟩,?_,?_,by simp,?_,λb hb=>?_,λS hS=>by cases hS⟩
   .rw[acO (ac7 _),adb];rfl
   .grind
   .grind [aR]
   .grind
   .omega
   .omega
   grind
  have hob:=hI.obj;unfold er c7 jj ji eR at hob;have hspt:sp<=jU (fh all s l) (aW all s l) 0 0:=by grind [To.cnt]
  have hw:IntKind.i64.wrap ((sp:Int)+1)=((sp+1:Nat):Int):=by grind [aG]
  obtain⟨τ,hτ⟩: ∃τ,τ=B.st.set id (er all s l bud (sp+1:Nat) false v12):=⟨_,rfl⟩;have hIτ:=hI.aau (sp+1);rw[<-hτ]at hIτ;unfold er c7 jj ji eR at hτ;simp only[go_sem,simprocAttr,h3,hI.todo.st.ok,hI.todo.st.un,hI.todo.st.len,hI.todo.st.fR,an hob,aC hob,hw,acH];refine⟨λhpos=>⟨.of (by kernel_rfl),λhbs=>cX.ret ?_,λhbs=>?_⟩,λhneg=>?_⟩
  .rw[adk,decide_eq_true_eq,beq_iff_eq]at hbs;have hrl:=wy (D:=fh all s l) (gs:=aW all s l) st;have hcnt:=hC.cnt;have hobj:=hI.obj;rw[hbs.2]at hobj;simp only[go_sem,simprocAttr];exact⟨_,.refl _,hI.fr.len,hI.fr,.inl ⟨hbs.1,by omega,rfl,v12,hobj⟩⟩
  .rw[<-hτ];clear hτ;obtain⟨st',b,rfl⟩: ∃st' b,st=st'++[b]:=by
    have hne:st≠[]:=λe=>by grind
    exact⟨st.dropLast,st.getLast hne,(List.dropLast_concat_getLast hne).symm⟩
   have hrl:=wy (D:=fh all s l) (gs:=aW all s l) (st'++[b]);have hcnt:=hC.cnt;have hstl:(st'++[b]).length=st'.length+1:=by simp
   have hwl:IntKind.i64.wrap (((st'.length+1:Nat):Int)-1)=(st'.length:Int):=by grind [aG]
   have hcut:=(hIτ.cut (n:=st'.length) (by omega)).more [none];rw[List.take_left' rfl]at hcut;obtain⟨hb1,hb2,hb3⟩:=hC.ok b (by simp);have hidx: ∃idt off zs,v3= .row 261 idt off (st'.length+1)/\τ[idt]?=some (some (.cells 261 zs))/\zs[off+st'.length]?=some (yV b):=by
    rcases hIτ.todo with⟨_,hnil⟩|⟨idt,off,m,zs,rfl,hz,hle,hx⟩
    .simp at hnil
    have hml:m=st'.length+1:=by
     grind [adl]
    subst hml;refine⟨idt,off,zs,rfl,hz,?_⟩;have h1:((st'++[b]).map yV)[st'.length]?=some (yV b):=by simp
    grind
   obtain⟨idt,off,zs,rfl,hzτ,hzi⟩:=hidx;have hobu:=hcut.obj;have hbud1:bud=0\/((sp+1:Nat):Int)<=bud:=by
    rcases hC.bud with h|h
    .omega
    grind
   unfold er c7 jj ji eR at hobu;simp only[go_sem,simprocAttr,hwl,an hzτ,aP hzτ,Int.toNat_natCast,hzi,yV,cR,an hobu,acH];refine⟨by omega,by omega,.of (by kernel_rfl),λhleaf=>?_,λhnode=>?_⟩
   .have hbud':bud=0\/((sp+1:Nat):Int)<=bud:=hbud1;have hleaf':b.1=(aW all s l).length:=by omega
    have hhl:=Jp (W0:=W0) hW _ id all s l b.2.1 h24 hb2 hcut.obj;refine aj.reads (by simp only[go_sem,simprocAttr]) hhl ?_;simp only[go_sem,simprocAttr];have hcut':dO σ id all s l bud st' os (sp+1) (.row 261 idt off st'.length) v12 (τ++[none]):=by grind [uw]
    have hleafR:=Qb (D:=fh all s l) (gs:=aW all s l) (st:=st') hleaf';refine cm.at [0,3] (by kernel_rfl) (λA=>∃ v,dO σ id all s l bud st' (if fM all b.2.1=true then os++[b.2.1]else os) (sp+1) (.row 261 idt off st'.length) v A.st) (λhh=>?_) (λhh=>?_) λB1 ⟨v,hI1⟩=>?_
    .rw[if_pos hh];have hco:=P8 (W0:=W0) hW _ id all s l b.2.1 (eL l) h24 (λp hp=>by grind [cQ,dT,uH.rcm]) D6 hb2 hcut.obj;simp only[go_sem,simprocAttr,an hobu];refine⟨.of (by kernel_rfl),aD.st hco ?_⟩;obtain⟨c,hc⟩: ∃c,c=kB all s b.2.1 (eL l):=⟨_,rfl⟩;rw[<-hc];have hco1: ∀g,okM g (bH c)=True:=λg=>ct trivial
     have hco2:unm (bH c)=bH c:=rfl;have hco3:bc prog 29 (bH c)=true:=by kernel_rfl
     have hosl:os.length<=sp:=hC.len;simp only[go_sem,simprocAttr,hco1,hco2,hco3,hcut'.out.v.st.ok,hcut'.out.v.st.un];refine bA.za (σ:=τ++[none]) (by simp only[go_sem,simprocAttr]) 1000000000 (by kernel_rfl) hcut'.out.v (.lit _ _ _) (by simp) (by grind) λv τ2 ha=>?_
     have hadd:=hcut'.add (by rw[hc]at ha;exact ha);have hob2:τ2[id]?=some (er all s l bud (sp+1:Nat) false v12):=by rw[ha.fr.old id (acG.1 hcut'.obj).1 hcut'.X8,hcut'.obj]
     unfold er c7 jj ji eR at hob2;simp only[go_sem,simprocAttr,an hob2,aC hob2,ha.row.v.st.ok,ha.row.v.st.un,ha.row.v.st.fits];exact⟨v,hadd⟩
    .rw[if_neg (by grind)];simp only[go_sem,simprocAttr];grind
    .simp only[go_sem,simprocAttr];have hperm:=hC.perm;rw[hleafR.1]at hperm;refine .here (mU (fh all s l) (aW all s l) st') (by omega) ⟨st',_,sp+1,_,v,rfl,rfl,hI1,?_,by omega,?_,hbud',λx hx=>hC.ok x (by simp[hx]),?_⟩
     .by_cases hh:fM all b.2.1=true
      .rw[if_pos hh];rw[if_pos (show(fh all s l).hl b.2.1=true from hh)]at hperm;grind
      .rw[if_neg hh];rw[if_neg (show ¬(fh all s l).hl b.2.1=true from hh),acS]at hperm;omega
     .have:=hC.len;grind
     .intro S hS;split at hS
      .rcases acJ.1 hS with h|h
       .exact hC.oks S h
       grind
      .exact hC.oks S hS
   .have hblt:b.1<(aW all s l).length:=by
     omega
    obtain⟨g,hg⟩:=get_some hblt;have hnodeR:=TZ (D:=fh all s l) (st:=st') hg;have hatw:atV ((aW all s l).map λg=>AV.bool g.1) (b.1:Int)= .bool g.1:=aw hg;have hatn:atV ((aW all s l).map λg=>nV g.2) (b.1:Int)= .sl 3 (g.2.map λk=>.int .i64 (k:Nat)):=aw hg;have hcut':dO σ id all s l bud st' os (sp+1) (.row 261 idt off st'.length) v12 (τ++[none]):=by grind [uw]
    obtain⟨k0,hk0⟩: ∃k0:List Br,k0=if g.1=true then [(b.1+1,b.2.1,b.2.2)]else []:=⟨_,rfl⟩;have hgl:(aW all s l).length<=24:=by
     grind [It]
    have hwb:IntKind.i64.wrap ((b.1:Int)+1)=((b.1+1:Nat):Int):=by grind [aG]
    have hstl2:st'.length<=100000000:=by omega
    simp only[go_sem,simprocAttr,hatw];refine⟨.of (by kernel_rfl),hblt,cm.at [0,5] (by kernel_rfl) (λA=>∃ v3,A.env 3=v3/\dO σ id all s l bud (st'++k0) os (sp+1) v3 v12 A.st) (λhh=>?_) (λhh=>?_) λB1 ⟨v3,h3',hI1⟩=>?_⟩
    .rw[if_pos hh]at hk0;simp only[go_sem,simprocAttr,hwb];refine bA.za (σ:=τ++[none]) (by simp only[go_sem,simprocAttr]) 1000000000 (by kernel_rfl) hcut'.todo (.lit _ _ _) (by simp) (by grind) λv τ2 ha=>?_
     have hpu:=hcut'.push (x:=(b.1+1,b.2.1,b.2.2)) ha;simp only[go_sem,simprocAttr];grind
    .rw[if_neg (by grind)]at hk0;simp only[go_sem,simprocAttr];grind
    .have hob1:=hI1.obj;unfold er c7 jj ji eR at hob1;have hg2: ∃n,g.2=placesOf all n:=by
      grind [aW]
     obtain⟨n,hgn⟩:=hg2;have hg24: ∀i∈g.2,i<all.length:=λi hi=>by
      grind [cg]
     have hg2l:g.2.length<=24:=by
      grind [placesOf]
     have hk0l:k0.length<=1:=by grind
     obtain⟨P,hP⟩: ∃P:Nat->Bool,P=λi=>(fh all s l).may i&& !b.2.2.testBit i:=⟨_,rfl⟩
     simp only[go_sem,simprocAttr,an hob1,hatn,acH];refine⟨.of (by kernel_rfl),hblt,?_⟩;refine ae.ats [0,5,101,102] (λA=>∃ v3,A.env 3=v3/\dO σ id all s l bud (st'++(k0++(g.2.filter P).map (Fu (fh all s l) b))) os (sp+1) v3 v12 A.st) ?_ λB2 ⟨v3,h3',hI2⟩=>?_
     .refine ae.upto [0,5,101,102] g.2.length (λi A=>A.env 103= .int .i64 i/\ ∃v3,A.env 3=v3/\dO σ id all s l bud (st'++(k0++((g.2.take i).filter P).map (Fu (fh all s l) b))) os (sp+1) v3 v12 A.st) 0 (acN _) ?_ λi B2 hi ⟨h103,v3,h3',hI2⟩=>?_
      .simp only[go_sem,simprocAttr,h3'];grind
      have hob2:=hI2.obj;unfold er c7 jj ji eR at hob2;simp only[go_sem,simprocAttr,h103,h3'];refine⟨λhlt=>?_,λhge=>?_⟩
      .obtain⟨y,hy⟩:=get_some hlt;have hyn:=hg24 y (acU hy);obtain⟨p,hp⟩:=get_some hyn;have hatV:atV (g.2.map λk=>AV.int .i64 (k:Nat)) (i:Int)= .int .i64 (y:Nat):=aw hy;have hat:=sX (s:=s) (l:=l) hp;have hlen:((List.range all.length).map λi=>iF all s l i ((all[i]?).getD xJ)).length=all.length:=by grind
       have h232:b.2.2<4294967296:=by omega
       have hpw:2^y<4294967296:=oK (by omega);have hand:=gX b.2.2 (2^y) h232 hpw;have hor1:=jB b.2.1 (2^y) (by omega) hpw;have hcl:iH all y<4294967296:=mS λz hz=>by grind
       have hor2:=jB b.2.2 (iH all y) h232 hcl;have hz:(((b.2.2 &&& 2^y:Nat):Int)==0)= !b.2.2.testBit y:=by
        grind [GI]
       have hPy:P y=(oF l s p&& !b.2.2.testBit y):=by
        rw[hP];show(ER all s l y&&_)=_;grind [ER,Yh]
       have hfl:(g.2.take (i+1)).filter P=(g.2.take i).filter P++if P y=true then [y]else []:=by
        rw[ah hy,List.filter_append,adm,List.filter_nil]
       have hkl:(st'++(k0++((g.2.take i).filter P).map (Fu (fh all s l) b))).length<=100000100:=by
        grind
       simp only[go_sem,simprocAttr,hatV,an hob2,hat,hlen,acH];refine⟨hlt,hyn,.of (by kernel_rfl),aD.fnG (λ_=>tv y (by omega)) ?_⟩;simp only[go_sem,simprocAttr,hand,hz];rw[<-hPy];have hIf:=hI2.more [none];refine⟨λhh=>?_,λhh=>?_⟩
       .rw[if_pos hh]at hfl;refine⟨.of (by kernel_rfl),?_⟩;refine aD.fn (tv y (by omega)) ?_;simp only[go_sem,simprocAttr,hor1,hor2,hwb,h3',hIf.todo.st.ok,hIf.todo.st.un,cR];refine bA.za (σ:=B2.st++[none]) (ys:=[yV (Fu (fh all s l) b y)]) (by first|rfl|simp only[go_sem,simprocAttr]) 1000000000 (by kernel_rfl) hIf.todo (.lit _ _ _) (by simp) (by grind) λv τ2 ha=>?_
        have hpu:=hIf.push (x:=Fu (fh all s l) b y) ha;simp only[go_sem,simprocAttr,h103];grind [ag,aq]
       .rw[if_neg (by grind),acS]at hfl;simp only[go_sem,simprocAttr,h103,h3'];grind [ag,aq]
      grind
     .simp only[go_sem,simprocAttr];have hkids:k0++(g.2.filter P).map (Fu (fh all s l) b)=kids (fh all s l) g b:=by
       grind [kids]
      rw[hkids]at hI2;have hperm:=hC.perm;rw[hnodeR.1]at hperm;refine .here (mU (fh all s l) (aW all s l) (st'++kids (fh all s l) g b)) (by omega) ⟨_,os,sp+1,v3,v12,by simp only[go_sem,simprocAttr,h3'],rfl,hI2,hperm,by omega,by have:=hC.len;omega,hbud1,λx hx=>?_,hC.oks⟩;rcases acJ.1 hx with hx|hx
      .exact hC.ok x (by simp[hx])
      .rw[<-hkids]at hx;rcases acJ.1 hx with hx|hx
       .grind
       .obtain⟨y,hy,rfl⟩:=acL.1 hx;have hyn:=hg24 y (ade.1 hy).1;refine⟨hblt,acP hb2 (acT (by decide) hyn),acP hb3 ?_⟩;exact Vi λz hz=>by grind
  .have hst0:st=[]:=by
    cases st with
    |nil=>rfl
    |cons a r=>grind
   grind
 .have hob:=hI.obj;unfold er c7 jj ji eR at hob;have hcnt:=hC.cnt;rw[show mU (fh all s l) (aW all s l) []=0 from rfl,Nat.add_zero]at hcnt;have hperm:=hC.perm;rw[show sH (fh all s l) (aW all s l) []=[]from rfl,acS]at hperm;have hpf:(os.map λS=>(kB all s S (eL l),S)).Perm (B0 all s l (eL l)):=hperm.map _;have hfok: ∀x∈(os.map λS=>(kB all s S (eL l),S)),Rw x:=λx hx=>by
   obtain⟨S,hS,rfl⟩:=acL.1 hx;have:=hC.oks S hS;exact⟨ko _ _ _ _ _ _,by omega⟩
  have hbud2:bud=0\/((jU (fh all s l) (aW all s l) 0 0:Nat):Int)<=bud:=by rw[<-hcnt];exact hC.bud
  rcases hI.out with⟨rfl,hnil⟩|⟨ido,rfl,hz,hne⟩
  .simp only[go_sem,simprocAttr,an hob];refine aj.fn FD ?_;simp only[go_sem,simprocAttr,an hob,aC hob];have hos:os=[]:=by simpa using hnil
   subst hos;refine cX.ret ?_;simp only[go_sem,simprocAttr];refine⟨_,.refl _,by have:=hI.fr.len;grind,hI.fr.set (.inl (by simp)) _,.inr ⟨hbud2,rfl,.ar,[],?_,.inl ⟨rfl,rfl⟩,λj hj=>by grind [aR],hpf,.nil⟩⟩;rw[<-hcnt,acM (acG.1 hI.obj).1];rfl
  .obtain⟨xs,hxs⟩: ∃xs,xs=os.map λS=>(kB all s S (eL l),S):=⟨_,rfl⟩
   rw[<-hxs]at hz hne hpf hfok hob hI;have hxl:xs.length<=1000000000:=by rw[hxs,acH];have:=hC.len;omega
   have hso:=JJ (W0:=W0) B.st ido xs hz (λe=>hne (by grind)) hxl hfok;simp only[go_sem,simprocAttr,an hob,acH];refine aj.goes (by simp only[go_sem,simprocAttr]) hso λr σ1 ⟨ys,hy1,hy2,hσ1⟩=>?_
   subst hσ1;have hidne:id≠ido:=λe=>by
    grind
   have hob2:(B.st.set ido (some (.cells 218 (ys.map fS))))[id]?=some (er all s l bud sp false (.row 218 ido 0 (xs.map fS).length)):=by grind [dO.obj]
   have hob2':=hob2;unfold er c7 jj ji eR at hob2;simp only[go_sem,simprocAttr,an hob2,aC hob2];refine cX.ret ?_;simp only[go_sem,simprocAttr];have hf12:=hI.f12 ido (by simp[aR]);have hidol:ido<(B.st).length:=(acG.1 hz).1;have hidl2:id<B.st.length:=(acG.1 hI.obj).1;refine⟨_,.refl _,by grind,(hI.fr.set (.inr hf12) _).set (.inl (by simp)) _,.inr ⟨hbud2,rfl,.row 218 ido 0 (xs.map fS).length,ys,?_,?_,λj hj=>?_,hy1.trans hpf,hy2⟩⟩
   .rw[<-hcnt,acM (by grind)];rfl
   .refine .inr ⟨ido,0,_,ys.map fS,rfl,?_,?_,?_⟩
    .grind
    .simp[hy1.length_eq]
    grind [acQ,adg]
   grind [aR]
structure Mn (all:List Pkg)(s:List aB)(l:List aN):Prop where
 h0:aY all=0
 ho:all=cV all
 hmn: ∀p∈all,iM p
 D6:s.length<=10
 hU:Uni all s l
def CO (all:List Pkg)(s:List aB)(l:List aN):Nat:=jU (fh all s l) (aW all s l) 0 0
def dH (all:List Pkg)(s:List aB)(l:List aN):List FB:=(j6 all s l (eL l)).map toB
inductive SSt |fresh|run (o:List FB)|fail
def eJ (σ:ab)(id:Nat)(all:List Pkg)(s:List aB)(l:List aN)(bud:Int):SSt->Prop
 | .fresh=>σ[id]?=some (er all s l bud 0 false .ar)
 | .run o=>dU all s l=false/\(∃v,σ[id]?=some (er all s l bud (CO all s l) true v)/\dx σ v 218 (o.map fS))/\ ∀x∈o,x.1.length=5/\x.2<2^all.length
 | .fail=>dU all s l=false/\0<bud/\ ∃v,σ[id]?=some (er all s l bud bud false v)
def gT (all:List Pkg)(s:List aB)(l:List aN)(bud:Int)(st:SSt):Option FB×Int×SSt:=
 if dU all s l=true then(none,0,st)else match st with
  | .fail=>(none,11,.fail)
  | .fresh=>if 0<bud/\bud<CO all s l then(none,11,.fail)else((dH all s l).head?,0,.run (dH all s l).tail)
  | .run o=>(o.head?,0,.run o.tail)
def F8 (all:List Pkg):Option FB->Int->AV
 |none,e=>.tup [aI [],bH [0,0,0,0,0],.bool false,.int .i64 e]
 |some x,e=>.tup [aI (atL all (bh all.length x.2)),bH x.1,.bool true,.int .i64 e]
theorem Mn.acu {all:List Pkg}{s:List aB}{l:List aN}(h:Mn all s l)(hnv:dU all s l=false){o:List FB}(hp:o.Perm (B0 all s l (eL l)))(hs:o.Pairwise λx y=>ltB y x=false):o=dH all s l:=
 IF (dK h.h0) (λp hp=>dT h.h0 hp) (vn (by rw[h.ho];exact kl (eX h.h0).2)) h.hU hnv _ hp hs
theorem TX (σ:ab)(id:Nat)(all:List Pkg)(s:List aB)(l:List aN)(bud:Int)(v:AV)(hb:0<bud)(hid:σ[id]?=some (er all s l bud bud false v)):
  aS prog W0 156 [.ptr 143 id 0 []] σ λr σ'=>r= .int .i64 11/\σ'=σ:=by
 have hidl:=(acG.1 hid).1;refine aS.back (.int _ _) ?_;refine jE [.tmp 2] [5,8,5000010,3000069,2000072,4000011,2000140,2000003] func156 rfl rfl ntmps156 rfl rfl λhs=>?_
 simp only[go_sem,simprocAttr];refine ae.at [0] (λA=>False) ?_ λB hF=>hF.elim
 refine ae.cC [0] (λk A=>A.env 3= .row 261 σ.length 0 1/\Ext σ A.st) 0 ?_ λk B ⟨h3,hx⟩=>?_
 .simp only[go_sem,simprocAttr];exact Ext.app (.refl _) _
 have hob:B.st[id]?=some (er all s l bud bud false v):=by
  have e:=congrArg (·[id]?) hx;simp_all
 unfold er c7 at hob;have hc:(decide (0<bud)&&(bud==bud))=true:=by simp[hb]
 have hd:decide (0<bud)=true:=decide_eq_true hb;simp only[go_sem,simprocAttr,h3,an hob,hd];refine⟨.of (by kernel_rfl),cX.ret ?_⟩;simp only[go_sem,simprocAttr];exact⟨_,.refl _,hx.le,.refl _,hx⟩
@[go_sem] theorem ZC {A:aa}(t u v w:ResultVar):uE A [t,u,v,w]= .tup [gP A t,gP A u,gP A v,gP A w]:=rfl
theorem Ci {n:Nat}(D:Dat): ∀{gs:List (Bool×List Nat)} (s c:Nat),(∀g∈gs,∀i∈g.2,i<n)->s<2^n-> ∀S∈pL D gs s c,S<2^n
 |[],s,c,_,h,S,hS=>by
  grind [pL]
 |g::r,s,c,hg,h,S,hS=>by
  rw[pL]at hS;rcases acJ.1 hS with hS|hS
  .split at hS
   .exact Ci D s c (λg' h'=>hg g' (by simp[h'])) h S hS
   simp_all
  .obtain⟨i,hi,hS⟩:=acV.1 hS;exact Ci D _ _ (λg' h'=>hg g' (by simp[h'])) (acP h (acT (by decide) (hg g (by simp) i (ade.1 hi).1))) S hS
theorem Nf {all:List Pkg}(s:List aB)(l:List aN)(D:Dat)(t c:Nat)(ht:t<2^all.length){S:Nat}(hS:S∈pL D (aW all s l) t c):S<2^all.length:=by
 refine Ci D t c (λg hg i hi=>?_) ht S hS;grind [aW,cg]
theorem pF (all:List Pkg)(e:Int):dq (.tup [.ar,.agg 29 [.int .i64 0,.int .i64 0,.int .i64 0,.int .i64 0,.int .i64 0],.bool false,.int .i64 e]) (F8 all none e):=by
 refine .tup rfl λi x y hx hy=>?_
 match i,hx,hy with
 |0,hx,hy=>cases hx;cases hy;exact .ar _
 |1,hx,hy=>cases hx;cases hy;exact .refl _
 |2,hx,hy=>cases hx;cases hy;exact .refl _
 |3,hx,hy=>cases hx;cases hy;exact .refl _
theorem UD (hW:qL W0)(σ:ab)(id:Nat)(all:List Pkg)(s:List aB)(l:List aN)(bud:Int)(st:SSt)(hH:Mn all s l)(hb0:0<=bud)(hbm:bud<=1000000000000)(hst:eJ σ id all s l bud st):
  aS prog W0 90 [.ptr 143 id 0 []] σ λr σ'=>r=F8 all (gT all s l bud st).1 (gT all s l bud st).2.1/\Fr [id] σ σ'/\eJ σ' id all s l bud (gT all s l bud st).2.2:=by
 obtain⟨sp,dn,v,hob,hdn,hvn⟩: ∃(sp:Int) (dn:Bool) (v:AV),σ[id]?=some (er all s l bud sp dn v)/\(dn=true↔ ∃o,st= .run o)/\(dU all s l=true->v= .ar):=by
  cases st with
  |fresh=>exact⟨0,false,.ar,hst,by simp,λ_=>rfl⟩
  |run o=>obtain⟨h0,⟨v,h1,_⟩,_⟩:=hst;grind
  |fail=>obtain⟨h0,_,v,h1⟩:=hst;grind
 have hidl:=(acG.1 hob).1;have hn:=hH.hU.asks;refine jE [.tmp 2,.cell 3 29,.tmp 4,.tmp 5] [7,3000059,4000011] func90 rfl rfl ntmps90 rfl rfl λhs=>?_
 have hob1: ∀J,(σ++J)[id]?=some (er all s l bud sp dn v):=λJ=>by grind
 have hob2:=hob1;unfold er c7 at hob2;simp only[go_sem,simprocAttr,an (hob2 _)];obtain⟨cz,hcz⟩: ∃cz:Option bJ,cz=some (.cells 29 [.agg 29 [.int .i64 0,.int .i64 0,.int .i64 0,.int .i64 0,.int .i64 0]]):=⟨_,rfl⟩;have hz0:(σ++[cz])[σ.length]?=some cz:=by simp_all
 have hfr0:Fr [id] σ (σ++[cz]):=Fr.ext (Ext.app (.refl _) _);have hrv: ∀{J:ab} {o:List FB} {w:AV},dx σ w 218 (o.map fS)->dx (σ++J) w 218 (o.map fS):=λh=>h.keep λj hj=>by grind [dx.lt]
 refine cm.at [0,3] (by kernel_rfl) (λA=>A.st[σ.length]?=some cz/\Fr [id] σ A.st/\((dU all s l=true/\A.st=σ++[cz])\/(∃o,eJ A.st id all s l bud (.run o)/\gT all s l bud st=(o.head?,0,.run o.tail)))) (λhc=>?_) (λhc=>?_) λB ⟨hz,hfr,hcase⟩=>?_
 .simp only[adk,ac8]at hc;obtain⟨hc1,hc2⟩:=hc;cases st with
  |fresh=>
   have hst0:(σ++[cz])[id]?=some (er all s l bud 0 false .ar):=by rw[acI hidl];exact hst
   have hfi:=Ub (W0:=W0) hW (σ++[cz]) id all s l bud hn hH.h0 hH.ho hH.hmn hH.D6 hb0 hbm hst0;simp only[go_sem,simprocAttr];refine aj.goes (by simp only[go_sem,simprocAttr];rw[hcz]) hfi λr σ1 ⟨hfr1,hr⟩=>?_
   have hfr2:Fr [id] σ σ1:=⟨by have:=hfr1.len;grind,λj hj hF=>by rw[hfr1.old j (by grind) hF,hfr0.old j hj hF]⟩;have hz1:σ1[σ.length]?=some cz:=by grind [Fr.old]
   rcases hr with⟨g1,g2,rfl,w,g3⟩|⟨g1,rfl,w,o,g3,g4,g5,g6,g7⟩
   .have hnx:gT all s l bud .fresh=(none,11,.fail):=by
     unfold gT;rw[if_neg (by simp_all)];exact if_pos ⟨g1,g2⟩
    rw[hnx];have hz1':=hz1;rw[hcz]at hz1';simp only[go_sem,simprocAttr,an hz1',aC hz1',fV hz1'];refine cX.ret ?_;simp only[go_sem,simprocAttr,an hz1',gP];exact⟨_,pF all 11,hfr2.len,rfl,hfr2,hc2,g1,w,g3⟩
   .have hob3:=g3;have ho:=hH.acu hc2 g6 g7;simp only[go_sem,simprocAttr];refine⟨hz1,hfr2,.inr ⟨dH all s l,⟨hc2,⟨w,g3,by simp_all⟩,λx hx=>?_⟩,?_⟩⟩
    .rw[<-ho]at hx;obtain⟨S,hS,rfl⟩:=acL.1 (g6.subset hx);exact⟨ko _ _ _ _ _ _,Nf s l _ 0 0 (adp _) hS⟩
    grind [gT,CO]
  |run o=>simp_all
  |fail=>
   obtain⟨_,q1,w,q2⟩:=hst;have hst0:(σ++[cz])[id]?=some (er all s l bud bud false w):=by simp_all
   have hnx:gT all s l bud .fail=(none,11,.fail):=by
    grind [gT]
   rw[hnx];have hz1':=hz0;rw[hcz]at hz1';simp only[go_sem,simprocAttr];refine aj.reads (by simp only[go_sem,simprocAttr];rw[hcz]) (TX (σ++[cz]) id all s l bud w q1 hst0) ?_;simp only[go_sem,simprocAttr,an hz1',aC hz1',fV hz1'];refine cX.ret ?_;simp only[go_sem,simprocAttr,an hz1',gP];rw[hcz]at hfr0 hst0;exact⟨_,pF all 11,by simp,rfl,hfr0,hc2,q1,w,hst0⟩
 .have hc':dn=true\/dU all s l=true:=by
   grind
  simp only[go_sem,simprocAttr];rw[<-hcz];refine⟨rfl,hfr0,?_⟩;by_cases hnv:dU all s l=true
  .simp_all
  .have hd:dn=true:=by simp_all
   obtain⟨o,rfl⟩:=hdn.1 hd;obtain⟨p1,⟨w,p2,p3⟩,p4⟩:=hst;refine .inr ⟨o,⟨p1,⟨w,by simp_all,hrv p3⟩,p4⟩,?_⟩;grind [gT]
 .have hz1:=hz;rw[hcz]at hz1;rcases hcase with⟨hnv,hBst⟩|⟨o,⟨p1,⟨w,p2,p3⟩,p4⟩,hnx⟩
  .have hnx:gT all s l bud st=(none,0,st):=by simp_all[gT]
   have hvn':=hvn hnv;subst hvn';have hob3:B.st[id]?=some (er all s l bud sp dn .ar):=by simp_all
   unfold er c7 at hob3;rw[hnx];simp only[go_sem,simprocAttr,an hob3,hnv,an hz1,aC hz1,fV hz1];refine cX.ret ?_;simp only[go_sem,simprocAttr,an hz1,gP];refine⟨_,pF all 0,by simp_all,rfl,hfr,?_⟩;cases st with
   |fresh=>
    show B.st[id]?=_;rw[hBst,acI hidl];exact hst
   |run o=>exact absurd hst.1 (by simp_all)
   |fail=>exact absurd hst.1 (by simp_all)
  .have hob3:=p2;unfold er c7 at hob3;rw[hnx];simp only[go_sem,simprocAttr,an hob3,p3.st.ok,p3.st.un,p3.st.len,p3.st.fR,p1,acH,an hz1,aC hz1,fV hz1];refine⟨λh0=>cX.ret ?_,λh0=>?_⟩
   .have ho:o=[]:=List.length_eq_zero_iff.1 (by omega);subst ho;simp only[go_sem,simprocAttr,an hz1,gP];exact⟨_,pF all 0,hfr.len,rfl,hfr,p1,⟨w,p2,p3⟩,p4⟩
   .obtain⟨x,r,rfl⟩: ∃x r,o=x::r:=by
     cases o with
     |nil=>simp_all
     |cons x r=>simp_all
    have hcut:=p3.cut (a:=1) (b:=(x::r).length) (by simp) (by simp);rcases p3 with⟨rfl,hnil⟩|⟨ido,off,m,zs,rfl,hz2,hle,hx⟩
    .simp_all
    have hml:m=r.length+1:=by
     grind [List.length_drop]
    subst hml;have hzi:zs[off+0]?=some (fS x):=by
     have h1:((x::r).map fS)[0]?=some (fS x):=rfl;simp_all
    have hob4:(B.st++[none])[id]?=some (er all s l bud (CO all s l) true (.row 218 ido off (r.length+1))):=by grind
    have hob5:=hob4;unfold er c7 at hob5;obtain⟨τ,hτ⟩: ∃τ,τ=(B.st++[none]).set id (er all s l bud (CO all s l) true (.row 218 ido (off+1) r.length)):=⟨_,rfl⟩;have hlid:id<(B.st++[none]).length:=(acG.1 hob4).1;have hobτ:τ[id]?=some (er all s l bud (CO all s l) true (.row 218 ido (off+1) r.length)):=by simp_all
    have hne1:id≠σ.length:=by omega
    have hzτ:τ[σ.length]?=some cz:=by grind
    have hzτ':=hzτ;rw[hcz]at hzτ';obtain⟨hx5,hx2⟩:=p4 x (by simp);have hwh:=Ti (W0:=W0) hW τ id all x.2 hH.h0 hH.ho hH.hmn hx2 hobτ;have hτ':=hτ;unfold er c7 at hτ';have hco1: ∀g,okM g (bH x.1)=True:=λg=>ct trivial
    have hco2:unm (bH x.1)=bH x.1:=rfl;have hco3:bc prog 29 (bH x.1)=true:=by kernel_rfl
    simp only[go_sem,simprocAttr,an hz2,aP hz2,hzi,fS,cR,an hob5,aC hob5,acW];rw[<-hτ'];refine⟨.of (by kernel_rfl),aD.st hwh ?_⟩;simp only[go_sem,simprocAttr,hco1,hco2,hco3,an hzτ',aC hzτ'];have hl3:σ.length<τ.length:=(acG.1 hzτ).1;have hlk:(τ.set σ.length (some (.cells 29 [bH x.1])))[σ.length]?=some (some (.cells 29 [bH x.1])):=acM hl3;have hco4: ∀σ',tX none σ' 29 (.loc 29 (bH x.1))=True:=λσ'=>eq_true rfl
    have hfrτ:Fr [id] σ τ:=by grind [Fr.set,Fr.app]
    refine cX.ret ?_;simp only[go_sem,simprocAttr,an hlk,gP];refine⟨_,.refl _,by grind,rfl,hfrτ.set (.inr (ac7 _)) _,p1,⟨.row 218 ido (off+1) r.length,?_,?_⟩,λy hy=>p4 y (List.mem_cons_of_mem _ hy)⟩
    .grind
    .have hidne:ido≠id:=λe=>by
      simp_all
     have hidne2:ido≠σ.length:=λe=>by
      simp_all
     have hr:dx B.st (.row 218 ido (off+1) r.length) 218 (r.map fS):=by
      grind [uw,acQ]
     refine hr.keep λj hj=>?_
     simp[aR]at hj;grind
theorem HH (fs gs:List AV):kR prog 29 fs gs=yX [1,1,1,1,1] fs gs:=by
 have hu:prog.underlying 29=some (.array 5 3):=by kernel_rfl
 have hc:(af prog 3==1&& !prog.eqGuardType prog.depth 29)=true:=by kernel_rfl
 have hf:bt prog 29=some [3,3,3,3,3]:=by kernel_rfl
 have hk:[3,3,3,3,3].map (eqK prog)=[1,1,1,1,1]:=by kernel_rfl
 grind [kR,Jz]
theorem K4 {a b:List Nat}(ha:a.length=5)(hb:b.length=5):kR prog 29 (a.map λx=>.int .i64 (x:Nat)) (b.map λx=>.int .i64 (x:Nat))=some (decide (a=b)):=by
 rw[HH]
 match a,ha,b,hb with
 |[a0,a1,a2,a3,a4],_,[b0,b1,b2,b3,b4],_=>
  simp only[adu,adw,yX,IC,if_true,ac9,Option.map_some,Bool.and_true,adz];grind
theorem zY (l:List Pkg)(hp: ∀p∈l,uJ p):ai prog W0 30 [aI l] (.bool (jY 0 l)):=by
 refine ak [2] [4] func30 rfl rfl ntmps30 rfl rfl (.bool _) λhs σ=>?_
 have hl:=(aL (hs _ (adh ..))).1;have hls:=(aL (hs _ (adh ..))).2;simp only[go_sem,simprocAttr,aI,acH];refine ae.upto [9,10] l.length (λi A=>A.env 11= .int .i64 i/\Ext σ A.st/\jY i (l.drop i)=jY 0 l) 0 (acN _) ?_ λi B hi ⟨h8,hst,hI⟩=>?_
 .simp only[go_sem,simprocAttr];simp[Ext.refl]
 simp only[go_sem,simprocAttr,h8,acH];refine⟨λhc=>⟨hc,?_⟩,λhc=>?_⟩
 .obtain⟨p,hpi⟩:=get_some hc;simp only[aw hpi];have hR:=hp p (acU hpi);have r1:=hR.con;have r2:=hR.brk;have r3:=hR.eN;rw[Ra]at r1 r2 r3;have hw1:IntKind.i64.wrap ((p.con.length:Int)+(p.brk.length:Int))=((p.con.length:Int)+(p.brk.length:Int)):=aG (by omega);have hw2:IntKind.i64.wrap ((p.con.length:Int)+(p.brk.length:Int)+(p.eN.length:Int))=((p.con.length:Int)+(p.brk.length:Int)+(p.eN.length:Int)):=aG (by omega);rw[ac5 hc,jY]at hI;have hpe:l[i]=p:=(acG.1 hpi).2;rw[hpe]at hI;simp only[go_sem,simprocAttr,ax,aF,cG,acH,hw1,hw2];have e3:[aA p.pre,aA p.dep,aA p.rcm]=[p.pre,p.dep,p.rcm].map aA:=rfl;refine⟨λhb=>⟨au ?_,hst.app _⟩,λhb=>?_⟩
  .grind [sx]
  simp only[Bool.or_eq_false_iff,decide_eq_false_iff_not]at hb;have hP:sx i p=[p.pre,p.dep,p.rcm].all vD:=by
   grind [sx]
  simp only[e3];have hds:=hls p (acU hpi);refine ae.ats [9,10,11] (λA=>Ext σ A.st/\sx i p=true) ?_ λB2 ⟨hst,h6⟩=>?_
  .refine ae.upto [9,10,11,38] 3 (λj A=>A.env 39= .int .i64 j/\Ext σ A.st/\([p.pre,p.dep,p.rcm].drop j).all vD=[p.pre,p.dep,p.rcm].all vD) 0 (acN _) ?_ λj B2 hj ⟨h39,hst,hJ⟩=>?_
   .simp only[go_sem,simprocAttr];exact hst.app _
   simp only[go_sem,simprocAttr,h39];simp only[e3];refine⟨λhc2=>?_,λhc2=>?_⟩
   .have hc3:j<[p.pre,p.dep,p.rcm].length:=by grind
    obtain⟨d,hdj⟩:=get_some hc3;have hde:=(acG.1 hdj).2;rw[ac5 hc3,hde,List.all_cons]at hJ;simp only[getD_map hdj];simp only[go_sem,simprocAttr,aA,acH];refine⟨hc3,?_⟩;have hlD:vD d=(decide (d.length<=14)&&d.all λc=>decide (c.length<=10)):=rfl;refine⟨λhb=>⟨au ?_,hst⟩,λhb=>?_⟩
    .grind
    rw[decide_eq_true (show d.length<=14 by omega),Bool.true_and]at hlD;refine ae.ats [9,10,11,38,39] (λA=>Ext σ A.st/\(d.all λc=>decide (c.length<=10))=true) ?_ λB3 ⟨hst,h6⟩=>?_
    .refine ae.upto [9,10,11,38,39,45,46] d.length (λk A=>A.env 47= .int .i64 k/\Ext σ A.st/\ ∀c∈d.take k,c.length<=10) 0 (acN _) ?_ λk B3 hk ⟨h47,hst,hK⟩=>?_
     .simp only[go_sem,simprocAttr];simp[hst]
     simp only[go_sem,simprocAttr,h47,acH];refine⟨λhc4=>⟨hc4,?_⟩,λhc4=>?_⟩
     .obtain⟨c,hck⟩:=get_some hc4;simp only[aw hck];simp only[go_sem,simprocAttr,aF,acH];refine⟨λhb=>⟨au ?_,hst⟩,λhb=>⟨hc4,ag hc4 (by grind [aq]),hst,?_⟩⟩
      .grind
      .rw[ah hck];grind
     grind
    simp only[go_sem,simprocAttr,h39];grind [ag,aq]
   .have:j=3:=by omega
    simp_all
  simp only[go_sem,simprocAttr,h8];grind [ag]
 .have:i=l.length:=by omega
  subst this;rw[List.drop_length]at hI;exact⟨au hI,hst⟩
theorem yf (l:List aB)(hl:l.length<=733007751829):ai prog W0 15 [aK l] (aI (l.map (·.pkg))):=by
 refine ak [2] [5] func15 rfl rfl ntmps15 rfl rfl (kL _) λhs σ=>?_
 simp only[go_sem,simprocAttr,aK,acH];refine ae.at [6,7] (λA=>∃ v,A.env 3=v/\aM σ A.st v 51 ((l.map (·.pkg)).map ax)) ?_ λB ⟨v,h3,hb⟩=>?_
 .refine ae.upto [6,7] l.length (λi A=>∃ v,A.env 3=v/\A.env 8= .int .i64 i/\aM σ A.st v 51 (((l.take i).map (·.pkg)).map ax)) 0 (acN _) ?_ λi B hi ⟨v,h3,h8,hb⟩=>?_
  .simp only[go_sem,simprocAttr];simp[aM.nil,Ext.refl]
  simp only[go_sem,simprocAttr,h3,h8,hb.ok,hb.un,acH];refine⟨λhlt=>⟨hlt,?_⟩,λhlt=>?_⟩
  .obtain⟨x,hx⟩:=get_some hlt;simp only[aw hx];have hb1:=hb.more [none];simp only[go_sem,simprocAttr,bg,ax];refine bA.own 733007751829 (by kernel_rfl) hb1.bld (.lit _ _ _) (by grind) λv' σ' ha'=>?_
   have hb':=hb1.app ha';simp only[go_sem,simprocAttr,h8];refine⟨hlt,_,rfl,ag hlt (by grind [aq]),?_⟩;rw[ah hx,acZ,acZ];exact hb'
  grind
 simp only[go_sem,simprocAttr,h3];exact⟨hb.cb,hb.ext⟩
end Go.Proofs.Tryz
end
section
namespace Go.Av
open Go.Proofs.Tryz
def CR (n x:List UInt8):Bool:=Op.bytesLess x n
def l0 (n:List UInt8)(o:List (List UInt8)):List (List UInt8):=if (o.dropWhile (CR n)).head?=some n then o else o.takeWhile (CR n)++n::o.dropWhile (CR n)
def ff (l:List Pkg):List (List UInt8):=l.foldl (λo p=>l0 p.name o) []
theorem oT {l:List Pkg}{i:Nat}{p:Pkg}(h:l[i]?=some p):ff (l.take (i+1))=l0 p.name (ff (l.take i)):=by
 simp_all[ff,ah]
theorem P5 (n:List UInt8)(o:List (List UInt8)):(l0 n o).length<=o.length+1:=by
 grind [l0,ac1]
theorem Hm (l:List Pkg):(ff l).length<=l.length:=by
 have key: ∀(l:List Pkg) (o:List (List UInt8)),(l.foldl (λo p=>l0 p.name o) o).length<=o.length+l.length:=λl=>by
  induction l with
  |nil=>simp_all
  |cons p l ih=>
   grind [P5]
 grind [ff]
theorem xB (n x:List UInt8)(o:List (List UInt8)):x∈l0 n o↔x=n\/x∈o:=by
 have h0:=ac1 (p:=CR n) (l:=o);grind [l0,List.mem_of_head?]
theorem xq {n:List UInt8}: ∀{o:List (List UInt8)},o.Pairwise (λx y=>Op.bytesLess x y=true)->(l0 n o).Pairwise λx y=>Op.bytesLess x y=true
 |[],_=>by simp[l0]
 |x::r,h=>by
  obtain⟨h1,h2⟩:=ac0.1 h;by_cases hx:CR n x=true
  .have e:l0 n (x::r)=x::l0 n r:=by
    grind [l0,List.dropWhile_cons_of_pos,List.takeWhile_cons_of_pos]
   rw[e];refine ac0.2 ⟨λy hy=>?_,xq h2⟩;rcases(xB n y r).1 hy with rfl|hy
   .exact hx
   simp_all
  .unfold l0;rw[List.dropWhile_cons_of_neg hx,List.takeWhile_cons_of_neg hx];grind [k8,CR,eF]
theorem MY (l:List Pkg):(ff l).length=(dE l []).length:=by
 have key: ∀(l:List Pkg) (o:List (List UInt8)),o.Pairwise (λx y=>Op.bytesLess x y=true)->(l.foldl (λo p=>l0 p.name o) o).Pairwise (λx y=>Op.bytesLess x y=true)/\ ∀x,x∈l.foldl (λo p=>l0 p.name o) o↔x∈o\/ ∃p∈l,p.name=x:=λl=>by
  induction l with
  |nil=>simp_all
  |cons p l ih=>
   grind [xq,xB]
 obtain⟨g1,g2⟩:=key l [] .nil;grind [ff,adA,ew,adg,iz,iV]
end Go.Av
end
section
namespace Go.Proofs.Tryz
open Go Go.Av
set_option maxRecDepth 10000
variable {W0 :World}
theorem Ae (l:List Pkg)(hl:l.length<=1024):ai prog W0 32 [aI l] (.sl 9 ((ff l).map .str)):=by
 refine jJ [2] [5,45,2000044,2000048,2000052,2000003] func32 rfl rfl ntmps32 rfl rfl (AH _) λhs σ=>?_
 have ht:elT prog 73=some 9:=by kernel_rfl
 simp only[go_sem,simprocAttr,aI];refine ae.at [7,8] (λA=>∃ v,A.env 3=v/\dL σ A.st v 9 ((ff l).map .str)) ?_ λB ⟨v,h3,hb⟩=>?_
 .refine ae.upto [7,8] l.length (λi A=>∃ v,A.env 3=v/\A.env 9= .int .i64 i/\dL σ A.st v 9 ((ff (l.take i)).map .str)) 0 (acN _) ?_ λi B hi ⟨v,h3,h9,hb⟩=>?_
  .simp only[go_sem,simprocAttr];exact⟨_,rfl,dL.nil (.refl _) _⟩
  have hok:=hb.nP.ok;have hun:=hb.nP.un;simp only[go_sem,simprocAttr,h3,h9,acH];refine⟨λhc=>?_,λhc=>?_⟩
  .obtain⟨p,hp⟩:=get_some hc;have ho:(ff (l.take i)).length<=1024:=by grind [Hm]
   obtain⟨o,hoo⟩: ∃o,o=ff (l.take i):=⟨_,rfl⟩;rw[<-hoo]at hb ho;have hb':=hb.more [none];have hlen:oA v= .int .i64 o.length:=by rw[hb.row.st.len,acH]
   have hlc:=λt=>hb.row.st.fR prog t
   simp only[go_sem,simprocAttr,aw hp,ax];refine⟨hc,ae.at [3,5,7,8,9] (λA=>∃ a:Nat,A.env 6= .int .i64 a/\a<=o.length/\A.st=B.st++[none]/\(∀k x,k<a->o[k]?=some x->CR p.name x=true)/\(∀x,o[a]?=some x->CR p.name x=false)) ?_ λC ⟨a,h6,hle,hst,hI,hJ⟩=>?_⟩
   .refine ae.upto [3,5,7,8,9] o.length (λa A=>A.env 6= .int .i64 a/\A.st=B.st++[none]/\(∀k x,k<a->o[k]?=some x->CR p.name x=true)) 0 (acN _) ?_ λa C hle ⟨h6,hst,hI⟩=>?_
    .simp only[go_sem,simprocAttr]
    by_cases hlt:a<o.length
    .obtain⟨q,hq⟩:=get_some hlt;have hok2:=hok;rcases hb'.row with⟨rfl,h0⟩|⟨id,off,m,zs,rfl,g1,g2,g3⟩
     .simp_all
     have hm:m=o.length:=by rw[<-dx.IT (σ:=B.st) (e:=9) (id:=id) g2 g3,acH]
     have hz:zs[off+a]?=some (AV.str q):=by
      have h1:((zs.drop off).take m)[a]?=some (AV.str q):=by grind
      simp_all
     have hk0:Av.look C.st id (off+a) []=some (.str q):=by
      rw[hst];unfold Av.look;rw[g1];simp only[hz,ac9];rfl
     have hlv:live C.st id:=by grind [aP]
     simp only[go_sem,simprocAttr,h3,h6,hm,hk0,hlv,hlt];refine⟨.of (by kernel_rfl),?_⟩;refine⟨λhb1=>⟨ag hlt (by grind [aq]),hst,λk x hk hx=>?_⟩,λhb0=>⟨a,rfl,hle,hst,hI,λx hx=>?_⟩⟩
     .rcases Nat.lt_succ_iff_lt_or_eq.1 hk with h|rfl
      .grind
      .rw[hq]at hx;cases hx;exact hb1
     .rw[hq]at hx;cases hx;exact hb0
    .simp only[go_sem,simprocAttr,h3,h6,hok,hun,hlen,hlc,hlt,j8];refine⟨.of (by kernel_rfl),?_⟩;grind
   have hrow:dx C.st v 9 (o.map AV.str):=by grind [dL.row]
   have hle':a<=(o.map AV.str).length:=by simp_all
   have hc1:=hrow.cut (acN a) hle';have hc2:=hrow.cut hle' (ac7 _);rw[acH]at hc2;have q1:=hc1.st.ok;have q2:=hc1.st.un;have q3:=hc2.st.ok;have q4:=hc2.st.un;have hdr:(o.drop a).head?=o[a]?:=by simp_all
   by_cases hlt:a<o.length
   .obtain⟨q,hq⟩:=get_some hlt;rcases hrow with⟨rfl,h0⟩|⟨id,off,m,zs,rfl,g1,g2,g3⟩
    .simp_all
    have hrow:dx C.st (.row 9 id off m) 9 (o.map AV.str):=.inr ⟨id,off,m,zs,rfl,g1,g2,g3⟩;have hm:m=o.length:=by rw[<-dx.IT (σ:=B.st) (e:=9) (id:=id) g2 g3,acH]
    subst hm;have hz:zs[off+a]?=some (AV.str q):=by
     have h1:((zs.drop off).take o.length)[a]?=some (AV.str q):=by grind
     simp_all
    have hlk:Av.look C.st id (off+a) []=some (.str q):=by
     unfold Av.look;rw[g1];simp only[hz,ac9];rfl
    have hlv:live C.st id:=by grind [aP]
    have hf:((a:Int)==(o.length:Int))=false:=by grind
    simp only[go_sem,simprocAttr,h3,h6,h9,hlk,hlv,hf,hlt,j8];refine⟨.of (by kernel_rfl),λhnq=>?_,λheq=>?_⟩
    .have hne: ¬(o.drop a).head?=some p.name:=by simp_all
     simp only[go_sem,simprocAttr,hle];refine⟨.of (by kernel_rfl),acN _,bA.Cv (σ:=C.st) (by simp only[go_sem,simprocAttr]) 1048576 (by kernel_rfl) (.inl ⟨rfl,rfl⟩) hc1.st.read (by grind) λv1 σ1 ha1=>?_⟩;have q5:=ha1.row.st.ok;have q6:=ha1.row.st.un;simp only[go_sem,simprocAttr,q5,q6];refine bA.Cv (σ:=σ1) (by simp only[go_sem,simprocAttr]) 1048576 (by kernel_rfl) ha1.row (.lit _ _ _) (by grind) λv2 σ2 ha2=>?_
     have q7:=ha2.row.st.ok;have q8:=ha2.row.st.un;have hk:dx σ2 (uw a o.length (.row 9 id off o.length)) 9 _:=hc2.keep λj hj=>by
      rw[pv]at hj;have hj1:=hrow.lt j hj;have hj2:j∉aR v1:=λh=>by
       rcases ha1.aR j h with h|h
       .grind [aR]
       .omega
      rw[ha2.fr.old j (ac4 hj1 ha1.fr.len) hj2,ha1.fr.old j hj1 (by simp[aR])]
     simp only[go_sem,simprocAttr,q7,q8];refine bA.Cv (σ:=σ2) (by simp only[go_sem,simprocAttr]) 1048576 (by kernel_rfl) ha2.row hk.st.read (by grind) λv3 σ3 ha3=>?_
     have q9:=ha3.row.st.ok;have q10:=ha3.row.st.un;simp only[go_sem,simprocAttr,h9];refine⟨hc,_,rfl,ag hc (by grind [aq]),?_⟩;have hx:Ext σ C.st:=by grind [dL.ext]
     have hfin:=(((dL.nil hx 9).app ha1).app ha2).app ha3;rw[oT hp,<-hoo,l0,(gW hI hJ).1,(gW hI hJ).2,if_neg hne];grind [acQ,List.map_take,List.map_drop]
    .have hqe:q=p.name:=by omega
     refine⟨hc,_,rfl,ag hc (by grind [aq]),?_⟩;rw[oT hp,<-hoo,l0,(gW hI hJ).2,if_pos (by simp_all),hst];exact hb'
   .have hal:a=o.length:=by omega
    have hlen2:oA v= .int .i64 o.length:=hlen;have hf:((a:Int)==(o.length:Int))=true:=by simp_all
    have hne: ¬(o.drop a).head?=some p.name:=by simp_all
    simp only[go_sem,simprocAttr,h3,h6,h9,hok,hun,hlen2,hlc,hf,uP,hrow.aa4,hrow.om ht,hle,acH,q1,q2];refine⟨.of (by kernel_rfl),?_⟩;refine⟨.of (by kernel_rfl),acN _,bA.Cv (σ:=C.st) (by simp only[go_sem,simprocAttr]) 1048576 (by kernel_rfl) (.inl ⟨rfl,rfl⟩) hc1.st.read (by grind) λv1 σ1 ha1=>?_⟩;have q5:=ha1.row.st.ok;have q6:=ha1.row.st.un;simp only[go_sem,simprocAttr,q5,q6];refine bA.Cv (σ:=σ1) (by simp only[go_sem,simprocAttr]) 1048576 (by kernel_rfl) ha1.row (.lit _ _ _) (by grind) λv2 σ2 ha2=>?_
    have q7:=ha2.row.st.ok;have q8:=ha2.row.st.un;have hk:dx σ2 (uw a o.length v) 9 _:=hc2.keep λj hj=>by
     rw[pv]at hj;have hj1:=hrow.lt j hj;have hj2:j∉aR v1:=λh=>by
      rcases ha1.aR j h with h|h
      .grind [aR]
      .omega
     rw[ha2.fr.old j (ac4 hj1 ha1.fr.len) hj2,ha1.fr.old j hj1 (by simp[aR])]
    simp only[go_sem,simprocAttr,q3,q4,q7,q8];refine bA.Cv (σ:=σ2) (by simp only[go_sem,simprocAttr]) 1048576 (by kernel_rfl) ha2.row hk.st.read (by grind) λv3 σ3 ha3=>?_
    have q9:=ha3.row.st.ok;have q10:=ha3.row.st.un;simp only[go_sem,simprocAttr,h9];refine⟨hc,_,rfl,ag hc (by grind [aq]),?_⟩;have hx:Ext σ C.st:=by grind [dL.ext]
    have hfin:=(((dL.nil hx 9).app ha1).app ha2).app ha3;rw[oT hp,<-hoo,l0,(gW hI hJ).1,(gW hI hJ).2,if_neg hne];grind
  grind
 simp only[go_sem,simprocAttr,h3];exact fA.Uc (hb.nP) (.inl rfl) (by simp only[go_sem,simprocAttr])
end Go.Proofs.Tryz
end
section
namespace Go.Av
open Go.Proofs.Tryz
structure j2 where
 ess:Bool
 pre:List Nat
 dep:List Nat
 con:List Nat
 brk:List Nat
 deriving DecidableEq
structure bE where
 name:List UInt8
 old:j2
 new:j2
 wanted:Bool
 ver:List UInt8
 same:Bool
 kK:Bool
 deriving DecidableEq
def gy (t:List Pkg)(n:List UInt8):Option Pkg:=t.find? λp=>p.name==n
def cw (s:List aB)(t:List Pkg)(n:List UInt8):Bool:=match ca s n,gy t n with
 |some x,some p=>x.ku&&bb x.pkg.ver p.ver
 |_,_=>false
def aO (s:List aB)(t:List Pkg):List (List UInt8):=ff (s.map (·.pkg)++t)
def nH (i:Nat)(w:Bool):Nat:=2^(2*i+if w=true then 1 else 0)
def ml (s:List aB)(t:List Pkg)(i:Nat)(n:List UInt8):List (Pkg×Nat):=
 (match ca s n with|some x=>[(x.pkg,nH i false)]|none=>[])++match gy t n with|some p=>[(p,nH i true)]|none=>[]
def cj (s:List aB)(t:List Pkg):List (Pkg×Nat):=fmI (ml s t) 0 (aO s t)
def ft (l:List (Pkg×Nat))(c:Clause):Nat:=l.foldl (λo x=>if c.any (c8 x.1)=true then o ||| x.2 else o) 0
def eS (l:List (Pkg×Nat))(p:Pkg):j2:=⟨p.ess,p.pre.map (ft l),p.dep.map (ft l),p.con.map λa=>ft l [a],p.brk.map λa=>ft l [a]⟩
def ly :j2:=⟨false,[],[],[],[]⟩
def nZ (s:List aB)(t:List Pkg)(l:List (Pkg×Nat))(n:List UInt8):bE where
 name:=n
 old:=match ca s n with|some x=>eS l x.pkg|none=>ly
 new:=match gy t n with|some p=>eS l p|none=>ly
 wanted:=(gy t n).isSome
 ver:=match gy t n with|some p=>p.ver|none=>[]
 same:=match ca s n,gy t n with|some x,some p=>bb x.pkg.ver p.ver|_,_=>false
 kK:=!cw s t n
def dW (s:List aB)(n:List UInt8):UInt8:=match ca s n with|none=>0|some x=>if x.ku=true then 2 else 1
def pO (n:bE)(c:UInt8):Bool:=if n.wanted=true then c==4||(c==2&&n.same)else c==0
def mg (ns:List bE)(k:List UInt8):Bool:=(ns.zip k).all λx=>pO x.1 x.2
def Nx (kind n:Nat)(pre:Bool)(i o:Nat):Nat:=(((kind*256+n)*2+if pre=true then 1 else 0)*16+i)*256+o
def gM (k:List UInt8):Nat:=(fmI (λi c=>if c=0 then []else [nH i (decide (3<=c.toNat))]) 0 k).foldl (· ||| ·) 0
def onK (k:List UInt8):Nat:=(fmI (λi c=>if c=2\/c=4 then [nH i (decide (3<=c.toNat))]else []) 0 k).foldl (· ||| ·) 0
def gn (n:Nat)(pre:Bool)(on i m:Nat):List Nat:=if m &&& on=0 then [Nx 1 n pre i 0]else []
def og (kind n:Nat)(there i m k:Nat):List Nat:=if k≠n/\m &&& there &&& (nH k false ||| nH k true)≠0 then [Nx kind n false i k]else []
def cP (kind n len there i m:Nat):List Nat:=(List.range len).flatMap (og kind n there i m)
def jg (ns:List bE)(k:List UInt8)(i:Nat)(c:UInt8):List Nat:=
 if c=0 then []else match ns[i]? with
  |none=>[]
  |some n=>
   let f:=if 3<=c.toNat then n.new else n.old
   fmI (gn i true (onK k)) 0 f.pre++(if c=2\/c=4 then fmI (gn i false (onK k)) 0 f.dep else [])++fmI (cP 2 i ns.length (gM k)) 0 f.con++fmI (cP 3 i ns.length (onK k)) 0 f.brk
def fY (ns:List bE)(k:List UInt8):List Nat:=fmI (jg ns k) 0 k
def fI (n:bE)(kind:Nat)(c:UInt8):Option UInt8:=
 if kind=1 then(if c=2\/c=4 then some (c-1)else none)
 else if kind=4 then(if c=1\/c=3 then some (c+1)else none)
 else if kind=2 then(if c≠0/\(if 3<=c.toNat then n.new else n.old).ess=false then some 0 else none)
 else if n.wanted=true/\(c=0\/((c=1\/c=2)/\n.same=false))then some 3 else none
def jb (k:List UInt8):Nat:=(k.filter (· !=0)).length
def nO (ns:List bE)(k:List UInt8)(kind i:Nat)(n:bE):List (bN×List UInt8):=match k[i]? with
 |none=>[]
 |some c=>match fI n kind c with
  |none=>[]
  |some d=>
   if n.kK=true/\jb (k.set i d)<=10/\(fY ns (k.set i d)).all (λv=>(fY ns k).contains v)=true then [(⟨kind,n.name,if kind=3 then n.ver else []⟩,k.set i d)]else []
def jS (ns:List bE)(k:List UInt8):List (bN×List UInt8):=[1,2,3,4].flatMap λkind=>fmI (nO ns k kind) 0 ns
def gQ (s:List aB)(t:List Pkg):List bE:=(aO s t).map (nZ s t (cj s t))
def eW (s:List aB)(t:List Pkg):List (List UInt8):=(aO s t).filter λn=>!cw s t n
def eI (s:List aB)(t:List Pkg):List bN×Int:=
 if br s≠0 then([],br s)else if aY t≠0 then([],aY t)else if ¬(t.map (·.name)).Nodup then([],1)
 else if 6<(eW s t).length then([],12)
 else match sA id (jS (gQ s t)) (mg (gQ s t)) 20000 [((aO s t).map (dW s),[])] 0 with
  |some (some p)=>(p,0)
  |_=>([],8)
end Go.Av
end
section
namespace Go.Av
open Go.Proofs Go.Proofs.Tryz
def sC (x y:List UInt8):Prop:=Op.bytesLess x y=true
theorem Ye (x y:List UInt8):decide (x<=y)= !Op.bytesLess y x:=by
 rw[Go.Proofs.bytesLess_eq,adq];simp[List.not_lt]
theorem JA {x y z:List UInt8}(h1:Op.bytesLess y x=false)(h2:Op.bytesLess z y=false):Op.bytesLess z x=false:=by
 grind [k8,eF,ew]
theorem Ba (l:List (List UInt8)):(l.mergeSort λx y=>decide (x<=y)).Pairwise λx y=>Op.bytesLess y x=false:=by
 refine(ada (λx y z h1 h2=>?_) (λx y=>?_) l).imp λ{x y} h=>?_
 .simp only[Ye,ac8]at *;exact JA h1 h2
 .simp only[Ye,adr,ac8];grind [k8,eF,ew]
 .simpa[Ye]using h
theorem uM : ∀{l m:List (List UInt8)},l.Pairwise sC->m.Pairwise sC->(∀x,x∈l↔x∈m)->l=m
 |[],[],_,_,_=>rfl
 |[],y::m,_,_,h=>absurd ((h y).2 (by simp)) (by simp)
 |x::l,[],_,_,h=>absurd ((h x).1 (by simp)) (by simp)
 |x::l,y::m,h1,h2,h=>by
  obtain⟨a1,a2⟩:=ac0.1 h1;obtain⟨b1,b2⟩:=ac0.1 h2;unfold sC at a1 b1;have e:x=y:=by
   refine adt λhne=>?_
   have g1:=(h x).1 (by simp);have g2:=(h y).2 (by simp);grind [eF,ew]
  subst e;rw[uM a2 b2 λz=>?_];have:=h z;grind [ew]
theorem Rk {o m:List (List UInt8)}(ho:o.Nodup)(hm:m.Pairwise sC)(h: ∀x,x∈o↔x∈m):(o.mergeSort λx y=>decide (x<=y))=m:=by
 have hp:=acY o λx y=>decide (x<=y)
 refine uM ?_ hm λx=>(hp.mem_iff).trans (h x)
 have h1:=Ba o;have h2:(o.mergeSort λx y=>decide (x<=y)).Nodup:=(hp.nodup_iff).2 ho;refine(h1.and h2).imp λ{x y} ⟨g1,g2⟩=>?_
 exact k8 (λe=>g2 e.symm) g1
def gp (q:List UInt8->Bool)(o:List (List UInt8))(n:List UInt8):List (List UInt8):=if (q n&& !o.any λx=>n==x)=true then o++[n]else o
theorem Sh (q:List UInt8->Bool)(l:List (List UInt8)): ∀(o:List (List UInt8)) (x:List UInt8),x∈l.foldl (gp q) o↔x∈o\/(x∈l/\q x=true):=by
 induction l with
 |nil=>simp
 |cons n r ih=>
  intro o x;rw[ac2,ih];unfold gp;grind
theorem Ha (q:List UInt8->Bool)(l:List (List UInt8)): ∀(o:List (List UInt8)),o.Nodup->(l.foldl (gp q) o).Nodup:=by
 induction l with
 |nil=>simp
 |cons n r ih=>
  intro o ho;rw[ac2];refine ih _ ?_;unfold gp;grind [adi]
theorem ya (q:List UInt8->Bool)(l:List (List UInt8)): ∀(o:List (List UInt8)),(l.foldl (gp q) o).length<=o.length+l.length:=by
 induction l with
 |nil=>simp
 |cons n r ih=>
  intro o;rw[ac2];have:=ih (gp q o n);unfold gp at *;grind
theorem tT {zs:List (List UInt8)}(hz:zs.Pairwise λx y=>Op.bytesLess y x=false): ∀m,m<=zs.length->(Lib.compactUpTo zs.toArray m).Pairwise sC/\ ∀x,x∈Lib.compactUpTo zs.toArray m↔x∈zs.take m
 |0,_=>by simp[Lib.compactUpTo]
 |m+1,hm=>by
  obtain⟨i1,i2⟩:=tT hz m (by omega);have hg:zs[m]?=some zs[m]:=List.getElem?_eq_getElem (by omega);have hgm:zs.toArray[m]! =zs[m]:=by simp[getElem!_pos,show m<zs.length by omega]
  rw[Lib.compactUpTo_succ,ah hg,hgm];by_cases h0:m=0
  .subst h0
   have:Lib.keeps zs.toArray 0=true:=by simp[Lib.keeps]
   simp[this,Lib.compactUpTo]
  have hgp:zs.toArray[m-1]! =zs[m-1]:=by simp[getElem!_pos,show m-1<zs.length by omega]
  have hle: ∀x∈zs.take m,Op.bytesLess zs[m] x=false:=λx hx=>by
   obtain⟨j,hj,rfl⟩:=acX.1 hx;exact ac6.1 hz j m (by omega) (by omega) (by omega)
  have hle2: ∀x∈zs.take m,x=zs[m-1]\/Op.bytesLess zs[m-1] x=false:=λx hx=>by
   obtain⟨j,hj,rfl⟩:=acX.1 hx;by_cases e:j=m-1
   .subst e;exact .inl rfl
   .exact .inr (ac6.1 hz j (m-1) (by omega) (by omega) (by omega))
  have hpm:zs[m-1]∈zs.take m:=acX.2 ⟨m-1,by omega,rfl⟩;by_cases hk:zs[m]=zs[m-1]
  .have:Lib.keeps zs.toArray m=false:=Lib.keeps_neg (by omega) (by rw[hgm,hgp];exact hk);rw[this];simp only[Bool.false_eq_true,if_false,acS];refine⟨i1,λx=>?_⟩;rw[i2];grind
  .have:Lib.keeps zs.toArray m=true:=Lib.keeps_pos (by rw[hgm,hgp];exact hk);rw[this];simp only[if_true];refine⟨List.pairwise_append.2 ⟨i1,by simp,λx hx y hy=>?_⟩,λx=>?_⟩
   .rw[acK.1 hy];have h1:=(i2 x).1 hx;have h2:=hle2 x h1;have h3:=hle _ h1;have h4:=hle _ hpm;unfold sC;grind [k8,eF,ew]
   .rw[acJ,acJ,i2]
theorem F3 {l m:List (List UInt8)}(hm:m.Pairwise sC)(h: ∀x,x∈l↔x∈m):Lib.compact (l.mergeSort λx y=>decide (x<=y))=m:=by
 obtain⟨h1,h2⟩:=tT (Ba l) _ (ac7 _);refine uM h1 hm λx=>?_
 have h3:=h2 x;rw[adn]at h3;exact h3.trans ((acY l _).mem_iff.trans (h x))
theorem qu (l:List Pkg):(ff l).Pairwise sC:=by
 have key: ∀(l:List Pkg) (o:List (List UInt8)),o.Pairwise sC->(l.foldl (λo p=>l0 p.name o) o).Pairwise sC:=λl=>by
  induction l with
  |nil=>exact λo h=>h
  |cons p l ih=>exact λo h=>ih _ (xq h)
 exact key l [] .nil
theorem H7 (l:List Pkg)(x:List UInt8):x∈ff l↔ ∃p∈l,p.name=x:=by
 have key: ∀(l:List Pkg) (o:List (List UInt8)),x∈l.foldl (λo p=>l0 p.name o) o↔x∈o\/ ∃p∈l,p.name=x:=λl=>by
  induction l with
  |nil=>simp
  |cons p l ih=>
   intro o;rw[ac2,ih,xB];grind
 rw[ff,key];simp
def k9 (s:List aB)(t:List Pkg):List (List UInt8):=s.map (·.pkg.name)++t.map (·.name)
theorem sa (s:List aB)(t:List Pkg)(x:List UInt8):x∈k9 s t↔x∈aO s t:=by
 unfold k9 aO;rw[H7];grind
theorem Hv (s:List aB)(t:List Pkg)(b:Bool):(((k9 s t).foldl (gp λn=>cw s t n==b) []).mergeSort λx y=>decide (x<=y))=(aO s t).filter λn=>cw s t n==b:=by
 refine Rk (Ha _ _ _ .nil) ((qu _).filter _) λx=>?_
 rw[Sh,ade,sa];simp
theorem yW (s:List aB)(t:List Pkg):Lib.compact ((k9 s t).mergeSort λx y=>decide (x<=y))=aO s t:=F3 (qu _) (sa s t)
end Go.Av
end
section
namespace Go.Av
open Go.Proofs.Tryz
def eU :List bE->List UInt8->List (List UInt8)
 |n::ns,c::k=>(if n.kK=true then [0,1,2,3,4]else [c]).flatMap λd=>(eU ns k).map (d:: ·)
 |_,k=>[k]
theorem Gv : ∀(ns:List bE) (k:List UInt8),(eU ns k).length<=5^(ns.filter (·.kK)).length
 |[],k=>by simp[eU]
 |n::ns,[]=>by
  simp only[eU,acW,ac3];exact Nat.pow_pos (by decide)
 |n::ns,c::k=>by
  have ih:=Gv ns k;rw[eU,adm];cases h:n.kK
  .simpa using ih
  .simp only[if_pos,adj,List.flatMap_nil,acR,acH,ac3,acW,Nat.pow_succ];omega
theorem z7 : ∀(ns:List bE) (k:List UInt8),(∀c∈k,c.toNat<=4)->k∈eU ns k
 |[],k,_=>by simp[eU]
 |n::ns,[],_=>by simp[eU]
 |n::ns,c::k,h=>by
  have ih:=z7 ns k λd hd=>h d (by simp[hd])
  rw[eU,acV];refine⟨c,?_,acL.2 ⟨k,ih,rfl⟩⟩;split
  .have:=h c (by simp);have e: ∀m:UInt8,m.toNat=c.toNat->c=m:=λm hm=>UInt8.toNat_inj.1 hm.symm
   have:c.toNat=0\/c.toNat=1\/c.toNat=2\/c.toNat=3\/c.toNat=4:=by omega
   rcases this with h|h|h|h|h
   .rw[e 0 (by simp[h])];simp
   .rw[e 1 (by simp[h])];simp
   .rw[e 2 (by simp[h])];simp
   .rw[e 3 (by simp[h])];simp
   .rw[e 4 (by simp[h])];simp
  .simp
theorem wg {d:UInt8}(hd:d∈([0,1,2,3,4]:List UInt8)): ∀{ns:List bE} {k k':List UInt8} {i:Nat} {n:bE},k'∈eU ns k->ns[i]?=some n->n.kK=true->i<k.length->k'.set i d∈eU ns k
 |n::ns,[],_,i,m,_,_,_,h=>by cases h
 |n::ns,c::k,k',i,m,hk,hn,hm,hi=>by
  rw[eU,acV]at hk ⊢;obtain⟨x,hx,hk⟩:=hk;obtain⟨r,hr,rfl⟩:=acL.1 hk;cases i with
  |zero=>
   cases hn;rw[if_pos hm]at hx ⊢;exact⟨d,hd,acL.2 ⟨r,hr,rfl⟩⟩
  |succ i=>exact⟨x,hx,acL.2 ⟨r.set i d,wg hd hr hn hm (by simpa using hi),rfl⟩⟩
theorem mw : ∀{ns:List bE} {k k':List UInt8},k'∈eU ns k->k'.length=k.length
 |[],k,k',h=>by simp[eU]at h;rw[h]
 |n::ns,[],k',h=>by simp[eU]at h;rw[h]
 |n::ns,c::k,k',h=>by
  rw[eU,acV]at h;obtain⟨x,_,h⟩:=h;obtain⟨r,hr,rfl⟩:=acL.1 h;simp[mw hr]
theorem xD {n:bE}{kind:Nat}{c d:UInt8}(h:fI n kind c=some d):d∈([0,1,2,3,4]:List UInt8):=by
 unfold fI at h;have key: ∀(p:Prop) [Decidable p] (x:UInt8),(if p then some x else none)=some d->p/\x=d:=λp _ x h=>by
  split at h
  .exact⟨by assumption,by simpa using h⟩
  .cases h
 by_cases h1:kind=1
 .rw[if_pos h1]at h;obtain⟨g,rfl⟩:=key _ _ h;rcases g with rfl|rfl<;>decide
 rw[if_neg h1]at h;by_cases h4:kind=4
 .rw[if_pos h4]at h;obtain⟨g,rfl⟩:=key _ _ h;rcases g with rfl|rfl<;>decide
 rw[if_neg h4]at h;by_cases h2:kind=2
 .rw[if_pos h2]at h;obtain⟨_,rfl⟩:=key _ _ h;decide
 .rw[if_neg h2]at h;obtain⟨_,rfl⟩:=key _ _ h;decide
def KQ (ns:List bE)(k0:List UInt8)(l:List (List UInt8×List bN)):Prop:=(l.map (·.1)).Nodup/\ ∀x∈l,x.1∈eU ns k0
theorem Ji {ns:List bE}{k0 k:List UInt8}(hl:k0.length=ns.length)(h4: ∀c∈k0,c.toNat<=4)(hk:k∈eU ns k0): ∀x∈jS ns k,x.2∈eU ns k0:=λx hx=>by
 have key: ∀(kind b:Nat) (l:List bE),(∀j n,l[j]?=some n->ns[b+j]?=some n)->x∈fmI (nO ns k kind) b l->x.2∈eU ns k0:=λkind b l=>by
  induction l generalizing b with
  |nil=>intro _ h;cases h
  |cons n l ih=>
   intro hb h;rw[fmI]at h;rcases acJ.1 h with h|h
   .have hn:ns[b]?=some n:=hb 0 n rfl;have hbl:=(acG.1 hn).1;unfold nO at h;split at h
    .cases h
    rename_i c hc;split at h
    .cases h
    rename_i d hd;split at h
    .rename_i hm;cases acK.1 h;exact wg (xD hd) hk hn hm.1 (by omega)
    .cases h
   .exact ih (b+1) (λj m hj=>by have:=hb (j+1) m hj;rwa [show b+(j+1)=b+1+j by omega]at this) h
 obtain⟨kind,_,hx⟩:=acV.1 hx;exact key kind 0 ns (λj n hj=>by rwa [Nat.zero_add]) hx
theorem Aj {ns:List bE}{k0:List UInt8}(p:List bN): ∀{m:List (bN×List UInt8)} {l:List (List UInt8×List bN)},(∀x∈m,x.2∈eU ns k0)->KQ ns k0 l->KQ ns k0 (jD id p m l)
 |[],l,_,h=>h
 |x::m,l,hm,h=>by
  rw[jD];refine Aj p (λy hy=>hm y (by simp[hy])) ?_;split
  .exact h
  .rename_i hx;refine⟨?_,λy hy=>?_⟩
   .rw[acZ,adi];refine⟨h.1,by simp,λa ha b hb e=>?_⟩;rw[adu,adw,acK]at hb;subst e hb;exact hx ha
   .rcases acJ.1 hy with hy|hy
    .exact h.2 y hy
    .rw[acK.1 hy];exact hm x (by simp)
theorem xV {ns:List bE}{k0:List UInt8}{l:List (List UInt8×List bN)}(h:KQ ns k0 l):l.length<=5^(ns.filter (·.kK)).length:=by
 have h1:=kj (l.map (·.1)) (eU ns k0) h.1 λx hx=>by
  obtain⟨y,hy,rfl⟩:=acL.1 hx;exact h.2 y hy
 rw[acH]at h1;exact adv h1 (Gv ns k0)
end Go.Av
end
section
namespace Go.Av
open Go.Proofs Go.Proofs.Tryz
theorem DD (l:List Nat)(a:Nat):(l++[a]).foldl (· ||| ·) 0=l.foldl (· ||| ·) 0 ||| a:=by simp
theorem JX {e:Nat}: ∀{l:List Nat} {o:Nat},(∀x∈l,x<2^e)->o<2^e->l.foldl (· ||| ·) o<2^e
 |[],_,_,h=>h
 |x::r,o,h,ho=>JX (l:=r) (λy hy=>h y (by simp[hy])) (acP ho (h x (by simp)))
theorem mZ {i:Nat}{w:Bool}(hi:i<=20):nH i w<2^60:=acT (by decide) (by split<;>omega)
theorem uT {α β:Type}{f:Nat->α->List β}{y:β}: ∀{l:List α} {b:Nat},y∈fmI f b l-> ∃i a,l[i]?=some a/\y∈f (b+i) a
 |[],b,h=>by cases h
 |a::r,b,h=>by
  rw[fmI]at h;rcases acJ.1 h with h|h
  .exact⟨0,a,rfl,h⟩
  .obtain⟨i,c,h1,h2⟩:=uT h;exact⟨i+1,c,by simpa using h1,by rw[show b+(i+1)=b+1+i by omega];exact h2⟩
theorem ED {k:List UInt8}{i:Nat}{c:UInt8}(h:k[i]?=some c):gM (k.take (i+1))=if c=0 then gM (k.take i)else gM (k.take i) ||| nH i (decide (3<=c.toNat)):=by
 unfold gM;rw[fx h];by_cases hc:c=0
 .rw[if_pos hc,if_pos hc,acS]
 .rw[if_neg hc,if_neg hc,DD]
theorem P6 {k:List UInt8}{i:Nat}{c:UInt8}(h:k[i]?=some c):onK (k.take (i+1))=if c=2\/c=4 then onK (k.take i) ||| nH i (decide (3<=c.toNat))else onK (k.take i):=by
 unfold onK;rw[fx h];by_cases hc:c=2\/c=4
 .rw[if_pos hc,if_pos hc,DD]
 .rw[if_neg hc,if_neg hc,acS]
theorem A9 {k:List UInt8}(hk:k.length<=20):gM k<2^60:=by
 refine JX (λx hx=>?_) (by decide);obtain⟨i,a,h1,h2⟩:=uT hx;have:=(acG.1 h1).1;split at h2
 .cases h2
 .rw[acK.1 h2];exact mZ (by omega)
theorem S4 {k:List UInt8}(hk:k.length<=20):onK k<2^60:=by
 refine JX (λx hx=>?_) (by decide);obtain⟨i,a,h1,h2⟩:=uT hx;have:=(acG.1 h1).1;split at h2
 .rw[acK.1 h2];exact mZ (by omega)
 .cases h2
structure A6 (f:j2):Prop where
 pre:f.pre.length<=12
 dep:f.dep.length<=12
 con:f.con.length<=12
 brk:f.brk.length<=12
 acq: ∀m∈f.pre,m<2^60
 aci: ∀m∈f.dep,m<2^60
 abY: ∀m∈f.con,m<2^60
 ab0: ∀m∈f.brk,m<2^60
structure Ab (n:bE):Prop where
 old:A6 n.old
 new:A6 n.new
theorem my {n:Nat}{pre:Bool}{on:Nat}{l:List Nat}:(fmI (gn n pre on) 0 l).length<=l.length:=by
 have:=j7 (f:=gn n pre on) (N:=1) (λi a=>by unfold gn;split<;>simp) (l:=l) (b:=0);omega
theorem rK {kind n len there i m:Nat}:(cP kind n len there i m).length<=len:=by
 unfold cP;have h: ∀l:List Nat,(l.flatMap (og kind n there i m)).length<=l.length:=λl=>by
  induction l with
  |nil=>simp
  |cons a r ih=>
   rw[adj,acR,acW]
   have:(og kind n there i m a).length<=1:=by unfold og;split<;>simp
   omega
 simpa using h (List.range len)
theorem mJ {kind n len there:Nat}{l:List Nat}:(fmI (cP kind n len there) 0 l).length<=l.length*len:=j7 (λ_ _=>rK)
theorem Ju {ns:List bE}{k:List UInt8}{i:Nat}{c:UInt8}(hb: ∀n∈ns,Ab n)(hn:ns.length<=20):(jg ns k i c).length<=504:=by
 unfold jg;split
 .simp
 .split
  .simp
  .rename_i n hni;have hB:=hb n (acU hni);have key: ∀f,A6 f->(fmI (gn i true (onK k)) 0 f.pre++(if c=2\/c=4 then fmI (gn i false (onK k)) 0 f.dep else [])++fmI (cP 2 i ns.length (gM k)) 0 f.con++fmI (cP 3 i ns.length (onK k)) 0 f.brk).length<=504:=λf hf=>by
    have h1:=my (n:=i) (pre:=true) (on:=onK k) (l:=f.pre);have h2:=my (n:=i) (pre:=false) (on:=onK k) (l:=f.dep);have h3:=mJ (kind:=2) (n:=i) (len:=ns.length) (there:=gM k) (l:=f.con);have h4:=mJ (kind:=3) (n:=i) (len:=ns.length) (there:=onK k) (l:=f.brk);have h5:f.con.length*ns.length<=12*20:=ads hf.con hn;have h6:f.brk.length*ns.length<=12*20:=ads hf.brk hn;have:=hf.pre;have:=hf.dep;simp only[acR];split
    .omega
    .simp only[ac3];omega
   refine key _ ?_;split
   .exact hB.new
   .exact hB.old
theorem qp {ns:List bE}{k:List UInt8}{i:Nat}(hb: ∀n∈ns,Ab n)(hn:ns.length<=20)(hk:k.length<=20):(fmI (jg ns k) 0 (k.take i)).length<=10080:=by
 have h1:=j7 (f:=jg ns k) (N:=504) (λi c=>Ju hb hn) (l:=k.take i) (b:=0);have h2:(k.take i).length<=20:=by rw[adl];omega
 omega
def gx (ns:List bE)(k:List UInt8):List Int:=((fY ns k).map λn:Nat=>(n:Int)).mergeSort λx y=>decide (x<=y)
theorem HI (ns:List bE)(k:List UInt8):(gx ns k).Pairwise (· <= ·):=
 (ada (λx y z h1 h2=>by simp only[decide_eq_true_eq]at *;omega) (λx y=>by simp only[adr,decide_eq_true_eq];omega) _).imp λ{x y} h=>of_decide_eq_true h
theorem HT (ns:List bE)(k:List UInt8)(x:Int):x∈gx ns k↔ ∃n∈fY ns k,(n:Int)=x:=by
 unfold gx;rw[(acY _ _).mem_iff,acL]
theorem Hz {ns:List bE}{k:List UInt8}(hb: ∀n∈ns,Ab n)(hn:ns.length<=20)(hk:k.length<=20):(gx ns k).length<=10080:=by
 unfold gx;rw[(acY _ _).length_eq,acH];have:=qp (k:=k) (i:=k.length) hb hn hk;rw[adn]at this;exact this
def BT (a b:List Int):Bool:=a.all λn=>b.contains n
theorem J4 (ns:List bE)(k k':List UInt8):BT (gx ns k) (gx ns k')=(fY ns k).all λv=>(fY ns k').contains v:=by
 unfold BT;rw[adq,ado,ado];simp only[List.contains_iff_mem,HT];constructor
 .intro h v hv;obtain⟨n,hn,e⟩:=h v ⟨v,hv,rfl⟩;rw[<-show n=v by omega];exact hn
 .rintro h x ⟨n,hn,rfl⟩;exact⟨n,h n hn,rfl⟩
theorem Gf {K S C:Type} [DecidableEq C] {κ:K->C}(p:List S): ∀(l m:List (S×K)) (ns:List (K×List S)),jD κ p (l++m) ns=jD κ p m (jD κ p l ns)
 |[],_,_=>rfl
 |x::r,m,ns=>by rw[List.cons_append,jD,jD,Gf p r m]
def dS (ns:List bE)(k:List UInt8)(j i:Nat):List (bN×List UInt8):=(([1,2,3,4]:List Nat).take j).flatMap (λkind=>fmI (nO ns k kind) 0 ns)++fmI (nO ns k (j+1)) 0 (ns.take i)
theorem ET (ns:List bE)(k:List UInt8):dS ns k 0 0=[]:=by simp[dS,fmI]
theorem Gy {ns:List bE}{k:List UInt8}{j i:Nat}{n:bE}(h:ns[i]?=some n):dS ns k j (i+1)=dS ns k j i++nO ns k (j+1) i n:=by
 unfold dS;rw[fx h,List.append_assoc]
theorem E9 {ns:List bE}{k:List UInt8}{j i:Nat}(hi:ns.length<=i)(hj:j<4):dS ns k (j+1) 0=dS ns k j i:=by
 unfold dS;rw[acQ hi]
 have:j=0\/j=1\/j=2\/j=3:=by omega
 rcases this with rfl|rfl|rfl|rfl<;>simp[fmI]
theorem Ig (ns:List bE)(k:List UInt8):dS ns k 4 0=jS ns k:=by simp[dS,jS,fmI]
structure yQ (q:List (List UInt8×List bN))(fr:List Int)(by_:List bN):Prop where
 l1:fr.length=q.length
 l2:by_.length=q.length
 on: ∀(i:Nat) (k:List UInt8) (p:List bN),q[i]?=some (k,p)->(i=0/\p=[])\/ ∃(j:Nat) (k':List UInt8) (p':List bN) (st:bN),j<i/\fr[i]?=some (j:Int)/\by_[i]?=some st/\q[j]?=some (k',p')/\p=p'++[st]
theorem yQ.snoc {q:List (List UInt8×List bN)}{fr:List Int}{by_:List bN}(h:yQ q fr by_){at_:Nat}{k:List UInt8}{p:List bN}(ha:q[at_]?=some (k,p))(key:List UInt8)(st:bN):
  yQ (q++[(key,p++[st])]) (fr++[(at_:Int)]) (by_++[st]):=by
 have hl1:=h.l1;have hl2:=h.l2;have hal:=(acG.1 ha).1;refine⟨by simp[hl1],by simp[hl2],λi k1 p1 hi=>?_⟩;by_cases hq:i<q.length
 .rw[acI hq]at hi;rcases h.on i k1 p1 hi with h1|⟨j,k',p',s,g1,g2,g3,g4,g5⟩
  .exact .inl h1
  .exact .inr ⟨j,k',p',s,g1,by rw[acI (by omega)];exact g2,by rw[acI (by omega)];exact g3,by rw[acI (by omega)];exact g4,g5⟩
 .have hil:=(acG.1 hi).1;simp only[acR,acW,ac3]at hil;have e:i=q.length:=by omega
  subst e;rw[acO (ac7 _),adb]at hi;cases hi;refine .inr ⟨at_,k,p,st,hal,?_,?_,?_,rfl⟩
  .rw[acO (by omega),hl1,adb];rfl
  .rw[acO (by omega),hl2,adb];rfl
  .rw[acI hal];exact ha
theorem yQ.one (k:List UInt8)(st:bN):yQ [(k,[])] [-1] [st]:=⟨rfl,rfl,λi k1 p1 hi=>by
 match i,hi with
 |0,hi=>cases hi;exact .inl ⟨rfl,rfl⟩⟩
theorem MW {K S C:Type} [DecidableEq C] {κ:K->C}{succ:K->List (S×K)}{goal:K->Bool}{q:List (K×List S)}{at_ N:Nat}{k:K}{p:List S}(h:q[at_]?=some (k,p))(hN:at_<N):
  sA κ succ goal (N-at_) q at_=if goal k=true then some (some p)else sA κ succ goal (N-(at_+1)) (jD κ p (succ k) q) (at_+1):=by
 rw[show N-at_=(N-(at_+1))+1 by omega,sA,h]
theorem QC {K S C:Type} [DecidableEq C] {κ:K->C}{succ:K->List (S×K)}{goal:K->Bool}{q:List (K×List S)}{at_ N:Nat}(h:q.length<=at_)(hN:at_<N):sA κ succ goal (N-at_) q at_=some none:=by
 rw[show N-at_=(N-(at_+1))+1 by omega,sA,List.getElem?_eq_none h]
theorem Mz {l:List (List UInt8)}(h:l.Pairwise sC):l.Nodup:=h.imp λ{x y} h e=>by
 subst e;unfold sC at h;rw[ew]at h;cases h
theorem vV {s:List aB}{t:List Pkg}(hs:s.length<=10)(ht:t.length<=10):(aO s t).length<=20:=by
 have:=kj (aO s t) (k9 s t) (Mz (qu _)) λx hx=>(sa s t x).2 hx
 unfold k9 at this;simp only[acR,acH]at this;omega
theorem zI {s:List aB}{t:List Pkg}(hn:(aO s t).length<=20): ∀x∈cj s t,x.2<2^60:=λx hx=>by
 obtain⟨i,n,h1,h2⟩:=uT hx;have:=(acG.1 h1).1;unfold ml at h2;rcases acJ.1 h2 with h2|h2
 .split at h2
  .rw[acK.1 h2];exact mZ (by omega)
  .cases h2
 .split at h2
  .rw[acK.1 h2];exact mZ (by omega)
  .cases h2
theorem F0 {l:List (Pkg×Nat)}{c:Clause}(hl: ∀x∈l,x.2<2^60):ft l c<2^60:=by
 have h: ∀(l:List (Pkg×Nat)) (o:Nat),(∀x∈l,x.2<2^60)->o<2^60->(l.foldl (λo x=>if c.any (c8 x.1)=true then o ||| x.2 else o) o)<2^60:=λl=>by
  induction l with
  |nil=>exact λo _ ho=>ho
  |cons x r ih=>
   intro o h ho;refine ih _ (λy hy=>h y (by simp[hy])) ?_
   dsimp only
   split
   .exact acP ho (h x (by simp))
   .exact ho
 exact h l 0 hl (by decide)
theorem D5 {l:List (Pkg×Nat)}{p:Pkg}(hl: ∀x∈l,x.2<2^60)(hp:aT p=0):A6 (eS l p):=by
 have hG:=cQ hp;refine⟨by simpa[eS]using hG.pre.1,by simpa[eS]using hG.dep.1,by simpa[eS]using hG.con.1,by simpa[eS]using hG.brk.1,λm hm=>?_,λm hm=>?_,λm hm=>?_,λm hm=>?_⟩<;>
 .obtain⟨c,_,rfl⟩:=acL.1 hm;exact F0 hl
theorem Le :A6 ly:=⟨by simp[ly],by simp[ly],by simp[ly],by simp[ly],by simp[ly],by simp[ly],by simp[ly],by simp[ly]⟩
theorem T4 {s:List aB}{t:List Pkg}{l:List (Pkg×Nat)}(hs: ∀x∈s,aT x.pkg=0)(ht: ∀p∈t,aT p=0)(hl: ∀x∈l,x.2<2^60)(n:List UInt8):Ab (nZ s t l n):=by
 unfold nZ;refine⟨?_,?_⟩
 .dsimp only
  split
  .rename_i x hx;exact D5 hl (hs x (tB hx).1)
  .exact Le
 .dsimp only
  split
  .rename_i p hp;exact D5 hl (ht p (List.mem_of_find?_eq_some hp))
  .exact Le
theorem sT {t:List Pkg}(h:aY t=0)(hn:(t.map (·.name)).Nodup):t.length<=10:=by
 have h1:=rN h;have h2:=kj (t.map (·.name)) (dE t []) hn λx hx=>by
  obtain⟨p,hp,e⟩:=acL.1 hx;exact(iV _ _ x).2 (.inr ⟨p,hp,e⟩)
 rw[acH]at h2;omega
end Go.Av
end
