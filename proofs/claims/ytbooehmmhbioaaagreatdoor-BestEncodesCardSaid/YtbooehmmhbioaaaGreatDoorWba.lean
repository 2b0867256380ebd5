/- Texts that the last one of this claim rests on: a layer over the guide's own conditions for code; contracts of the functions that the law reaches, one by one. No conditions beside those of the given rows. -/
import Derived.Test.YtbooehmmhbioaaaGreatDoorWah
import Derived.Test.YtbooehmmhbioaaaGreatDoorWak
import Derived.Test.YtbooehmmhbioaaaGreatDoorWap
import Derived.Test.YtbooehmmhbioaaaGreatDoorWas
import Derived.Test.YtbooehmmhbioaaaGreatDoorWaw
import Derived.Test.YtbooehmmhbioaaaGreatDoorWay
import Derived.Test.YtbooehmmhbioaaaGreatDoorWaz
set_option linter.unusedSimpArgs false
set_option linter.unusedVariables false
section
namespace Go.Av
open Go
def Bn (σ:ab)(x:AV)(e:TypeId)(xs:List AV):Prop:=(x= .az∧xs=[])∨ ∃id,x= .row e id 0 xs.length∧σ[id]?=some (some (.cells e xs))∧xs≠[]
theorem Bn.v {σ:ab}{x:AV}{e:TypeId}{xs:List AV}(h:Bn σ x e xs):dG σ x e xs:=by
 rcases h with h|⟨id,rfl,h,_⟩
 ·exact .inl h
 ·exact .inr ⟨id,0,_,xs,rfl,h,by omega,by simp⟩
theorem Bn.eC {st st':ab}{v:AV}{e:TypeId}{xs:List AV}(h:Bn st v e xs)(hk: ∀j∈bc v,st'[j]?=st[j]?):Bn st' v e xs:=by
 rcases h with h|⟨id,rfl,h,h1⟩
 ·exact .inl h
 ·exact .inr ⟨id,rfl,by rw[hk id (by simp[bc]),h],h1⟩
structure Ot (σ:ab)(x:AV)(e:TypeId)(zs:List AV)(v:AV)(σ':ab):Prop where
 row:Bn σ' v e zs
 fr:Fr (bc x) σ σ'
 bc: ∀j∈bc v,j∈bc x∨σ.length≤j
theorem bM.NJ {P:Program}{A:aa}{σ:ab}{t u e:TypeId}{x y:AV}{xs ys:List AV}{dst:Option Nat}{k:aa→Prop}(hσ:A.st=σ)(N:Nat)(ho:xj P t u e N=true)(hb:dG σ x e xs)(hy:fh σ y e ys)(h0:ys≠[])(hN:xs.length+ys.length≤N)
  (hk: ∀v σ',Ot σ x e (xs++ys) v σ'→k ((A.put dst v).an σ')):bM P [t,u] [x,y] dst A k .mk:=by
 subst hσ
 have hkl:(bQ x A.st).length=A.st.length:=by unfold bQ;split<;>simp
 refine bM.row N ho hb.st hy hN (λhe=>absurd he h0) λhe=>hk _ _ ⟨.inr ⟨A.st.length,by rw[List.length_append],?_,by simp[h0]⟩,?_,λj hj=>?_⟩
 ·rw[←hkl,List.getElem?_append_right (Nat.le_refl _),Nat.sub_self]
  rfl
 ·refine Fr.app ?_ _
  unfold bQ
  split
  ·exact(Fr.refl _ _).set (.inl (by simp[Go.Av.bc])) _
  ·exact .refl _ _
 ·simp[Go.Av.bc]at hj
  subst hj
  exact .inr (Nat.le_refl _)
open Go.Proofs.Tryz
theorem zu {all:List Pkg}: ∀{f i:Nat},i≤all.length→((c8 all f i).map List.length).sum≤all.length-i
 |0,i,_=>by simp[c8]
 |f+1,i,hi=>by
  rw[c8]
  split
  ·simp
  ·rename_i h
   obtain⟨p,hp⟩:=get_some (show i<all.length by omega)
   obtain⟨b1,b2⟩:=cU hp
   have ih:=zu (f:=f) b2
   rw[List.map_cons,List.sum_cons,List.length_range']
   omega
theorem yI {all:List Pkg}(s:List aG)(l:List aS)(hc:nm all):(aM all s l).map (·.2)=c8 all (all.length+1) 0:=by
 unfold aM
 rw[List.map_map,ku hc (by omega) (λj p q hj=>by omega)]
 rfl
theorem JD {l:List Nat}{n:Nat}(h: ∀i∈l,i<n):bH l<2^n:=by
 induction l with
 |nil=>exact Nat.two_pow_pos n
 |cons a r ih=>rw[bH];exact Nat.or_lt_two_pow (Nat.pow_lt_pow_right (by decide) (h a (by simp))) (ih λi hi=>h i (by simp[hi]))
theorem AZ (all:List Pkg)(s:List aG)(l:List aS):(aM all s l).length≤all.length:=by
 unfold aM
 rw[List.length_map,←qE]
 exact wR all all.length
theorem EV {all:List Pkg}(s:List aG)(l:List aS)(hc:nm all)(D:Dat):ie D (aM all s l) 0 0+1≤2*2^all.length:=by
 have hg:=yI s l hc
 have h1:=Cg D (gs:=aM all s l) 0 0 λg hgm=>Ca (all:=all) (f:=all.length+1) (i:=0) g.2 (by rw[←hg];exact List.mem_map_of_mem hgm) (by omega)
 have h2:=yx (aM all s l)
 have h3:((aM all s l).map λg=>g.2.length).sum≤all.length:=by
  have:(aM all s l).map (λg=>g.2.length)=((aM all s l).map (·.2)).map List.length:=by rw[List.map_map];rfl
  rw[this,hg]
  exact zu (by omega)
 have h4:2^((aM all s l).map λg=>g.2.length).sum≤2^all.length:=Nat.pow_le_pow_right (by decide) h3
 omega
end Go.Av
namespace Go.Proofs.Tryz
open Go Go.Av
set_option maxRecDepth 10000
set_option maxHeartbeats 2000000
variable {W0 :World}
def gF (gs:List (Bool×List Nat)):AV:=.sl 37 (gs.map λg=>j2 g.2)
def gH (gs:List (Bool×List Nat)):AV:=.sl 4 (gs.map λg=>.bool g.1)
def dE (all:List Pkg)(s:List aG)(l:List aS)(bud sp:Int)(dn:Bool)(v:AV):Option cX:=
 cm (aT all) (bf s) (bB l) (gF (aM all s l)) (gH (aM all s l)) (dK all s l) (dY (s.map (gB all))) (.bool (ei l)) (.bool (ey all s l)) (.int .i64 bud) (.int .i64 sp) (.bool dn) v
theorem EF {all:List Pkg}{s:List aG}{l:List aS}(hn:(l.map (·.name)).Nodup)(bud:Int):wq all s l bud=dE all s l bud 0 false .az:=by
 have e1:(nmB all all.length).map (λn=>j2 (bh all λp=>p.name==n))=(aM all s l).map λg=>j2 g.2:=by
  unfold aM
  rw[List.map_map,qE]
  refine List.map_congr_left λn _=>?_
  rw[vG]
  rfl
 have e2:(nmB all all.length).map (λn=>AV.bool (rn l s n))=(aM all s l).map λg=>.bool g.1:=by
  unfold aM
  rw[List.map_map,qE]
  refine List.map_congr_left λn _=>?_
  rw[I3 hn]
  rfl
 have e3:(s.map λx=>bH (bh all λp=>p.name==x.pkg.name))=s.map (gB all):=by
  refine List.map_congr_left λx _=>?_
  rw[vG]
  rfl
 unfold wq eh dE gF gH dK
 rw[e1,e2,e3,G7]
def ux (b:Br):AV:=.agg 171 [.int .i64 (b.1:Nat),cb b.2.1,cb b.2.2]
structure dP (σ:ab)(id:Nat)(all:List Pkg)(s:List aG)(l:List aS)(bud:Int)(st:List Br)(os:List Nat)(sp:Nat)(v3 v12:AV)(τ:ab):Prop where
 todo:dG τ v3 171 (st.map ux)
 out:Bn τ v12 116 ((os.map λS=>(jn all s S (ei l),S)).map eL)
 obj:τ[id]?=some (dE all s l bud sp false v12)
 fr:Fr [id] σ τ
 f3: ∀j∈bc v3,σ.length≤j
 f12: ∀j∈bc v12,σ.length≤j
structure LW (all:List Pkg)(s:List aG)(l:List aS)(bud:Int)(st:List Br)(os:List Nat)(sp:Nat):Prop where
 perm:(os++qM (ee all s l) (aM all s l) st).Perm (nk (ee all s l) (aM all s l) 0 0)
 cnt:sp+kS (ee all s l) (aM all s l) st=ie (ee all s l) (aM all s l) 0 0
 len:os.length≤sp
 bud:bud=0∨(sp:Int)≤bud
 ok: ∀b∈st,b.1≤(aM all s l).length∧b.2.1<2^all.length∧b.2.2<2^all.length
 oks: ∀S∈os,S<2^all.length
section
variable {σ τ:ab}{id:Nat}{all:List Pkg}{s:List aG}{l:List aS}{bud:Int}{st:List Br}{os:List Nat}{sp:Nat}{v3 v12:AV}
theorem dP.ne3 (h:dP σ id all s l bud st os sp v3 v12 τ):id∉bc v3:=by
 have:=h.obj
 unfold dE cm at this
 exact h.todo.ne this (by decide)
theorem dP.OZ (h:dP σ id all s l bud st os sp v3 v12 τ):id∉bc v12:=by
 have:=h.obj
 unfold dE cm at this
 exact h.out.v.ne this (by decide)
theorem dP.more (h:dP σ id all s l bud st os sp v3 v12 τ)(J:ab):dP σ id all s l bud st os sp v3 v12 (τ++J):=
 ⟨h.todo.eC λj hj=>by rw[List.getElem?_append_left (h.todo.lt j hj)],h.out.eC λj hj=>by rw[List.getElem?_append_left (h.out.v.lt j hj)],by rw[List.getElem?_append_left (List.getElem?_eq_some_iff.1 h.obj).1,h.obj],h.fr.app _,h.f3,h.f12⟩
theorem dP.Sg (h:dP σ id all s l bud st os sp v3 v12 τ)(sp':Nat):dP σ id all s l bud st os sp' v3 v12 (τ.set id (dE all s l bud sp' false v12)):=
 ⟨h.todo.eC λj hj=>by rw[List.getElem?_set_ne (λe=>h.ne3 (by rw[e];exact hj))],h.out.eC λj hj=>by rw[List.getElem?_set_ne (λe=>h.OZ (by rw[e];exact hj))],List.getElem?_set_self (List.getElem?_eq_some_iff.1 h.obj).1,h.fr.set (.inl (by simp)) _,h.f3,h.f12⟩
theorem dP.cut {n:Nat}(h:dP σ id all s l bud st os sp v3 v12 τ)(hn:n≤st.length):dP σ id all s l bud (st.take n) os sp (rM 0 n v3) v12 τ:=
 ⟨by have:=h.todo.cut (a:=0) (b:=n) (Nat.zero_le _) (by rw[List.length_map];exact hn);rwa [List.drop_zero,Nat.sub_zero,←List.map_take]at this,h.out,h.obj,h.fr,λj hj=>h.f3 j (by rwa [my]at hj),h.f12⟩
theorem dP.add {τ':ab}{v:AV}{S:Nat}(h:dP σ id all s l bud st os sp v3 v12 τ)(ha:Ot τ v12 116 ((os.map λS=>(jn all s S (ei l),S)).map eL++[eL (jn all s S (ei l),S)]) v τ'):dP σ id all s l bud st (os++[S]) sp v3 v (τ'.set id (dE all s l bud sp false v)):=by
 have hlen:=h.fr.len
 have hidl:=(List.getElem?_eq_some_iff.1 h.obj).1
 have hobj':=h.obj
 unfold dE cm at hobj'
 have hidv:id∉bc v:=λhj=>by
  rcases ha.bc id hj with h1|h1
  ·exact h.OZ h1
  ·omega
 have hf: ∀j∈bc v3,τ'[j]?=τ[j]?:=λj hj=>ha.fr.old j (h.todo.lt j hj) λhj2=>by
  rcases h.out with⟨rfl,_⟩|⟨ido,rfl,ho,_⟩
  ·simp[bc]at hj2
  ·simp[bc]at hj2
   subst hj2
   exact h.todo.ne ho (by decide) hj
 refine⟨h.todo.eC λj hj=>?_,?_,List.getElem?_set_self (Nat.lt_of_lt_of_le hidl ha.fr.len),?_,h.f3,λj hj=>?_⟩
 ·rw[List.getElem?_set_ne (λe=>h.ne3 (by rw[e];exact hj)),hf j hj]
 ·rw[List.map_append,List.map_append]
  exact ha.row.eC λj hj=>by rw[List.getElem?_set_ne (λe=>hidv (by rw[e];exact hj))]
 ·refine Fr.set (id:=id) ⟨by have:=ha.fr.len;omega,λj hj hF=>?_⟩ (.inl (by simp)) _
  rw[ha.fr.old j (by omega) λhj2=>by have:=h.f12 j hj2;omega,h.fr.old j hj hF]
 ·rcases ha.bc j hj with h1|h1
  ·exact h.f12 j h1
  ·omega
theorem dP.push {τ':ab}{v:AV}{x:Br}(h:dP σ id all s l bud st os sp v3 v12 τ)(ha:Ot τ v3 171 (st.map ux++[ux x]) v τ'):dP σ id all s l bud (st++[x]) os sp v v12 τ':=by
 have hlen:=h.fr.len
 refine⟨by rw[List.map_append];exact ha.row.v,h.out.eC λj hj=>ha.fr.old j (h.out.v.lt j hj) λhj2=>?_,by rw[ha.fr.old id (List.getElem?_eq_some_iff.1 h.obj).1 h.ne3,h.obj],?_,λj hj=>?_,h.f12⟩
 ·rcases h.out with⟨rfl,_⟩|⟨ido,rfl,ho,_⟩
  ·simp[bc]at hj
  ·simp[bc]at hj
   subst hj
   exact h.todo.ne ho (by decide) hj2
 ·exact⟨by have:=ha.fr.len;omega,λj hj hF=>by rw[ha.fr.old j (by omega) λhj2=>by have:=h.f3 j hj2;omega,h.fr.old j hj hF]⟩
 ·rcases ha.bc j hj with h1|h1
  ·exact h.f3 j h1
  ·omega
end
theorem J9 (hW:rE W0)(σ:ab)(id:Nat)(all:List Pkg)(s:List aG)(l:List aS)(bud:Int)(hn:(l.map (·.name)).Nodup)(h0:bg all=0)(ho:all=cw all)(hmn: ∀p∈all,lp p)(GY:s.length≤10)(hb0:0≤bud)(hbm:bud≤1000000000000)
  (hid:σ[id]?=some (dE all s l bud 0 false .az)):
  aY prog W0 57 [.ptr 96 id 0 []] σ λr σ'=>Fr [id] σ σ'∧
   ((0<bud∧bud<ie (ee all s l) (aM all s l) 0 0∧r= .int .i64 11∧ ∃v,σ'[id]?=some (dE all s l bud bud false v))∨
    ((bud=0∨ie (ee all s l) (aM all s l) 0 0≤bud)∧r= .int .i64 0∧ ∃(v:AV) (o:List FB),σ'[id]?=some (dE all s l bud (ie (ee all s l) (aM all s l) 0 0) true v)∧dG σ' v 116 (o.map eL)∧(∀j∈bc v,σ.length≤j)∧o.Perm (wx all s l (ei l))∧o.Pairwise λx y=>ltB y x=false)):=by
 have hidl:=(List.getElem?_eq_some_iff.1 hid).1
 have h24:=dH h0
 have hcont:nm all:=xF (by rw[ho];exact iT (eV h0).2)
 have htot:=EV s l hcont (ee all s l)
 have h2n:2^all.length≤16777216:=Nat.le_trans (Nat.pow_le_pow_right (n:=2) (by decide) h24) (by decide)
 refine jw [.tmp 2] [5,8,5000010,3000069,2000072,4000011,2000140,2000003] func57 rfl rfl ntmps57 rfl rfl λhs=>?_
 have hid':=hid
 simp only[go_sem,simprocAttr]
 refine ae.at [0] (.of (by kernel_rfl)) (λA=>∃ os sp v3 v12,dP σ id all s l bud [] os sp v3 v12 A.st∧LW all s l bud [] os sp) ?_ λB ⟨os,sp,v3,v12,hI,hC⟩=>?_
 ·refine ae.cu [0] (.of (by kernel_rfl)) (λk A=>∃ st os sp v3 v12,A.env 3=v3∧k=kS (ee all s l) (aM all s l) st∧dP σ id all s l bud st os sp v3 v12 A.st∧LW all s l bud st os sp) _ ⟨[(0,0,0)],[],0,_,.az,rfl,rfl,?_⟩ λk B ⟨st,os,sp,v3,v12,h3,hk,hI,hC⟩=>?_
  ·simp only[go_sem,simprocAttr]
   have hx0:Ext σ (σ++[some (.cells 171 [ux (0,0,0)])]):=Ext.app (.refl _) _
   obtain⟨r1,r2⟩:=D6 (D:=ee all s l) (gs:=aM all s l)
   refine⟨⟨.inr ⟨σ.length,0,1,[ux (0,0,0)],rfl,?_,by simp,by simp⟩,.inl ⟨rfl,rfl⟩,?_,Fr.ext hx0,λj hj=>?_,λj hj=>by simp[bc]at hj⟩,?_,?_,by simp,?_,λb hb=>?_,λS hS=>by cases hS⟩
   ·rw[List.getElem?_append_right (Nat.le_refl _),Nat.sub_self];rfl
   ·rw[List.getElem?_append_left hidl,hid];rfl
   ·simp[bc]at hj;omega
   ·rw[r1];exact .refl _
   ·rw[r2];omega
   ·omega
   ·simp at hb
    subst hb
    exact⟨Nat.zero_le _,Nat.two_pow_pos _,Nat.two_pow_pos _⟩
  have hob:=hI.obj
  unfold dE cm gF gH dK at hob
  have hspt:sp≤ie (ee all s l) (aM all s l) 0 0:=by have:=hC.cnt;omega
  have hw:IntKind.i64.wrap ((sp:Int)+1)=((sp+1:Nat):Int):=by rw[aE (by omega)];omega
  obtain⟨τ,hτ⟩: ∃τ,τ=B.st.set id (dE all s l bud (sp+1:Nat) false v12):=⟨_,rfl⟩
  have hIτ:=hI.Sg (sp+1)
  rw[←hτ]at hIτ
  unfold dE cm gF gH dK at hτ
  simp only[go_sem,simprocAttr,h3,hI.todo.st.ok,hI.todo.st.un,hI.todo.st.len,hI.todo.st.fO,aw hob,ay hob,aR hob,hw,List.length_map]
  refine⟨λhpos=>⟨.of (by kernel_rfl),λhbs=>cI.ret ?_,λhbs=>?_⟩,λhneg=>?_⟩
  ·rw[Bool.and_eq_true,decide_eq_true_eq,beq_iff_eq]at hbs
   have hrl:=tS (D:=ee all s l) (gs:=aM all s l) st
   have hcnt:=hC.cnt
   have hobj:=hI.obj
   rw[hbs.2]at hobj
   simp only[go_sem,simprocAttr]
   exact⟨_,.refl _,hI.fr.len,hI.fr,.inl ⟨hbs.1,by omega,rfl,v12,hobj⟩⟩
  ·rw[←hτ]
   clear hτ
   obtain⟨st',b,rfl⟩: ∃st' b,st=st'++[b]:=by
    have hne:st≠[]:=λe=>by subst e;simp at hpos
    exact⟨st.dropLast,st.getLast hne,(List.dropLast_concat_getLast hne).symm⟩
   have hrl:=tS (D:=ee all s l) (gs:=aM all s l) (st'++[b])
   have hcnt:=hC.cnt
   have hstl:(st'++[b]).length=st'.length+1:=by simp
   have hwl:IntKind.i64.wrap (((st'.length+1:Nat):Int)-1)=(st'.length:Int):=by rw[aE (by omega)];omega
   have hcut:=(hIτ.cut (n:=st'.length) (by omega)).more [none]
   rw[List.take_left' rfl]at hcut
   obtain⟨hb1,hb2,hb3⟩:=hC.ok b (by simp)
   have hidx: ∃idt off zs,v3= .row 171 idt off (st'.length+1)∧τ[idt]?=some (some (.cells 171 zs))∧zs[off+st'.length]?=some (ux b):=by
    rcases hIτ.todo with⟨_,hnil⟩|⟨idt,off,m,zs,rfl,hz,hle,hx⟩
    ·simp at hnil
    have hml:m=st'.length+1:=by
     have:=congrArg List.length hx
     rw[List.length_map,hstl,List.length_take,List.length_drop]at this
     omega
    subst hml
    refine⟨idt,off,zs,rfl,hz,?_⟩
    have h1:((st'++[b]).map ux)[st'.length]?=some (ux b):=by simp
    rw[hx,List.getElem?_take,if_pos (by omega),List.getElem?_drop]at h1
    exact h1
   obtain⟨idt,off,zs,rfl,hzτ,hzi⟩:=hidx
   have hobu:=hcut.obj
   have hbud1:bud=0∨((sp+1:Nat):Int)≤bud:=by
    rcases hC.bud with h|h
    ·exact .inl h
    ·by_cases hz:bud=0
     ·exact .inl hz
     ·right
      have h1:decide (0<bud)=true:=decide_eq_true (by omega)
      rw[h1,Bool.true_and]at hbs
      have:(sp:Int)≠bud:=by simpa using hbs
      omega
   unfold dE cm gF gH dK at hobu
   simp only[go_sem,simprocAttr,hwl,aw hzτ,ay hzτ,Int.toNat_natCast,hzi,ux,cb,aw hobu,ay hobu,List.length_map]
   refine⟨by omega,by omega,.of (by kernel_rfl),λhleaf=>?_,λhnode=>?_⟩
   ·have hbud':bud=0∨((sp+1:Nat):Int)≤bud:=hbud1
    have hleaf':b.1=(aM all s l).length:=by simpa using hleaf
    have hhl:=Bc (W0:=W0) hW _ id all s l b.2.1 h24 hb2 hcut.obj
    refine ak.reads (by simp only[go_sem,simprocAttr]) hhl ?_
    simp only[go_sem,simprocAttr]
    have hcut':dP σ id all s l bud st' os (sp+1) (.row 171 idt off st'.length) v12 (τ++[none]):=by simpa[rM]using hcut
    have hleafR:=Gc (D:=ee all s l) (gs:=aM all s l) (st:=st') hleaf'
    refine cB.at [0,3] (by kernel_rfl) (λA=>∃ v,dP σ id all s l bud st' (if eO all b.2.1=true then os++[b.2.1]else os) (sp+1) (.row 171 idt off st'.length) v A.st) (λhh=>?_) (λhh=>?_) λB1 ⟨v,hI1⟩=>?_
    ·rw[if_pos hh]
     have hco:=FN (W0:=W0) hW _ id all s l b.2.1 (ei l) h24 (λp hp=>by have:=(eK (cW h0 hp)).rcm.1;omega) GY hb2 hcut.obj
     simp only[go_sem,simprocAttr,cb,aw hobu,ay hobu]
     refine⟨.of (by kernel_rfl),aA.st hco ?_⟩
     obtain⟨c,hc⟩: ∃c,c=jn all s b.2.1 (ei l):=⟨_,rfl⟩
     rw[←hc]
     have hco1: ∀g,okM g (dF c)=True:=λg=>bR trivial
     have hco2:unm (dF c)=dF c:=rfl
     have hco3:bq prog 39 (dF c)=true:=by kernel_rfl
     have hosl:os.length≤sp:=hC.len
     simp only[go_sem,simprocAttr,aw hobu,ay hobu,hco1,hco2,hco3,hcut'.out.v.st.ok,hcut'.out.v.st.un]
     refine bM.NJ (σ:=τ++[none]) (by simp only[go_sem,simprocAttr]) 1000000000 (by kernel_rfl) hcut'.out.v (.lit _ _ _) (by simp) (by simp;omega) λv τ2 ha=>?_
     have hadd:=hcut'.add (by rw[hc]at ha;exact ha)
     have hob2:τ2[id]?=some (dE all s l bud (sp+1:Nat) false v12):=by rw[ha.fr.old id (List.getElem?_eq_some_iff.1 hcut'.obj).1 hcut'.OZ,hcut'.obj]
     unfold dE cm gF gH dK at hob2
     simp only[go_sem,simprocAttr,aw hob2,ay hob2,aR hob2,ha.row.v.st.ok,ha.row.v.st.un,ha.row.v.st.fits]
     exact⟨v,hadd⟩
    ·rw[if_neg (by rw[hh];decide)]
     simp only[go_sem,simprocAttr]
     exact⟨v12,hcut'⟩
    ·simp only[go_sem,simprocAttr]
     have hperm:=hC.perm
     rw[hleafR.1]at hperm
     refine .here (kS (ee all s l) (aM all s l) st') (by rw[hk,hleafR.2];omega) ⟨st',_,sp+1,_,v,rfl,rfl,hI1,?_,by have:=hleafR.2;omega,?_,hbud',λx hx=>hC.ok x (by simp[hx]),?_⟩
     ·by_cases hh:eO all b.2.1=true
      ·rw[if_pos hh]
       rw[if_pos (show(ee all s l).hl b.2.1=true from hh)]at hperm
       refine List.Perm.trans ?_ hperm
       rw[List.append_assoc]
       exact List.Perm.append_left _ List.perm_append_comm
      ·rw[if_neg hh]
       rw[if_neg (show ¬(ee all s l).hl b.2.1=true from hh),List.append_nil]at hperm
       exact hperm
     ·have:=hC.len
      split
      ·simp;omega
      ·omega
     ·intro S hS
      split at hS
      ·rcases List.mem_append.1 hS with h|h
       ·exact hC.oks S h
       ·simp at h;rw[h];exact hb2
      ·exact hC.oks S hS
   ·have hblt:b.1<(aM all s l).length:=by
     have:b.1≠(aM all s l).length:=by simpa using hnode
     omega
    obtain⟨g,hg⟩:=get_some hblt
    have hnodeR:=Gn (D:=ee all s l) (st:=st') hg
    have hatw:atV ((aM all s l).map λg=>AV.bool g.1) (b.1:Int)= .bool g.1:=av hg
    have hatn:atV ((aM all s l).map λg=>j2 g.2) (b.1:Int)= .sl 3 (g.2.map λk=>.int .i64 (k:Nat)):=av hg
    have hcut':dP σ id all s l bud st' os (sp+1) (.row 171 idt off st'.length) v12 (τ++[none]):=by simpa[rM]using hcut
    obtain⟨k0,hk0⟩: ∃k0:List Br,k0=if g.1=true then [(b.1+1,b.2.1,b.2.2)]else []:=⟨_,rfl⟩
    have hgl:(aM all s l).length≤24:=by
     have h1:=AZ all s l
     omega
    have hwb:IntKind.i64.wrap ((b.1:Int)+1)=((b.1+1:Nat):Int):=by rw[aE (by omega)];omega
    have hstl2:st'.length≤100000000:=by omega
    simp only[go_sem,simprocAttr,hatw,aw hobu,ay hobu,List.length_map]
    refine⟨.of (by kernel_rfl),hblt,cB.at [0,5] (by kernel_rfl) (λA=>∃ v3,A.env 3=v3∧dP σ id all s l bud (st'++k0) os (sp+1) v3 v12 A.st) (λhh=>?_) (λhh=>?_) λB1 ⟨v3,h3',hI1⟩=>?_⟩
    ·rw[if_pos hh]at hk0
     simp only[go_sem,simprocAttr,hwb]
     refine bM.NJ (σ:=τ++[none]) (by simp only[go_sem,simprocAttr]) 1000000000 (by kernel_rfl) hcut'.todo (.lit _ _ _) (by simp) (by simp;omega) λv τ2 ha=>?_
     have hpu:=hcut'.push (x:=(b.1+1,b.2.1,b.2.2)) ha
     simp only[go_sem,simprocAttr,ha.row.v.st.ok,ha.row.v.st.un]
     rw[hk0]
     exact⟨v,rfl,hpu⟩
    ·rw[if_neg (by rw[hh];decide)]at hk0
     simp only[go_sem,simprocAttr]
     rw[hk0,List.append_nil]
     exact⟨_,rfl,hcut'⟩
    ·have hob1:=hI1.obj
     unfold dE cm gF gH dK at hob1
     have hg2: ∃n,g.2=placesOf all n:=by
      have hgm:=List.mem_of_getElem? hg
      unfold aM at hgm
      obtain⟨n,_,rfl⟩:=List.mem_map.1 hgm
      exact⟨n,rfl⟩
     obtain⟨n,hgn⟩:=hg2
     have hg24: ∀i∈g.2,i<all.length:=λi hi=>by
      rw[hgn]at hi
      obtain⟨q,hq,_⟩:=bn.1 hi
      exact(List.getElem?_eq_some_iff.1 hq).1
     have hg2l:g.2.length≤24:=by
      rw[hgn]
      unfold placesOf
      exact Nat.le_trans (List.length_filter_le _ _) (by rw[List.length_range];exact h24)
     have hk0l:k0.length≤1:=by rw[hk0];split<;>simp
     obtain⟨P,hP⟩: ∃P:Nat→Bool,P=λi=>(ee all s l).may i&& !b.2.2.testBit i:=⟨_,rfl⟩
     simp only[go_sem,simprocAttr,h3',aw hob1,ay hob1,hatn,List.length_map]
     refine⟨.of (by kernel_rfl),hblt,?_⟩
     refine ae.ats [0,5,101,102] (.of (by kernel_rfl)) (λA=>∃ v3,A.env 3=v3∧dP σ id all s l bud (st'++(k0++(g.2.filter P).map (yR (ee all s l) b))) os (sp+1) v3 v12 A.st) ?_ λB2 ⟨v3,h3',hI2⟩=>?_
     ·refine ae.upto [0,5,101,102] (.of (by kernel_rfl)) g.2.length (λi A=>A.env 103= .int .i64 i∧ ∃v3,A.env 3=v3∧dP σ id all s l bud (st'++(k0++((g.2.take i).filter P).map (yR (ee all s l) b))) os (sp+1) v3 v12 A.st) 0 (Nat.zero_le _) ?_ λi B2 hi ⟨h103,v3,h3',hI2⟩=>?_
      ·simp only[go_sem,simprocAttr,h3']
       exact⟨_,rfl,by simpa using hI1⟩
      have hob2:=hI2.obj
      unfold dE cm gF gH dK at hob2
      simp only[go_sem,simprocAttr,h103,h3']
      refine⟨λhlt=>?_,λhge=>?_⟩
      ·obtain⟨y,hy⟩:=get_some hlt
       have hyn:=hg24 y (List.mem_of_getElem? hy)
       obtain⟨p,hp⟩:=get_some hyn
       have hatV:atV (g.2.map λk=>AV.int .i64 (k:Nat)) (i:Int)= .int .i64 (y:Nat):=av hy
       have hat:=qG (s:=s) (l:=l) hp
       have hlen:((List.range all.length).map λi=>gi all s l i ((all[i]?).getD we)).length=all.length:=by rw[List.length_map,List.length_range]
       have h232:b.2.2<4294967296:=by omega
       have hpw:2^y<4294967296:=lI (by omega)
       have hand:=fI b.2.2 (2^y) h232 hpw
       have hor1:=hZ b.2.1 (2^y) (by omega) hpw
       have hcl:gh all y<4294967296:=kA λz hz=>by have:=(List.mem_filter.1 hz).1;rw[List.mem_range]at this;omega
       have hor2:=hZ b.2.2 (gh all y) h232 hcl
       have hz:(((b.2.2 &&& 2^y:Nat):Int)==0)= !b.2.2.testBit y:=by
        rw[←yt,Bool.eq_iff_iff];simp
       have hPy:P y=(mo l s p&& !b.2.2.testBit y):=by
        rw[hP]
        show(Al all s l y&&_)=_
        unfold Al
        rw[hp]
        simp only[Ow hn]
       have hfl:(g.2.take (i+1)).filter P=(g.2.take i).filter P++if P y=true then [y]else []:=by
        rw[aj hy,List.filter_append,List.filter_cons,List.filter_nil]
       have hkl:(st'++(k0++((g.2.take i).filter P).map (yR (ee all s l) b))).length≤100000100:=by
        have:=List.length_filter_le P (g.2.take i)
        simp only[List.length_append,List.length_map,List.length_take]at *
        omega
       simp only[go_sem,simprocAttr,h103,h3',hatV,aw hob2,ay hob2,hat,hlen,List.length_map]
       refine⟨hlt,hyn,.of (by kernel_rfl),aA.fnG (λ_=>qk y (by omega)) ?_⟩
       simp only[go_sem,simprocAttr,hand,hz]
       rw[←hPy]
       have hIf:=hI2.more [none]
       refine⟨λhh=>?_,λhh=>?_⟩
       ·rw[if_pos hh]at hfl
        refine⟨.of (by kernel_rfl),?_⟩
        refine aA.fn (qk y (by omega)) ?_
        simp only[go_sem,simprocAttr,hor1,hor2,hwb,h3',hIf.todo.st.ok,hIf.todo.st.un,cb]
        refine bM.NJ (σ:=B2.st++[none]) (ys:=[ux (yR (ee all s l) b y)]) (by first|rfl|simp only[go_sem,simprocAttr]) 1000000000 (by kernel_rfl) hIf.todo (.lit _ _ _) (by simp) (by rw[List.length_map];simp only[List.length_cons,List.length_nil];omega) λv τ2 ha=>?_
        have hpu:=hIf.push (x:=yR (ee all s l) b y) ha
        simp only[go_sem,simprocAttr,h103,ha.row.v.st.ok,ha.row.v.st.un]
        refine⟨hlt,ah hlt (by rw[aq];omega),v,rfl,?_⟩
        rw[hfl,List.map_append,←List.append_assoc,←List.append_assoc]
        rw[List.append_assoc st' k0]
        exact hpu
       ·rw[if_neg (by rw[hh];decide),List.append_nil]at hfl
        simp only[go_sem,simprocAttr,h103,h3']
        rw[hfl]
        exact⟨hlt,ah hlt (by rw[aq];omega),_,rfl,hIf⟩
      ·rw[List.take_of_length_le hge]at hI2
       exact⟨_,rfl,hI2⟩
     ·simp only[go_sem,simprocAttr,h3']
      have hkids:k0++(g.2.filter P).map (yR (ee all s l) b)=kids (ee all s l) g b:=by
       unfold kids
       rw[hk0,hP]
      rw[hkids]at hI2
      have hperm:=hC.perm
      rw[hnodeR.1]at hperm
      refine .here (kS (ee all s l) (aM all s l) (st'++kids (ee all s l) g b)) (by rw[hk,hnodeR.2];omega) ⟨_,os,sp+1,v3,v12,by simp only[go_sem,simprocAttr,h3'],rfl,hI2,hperm,by have:=hnodeR.2;omega,by have:=hC.len;omega,hbud1,λx hx=>?_,hC.oks⟩
      rcases List.mem_append.1 hx with hx|hx
      ·exact hC.ok x (by simp[hx])
      ·rw[←hkids]at hx
       rcases List.mem_append.1 hx with hx|hx
       ·rw[hk0]at hx
        split at hx
        ·simp at hx
         subst hx
         exact⟨hblt,hb2,hb3⟩
        ·cases hx
       ·obtain⟨y,hy,rfl⟩:=List.mem_map.1 hx
        have hyn:=hg24 y (List.mem_filter.1 hy).1
        refine⟨hblt,Nat.or_lt_two_pow hb2 (Nat.pow_lt_pow_right (by decide) hyn),Nat.or_lt_two_pow hb3 ?_⟩
        exact JD λz hz=>by have:=(List.mem_filter.1 hz).1;rw[List.mem_range]at this;exact this
  ·have hst0:st=[]:=by
    cases st with
    |nil=>rfl
    |cons a r=>exact absurd hneg (by simp)
   subst hst0
   exact⟨os,sp,v3,v12,hI,hC⟩
 ·have hob:=hI.obj
  unfold dE cm gF gH dK at hob
  have hcnt:=hC.cnt
  rw[show kS (ee all s l) (aM all s l) []=0 from rfl,Nat.add_zero]at hcnt
  have hperm:=hC.perm
  rw[show qM (ee all s l) (aM all s l) []=[]from rfl,List.append_nil]at hperm
  have hpf:(os.map λS=>(jn all s S (ei l),S)).Perm (wx all s l (ei l)):=hperm.map _
  have hfok: ∀x∈(os.map λS=>(jn all s S (ei l),S)),Fp x:=λx hx=>by
   obtain⟨S,hS,rfl⟩:=List.mem_map.1 hx
   have:=hC.oks S hS
   exact⟨na _ _ _ _ _ _,by show S<_;omega⟩
  have hbud2:bud=0∨((ie (ee all s l) (aM all s l) 0 0:Nat):Int)≤bud:=by rw[←hcnt];exact hC.bud
  rcases hI.out with⟨rfl,hnil⟩|⟨ido,rfl,hz,hne⟩
  ·simp only[go_sem,simprocAttr,aw hob,ay hob]
   refine ak.fn zJ ?_
   simp only[go_sem,simprocAttr,aw hob,ay hob,aR hob]
   have hos:os=[]:=by simpa using hnil
   subst hos
   refine cI.ret ?_
   simp only[go_sem,simprocAttr]
   refine⟨_,.refl _,by have:=hI.fr.len;simpa using this,hI.fr.set (.inl (by simp)) _,.inr ⟨hbud2,rfl,.az,[],?_,.inl ⟨rfl,rfl⟩,λj hj=>by simp[bc]at hj,hpf,.nil⟩⟩
   rw[←hcnt,List.getElem?_set_self (List.getElem?_eq_some_iff.1 hI.obj).1]
   rfl
  ·obtain⟨xs,hxs⟩: ∃xs,xs=os.map λS=>(jn all s S (ei l),S):=⟨_,rfl⟩
   rw[←hxs]at hz hne hpf hfok hob hI
   have hxl:xs.length≤1000000000:=by rw[hxs,List.length_map];have:=hC.len;omega
   have hso:=Ba (W0:=W0) B.st ido xs hz (λe=>hne (by rw[e];rfl)) hxl hfok
   simp only[go_sem,simprocAttr,aw hob,ay hob,List.length_map]
   refine ak.goes (by simp only[go_sem,simprocAttr]) hso λr σ1 ⟨ys,hy1,hy2,hσ1⟩=>?_
   subst hσ1
   have hidne:id≠ido:=λe=>by
    have:=hI.obj
    unfold dE cm at this
    rw[e,hz]at this
    simp at this
   have hob2:(B.st.set ido (some (.cells 116 (ys.map eL))))[id]?=some (dE all s l bud sp false (.row 116 ido 0 (xs.map eL).length)):=by rw[List.getElem?_set_ne (Ne.symm hidne),hI.obj]
   have hob2':=hob2
   unfold dE cm gF gH dK at hob2
   simp only[go_sem,simprocAttr,aw hob2,ay hob2,aR hob2]
   refine cI.ret ?_
   simp only[go_sem,simprocAttr]
   have hf12:=hI.f12 ido (by simp[bc])
   have hidol:ido<(B.st).length:=(List.getElem?_eq_some_iff.1 hz).1
   have hidl2:id<B.st.length:=(List.getElem?_eq_some_iff.1 hI.obj).1
   refine⟨_,.refl _,by have:=hI.fr.len;simpa using this,(hI.fr.set (.inr hf12) _).set (.inl (by simp)) _,.inr ⟨hbud2,rfl,.row 116 ido 0 (xs.map eL).length,ys,?_,?_,λj hj=>?_,hy1.trans hpf,hy2⟩⟩
   ·rw[←hcnt,List.getElem?_set_self (by simpa using hidl2)]
    rfl
   ·refine .inr ⟨ido,0,_,ys.map eL,rfl,?_,?_,?_⟩
    ·rw[List.getElem?_set_ne hidne,List.getElem?_set_self hidol]
    ·simp[hy1.length_eq]
    ·rw[List.drop_zero,List.take_of_length_le (by simp[hy1.length_eq])]
   ·simp[bc]at hj
    subst hj
    exact hf12
end Go.Proofs.Tryz
end
section
namespace Go.Proofs.Tryz
open Go Go.Av
set_option maxRecDepth 10000
set_option maxHeartbeats 2000000
variable {W0 :World}
structure F7 (all:List Pkg)(s:List aG)(l:List aS):Prop where
 h0:bg all=0
 ho:all=cw all
 hmn: ∀p∈all,lp p
 GY:s.length≤10
 hU:Uni all s l
def Ew (all:List Pkg)(s:List aG)(l:List aS):Nat:=ie (ee all s l) (aM all s l) 0 0
def uN (all:List Pkg)(s:List aG)(l:List aS):List FB:=(po all s l (ei l)).map toB
inductive SSt |fresh|run (o:List FB)|fail
def HC (σ:ab)(id:Nat)(all:List Pkg)(s:List aG)(l:List aS)(bud:Int):SSt→Prop
 | .fresh=>σ[id]?=some (dE all s l bud 0 false .az)
 | .run o=>ey all s l=false∧(∃v,σ[id]?=some (dE all s l bud (Ew all s l) true v)∧dG σ v 116 (o.map eL))∧ ∀x∈o,x.1.length=5∧x.2<2^all.length
 | .fail=>ey all s l=false∧0<bud∧ ∃v,σ[id]?=some (dE all s l bud bud false v)
def jT (all:List Pkg)(s:List aG)(l:List aS)(bud:Int)(st:SSt):Option FB×Int×SSt:=
 if ey all s l=true then(none,0,st)else match st with
  | .fail=>(none,11,.fail)
  | .fresh=>if 0<bud∧bud<Ew all s l then(none,11,.fail)else((uN all s l).head?,0,.run (uN all s l).tail)
  | .run o=>(o.head?,0,.run o.tail)
def E9 (all:List Pkg):Option FB→Int→AV
 |none,e=>.tup [aT [],dF [0,0,0,0,0],.bool false,.int .i64 e]
 |some x,e=>.tup [aT (atL all (aV all.length x.2)),dF x.1,.bool true,.int .i64 e]
theorem F7.W2 {all:List Pkg}{s:List aG}{l:List aS}(h:F7 all s l)(hnv:ey all s l=false){o:List FB}(hp:o.Perm (wx all s l (ei l)))(hs:o.Pairwise λx y=>ltB y x=false):o=uN all s l:=
 AO (dH h.h0) (λp hp=>cW h.h0 hp) (xF (by rw[h.ho];exact iT (eV h.h0).2)) h.hU hnv _ hp hs
theorem Gz (σ:ab)(id:Nat)(all:List Pkg)(s:List aG)(l:List aS)(bud:Int)(v:AV)(hb:0<bud)(hid:σ[id]?=some (dE all s l bud bud false v)):
  aY prog W0 57 [.ptr 96 id 0 []] σ λr σ'=>r= .int .i64 11∧σ'=σ:=by
 have hidl:=(List.getElem?_eq_some_iff.1 hid).1
 refine aY.back (.int _ _) ?_
 refine jw [.tmp 2] [5,8,5000010,3000069,2000072,4000011,2000140,2000003] func57 rfl rfl ntmps57 rfl rfl λhs=>?_
 simp only[go_sem,simprocAttr]
 refine ae.at [0] (.of (by kernel_rfl)) (λA=>False) ?_ λB hF=>hF.elim
 refine ae.cu [0] (.of (by kernel_rfl)) (λk A=>A.env 3= .row 171 σ.length 0 1∧Ext σ A.st) 0 ?_ λk B ⟨h3,hx⟩=>?_
 ·simp only[go_sem,simprocAttr]
  exact Ext.app (.refl _) _
 have hob:B.st[id]?=some (dE all s l bud bud false v):=by
  have e:=congrArg (·[id]?) hx
  simp only[List.getElem?_take,if_pos hidl]at e
  rw[e,hid]
 unfold dE cm at hob
 have hc:(decide (0<bud)&&(bud==bud))=true:=by simp[hb]
 have hd:decide (0<bud)=true:=decide_eq_true hb
 simp only[go_sem,simprocAttr,h3,aw hob,ay hob,hd]
 refine⟨.of (by kernel_rfl),cI.ret ?_⟩
 simp only[go_sem,simprocAttr]
 exact⟨_,.refl _,hx.le,.refl _,hx⟩
@[go_sem] theorem Ra {A:aa}(t u v w:ResultVar):ry A [t,u,v,w]= .tup [ji A t,ji A u,ji A v,ji A w]:=rfl
theorem xi {n:Nat}(D:Dat): ∀{gs:List (Bool×List Nat)} (s c:Nat),(∀g∈gs,∀i∈g.2,i<n)→s<2^n→ ∀S∈nk D gs s c,S<2^n
 |[],s,c,_,h,S,hS=>by
  rw[nk]at hS
  split at hS
  ·simp at hS;rw[hS];exact h
  ·cases hS
 |g::r,s,c,hg,h,S,hS=>by
  rw[nk]at hS
  rcases List.mem_append.1 hS with hS|hS
  ·split at hS
   ·exact xi D s c (λg' h'=>hg g' (by simp[h'])) h S hS
   ·cases hS
  ·obtain⟨i,hi,hS⟩:=List.mem_flatMap.1 hS
   exact xi D _ _ (λg' h'=>hg g' (by simp[h'])) (Nat.or_lt_two_pow h (Nat.pow_lt_pow_right (by decide) (hg g (by simp) i (List.mem_filter.1 hi).1))) S hS
theorem El {all:List Pkg}(s:List aG)(l:List aS)(D:Dat)(t c:Nat)(ht:t<2^all.length){S:Nat}(hS:S∈nk D (aM all s l) t c):S<2^all.length:=by
 refine xi D t c (λg hg i hi=>?_) ht S hS
 unfold aM at hg
 obtain⟨n,_,rfl⟩:=List.mem_map.1 hg
 obtain⟨q,hq,_⟩:=bn.1 hi
 exact(List.getElem?_eq_some_iff.1 hq).1
theorem mU (all:List Pkg)(e:Int):cR (.tup [.az,.agg 39 [.int .i64 0,.int .i64 0,.int .i64 0,.int .i64 0,.int .i64 0],.bool false,.int .i64 e]) (E9 all none e):=by
 refine .tup rfl λi x y hx hy=>?_
 match i,hx,hy with
 |0,hx,hy=>cases hx;cases hy;exact .az _
 |1,hx,hy=>cases hx;cases hy;exact .refl _
 |2,hx,hy=>cases hx;cases hy;exact .refl _
 |3,hx,hy=>cases hx;cases hy;exact .refl _
theorem JA (hW:rE W0)(σ:ab)(id:Nat)(all:List Pkg)(s:List aG)(l:List aS)(bud:Int)(st:SSt)(hH:F7 all s l)(hb0:0≤bud)(hbm:bud≤1000000000000)(hst:HC σ id all s l bud st):
  aY prog W0 14 [.ptr 96 id 0 []] σ λr σ'=>r=E9 all (jT all s l bud st).1 (jT all s l bud st).2.1∧Fr [id] σ σ'∧HC σ' id all s l bud (jT all s l bud st).2.2:=by
 obtain⟨sp,dn,v,hob,hdn,hvn⟩: ∃(sp:Int) (dn:Bool) (v:AV),σ[id]?=some (dE all s l bud sp dn v)∧(dn=true↔ ∃o,st= .run o)∧(ey all s l=true→v= .az):=by
  cases st with
  |fresh=>exact⟨0,false,.az,hst,by simp,λ_=>rfl⟩
  |run o=>obtain⟨h0,⟨v,h1,_⟩,_⟩:=hst;exact⟨_,true,v,h1,by simp,λh=>absurd h0 (by rw[h];decide)⟩
  |fail=>obtain⟨h0,_,v,h1⟩:=hst;exact⟨_,false,v,h1,by simp,λh=>absurd h0 (by rw[h];decide)⟩
 have hidl:=(List.getElem?_eq_some_iff.1 hob).1
 have hn:=hH.hU.asks
 refine jw [.tmp 2,.cell 3 39,.tmp 4,.tmp 5] [7,3000059,4000011] func14 rfl rfl ntmps14 rfl rfl λhs=>?_
 have hob1: ∀J,(σ++J)[id]?=some (dE all s l bud sp dn v):=λJ=>by rw[List.getElem?_append_left hidl,hob]
 have hob2:=hob1
 unfold dE cm at hob2
 simp only[go_sem,simprocAttr,aw (hob2 _),ay (hob2 _)]
 obtain⟨cz,hcz⟩: ∃cz:Option cX,cz=some (.cells 39 [.agg 39 [.int .i64 0,.int .i64 0,.int .i64 0,.int .i64 0,.int .i64 0]]):=⟨_,rfl⟩
 have hz0:(σ++[cz])[σ.length]?=some cz:=by rw[List.getElem?_append_right (Nat.le_refl _),Nat.sub_self];rfl
 have hfr0:Fr [id] σ (σ++[cz]):=Fr.ext (Ext.app (.refl _) _)
 have hrv: ∀{J:ab} {o:List FB} {w:AV},dG σ w 116 (o.map eL)→dG (σ++J) w 116 (o.map eL):=λh=>h.eC λj hj=>by rw[List.getElem?_append_left (h.lt j hj)]
 refine cB.at [0,3] (by kernel_rfl) (λA=>A.st[σ.length]?=some cz∧Fr [id] σ A.st∧((ey all s l=true∧A.st=σ++[cz])∨(∃o,HC A.st id all s l bud (.run o)∧jT all s l bud st=(o.head?,0,.run o.tail)))) (λhc=>?_) (λhc=>?_) λB ⟨hz,hfr,hcase⟩=>?_
 ·simp only[Bool.and_eq_true,Bool.not_eq_true']at hc
  obtain⟨hc1,hc2⟩:=hc
  cases st with
  |fresh=>
   have hst0:(σ++[cz])[id]?=some (dE all s l bud 0 false .az):=by rw[List.getElem?_append_left hidl];exact hst
   have hfi:=J9 (W0:=W0) hW (σ++[cz]) id all s l bud hn hH.h0 hH.ho hH.hmn hH.GY hb0 hbm hst0
   simp only[go_sem,simprocAttr]
   refine ak.goes (by simp only[go_sem,simprocAttr];rw[hcz]) hfi λr σ1 ⟨hfr1,hr⟩=>?_
   have hfr2:Fr [id] σ σ1:=⟨by have:=hfr1.len;simp at this;omega,λj hj hF=>by rw[hfr1.old j (by simp;omega) hF,hfr0.old j hj hF]⟩
   have hz1:σ1[σ.length]?=some cz:=by rw[hfr1.old σ.length (by simp) (by simp;omega),hz0]
   rcases hr with⟨g1,g2,rfl,w,g3⟩|⟨g1,rfl,w,o,g3,g4,g5,g6,g7⟩
   ·have hnx:jT all s l bud .fresh=(none,11,.fail):=by
     unfold jT
     rw[if_neg (by rw[hc2];decide)]
     exact if_pos ⟨g1,g2⟩
    rw[hnx]
    have hz1':=hz1
    rw[hcz]at hz1'
    simp only[go_sem,simprocAttr,aw hz1',ay hz1',aR hz1',fS hz1']
    refine cI.ret ?_
    simp only[go_sem,simprocAttr,aw hz1',ay hz1',ji]
    exact⟨_,mU all 11,hfr2.len,rfl,hfr2,hc2,g1,w,g3⟩
   ·have hob3:=g3
    have ho:=hH.W2 hc2 g6 g7
    simp only[go_sem,simprocAttr]
    refine⟨hz1,hfr2,.inr ⟨uN all s l,⟨hc2,⟨w,g3,by rw[←ho];exact g4⟩,λx hx=>?_⟩,?_⟩⟩
    ·rw[←ho]at hx
     obtain⟨S,hS,rfl⟩:=List.mem_map.1 (g6.subset hx)
     exact⟨na _ _ _ _ _ _,El s l _ 0 0 (Nat.two_pow_pos _) hS⟩
    ·unfold jT
     rw[if_neg (by rw[hc2];decide)]
     exact if_neg (by unfold Ew;omega)
  |run o=>exact absurd (hdn.2 ⟨o,rfl⟩) (by rw[hc1];decide)
  |fail=>
   obtain⟨_,q1,w,q2⟩:=hst
   have hst0:(σ++[cz])[id]?=some (dE all s l bud bud false w):=by rw[List.getElem?_append_left hidl];exact q2
   have hnx:jT all s l bud .fail=(none,11,.fail):=by
    unfold jT
    rw[if_neg (by rw[hc2];decide)]
   rw[hnx]
   have hz1':=hz0
   rw[hcz]at hz1'
   simp only[go_sem,simprocAttr]
   refine ak.reads (by simp only[go_sem,simprocAttr];rw[hcz]) (Gz (σ++[cz]) id all s l bud w q1 hst0) ?_
   simp only[go_sem,simprocAttr,aw hz1',ay hz1',aR hz1',fS hz1']
   refine cI.ret ?_
   simp only[go_sem,simprocAttr,aw hz1',ay hz1',ji]
   rw[hcz]at hfr0 hst0
   exact⟨_,mU all 11,by simp,rfl,hfr0,hc2,q1,w,hst0⟩
 ·have hc':dn=true∨ey all s l=true:=by
   cases dn<;>simp_all
  simp only[go_sem,simprocAttr]
  rw[←hcz]
  refine⟨rfl,hfr0,?_⟩
  by_cases hnv:ey all s l=true
  ·exact .inl ⟨hnv,rfl⟩
  ·have hd:dn=true:=by rcases hc' with h|h;exact h;exact absurd h hnv
   obtain⟨o,rfl⟩:=hdn.1 hd
   obtain⟨p1,⟨w,p2,p3⟩,p4⟩:=hst
   refine .inr ⟨o,⟨p1,⟨w,by rw[List.getElem?_append_left hidl];exact p2,hrv p3⟩,p4⟩,?_⟩
   unfold jT
   rw[if_neg hnv]
 ·have hz1:=hz
  rw[hcz]at hz1
  rcases hcase with⟨hnv,hBst⟩|⟨o,⟨p1,⟨w,p2,p3⟩,p4⟩,hnx⟩
  ·have hnx:jT all s l bud st=(none,0,st):=by unfold jT;rw[if_pos hnv]
   have hvn':=hvn hnv
   subst hvn'
   have hob3:B.st[id]?=some (dE all s l bud sp dn .az):=by rw[hBst,List.getElem?_append_left hidl,hob]
   unfold dE cm at hob3
   rw[hnx]
   simp only[go_sem,simprocAttr,aw hob3,ay hob3,hnv,aw hz1,ay hz1,aR hz1,fS hz1]
   refine cI.ret ?_
   simp only[go_sem,simprocAttr,aw hz1,ay hz1,ji]
   refine⟨_,mU all 0,by rw[hBst];simp,rfl,hfr,?_⟩
   cases st with
   |fresh=>
    show B.st[id]?=_
    rw[hBst,List.getElem?_append_left hidl]
    exact hst
   |run o=>exact absurd hst.1 (by rw[hnv];decide)
   |fail=>exact absurd hst.1 (by rw[hnv];decide)
  ·have hob3:=p2
   unfold dE cm at hob3
   rw[hnx]
   simp only[go_sem,simprocAttr,aw hob3,ay hob3,p3.st.ok,p3.st.un,p3.st.len,p3.st.fO,p1,List.length_map,aw hz1,ay hz1,aR hz1,fS hz1]
   refine⟨λh0=>cI.ret ?_,λh0=>?_⟩
   ·have ho:o=[]:=List.length_eq_zero_iff.1 (by omega)
    subst ho
    simp only[go_sem,simprocAttr,aw hz1,ay hz1,ji]
    exact⟨_,mU all 0,hfr.len,rfl,hfr,p1,⟨w,p2,p3⟩,p4⟩
   ·obtain⟨x,r,rfl⟩: ∃x r,o=x::r:=by
     cases o with
     |nil=>exact absurd rfl h0
     |cons x r=>exact⟨x,r,rfl⟩
    have hcut:=p3.cut (a:=1) (b:=(x::r).length) (by simp) (by simp)
    rcases p3 with⟨rfl,hnil⟩|⟨ido,off,m,zs,rfl,hz2,hle,hx⟩
    ·simp at hnil
    have hml:m=r.length+1:=by
     have:=congrArg List.length hx
     simp only[List.length_map,List.length_cons,List.length_take,List.length_drop]at this
     omega
    subst hml
    have hzi:zs[off+0]?=some (eL x):=by
     have h1:((x::r).map eL)[0]?=some (eL x):=rfl
     rw[hx,List.getElem?_take,if_pos (by omega),List.getElem?_drop]at h1
     exact h1
    have hob4:(B.st++[none])[id]?=some (dE all s l bud (Ew all s l) true (.row 116 ido off (r.length+1))):=by rw[List.getElem?_append_left (List.getElem?_eq_some_iff.1 p2).1];exact p2
    have hob5:=hob4
    unfold dE cm at hob5
    obtain⟨τ,hτ⟩: ∃τ,τ=(B.st++[none]).set id (dE all s l bud (Ew all s l) true (.row 116 ido (off+1) r.length)):=⟨_,rfl⟩
    have hlid:id<(B.st++[none]).length:=(List.getElem?_eq_some_iff.1 hob4).1
    have hobτ:τ[id]?=some (dE all s l bud (Ew all s l) true (.row 116 ido (off+1) r.length)):=by rw[hτ];exact List.getElem?_set_self hlid
    have hne1:id≠σ.length:=by omega
    have hzτ:τ[σ.length]?=some cz:=by rw[hτ,List.getElem?_set_ne hne1,List.getElem?_append_left (List.getElem?_eq_some_iff.1 hz).1,hz]
    have hzτ':=hzτ
    rw[hcz]at hzτ'
    obtain⟨hx5,hx2⟩:=p4 x (by simp)
    have hwh:=Hy (W0:=W0) hW τ id all x.2 hH.h0 hH.ho hH.hmn hx2 hobτ
    have hτ':=hτ
    unfold dE cm at hτ'
    have hco1: ∀g,okM g (dF x.1)=True:=λg=>bR trivial
    have hco2:unm (dF x.1)=dF x.1:=rfl
    have hco3:bq prog 39 (dF x.1)=true:=by kernel_rfl
    simp only[go_sem,simprocAttr,aw hz2,ay hz2,hzi,eL,cb,aw hob5,ay hob5,aR hob5,List.length_cons]
    rw[←hτ']
    refine⟨.of (by kernel_rfl),aA.st hwh ?_⟩
    simp only[go_sem,simprocAttr,hco1,hco2,hco3,aw hzτ',ay hzτ',aR hzτ']
    have hl3:σ.length<τ.length:=(List.getElem?_eq_some_iff.1 hzτ).1
    have hlk:(τ.set σ.length (some (.cells 39 [dF x.1])))[σ.length]?=some (some (.cells 39 [dF x.1])):=List.getElem?_set_self hl3
    have hco4: ∀σ',qS none σ' 39 (.loc 39 (dF x.1))=True:=λσ'=>eq_true rfl
    have hfrτ:Fr [id] σ τ:=by rw[hτ];exact(hfr.app _).set (.inl (by simp)) _
    refine cI.ret ?_
    simp only[go_sem,simprocAttr,aw hlk,ay hlk,ji]
    refine⟨_,.refl _,by simpa using hfrτ.len,rfl,hfrτ.set (.inr (Nat.le_refl _)) _,p1,⟨.row 116 ido (off+1) r.length,?_,?_⟩,λy hy=>p4 y (List.mem_cons_of_mem _ hy)⟩
    ·rw[List.getElem?_set_ne (Ne.symm hne1)];exact hobτ
    ·have hidne:ido≠id:=λe=>by
      rw[e]at hz2
      unfold dE cm at p2
      rw[hz2]at p2
      simp at p2
     have hidne2:ido≠σ.length:=λe=>by
      rw[e,hz1]at hz2
      simp at hz2
     have hr:dG B.st (.row 116 ido (off+1) r.length) 116 (r.map eL):=by
      have h:=hcut
      simp only[rM,List.length_cons,Nat.add_sub_cancel,List.map_cons,List.drop_succ_cons,List.drop_zero]at h
      rwa [List.take_of_length_le (by simp)]at h
     refine hr.eC λj hj=>?_
     simp[bc]at hj
     subst hj
     rw[List.getElem?_set_ne (Ne.symm hidne2),hτ,List.getElem?_set_ne (Ne.symm hidne),List.getElem?_append_left (List.getElem?_eq_some_iff.1 hz2).1]
end Go.Proofs.Tryz
end
section
namespace Go.Proofs.Tryz
open Go Go.Av
set_option maxRecDepth 10000
variable {W0 :World}
theorem As (fs gs:List AV):iF prog 39 fs gs=ug [1,1,1,1,1] fs gs:=by
 have hu:prog.underlying 39=some (.array 5 3):=by kernel_rfl
 have hc:(af prog 3==1&& !prog.eqGuardType prog.depth 39)=true:=by kernel_rfl
 have hf:bp prog 39=some [3,3,3,3,3]:=by kernel_rfl
 have hk:[3,3,3,3,3].map (eqK prog)=[1,1,1,1,1]:=by kernel_rfl
 unfold iF
 simp only[hu]
 rw[if_pos hc,hf,Option.bind_some,BW,hk]
theorem Ks {a b:List Nat}(ha:a.length=5)(hb:b.length=5):iF prog 39 (a.map λx=>.int .i64 (x:Nat)) (b.map λx=>.int .i64 (x:Nat))=some (decide (a=b)):=by
 rw[As]
 match a,ha,b,hb with
 |[a0,a1,a2,a3,a4],_,[b0,b1,b2,b3,b4],_=>
  simp only[List.map_cons,List.map_nil,ug,Be,if_true,Option.bind_some,Option.map_some,Bool.and_true,Option.some.injEq]
  rw[Bool.eq_iff_iff]
  simp[Int.ofNat_inj]
def bwA :Pkg:=⟨[97,97],[49],[],[[⟨[98,98],0,[]⟩,⟨[99,99],0,[]⟩]],[],[],[],[],false⟩
def bwB :Pkg:=⟨[98,98],[49],[],[],[],[],[],[],false⟩
def bwC :Pkg:=⟨[99,99],[49],[],[],[],[],[],[],false⟩
def bwL :List Pkg:=[bwA,bwB,bwC]
def bwQ :List aS:=[⟨1,[97,97],[]⟩]
theorem Xy :ly bwL [] bwQ=0:=by decide+kernel
theorem U6 :ey bwL [] bwQ=false:=by decide+kernel
theorem IU :(uN bwL [] bwQ).head?=some ([0,0,0,2,0],3):=by decide+kernel
theorem F5 : ∀p∈bwL,lp p:=λp hp=>by
 simp[bwL]at hp
 rcases hp with rfl|rfl|rfl<;>exact⟨by decide,by decide,by decide⟩
theorem SQ :F7 bwL [] bwQ:=⟨by decide+kernel,by decide+kernel,F5,by decide,⟨by decide+kernel,by decide+kernel,λx hx=>by cases hx⟩⟩
theorem j9 (hW:rE W0):ag prog W0 10 [] (.bool true):=by
 refine .GO (.bool _) λσ=>?_
 refine jw [.tmp 0] [5] func10 rfl rfl ntmps10 rfl rfl λhs=>?_
 simp only[go_sem,simprocAttr]
 refine ak.goes (by simp only[go_sem,simprocAttr]) ((NO σ bwL [] bwQ 0 F5 (λx hx=>by cases hx)).bZ (.cons (.sub (ja (n:=10) (by kernel_rfl))) (.cons (.az _) (.cons (.sub (ja (n:=10) (by kernel_rfl))) (.cons (.refl _) .nil))))) λr σ1 ⟨hx,hr⟩=>?_
 rcases hr with⟨h,_⟩|⟨_,id,rfl,hid,hob⟩
 ·exact absurd Xy h
 rw[EF SQ.hU.asks]at hob
 simp only[go_sem,simprocAttr]
 have hn:=JA hW σ1 id bwL [] bwQ 0 .fresh SQ (by decide) (by decide) hob
 have hnx:jT bwL [] bwQ 0 .fresh=(some ([0,0,0,2,0],3),0,.run (uN bwL [] bwQ).tail):=by
  unfold jT
  rw[if_neg (by rw[U6];decide)]
  simp only[IU]
  rfl
 rw[hnx]at hn
 refine ak.goes (by simp only[go_sem,simprocAttr]) hn λr σ2 ⟨hr,hfr,_⟩=>?_
 subst hr
 have hpk:atL bwL (aV bwL.length 3)=[bwA,bwB]:=by decide+kernel
 have a1: ∀(x y:AV) (l:List AV),atV (x::y::l) 1=y:=λ_ _ _=>rfl
 simp only[go_sem,simprocAttr,E9,hpk,aT,dF,List.map_cons,List.map_nil,List.length_cons,List.length_nil,a1]
 simp only[go_sem,simprocAttr,au,bwB]
 have heq:iF prog 39 [AV.int .i64 0,AV.int .i64 0,AV.int .i64 0,AV.int .i64 2,AV.int .i64 0] [AV.int .i64 0,AV.int .i64 0,AV.int .i64 0,AV.int .i64 2,AV.int .i64 0]=some true:=Ks (a:=[0,0,0,2,0]) (b:=[0,0,0,2,0]) rfl rfl
 rw[heq]
 refine⟨rfl,cI.ret ?_⟩
 simp only[go_sem,simprocAttr,Option.map_some,Option.getD_some]
 have hle:=hfr.len
 have hl1:=hx.le
 refine⟨_,.refl _,by first|omega|(simp;omega),.refl _,?_⟩
 exact(hfr.Gp hx λj hj=>by simp at hj;omega).app _
end Go.Proofs.Tryz
end
section
namespace Go.Proofs.Tryz
open Go Go.Av
set_option maxRecDepth 10000
variable {W0 :World}
theorem pP (l:List Pkg)(hp: ∀p∈l,An p):ag prog W0 17 [aT l] (.bool (ir 0 l)):=by
 refine al [2] [4] func17 rfl rfl ntmps17 rfl rfl (.bool _) λhs σ=>?_
 have hl:=(aH (hs _ (List.mem_cons_self ..))).1
 have hls:=(aH (hs _ (List.mem_cons_self ..))).2
 simp only[go_sem,simprocAttr,aT,List.length_map]
 refine ae.upto [9,10] (.of (by kernel_rfl)) l.length (λi A=>A.env 11= .int .i64 i∧Ext σ A.st∧ir i (l.drop i)=ir 0 l) 0 (Nat.zero_le _) ?_ λi B hi ⟨h8,hst,hI⟩=>?_
 ·simp only[go_sem,simprocAttr]
  simp[Ext.refl]
 simp only[go_sem,simprocAttr,h8,List.length_map]
 refine⟨λhc=>⟨hc,?_⟩,λhc=>?_⟩
 ·obtain⟨p,hpi⟩:=get_some hc
  simp only[av hpi]
  have hR:=hp p (List.mem_of_getElem? hpi)
  have r1:=hR.con;have r2:=hR.brk;have r3:=hR.dI
  rw[HZ]at r1 r2 r3
  have hw1:IntKind.i64.wrap ((p.con.length:Int)+(p.brk.length:Int))=((p.con.length:Int)+(p.brk.length:Int)):=aE (by omega)
  have hw2:IntKind.i64.wrap ((p.con.length:Int)+(p.brk.length:Int)+(p.dI.length:Int))=((p.con.length:Int)+(p.brk.length:Int)+(p.dI.length:Int)):=aE (by omega)
  rw[List.drop_eq_getElem_cons hc,ir]at hI
  have hpe:l[i]=p:=(List.getElem?_eq_some_iff.1 hpi).2
  rw[hpe]at hI
  simp only[go_sem,simprocAttr,au,aC,cn,h8,List.length_map,hw1,hw2]
  have e3:[ax p.pre,ax p.dep,ax p.rcm]=[p.pre,p.dep,p.rcm].map ax:=rfl
  refine⟨λhb=>⟨ai ?_,hst.app _⟩,λhb=>?_⟩
  ·have:nH i p=false:=by
    unfold nH
    simp only[Bool.or_eq_true,decide_eq_true_eq]at hb
    rcases hb with hb|hb
    ·rw[decide_eq_false (show ¬i<26 by omega)];rfl
    ·rw[decide_eq_false (show ¬p.con.length+p.brk.length+p.dI.length≤40 by omega),Bool.and_false];rfl
   rw[←hI,this];rfl
  simp only[Bool.or_eq_false_iff,decide_eq_false_iff_not]at hb
  have hP:nH i p=[p.pre,p.dep,p.rcm].all tL:=by
   unfold nH
   rw[decide_eq_true (show i<26 by omega),decide_eq_true (show p.con.length+p.brk.length+p.dI.length≤40 by omega)];rfl
  simp only[e3]
  have hds:=hls p (List.mem_of_getElem? hpi)
  refine ae.ats [9,10,11] (.of (by kernel_rfl)) (λA=>Ext σ A.st∧nH i p=true) ?_ λB2 ⟨hst,h6⟩=>?_
  ·refine ae.upto [9,10,11,38] (.of (by kernel_rfl)) 3 (λj A=>A.env 39= .int .i64 j∧Ext σ A.st∧([p.pre,p.dep,p.rcm].drop j).all tL=[p.pre,p.dep,p.rcm].all tL) 0 (Nat.zero_le _) ?_ λj B2 hj ⟨h39,hst,hJ⟩=>?_
   ·simp only[go_sem,simprocAttr]
    exact hst.app _
   simp only[go_sem,simprocAttr,h39]
   simp only[e3]
   refine⟨λhc2=>?_,λhc2=>?_⟩
   ·have hc3:j<[p.pre,p.dep,p.rcm].length:=by show j<3;omega
    obtain⟨d,hdj⟩:=get_some hc3
    have hde:=(List.getElem?_eq_some_iff.1 hdj).2
    rw[List.drop_eq_getElem_cons hc3,hde,List.all_cons]at hJ
    simp only[getD_map hdj]
    simp only[go_sem,simprocAttr,ax,h39,List.length_map]
    refine⟨hc3,?_⟩
    have hlD:tL d=(decide (d.length≤14)&&d.all λc=>decide (c.length≤10)):=rfl
    refine⟨λhb=>⟨ai ?_,hst⟩,λhb=>?_⟩
    ·rw[←hI,hP,←hJ,hlD,decide_eq_false (by omega)];rfl
    rw[decide_eq_true (show d.length≤14 by omega),Bool.true_and]at hlD
    refine ae.ats [9,10,11,38,39] (.of (by kernel_rfl)) (λA=>Ext σ A.st∧(d.all λc=>decide (c.length≤10))=true) ?_ λB3 ⟨hst,h6⟩=>?_
    ·refine ae.upto [9,10,11,38,39,45,46] (.of (by kernel_rfl)) d.length (λk A=>A.env 47= .int .i64 k∧Ext σ A.st∧ ∀c∈d.take k,c.length≤10) 0 (Nat.zero_le _) ?_ λk B3 hk ⟨h47,hst,hK⟩=>?_
     ·simp only[go_sem,simprocAttr]
      simp[hst]
     simp only[go_sem,simprocAttr,h47,List.length_map]
     refine⟨λhc4=>⟨hc4,?_⟩,λhc4=>?_⟩
     ·obtain⟨c,hck⟩:=get_some hc4
      simp only[av hck]
      simp only[go_sem,simprocAttr,aC,h47,List.length_map]
      refine⟨λhb=>⟨ai ?_,hst⟩,λhb=>⟨hc4,ah hc4 (by rw[aq];omega),hst,?_⟩⟩
      ·have:(d.all λc=>decide (c.length≤10))=false:=by
        rw[List.all_eq_false]
        exact⟨c,List.mem_of_getElem? hck,by simp;omega⟩
       rw[←hI,hP,←hJ,hlD,this];rfl
      ·rw[aj hck]
       intro x hx
       rcases List.mem_append.1 hx with hx|hx
       ·exact hK x hx
       ·rw[List.mem_singleton.1 hx];omega
     ·rw[List.take_of_length_le hc4]at hK
      exact⟨hst,List.all_eq_true.2 λc hcm=>decide_eq_true (hK c hcm)⟩
    simp only[go_sem,simprocAttr,h39]
    refine⟨by omega,ah (show j<3 by omega) (by rw[aq];omega),hst,?_⟩
    rw[hlD,h6,Bool.true_and]at hJ
    simpa using hJ
   ·have:j=3:=by omega
    subst this
    exact⟨hst,by rw[hP,←hJ];rfl⟩
  simp only[go_sem,simprocAttr,h8]
  refine⟨hc,ah hc hl,hst,?_⟩
  rw[h6,Bool.true_and]at hI
  exact hI
 ·have:i=l.length:=by omega
  subst this
  rw[List.drop_length]at hI
  exact⟨ai hI,hst⟩
theorem Fg (l:List aG)(hl:l.length≤733007751829):ag prog W0 18 [bf l] (aT (l.map (·.pkg))):=by
 refine al [2] [5] func18 rfl rfl ntmps18 rfl rfl (iX _) λhs σ=>?_
 simp only[go_sem,simprocAttr,bf,List.length_map]
 refine ae.at [6,7] (.of (by kernel_rfl)) (λA=>∃ v,A.env 3=v∧aK σ A.st v 54 ((l.map (·.pkg)).map au)) ?_ λB ⟨v,h3,hb⟩=>?_
 ·refine ae.upto [6,7] (.of (by kernel_rfl)) l.length (λi A=>∃ v,A.env 3=v∧A.env 8= .int .i64 i∧aK σ A.st v 54 (((l.take i).map (·.pkg)).map au)) 0 (Nat.zero_le _) ?_ λi B hi ⟨v,h3,h8,hb⟩=>?_
  ·simp only[go_sem,simprocAttr]
   exact⟨_,rfl,aK.nil (.refl _) _⟩
  simp only[go_sem,simprocAttr,h3,h8,hb.ok,hb.un,List.length_map]
  refine⟨λhlt=>⟨hlt,?_⟩,λhlt=>?_⟩
  ·obtain⟨x,hx⟩:=get_some hlt
   simp only[av hx]
   have hb1:=hb.more [none]
   simp only[go_sem,simprocAttr,bD,au,h3,h8,hb.ok,hb.un]
   refine bM.own 733007751829 (by kernel_rfl) hb1.bld (.lit _ _ _) (by simp;omega) λv' σ' ha'=>?_
   have hb':=hb1.app ha'
   simp only[go_sem,simprocAttr,h3,h8,hb.ok,hb.un,hb'.ok,hb'.un]
   refine⟨hlt,_,rfl,ah hlt (by rw[aq];omega),?_⟩
   rw[aj hx,List.map_append,List.map_append]
   exact hb'
  ·rw[List.take_of_length_le hlt]at hb
   exact⟨_,rfl,hb⟩
 simp only[go_sem,simprocAttr,h3,hb.ok,hb.un]
 exact⟨hb.bZ,hb.ext⟩
end Go.Proofs.Tryz
end
section
namespace Go.Av
open Go.Proofs.Tryz
def rI (n x:List UInt8):Bool:=Op.bytesLess x n
def kF (n:List UInt8)(o:List (List UInt8)):List (List UInt8):=if (o.dropWhile (rI n)).head?=some n then o else o.takeWhile (rI n)++n::o.dropWhile (rI n)
def iq (l:List Pkg):List (List UInt8):=l.foldl (λo p=>kF p.name o) []
theorem mv {l:List Pkg}{i:Nat}{p:Pkg}(h:l[i]?=some p):iq (l.take (i+1))=kF p.name (iq (l.take i)):=by
 rw[iq,aj h,List.foldl_append];rfl
theorem EZ (n:List UInt8)(o:List (List UInt8)):(kF n o).length≤o.length+1:=by
 unfold kF
 split
 ·omega
 ·have:=congrArg List.length (List.takeWhile_append_dropWhile (p:=rI n) (l:=o))
  rw[List.length_append]at this
  rw[List.length_append,List.length_cons]
  omega
theorem Bv (l:List Pkg):(iq l).length≤l.length:=by
 have key: ∀(l:List Pkg) (o:List (List UInt8)),(l.foldl (λo p=>kF p.name o) o).length≤o.length+l.length:=λl=>by
  induction l with
  |nil=>intro o;simp
  |cons p l ih=>
   intro o
   have h1:=ih (kF p.name o)
   have h2:=EZ p.name o
   rw[List.foldl_cons,List.length_cons]
   omega
 have:=key l []
 simpa[iq]using this
theorem yH (n x:List UInt8)(o:List (List UInt8)):x∈kF n o↔x=n∨x∈o:=by
 have h0:=List.takeWhile_append_dropWhile (p:=rI n) (l:=o)
 unfold kF
 split
 ·rename_i h
  have hn:n∈o:=by
   rw[←h0,List.mem_append]
   exact .inr (List.mem_of_head? h)
  constructor
  ·exact λh=>.inr h
  ·rintro(rfl|h)
   ·exact hn
   ·exact h
 ·have: ∀y,y∈o↔y∈o.takeWhile (rI n)∨y∈o.dropWhile (rI n):=λy=>by
   rw[←List.mem_append,h0]
  rw[this,List.mem_append,List.mem_cons]
  constructor
  ·rintro(h|rfl|h)
   ·exact .inr (.inl h)
   ·exact .inl rfl
   ·exact .inr (.inr h)
  ·rintro(rfl|h|h)
   ·exact .inr (.inl rfl)
   ·exact .inl h
   ·exact .inr (.inr h)
theorem xX {n:List UInt8}: ∀{o:List (List UInt8)},o.Pairwise (λx y=>Op.bytesLess x y=true)→(kF n o).Pairwise λx y=>Op.bytesLess x y=true
 |[],_=>by unfold kF;simp
 |x::r,h=>by
  obtain⟨h1,h2⟩:=List.pairwise_cons.1 h
  by_cases hx:rI n x=true
  ·have e:kF n (x::r)=x::kF n r:=by
    unfold kF
    rw[List.dropWhile_cons_of_pos hx,List.takeWhile_cons_of_pos hx]
    split<;>simp
   rw[e]
   refine List.pairwise_cons.2 ⟨λy hy=>?_,xX h2⟩
   rcases(yH n y r).1 hy with rfl|hy
   ·exact hx
   ·exact h1 y hy
  ·unfold kF
   rw[List.dropWhile_cons_of_neg hx,List.takeWhile_cons_of_neg hx]
   split
   ·exact h
   ·rename_i hne
    have hxn:x≠n:=λe=>hne (by rw[e];rfl)
    have hlt:Op.bytesLess n x=true:=tY hxn (by simpa[rI]using hx)
    refine List.pairwise_cons.2 ⟨λy hy=>?_,h⟩
    rcases List.mem_cons.1 hy with rfl|hy
    ·exact hlt
    ·exact fy hlt (h1 y hy)
theorem EC (l:List Pkg):(iq l).length=(cG l []).length:=by
 have key: ∀(l:List Pkg) (o:List (List UInt8)),o.Pairwise (λx y=>Op.bytesLess x y=true)→(l.foldl (λo p=>kF p.name o) o).Pairwise (λx y=>Op.bytesLess x y=true)∧ ∀x,x∈l.foldl (λo p=>kF p.name o) o↔x∈o∨ ∃p∈l,p.name=x:=λl=>by
  induction l with
  |nil=>intro o h;exact⟨h,λx=>by simp⟩
  |cons p l ih=>
   intro o h
   obtain⟨g1,g2⟩:=ih _ (xX (n:=p.name) h)
   refine⟨g1,λx=>?_⟩
   rw[List.foldl_cons,g2,yH]
   constructor
   ·rintro((rfl|h)|⟨q,hq,e⟩)
    ·exact .inr ⟨p,by simp,rfl⟩
    ·exact .inl h
    ·exact .inr ⟨q,by simp[hq],e⟩
   ·rintro(h|⟨q,hq,e⟩)
    ·exact .inl (.inr h)
    ·rcases List.mem_cons.1 hq with rfl|hq
     ·exact .inl (.inl e.symm)
     ·exact .inr ⟨q,hq,e⟩
 obtain⟨g1,g2⟩:=key l [] .nil
 have nd:(iq l).Nodup:=g1.imp λ{a b} h e=>by rw[e,er]at h;cases h
 refine((List.perm_ext_iff_of_nodup nd (eQ l [] List.nodup_nil)).2 λx=>?_).length_eq
 rw[fx]
 exact g2 x
end Go.Av
namespace Go.Proofs.Tryz
open Go Go.Av
set_option maxRecDepth 10000
variable {W0 :World}
theorem Dq (l:List Pkg)(hl:l.length≤1024):ag prog W0 79 [aT l] (.sl 9 ((iq l).map .str)):=by
 refine ki [2] [5,45,2000044,2000048,2000052,2000003] func79 rfl rfl ntmps79 rfl rfl (vC _) λhs σ=>?_
 have ht:elT prog 58=some 9:=by kernel_rfl
 simp only[go_sem,simprocAttr,aT]
 refine ae.at [7,8] (.of (by kernel_rfl)) (λA=>∃ v,A.env 3=v∧ez σ A.st v 9 ((iq l).map .str)) ?_ λB ⟨v,h3,hb⟩=>?_
 ·refine ae.upto [7,8] (.of (by kernel_rfl)) l.length (λi A=>∃ v,A.env 3=v∧A.env 9= .int .i64 i∧ez σ A.st v 9 ((iq (l.take i)).map .str)) 0 (Nat.zero_le _) ?_ λi B hi ⟨v,h3,h9,hb⟩=>?_
  ·simp only[go_sem,simprocAttr]
   exact⟨_,rfl,ez.nil (.refl _) _⟩
  have hok:=hb.iE.ok
  have hun:=hb.iE.un
  simp only[go_sem,simprocAttr,h3,h9,hok,hun,List.length_map]
  refine⟨λhc=>?_,λhc=>?_⟩
  ·obtain⟨p,hp⟩:=get_some hc
   have ho:(iq (l.take i)).length≤1024:=by have:=Bv (l.take i);rw[List.length_take]at this;omega
   obtain⟨o,hoo⟩: ∃o,o=iq (l.take i):=⟨_,rfl⟩
   rw[←hoo]at hb ho
   have hb':=hb.more [none]
   have hlen:lX v= .int .i64 o.length:=by rw[hb.row.st.len,List.length_map]
   have hlc:=λt=>hb.row.st.fO prog t
   simp only[go_sem,simprocAttr,av hp,au,h3,h9,hok,hun]
   refine⟨hc,ae.at [3,5,7,8,9] (.of (by kernel_rfl)) (λA=>∃ a:Nat,A.env 6= .int .i64 a∧a≤o.length∧A.st=B.st++[none]∧(∀k x,k<a→o[k]?=some x→rI p.name x=true)∧(∀x,o[a]?=some x→rI p.name x=false)) ?_ λC ⟨a,h6,hle,hst,hI,hJ⟩=>?_⟩
   ·refine ae.upto [3,5,7,8,9] (.of (by kernel_rfl)) o.length (λa A=>A.env 6= .int .i64 a∧A.st=B.st++[none]∧(∀k x,k<a→o[k]?=some x→rI p.name x=true)) 0 (Nat.zero_le _) ?_ λa C hle ⟨h6,hst,hI⟩=>?_
    ·simp only[go_sem,simprocAttr]
    by_cases hlt:a<o.length
    ·obtain⟨q,hq⟩:=get_some hlt
     have hok2:=hok
     rcases hb'.row with⟨rfl,h0⟩|⟨id,off,m,zs,rfl,g1,g2,g3⟩
     ·have:=congrArg List.length h0
      simp at this
      rw[this]at hlt
      exact absurd hlt (by simp)
     have hm:m=o.length:=by rw[←dG.AK (σ:=B.st) (e:=9) (id:=id) g2 g3,List.length_map]
     have hz:zs[off+a]?=some (AV.str q):=by
      have h1:((zs.drop off).take m)[a]?=some (AV.str q):=by rw[←g3,List.getElem?_map,hq];rfl
      rw[List.getElem?_take_of_lt (by omega),List.getElem?_drop]at h1
      exact h1
     have hk0:Av.look C.st id (off+a) []=some (.str q):=by
      rw[hst]
      unfold Av.look
      rw[g1]
      simp only[hz,Option.bind_some]
      rfl
     have hlv:live C.st id:=by rw[hst,ay g1];trivial
     simp only[go_sem,simprocAttr,h3,h6,hok,hun,hm,hk0,hlv,hlt]
     refine⟨.of (by kernel_rfl),?_⟩
     refine⟨λhb1=>⟨ah hlt (by rw[aq];omega),hst,λk x hk hx=>?_⟩,λhb0=>⟨a,rfl,hle,hst,hI,λx hx=>?_⟩⟩
     ·rcases Nat.lt_succ_iff_lt_or_eq.1 hk with h|rfl
      ·exact hI k x h hx
      ·rw[hq]at hx;cases hx;exact hb1
     ·rw[hq]at hx;cases hx;exact hb0
    ·simp only[go_sem,simprocAttr,h3,h6,hok,hun,hlen,hlc,hlt,rP]
     refine⟨.of (by kernel_rfl),?_⟩
     exact⟨a,rfl,hle,hst,hI,λx hx=>by rw[List.getElem?_eq_none (by omega)]at hx;cases hx⟩
   have hrow:dG C.st v 9 (o.map AV.str):=by rw[hst];exact hb'.row
   have hle':a≤(o.map AV.str).length:=by simpa using hle
   have hc1:=hrow.cut (Nat.zero_le a) hle'
   have hc2:=hrow.cut hle' (Nat.le_refl _)
   rw[List.length_map]at hc2
   have q1:=hc1.st.ok
   have q2:=hc1.st.un
   have q3:=hc2.st.ok
   have q4:=hc2.st.un
   have hdr:(o.drop a).head?=o[a]?:=by rw[List.head?_drop]
   by_cases hlt:a<o.length
   ·obtain⟨q,hq⟩:=get_some hlt
    rcases hrow with⟨rfl,h0⟩|⟨id,off,m,zs,rfl,g1,g2,g3⟩
    ·have:=congrArg List.length h0
     simp at this
     rw[this]at hlt
     exact absurd hlt (by simp)
    have hrow:dG C.st (.row 9 id off m) 9 (o.map AV.str):=.inr ⟨id,off,m,zs,rfl,g1,g2,g3⟩
    have hm:m=o.length:=by rw[←dG.AK (σ:=B.st) (e:=9) (id:=id) g2 g3,List.length_map]
    subst hm
    have hz:zs[off+a]?=some (AV.str q):=by
     have h1:((zs.drop off).take o.length)[a]?=some (AV.str q):=by rw[←g3,List.getElem?_map,hq];rfl
     rw[List.getElem?_take_of_lt (by omega),List.getElem?_drop]at h1
     exact h1
    have hlk:Av.look C.st id (off+a) []=some (.str q):=by
     unfold Av.look
     rw[g1]
     simp only[hz,Option.bind_some]
     rfl
    have hlv:live C.st id:=by rw[ay g1];trivial
    have hf:((a:Int)==(o.length:Int))=false:=by rw[beq_eq_false_iff_ne];omega
    simp only[go_sem,simprocAttr,h3,h6,h9,hlk,hlv,hf,hlt,rP]
    refine⟨.of (by kernel_rfl),λhnq=>?_,λheq=>?_⟩
    ·have hne: ¬(o.drop a).head?=some p.name:=by rw[hdr,hq];intro e;cases e;simp at hnq
     simp only[go_sem,simprocAttr,h3,h6,h9,hok,hun,hrow.N7,hrow.lu ht,hle,List.length_map,q1,q2,q3,q4]
     refine⟨.of (by kernel_rfl),Nat.zero_le _,bM.wO (σ:=C.st) (by simp only[go_sem,simprocAttr]) 1048576 (by kernel_rfl) (.inl ⟨rfl,rfl⟩) hc1.st.read (by simp;omega) λv1 σ1 ha1=>?_⟩
     have q5:=ha1.row.st.ok
     have q6:=ha1.row.st.un
     simp only[go_sem,simprocAttr,h3,h6,h9,hok,hun,q1,q2,q3,q4,q5,q6]
     refine bM.wO (σ:=σ1) (by simp only[go_sem,simprocAttr]) 1048576 (by kernel_rfl) ha1.row (.lit _ _ _) (by simp;omega) λv2 σ2 ha2=>?_
     have q7:=ha2.row.st.ok
     have q8:=ha2.row.st.un
     have hk:dG σ2 (rM a o.length (.row 9 id off o.length)) 9 _:=hc2.eC λj hj=>by
      rw[my]at hj
      have hj1:=hrow.lt j hj
      have hj2:j∉bc v1:=λh=>by
       rcases ha1.bc j h with h|h
       ·simp[bc]at h
       ·omega
      rw[ha2.fr.old j (Nat.lt_of_lt_of_le hj1 ha1.fr.len) hj2,ha1.fr.old j hj1 (by simp[bc])]
     simp only[go_sem,simprocAttr,h3,h6,h9,hok,hun,q1,q2,q3,q4,q5,q6,q7,q8]
     refine bM.wO (σ:=σ2) (by simp only[go_sem,simprocAttr]) 1048576 (by kernel_rfl) ha2.row hk.st.read (by simp;omega) λv3 σ3 ha3=>?_
     have q9:=ha3.row.st.ok
     have q10:=ha3.row.st.un
     simp only[go_sem,simprocAttr,h3,h6,h9,hok,hun,q1,q2,q3,q4,q5,q6,q7,q8,q9,q10]
     refine⟨hc,_,rfl,ah hc (by rw[aq];omega),?_⟩
     have hx:Ext σ C.st:=by rw[hst];exact hb'.ext
     have hfin:=(((ez.nil hx 9).app ha1).app ha2).app ha3
     rw[mv hp,←hoo,kF,(fF hI hJ).1,(fF hI hJ).2,if_neg hne]
     have he:([]++(((o.map AV.str).drop 0).take (a-0)))++[AV.str p.name]++(((o.map AV.str).drop a).take (o.length-a))=(o.take a++p.name::o.drop a).map AV.str:=by
      rw[List.take_of_length_le (l:=(o.map AV.str).drop a) (by simp)]
      simp[List.map_take,List.map_drop]
     rw[←he]
     exact hfin
    ·have hqe:q=p.name:=by simpa using heq
     refine⟨hc,_,rfl,ah hc (by rw[aq];omega),?_⟩
     rw[mv hp,←hoo,kF,(fF hI hJ).2,if_pos (by rw[hdr,hq,hqe]),hst]
     exact hb'
   ·have hal:a=o.length:=by omega
    have hlen2:lX v= .int .i64 o.length:=hlen
    have hf:((a:Int)==(o.length:Int))=true:=by rw[beq_iff_eq];omega
    have hne: ¬(o.drop a).head?=some p.name:=by rw[hdr,List.getElem?_eq_none (by omega)];simp
    simp only[go_sem,simprocAttr,h3,h6,h9,hok,hun,hlen2,hlc,hf,mw,hrow.N7,hrow.lu ht,hle,List.length_map,q1,q2,q3,q4]
    refine⟨.of (by kernel_rfl),?_⟩
    refine⟨.of (by kernel_rfl),Nat.zero_le _,bM.wO (σ:=C.st) (by simp only[go_sem,simprocAttr]) 1048576 (by kernel_rfl) (.inl ⟨rfl,rfl⟩) hc1.st.read (by simp;omega) λv1 σ1 ha1=>?_⟩
    have q5:=ha1.row.st.ok
    have q6:=ha1.row.st.un
    simp only[go_sem,simprocAttr,h3,h6,h9,hok,hun,q1,q2,q3,q4,q5,q6]
    refine bM.wO (σ:=σ1) (by simp only[go_sem,simprocAttr]) 1048576 (by kernel_rfl) ha1.row (.lit _ _ _) (by simp;omega) λv2 σ2 ha2=>?_
    have q7:=ha2.row.st.ok
    have q8:=ha2.row.st.un
    have hk:dG σ2 (rM a o.length v) 9 _:=hc2.eC λj hj=>by
     rw[my]at hj
     have hj1:=hrow.lt j hj
     have hj2:j∉bc v1:=λh=>by
      rcases ha1.bc j h with h|h
      ·simp[bc]at h
      ·omega
     rw[ha2.fr.old j (Nat.lt_of_lt_of_le hj1 ha1.fr.len) hj2,ha1.fr.old j hj1 (by simp[bc])]
    simp only[go_sem,simprocAttr,h3,h6,h9,hok,hun,q1,q2,q3,q4,q5,q6,q7,q8]
    refine bM.wO (σ:=σ2) (by simp only[go_sem,simprocAttr]) 1048576 (by kernel_rfl) ha2.row hk.st.read (by simp;omega) λv3 σ3 ha3=>?_
    have q9:=ha3.row.st.ok
    have q10:=ha3.row.st.un
    simp only[go_sem,simprocAttr,h3,h6,h9,hok,hun,q1,q2,q3,q4,q5,q6,q7,q8,q9,q10]
    refine⟨hc,_,rfl,ah hc (by rw[aq];omega),?_⟩
    have hx:Ext σ C.st:=by rw[hst];exact hb'.ext
    have hfin:=(((ez.nil hx 9).app ha1).app ha2).app ha3
    rw[mv hp,←hoo,kF,(fF hI hJ).1,(fF hI hJ).2,if_neg hne]
    have he:([]++(((o.map AV.str).drop 0).take (a-0)))++[AV.str p.name]++(((o.map AV.str).drop a).take (o.length-a))=(o.take a++p.name::o.drop a).map AV.str:=by
     rw[List.take_of_length_le (l:=(o.map AV.str).drop a) (by simp)]
     simp[List.map_take,List.map_drop]
    rw[←he]
    exact hfin
  ·rw[List.take_of_length_le hc]at hb
   exact⟨_,rfl,hb⟩
 simp only[go_sem,simprocAttr,h3,hb.iE.ok,hb.iE.un]
 exact en.JS (hb.iE) (.inl rfl) (by simp only[go_sem,simprocAttr])
end Go.Proofs.Tryz
end
section
namespace Go.Av
open Go.Proofs.Tryz
def oM (most:Nat):List Pkg→Nat→Nat→Bool
 |[],_,_=>true
 |p::r,n,run=>if r.head?.map (·.name)=some p.name then oM most r n (run+1)else if most<n*(run+2)then false else oM most r (n*(run+2)) 0
end Go.Av
namespace Go.Proofs.Tryz
open Go Go.Av
set_option maxRecDepth 10000
variable {W0 :World}
theorem KP (l:List Pkg)(hl:l.length≤1024)(m:Nat)(hm:m≤1048576):ag prog W0 33 [aT l,.int .i64 m] (.bool (oM m l 1 0)):=by
 refine al [4] [] func33 rfl rfl ntmps33 rfl rfl (.bool _) λhs σ=>?_
 simp only[go_sem,simprocAttr,aT,List.length_map]
 refine ae.upto [0,1,9] (.of (by kernel_rfl)) l.length (λi A=>∃ n run:Nat,A.env 10= .int .i64 i∧A.env 5= .int .i64 n∧A.env 6= .int .i64 run∧A.st=σ∧oM m (l.drop i) n run=oM m l 1 0∧n≤m+1∧run≤i) 0 (Nat.zero_le _) ?_ λi B hi ⟨n,run,h10,h5,h6,hst,hI,hn,hr⟩=>?_
 ·simp only[go_sem,simprocAttr]
  exact⟨1,0,by simp⟩
 simp only[go_sem,simprocAttr,h10,h5,h6,List.length_map]
 refine⟨λhc=>?_,λhc=>?_⟩
 ·obtain⟨p,hp⟩:=get_some hc
  have hd:l.drop i=p::l.drop (i+1):=by
   rw[←List.getElem_cons_drop hc,(List.getElem?_eq_some_iff.1 hp).2]
  have hmul:n*(run+2)≤1048577*1026:=Nat.mul_le_mul (by omega) (by omega)
  have hw1:IntKind.i64.wrap ((run:Int)+1)=((run+1:Nat):Int):=by rw[aE (by omega)];rfl
  have hw2:IntKind.i64.wrap (((run+1:Nat):Int)+1)=((run+2:Nat):Int):=by rw[aE (by omega)];omega
  have hw3:IntKind.i64.wrap ((n:Int)*((run+2:Nat):Int))=((n*(run+2):Nat):Int):=by rw[←Int.natCast_mul,aE (by omega)]
  have hw4:IntKind.i64.wrap ((i:Int)+1)=((i+1:Nat):Int):=by rw[aE (by omega)];rfl
  rw[hd,oM,List.head?_drop]at hI
  by_cases hlt:i+1<l.length
  ·obtain⟨q,hq⟩:=get_some hlt
   have hf:((i+1:Nat):Int)≠(l.length:Int):=by omega
   have hf2:(((i+1:Nat):Int)==(l.length:Int))=false:=by rw[beq_eq_false_iff_ne];exact hf
   simp only[go_sem,simprocAttr,h10,h5,h6,hw1,hw2,hw3,hw4,hf2,hst,au,av hp,av hq,hc,hlt]
   rw[hq,Option.map_some]at hI
   refine⟨.of (by kernel_rfl),λhne=>⟨λhm1=>ai ?_,λhm1=>⟨_,0,rfl,rfl,?_,by omega,Nat.zero_le _⟩⟩,λhe=>⟨n,run+1,rfl,rfl,?_,hn,by omega⟩⟩
   ·rw[←hI,if_neg (λe=>hne (Option.some.inj e)),if_pos hm1]
   ·rw[←hI,if_neg (λe=>hne (Option.some.inj e)),if_neg (by omega)]
   ·rw[←hI,if_pos (by rw[he])]
  ·have hf:((i+1:Nat):Int)=(l.length:Int):=by omega
   have hf2:(((i+1:Nat):Int)==(l.length:Int))=true:=by rw[beq_iff_eq];exact hf
   simp only[go_sem,simprocAttr,h10,h5,h6,hw1,hw2,hw3,hw4,hf2,hst,au,av hp,mw]
   rw[List.getElem?_eq_none (by omega),Option.map_none,if_neg (by simp)]at hI
   have hel:i+1=l.length:=by omega
   refine⟨.of (by kernel_rfl),λh=>absurd hel h,λh=>absurd hel h,λh=>absurd hel h,λh=>absurd hel h,λh=>absurd hel h,λhm1=>ai ?_,λhm1=>⟨hc,_,0,rfl,rfl,?_,by omega,Nat.zero_le _⟩⟩
   ·rw[←hI,if_pos hm1]
   ·rw[←hI,if_neg (by omega)]
 ·rw[List.drop_of_length_le hc]at hI
  exact⟨ai (by rw[←hI];rfl),by rw[hst];exact Ext.refl _⟩
end Go.Proofs.Tryz
end
section
namespace Go.Av
open Go.Proofs.Tryz
def lC (s:List aG)(p:Pkg):Bool:=match eo s p.name with
 |none=>true
 |some x=>!bm x.pkg.ver p.ver
theorem Hh (repo:List Pkg)(s:List aG):fC repo s=s.map (·.pkg)++repo.filter (lC s):=rfl
theorem uo {l:List Pkg}(h:bg l=0):l.length≤24:=by
 unfold bg at h
 split at h
 ·cases h
 ·omega
theorem rf {s:List aG}(h:bS s=0):s.length≤10:=by
 unfold bS at h
 split at h
 ·cases h
 ·omega
end Go.Av
namespace Go.Proofs.Tryz
open Go Go.Av
set_option maxRecDepth 10000
variable {W0 :World}
theorem Bd (s:List aG)(n:List UInt8):(gw (λx:aG=>x.pkg.name==n) s= -1∧eo s n=none)∨ ∃k x,s[k]?=some x∧eo s n=some x∧gw (λx:aG=>x.pkg.name==n) s=(k:Nat):=by
 rcases kM (λx:aG=>x.pkg.name==n) s with⟨h1,h2⟩|⟨k,p,h1,h2,h3,h4⟩
 ·exact .inl ⟨h1,List.find?_eq_none.2 λx hx=>by simpa using h2 x hx⟩
 ·exact .inr ⟨k,p,h1,o5 h1 h2 h3,h4⟩
theorem Kc (repo:List Pkg)(s:List aG):ag prog W0 32 [aT repo,bf s] (.tup [aT (gn repo s).1,.int .i64 (gn repo s).2]):=by
 refine al [4,5] [10,12] func32 rfl rfl ntmps32 rfl rfl (.xD (iX _) (.int _ _)) λhs σ=>?_
 simp only[go_sem,simprocAttr]
 refine ak.fn (uQ repo) ?_
 simp only[go_sem,simprocAttr]
 refine⟨λhc=>?_,λhc=>?_⟩
 ·have:gn repo s=([],bg repo):=by unfold gn;rw[if_pos hc]
  rw[this]
  exact iS (.sub (.az _)) (.refl _)
 refine ak.fn (Bs s) ?_
 simp only[go_sem,simprocAttr]
 refine⟨λhc2=>?_,λhc2=>?_⟩
 ·have:gn repo s=([],bS s):=by unfold gn;rw[if_neg (by simp[hc]),if_pos hc2]
  rw[this]
  exact iS (.sub (.az _)) (.refl _)
 have h24:=uo hc
 have h10:=rf hc2
 simp only[go_sem,simprocAttr,bf,List.length_map]
 refine ae.at [0,1,24,25] (.of (by kernel_rfl)) (λA=>∃ v,A.env 8=v∧aK σ A.st v 54 ((s.map (·.pkg)).map au)) ?_ λB ⟨v,h3,hb⟩=>?_
 ·refine ae.upto [0,1,24,25] (.of (by kernel_rfl)) s.length (λi A=>∃ v,A.env 8=v∧A.env 26= .int .i64 i∧aK σ A.st v 54 (((s.take i).map (·.pkg)).map au)) 0 (Nat.zero_le _) ?_ λi B hi ⟨v,h3,h8,hb⟩=>?_
  ·simp only[go_sem,simprocAttr]
   exact⟨_,rfl,aK.nil (.refl _) _⟩
  simp only[go_sem,simprocAttr,h3,h8,hb.ok,hb.un,List.length_map]
  refine⟨λhlt=>⟨hlt,?_⟩,λhlt=>?_⟩
  ·obtain⟨x,hx⟩:=get_some hlt
   simp only[av hx]
   have hb1:=hb.more [none]
   simp only[go_sem,simprocAttr,bD,au,h3,h8,hb.ok,hb.un]
   refine bM.own 733007751829 (by kernel_rfl) hb1.bld (.lit _ _ _) (by simp;omega) λv' σ' ha'=>?_
   have hb':=hb1.app ha'
   simp only[go_sem,simprocAttr,h3,h8,hb.ok,hb.un,hb'.ok,hb'.un]
   refine⟨hlt,_,rfl,ah hlt (by rw[aq];omega),?_⟩
   rw[aj hx,List.map_append,List.map_append]
   exact hb'
  ·rw[List.take_of_length_le hlt]at hb
   exact⟨_,rfl,hb⟩
 have hfind: ∀n,ag prog W0 67 [.sl 56 (s.map bD),.str n] (.int .i64 (gw (λx:aG=>x.pkg.name==n) s)):=λn=>by
  have:=FY (W0:=W0) s n
  unfold bf at this
  exact this
 simp only[go_sem,simprocAttr,h3,hb.ok,hb.un,aT,List.length_map]
 refine ae.at [1,36,37] (.of (by kernel_rfl)) (λA=>∃ v,A.env 8=v∧aK σ A.st v 54 ((fC repo s).map au)) ?_ λB2 ⟨v2,h4,hb2⟩=>?_
 ·refine ae.upto [1,36,37] (.of (by kernel_rfl)) repo.length (λi A=>∃ v,A.env 8=v∧A.env 38= .int .i64 i∧aK σ A.st v 54 ((s.map (·.pkg)++(repo.take i).filter (lC s)).map au)) 0 (Nat.zero_le _) ?_ λi B2 hi ⟨v2,h4,h38,hb2⟩=>?_
  ·simp only[go_sem,simprocAttr,h3]
   exact⟨_,rfl,by simpa using hb⟩
  simp only[go_sem,simprocAttr,h4,h38,hb2.ok,hb2.un,List.length_map]
  refine⟨λhlt=>⟨hlt,?_⟩,λhlt=>?_⟩
  ·obtain⟨p,hp⟩:=get_some hlt
   have hlen:((repo.take i).filter (lC s)).length≤24:=Nat.le_trans (List.length_filter_le _ _) (by rw[List.length_take];omega)
   simp only[av hp]
   have hb3:=hb2.more [none]
   simp only[go_sem,simprocAttr,au,h4,h38,hb2.ok,hb2.un]
   refine ak.fn (hfind p.name) ?_
   have hgo: ∀b,lC s p=b→(repo.take (i+1)).filter (lC s)=(repo.take i).filter (lC s)++(if b=true then [p]else []):=λb hb=>by
    rw[aj hp,List.filter_append,List.filter_cons,hb,List.filter_nil]
   rcases Bd s p.name with⟨g1,g2⟩|⟨k,x,g1,g2,g3⟩
   ·have hj:lC s p=true:=by unfold lC;rw[g2]
    rw[g1]
    simp only[go_sem,simprocAttr,h4,h38,hb2.ok,hb2.un]
    refine⟨.of (by kernel_rfl),aA.fnG (r:=.bool false) (λh=>(Bool.false_ne_true h).elim) ?_⟩
    simp only[go_sem,simprocAttr,h4,h38,hb2.ok,hb2.un]
    refine bM.own 733007751829 (by kernel_rfl) hb3.bld (.lit _ _ _) (by simp only[List.length_map,List.length_append,List.length_cons,List.length_nil];omega) λv' σ' ha'=>?_
    have hb':=hb3.app ha'
    simp only[go_sem,simprocAttr,h4,h38,hb2.ok,hb2.un,hb'.ok,hb'.un]
    refine⟨hlt,_,rfl,ah hlt (by rw[aq];omega),?_⟩
    rw[hgo true (by rw[hj]),if_pos rfl,←List.append_assoc,List.map_append]
    exact hb'
   ·rw[g3]
    have hkl:=(List.getElem?_eq_some_iff.1 g1).1
    have hk0:decide ((k:Int)<0)=false:=decide_eq_false (by omega)
    simp only[go_sem,simprocAttr,h4,h38,hb2.ok,hb2.un,hk0,av g1,bD,au,List.length_map]
    refine⟨.of (by kernel_rfl),hkl,aA.fnG (λ_=>lJ x.pkg.ver p.ver) ?_⟩
    have hj:lC s p= !bm x.pkg.ver p.ver:=by unfold lC;rw[g2]
    simp only[go_sem,simprocAttr,h4,h38,hb2.ok,hb2.un]
    refine⟨λhv=>?_,λhv=>⟨hlt,_,rfl,ah hlt (by rw[aq];omega),?_⟩⟩
    ·refine bM.own 733007751829 (by kernel_rfl) hb3.bld (.lit _ _ _) (by simp only[List.length_map,List.length_append,List.length_cons,List.length_nil];omega) λv' σ' ha'=>?_
     have hb':=hb3.app ha'
     simp only[go_sem,simprocAttr,h4,h38,hb2.ok,hb2.un,hb'.ok,hb'.un]
     refine⟨hlt,_,rfl,ah hlt (by rw[aq];omega),?_⟩
     rw[hgo true (by rw[hj,hv];rfl),if_pos rfl,←List.append_assoc,List.map_append]
     exact hb'
    ·rw[hgo false (by rw[hj,hv];rfl),if_neg (by simp),List.append_nil]
     exact hb3
  ·rw[List.take_of_length_le hlt]at hb2
   exact⟨_,rfl,hb2⟩
 have hjl:(fC repo s).length≤1024:=by
  rw[Hh,List.length_append,List.length_map]
  have:=List.length_filter_le (lC s) repo
  omega
 have hlen:lX v2= .int .i64 (fC repo s).length:=by rw[hb2.len,List.length_map]
 have hlc:=λt=>hb2.fO prog t
 simp only[go_sem,simprocAttr,h4,hb2.ok,hb2.un,hlen,hlc]
 refine aA.fnG (λ_=>(Dq (fC repo s) hjl).bZ (.cons hb2.bZ .nil)) ?_
 simp only[go_sem,simprocAttr,h4,hb2.ok,hb2.un,hlen,hlc,List.length_map]
 have hnl:=EC (fC repo s)
 refine⟨λhm=>⟨?_,hb2.ext⟩,λhm=>?_⟩
 ·have:gn repo s=([],12):=by
   unfold gn
   rw[if_neg (by simp[hc]),if_neg (by simp[hc2]),if_pos (by rw[←hnl];simp only[Bool.or_eq_true,decide_eq_true_eq]at hm;omega)]
  rw[this]
  exact iS (.sub (.az _)) (.refl _)
 ·have:gn repo s=(cw (fC repo s),0):=by
   unfold gn
   rw[if_neg (by simp[hc]),if_neg (by simp[hc2]),if_neg (by rw[←hnl];simp only[Bool.or_eq_false_iff,decide_eq_false_iff_not]at hm;omega)]
  refine ak.fn ((BY (fC repo s) hjl).bZ (.cons hb2.bZ .nil)) ?_
  rw[this]
  simp only[go_sem,simprocAttr]
  exact⟨.refl _,hb2.ext⟩
def tH (repo:List Pkg)(s:List aG):List Pkg×Bool:=
 if ir 0 repo=true∧ir 0 (s.map (·.pkg))=true then((gn repo s).1,decide ((gn repo s).2=0)&&oM 700 (gn repo s).1 1 0)else([],false)
theorem EM (repo:List Pkg)(s:List aG):(gn repo s).1.length≤24:=by
 unfold gn
 split
 ·simp
 split
 ·simp
 split
 ·simp
 ·rename_i h
  show(cw (fC repo s)).length≤24
  rw[(eI _).length_eq]
  omega
theorem Ke (repo:List Pkg)(s:List aG)(hp: ∀p∈repo,An p)(hsp: ∀x∈s,An x.pkg)(hsl:s.length≤733007751829):ag prog W0 9 [aT repo,bf s] (.tup [aT (tH repo s).1,.bool (tH repo s).2]):=by
 refine al [4,5] [] func9 rfl rfl ntmps9 rfl rfl (.xD (iX _) (.bool _)) λhs σ=>?_
 simp only[go_sem,simprocAttr]
 refine ak.fn (pP repo hp) ?_
 simp only[go_sem,simprocAttr]
 have hbp: ∀p∈s.map (·.pkg),An p:=λp hp2=>by
  obtain⟨x,hx,rfl⟩:=List.mem_map.1 hp2
  exact hsp x hx
 refine aA.fnG (λ_=>Fg s hsl) ?_
 simp only[go_sem,simprocAttr]
 refine aA.fnG (λ_=>pP (s.map (·.pkg)) hbp) ?_
 simp only[go_sem,simprocAttr]
 refine⟨λhc=>?_,λhc=>?_⟩
 ·have:tH repo s=([],false):=by
   unfold tH
   rw[if_neg]
   rintro⟨h1,h2⟩
   simp[h1,h2]at hc
  rw[this]
  exact iS (.sub (.az _)) (.refl _)
 have hl:ir 0 repo=true∧ir 0 (s.map (·.pkg))=true:=by
  simp only[Bool.or_eq_false_iff,Bool.not_eq_false']at hc
  exact hc
 refine ak.fn (Kc repo s) ?_
 simp only[go_sem,simprocAttr]
 refine aA.fnG (λ_=>KP (gn repo s).1 (by have:=EM repo s;omega) 700 (by omega)) ?_
 simp only[go_sem,simprocAttr]
 have:tH repo s=((gn repo s).1,decide ((gn repo s).2=0)&&oM 700 (gn repo s).1 1 0):=by
  unfold tH
  rw[if_pos hl]
 rw[this]
 exact .refl _
end Go.Proofs.Tryz
end
section
namespace Go.Av
open Go.Proofs.Tryz
@[go_sem] theorem Xb (l:List Nat):unm (j2 l)=j2 l:=rfl
@[go_sem] theorem Uy (l:List Nat):unm (dF l)=dF l:=rfl
end Go.Av
namespace Go.Proofs.Tryz
open Go Go.Av
set_option maxRecDepth 10000
set_option maxHeartbeats 1000000
variable {W0 :World}
end Go.Proofs.Tryz
end
section
namespace Go.Av
open Go.Proofs.Tryz
def pN (all:List Pkg):Nat→Nat→Nat
 |0,_=>1
 |f+1,i=>if i=all.length then 1 else(aD all i-i+1)*pN all f (aD all i)
theorem LV {all:List Pkg}: ∀{f g i:Nat},i≤all.length→all.length-i≤f→all.length-i≤g→pN all f i=pN all g i
 |0,0,_,_,_,_=>rfl
 |0,g+1,i,hi,h1,_=>by
  have e:i=all.length:=by omega
  rw[pN,pN,if_pos e]
 |f+1,0,i,hi,_,h2=>by
  have e:i=all.length:=by omega
  rw[pN,pN,if_pos e]
 |f+1,g+1,i,hi,h1,h2=>by
  rw[pN,pN]
  by_cases e:i=all.length
  ·rw[if_pos e,if_pos e]
  ·rw[if_neg e,if_neg e]
   obtain⟨p,hp⟩:=get_some (show i<all.length by omega)
   obtain⟨b1,b2⟩:=cU hp
   rw[LV (f:=f) (g:=g) b2 (by omega) (by omega)]
def xf (all:List Pkg)(i:Nat):Nat:=pN all (all.length-i) i
theorem ER (all:List Pkg):xf all all.length=1:=by rw[xf,Nat.sub_self,pN]
theorem Ei {all:List Pkg}{i:Nat}{p:Pkg}(hp:all[i]?=some p):xf all i=(aD all i-i+1)*xf all (aD all i):=by
 have hi:=(List.getElem?_eq_some_iff.1 hp).1
 obtain⟨b1,b2⟩:=cU hp
 rw[xf,xf,show all.length-i=(all.length-i-1)+1 by omega,pN,if_neg (by omega),LV (f:=all.length-i-1) (g:=all.length-aD all i) b2 (by omega) (by omega)]
theorem zX {most n:Nat}: ∀{r:List Pkg} {p:Pkg} {k:Nat},oM most (p::r) n k=if most<n*(k+((p::r).takeWhile λq=>q.name==p.name).length+1)then false else oM most ((p::r).drop ((p::r).takeWhile λq=>q.name==p.name).length) (n*(k+((p::r).takeWhile λq=>q.name==p.name).length+1)) 0
 |[],p,k=>by
  rw[oM,List.takeWhile_cons_of_pos (by simp)]
  simp
 |q::r,p,k=>by
  rw[oM,List.takeWhile_cons_of_pos (by simp),List.head?_cons,Option.map_some]
  by_cases h:q.name=p.name
  ·rw[if_pos (by rw[h]),zX,h,List.length_cons,List.drop_succ_cons]
   rw[show k+1+((q::r).takeWhile λq=>q.name==p.name).length+1=k+(((q::r).takeWhile λq=>q.name==p.name).length+1)+1 by omega]
  ·rw[if_neg (λe=>h (Option.some.inj e)),List.takeWhile_cons_of_neg (by simpa using h)]
   simp
theorem Cw {all:List Pkg}{most:Nat}: ∀{m i n:Nat},all.length-i≤m→i≤all.length→n≤most→oM most (all.drop i) n 0=true→n*xf all i≤most
 |m,i,n,hm,hi,hn,h=>by
  by_cases e:i=all.length
  ·subst e
   rw[ER,Nat.mul_one]
   exact hn
  obtain⟨p,hp⟩:=get_some (show i<all.length by omega)
  obtain⟨b1,b2⟩:=cU hp
  have hd:all.drop i=p::all.drop (i+1):=by
   rw[←List.getElem_cons_drop (show i<all.length by omega),(List.getElem?_eq_some_iff.1 hp).2]
  have hr:aD all i=i+((all.drop i).takeWhile λq=>q.name==p.name).length:=by simp[aD,hp]
  rw[hd,zX,←hd]at h
  split at h
  ·cases h
  rename_i hle
  rw[List.drop_drop,←hr]at h
  cases m with
  |zero=>omega
  |succ m=>
   have hk:0+((all.drop i).takeWhile λq=>q.name==p.name).length+1=aD all i-i+1:=by omega
   rw[hk]at h hle
   have:=Cw (m:=m) (i:=aD all i) (n:=n*(aD all i-i+1)) (by omega) b2 (by omega) h
   rw[Ei hp,←Nat.mul_assoc]
   exact this
theorem OL {all:List Pkg}{most:Nat}(h1:1≤most)(h:oM most all 1 0=true):xf all 0≤most:=by
 have:=Cw (m:=all.length) (i:=0) (n:=1) (by omega) (Nat.zero_le _) h1 h
 omega
end Go.Av
end
section
namespace Go.Av
open Go.Proofs.Tryz
structure WT (repo:List Pkg)(s:List aG)(l:List aS)(all:List Pkg):Prop where
 sea:dN l=0→F7 all s l
 mn: ∀p∈all,lp p
 Fm:bS s=0
 new:ly all s l=dN l
 few:xf all 0≤700
 may:bg all=0
 srt:lx all
 sub: ∀x∈s,x.pkg∈all
 mns: ∀x∈s,lp x.pkg
theorem Jz {repo:List Pkg}{s:List aG}(l:List aS)(h:(tH repo s).2=true):WT repo s l (tH repo s).1:=by
 unfold tH at h ⊢
 split at h
 ·rename_i hl
  rw[if_pos hl]
  simp only[Bool.and_eq_true,decide_eq_true_eq]at h
  obtain⟨h2,hf⟩:=h
  have hsp: ∀x∈s,lp x.pkg:=λx hx=>qt hl.2 _ (List.mem_map_of_mem hx)
  obtain⟨k1,k2,k3,k4⟩:=Lb h2
  obtain⟨_,hnm⟩:=oD k4
  have hn:=nt k4
  have hmn: ∀p∈(gn repo s).1,lp p:=by
   have he:(gn repo s).1=cw (fC repo s):=by
    unfold gn at h2 ⊢
    split at h2
    ·rename_i hh;exact absurd h2 hh
    rename_i h3
    rw[if_neg h3]
    split at h2
    ·rename_i hh;exact absurd h2 hh
    rename_i h4
    rw[if_neg h4]
    split at h2
    ·cases h2
    rename_i h5
    rw[if_neg h5]
   intro p hp
   rw[he]at hp
   have hp:=(eI _).subset hp
   unfold fC at hp
   rcases List.mem_append.1 hp with hp|hp
   ·obtain⟨x,hx,rfl⟩:=List.mem_map.1 hp
    exact hsp x hx
   ·exact qt hl.1 p (List.mem_filter.1 hp).1
  have hin:(s.any λx=>!(gn repo s).1.any λp=>decide (p=x.pkg))=false:=by
   refine List.any_eq_false.2 λx hx=>?_
   rw[List.any_eq_true.2 ⟨x.pkg,k3 x hx,by simp⟩]
   simp
  refine⟨λhq=>⟨k1,(px k2).symm,hmn,rf k4,(K5 hq).2.2.2,hn,λx hx=>⟨x.pkg,k3 x hx,rfl⟩⟩,hmn,k4,?_,OL (by omega) hf,k1,k2,k3,hsp⟩
  unfold ly
  rw[if_neg (by simp[k1]),if_neg (by rw[px k2];simp),if_neg (by simp[k4])]
  split
  ·rfl
  ·rename_i hq
   rw[if_neg (by rw[hin];simp)]
   exact(Classical.not_not.1 hq).symm
 ·cases h
end Go.Av
end
section
namespace Go.Av
open Go.Proofs.Tryz
theorem sJ {n:Nat}: ∀{t:List Nat} {m:List Bool},t.Nodup→(∀i∈t,i<n∧(m[i]?).getD false=false)→m.length=n→ ∃m',marks n (t.map λi:Nat=>(i:Int)) m=some m'∧ ∀i,(m'[i]?).getD false=((m[i]?).getD false||decide (i∈t))
 |[],m,_,_,_=>⟨m,rfl,by simp⟩
 |i::t,m,hd,h,hm=>by
  obtain⟨h1,h2⟩:=List.nodup_cons.1 hd
  obtain⟨g1,g2⟩:=h i (by simp)
  obtain⟨m',k1,k2⟩:=sJ (t:=t) (m:=m.set i true) h2 (λj hj=>⟨(h j (by simp[hj])).1,by
   rw[List.getElem?_set_ne (λe=>h1 (by rw[e];exact hj))];exact(h j (by simp[hj])).2⟩) (by simpa using hm)
  refine⟨m',?_,λj=>?_⟩
  ·rw[List.map_cons,marks,if_pos (by omega),Int.toNat_natCast,if_neg (by rw[g2];simp)]
   exact k1
  ·rw[k2]
   by_cases e:i=j
   ·subst e
    simp[List.getElem?_set,hm,g1]
   ·have e2: ¬j=i:=λh=>e h.symm
    simp[List.getElem?_set_ne e,e2]
theorem vk {n:Nat}: ∀{t:List Int} {m m':List Bool},marks n t m=some m'→m.length=n→(∀k∈t,0≤k∧k<n∧(m[k.toNat]?).getD false=false)∧t.Nodup
 |[],_,_,_,_=>by simp
 |k::t,m,m',h,hm=>by
  rw[marks]at h
  split at h
  ·rename_i hk
   split at h
   ·cases h
   ·rename_i hb
    obtain⟨h1,h2⟩:=vk h (by simpa using hm)
    have hset:((m.set k.toNat true)[k.toNat]?).getD false=true:=by
     have:k.toNat<m.length:=by omega
     simp[List.getElem?_set,this]
    refine⟨λj hj=>?_,List.nodup_cons.2 ⟨λhk2=>?_,h2⟩⟩
    ·rcases List.mem_cons.1 hj with rfl|hj
     ·exact⟨hk.1,hk.2,by simpa using hb⟩
     ·obtain⟨g1,g2,g3⟩:=h1 j hj
      refine⟨g1,g2,?_⟩
      by_cases e:k.toNat=j.toNat
      ·rw[←e,hset]at g3
       cases g3
      ·rwa [List.getElem?_set_ne e]at g3
    ·have:=(h1 k hk2).2.2
     rw[hset]at this
     cases this
  ·cases h
theorem Fk {all:List Pkg}{cls:List (List Int)}(hs: ∀M,dh M cls=dh M (kI all 0 all)){i:Nat}{p:Pkg}(hp:all[i]?=some p){c:Clause}(hc:c∈p.pre++p.dep)(hm:ll c [p]=false):1≤cls.length:=by
 rcases Nat.eq_zero_or_pos cls.length with h0|h0
 ·have e:=List.length_eq_zero_iff.1 h0
  have h:=(zG (M:=λv=>decide (v=i+1))).1 (by rw[←hs,e];rfl)
  obtain⟨k,q,hq,h1,h2⟩:=h.dep i p hp (by simp) c hc
  have:k=i:=by simpa using h2
  subst this
  rw[hp]at hq
  cases hq
  unfold ll at hm
  simp only[List.any_cons,List.any_nil,Bool.or_false]at hm
  rw[hm]at h1
  cases h1
 ·exact h0
def Aa (n:Nat)(cls:List (List Int))(t:List Int):Bool:=match marks n t (List.replicate n false)with|some m=>dh (mOf m) cls|none=>false
theorem Gv {all:List Pkg}{cls:List (List Int)}(hs: ∀M,dh M cls=dh M (kI all 0 all))(hm: ∀p∈all,aL p=0){t:List Nat}(ht:t.Pairwise (· < ·))(hl: ∀i∈t,i<all.length):
  Aa all.length cls (t.map λi:Nat=>(i:Int))=dz (atL all t):=by
 obtain⟨m,h1,h2⟩:=sJ (n:=all.length) (t:=t) (m:=List.replicate all.length false) (ht.imp λ{a b} h=>by omega) (λi hi=>⟨hl i hi,by rw[List.getElem?_replicate,if_pos (hl i hi)];rfl⟩) (by simp)
 unfold Aa
 rw[h1]
 show dh (mOf m) cls=_
 rw[hs]
 refine rK hm ht λi=>?_
 have h3:((List.replicate all.length false)[i]?).getD false=false:=by
  rw[List.getElem?_replicate]
  split<;>rfl
 show(i+1 !=0&&(m[i+1-1]?).getD false)=_
 rw[Nat.add_sub_cancel,h2,h3]
 simp
def okO (n:Nat)(t:List Int):Prop:=(∀k∈t,0≤k∧k<n)∧t.Nodup
theorem EB {n:Nat}{cls:List (List Int)}{t:List Int}(h: ¬okO n t):Aa n cls t=false:=by
 unfold Aa
 cases hq:marks n t (List.replicate n false)with
 |none=>rfl
 |some m=>
  obtain⟨h1,h2⟩:=vk hq (by simp)
  exact absurd ⟨λk hk=>⟨(h1 k hk).1,(h1 k hk).2.1⟩,h2⟩ h
def lL (pick:List Bool)(i:Nat):List Nat:=(List.range i).filter λj=>(pick[j]?).getD false
theorem v8 (pick:List Bool)(i:Nat):lL pick (i+1)=lL pick i++if (pick[i]?).getD false=true then [i]else []:=by
 unfold lL
 rw[List.range_succ,List.filter_append,List.filter_cons,List.filter_nil]
theorem yz (pick:List Bool)(n:Nat):(lL pick n).length≤n:=by
 have:=List.length_filter_le (λj=>(pick[j]?).getD false) (List.range n)
 rw[List.length_range]at this
 exact this
theorem KF (pick:List Bool)(n:Nat):(lL pick n).Pairwise (· < ·)∧ ∀i∈lL pick n,i<n:=by
 refine⟨List.Pairwise.sublist List.filter_sublist List.pairwise_lt_range,λi hi=>?_⟩
 exact List.mem_range.1 (List.mem_filter.1 hi).1
theorem N8 {all:List Pkg}(h0:bg all=0)(hs:lx all)(h1:1<all.length):all.reverse≠cw all.reverse:=λe=>by
 obtain⟨h2,h3⟩:=eV h0
 have hr:lx all.reverse:=by
  rw[e]
  exact iT λp hp=>h3 p (by simpa using hp)
 have e2:=CN h2 h3 hs hr (.refl _) (List.reverse_perm _)
 have a0:all[0]?=all[all.length-1]?:=by
  conv=>lhs;rw[e2]
  rw[List.getElem?_reverse (by omega)]
  congr 1
 obtain⟨p,hp⟩:=get_some (show 0<all.length by omega)
 obtain⟨q,hq⟩:=get_some (show all.length-1<all.length by omega)
 rw[hp,hq]at a0
 cases a0
 obtain⟨g1,g2⟩:=List.getElem?_eq_some_iff.1 hp
 obtain⟨g3,g4⟩:=List.getElem?_eq_some_iff.1 hq
 have:=List.pairwise_iff_getElem.1 h2 0 (all.length-1) g1 g3 (by omega)
 rw[g2,g4]at this
 have e3:bo p.ver p.ver=0:=by have:=gP p.ver p.ver;omega
 simp[cL,bm,h3 p (List.mem_of_getElem? hp),e3]at this
end Go.Av
namespace Go.Proofs.Tryz
open Go Go.Av
set_option maxRecDepth 10000
set_option maxHeartbeats 1000000
variable {W0 :World}
theorem EE {n:Nat}{a:AV}(h:OfT prog (n+2) 37 a): ∃l:List Int,a= .sl 3 (l.map (.int .i64)):=by
 obtain⟨l,rfl,_⟩:=mL (f:=AV.int .i64) (e:=3) (by kernel_rfl) (λx h=>by
  obtain⟨k,rfl,_⟩:=CL (k:=.i64) (by kernel_rfl) h
  exact⟨k,rfl⟩) h
 exact⟨l,rfl⟩
theorem BO {n:Nat}{a:AV}(h:OfT prog (n+2) 66 a): ∃l,a=wI l:=by
 obtain⟨l,rfl,_⟩:=mL (f:=AV.bool) (e:=4) (by kernel_rfl) (λx h=>zg (by kernel_rfl) h) h
 exact⟨l,rfl⟩
theorem uS (n:Nat)(cls:List (List Int))(hk:yX n cls)(t:List Int):ag prog W0 31 [nj n cls,.sl 3 (t.map (.int .i64))] (.bool (Aa n cls t)):=GA n cls hk t
theorem xV (hW:rE W0)(repo:List Pkg)(pick:List Bool)(odd:List Int)(hp: ∀p∈repo,An p):ag prog W0 7 [aT repo,wI pick,.sl 3 (odd.map (.int .i64))] (.bool true):=by
 refine .GO (.bool _) λσ=>?_
 refine jw [.tmp 6] [17] func7 rfl rfl ntmps7 rfl rfl λhs=>?_
 simp only[go_sem,simprocAttr]
 refine ak.fn ((Ke repo [] hp (λ_ h=>by cases h) (by simp)).bZ (.cons (.refl _) (.cons (.az _) .nil))) ?_
 obtain⟨all,hall⟩: ∃all,all=(tH repo []).1:=⟨_,rfl⟩
 obtain⟨ok,hok⟩: ∃ok,ok=(tH repo []).2:=⟨_,rfl⟩
 rw[←hall,←hok]
 simp only[go_sem,simprocAttr]
 refine⟨λhc=>?_,λhc=>?_⟩
 ·refine ak.fn (pP repo hp) ?_
  simp only[go_sem,simprocAttr]
  refine⟨λhc2=>?_,λhc2=>?_⟩
  ·refine ak.fn (j9 hW) ?_
   simp only[go_sem,simprocAttr]
   refine cI.ret ?_
   simp only[go_sem,simprocAttr]
   exact⟨_,.refl _,.refl _,.refl _⟩
  refine ak.goes (by simp only[go_sem,simprocAttr]) (mR σ repo (qt hc2)) λr σ1 ⟨hx,hr⟩=>?_
  have hm:=uQ (W0:=W0) repo
  rcases hr with⟨h1,rfl⟩|⟨h0,_,rfl⟩|⟨h0,_,cls,rfl,_,_⟩
  ·simp only[go_sem,simprocAttr]
   refine ak.fn hm ?_
   simp only[go_sem,simprocAttr]
   refine aA.fnG (λ_=>j9 hW) ?_
   simp only[go_sem,simprocAttr]
   refine cI.ret ?_
   simp only[go_sem,simprocAttr]
   exact⟨_,.refl _,hx.le,.refl _,hx⟩
  ·rw[h0]at hm
   simp only[go_sem,simprocAttr]
   refine ak.fn hm ?_
   simp only[go_sem,simprocAttr]
   refine aA.fnG (λ_=>j9 hW) ?_
   simp only[go_sem,simprocAttr]
   refine cI.ret ?_
   simp only[go_sem,simprocAttr]
   exact⟨_,.refl _,hx.le,.refl _,hx⟩
  ·rw[h0]at hm
   simp only[go_sem,simprocAttr,nj]
   refine ak.fn hm ?_
   simp only[go_sem,simprocAttr]
   refine aA.fnG (λ_=>j9 hW) ?_
   simp only[go_sem,simprocAttr]
   refine cI.ret ?_
   simp only[go_sem,simprocAttr]
   exact⟨_,.refl _,hx.le,.refl _,hx⟩
 have hF:=Jz (repo:=repo) (s:=[]) [] (by rw[←hok];exact hc)
 rw[←hall]at hF
 refine ak.goes (by simp only[go_sem,simprocAttr]) (mR σ all hF.mn) λr σ1 ⟨hx,hr⟩=>?_
 rcases hr with⟨h1,_⟩|⟨_,h1,_⟩|⟨_,hse,cls,rfl,hok2,hcl⟩
 ·exact absurd hF.may h1
 ·exact absurd (px hF.srt).symm h1
 have h24:=dH hF.may
 simp only[go_sem,simprocAttr,nj,aT,List.length_map]
 refine ae.at [2,7,12] (.of (by kernel_rfl)) (λA=>∃ v b,A.env 14=v∧A.env 15= .bool b∧(b=true→1≤cls.length)∧aK σ1 A.st v 3 ((lL pick all.length).map λx=>.int .i64 (x:Nat))) ?_ λB ⟨v,b,h14,h15,hb,hv⟩=>?_
 ·refine ae.upto [1,2,7,12,74,75] (.of (by kernel_rfl)) all.length (λi A=>∃ v b,A.env 76= .int .i64 i∧A.env 14=v∧A.env 15= .bool b∧(b=true→1≤cls.length)∧aK σ1 A.st v 3 ((lL pick i).map λx=>.int .i64 (x:Nat))) 0 (Nat.zero_le _) ?_ λi B hi ⟨v,b,h76,h14,h15,hb,hv⟩=>?_
  ·simp only[go_sem,simprocAttr]
   exact⟨_,_,rfl,rfl,by simp,aK.nil (.refl _) _⟩
  simp only[go_sem,simprocAttr,h76,h14,h15,hv.ok,hv.un,List.length_map]
  refine⟨λhc=>⟨hc,?_⟩,λhc=>?_⟩
  ·obtain⟨p,hpi⟩:=get_some hc
   simp only[av hpi]
   have hv1:=hv.more [none]
   have hbv:=xa (W0:=W0) all.length cls (by omega) i
   rw[nj,if_pos (by omega)]at hbv
   simp only[go_sem,simprocAttr,h76,h14,h15,hv.ok,hv.un,au,wI,List.length_map]
   have hpk:lj (decide (i<pick.length)) (atV (pick.map AV.bool) (i:Nat)) (.bool false)= .bool ((pick[i]?).getD false):=by
    by_cases h:i<pick.length
    ·obtain⟨b,hb⟩:=get_some h
     rw[av hb,decide_eq_true h,hb]
     rfl
    ·rw[decide_eq_false h,rP,List.getElem?_eq_none (by omega)]
     rfl
   rw[hpk]
   simp only[go_sem,simprocAttr]
   refine cB.at [1,2,7,12,15,16,17,74,75,76] (by kernel_rfl) (λA=>∃ v,A.env 14=v∧aK σ1 A.st v 3 ((lL pick (i+1)).map λx=>.int .i64 (x:Nat))) (λh=>?_) (λh=>?_) λB2 ⟨v2,h14,hv2⟩=>?_
   ·simp only[go_sem,simprocAttr,h14,hv.ok,hv.un]
    refine bM.own 1048576 (by kernel_rfl) hv1.bld (.lit _ _ _) (by have:=yz pick i;simp;omega) λv' σ' ha'=>?_
    have hb':=hv1.app ha'
    simp only[go_sem,simprocAttr,hb'.ok,hb'.un]
    rw[v8,if_pos h,List.map_append]
    exact⟨_,rfl,hb'⟩
   ·simp only[go_sem,simprocAttr,h14]
    rw[v8,if_neg (by rw[h];simp),List.append_nil]
    exact⟨_,rfl,hv1⟩
   simp only[go_sem,simprocAttr,h76,h14,h15,hv2.ok,hv2.un]
   refine ak.fn hbv ?_
   have hw1:IntKind.i64.wrap ((i:Int)+1)=i+1:=aE (by omega)
   simp only[go_sem,simprocAttr,h76,h14,h15,hv2.ok,hv2.un,hw1]
   have e2:[ax p.pre,ax p.dep]=[p.pre,p.dep].map ax:=rfl
   simp only[e2]
   refine ae.ats [1,2,7,12,14,74,75,76] (.of (by kernel_rfl)) (λA=>∃ b,A.env 15= .bool b∧(b=true→1≤cls.length)∧aK σ1 A.st v2 3 ((lL pick (i+1)).map λx=>.int .i64 (x:Nat))) ?_ λB3 ⟨b3,h15,hb3,hv3⟩=>?_
   ·refine ae.upto [1,2,7,12,14,17,74,75,76,105] (.of (by kernel_rfl)) 2 (λk A=>∃ b,A.env 106= .int .i64 k∧A.env 15= .bool b∧(b=true→1≤cls.length)∧aK σ1 A.st v2 3 ((lL pick (i+1)).map λx=>.int .i64 (x:Nat))) 0 (Nat.zero_le _) ?_ λk B3 hk ⟨b3,h106,h15,hb3,hv3⟩=>?_
    ·simp only[go_sem,simprocAttr,h15]
     exact⟨_,rfl,hb,hv2⟩
    simp only[go_sem,simprocAttr,h106,h15]
    simp only[e2]
    refine⟨λhk2=>?_,λ_=>⟨_,rfl,hb3,hv3⟩⟩
    replace hk2:k<2:=by omega
    have hk3:k<[p.pre,p.dep].length:=by show k<2;omega
    obtain⟨d,hd⟩:=get_some hk3
    have hdl:d.length≤12:=by
     have hG:=eK (cW hF.may (List.mem_of_getElem? hpi))
     have:=List.mem_of_getElem? hd
     simp only[List.mem_cons,List.not_mem_nil,or_false]at this
     rcases this with rfl|rfl
     ·exact hG.pre.1
     ·exact hG.dep.1
    simp only[getD_map hd]
    simp only[go_sem,simprocAttr,h106,h15,ax,List.length_map]
    refine⟨hk3,?_⟩
    refine ae.ats [1,2,7,12,14,17,74,75,76,105,106] (.of (by kernel_rfl)) (λA=>∃ b,A.env 15= .bool b∧(b=true→1≤cls.length)∧aK σ1 A.st v2 3 ((lL pick (i+1)).map λx=>.int .i64 (x:Nat))) ?_ λB4 ⟨b4,h15,hb4,hv4⟩=>?_
    ·refine ae.upto [1,2,7,12,14,17,74,75,76,105,106,109,110] (.of (by kernel_rfl)) d.length (λj A=>∃ b,A.env 111= .int .i64 j∧A.env 15= .bool b∧(b=true→1≤cls.length)∧aK σ1 A.st v2 3 ((lL pick (i+1)).map λx=>.int .i64 (x:Nat))) 0 (Nat.zero_le _) ?_ λj B4 hj ⟨b4,h111,h15,hb4,hv4⟩=>?_
     ·simp only[go_sem,simprocAttr,h15]
      exact⟨_,rfl,hb3,hv3⟩
     simp only[go_sem,simprocAttr,h111,h15,List.length_map]
     refine⟨λhc2=>⟨hc2,?_⟩,λ_=>⟨_,rfl,hb4,hv4⟩⟩
     obtain⟨c,hcj⟩:=get_some hc2
     simp only[av hcj]
     simp only[go_sem,simprocAttr,h111,h15]
     refine aA.fnG (λ_=>(CS c [p]).bZ (.cons (.refl _) (.cons (.lit _ _) .nil))) ?_
     simp only[go_sem,simprocAttr,h111,h15]
     refine⟨hc2,_,ah hc2 (by rw[aq];omega),rfl,λh=>?_,hv4⟩
     rcases Bool.or_eq_true _ _▸h with h|h
     ·exact hb4 h
     ·refine Fk hcl hpi (c:=c) ?_ (by simpa using h)
      have:=List.mem_of_getElem? hd
      have h2:=List.mem_of_getElem? hcj
      simp only[List.mem_cons,List.not_mem_nil,or_false]at this
      rcases this with rfl|rfl<;>simp[h2]
    simp only[go_sem,simprocAttr,h106,h15]
    exact⟨by omega,_,ah (show k<2 by omega) (by rw[aq];omega),rfl,hb4,hv4⟩
   simp only[go_sem,simprocAttr,h76,h14,h15]
   exact⟨hc,_,_,ah hc (by rw[aq];omega),rfl,rfl,hb3,hv3⟩
  ·have:i=all.length:=by omega
   rw[this]at hv
   exact⟨_,_,rfl,rfl,hb,hv⟩
 have hn1:=xa (W0:=W0) all.length cls (by omega) (-1)
 have hn2:=xa (W0:=W0) all.length cls (by omega) all.length
 have hn3:=MT (W0:=W0) all.length cls
 rw[if_neg (by omega)]at hn1 hn2
 rw[nj]at hn1 hn2 hn3
 obtain⟨ht1,ht2⟩:=KF pick all.length
 have hn4:ag prog W0 31 [nj all.length cls,j2 (lL pick all.length)] (.bool (dz (atL all (lL pick all.length)))):=by
  rw[←Gv hcl (λp h=>cW hF.may h) ht1 ht2]
  have:=uS (W0:=W0) all.length cls hok2 ((lL pick all.length).map λi:Nat=>(i:Int))
  rw[List.map_map]at this
  exact this
 rw[nj]at hn4
 have hn5:=N6 (W0:=W0) all (lL pick all.length) ht2 (by have:=yz pick all.length;omega)
 simp only[go_sem,simprocAttr,h14,h15,hv.ok,hv.un,List.length_map]
 refine ak.fn hn1 ?_
 simp only[go_sem,simprocAttr,h14,h15,hv.ok,hv.un,List.length_map]
 refine aA.fnG (λ_=>hn2) ?_
 simp only[go_sem,simprocAttr,h14,h15,hv.ok,hv.un,List.length_map]
 refine aA.fnG (λ_=>hn3) ?_
 simp only[go_sem,simprocAttr,h14,h15,hv.ok,hv.un]
 refine aA.fnG (λ_=>hn4.bZ (.cons (.refl _) (.cons hv.bZ .nil))) ?_
 simp only[go_sem,simprocAttr,h14,h15,hv.ok,hv.un]
 refine aA.fnG (λ_=>hn5.bZ (.cons (.refl _) (.cons hv.bZ .nil))) ?_
 simp only[go_sem,simprocAttr,h14,h15,hv.ok,hv.un]
 refine aA.fnG (λ_=>zf _) ?_
 simp only[go_sem,simprocAttr,h14,h15,hv.ok,hv.un]
 refine⟨λh=>?_,λ_=>?_⟩
 ·simp only[Bool.and_eq_true,decide_eq_true_eq]at h
  have:=hb h.1
  omega
 have hol:=(aH (hs _ (List.mem_cons_of_mem _ (List.mem_cons_of_mem _ (List.mem_cons_self ..))))).1
 refine ae.at [2,7,12] (.of (by kernel_rfl)) (λA=>∃ b,A.env 22= .bool b∧(b=true→ ¬okO all.length odd)∧Ext σ1 A.st) ?_ λC ⟨b,h22,hbad,hxc⟩=>?_
 ·refine ae.upto [2,7,12,154,155] (.of (by kernel_rfl)) odd.length (λi A=>∃ b,A.env 156= .int .i64 i∧A.env 22= .bool b∧(b=true→ ¬okO all.length odd)∧Ext σ1 A.st) 0 (Nat.zero_le _) ?_ λi C hi ⟨b,h156,h22,hbad,hxc⟩=>?_
  ·simp only[go_sem,simprocAttr]
   exact⟨_,rfl,by simp,hv.ext⟩
  simp only[go_sem,simprocAttr,h156,h22,List.length_map]
  refine⟨λhc=>⟨hc,?_⟩,λ_=>⟨_,rfl,hbad,hxc⟩⟩
  obtain⟨k,hk⟩:=get_some hc
  have ho:atV (List.map (AV.int .i64) odd) (i:Nat)= .int .i64 k:=av hk
  refine⟨⟨by omega,by omega⟩,?_⟩
  refine ae.at [2,7,12,24,154,155,156] (.of (by kernel_rfl)) (λA=>∃ b,A.env 22= .bool b∧(b=true→ ¬okO all.length odd)∧Ext σ1 A.st) ?_ λD ⟨b,h22,hbad,hxc⟩=>?_
  ·refine ae.upto [2,7,12,24,154,155,156,163,164] (.of (by kernel_rfl)) i (λj A=>∃ b,A.env 165= .int .i64 j∧A.env 22= .bool b∧(b=true→ ¬okO all.length odd)∧Ext σ1 A.st) 0 (Nat.zero_le _) ?_ λj D hj ⟨b,h165,h22,hbad,hxc⟩=>?_
   ·simp only[go_sem,simprocAttr,h22]
    exact⟨_,rfl,hbad,hxc⟩
   simp only[go_sem,simprocAttr,h165,h22,List.length_map,←List.map_take,ho]
   refine⟨λhlt=>?_,λ_=>⟨_,rfl,hbad,hxc⟩⟩
   obtain⟨y,hy⟩:=get_some hlt
   have hji:j<i:=by rw[List.length_take]at hlt;omega
   have hyo:odd[j]?=some y:=by rwa [List.getElem?_take,if_pos hji]at hy
   have hy2:atV (List.map (AV.int .i64) (List.take i odd)) (j:Nat)= .int .i64 y:=av hy
   have hin:AV.int .i64 (IntKind.i64.wrap ((j:Int)+1))= .int .i64 (j+1:Nat):=ah (N:=odd.length) (show j<odd.length by omega) hol
   cases b with
   |true=>
    simp only[go_sem,simprocAttr,hy2]
    exact⟨hlt,hji,_,hin,rfl,hbad,hxc⟩
   |false=>
    simp only[go_sem,simprocAttr,hy2]
    refine⟨hlt,hji,_,hin,rfl,λh ho2=>?_,hxc⟩
    have e:y=k:=by simpa using h
    obtain⟨q1,q2⟩:=List.getElem?_eq_some_iff.1 hyo
    obtain⟨q3,q4⟩:=List.getElem?_eq_some_iff.1 hk
    have:=(List.getElem_inj ho2.2).1 (q2.trans (e.trans q4.symm))
    omega
  have hin:AV.int .i64 (IntKind.i64.wrap ((i:Int)+1))= .int .i64 (i+1:Nat):=ah hc hol
  cases b with
  |true=>
   simp only[go_sem,simprocAttr,h156,h22,List.length_map,ho]
   exact⟨hc,_,hin,rfl,hbad,hxc⟩
  |false=>
   simp only[go_sem,simprocAttr,h156,h22,List.length_map,ho]
   refine⟨hc,_,hin,rfl,λh ho2=>?_,hxc⟩
   have:=ho2.1 k (List.mem_of_getElem? hk)
   simp at h
   omega
 simp only[go_sem,simprocAttr,h22,List.length_map]
 have hn6:=uS (W0:=W0) all.length cls hok2 odd
 rw[nj]at hn6
 refine aA.fnG (λ_=>hn6) ?_
 simp only[go_sem,simprocAttr,h22,List.length_map]
 refine⟨λh=>?_,λ_=>?_⟩
 ·simp only[Bool.and_eq_true,decide_eq_true_eq]at h
  rw[EB (hbad h.1.2)]at h
  cases h.2
 refine ae.at [7] (.of (by kernel_rfl)) (λA=>∃ v,A.env 27=v∧aK σ1 A.st v 54 (all.reverse.map au)) ?_ λD ⟨v,h27,hv2⟩=>?_
 ·refine ae.upto [7,200] (.of (by kernel_rfl)) all.length (λi A=>∃ v,A.env 201= .int .i64 i∧A.env 27=v∧aK σ1 A.st v 54 ((all.reverse.take i).map au)) 0 (Nat.zero_le _) ?_ λi D hi ⟨v,h201,h27,hv2⟩=>?_
  ·simp only[go_sem,simprocAttr]
   exact⟨_,rfl,aK.nil hxc _⟩
  simp only[go_sem,simprocAttr,h201,h27,hv2.ok,hv2.un,List.length_map]
  refine⟨λhc=>?_,λhge=>⟨_,rfl,by rwa [List.take_of_length_le (by simp;omega)]at hv2⟩⟩
  have hwi:IntKind.i64.wrap (IntKind.i64.wrap ((all.length:Int)-1)-i)=((all.length-1-i:Nat):Int):=by
   have e:IntKind.i64.wrap ((all.length:Int)-1)=(all.length:Int)-1:=aE (by omega)
   rw[e,aE (by omega)]
   omega
  obtain⟨p,hpi⟩:=get_some (show all.length-1-i<all.length by omega)
  have hpr:all.reverse[i]?=some p:=by rw[List.getElem?_reverse (by omega),hpi]
  have hpa:atV (List.map au all) ((all.length-1-i:Nat):Int)=au p:=av hpi
  have hpf:bq prog 54 (au p)=true:=by kernel_rfl
  rw[hwi,hpa]
  refine⟨⟨by omega,by simp;omega⟩,⟨trivial,hpf⟩,?_⟩
  refine bM.own 1048576 (by kernel_rfl) hv2.bld (.lit _ _ _) (by simp;omega) λv' σ' ha'=>?_
  have hb':=hv2.app ha'
  simp only[go_sem,simprocAttr,h201,hb'.ok,hb'.un]
  refine⟨hc,_,ah hc (by rw[aq];omega),rfl,?_⟩
  rw[aj hpr,List.map_append]
  exact hb'
 simp only[go_sem,simprocAttr,h27,hv2.ok,hv2.un,List.length_map]
 refine cB.at [] (by kernel_rfl) (λA=>Ext σ1 A.st) (λh1=>?_) (λh1=>?_) λE hxe=>?_
 ·simp only[go_sem,simprocAttr,h27,hv2.ok,hv2.un]
  refine ak.goes (by simp only[go_sem,simprocAttr]) ((mR D.st all.reverse (λp h=>hF.mn p (by simpa using h))).bZ (.cons hv2.bZ .nil)) λr σ2 ⟨hx2,hr⟩=>?_
  rcases hr with⟨h2,_⟩|⟨_,_,rfl⟩|⟨_,h2,_⟩
  ·exact absurd ((BJ all).2 hF.may) h2
  ·simp only[go_sem,simprocAttr]
   exact hv2.ext.trans hx2
  ·exact absurd h2 (N8 hF.may hF.srt (by simp only[decide_eq_true_eq]at h1;omega))
 ·simp only[go_sem,simprocAttr]
  exact hv2.ext
 simp only[go_sem,simprocAttr]
 refine ak.fn (j9 hW) ?_
 simp only[go_sem,simprocAttr]
 refine cI.ret ?_
 simp only[go_sem,simprocAttr]
 exact⟨_,.refl _,(hx.trans hxe).le,.refl _,hx.trans hxe⟩
end Go.Proofs.Tryz
end
