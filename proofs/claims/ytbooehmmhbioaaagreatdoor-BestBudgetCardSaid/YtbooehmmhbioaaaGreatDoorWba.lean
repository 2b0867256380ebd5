/- Texts that the last one of this claim rests on: a layer over the guide's own conditions for code; contracts of the functions that the law reaches, one by one. No conditions beside those of the given rows. -/
import Derived.Test.YtbooehmmhbioaaaGreatDoorWah
import Derived.Test.YtbooehmmhbioaaaGreatDoorWak
import Derived.Test.YtbooehmmhbioaaaGreatDoorWas
import Derived.Test.YtbooehmmhbioaaaGreatDoorWaw
import Derived.Test.YtbooehmmhbioaaaGreatDoorWay
import Derived.Test.YtbooehmmhbioaaaGreatDoorWaz
set_option linter.unusedSimpArgs false
set_option linter.unusedVariables false
section
namespace Go.Av
open Go
def AA (σ:ab)(x:AV)(e:TypeId)(xs:List AV):Prop:=(x= .ay∧xs=[])∨ ∃id,x= .row e id 0 xs.length∧σ[id]?=some (some (.cells e xs))∧xs≠[]
theorem AA.v {σ:ab}{x:AV}{e:TypeId}{xs:List AV}(h:AA σ x e xs):dB σ x e xs:=by
 rcases h with h|⟨id,rfl,h,_⟩
 ·exact .inl h
 ·exact .inr ⟨id,0,_,xs,rfl,h,by omega,by simp⟩
theorem AA.ey {st st':ab}{v:AV}{e:TypeId}{xs:List AV}(h:AA st v e xs)(hk: ∀j∈bf v,st'[j]?=st[j]?):AA st' v e xs:=by
 rcases h with h|⟨id,rfl,h,h1⟩
 ·exact .inl h
 ·exact .inr ⟨id,rfl,by rw[hk id (by simp[bf]),h],h1⟩
structure Nh (σ:ab)(x:AV)(e:TypeId)(zs:List AV)(v:AV)(σ':ab):Prop where
 row:AA σ' v e zs
 fr:Fr (bf x) σ σ'
 bf: ∀j∈bf v,j∈bf x∨σ.length≤j
theorem bN.Ns {P:Program}{A:aa}{σ:ab}{t u e:TypeId}{x y:AV}{xs ys:List AV}{dst:Option Nat}{k:aa→Prop}(hσ:A.st=σ)(N:Nat)(ho:xh P t u e N=true)(hb:dB σ x e xs)(hy:eY σ y e ys)(h0:ys≠[])(hN:xs.length+ys.length≤N)
  (hk: ∀v σ',Nh σ x e (xs++ys) v σ'→k ((A.put dst v).an σ')):bN P [t,u] [x,y] dst A k .mk:=by
 subst hσ
 have hkl:(bQ x A.st).length=A.st.length:=by unfold bQ;split<;>simp
 refine bN.row N ho hb.st hy hN (λhe=>absurd he h0) λhe=>hk _ _ ⟨.inr ⟨A.st.length,by rw[List.length_append],?_,by simp[h0]⟩,?_,λj hj=>?_⟩
 ·rw[←hkl,List.getElem?_append_right (Nat.le_refl _),Nat.sub_self]
  rfl
 ·refine Fr.app ?_ _
  unfold bQ
  split
  ·exact(Fr.refl _ _).set (.inl (by simp[Go.Av.bf])) _
  ·exact .refl _ _
 ·simp[Go.Av.bf]at hj
  subst hj
  exact .inr (Nat.le_refl _)
open Go.Proofs.Tryz
theorem yg {all:List Pkg}: ∀{f i:Nat},i≤all.length→((c7 all f i).map List.length).sum≤all.length-i
 |0,i,_=>by simp[c7]
 |f+1,i,hi=>by
  rw[c7]
  split
  ·simp
  ·rename_i h
   obtain⟨p,hp⟩:=get_some (show i<all.length by omega)
   obtain⟨b1,b2⟩:=cM hp
   have ih:=yg (f:=f) b2
   rw[List.map_cons,List.sum_cons,List.length_range']
   omega
theorem zn {all:List Pkg}(s:List aC)(l:List aH)(hc:mw all):(aK all s l).map (·.2)=c7 all (all.length+1) 0:=by
 unfold aK
 rw[List.map_map,kC hc (by omega) (λj p q hj=>by omega)]
 rfl
theorem ID {l:List Nat}{n:Nat}(h: ∀i∈l,i<n):bH l<2^n:=by
 induction l with
 |nil=>exact Nat.two_pow_pos n
 |cons a r ih=>rw[bH];exact Nat.or_lt_two_pow (Nat.pow_lt_pow_right (by decide) (h a (by simp))) (ih λi hi=>h i (by simp[hi]))
theorem Bj (all:List Pkg)(s:List aC)(l:List aH):(aK all s l).length≤all.length:=by
 unfold aK
 rw[List.length_map,←qn]
 exact xe all all.length
theorem xH {all:List Pkg}(s:List aC)(l:List aH)(hc:mw all)(D:Dat):gW D (aK all s l) 0 0+1≤2*2^all.length:=by
 have hg:=zn s l hc
 have h1:=CX D (gs:=aK all s l) 0 0 λg hgm=>Cc (all:=all) (f:=all.length+1) (i:=0) g.2 (by rw[←hg];exact List.mem_map_of_mem hgm) (by omega)
 have h2:=zT (aK all s l)
 have h3:((aK all s l).map λg=>g.2.length).sum≤all.length:=by
  have:(aK all s l).map (λg=>g.2.length)=((aK all s l).map (·.2)).map List.length:=by rw[List.map_map];rfl
  rw[this,hg]
  exact yg (by omega)
 have h4:2^((aK all s l).map λg=>g.2.length).sum≤2^all.length:=Nat.pow_le_pow_right (by decide) h3
 omega
end Go.Av
namespace Go.Proofs.Tryz
open Go Go.Av
set_option maxRecDepth 10000
set_option maxHeartbeats 2000000
variable {W0 :World}
def gI (gs:List (Bool×List Nat)):AV:=.sl 37 (gs.map λg=>lx g.2)
def gH (gs:List (Bool×List Nat)):AV:=.sl 4 (gs.map λg=>.bool g.1)
def cY (all:List Pkg)(s:List aC)(l:List aH)(bud sp:Int)(dn:Bool)(v:AV):Option cV:=
 ck (aU all) (aY s) (br l) (gI (aK all s l)) (gH (aK all s l)) (dJ all s l) (dW (s.map (gB all))) (.bool (dV l)) (.bool (cK all s l)) (.int .i64 bud) (.int .i64 sp) (.bool dn) v
theorem vd {all:List Pkg}{s:List aC}{l:List aH}(hn:(l.map (·.name)).Nodup)(bud:Int):xk all s l bud=cY all s l bud 0 false .ay:=by
 have e1:(nmB all all.length).map (λn=>lx (bg all λp=>p.name==n))=(aK all s l).map λg=>lx g.2:=by
  unfold aK
  rw[List.map_map,qn]
  refine List.map_congr_left λn _=>?_
  rw[uU]
  rfl
 have e2:(nmB all all.length).map (λn=>AV.bool (ru l s n))=(aK all s l).map λg=>.bool g.1:=by
  unfold aK
  rw[List.map_map,qn]
  refine List.map_congr_left λn _=>?_
  rw[Kk hn]
  rfl
 have e3:(s.map λx=>bH (bg all λp=>p.name==x.pkg.name))=s.map (gB all):=by
  refine List.map_congr_left λx _=>?_
  rw[uU]
  rfl
 unfold xk eo cY gI gH dJ
 rw[e1,e2,e3,HE]
def uw (b:Br):AV:=.agg 171 [.int .i64 (b.1:Nat),cd b.2.1,cd b.2.2]
structure dM (σ:ab)(id:Nat)(all:List Pkg)(s:List aC)(l:List aH)(bud:Int)(st:List Br)(os:List Nat)(sp:Nat)(v3 v12:AV)(τ:ab):Prop where
 todo:dB τ v3 171 (st.map uw)
 out:AA τ v12 116 ((os.map λS=>(jg all s S (dV l),S)).map eE)
 obj:τ[id]?=some (cY all s l bud sp false v12)
 fr:Fr [id] σ τ
 f3: ∀j∈bf v3,σ.length≤j
 f12: ∀j∈bf v12,σ.length≤j
structure LX (all:List Pkg)(s:List aC)(l:List aH)(bud:Int)(st:List Br)(os:List Nat)(sp:Nat):Prop where
 perm:(os++qM (dQ all s l) (aK all s l) st).Perm (nh (dQ all s l) (aK all s l) 0 0)
 cnt:sp+kU (dQ all s l) (aK all s l) st=gW (dQ all s l) (aK all s l) 0 0
 len:os.length≤sp
 bud:bud=0∨(sp:Int)≤bud
 ok: ∀b∈st,b.1≤(aK all s l).length∧b.2.1<2^all.length∧b.2.2<2^all.length
 oks: ∀S∈os,S<2^all.length
section
variable {σ τ:ab}{id:Nat}{all:List Pkg}{s:List aC}{l:List aH}{bud:Int}{st:List Br}{os:List Nat}{sp:Nat}{v3 v12:AV}
theorem dM.ne3 (h:dM σ id all s l bud st os sp v3 v12 τ):id∉bf v3:=by
 have:=h.obj
 unfold cY ck at this
 exact h.todo.ne this (by decide)
theorem dM.Oc (h:dM σ id all s l bud st os sp v3 v12 τ):id∉bf v12:=by
 have:=h.obj
 unfold cY ck at this
 exact h.out.v.ne this (by decide)
theorem dM.more (h:dM σ id all s l bud st os sp v3 v12 τ)(J:ab):dM σ id all s l bud st os sp v3 v12 (τ++J):=
 ⟨h.todo.ey λj hj=>by rw[List.getElem?_append_left (h.todo.lt j hj)],h.out.ey λj hj=>by rw[List.getElem?_append_left (h.out.v.lt j hj)],by rw[List.getElem?_append_left (List.getElem?_eq_some_iff.1 h.obj).1,h.obj],h.fr.app _,h.f3,h.f12⟩
theorem dM.SR (h:dM σ id all s l bud st os sp v3 v12 τ)(sp':Nat):dM σ id all s l bud st os sp' v3 v12 (τ.set id (cY all s l bud sp' false v12)):=
 ⟨h.todo.ey λj hj=>by rw[List.getElem?_set_ne (λe=>h.ne3 (by rw[e];exact hj))],h.out.ey λj hj=>by rw[List.getElem?_set_ne (λe=>h.Oc (by rw[e];exact hj))],List.getElem?_set_self (List.getElem?_eq_some_iff.1 h.obj).1,h.fr.set (.inl (by simp)) _,h.f3,h.f12⟩
theorem dM.cut {n:Nat}(h:dM σ id all s l bud st os sp v3 v12 τ)(hn:n≤st.length):dM σ id all s l bud (st.take n) os sp (rF 0 n v3) v12 τ:=
 ⟨by have:=h.todo.cut (a:=0) (b:=n) (Nat.zero_le _) (by rw[List.length_map];exact hn);rwa [List.drop_zero,Nat.sub_zero,←List.map_take]at this,h.out,h.obj,h.fr,λj hj=>h.f3 j (by rwa [mQ]at hj),h.f12⟩
theorem dM.add {τ':ab}{v:AV}{S:Nat}(h:dM σ id all s l bud st os sp v3 v12 τ)(ha:Nh τ v12 116 ((os.map λS=>(jg all s S (dV l),S)).map eE++[eE (jg all s S (dV l),S)]) v τ'):dM σ id all s l bud st (os++[S]) sp v3 v (τ'.set id (cY all s l bud sp false v)):=by
 have hlen:=h.fr.len
 have hidl:=(List.getElem?_eq_some_iff.1 h.obj).1
 have hobj':=h.obj
 unfold cY ck at hobj'
 have hidv:id∉bf v:=λhj=>by
  rcases ha.bf id hj with h1|h1
  ·exact h.Oc h1
  ·omega
 have hf: ∀j∈bf v3,τ'[j]?=τ[j]?:=λj hj=>ha.fr.old j (h.todo.lt j hj) λhj2=>by
  rcases h.out with⟨rfl,_⟩|⟨ido,rfl,ho,_⟩
  ·simp[bf]at hj2
  ·simp[bf]at hj2
   subst hj2
   exact h.todo.ne ho (by decide) hj
 refine⟨h.todo.ey λj hj=>?_,?_,List.getElem?_set_self (Nat.lt_of_lt_of_le hidl ha.fr.len),?_,h.f3,λj hj=>?_⟩
 ·rw[List.getElem?_set_ne (λe=>h.ne3 (by rw[e];exact hj)),hf j hj]
 ·rw[List.map_append,List.map_append]
  exact ha.row.ey λj hj=>by rw[List.getElem?_set_ne (λe=>hidv (by rw[e];exact hj))]
 ·refine Fr.set (id:=id) ⟨by have:=ha.fr.len;omega,λj hj hF=>?_⟩ (.inl (by simp)) _
  rw[ha.fr.old j (by omega) λhj2=>by have:=h.f12 j hj2;omega,h.fr.old j hj hF]
 ·rcases ha.bf j hj with h1|h1
  ·exact h.f12 j h1
  ·omega
theorem dM.push {τ':ab}{v:AV}{x:Br}(h:dM σ id all s l bud st os sp v3 v12 τ)(ha:Nh τ v3 171 (st.map uw++[uw x]) v τ'):dM σ id all s l bud (st++[x]) os sp v v12 τ':=by
 have hlen:=h.fr.len
 refine⟨by rw[List.map_append];exact ha.row.v,h.out.ey λj hj=>ha.fr.old j (h.out.v.lt j hj) λhj2=>?_,by rw[ha.fr.old id (List.getElem?_eq_some_iff.1 h.obj).1 h.ne3,h.obj],?_,λj hj=>?_,h.f12⟩
 ·rcases h.out with⟨rfl,_⟩|⟨ido,rfl,ho,_⟩
  ·simp[bf]at hj
  ·simp[bf]at hj
   subst hj
   exact h.todo.ne ho (by decide) hj2
 ·exact⟨by have:=ha.fr.len;omega,λj hj hF=>by rw[ha.fr.old j (by omega) λhj2=>by have:=h.f3 j hj2;omega,h.fr.old j hj hF]⟩
 ·rcases ha.bf j hj with h1|h1
  ·exact h.f3 j h1
  ·omega
end
theorem JA (hW:rA W0)(σ:ab)(id:Nat)(all:List Pkg)(s:List aC)(l:List aH)(bud:Int)(hn:(l.map (·.name)).Nodup)(h0:bk all=0)(ho:all=cI all)(hmn: ∀p∈all,lu p)(GP:s.length≤10)(hb0:0≤bud)(hbm:bud≤1000000000000)
  (hid:σ[id]?=some (cY all s l bud 0 false .ay)):
  aZ prog W0 57 [.ptr 96 id 0 []] σ λr σ'=>Fr [id] σ σ'∧
   ((0<bud∧bud<gW (dQ all s l) (aK all s l) 0 0∧r= .int .i64 11∧ ∃v,σ'[id]?=some (cY all s l bud bud false v))∨
    ((bud=0∨gW (dQ all s l) (aK all s l) 0 0≤bud)∧r= .int .i64 0∧ ∃(v:AV) (o:List FB),σ'[id]?=some (cY all s l bud (gW (dQ all s l) (aK all s l) 0 0) true v)∧dB σ' v 116 (o.map eE)∧(∀j∈bf v,σ.length≤j)∧o.Perm (wx all s l (dV l))∧o.Pairwise λx y=>ltB y x=false)):=by
 have hidl:=(List.getElem?_eq_some_iff.1 hid).1
 have h24:=dF h0
 have hcont:mw all:=tU (by rw[ho];exact ke (fB h0).2)
 have htot:=xH s l hcont (dQ all s l)
 have h2n:2^all.length≤16777216:=Nat.le_trans (Nat.pow_le_pow_right (n:=2) (by decide) h24) (by decide)
 refine jw [.tmp 2] [5,8,5000010,3000069,2000072,4000011,2000140,2000003] func57 rfl rfl ntmps57 rfl rfl λhs=>?_
 have hid':=hid
 simp only[go_sem,simprocAttr]
 refine af.at [0] (.of (by kernel_rfl)) (λA=>∃ os sp v3 v12,dM σ id all s l bud [] os sp v3 v12 A.st∧LX all s l bud [] os sp) ?_ λB ⟨os,sp,v3,v12,hI,hC⟩=>?_
 ·refine af.cu [0] (.of (by kernel_rfl)) (λk A=>∃ st os sp v3 v12,A.env 3=v3∧k=kU (dQ all s l) (aK all s l) st∧dM σ id all s l bud st os sp v3 v12 A.st∧LX all s l bud st os sp) _ ⟨[(0,0,0)],[],0,_,.ay,rfl,rfl,?_⟩ λk B ⟨st,os,sp,v3,v12,h3,hk,hI,hC⟩=>?_
  ·simp only[go_sem,simprocAttr]
   have hx0:Ext σ (σ++[some (.cells 171 [uw (0,0,0)])]):=Ext.app (.refl _) _
   obtain⟨r1,r2⟩:=Dv (D:=dQ all s l) (gs:=aK all s l)
   refine⟨⟨.inr ⟨σ.length,0,1,[uw (0,0,0)],rfl,?_,by simp,by simp⟩,.inl ⟨rfl,rfl⟩,?_,Fr.ext hx0,λj hj=>?_,λj hj=>by simp[bf]at hj⟩,?_,?_,by simp,?_,λb hb=>?_,λS hS=>by cases hS⟩
   ·rw[List.getElem?_append_right (Nat.le_refl _),Nat.sub_self];rfl
   ·rw[List.getElem?_append_left hidl,hid];rfl
   ·simp[bf]at hj;omega
   ·rw[r1];exact .refl _
   ·rw[r2];omega
   ·omega
   ·simp at hb
    subst hb
    exact⟨Nat.zero_le _,Nat.two_pow_pos _,Nat.two_pow_pos _⟩
  have hob:=hI.obj
  unfold cY ck gI gH dJ at hob
  have hspt:sp≤gW (dQ all s l) (aK all s l) 0 0:=by have:=hC.cnt;omega
  have hw:IntKind.i64.wrap ((sp:Int)+1)=((sp+1:Nat):Int):=by rw[aE (by omega)];omega
  obtain⟨τ,hτ⟩: ∃τ,τ=B.st.set id (cY all s l bud (sp+1:Nat) false v12):=⟨_,rfl⟩
  have hIτ:=hI.SR (sp+1)
  rw[←hτ]at hIτ
  unfold cY ck gI gH dJ at hτ
  simp only[go_sem,simprocAttr,h3,hI.todo.st.ok,hI.todo.st.un,hI.todo.st.len,hI.todo.st.fQ,au hob,ax hob,aP hob,hw,List.length_map]
  refine⟨λhpos=>⟨.of (by kernel_rfl),λhbs=>cH.ret ?_,λhbs=>?_⟩,λhneg=>?_⟩
  ·rw[Bool.and_eq_true,decide_eq_true_eq,beq_iff_eq]at hbs
   have hrl:=sg (D:=dQ all s l) (gs:=aK all s l) st
   have hcnt:=hC.cnt
   have hobj:=hI.obj
   rw[hbs.2]at hobj
   simp only[go_sem,simprocAttr]
   exact⟨_,.refl _,hI.fr.len,hI.fr,.inl ⟨hbs.1,by omega,rfl,v12,hobj⟩⟩
  ·rw[←hτ]
   clear hτ
   obtain⟨st',b,rfl⟩: ∃st' b,st=st'++[b]:=by
    have hne:st≠[]:=λe=>by subst e;simp at hpos
    exact⟨st.dropLast,st.getLast hne,(List.dropLast_concat_getLast hne).symm⟩
   have hrl:=sg (D:=dQ all s l) (gs:=aK all s l) (st'++[b])
   have hcnt:=hC.cnt
   have hstl:(st'++[b]).length=st'.length+1:=by simp
   have hwl:IntKind.i64.wrap (((st'.length+1:Nat):Int)-1)=(st'.length:Int):=by rw[aE (by omega)];omega
   have hcut:=(hIτ.cut (n:=st'.length) (by omega)).more [none]
   rw[List.take_left' rfl]at hcut
   obtain⟨hb1,hb2,hb3⟩:=hC.ok b (by simp)
   have hidx: ∃idt off zs,v3= .row 171 idt off (st'.length+1)∧τ[idt]?=some (some (.cells 171 zs))∧zs[off+st'.length]?=some (uw b):=by
    rcases hIτ.todo with⟨_,hnil⟩|⟨idt,off,m,zs,rfl,hz,hle,hx⟩
    ·simp at hnil
    have hml:m=st'.length+1:=by
     have:=congrArg List.length hx
     rw[List.length_map,hstl,List.length_take,List.length_drop]at this
     omega
    subst hml
    refine⟨idt,off,zs,rfl,hz,?_⟩
    have h1:((st'++[b]).map uw)[st'.length]?=some (uw b):=by simp
    rw[hx,List.getElem?_take,if_pos (by omega),List.getElem?_drop]at h1
    exact h1
   obtain⟨idt,off,zs,rfl,hzτ,hzi⟩:=hidx
   have hobu:=hcut.obj
   have hbud1:bud=0∨((sp+1:Nat):Int)≤bud:=by
    rcases hC.bud with h|h
    ·exact .inl h
    ·by_cases hz:bud=0
     ·exact .inl hz
     ·right
      have h1:decide (0<bud)=true:=decide_eq_true (by omega)
      rw[h1,Bool.true_and]at hbs
      have:(sp:Int)≠bud:=by simpa using hbs
      omega
   unfold cY ck gI gH dJ at hobu
   simp only[go_sem,simprocAttr,hwl,au hzτ,ax hzτ,Int.toNat_natCast,hzi,uw,cd,au hobu,ax hobu,List.length_map]
   refine⟨by omega,by omega,.of (by kernel_rfl),λhleaf=>?_,λhnode=>?_⟩
   ·have hbud':bud=0∨((sp+1:Nat):Int)≤bud:=hbud1
    have hleaf':b.1=(aK all s l).length:=by simpa using hleaf
    have hhl:=BN (W0:=W0) hW _ id all s l b.2.1 h24 hb2 hcut.obj
    refine al.reads (by simp only[go_sem,simprocAttr]) hhl ?_
    simp only[go_sem,simprocAttr]
    have hcut':dM σ id all s l bud st' os (sp+1) (.row 171 idt off st'.length) v12 (τ++[none]):=by simpa[rF]using hcut
    have hleafR:=HI (D:=dQ all s l) (gs:=aK all s l) (st:=st') hleaf'
    refine cJ.at [0,3] (by kernel_rfl) (λA=>∃ v,dM σ id all s l bud st' (if eK all b.2.1=true then os++[b.2.1]else os) (sp+1) (.row 171 idt off st'.length) v A.st) (λhh=>?_) (λhh=>?_) λB1 ⟨v,hI1⟩=>?_
    ·rw[if_pos hh]
     have hco:=G6 (W0:=W0) hW _ id all s l b.2.1 (dV l) h24 (λp hp=>by have:=(fE (dC h0 hp)).rcm.1;omega) GP hb2 hcut.obj
     simp only[go_sem,simprocAttr,cd,au hobu,ax hobu]
     refine⟨.of (by kernel_rfl),az.st hco ?_⟩
     obtain⟨c,hc⟩: ∃c,c=jg all s b.2.1 (dV l):=⟨_,rfl⟩
     rw[←hc]
     have hco1: ∀g,okM g (cq c)=True:=λg=>bT trivial
     have hco2:unm (cq c)=cq c:=rfl
     have hco3:bn prog 39 (cq c)=true:=by kernel_rfl
     have hosl:os.length≤sp:=hC.len
     simp only[go_sem,simprocAttr,au hobu,ax hobu,hco1,hco2,hco3,hcut'.out.v.st.ok,hcut'.out.v.st.un]
     refine bN.Ns (σ:=τ++[none]) (by simp only[go_sem,simprocAttr]) 1000000000 (by kernel_rfl) hcut'.out.v (.lit _ _ _) (by simp) (by simp;omega) λv τ2 ha=>?_
     have hadd:=hcut'.add (by rw[hc]at ha;exact ha)
     have hob2:τ2[id]?=some (cY all s l bud (sp+1:Nat) false v12):=by rw[ha.fr.old id (List.getElem?_eq_some_iff.1 hcut'.obj).1 hcut'.Oc,hcut'.obj]
     unfold cY ck gI gH dJ at hob2
     simp only[go_sem,simprocAttr,au hob2,ax hob2,aP hob2,ha.row.v.st.ok,ha.row.v.st.un,ha.row.v.st.fits]
     exact⟨v,hadd⟩
    ·rw[if_neg (by rw[hh];decide)]
     simp only[go_sem,simprocAttr]
     exact⟨v12,hcut'⟩
    ·simp only[go_sem,simprocAttr]
     have hperm:=hC.perm
     rw[hleafR.1]at hperm
     refine .here (kU (dQ all s l) (aK all s l) st') (by rw[hk,hleafR.2];omega) ⟨st',_,sp+1,_,v,rfl,rfl,hI1,?_,by have:=hleafR.2;omega,?_,hbud',λx hx=>hC.ok x (by simp[hx]),?_⟩
     ·by_cases hh:eK all b.2.1=true
      ·rw[if_pos hh]
       rw[if_pos (show(dQ all s l).hl b.2.1=true from hh)]at hperm
       refine List.Perm.trans ?_ hperm
       rw[List.append_assoc]
       exact List.Perm.append_left _ List.perm_append_comm
      ·rw[if_neg hh]
       rw[if_neg (show ¬(dQ all s l).hl b.2.1=true from hh),List.append_nil]at hperm
       exact hperm
     ·have:=hC.len
      split
      ·simp;omega
      ·omega
     ·intro S hS
      split at hS
      ·rcases List.mem_append.1 hS with h|h
       ·exact hC.oks S h
       ·simp at h;rw[h];exact hb2
      ·exact hC.oks S hS
   ·have hblt:b.1<(aK all s l).length:=by
     have:b.1≠(aK all s l).length:=by simpa using hnode
     omega
    obtain⟨g,hg⟩:=get_some hblt
    have hnodeR:=Hf (D:=dQ all s l) (st:=st') hg
    have hatw:atV ((aK all s l).map λg=>AV.bool g.1) (b.1:Int)= .bool g.1:=aw hg
    have hatn:atV ((aK all s l).map λg=>lx g.2) (b.1:Int)= .sl 3 (g.2.map λk=>.int .i64 (k:Nat)):=aw hg
    have hcut':dM σ id all s l bud st' os (sp+1) (.row 171 idt off st'.length) v12 (τ++[none]):=by simpa[rF]using hcut
    obtain⟨k0,hk0⟩: ∃k0:List Br,k0=if g.1=true then [(b.1+1,b.2.1,b.2.2)]else []:=⟨_,rfl⟩
    have hgl:(aK all s l).length≤24:=by
     have h1:=Bj all s l
     omega
    have hwb:IntKind.i64.wrap ((b.1:Int)+1)=((b.1+1:Nat):Int):=by rw[aE (by omega)];omega
    have hstl2:st'.length≤100000000:=by omega
    simp only[go_sem,simprocAttr,hatw,au hobu,ax hobu,List.length_map]
    refine⟨.of (by kernel_rfl),hblt,cJ.at [0,5] (by kernel_rfl) (λA=>∃ v3,A.env 3=v3∧dM σ id all s l bud (st'++k0) os (sp+1) v3 v12 A.st) (λhh=>?_) (λhh=>?_) λB1 ⟨v3,h3',hI1⟩=>?_⟩
    ·rw[if_pos hh]at hk0
     simp only[go_sem,simprocAttr,hwb]
     refine bN.Ns (σ:=τ++[none]) (by simp only[go_sem,simprocAttr]) 1000000000 (by kernel_rfl) hcut'.todo (.lit _ _ _) (by simp) (by simp;omega) λv τ2 ha=>?_
     have hpu:=hcut'.push (x:=(b.1+1,b.2.1,b.2.2)) ha
     simp only[go_sem,simprocAttr,ha.row.v.st.ok,ha.row.v.st.un]
     rw[hk0]
     exact⟨v,rfl,hpu⟩
    ·rw[if_neg (by rw[hh];decide)]at hk0
     simp only[go_sem,simprocAttr]
     rw[hk0,List.append_nil]
     exact⟨_,rfl,hcut'⟩
    ·have hob1:=hI1.obj
     unfold cY ck gI gH dJ at hob1
     have hg2: ∃n,g.2=placesOf all n:=by
      have hgm:=List.mem_of_getElem? hg
      unfold aK at hgm
      obtain⟨n,_,rfl⟩:=List.mem_map.1 hgm
      exact⟨n,rfl⟩
     obtain⟨n,hgn⟩:=hg2
     have hg24: ∀i∈g.2,i<all.length:=λi hi=>by
      rw[hgn]at hi
      obtain⟨q,hq,_⟩:=bj.1 hi
      exact(List.getElem?_eq_some_iff.1 hq).1
     have hg2l:g.2.length≤24:=by
      rw[hgn]
      unfold placesOf
      exact Nat.le_trans (List.length_filter_le _ _) (by rw[List.length_range];exact h24)
     have hk0l:k0.length≤1:=by rw[hk0];split<;>simp
     obtain⟨P,hP⟩: ∃P:Nat→Bool,P=λi=>(dQ all s l).may i&& !b.2.2.testBit i:=⟨_,rfl⟩
     simp only[go_sem,simprocAttr,h3',au hob1,ax hob1,hatn,List.length_map]
     refine⟨.of (by kernel_rfl),hblt,?_⟩
     refine af.ats [0,5,101,102] (.of (by kernel_rfl)) (λA=>∃ v3,A.env 3=v3∧dM σ id all s l bud (st'++(k0++(g.2.filter P).map (zE (dQ all s l) b))) os (sp+1) v3 v12 A.st) ?_ λB2 ⟨v3,h3',hI2⟩=>?_
     ·refine af.upto [0,5,101,102] (.of (by kernel_rfl)) g.2.length (λi A=>A.env 103= .int .i64 i∧ ∃v3,A.env 3=v3∧dM σ id all s l bud (st'++(k0++((g.2.take i).filter P).map (zE (dQ all s l) b))) os (sp+1) v3 v12 A.st) 0 (Nat.zero_le _) ?_ λi B2 hi ⟨h103,v3,h3',hI2⟩=>?_
      ·simp only[go_sem,simprocAttr,h3']
       exact⟨_,rfl,by simpa using hI1⟩
      have hob2:=hI2.obj
      unfold cY ck gI gH dJ at hob2
      simp only[go_sem,simprocAttr,h103,h3']
      refine⟨λhlt=>?_,λhge=>?_⟩
      ·obtain⟨y,hy⟩:=get_some hlt
       have hyn:=hg24 y (List.mem_of_getElem? hy)
       obtain⟨p,hp⟩:=get_some hyn
       have hatV:atV (g.2.map λk=>AV.int .i64 (k:Nat)) (i:Int)= .int .i64 (y:Nat):=aw hy
       have hat:=qm (s:=s) (l:=l) hp
       have hlen:((List.range all.length).map λi=>fM all s l i ((all[i]?).getD wO)).length=all.length:=by rw[List.length_map,List.length_range]
       have h232:b.2.2<4294967296:=by omega
       have hpw:2^y<4294967296:=ml (by omega)
       have hand:=fA b.2.2 (2^y) h232 hpw
       have hor1:=ie b.2.1 (2^y) (by omega) hpw
       have hcl:gj all y<4294967296:=km λz hz=>by have:=(List.mem_filter.1 hz).1;rw[List.mem_range]at this;omega
       have hor2:=ie b.2.2 (gj all y) h232 hcl
       have hz:(((b.2.2 &&& 2^y:Nat):Int)==0)= !b.2.2.testBit y:=by
        rw[←zd,Bool.eq_iff_iff];simp
       have hPy:P y=(mh l s p&& !b.2.2.testBit y):=by
        rw[hP]
        show(zN all s l y&&_)=_
        unfold zN
        rw[hp]
        simp only[MA hn]
       have hfl:(g.2.take (i+1)).filter P=(g.2.take i).filter P++if P y=true then [y]else []:=by
        rw[ai hy,List.filter_append,List.filter_cons,List.filter_nil]
       have hkl:(st'++(k0++((g.2.take i).filter P).map (zE (dQ all s l) b))).length≤100000100:=by
        have:=List.length_filter_le P (g.2.take i)
        simp only[List.length_append,List.length_map,List.length_take]at *
        omega
       simp only[go_sem,simprocAttr,h103,h3',hatV,au hob2,ax hob2,hat,hlen,List.length_map]
       refine⟨hlt,hyn,.of (by kernel_rfl),az.fnG (λ_=>qB y (by omega)) ?_⟩
       simp only[go_sem,simprocAttr,hand,hz]
       rw[←hPy]
       have hIf:=hI2.more [none]
       refine⟨λhh=>?_,λhh=>?_⟩
       ·rw[if_pos hh]at hfl
        refine⟨.of (by kernel_rfl),?_⟩
        refine az.fn (qB y (by omega)) ?_
        simp only[go_sem,simprocAttr,hor1,hor2,hwb,h3',hIf.todo.st.ok,hIf.todo.st.un,cd]
        refine bN.Ns (σ:=B2.st++[none]) (ys:=[uw (zE (dQ all s l) b y)]) (by first|rfl|simp only[go_sem,simprocAttr]) 1000000000 (by kernel_rfl) hIf.todo (.lit _ _ _) (by simp) (by rw[List.length_map];simp only[List.length_cons,List.length_nil];omega) λv τ2 ha=>?_
        have hpu:=hIf.push (x:=zE (dQ all s l) b y) ha
        simp only[go_sem,simprocAttr,h103,ha.row.v.st.ok,ha.row.v.st.un]
        refine⟨hlt,ah hlt (by rw[ar];omega),v,rfl,?_⟩
        rw[hfl,List.map_append,←List.append_assoc,←List.append_assoc]
        rw[List.append_assoc st' k0]
        exact hpu
       ·rw[if_neg (by rw[hh];decide),List.append_nil]at hfl
        simp only[go_sem,simprocAttr,h103,h3']
        rw[hfl]
        exact⟨hlt,ah hlt (by rw[ar];omega),_,rfl,hIf⟩
      ·rw[List.take_of_length_le hge]at hI2
       exact⟨_,rfl,hI2⟩
     ·simp only[go_sem,simprocAttr,h3']
      have hkids:k0++(g.2.filter P).map (zE (dQ all s l) b)=kids (dQ all s l) g b:=by
       unfold kids
       rw[hk0,hP]
      rw[hkids]at hI2
      have hperm:=hC.perm
      rw[hnodeR.1]at hperm
      refine .here (kU (dQ all s l) (aK all s l) (st'++kids (dQ all s l) g b)) (by rw[hk,hnodeR.2];omega) ⟨_,os,sp+1,v3,v12,by simp only[go_sem,simprocAttr,h3'],rfl,hI2,hperm,by have:=hnodeR.2;omega,by have:=hC.len;omega,hbud1,λx hx=>?_,hC.oks⟩
      rcases List.mem_append.1 hx with hx|hx
      ·exact hC.ok x (by simp[hx])
      ·rw[←hkids]at hx
       rcases List.mem_append.1 hx with hx|hx
       ·rw[hk0]at hx
        split at hx
        ·simp at hx
         subst hx
         exact⟨hblt,hb2,hb3⟩
        ·cases hx
       ·obtain⟨y,hy,rfl⟩:=List.mem_map.1 hx
        have hyn:=hg24 y (List.mem_filter.1 hy).1
        refine⟨hblt,Nat.or_lt_two_pow hb2 (Nat.pow_lt_pow_right (by decide) hyn),Nat.or_lt_two_pow hb3 ?_⟩
        exact ID λz hz=>by have:=(List.mem_filter.1 hz).1;rw[List.mem_range]at this;exact this
  ·have hst0:st=[]:=by
    cases st with
    |nil=>rfl
    |cons a r=>exact absurd hneg (by simp)
   subst hst0
   exact⟨os,sp,v3,v12,hI,hC⟩
 ·have hob:=hI.obj
  unfold cY ck gI gH dJ at hob
  have hcnt:=hC.cnt
  rw[show kU (dQ all s l) (aK all s l) []=0 from rfl,Nat.add_zero]at hcnt
  have hperm:=hC.perm
  rw[show qM (dQ all s l) (aK all s l) []=[]from rfl,List.append_nil]at hperm
  have hpf:(os.map λS=>(jg all s S (dV l),S)).Perm (wx all s l (dV l)):=hperm.map _
  have hfok: ∀x∈(os.map λS=>(jg all s S (dV l),S)),GW x:=λx hx=>by
   obtain⟨S,hS,rfl⟩:=List.mem_map.1 hx
   have:=hC.oks S hS
   exact⟨j4 _ _ _ _ _ _,by show S<_;omega⟩
  have hbud2:bud=0∨((gW (dQ all s l) (aK all s l) 0 0:Nat):Int)≤bud:=by rw[←hcnt];exact hC.bud
  rcases hI.out with⟨rfl,hnil⟩|⟨ido,rfl,hz,hne⟩
  ·simp only[go_sem,simprocAttr,au hob,ax hob]
   refine al.fn xT ?_
   simp only[go_sem,simprocAttr,au hob,ax hob,aP hob]
   have hos:os=[]:=by simpa using hnil
   subst hos
   refine cH.ret ?_
   simp only[go_sem,simprocAttr]
   refine⟨_,.refl _,by have:=hI.fr.len;simpa using this,hI.fr.set (.inl (by simp)) _,.inr ⟨hbud2,rfl,.ay,[],?_,.inl ⟨rfl,rfl⟩,λj hj=>by simp[bf]at hj,hpf,.nil⟩⟩
   rw[←hcnt,List.getElem?_set_self (List.getElem?_eq_some_iff.1 hI.obj).1]
   rfl
  ·obtain⟨xs,hxs⟩: ∃xs,xs=os.map λS=>(jg all s S (dV l),S):=⟨_,rfl⟩
   rw[←hxs]at hz hne hpf hfok hob hI
   have hxl:xs.length≤1000000000:=by rw[hxs,List.length_map];have:=hC.len;omega
   have hso:=AQ (W0:=W0) B.st ido xs hz (λe=>hne (by rw[e];rfl)) hxl hfok
   simp only[go_sem,simprocAttr,au hob,ax hob,List.length_map]
   refine al.goes (by simp only[go_sem,simprocAttr]) hso λr σ1 ⟨ys,hy1,hy2,hσ1⟩=>?_
   subst hσ1
   have hidne:id≠ido:=λe=>by
    have:=hI.obj
    unfold cY ck at this
    rw[e,hz]at this
    simp at this
   have hob2:(B.st.set ido (some (.cells 116 (ys.map eE))))[id]?=some (cY all s l bud sp false (.row 116 ido 0 (xs.map eE).length)):=by rw[List.getElem?_set_ne (Ne.symm hidne),hI.obj]
   have hob2':=hob2
   unfold cY ck gI gH dJ at hob2
   simp only[go_sem,simprocAttr,au hob2,ax hob2,aP hob2]
   refine cH.ret ?_
   simp only[go_sem,simprocAttr]
   have hf12:=hI.f12 ido (by simp[bf])
   have hidol:ido<(B.st).length:=(List.getElem?_eq_some_iff.1 hz).1
   have hidl2:id<B.st.length:=(List.getElem?_eq_some_iff.1 hI.obj).1
   refine⟨_,.refl _,by have:=hI.fr.len;simpa using this,(hI.fr.set (.inr hf12) _).set (.inl (by simp)) _,.inr ⟨hbud2,rfl,.row 116 ido 0 (xs.map eE).length,ys,?_,?_,λj hj=>?_,hy1.trans hpf,hy2⟩⟩
   ·rw[←hcnt,List.getElem?_set_self (by simpa using hidl2)]
    rfl
   ·refine .inr ⟨ido,0,_,ys.map eE,rfl,?_,?_,?_⟩
    ·rw[List.getElem?_set_ne hidne,List.getElem?_set_self hidol]
    ·simp[hy1.length_eq]
    ·rw[List.drop_zero,List.take_of_length_le (by simp[hy1.length_eq])]
   ·simp[bf]at hj
    subst hj
    exact hf12
end Go.Proofs.Tryz
end
section
namespace Go.Proofs.Tryz
open Go Go.Av
set_option maxRecDepth 10000
set_option maxHeartbeats 2000000
variable {W0 :World}
structure FQ (all:List Pkg)(s:List aC)(l:List aH):Prop where
 h0:bk all=0
 ho:all=cI all
 hmn: ∀p∈all,lu p
 GP:s.length≤10
 hU:Uni all s l
def pG (all:List Pkg)(s:List aC)(l:List aH):Nat:=gW (dQ all s l) (aK all s l) 0 0
def ja (all:List Pkg)(s:List aC)(l:List aH):List FB:=(ll all s l (dV l)).map toB
inductive SSt |fresh|run (o:List FB)|fail
def bS (σ:ab)(id:Nat)(all:List Pkg)(s:List aC)(l:List aH)(bud:Int):SSt→Prop
 | .fresh=>σ[id]?=some (cY all s l bud 0 false .ay)
 | .run o=>cK all s l=false∧(∃v,σ[id]?=some (cY all s l bud (pG all s l) true v)∧dB σ v 116 (o.map eE))∧ ∀x∈o,x.1.length=5∧x.2<2^all.length
 | .fail=>cK all s l=false∧0<bud∧ ∃v,σ[id]?=some (cY all s l bud bud false v)
def ep (all:List Pkg)(s:List aC)(l:List aH)(bud:Int)(st:SSt):Option FB×Int×SSt:=
 if cK all s l=true then(none,0,st)else match st with
  | .fail=>(none,11,.fail)
  | .fresh=>if 0<bud∧bud<pG all s l then(none,11,.fail)else((ja all s l).head?,0,.run (ja all s l).tail)
  | .run o=>(o.head?,0,.run o.tail)
def Cw (all:List Pkg):Option FB→Int→AV
 |none,e=>.tup [aU [],cq [0,0,0,0,0],.bool false,.int .i64 e]
 |some x,e=>.tup [aU (atL all (aT all.length x.2)),cq x.1,.bool true,.int .i64 e]
theorem FQ.Xc {all:List Pkg}{s:List aC}{l:List aH}(h:FQ all s l)(hnv:cK all s l=false){o:List FB}(hp:o.Perm (wx all s l (dV l)))(hs:o.Pairwise λx y=>ltB y x=false):o=ja all s l:=
 Bm (dF h.h0) (λp hp=>dC h.h0 hp) (tU (by rw[h.ho];exact ke (fB h.h0).2)) h.hU hnv _ hp hs
theorem GR (σ:ab)(id:Nat)(all:List Pkg)(s:List aC)(l:List aH)(bud:Int)(v:AV)(hb:0<bud)(hid:σ[id]?=some (cY all s l bud bud false v)):
  aZ prog W0 57 [.ptr 96 id 0 []] σ λr σ'=>r= .int .i64 11∧σ'=σ:=by
 have hidl:=(List.getElem?_eq_some_iff.1 hid).1
 refine aZ.back (.int _ _) ?_
 refine jw [.tmp 2] [5,8,5000010,3000069,2000072,4000011,2000140,2000003] func57 rfl rfl ntmps57 rfl rfl λhs=>?_
 simp only[go_sem,simprocAttr]
 refine af.at [0] (.of (by kernel_rfl)) (λA=>False) ?_ λB hF=>hF.elim
 refine af.cu [0] (.of (by kernel_rfl)) (λk A=>A.env 3= .row 171 σ.length 0 1∧Ext σ A.st) 0 ?_ λk B ⟨h3,hx⟩=>?_
 ·simp only[go_sem,simprocAttr]
  exact Ext.app (.refl _) _
 have hob:B.st[id]?=some (cY all s l bud bud false v):=by
  have e:=congrArg (·[id]?) hx
  simp only[List.getElem?_take,if_pos hidl]at e
  rw[e,hid]
 unfold cY ck at hob
 have hc:(decide (0<bud)&&(bud==bud))=true:=by simp[hb]
 have hd:decide (0<bud)=true:=decide_eq_true hb
 simp only[go_sem,simprocAttr,h3,au hob,ax hob,hd]
 refine⟨.of (by kernel_rfl),cH.ret ?_⟩
 simp only[go_sem,simprocAttr]
 exact⟨_,.refl _,hx.le,.refl _,hx⟩
@[go_sem] theorem RL {A:aa}(t u v w:ResultVar):rL A [t,u,v,w]= .tup [jb A t,jb A u,jb A v,jb A w]:=rfl
theorem wq {n:Nat}(D:Dat): ∀{gs:List (Bool×List Nat)} (s c:Nat),(∀g∈gs,∀i∈g.2,i<n)→s<2^n→ ∀S∈nh D gs s c,S<2^n
 |[],s,c,_,h,S,hS=>by
  rw[nh]at hS
  split at hS
  ·simp at hS;rw[hS];exact h
  ·cases hS
 |g::r,s,c,hg,h,S,hS=>by
  rw[nh]at hS
  rcases List.mem_append.1 hS with hS|hS
  ·split at hS
   ·exact wq D s c (λg' h'=>hg g' (by simp[h'])) h S hS
   ·cases hS
  ·obtain⟨i,hi,hS⟩:=List.mem_flatMap.1 hS
   exact wq D _ _ (λg' h'=>hg g' (by simp[h'])) (Nat.or_lt_two_pow h (Nat.pow_lt_pow_right (by decide) (hg g (by simp) i (List.mem_filter.1 hi).1))) S hS
theorem Dn {all:List Pkg}(s:List aC)(l:List aH)(D:Dat)(t c:Nat)(ht:t<2^all.length){S:Nat}(hS:S∈nh D (aK all s l) t c):S<2^all.length:=by
 refine wq D t c (λg hg i hi=>?_) ht S hS
 unfold aK at hg
 obtain⟨n,_,rfl⟩:=List.mem_map.1 hg
 obtain⟨q,hq,_⟩:=bj.1 hi
 exact(List.getElem?_eq_some_iff.1 hq).1
theorem mW (all:List Pkg)(e:Int):cT (.tup [.ay,.agg 39 [.int .i64 0,.int .i64 0,.int .i64 0,.int .i64 0,.int .i64 0],.bool false,.int .i64 e]) (Cw all none e):=by
 refine .tup rfl λi x y hx hy=>?_
 match i,hx,hy with
 |0,hx,hy=>cases hx;cases hy;exact .ay _
 |1,hx,hy=>cases hx;cases hy;exact .refl _
 |2,hx,hy=>cases hx;cases hy;exact .refl _
 |3,hx,hy=>cases hx;cases hy;exact .refl _
theorem mZ (hW:rA W0)(σ:ab)(id:Nat)(all:List Pkg)(s:List aC)(l:List aH)(bud:Int)(st:SSt)(hH:FQ all s l)(hb0:0≤bud)(hbm:bud≤1000000000000)(hst:bS σ id all s l bud st):
  aZ prog W0 14 [.ptr 96 id 0 []] σ λr σ'=>r=Cw all (ep all s l bud st).1 (ep all s l bud st).2.1∧Fr [id] σ σ'∧bS σ' id all s l bud (ep all s l bud st).2.2:=by
 obtain⟨sp,dn,v,hob,hdn,hvn⟩: ∃(sp:Int) (dn:Bool) (v:AV),σ[id]?=some (cY all s l bud sp dn v)∧(dn=true↔ ∃o,st= .run o)∧(cK all s l=true→v= .ay):=by
  cases st with
  |fresh=>exact⟨0,false,.ay,hst,by simp,λ_=>rfl⟩
  |run o=>obtain⟨h0,⟨v,h1,_⟩,_⟩:=hst;exact⟨_,true,v,h1,by simp,λh=>absurd h0 (by rw[h];decide)⟩
  |fail=>obtain⟨h0,_,v,h1⟩:=hst;exact⟨_,false,v,h1,by simp,λh=>absurd h0 (by rw[h];decide)⟩
 have hidl:=(List.getElem?_eq_some_iff.1 hob).1
 have hn:=hH.hU.asks
 refine jw [.tmp 2,.cell 3 39,.tmp 4,.tmp 5] [7,3000059,4000011] func14 rfl rfl ntmps14 rfl rfl λhs=>?_
 have hob1: ∀J,(σ++J)[id]?=some (cY all s l bud sp dn v):=λJ=>by rw[List.getElem?_append_left hidl,hob]
 have hob2:=hob1
 unfold cY ck at hob2
 simp only[go_sem,simprocAttr,au (hob2 _),ax (hob2 _)]
 obtain⟨cz,hcz⟩: ∃cz:Option cV,cz=some (.cells 39 [.agg 39 [.int .i64 0,.int .i64 0,.int .i64 0,.int .i64 0,.int .i64 0]]):=⟨_,rfl⟩
 have hz0:(σ++[cz])[σ.length]?=some cz:=by rw[List.getElem?_append_right (Nat.le_refl _),Nat.sub_self];rfl
 have hfr0:Fr [id] σ (σ++[cz]):=Fr.ext (Ext.app (.refl _) _)
 have hrv: ∀{J:ab} {o:List FB} {w:AV},dB σ w 116 (o.map eE)→dB (σ++J) w 116 (o.map eE):=λh=>h.ey λj hj=>by rw[List.getElem?_append_left (h.lt j hj)]
 refine cJ.at [0,3] (by kernel_rfl) (λA=>A.st[σ.length]?=some cz∧Fr [id] σ A.st∧((cK all s l=true∧A.st=σ++[cz])∨(∃o,bS A.st id all s l bud (.run o)∧ep all s l bud st=(o.head?,0,.run o.tail)))) (λhc=>?_) (λhc=>?_) λB ⟨hz,hfr,hcase⟩=>?_
 ·simp only[Bool.and_eq_true,Bool.not_eq_true']at hc
  obtain⟨hc1,hc2⟩:=hc
  cases st with
  |fresh=>
   have hst0:(σ++[cz])[id]?=some (cY all s l bud 0 false .ay):=by rw[List.getElem?_append_left hidl];exact hst
   have hfi:=JA (W0:=W0) hW (σ++[cz]) id all s l bud hn hH.h0 hH.ho hH.hmn hH.GP hb0 hbm hst0
   simp only[go_sem,simprocAttr]
   refine al.goes (by simp only[go_sem,simprocAttr];rw[hcz]) hfi λr σ1 ⟨hfr1,hr⟩=>?_
   have hfr2:Fr [id] σ σ1:=⟨by have:=hfr1.len;simp at this;omega,λj hj hF=>by rw[hfr1.old j (by simp;omega) hF,hfr0.old j hj hF]⟩
   have hz1:σ1[σ.length]?=some cz:=by rw[hfr1.old σ.length (by simp) (by simp;omega),hz0]
   rcases hr with⟨g1,g2,rfl,w,g3⟩|⟨g1,rfl,w,o,g3,g4,g5,g6,g7⟩
   ·have hnx:ep all s l bud .fresh=(none,11,.fail):=by
     unfold ep
     rw[if_neg (by rw[hc2];decide)]
     exact if_pos ⟨g1,g2⟩
    rw[hnx]
    have hz1':=hz1
    rw[hcz]at hz1'
    simp only[go_sem,simprocAttr,au hz1',ax hz1',aP hz1',gm hz1']
    refine cH.ret ?_
    simp only[go_sem,simprocAttr,au hz1',ax hz1',jb]
    exact⟨_,mW all 11,hfr2.len,rfl,hfr2,hc2,g1,w,g3⟩
   ·have hob3:=g3
    have ho:=hH.Xc hc2 g6 g7
    simp only[go_sem,simprocAttr]
    refine⟨hz1,hfr2,.inr ⟨ja all s l,⟨hc2,⟨w,g3,by rw[←ho];exact g4⟩,λx hx=>?_⟩,?_⟩⟩
    ·rw[←ho]at hx
     obtain⟨S,hS,rfl⟩:=List.mem_map.1 (g6.subset hx)
     exact⟨j4 _ _ _ _ _ _,Dn s l _ 0 0 (Nat.two_pow_pos _) hS⟩
    ·unfold ep
     rw[if_neg (by rw[hc2];decide)]
     exact if_neg (by unfold pG;omega)
  |run o=>exact absurd (hdn.2 ⟨o,rfl⟩) (by rw[hc1];decide)
  |fail=>
   obtain⟨_,q1,w,q2⟩:=hst
   have hst0:(σ++[cz])[id]?=some (cY all s l bud bud false w):=by rw[List.getElem?_append_left hidl];exact q2
   have hnx:ep all s l bud .fail=(none,11,.fail):=by
    unfold ep
    rw[if_neg (by rw[hc2];decide)]
   rw[hnx]
   have hz1':=hz0
   rw[hcz]at hz1'
   simp only[go_sem,simprocAttr]
   refine al.reads (by simp only[go_sem,simprocAttr];rw[hcz]) (GR (σ++[cz]) id all s l bud w q1 hst0) ?_
   simp only[go_sem,simprocAttr,au hz1',ax hz1',aP hz1',gm hz1']
   refine cH.ret ?_
   simp only[go_sem,simprocAttr,au hz1',ax hz1',jb]
   rw[hcz]at hfr0 hst0
   exact⟨_,mW all 11,by simp,rfl,hfr0,hc2,q1,w,hst0⟩
 ·have hc':dn=true∨cK all s l=true:=by
   cases dn<;>simp_all
  simp only[go_sem,simprocAttr]
  rw[←hcz]
  refine⟨rfl,hfr0,?_⟩
  by_cases hnv:cK all s l=true
  ·exact .inl ⟨hnv,rfl⟩
  ·have hd:dn=true:=by rcases hc' with h|h;exact h;exact absurd h hnv
   obtain⟨o,rfl⟩:=hdn.1 hd
   obtain⟨p1,⟨w,p2,p3⟩,p4⟩:=hst
   refine .inr ⟨o,⟨p1,⟨w,by rw[List.getElem?_append_left hidl];exact p2,hrv p3⟩,p4⟩,?_⟩
   unfold ep
   rw[if_neg hnv]
 ·have hz1:=hz
  rw[hcz]at hz1
  rcases hcase with⟨hnv,hBst⟩|⟨o,⟨p1,⟨w,p2,p3⟩,p4⟩,hnx⟩
  ·have hnx:ep all s l bud st=(none,0,st):=by unfold ep;rw[if_pos hnv]
   have hvn':=hvn hnv
   subst hvn'
   have hob3:B.st[id]?=some (cY all s l bud sp dn .ay):=by rw[hBst,List.getElem?_append_left hidl,hob]
   unfold cY ck at hob3
   rw[hnx]
   simp only[go_sem,simprocAttr,au hob3,ax hob3,hnv,au hz1,ax hz1,aP hz1,gm hz1]
   refine cH.ret ?_
   simp only[go_sem,simprocAttr,au hz1,ax hz1,jb]
   refine⟨_,mW all 0,by rw[hBst];simp,rfl,hfr,?_⟩
   cases st with
   |fresh=>
    show B.st[id]?=_
    rw[hBst,List.getElem?_append_left hidl]
    exact hst
   |run o=>exact absurd hst.1 (by rw[hnv];decide)
   |fail=>exact absurd hst.1 (by rw[hnv];decide)
  ·have hob3:=p2
   unfold cY ck at hob3
   rw[hnx]
   simp only[go_sem,simprocAttr,au hob3,ax hob3,p3.st.ok,p3.st.un,p3.st.len,p3.st.fQ,p1,List.length_map,au hz1,ax hz1,aP hz1,gm hz1]
   refine⟨λh0=>cH.ret ?_,λh0=>?_⟩
   ·have ho:o=[]:=List.length_eq_zero_iff.1 (by omega)
    subst ho
    simp only[go_sem,simprocAttr,au hz1,ax hz1,jb]
    exact⟨_,mW all 0,hfr.len,rfl,hfr,p1,⟨w,p2,p3⟩,p4⟩
   ·obtain⟨x,r,rfl⟩: ∃x r,o=x::r:=by
     cases o with
     |nil=>exact absurd rfl h0
     |cons x r=>exact⟨x,r,rfl⟩
    have hcut:=p3.cut (a:=1) (b:=(x::r).length) (by simp) (by simp)
    rcases p3 with⟨rfl,hnil⟩|⟨ido,off,m,zs,rfl,hz2,hle,hx⟩
    ·simp at hnil
    have hml:m=r.length+1:=by
     have:=congrArg List.length hx
     simp only[List.length_map,List.length_cons,List.length_take,List.length_drop]at this
     omega
    subst hml
    have hzi:zs[off+0]?=some (eE x):=by
     have h1:((x::r).map eE)[0]?=some (eE x):=rfl
     rw[hx,List.getElem?_take,if_pos (by omega),List.getElem?_drop]at h1
     exact h1
    have hob4:(B.st++[none])[id]?=some (cY all s l bud (pG all s l) true (.row 116 ido off (r.length+1))):=by rw[List.getElem?_append_left (List.getElem?_eq_some_iff.1 p2).1];exact p2
    have hob5:=hob4
    unfold cY ck at hob5
    obtain⟨τ,hτ⟩: ∃τ,τ=(B.st++[none]).set id (cY all s l bud (pG all s l) true (.row 116 ido (off+1) r.length)):=⟨_,rfl⟩
    have hlid:id<(B.st++[none]).length:=(List.getElem?_eq_some_iff.1 hob4).1
    have hobτ:τ[id]?=some (cY all s l bud (pG all s l) true (.row 116 ido (off+1) r.length)):=by rw[hτ];exact List.getElem?_set_self hlid
    have hne1:id≠σ.length:=by omega
    have hzτ:τ[σ.length]?=some cz:=by rw[hτ,List.getElem?_set_ne hne1,List.getElem?_append_left (List.getElem?_eq_some_iff.1 hz).1,hz]
    have hzτ':=hzτ
    rw[hcz]at hzτ'
    obtain⟨hx5,hx2⟩:=p4 x (by simp)
    have hwh:=Gy (W0:=W0) hW τ id all x.2 hH.h0 hH.ho hH.hmn hx2 hobτ
    have hτ':=hτ
    unfold cY ck at hτ'
    have hco1: ∀g,okM g (cq x.1)=True:=λg=>bT trivial
    have hco2:unm (cq x.1)=cq x.1:=rfl
    have hco3:bn prog 39 (cq x.1)=true:=by kernel_rfl
    simp only[go_sem,simprocAttr,au hz2,ax hz2,hzi,eE,cd,au hob5,ax hob5,aP hob5,List.length_cons]
    rw[←hτ']
    refine⟨.of (by kernel_rfl),az.st hwh ?_⟩
    simp only[go_sem,simprocAttr,hco1,hco2,hco3,au hzτ',ax hzτ',aP hzτ']
    have hl3:σ.length<τ.length:=(List.getElem?_eq_some_iff.1 hzτ).1
    have hlk:(τ.set σ.length (some (.cells 39 [cq x.1])))[σ.length]?=some (some (.cells 39 [cq x.1])):=List.getElem?_set_self hl3
    have hco4: ∀σ',qY none σ' 39 (.loc 39 (cq x.1))=True:=λσ'=>eq_true rfl
    have hfrτ:Fr [id] σ τ:=by rw[hτ];exact(hfr.app _).set (.inl (by simp)) _
    refine cH.ret ?_
    simp only[go_sem,simprocAttr,au hlk,ax hlk,jb]
    refine⟨_,.refl _,by simpa using hfrτ.len,rfl,hfrτ.set (.inr (Nat.le_refl _)) _,p1,⟨.row 116 ido (off+1) r.length,?_,?_⟩,λy hy=>p4 y (List.mem_cons_of_mem _ hy)⟩
    ·rw[List.getElem?_set_ne (Ne.symm hne1)];exact hobτ
    ·have hidne:ido≠id:=λe=>by
      rw[e]at hz2
      unfold cY ck at p2
      rw[hz2]at p2
      simp at p2
     have hidne2:ido≠σ.length:=λe=>by
      rw[e,hz1]at hz2
      simp at hz2
     have hr:dB B.st (.row 116 ido (off+1) r.length) 116 (r.map eE):=by
      have h:=hcut
      simp only[rF,List.length_cons,Nat.add_sub_cancel,List.map_cons,List.drop_succ_cons,List.drop_zero]at h
      rwa [List.take_of_length_le (by simp)]at h
     refine hr.ey λj hj=>?_
     simp[bf]at hj
     subst hj
     rw[List.getElem?_set_ne (Ne.symm hidne2),hτ,List.getElem?_set_ne (Ne.symm hidne),List.getElem?_append_left (List.getElem?_eq_some_iff.1 hz2).1]
theorem yN (σ:ab)(id:Nat)(all:List Pkg)(s:List aC)(l:List aH)(bud sp:Int)(dn:Bool)(v:AV)(hid:σ[id]?=some (cY all s l bud sp dn v)):aZ prog W0 26 [.ptr 96 id 0 []] σ λr σ'=>r= .int .i64 sp∧σ'=σ:=by
 refine om [2] [] func26 rfl rfl ntmps26 rfl rfl (.int _ _) λhs=>?_
 have hob:=hid
 unfold cY ck at hob
 simp only[go_sem,simprocAttr,au hob,ax hob]
 refine bR.ret ⟨?_,?_⟩
 ·simp only[go_sem,simprocAttr]
  try exact .refl _
 ·simp only[go_sem,simprocAttr]
  try simp
end Go.Proofs.Tryz
end
section
namespace Go.Proofs.Tryz
open Go Go.Av
set_option maxRecDepth 10000
variable {W0 :World}
theorem Ap (fs gs:List AV):iK prog 39 fs gs=uq [1,1,1,1,1] fs gs:=by
 have hu:prog.underlying 39=some (.array 5 3):=by kernel_rfl
 have hc:(ae prog 3==1&& !prog.eqGuardType prog.depth 39)=true:=by kernel_rfl
 have hf:bo prog 39=some [3,3,3,3,3]:=by kernel_rfl
 have hk:[3,3,3,3,3].map (eqK prog)=[1,1,1,1,1]:=by kernel_rfl
 unfold iK
 simp only[hu]
 rw[if_pos hc,hf,Option.bind_some,Bk,hk]
theorem xB {a b:List Nat}(ha:a.length=5)(hb:b.length=5):iK prog 39 (a.map λx=>.int .i64 (x:Nat)) (b.map λx=>.int .i64 (x:Nat))=some (decide (a=b)):=by
 rw[Ap]
 match a,ha,b,hb with
 |[a0,a1,a2,a3,a4],_,[b0,b1,b2,b3,b4],_=>
  simp only[List.map_cons,List.map_nil,uq,AD,if_true,Option.bind_some,Option.map_some,Bool.and_true,Option.some.injEq]
  rw[Bool.eq_iff_iff]
  simp[Int.ofNat_inj]
def bwA :Pkg:=⟨[97,97],[49],[],[[⟨[98,98],0,[]⟩,⟨[99,99],0,[]⟩]],[],[],[],[],false⟩
def bwB :Pkg:=⟨[98,98],[49],[],[],[],[],[],[],false⟩
def bwC :Pkg:=⟨[99,99],[49],[],[],[],[],[],[],false⟩
def bwL :List Pkg:=[bwA,bwB,bwC]
def bwQ :List aH:=[⟨1,[97,97],[]⟩]
theorem Xs :ly bwL [] bwQ=0:=by decide+kernel
theorem Tr :cK bwL [] bwQ=false:=by decide+kernel
theorem Jw :(ja bwL [] bwQ).head?=some ([0,0,0,2,0],3):=by decide+kernel
theorem Hk : ∀p∈bwL,lu p:=λp hp=>by
 simp[bwL]at hp
 rcases hp with rfl|rfl|rfl<;>exact⟨by decide,by decide,by decide⟩
theorem T8 :FQ bwL [] bwQ:=⟨by decide+kernel,by decide+kernel,Hk,by decide,⟨by decide+kernel,by decide+kernel,λx hx=>by cases hx⟩⟩
theorem iU (hW:rA W0):ag prog W0 10 [] (.bool true):=by
 refine .GA (.bool _) λσ=>?_
 refine jw [.tmp 0] [5] func10 rfl rfl ntmps10 rfl rfl λhs=>?_
 simp only[go_sem,simprocAttr]
 refine al.goes (by simp only[go_sem,simprocAttr]) ((qJ σ bwL [] bwQ 0 Hk (λx hx=>by cases hx)).cG (.cons (.sub (jn (n:=10) (by kernel_rfl))) (.cons (.ay _) (.cons (.sub (jn (n:=10) (by kernel_rfl))) (.cons (.refl _) .nil))))) λr σ1 ⟨hx,hr⟩=>?_
 rcases hr with⟨h,_⟩|⟨_,id,rfl,hid,hob⟩
 ·exact absurd Xs h
 rw[vd T8.hU.asks]at hob
 simp only[go_sem,simprocAttr]
 have hn:=mZ hW σ1 id bwL [] bwQ 0 .fresh T8 (by decide) (by decide) hob
 have hnx:ep bwL [] bwQ 0 .fresh=(some ([0,0,0,2,0],3),0,.run (ja bwL [] bwQ).tail):=by
  unfold ep
  rw[if_neg (by rw[Tr];decide)]
  simp only[Jw]
  rfl
 rw[hnx]at hn
 refine al.goes (by simp only[go_sem,simprocAttr]) hn λr σ2 ⟨hr,hfr,_⟩=>?_
 subst hr
 have hpk:atL bwL (aT bwL.length 3)=[bwA,bwB]:=by decide+kernel
 have a1: ∀(x y:AV) (l:List AV),atV (x::y::l) 1=y:=λ_ _ _=>rfl
 simp only[go_sem,simprocAttr,Cw,hpk,aU,cq,List.map_cons,List.map_nil,List.length_cons,List.length_nil,a1]
 simp only[go_sem,simprocAttr,av,bwB]
 have heq:iK prog 39 [AV.int .i64 0,AV.int .i64 0,AV.int .i64 0,AV.int .i64 2,AV.int .i64 0] [AV.int .i64 0,AV.int .i64 0,AV.int .i64 0,AV.int .i64 2,AV.int .i64 0]=some true:=xB (a:=[0,0,0,2,0]) (b:=[0,0,0,2,0]) rfl rfl
 rw[heq]
 refine⟨rfl,cH.ret ?_⟩
 simp only[go_sem,simprocAttr,Option.map_some,Option.getD_some]
 have hle:=hfr.len
 have hl1:=hx.le
 refine⟨_,.refl _,by first|omega|(simp;omega),.refl _,?_⟩
 exact(hfr.qX hx λj hj=>by simp at hj;omega).app _
end Go.Proofs.Tryz
end
section
namespace Go.Proofs.Tryz
open Go Go.Av
set_option maxRecDepth 10000
variable {W0 :World}
theorem vX (l:List Pkg)(hp: ∀p∈l,rJ p):ag prog W0 17 [aU l] (.bool (iu 0 l)):=by
 refine aj [2] [4] func17 rfl rfl ntmps17 rfl rfl (.bool _) λhs σ=>?_
 have hl:=(aO (hs _ (List.mem_cons_self ..))).1
 have hls:=(aO (hs _ (List.mem_cons_self ..))).2
 simp only[go_sem,simprocAttr,aU,List.length_map]
 refine af.upto [9,10] (.of (by kernel_rfl)) l.length (λi A=>A.env 11= .int .i64 i∧Ext σ A.st∧iu i (l.drop i)=iu 0 l) 0 (Nat.zero_le _) ?_ λi B hi ⟨h8,hst,hI⟩=>?_
 ·simp only[go_sem,simprocAttr]
  simp[Ext.refl]
 simp only[go_sem,simprocAttr,h8,List.length_map]
 refine⟨λhc=>⟨hc,?_⟩,λhc=>?_⟩
 ·obtain⟨p,hpi⟩:=get_some hc
  simp only[aw hpi]
  have hR:=hp p (List.mem_of_getElem? hpi)
  have r1:=hR.con;have r2:=hR.brk;have r3:=hR.dY
  rw[HM]at r1 r2 r3
  have hw1:IntKind.i64.wrap ((p.con.length:Int)+(p.brk.length:Int))=((p.con.length:Int)+(p.brk.length:Int)):=aE (by omega)
  have hw2:IntKind.i64.wrap ((p.con.length:Int)+(p.brk.length:Int)+(p.dY.length:Int))=((p.con.length:Int)+(p.brk.length:Int)+(p.dY.length:Int)):=aE (by omega)
  rw[List.drop_eq_getElem_cons hc,iu]at hI
  have hpe:l[i]=p:=(List.getElem?_eq_some_iff.1 hpi).2
  rw[hpe]at hI
  simp only[go_sem,simprocAttr,av,aF,cm,h8,List.length_map,hw1,hw2]
  have e3:[aA p.pre,aA p.dep,aA p.rcm]=[p.pre,p.dep,p.rcm].map aA:=rfl
  refine⟨λhb=>⟨ak ?_,hst.app _⟩,λhb=>?_⟩
  ·have:nL i p=false:=by
    unfold nL
    simp only[Bool.or_eq_true,decide_eq_true_eq]at hb
    rcases hb with hb|hb
    ·rw[decide_eq_false (show ¬i<26 by omega)];rfl
    ·rw[decide_eq_false (show ¬p.con.length+p.brk.length+p.dY.length≤40 by omega),Bool.and_false];rfl
   rw[←hI,this];rfl
  simp only[Bool.or_eq_false_iff,decide_eq_false_iff_not]at hb
  have hP:nL i p=[p.pre,p.dep,p.rcm].all tC:=by
   unfold nL
   rw[decide_eq_true (show i<26 by omega),decide_eq_true (show p.con.length+p.brk.length+p.dY.length≤40 by omega)];rfl
  simp only[e3]
  have hds:=hls p (List.mem_of_getElem? hpi)
  refine af.ats [9,10,11] (.of (by kernel_rfl)) (λA=>Ext σ A.st∧nL i p=true) ?_ λB2 ⟨hst,h6⟩=>?_
  ·refine af.upto [9,10,11,38] (.of (by kernel_rfl)) 3 (λj A=>A.env 39= .int .i64 j∧Ext σ A.st∧([p.pre,p.dep,p.rcm].drop j).all tC=[p.pre,p.dep,p.rcm].all tC) 0 (Nat.zero_le _) ?_ λj B2 hj ⟨h39,hst,hJ⟩=>?_
   ·simp only[go_sem,simprocAttr]
    exact hst.app _
   simp only[go_sem,simprocAttr,h39]
   simp only[e3]
   refine⟨λhc2=>?_,λhc2=>?_⟩
   ·have hc3:j<[p.pre,p.dep,p.rcm].length:=by show j<3;omega
    obtain⟨d,hdj⟩:=get_some hc3
    have hde:=(List.getElem?_eq_some_iff.1 hdj).2
    rw[List.drop_eq_getElem_cons hc3,hde,List.all_cons]at hJ
    simp only[getD_map hdj]
    simp only[go_sem,simprocAttr,aA,h39,List.length_map]
    refine⟨hc3,?_⟩
    have hlD:tC d=(decide (d.length≤14)&&d.all λc=>decide (c.length≤10)):=rfl
    refine⟨λhb=>⟨ak ?_,hst⟩,λhb=>?_⟩
    ·rw[←hI,hP,←hJ,hlD,decide_eq_false (by omega)];rfl
    rw[decide_eq_true (show d.length≤14 by omega),Bool.true_and]at hlD
    refine af.ats [9,10,11,38,39] (.of (by kernel_rfl)) (λA=>Ext σ A.st∧(d.all λc=>decide (c.length≤10))=true) ?_ λB3 ⟨hst,h6⟩=>?_
    ·refine af.upto [9,10,11,38,39,45,46] (.of (by kernel_rfl)) d.length (λk A=>A.env 47= .int .i64 k∧Ext σ A.st∧ ∀c∈d.take k,c.length≤10) 0 (Nat.zero_le _) ?_ λk B3 hk ⟨h47,hst,hK⟩=>?_
     ·simp only[go_sem,simprocAttr]
      simp[hst]
     simp only[go_sem,simprocAttr,h47,List.length_map]
     refine⟨λhc4=>⟨hc4,?_⟩,λhc4=>?_⟩
     ·obtain⟨c,hck⟩:=get_some hc4
      simp only[aw hck]
      simp only[go_sem,simprocAttr,aF,h47,List.length_map]
      refine⟨λhb=>⟨ak ?_,hst⟩,λhb=>⟨hc4,ah hc4 (by rw[ar];omega),hst,?_⟩⟩
      ·have:(d.all λc=>decide (c.length≤10))=false:=by
        rw[List.all_eq_false]
        exact⟨c,List.mem_of_getElem? hck,by simp;omega⟩
       rw[←hI,hP,←hJ,hlD,this];rfl
      ·rw[ai hck]
       intro x hx
       rcases List.mem_append.1 hx with hx|hx
       ·exact hK x hx
       ·rw[List.mem_singleton.1 hx];omega
     ·rw[List.take_of_length_le hc4]at hK
      exact⟨hst,List.all_eq_true.2 λc hcm=>decide_eq_true (hK c hcm)⟩
    simp only[go_sem,simprocAttr,h39]
    refine⟨by omega,ah (show j<3 by omega) (by rw[ar];omega),hst,?_⟩
    rw[hlD,h6,Bool.true_and]at hJ
    simpa using hJ
   ·have:j=3:=by omega
    subst this
    exact⟨hst,by rw[hP,←hJ];rfl⟩
  simp only[go_sem,simprocAttr,h8]
  refine⟨hc,ah hc hl,hst,?_⟩
  rw[h6,Bool.true_and]at hI
  exact hI
 ·have:i=l.length:=by omega
  subst this
  rw[List.drop_length]at hI
  exact⟨ak hI,hst⟩
theorem GC (l:List aC)(hl:l.length≤733007751829):ag prog W0 18 [aY l] (aU (l.map (·.pkg))):=by
 refine aj [2] [5] func18 rfl rfl ntmps18 rfl rfl (kh _) λhs σ=>?_
 simp only[go_sem,simprocAttr,aY,List.length_map]
 refine af.at [6,7] (.of (by kernel_rfl)) (λA=>∃ v,A.env 3=v∧aR σ A.st v 54 ((l.map (·.pkg)).map av)) ?_ λB ⟨v,h3,hb⟩=>?_
 ·refine af.upto [6,7] (.of (by kernel_rfl)) l.length (λi A=>∃ v,A.env 3=v∧A.env 8= .int .i64 i∧aR σ A.st v 54 (((l.take i).map (·.pkg)).map av)) 0 (Nat.zero_le _) ?_ λi B hi ⟨v,h3,h8,hb⟩=>?_
  ·simp only[go_sem,simprocAttr]
   exact⟨_,rfl,aR.nil (.refl _) _⟩
  simp only[go_sem,simprocAttr,h3,h8,hb.ok,hb.un,List.length_map]
  refine⟨λhlt=>⟨hlt,?_⟩,λhlt=>?_⟩
  ·obtain⟨x,hx⟩:=get_some hlt
   simp only[aw hx]
   have hb1:=hb.more [none]
   simp only[go_sem,simprocAttr,bC,av,h3,h8,hb.ok,hb.un]
   refine bN.own 733007751829 (by kernel_rfl) hb1.bld (.lit _ _ _) (by simp;omega) λv' σ' ha'=>?_
   have hb':=hb1.app ha'
   simp only[go_sem,simprocAttr,h3,h8,hb.ok,hb.un,hb'.ok,hb'.un]
   refine⟨hlt,_,rfl,ah hlt (by rw[ar];omega),?_⟩
   rw[ai hx,List.map_append,List.map_append]
   exact hb'
  ·rw[List.take_of_length_le hlt]at hb
   exact⟨_,rfl,hb⟩
 simp only[go_sem,simprocAttr,h3,hb.ok,hb.un]
 exact⟨hb.cG,hb.ext⟩
theorem Jx {n:Nat}{a:AV}(h:OfT prog (n+2) 83 a): ∃p,a=bP p:=by
 obtain⟨xs,rfl,g⟩:=l0 (ts:=[3,9,9]) (by kernel_rfl) h
 obtain _|⟨x,_|⟨y,_|⟨z,_|_⟩⟩⟩:=xs<;>simp only[rN,and_false,and_true]at g
 obtain⟨h1,h2,h3⟩:=g
 obtain⟨k,rfl,_⟩:=rP (k:=.i64) (by kernel_rfl) h1
 obtain⟨s,rfl,_⟩:=jP (by kernel_rfl) h2
 obtain⟨v,rfl,_⟩:=jP (by kernel_rfl) h3
 exact⟨⟨k,s,v⟩,rfl⟩
theorem FU {n:Nat}{a:AV}(h:OfT prog (n+3) 24 a): ∃l,a=br l:=by
 obtain⟨l,rfl,_⟩:=pd (f:=bP) (e:=83) (by kernel_rfl) (λx=>Jx) h
 exact⟨l,rfl⟩
end Go.Proofs.Tryz
end
section
namespace Go.Av
open Go.Proofs.Tryz
def rK (n x:List UInt8):Bool:=Op.bytesLess x n
def kH (n:List UInt8)(o:List (List UInt8)):List (List UInt8):=if (o.dropWhile (rK n)).head?=some n then o else o.takeWhile (rK n)++n::o.dropWhile (rK n)
def iw (l:List Pkg):List (List UInt8):=l.foldl (λo p=>kH p.name o) []
theorem lz {l:List Pkg}{i:Nat}{p:Pkg}(h:l[i]?=some p):iw (l.take (i+1))=kH p.name (iw (l.take i)):=by
 rw[iw,ai h,List.foldl_append];rfl
theorem GB (n:List UInt8)(o:List (List UInt8)):(kH n o).length≤o.length+1:=by
 unfold kH
 split
 ·omega
 ·have:=congrArg List.length (List.takeWhile_append_dropWhile (p:=rK n) (l:=o))
  rw[List.length_append]at this
  rw[List.length_append,List.length_cons]
  omega
theorem Bl (l:List Pkg):(iw l).length≤l.length:=by
 have key: ∀(l:List Pkg) (o:List (List UInt8)),(l.foldl (λo p=>kH p.name o) o).length≤o.length+l.length:=λl=>by
  induction l with
  |nil=>intro o;simp
  |cons p l ih=>
   intro o
   have h1:=ih (kH p.name o)
   have h2:=GB p.name o
   rw[List.foldl_cons,List.length_cons]
   omega
 have:=key l []
 simpa[iw]using this
theorem xN (n x:List UInt8)(o:List (List UInt8)):x∈kH n o↔x=n∨x∈o:=by
 have h0:=List.takeWhile_append_dropWhile (p:=rK n) (l:=o)
 unfold kH
 split
 ·rename_i h
  have hn:n∈o:=by
   rw[←h0,List.mem_append]
   exact .inr (List.mem_of_head? h)
  constructor
  ·exact λh=>.inr h
  ·rintro(rfl|h)
   ·exact hn
   ·exact h
 ·have: ∀y,y∈o↔y∈o.takeWhile (rK n)∨y∈o.dropWhile (rK n):=λy=>by
   rw[←List.mem_append,h0]
  rw[this,List.mem_append,List.mem_cons]
  constructor
  ·rintro(h|rfl|h)
   ·exact .inr (.inl h)
   ·exact .inl rfl
   ·exact .inr (.inr h)
  ·rintro(rfl|h|h)
   ·exact .inr (.inl rfl)
   ·exact .inl h
   ·exact .inr (.inr h)
theorem xP {n:List UInt8}: ∀{o:List (List UInt8)},o.Pairwise (λx y=>Op.bytesLess x y=true)→(kH n o).Pairwise λx y=>Op.bytesLess x y=true
 |[],_=>by unfold kH;simp
 |x::r,h=>by
  obtain⟨h1,h2⟩:=List.pairwise_cons.1 h
  by_cases hx:rK n x=true
  ·have e:kH n (x::r)=x::kH n r:=by
    unfold kH
    rw[List.dropWhile_cons_of_pos hx,List.takeWhile_cons_of_pos hx]
    split<;>simp
   rw[e]
   refine List.pairwise_cons.2 ⟨λy hy=>?_,xP h2⟩
   rcases(xN n y r).1 hy with rfl|hy
   ·exact hx
   ·exact h1 y hy
  ·unfold kH
   rw[List.dropWhile_cons_of_neg hx,List.takeWhile_cons_of_neg hx]
   split
   ·exact h
   ·rename_i hne
    have hxn:x≠n:=λe=>hne (by rw[e];rfl)
    have hlt:Op.bytesLess n x=true:=sK hxn (by simpa[rK]using hx)
    refine List.pairwise_cons.2 ⟨λy hy=>?_,h⟩
    rcases List.mem_cons.1 hy with rfl|hy
    ·exact hlt
    ·exact fq hlt (h1 y hy)
theorem D6 (l:List Pkg):(iw l).length=(de l []).length:=by
 have key: ∀(l:List Pkg) (o:List (List UInt8)),o.Pairwise (λx y=>Op.bytesLess x y=true)→(l.foldl (λo p=>kH p.name o) o).Pairwise (λx y=>Op.bytesLess x y=true)∧ ∀x,x∈l.foldl (λo p=>kH p.name o) o↔x∈o∨ ∃p∈l,p.name=x:=λl=>by
  induction l with
  |nil=>intro o h;exact⟨h,λx=>by simp⟩
  |cons p l ih=>
   intro o h
   obtain⟨g1,g2⟩:=ih _ (xP (n:=p.name) h)
   refine⟨g1,λx=>?_⟩
   rw[List.foldl_cons,g2,xN]
   constructor
   ·rintro((rfl|h)|⟨q,hq,e⟩)
    ·exact .inr ⟨p,by simp,rfl⟩
    ·exact .inl h
    ·exact .inr ⟨q,by simp[hq],e⟩
   ·rintro(h|⟨q,hq,e⟩)
    ·exact .inl (.inr h)
    ·rcases List.mem_cons.1 hq with rfl|hq
     ·exact .inl (.inl e.symm)
     ·exact .inr ⟨q,hq,e⟩
 obtain⟨g1,g2⟩:=key l [] .nil
 have nd:(iw l).Nodup:=g1.imp λ{a b} h e=>by rw[e,eh]at h;cases h
 refine((List.perm_ext_iff_of_nodup nd (iQ l [] List.nodup_nil)).2 λx=>?_).length_eq
 rw[jy]
 exact g2 x
end Go.Av
namespace Go.Proofs.Tryz
open Go Go.Av
set_option maxRecDepth 10000
variable {W0 :World}
theorem C9 (l:List Pkg)(hl:l.length≤1024):ag prog W0 79 [aU l] (.sl 9 ((iw l).map .str)):=by
 refine lZ [2] [5,45,2000044,2000048,2000052,2000003] func79 rfl rfl ntmps79 rfl rfl (v7 _) λhs σ=>?_
 have ht:elT prog 58=some 9:=by kernel_rfl
 simp only[go_sem,simprocAttr,aU]
 refine af.at [7,8] (.of (by kernel_rfl)) (λA=>∃ v,A.env 3=v∧ew σ A.st v 9 ((iw l).map .str)) ?_ λB ⟨v,h3,hb⟩=>?_
 ·refine af.upto [7,8] (.of (by kernel_rfl)) l.length (λi A=>∃ v,A.env 3=v∧A.env 9= .int .i64 i∧ew σ A.st v 9 ((iw (l.take i)).map .str)) 0 (Nat.zero_le _) ?_ λi B hi ⟨v,h3,h9,hb⟩=>?_
  ·simp only[go_sem,simprocAttr]
   exact⟨_,rfl,ew.nil (.refl _) _⟩
  have hok:=hb.iI.ok
  have hun:=hb.iI.un
  simp only[go_sem,simprocAttr,h3,h9,hok,hun,List.length_map]
  refine⟨λhc=>?_,λhc=>?_⟩
  ·obtain⟨p,hp⟩:=get_some hc
   have ho:(iw (l.take i)).length≤1024:=by have:=Bl (l.take i);rw[List.length_take]at this;omega
   obtain⟨o,hoo⟩: ∃o,o=iw (l.take i):=⟨_,rfl⟩
   rw[←hoo]at hb ho
   have hb':=hb.more [none]
   have hlen:lV v= .int .i64 o.length:=by rw[hb.row.st.len,List.length_map]
   have hlc:=λt=>hb.row.st.fQ prog t
   simp only[go_sem,simprocAttr,aw hp,av,h3,h9,hok,hun]
   refine⟨hc,af.at [3,5,7,8,9] (.of (by kernel_rfl)) (λA=>∃ a:Nat,A.env 6= .int .i64 a∧a≤o.length∧A.st=B.st++[none]∧(∀k x,k<a→o[k]?=some x→rK p.name x=true)∧(∀x,o[a]?=some x→rK p.name x=false)) ?_ λC ⟨a,h6,hle,hst,hI,hJ⟩=>?_⟩
   ·refine af.upto [3,5,7,8,9] (.of (by kernel_rfl)) o.length (λa A=>A.env 6= .int .i64 a∧A.st=B.st++[none]∧(∀k x,k<a→o[k]?=some x→rK p.name x=true)) 0 (Nat.zero_le _) ?_ λa C hle ⟨h6,hst,hI⟩=>?_
    ·simp only[go_sem,simprocAttr]
    by_cases hlt:a<o.length
    ·obtain⟨q,hq⟩:=get_some hlt
     have hok2:=hok
     rcases hb'.row with⟨rfl,h0⟩|⟨id,off,m,zs,rfl,g1,g2,g3⟩
     ·have:=congrArg List.length h0
      simp at this
      rw[this]at hlt
      exact absurd hlt (by simp)
     have hm:m=o.length:=by rw[←dB.AJ (σ:=B.st) (e:=9) (id:=id) g2 g3,List.length_map]
     have hz:zs[off+a]?=some (AV.str q):=by
      have h1:((zs.drop off).take m)[a]?=some (AV.str q):=by rw[←g3,List.getElem?_map,hq];rfl
      rw[List.getElem?_take_of_lt (by omega),List.getElem?_drop]at h1
      exact h1
     have hk0:Av.look C.st id (off+a) []=some (.str q):=by
      rw[hst]
      unfold Av.look
      rw[g1]
      simp only[hz,Option.bind_some]
      rfl
     have hlv:live C.st id:=by rw[hst,ax g1];trivial
     simp only[go_sem,simprocAttr,h3,h6,hok,hun,hm,hk0,hlv,hlt]
     refine⟨.of (by kernel_rfl),?_⟩
     refine⟨λhb1=>⟨ah hlt (by rw[ar];omega),hst,λk x hk hx=>?_⟩,λhb0=>⟨a,rfl,hle,hst,hI,λx hx=>?_⟩⟩
     ·rcases Nat.lt_succ_iff_lt_or_eq.1 hk with h|rfl
      ·exact hI k x h hx
      ·rw[hq]at hx;cases hx;exact hb1
     ·rw[hq]at hx;cases hx;exact hb0
    ·simp only[go_sem,simprocAttr,h3,h6,hok,hun,hlen,hlc,hlt,wZ]
     refine⟨.of (by kernel_rfl),?_⟩
     exact⟨a,rfl,hle,hst,hI,λx hx=>by rw[List.getElem?_eq_none (by omega)]at hx;cases hx⟩
   have hrow:dB C.st v 9 (o.map AV.str):=by rw[hst];exact hb'.row
   have hle':a≤(o.map AV.str).length:=by simpa using hle
   have hc1:=hrow.cut (Nat.zero_le a) hle'
   have hc2:=hrow.cut hle' (Nat.le_refl _)
   rw[List.length_map]at hc2
   have q1:=hc1.st.ok
   have q2:=hc1.st.un
   have q3:=hc2.st.ok
   have q4:=hc2.st.un
   have hdr:(o.drop a).head?=o[a]?:=by rw[List.head?_drop]
   by_cases hlt:a<o.length
   ·obtain⟨q,hq⟩:=get_some hlt
    rcases hrow with⟨rfl,h0⟩|⟨id,off,m,zs,rfl,g1,g2,g3⟩
    ·have:=congrArg List.length h0
     simp at this
     rw[this]at hlt
     exact absurd hlt (by simp)
    have hrow:dB C.st (.row 9 id off m) 9 (o.map AV.str):=.inr ⟨id,off,m,zs,rfl,g1,g2,g3⟩
    have hm:m=o.length:=by rw[←dB.AJ (σ:=B.st) (e:=9) (id:=id) g2 g3,List.length_map]
    subst hm
    have hz:zs[off+a]?=some (AV.str q):=by
     have h1:((zs.drop off).take o.length)[a]?=some (AV.str q):=by rw[←g3,List.getElem?_map,hq];rfl
     rw[List.getElem?_take_of_lt (by omega),List.getElem?_drop]at h1
     exact h1
    have hlk:Av.look C.st id (off+a) []=some (.str q):=by
     unfold Av.look
     rw[g1]
     simp only[hz,Option.bind_some]
     rfl
    have hlv:live C.st id:=by rw[ax g1];trivial
    have hf:((a:Int)==(o.length:Int))=false:=by rw[beq_eq_false_iff_ne];omega
    simp only[go_sem,simprocAttr,h3,h6,h9,hlk,hlv,hf,hlt,wZ]
    refine⟨.of (by kernel_rfl),λhnq=>?_,λheq=>?_⟩
    ·have hne: ¬(o.drop a).head?=some p.name:=by rw[hdr,hq];intro e;cases e;simp at hnq
     simp only[go_sem,simprocAttr,h3,h6,h9,hok,hun,hrow.N3,hrow.lr ht,hle,List.length_map,q1,q2,q3,q4]
     refine⟨.of (by kernel_rfl),Nat.zero_le _,bN.wo (σ:=C.st) (by simp only[go_sem,simprocAttr]) 1048576 (by kernel_rfl) (.inl ⟨rfl,rfl⟩) hc1.st.read (by simp;omega) λv1 σ1 ha1=>?_⟩
     have q5:=ha1.row.st.ok
     have q6:=ha1.row.st.un
     simp only[go_sem,simprocAttr,h3,h6,h9,hok,hun,q1,q2,q3,q4,q5,q6]
     refine bN.wo (σ:=σ1) (by simp only[go_sem,simprocAttr]) 1048576 (by kernel_rfl) ha1.row (.lit _ _ _) (by simp;omega) λv2 σ2 ha2=>?_
     have q7:=ha2.row.st.ok
     have q8:=ha2.row.st.un
     have hk:dB σ2 (rF a o.length (.row 9 id off o.length)) 9 _:=hc2.ey λj hj=>by
      rw[mQ]at hj
      have hj1:=hrow.lt j hj
      have hj2:j∉bf v1:=λh=>by
       rcases ha1.bf j h with h|h
       ·simp[bf]at h
       ·omega
      rw[ha2.fr.old j (Nat.lt_of_lt_of_le hj1 ha1.fr.len) hj2,ha1.fr.old j hj1 (by simp[bf])]
     simp only[go_sem,simprocAttr,h3,h6,h9,hok,hun,q1,q2,q3,q4,q5,q6,q7,q8]
     refine bN.wo (σ:=σ2) (by simp only[go_sem,simprocAttr]) 1048576 (by kernel_rfl) ha2.row hk.st.read (by simp;omega) λv3 σ3 ha3=>?_
     have q9:=ha3.row.st.ok
     have q10:=ha3.row.st.un
     simp only[go_sem,simprocAttr,h3,h6,h9,hok,hun,q1,q2,q3,q4,q5,q6,q7,q8,q9,q10]
     refine⟨hc,_,rfl,ah hc (by rw[ar];omega),?_⟩
     have hx:Ext σ C.st:=by rw[hst];exact hb'.ext
     have hfin:=(((ew.nil hx 9).app ha1).app ha2).app ha3
     rw[lz hp,←hoo,kH,(fG hI hJ).1,(fG hI hJ).2,if_neg hne]
     have he:([]++(((o.map AV.str).drop 0).take (a-0)))++[AV.str p.name]++(((o.map AV.str).drop a).take (o.length-a))=(o.take a++p.name::o.drop a).map AV.str:=by
      rw[List.take_of_length_le (l:=(o.map AV.str).drop a) (by simp)]
      simp[List.map_take,List.map_drop]
     rw[←he]
     exact hfin
    ·have hqe:q=p.name:=by simpa using heq
     refine⟨hc,_,rfl,ah hc (by rw[ar];omega),?_⟩
     rw[lz hp,←hoo,kH,(fG hI hJ).2,if_pos (by rw[hdr,hq,hqe]),hst]
     exact hb'
   ·have hal:a=o.length:=by omega
    have hlen2:lV v= .int .i64 o.length:=hlen
    have hf:((a:Int)==(o.length:Int))=true:=by rw[beq_iff_eq];omega
    have hne: ¬(o.drop a).head?=some p.name:=by rw[hdr,List.getElem?_eq_none (by omega)];simp
    simp only[go_sem,simprocAttr,h3,h6,h9,hok,hun,hlen2,hlc,hf,sa,hrow.N3,hrow.lr ht,hle,List.length_map,q1,q2,q3,q4]
    refine⟨.of (by kernel_rfl),?_⟩
    refine⟨.of (by kernel_rfl),Nat.zero_le _,bN.wo (σ:=C.st) (by simp only[go_sem,simprocAttr]) 1048576 (by kernel_rfl) (.inl ⟨rfl,rfl⟩) hc1.st.read (by simp;omega) λv1 σ1 ha1=>?_⟩
    have q5:=ha1.row.st.ok
    have q6:=ha1.row.st.un
    simp only[go_sem,simprocAttr,h3,h6,h9,hok,hun,q1,q2,q3,q4,q5,q6]
    refine bN.wo (σ:=σ1) (by simp only[go_sem,simprocAttr]) 1048576 (by kernel_rfl) ha1.row (.lit _ _ _) (by simp;omega) λv2 σ2 ha2=>?_
    have q7:=ha2.row.st.ok
    have q8:=ha2.row.st.un
    have hk:dB σ2 (rF a o.length v) 9 _:=hc2.ey λj hj=>by
     rw[mQ]at hj
     have hj1:=hrow.lt j hj
     have hj2:j∉bf v1:=λh=>by
      rcases ha1.bf j h with h|h
      ·simp[bf]at h
      ·omega
     rw[ha2.fr.old j (Nat.lt_of_lt_of_le hj1 ha1.fr.len) hj2,ha1.fr.old j hj1 (by simp[bf])]
    simp only[go_sem,simprocAttr,h3,h6,h9,hok,hun,q1,q2,q3,q4,q5,q6,q7,q8]
    refine bN.wo (σ:=σ2) (by simp only[go_sem,simprocAttr]) 1048576 (by kernel_rfl) ha2.row hk.st.read (by simp;omega) λv3 σ3 ha3=>?_
    have q9:=ha3.row.st.ok
    have q10:=ha3.row.st.un
    simp only[go_sem,simprocAttr,h3,h6,h9,hok,hun,q1,q2,q3,q4,q5,q6,q7,q8,q9,q10]
    refine⟨hc,_,rfl,ah hc (by rw[ar];omega),?_⟩
    have hx:Ext σ C.st:=by rw[hst];exact hb'.ext
    have hfin:=(((ew.nil hx 9).app ha1).app ha2).app ha3
    rw[lz hp,←hoo,kH,(fG hI hJ).1,(fG hI hJ).2,if_neg hne]
    have he:([]++(((o.map AV.str).drop 0).take (a-0)))++[AV.str p.name]++(((o.map AV.str).drop a).take (o.length-a))=(o.take a++p.name::o.drop a).map AV.str:=by
     rw[List.take_of_length_le (l:=(o.map AV.str).drop a) (by simp)]
     simp[List.map_take,List.map_drop]
    rw[←he]
    exact hfin
  ·rw[List.take_of_length_le hc]at hb
   exact⟨_,rfl,hb⟩
 simp only[go_sem,simprocAttr,h3,hb.iI.ok,hb.iI.un]
 exact en.I5 (hb.iI) (.inl rfl) (by simp only[go_sem,simprocAttr])
end Go.Proofs.Tryz
end
section
namespace Go.Av
open Go.Proofs.Tryz
def pB (most:Nat):List Pkg→Nat→Nat→Bool
 |[],_,_=>true
 |p::r,n,run=>if r.head?.map (·.name)=some p.name then pB most r n (run+1)else if most<n*(run+2)then false else pB most r (n*(run+2)) 0
end Go.Av
namespace Go.Proofs.Tryz
open Go Go.Av
set_option maxRecDepth 10000
variable {W0 :World}
theorem IU (l:List Pkg)(hl:l.length≤1024)(m:Nat)(hm:m≤1048576):ag prog W0 33 [aU l,.int .i64 m] (.bool (pB m l 1 0)):=by
 refine aj [4] [] func33 rfl rfl ntmps33 rfl rfl (.bool _) λhs σ=>?_
 simp only[go_sem,simprocAttr,aU,List.length_map]
 refine af.upto [0,1,9] (.of (by kernel_rfl)) l.length (λi A=>∃ n run:Nat,A.env 10= .int .i64 i∧A.env 5= .int .i64 n∧A.env 6= .int .i64 run∧A.st=σ∧pB m (l.drop i) n run=pB m l 1 0∧n≤m+1∧run≤i) 0 (Nat.zero_le _) ?_ λi B hi ⟨n,run,h10,h5,h6,hst,hI,hn,hr⟩=>?_
 ·simp only[go_sem,simprocAttr]
  exact⟨1,0,by simp⟩
 simp only[go_sem,simprocAttr,h10,h5,h6,List.length_map]
 refine⟨λhc=>?_,λhc=>?_⟩
 ·obtain⟨p,hp⟩:=get_some hc
  have hd:l.drop i=p::l.drop (i+1):=by
   rw[←List.getElem_cons_drop hc,(List.getElem?_eq_some_iff.1 hp).2]
  have hmul:n*(run+2)≤1048577*1026:=Nat.mul_le_mul (by omega) (by omega)
  have hw1:IntKind.i64.wrap ((run:Int)+1)=((run+1:Nat):Int):=by rw[aE (by omega)];rfl
  have hw2:IntKind.i64.wrap (((run+1:Nat):Int)+1)=((run+2:Nat):Int):=by rw[aE (by omega)];omega
  have hw3:IntKind.i64.wrap ((n:Int)*((run+2:Nat):Int))=((n*(run+2):Nat):Int):=by rw[←Int.natCast_mul,aE (by omega)]
  have hw4:IntKind.i64.wrap ((i:Int)+1)=((i+1:Nat):Int):=by rw[aE (by omega)];rfl
  rw[hd,pB,List.head?_drop]at hI
  by_cases hlt:i+1<l.length
  ·obtain⟨q,hq⟩:=get_some hlt
   have hf:((i+1:Nat):Int)≠(l.length:Int):=by omega
   have hf2:(((i+1:Nat):Int)==(l.length:Int))=false:=by rw[beq_eq_false_iff_ne];exact hf
   simp only[go_sem,simprocAttr,h10,h5,h6,hw1,hw2,hw3,hw4,hf2,hst,av,aw hp,aw hq,hc,hlt]
   rw[hq,Option.map_some]at hI
   refine⟨.of (by kernel_rfl),λhne=>⟨λhm1=>ak ?_,λhm1=>⟨_,0,rfl,rfl,?_,by omega,Nat.zero_le _⟩⟩,λhe=>⟨n,run+1,rfl,rfl,?_,hn,by omega⟩⟩
   ·rw[←hI,if_neg (λe=>hne (Option.some.inj e)),if_pos hm1]
   ·rw[←hI,if_neg (λe=>hne (Option.some.inj e)),if_neg (by omega)]
   ·rw[←hI,if_pos (by rw[he])]
  ·have hf:((i+1:Nat):Int)=(l.length:Int):=by omega
   have hf2:(((i+1:Nat):Int)==(l.length:Int))=true:=by rw[beq_iff_eq];exact hf
   simp only[go_sem,simprocAttr,h10,h5,h6,hw1,hw2,hw3,hw4,hf2,hst,av,aw hp,sa]
   rw[List.getElem?_eq_none (by omega),Option.map_none,if_neg (by simp)]at hI
   have hel:i+1=l.length:=by omega
   refine⟨.of (by kernel_rfl),λh=>absurd hel h,λh=>absurd hel h,λh=>absurd hel h,λh=>absurd hel h,λh=>absurd hel h,λhm1=>ak ?_,λhm1=>⟨hc,_,0,rfl,rfl,?_,by omega,Nat.zero_le _⟩⟩
   ·rw[←hI,if_pos hm1]
   ·rw[←hI,if_neg (by omega)]
 ·rw[List.drop_of_length_le hc]at hI
  exact⟨ak (by rw[←hI];rfl),by rw[hst];exact Ext.refl _⟩
end Go.Proofs.Tryz
end
section
namespace Go.Av
open Go.Proofs.Tryz
def mq (s:List aC)(p:Pkg):Bool:=match ec s p.name with
 |none=>true
 |some x=>!bm x.pkg.ver p.ver
theorem Hm (repo:List Pkg)(s:List aC):fy repo s=s.map (·.pkg)++repo.filter (mq s):=rfl
theorem ux {l:List Pkg}(h:bk l=0):l.length≤24:=by
 unfold bk at h
 split at h
 ·cases h
 ·omega
theorem qT {s:List aC}(h:bV s=0):s.length≤10:=by
 unfold bV at h
 split at h
 ·cases h
 ·omega
end Go.Av
namespace Go.Proofs.Tryz
open Go Go.Av
set_option maxRecDepth 10000
variable {W0 :World}
theorem Bx (s:List aC)(n:List UInt8):(gy (λx:aC=>x.pkg.name==n) s= -1∧ec s n=none)∨ ∃k x,s[k]?=some x∧ec s n=some x∧gy (λx:aC=>x.pkg.name==n) s=(k:Nat):=by
 rcases k8 (λx:aC=>x.pkg.name==n) s with⟨h1,h2⟩|⟨k,p,h1,h2,h3,h4⟩
 ·exact .inl ⟨h1,List.find?_eq_none.2 λx hx=>by simpa using h2 x hx⟩
 ·exact .inr ⟨k,p,h1,pC h1 h2 h3,h4⟩
theorem IJ (repo:List Pkg)(s:List aC):ag prog W0 32 [aU repo,aY s] (.tup [aU (gp repo s).1,.int .i64 (gp repo s).2]):=by
 refine aj [4,5] [10,12] func32 rfl rfl ntmps32 rfl rfl (.xr (kh _) (.int _ _)) λhs σ=>?_
 simp only[go_sem,simprocAttr]
 refine al.fn (Dr repo) ?_
 simp only[go_sem,simprocAttr]
 refine⟨λhc=>?_,λhc=>?_⟩
 ·have:gp repo s=([],bk repo):=by unfold gp;rw[if_pos hc]
  rw[this]
  exact iW (.sub (.ay _)) (.refl _)
 refine al.fn (BE s) ?_
 simp only[go_sem,simprocAttr]
 refine⟨λhc2=>?_,λhc2=>?_⟩
 ·have:gp repo s=([],bV s):=by unfold gp;rw[if_neg (by simp[hc]),if_pos hc2]
  rw[this]
  exact iW (.sub (.ay _)) (.refl _)
 have h24:=ux hc
 have h10:=qT hc2
 simp only[go_sem,simprocAttr,aY,List.length_map]
 refine af.at [0,1,24,25] (.of (by kernel_rfl)) (λA=>∃ v,A.env 8=v∧aR σ A.st v 54 ((s.map (·.pkg)).map av)) ?_ λB ⟨v,h3,hb⟩=>?_
 ·refine af.upto [0,1,24,25] (.of (by kernel_rfl)) s.length (λi A=>∃ v,A.env 8=v∧A.env 26= .int .i64 i∧aR σ A.st v 54 (((s.take i).map (·.pkg)).map av)) 0 (Nat.zero_le _) ?_ λi B hi ⟨v,h3,h8,hb⟩=>?_
  ·simp only[go_sem,simprocAttr]
   exact⟨_,rfl,aR.nil (.refl _) _⟩
  simp only[go_sem,simprocAttr,h3,h8,hb.ok,hb.un,List.length_map]
  refine⟨λhlt=>⟨hlt,?_⟩,λhlt=>?_⟩
  ·obtain⟨x,hx⟩:=get_some hlt
   simp only[aw hx]
   have hb1:=hb.more [none]
   simp only[go_sem,simprocAttr,bC,av,h3,h8,hb.ok,hb.un]
   refine bN.own 733007751829 (by kernel_rfl) hb1.bld (.lit _ _ _) (by simp;omega) λv' σ' ha'=>?_
   have hb':=hb1.app ha'
   simp only[go_sem,simprocAttr,h3,h8,hb.ok,hb.un,hb'.ok,hb'.un]
   refine⟨hlt,_,rfl,ah hlt (by rw[ar];omega),?_⟩
   rw[ai hx,List.map_append,List.map_append]
   exact hb'
  ·rw[List.take_of_length_le hlt]at hb
   exact⟨_,rfl,hb⟩
 have hfind: ∀n,ag prog W0 67 [.sl 56 (s.map bC),.str n] (.int .i64 (gy (λx:aC=>x.pkg.name==n) s)):=λn=>by
  have:=Gd (W0:=W0) s n
  unfold aY at this
  exact this
 simp only[go_sem,simprocAttr,h3,hb.ok,hb.un,aU,List.length_map]
 refine af.at [1,36,37] (.of (by kernel_rfl)) (λA=>∃ v,A.env 8=v∧aR σ A.st v 54 ((fy repo s).map av)) ?_ λB2 ⟨v2,h4,hb2⟩=>?_
 ·refine af.upto [1,36,37] (.of (by kernel_rfl)) repo.length (λi A=>∃ v,A.env 8=v∧A.env 38= .int .i64 i∧aR σ A.st v 54 ((s.map (·.pkg)++(repo.take i).filter (mq s)).map av)) 0 (Nat.zero_le _) ?_ λi B2 hi ⟨v2,h4,h38,hb2⟩=>?_
  ·simp only[go_sem,simprocAttr,h3]
   exact⟨_,rfl,by simpa using hb⟩
  simp only[go_sem,simprocAttr,h4,h38,hb2.ok,hb2.un,List.length_map]
  refine⟨λhlt=>⟨hlt,?_⟩,λhlt=>?_⟩
  ·obtain⟨p,hp⟩:=get_some hlt
   have hlen:((repo.take i).filter (mq s)).length≤24:=Nat.le_trans (List.length_filter_le _ _) (by rw[List.length_take];omega)
   simp only[aw hp]
   have hb3:=hb2.more [none]
   simp only[go_sem,simprocAttr,av,h4,h38,hb2.ok,hb2.un]
   refine al.fn (hfind p.name) ?_
   have hgo: ∀b,mq s p=b→(repo.take (i+1)).filter (mq s)=(repo.take i).filter (mq s)++(if b=true then [p]else []):=λb hb=>by
    rw[ai hp,List.filter_append,List.filter_cons,hb,List.filter_nil]
   rcases Bx s p.name with⟨g1,g2⟩|⟨k,x,g1,g2,g3⟩
   ·have hj:mq s p=true:=by unfold mq;rw[g2]
    rw[g1]
    simp only[go_sem,simprocAttr,h4,h38,hb2.ok,hb2.un]
    refine⟨.of (by kernel_rfl),az.fnG (r:=.bool false) (λh=>(Bool.false_ne_true h).elim) ?_⟩
    simp only[go_sem,simprocAttr,h4,h38,hb2.ok,hb2.un]
    refine bN.own 733007751829 (by kernel_rfl) hb3.bld (.lit _ _ _) (by simp only[List.length_map,List.length_append,List.length_cons,List.length_nil];omega) λv' σ' ha'=>?_
    have hb':=hb3.app ha'
    simp only[go_sem,simprocAttr,h4,h38,hb2.ok,hb2.un,hb'.ok,hb'.un]
    refine⟨hlt,_,rfl,ah hlt (by rw[ar];omega),?_⟩
    rw[hgo true (by rw[hj]),if_pos rfl,←List.append_assoc,List.map_append]
    exact hb'
   ·rw[g3]
    have hkl:=(List.getElem?_eq_some_iff.1 g1).1
    have hk0:decide ((k:Int)<0)=false:=decide_eq_false (by omega)
    simp only[go_sem,simprocAttr,h4,h38,hb2.ok,hb2.un,hk0,aw g1,bC,av,List.length_map]
    refine⟨.of (by kernel_rfl),hkl,az.fnG (λ_=>lL x.pkg.ver p.ver) ?_⟩
    have hj:mq s p= !bm x.pkg.ver p.ver:=by unfold mq;rw[g2]
    simp only[go_sem,simprocAttr,h4,h38,hb2.ok,hb2.un]
    refine⟨λhv=>?_,λhv=>⟨hlt,_,rfl,ah hlt (by rw[ar];omega),?_⟩⟩
    ·refine bN.own 733007751829 (by kernel_rfl) hb3.bld (.lit _ _ _) (by simp only[List.length_map,List.length_append,List.length_cons,List.length_nil];omega) λv' σ' ha'=>?_
     have hb':=hb3.app ha'
     simp only[go_sem,simprocAttr,h4,h38,hb2.ok,hb2.un,hb'.ok,hb'.un]
     refine⟨hlt,_,rfl,ah hlt (by rw[ar];omega),?_⟩
     rw[hgo true (by rw[hj,hv];rfl),if_pos rfl,←List.append_assoc,List.map_append]
     exact hb'
    ·rw[hgo false (by rw[hj,hv];rfl),if_neg (by simp),List.append_nil]
     exact hb3
  ·rw[List.take_of_length_le hlt]at hb2
   exact⟨_,rfl,hb2⟩
 have hjl:(fy repo s).length≤1024:=by
  rw[Hm,List.length_append,List.length_map]
  have:=List.length_filter_le (mq s) repo
  omega
 have hlen:lV v2= .int .i64 (fy repo s).length:=by rw[hb2.len,List.length_map]
 have hlc:=λt=>hb2.fQ prog t
 simp only[go_sem,simprocAttr,h4,hb2.ok,hb2.un,hlen,hlc]
 refine az.fnG (λ_=>(C9 (fy repo s) hjl).cG (.cons hb2.cG .nil)) ?_
 simp only[go_sem,simprocAttr,h4,hb2.ok,hb2.un,hlen,hlc,List.length_map]
 have hnl:=D6 (fy repo s)
 refine⟨λhm=>⟨?_,hb2.ext⟩,λhm=>?_⟩
 ·have:gp repo s=([],12):=by
   unfold gp
   rw[if_neg (by simp[hc]),if_neg (by simp[hc2]),if_pos (by rw[←hnl];simp only[Bool.or_eq_true,decide_eq_true_eq]at hm;omega)]
  rw[this]
  exact iW (.sub (.ay _)) (.refl _)
 ·have:gp repo s=(cI (fy repo s),0):=by
   unfold gp
   rw[if_neg (by simp[hc]),if_neg (by simp[hc2]),if_neg (by rw[←hnl];simp only[Bool.or_eq_false_iff,decide_eq_false_iff_not]at hm;omega)]
  refine al.fn ((By (fy repo s) hjl).cG (.cons hb2.cG .nil)) ?_
  rw[this]
  simp only[go_sem,simprocAttr]
  exact⟨.refl _,hb2.ext⟩
def tP (repo:List Pkg)(s:List aC):List Pkg×Bool:=
 if iu 0 repo=true∧iu 0 (s.map (·.pkg))=true then((gp repo s).1,decide ((gp repo s).2=0)&&pB 700 (gp repo s).1 1 0)else([],false)
theorem Hw (repo:List Pkg)(s:List aC):(gp repo s).1.length≤24:=by
 unfold gp
 split
 ·simp
 split
 ·simp
 split
 ·simp
 ·rename_i h
  show(cI (fy repo s)).length≤24
  rw[(eD _).length_eq]
  omega
theorem Kb (repo:List Pkg)(s:List aC)(hp: ∀p∈repo,rJ p)(hsp: ∀x∈s,rJ x.pkg)(hsl:s.length≤733007751829):ag prog W0 9 [aU repo,aY s] (.tup [aU (tP repo s).1,.bool (tP repo s).2]):=by
 refine aj [4,5] [] func9 rfl rfl ntmps9 rfl rfl (.xr (kh _) (.bool _)) λhs σ=>?_
 simp only[go_sem,simprocAttr]
 refine al.fn (vX repo hp) ?_
 simp only[go_sem,simprocAttr]
 have hbp: ∀p∈s.map (·.pkg),rJ p:=λp hp2=>by
  obtain⟨x,hx,rfl⟩:=List.mem_map.1 hp2
  exact hsp x hx
 refine az.fnG (λ_=>GC s hsl) ?_
 simp only[go_sem,simprocAttr]
 refine az.fnG (λ_=>vX (s.map (·.pkg)) hbp) ?_
 simp only[go_sem,simprocAttr]
 refine⟨λhc=>?_,λhc=>?_⟩
 ·have:tP repo s=([],false):=by
   unfold tP
   rw[if_neg]
   rintro⟨h1,h2⟩
   simp[h1,h2]at hc
  rw[this]
  exact iW (.sub (.ay _)) (.refl _)
 have hl:iu 0 repo=true∧iu 0 (s.map (·.pkg))=true:=by
  simp only[Bool.or_eq_false_iff,Bool.not_eq_false']at hc
  exact hc
 refine al.fn (IJ repo s) ?_
 simp only[go_sem,simprocAttr]
 refine az.fnG (λ_=>IU (gp repo s).1 (by have:=Hw repo s;omega) 700 (by omega)) ?_
 simp only[go_sem,simprocAttr]
 have:tP repo s=((gp repo s).1,decide ((gp repo s).2=0)&&pB 700 (gp repo s).1 1 0):=by
  unfold tP
  rw[if_pos hl]
 rw[this]
 exact .refl _
end Go.Proofs.Tryz
end
