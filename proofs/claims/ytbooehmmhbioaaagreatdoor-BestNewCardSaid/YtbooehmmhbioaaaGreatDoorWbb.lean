/- Texts that the last one of this claim rests on: a layer over the guide's own conditions for code; contracts of the functions that the law reaches, one by one. No conditions beside those of the given rows. -/
import Derived.Test.YtbooehmmhbioaaaGreatDoorWai
import Derived.Test.YtbooehmmhbioaaaGreatDoorWal
import Derived.Test.YtbooehmmhbioaaaGreatDoorWat
import Derived.Test.YtbooehmmhbioaaaGreatDoorWax
import Derived.Test.YtbooehmmhbioaaaGreatDoorWaz
import Derived.Test.YtbooehmmhbioaaaGreatDoorWba
set_option linter.unusedSimpArgs false
set_option linter.unusedVariables false
section
namespace Go.Av
open Go
def Bg (σ:ab)(x:AV)(e:TypeId)(xs:List AV):Prop:=(x= .ay∧xs=[])∨ ∃id,x= .row e id 0 xs.length∧σ[id]?=some (some (.cells e xs))∧xs≠[]
theorem Bg.v {σ:ab}{x:AV}{e:TypeId}{xs:List AV}(h:Bg σ x e xs):eu σ x e xs:=by
 rcases h with h|⟨id,rfl,h,_⟩
 ·exact .inl h
 ·exact .inr ⟨id,0,_,xs,rfl,h,by omega,by simp⟩
theorem Bg.eC {st st':ab}{v:AV}{e:TypeId}{xs:List AV}(h:Bg st v e xs)(hk: ∀j∈bj v,st'[j]?=st[j]?):Bg st' v e xs:=by
 rcases h with h|⟨id,rfl,h,h1⟩
 ·exact .inl h
 ·exact .inr ⟨id,rfl,by rw[hk id (by simp[bj]),h],h1⟩
structure Ns (σ:ab)(x:AV)(e:TypeId)(zs:List AV)(v:AV)(σ':ab):Prop where
 row:Bg σ' v e zs
 fr:Fr (bj x) σ σ'
 bj: ∀j∈bj v,j∈bj x∨σ.length≤j
theorem bX.NU {P:Program}{A:aa}{σ:ab}{t u e:TypeId}{x y:AV}{xs ys:List AV}{dst:Option Nat}{k:aa→Prop}(hσ:A.st=σ)(N:Nat)(ho:tF P t u e N=true)(hb:eu σ x e xs)(hy:dN σ y e ys)(h0:ys≠[])(hN:xs.length+ys.length≤N)
  (hk: ∀v σ',Ns σ x e (xs++ys) v σ'→k ((A.put dst v).al σ')):bX P [t,u] [x,y] dst A k .mk:=by
 subst hσ
 have hkl:(bS x A.st).length=A.st.length:=by unfold bS;split<;>simp
 refine bX.row N ho hb.st hy hN (λhe=>absurd he h0) λhe=>hk _ _ ⟨.inr ⟨A.st.length,by rw[List.length_append],?_,by simp[h0]⟩,?_,λj hj=>?_⟩
 ·rw[←hkl,List.getElem?_append_right (Nat.le_refl _),Nat.sub_self]
  rfl
 ·refine Fr.app ?_ _
  unfold bS
  split
  ·exact(Fr.refl _ _).set (.inl (by simp[Go.Av.bj])) _
  ·exact .refl _ _
 ·simp[Go.Av.bj]at hj
  subst hj
  exact .inr (Nat.le_refl _)
open Go.Proofs.Tryz
theorem yn {all:List Pkg}: ∀{f i:Nat},i≤all.length→((c9 all f i).map List.length).sum≤all.length-i
 |0,i,_=>by simp[c9]
 |f+1,i,hi=>by
  rw[c9]
  split
  ·simp
  ·rename_i h
   obtain⟨p,hp⟩:=get_some (show i<all.length by omega)
   obtain⟨b1,b2⟩:=eN hp
   have ih:=yn (f:=f) b2
   rw[List.map_cons,List.sum_cons,List.length_range']
   omega
theorem xx {all:List Pkg}(s:List aL)(l:List aI)(hc:oq all):(aK all s l).map (·.2)=c9 all (all.length+1) 0:=by
 unfold aK
 rw[List.map_map,kP hc (by omega) (λj p q hj=>by omega)]
 rfl
theorem IB {l:List Nat}{n:Nat}(h: ∀i∈l,i<n):bJ l<2^n:=by
 induction l with
 |nil=>exact Nat.two_pow_pos n
 |cons a r ih=>rw[bJ];exact Nat.or_lt_two_pow (Nat.pow_lt_pow_right (by decide) (h a (by simp))) (ih λi hi=>h i (by simp[hi]))
theorem AR (all:List Pkg)(s:List aL)(l:List aI):(aK all s l).length≤all.length:=by
 unfold aK
 rw[List.length_map,←qa]
 exact wD all all.length
theorem GY {all:List Pkg}(s:List aL)(l:List aI)(hc:oq all)(D:Dat):gN D (aK all s l) 0 0+1≤2*2^all.length:=by
 have hg:=xx s l hc
 have h1:=BN D (gs:=aK all s l) 0 0 λg hgm=>BF (all:=all) (f:=all.length+1) (i:=0) g.2 (by rw[←hg];exact List.mem_map_of_mem hgm) (by omega)
 have h2:=xE (aK all s l)
 have h3:((aK all s l).map λg=>g.2.length).sum≤all.length:=by
  have:(aK all s l).map (λg=>g.2.length)=((aK all s l).map (·.2)).map List.length:=by rw[List.map_map];rfl
  rw[this,hg]
  exact yn (by omega)
 have h4:2^((aK all s l).map λg=>g.2.length).sum≤2^all.length:=Nat.pow_le_pow_right (by decide) h3
 omega
end Go.Av
namespace Go.Proofs.Tryz
open Go Go.Av
set_option maxRecDepth 10000
set_option maxHeartbeats 2000000
variable {W0 :World}
def gH (gs:List (Bool×List Nat)):AV:=.sl 37 (gs.map λg=>mL g.2)
def gD (gs:List (Bool×List Nat)):AV:=.sl 4 (gs.map λg=>.bool g.1)
def dA (all:List Pkg)(s:List aL)(l:List aI)(bud sp:Int)(dn:Bool)(v:AV):Option cY:=
 cr (bg all) (bc s) (br l) (gH (aK all s l)) (gD (aK all s l)) (dG all s l) (dT (s.map (gz all))) (.bool (ef l)) (.bool (ep all s l)) (.int .i64 bud) (.int .i64 sp) (.bool dn) v
theorem DB {all:List Pkg}{s:List aL}{l:List aI}(hn:(l.map (·.name)).Nodup)(bud:Int):vX all s l bud=dA all s l bud 0 false .ay:=by
 have e1:(nmB all all.length).map (λn=>mL (bf all λp=>p.name==n))=(aK all s l).map λg=>mL g.2:=by
  unfold aK
  rw[List.map_map,qa]
  refine List.map_congr_left λn _=>?_
  rw[vr]
  rfl
 have e2:(nmB all all.length).map (λn=>AV.bool (qD l s n))=(aK all s l).map λg=>.bool g.1:=by
  unfold aK
  rw[List.map_map,qa]
  refine List.map_congr_left λn _=>?_
  rw[HK hn]
  rfl
 have e3:(s.map λx=>bJ (bf all λp=>p.name==x.pkg.name))=s.map (gz all):=by
  refine List.map_congr_left λx _=>?_
  rw[vr]
  rfl
 unfold vX ei dA gH gD dG
 rw[e1,e2,e3,Ew]
def tD (b:Br):AV:=.agg 171 [.int .i64 (b.1:Nat),cc b.2.1,cc b.2.2]
structure dO (σ:ab)(id:Nat)(all:List Pkg)(s:List aL)(l:List aI)(bud:Int)(st:List Br)(os:List Nat)(sp:Nat)(v3 v12:AV)(τ:ab):Prop where
 todo:eu τ v3 171 (st.map tD)
 out:Bg τ v12 116 ((os.map λS=>(ja all s S (ef l),S)).map eP)
 obj:τ[id]?=some (dA all s l bud sp false v12)
 fr:Fr [id] σ τ
 f3: ∀j∈bj v3,σ.length≤j
 f12: ∀j∈bj v12,σ.length≤j
structure Kw (all:List Pkg)(s:List aL)(l:List aI)(bud:Int)(st:List Br)(os:List Nat)(sp:Nat):Prop where
 perm:(os++pX (dR all s l) (aK all s l) st).Perm (mG (dR all s l) (aK all s l) 0 0)
 cnt:sp+ku (dR all s l) (aK all s l) st=gN (dR all s l) (aK all s l) 0 0
 len:os.length≤sp
 bud:bud=0∨(sp:Int)≤bud
 ok: ∀b∈st,b.1≤(aK all s l).length∧b.2.1<2^all.length∧b.2.2<2^all.length
 oks: ∀S∈os,S<2^all.length
section
variable {σ τ:ab}{id:Nat}{all:List Pkg}{s:List aL}{l:List aI}{bud:Int}{st:List Br}{os:List Nat}{sp:Nat}{v3 v12:AV}
theorem dO.ne3 (h:dO σ id all s l bud st os sp v3 v12 τ):id∉bj v3:=by
 have:=h.obj
 unfold dA cr at this
 exact h.todo.ne this (by decide)
theorem dO.MU (h:dO σ id all s l bud st os sp v3 v12 τ):id∉bj v12:=by
 have:=h.obj
 unfold dA cr at this
 exact h.out.v.ne this (by decide)
theorem dO.more (h:dO σ id all s l bud st os sp v3 v12 τ)(J:ab):dO σ id all s l bud st os sp v3 v12 (τ++J):=
 ⟨h.todo.eC λj hj=>by rw[List.getElem?_append_left (h.todo.lt j hj)],h.out.eC λj hj=>by rw[List.getElem?_append_left (h.out.v.lt j hj)],by rw[List.getElem?_append_left (List.getElem?_eq_some_iff.1 h.obj).1,h.obj],h.fr.app _,h.f3,h.f12⟩
theorem dO.TV (h:dO σ id all s l bud st os sp v3 v12 τ)(sp':Nat):dO σ id all s l bud st os sp' v3 v12 (τ.set id (dA all s l bud sp' false v12)):=
 ⟨h.todo.eC λj hj=>by rw[List.getElem?_set_ne (λe=>h.ne3 (by rw[e];exact hj))],h.out.eC λj hj=>by rw[List.getElem?_set_ne (λe=>h.MU (by rw[e];exact hj))],List.getElem?_set_self (List.getElem?_eq_some_iff.1 h.obj).1,h.fr.set (.inl (by simp)) _,h.f3,h.f12⟩
theorem dO.cut {n:Nat}(h:dO σ id all s l bud st os sp v3 v12 τ)(hn:n≤st.length):dO σ id all s l bud (st.take n) os sp (tE 0 n v3) v12 τ:=
 ⟨by have:=h.todo.cut (a:=0) (b:=n) (Nat.zero_le _) (by rw[List.length_map];exact hn);rwa [List.drop_zero,Nat.sub_zero,←List.map_take]at this,h.out,h.obj,h.fr,λj hj=>h.f3 j (by rwa [vh]at hj),h.f12⟩
theorem dO.add {τ':ab}{v:AV}{S:Nat}(h:dO σ id all s l bud st os sp v3 v12 τ)(ha:Ns τ v12 116 ((os.map λS=>(ja all s S (ef l),S)).map eP++[eP (ja all s S (ef l),S)]) v τ'):dO σ id all s l bud st (os++[S]) sp v3 v (τ'.set id (dA all s l bud sp false v)):=by
 have hlen:=h.fr.len
 have hidl:=(List.getElem?_eq_some_iff.1 h.obj).1
 have hobj':=h.obj
 unfold dA cr at hobj'
 have hidv:id∉bj v:=λhj=>by
  rcases ha.bj id hj with h1|h1
  ·exact h.MU h1
  ·omega
 have hf: ∀j∈bj v3,τ'[j]?=τ[j]?:=λj hj=>ha.fr.old j (h.todo.lt j hj) λhj2=>by
  rcases h.out with⟨rfl,_⟩|⟨ido,rfl,ho,_⟩
  ·simp[bj]at hj2
  ·simp[bj]at hj2
   subst hj2
   exact h.todo.ne ho (by decide) hj
 refine⟨h.todo.eC λj hj=>?_,?_,List.getElem?_set_self (Nat.lt_of_lt_of_le hidl ha.fr.len),?_,h.f3,λj hj=>?_⟩
 ·rw[List.getElem?_set_ne (λe=>h.ne3 (by rw[e];exact hj)),hf j hj]
 ·rw[List.map_append,List.map_append]
  exact ha.row.eC λj hj=>by rw[List.getElem?_set_ne (λe=>hidv (by rw[e];exact hj))]
 ·refine Fr.set (id:=id) ⟨by have:=ha.fr.len;omega,λj hj hF=>?_⟩ (.inl (by simp)) _
  rw[ha.fr.old j (by omega) λhj2=>by have:=h.f12 j hj2;omega,h.fr.old j hj hF]
 ·rcases ha.bj j hj with h1|h1
  ·exact h.f12 j h1
  ·omega
theorem dO.push {τ':ab}{v:AV}{x:Br}(h:dO σ id all s l bud st os sp v3 v12 τ)(ha:Ns τ v3 171 (st.map tD++[tD x]) v τ'):dO σ id all s l bud (st++[x]) os sp v v12 τ':=by
 have hlen:=h.fr.len
 refine⟨by rw[List.map_append];exact ha.row.v,h.out.eC λj hj=>ha.fr.old j (h.out.v.lt j hj) λhj2=>?_,by rw[ha.fr.old id (List.getElem?_eq_some_iff.1 h.obj).1 h.ne3,h.obj],?_,λj hj=>?_,h.f12⟩
 ·rcases h.out with⟨rfl,_⟩|⟨ido,rfl,ho,_⟩
  ·simp[bj]at hj
  ·simp[bj]at hj
   subst hj
   exact h.todo.ne ho (by decide) hj2
 ·exact⟨by have:=ha.fr.len;omega,λj hj hF=>by rw[ha.fr.old j (by omega) λhj2=>by have:=h.f3 j hj2;omega,h.fr.old j hj hF]⟩
 ·rcases ha.bj j hj with h1|h1
  ·exact h.f3 j h1
  ·omega
end
theorem H0 (hW:qU W0)(σ:ab)(id:Nat)(all:List Pkg)(s:List aL)(l:List aI)(bud:Int)(hn:(l.map (·.name)).Nodup)(h0:bw all=0)(ho:all=cI all)(hmn: ∀p∈all,mH p)(Gs:s.length≤10)(hb0:0≤bud)(hbm:bud≤1000000000000)
  (hid:σ[id]?=some (dA all s l bud 0 false .ay)):
  aX prog W0 57 [.ptr 96 id 0 []] σ λr σ'=>Fr [id] σ σ'∧
   ((0<bud∧bud<gN (dR all s l) (aK all s l) 0 0∧r= .int .i64 11∧ ∃v,σ'[id]?=some (dA all s l bud bud false v))∨
    ((bud=0∨gN (dR all s l) (aK all s l) 0 0≤bud)∧r= .int .i64 0∧ ∃(v:AV) (o:List FB),σ'[id]?=some (dA all s l bud (gN (dR all s l) (aK all s l) 0 0) true v)∧eu σ' v 116 (o.map eP)∧(∀j∈bj v,σ.length≤j)∧o.Perm (wH all s l (ef l))∧o.Pairwise λx y=>ltB y x=false)):=by
 have hidl:=(List.getElem?_eq_some_iff.1 hid).1
 have h24:=dz h0
 have hcont:oq all:=yM (by rw[ho];exact mr (gu h0).2)
 have htot:=GY s l hcont (dR all s l)
 have h2n:2^all.length≤16777216:=Nat.le_trans (Nat.pow_le_pow_right (n:=2) (by decide) h24) (by decide)
 refine jb [.tmp 2] [5,8,5000010,3000069,2000072,4000011,2000140,2000003] func57 rfl rfl ntmps57 rfl rfl λhs=>?_
 have hid':=hid
 simp only[go_sem,simprocAttr]
 refine af.at [0] (.of (by kernel_rfl)) (λA=>∃ os sp v3 v12,dO σ id all s l bud [] os sp v3 v12 A.st∧Kw all s l bud [] os sp) ?_ λB ⟨os,sp,v3,v12,hI,hC⟩=>?_
 ·refine af.cD [0] (.of (by kernel_rfl)) (λk A=>∃ st os sp v3 v12,A.env 3=v3∧k=ku (dR all s l) (aK all s l) st∧dO σ id all s l bud st os sp v3 v12 A.st∧Kw all s l bud st os sp) _ ⟨[(0,0,0)],[],0,_,.ay,rfl,rfl,?_⟩ λk B ⟨st,os,sp,v3,v12,h3,hk,hI,hC⟩=>?_
  ·simp only[go_sem,simprocAttr]
   have hx0:Ext σ (σ++[some (.cells 171 [tD (0,0,0)])]):=Ext.app (.refl _) _
   obtain⟨r1,r2⟩:=DJ (D:=dR all s l) (gs:=aK all s l)
   refine⟨⟨.inr ⟨σ.length,0,1,[tD (0,0,0)],rfl,?_,by simp,by simp⟩,.inl ⟨rfl,rfl⟩,?_,Fr.ext hx0,λj hj=>?_,λj hj=>by simp[bj]at hj⟩,?_,?_,by simp,?_,λb hb=>?_,λS hS=>by cases hS⟩
   ·rw[List.getElem?_append_right (Nat.le_refl _),Nat.sub_self];rfl
   ·rw[List.getElem?_append_left hidl,hid];rfl
   ·simp[bj]at hj;omega
   ·rw[r1];exact .refl _
   ·rw[r2];omega
   ·omega
   ·simp at hb
    subst hb
    exact⟨Nat.zero_le _,Nat.two_pow_pos _,Nat.two_pow_pos _⟩
  have hob:=hI.obj
  unfold dA cr gH gD dG at hob
  have hspt:sp≤gN (dR all s l) (aK all s l) 0 0:=by have:=hC.cnt;omega
  have hw:IntKind.i64.wrap ((sp:Int)+1)=((sp+1:Nat):Int):=by rw[aF (by omega)];omega
  obtain⟨τ,hτ⟩: ∃τ,τ=B.st.set id (dA all s l bud (sp+1:Nat) false v12):=⟨_,rfl⟩
  have hIτ:=hI.TV (sp+1)
  rw[←hτ]at hIτ
  unfold dA cr gH gD dG at hτ
  simp only[go_sem,simprocAttr,h3,hI.todo.st.ok,hI.todo.st.un,hI.todo.st.len,hI.todo.st.gA,ar hob,az hob,aP hob,hw,List.length_map]
  refine⟨λhpos=>⟨.of (by kernel_rfl),λhbs=>cO.ret ?_,λhbs=>?_⟩,λhneg=>?_⟩
  ·rw[Bool.and_eq_true,decide_eq_true_eq,beq_iff_eq]at hbs
   have hrl:=sf (D:=dR all s l) (gs:=aK all s l) st
   have hcnt:=hC.cnt
   have hobj:=hI.obj
   rw[hbs.2]at hobj
   simp only[go_sem,simprocAttr]
   exact⟨_,.refl _,hI.fr.len,hI.fr,.inl ⟨hbs.1,by omega,rfl,v12,hobj⟩⟩
  ·rw[←hτ]
   clear hτ
   obtain⟨st',b,rfl⟩: ∃st' b,st=st'++[b]:=by
    have hne:st≠[]:=λe=>by subst e;simp at hpos
    exact⟨st.dropLast,st.getLast hne,(List.dropLast_concat_getLast hne).symm⟩
   have hrl:=sf (D:=dR all s l) (gs:=aK all s l) (st'++[b])
   have hcnt:=hC.cnt
   have hstl:(st'++[b]).length=st'.length+1:=by simp
   have hwl:IntKind.i64.wrap (((st'.length+1:Nat):Int)-1)=(st'.length:Int):=by rw[aF (by omega)];omega
   have hcut:=(hIτ.cut (n:=st'.length) (by omega)).more [none]
   rw[List.take_left' rfl]at hcut
   obtain⟨hb1,hb2,hb3⟩:=hC.ok b (by simp)
   have hidx: ∃idt off zs,v3= .row 171 idt off (st'.length+1)∧τ[idt]?=some (some (.cells 171 zs))∧zs[off+st'.length]?=some (tD b):=by
    rcases hIτ.todo with⟨_,hnil⟩|⟨idt,off,m,zs,rfl,hz,hle,hx⟩
    ·simp at hnil
    have hml:m=st'.length+1:=by
     have:=congrArg List.length hx
     rw[List.length_map,hstl,List.length_take,List.length_drop]at this
     omega
    subst hml
    refine⟨idt,off,zs,rfl,hz,?_⟩
    have h1:((st'++[b]).map tD)[st'.length]?=some (tD b):=by simp
    rw[hx,List.getElem?_take,if_pos (by omega),List.getElem?_drop]at h1
    exact h1
   obtain⟨idt,off,zs,rfl,hzτ,hzi⟩:=hidx
   have hobu:=hcut.obj
   have hbud1:bud=0∨((sp+1:Nat):Int)≤bud:=by
    rcases hC.bud with h|h
    ·exact .inl h
    ·by_cases hz:bud=0
     ·exact .inl hz
     ·right
      have h1:decide (0<bud)=true:=decide_eq_true (by omega)
      rw[h1,Bool.true_and]at hbs
      have:(sp:Int)≠bud:=by simpa using hbs
      omega
   unfold dA cr gH gD dG at hobu
   simp only[go_sem,simprocAttr,hwl,ar hzτ,az hzτ,Int.toNat_natCast,hzi,tD,cc,ar hobu,az hobu,List.length_map]
   refine⟨by omega,by omega,.of (by kernel_rfl),λhleaf=>?_,λhnode=>?_⟩
   ·have hbud':bud=0∨((sp+1:Nat):Int)≤bud:=hbud1
    have hleaf':b.1=(aK all s l).length:=by simpa using hleaf
    have hhl:=zO (W0:=W0) hW _ id all s l b.2.1 h24 hb2 hcut.obj
    refine an.reads (by simp only[go_sem,simprocAttr]) hhl ?_
    simp only[go_sem,simprocAttr]
    have hcut':dO σ id all s l bud st' os (sp+1) (.row 171 idt off st'.length) v12 (τ++[none]):=by simpa[tE]using hcut
    have hleafR:=G4 (D:=dR all s l) (gs:=aK all s l) (st:=st') hleaf'
    refine cg.at [0,3] (by kernel_rfl) (λA=>∃ v,dO σ id all s l bud st' (if eG all b.2.1=true then os++[b.2.1]else os) (sp+1) (.row 171 idt off st'.length) v A.st) (λhh=>?_) (λhh=>?_) λB1 ⟨v,hI1⟩=>?_
    ·rw[if_pos hh]
     have hco:=Gr (W0:=W0) hW _ id all s l b.2.1 (ef l) h24 (λp hp=>by have:=(ib (dC h0 hp)).rcm.1;omega) Gs hb2 hcut.obj
     simp only[go_sem,simprocAttr,cc,ar hobu,az hobu]
     refine⟨.of (by kernel_rfl),aA.st hco ?_⟩
     obtain⟨c,hc⟩: ∃c,c=ja all s b.2.1 (ef l):=⟨_,rfl⟩
     rw[←hc]
     have hco1: ∀g,okM g (dY c)=True:=λg=>bT trivial
     have hco2:unm (dY c)=dY c:=rfl
     have hco3:bo prog 39 (dY c)=true:=by kernel_rfl
     have hosl:os.length≤sp:=hC.len
     simp only[go_sem,simprocAttr,ar hobu,az hobu,hco1,hco2,hco3,hcut'.out.v.st.ok,hcut'.out.v.st.un]
     refine bX.NU (σ:=τ++[none]) (by simp only[go_sem,simprocAttr]) 1000000000 (by kernel_rfl) hcut'.out.v (.lit _ _ _) (by simp) (by simp;omega) λv τ2 ha=>?_
     have hadd:=hcut'.add (by rw[hc]at ha;exact ha)
     have hob2:τ2[id]?=some (dA all s l bud (sp+1:Nat) false v12):=by rw[ha.fr.old id (List.getElem?_eq_some_iff.1 hcut'.obj).1 hcut'.MU,hcut'.obj]
     unfold dA cr gH gD dG at hob2
     simp only[go_sem,simprocAttr,ar hob2,az hob2,aP hob2,ha.row.v.st.ok,ha.row.v.st.un,ha.row.v.st.fits]
     exact⟨v,hadd⟩
    ·rw[if_neg (by rw[hh];decide)]
     simp only[go_sem,simprocAttr]
     exact⟨v12,hcut'⟩
    ·simp only[go_sem,simprocAttr]
     have hperm:=hC.perm
     rw[hleafR.1]at hperm
     refine .here (ku (dR all s l) (aK all s l) st') (by rw[hk,hleafR.2];omega) ⟨st',_,sp+1,_,v,rfl,rfl,hI1,?_,by have:=hleafR.2;omega,?_,hbud',λx hx=>hC.ok x (by simp[hx]),?_⟩
     ·by_cases hh:eG all b.2.1=true
      ·rw[if_pos hh]
       rw[if_pos (show(dR all s l).hl b.2.1=true from hh)]at hperm
       refine List.Perm.trans ?_ hperm
       rw[List.append_assoc]
       exact List.Perm.append_left _ List.perm_append_comm
      ·rw[if_neg hh]
       rw[if_neg (show ¬(dR all s l).hl b.2.1=true from hh),List.append_nil]at hperm
       exact hperm
     ·have:=hC.len
      split
      ·simp;omega
      ·omega
     ·intro S hS
      split at hS
      ·rcases List.mem_append.1 hS with h|h
       ·exact hC.oks S h
       ·simp at h;rw[h];exact hb2
      ·exact hC.oks S hS
   ·have hblt:b.1<(aK all s l).length:=by
     have:b.1≠(aK all s l).length:=by simpa using hnode
     omega
    obtain⟨g,hg⟩:=get_some hblt
    have hnodeR:=GF (D:=dR all s l) (st:=st') hg
    have hatw:atV ((aK all s l).map λg=>AV.bool g.1) (b.1:Int)= .bool g.1:=av hg
    have hatn:atV ((aK all s l).map λg=>mL g.2) (b.1:Int)= .sl 3 (g.2.map λk=>.int .i64 (k:Nat)):=av hg
    have hcut':dO σ id all s l bud st' os (sp+1) (.row 171 idt off st'.length) v12 (τ++[none]):=by simpa[tE]using hcut
    obtain⟨k0,hk0⟩: ∃k0:List Br,k0=if g.1=true then [(b.1+1,b.2.1,b.2.2)]else []:=⟨_,rfl⟩
    have hgl:(aK all s l).length≤24:=by
     have h1:=AR all s l
     omega
    have hwb:IntKind.i64.wrap ((b.1:Int)+1)=((b.1+1:Nat):Int):=by rw[aF (by omega)];omega
    have hstl2:st'.length≤100000000:=by omega
    simp only[go_sem,simprocAttr,hatw,ar hobu,az hobu,List.length_map]
    refine⟨.of (by kernel_rfl),hblt,cg.at [0,5] (by kernel_rfl) (λA=>∃ v3,A.env 3=v3∧dO σ id all s l bud (st'++k0) os (sp+1) v3 v12 A.st) (λhh=>?_) (λhh=>?_) λB1 ⟨v3,h3',hI1⟩=>?_⟩
    ·rw[if_pos hh]at hk0
     simp only[go_sem,simprocAttr,hwb]
     refine bX.NU (σ:=τ++[none]) (by simp only[go_sem,simprocAttr]) 1000000000 (by kernel_rfl) hcut'.todo (.lit _ _ _) (by simp) (by simp;omega) λv τ2 ha=>?_
     have hpu:=hcut'.push (x:=(b.1+1,b.2.1,b.2.2)) ha
     simp only[go_sem,simprocAttr,ha.row.v.st.ok,ha.row.v.st.un]
     rw[hk0]
     exact⟨v,rfl,hpu⟩
    ·rw[if_neg (by rw[hh];decide)]at hk0
     simp only[go_sem,simprocAttr]
     rw[hk0,List.append_nil]
     exact⟨_,rfl,hcut'⟩
    ·have hob1:=hI1.obj
     unfold dA cr gH gD dG at hob1
     have hg2: ∃n,g.2=placesOf all n:=by
      have hgm:=List.mem_of_getElem? hg
      unfold aK at hgm
      obtain⟨n,_,rfl⟩:=List.mem_map.1 hgm
      exact⟨n,rfl⟩
     obtain⟨n,hgn⟩:=hg2
     have hg24: ∀i∈g.2,i<all.length:=λi hi=>by
      rw[hgn]at hi
      obtain⟨q,hq,_⟩:=bn.1 hi
      exact(List.getElem?_eq_some_iff.1 hq).1
     have hg2l:g.2.length≤24:=by
      rw[hgn]
      unfold placesOf
      exact Nat.le_trans (List.length_filter_le _ _) (by rw[List.length_range];exact h24)
     have hk0l:k0.length≤1:=by rw[hk0];split<;>simp
     obtain⟨P,hP⟩: ∃P:Nat→Bool,P=λi=>(dR all s l).may i&& !b.2.2.testBit i:=⟨_,rfl⟩
     simp only[go_sem,simprocAttr,h3',ar hob1,az hob1,hatn,List.length_map]
     refine⟨.of (by kernel_rfl),hblt,?_⟩
     refine af.ats [0,5,101,102] (.of (by kernel_rfl)) (λA=>∃ v3,A.env 3=v3∧dO σ id all s l bud (st'++(k0++(g.2.filter P).map (zC (dR all s l) b))) os (sp+1) v3 v12 A.st) ?_ λB2 ⟨v3,h3',hI2⟩=>?_
     ·refine af.upto [0,5,101,102] (.of (by kernel_rfl)) g.2.length (λi A=>A.env 103= .int .i64 i∧ ∃v3,A.env 3=v3∧dO σ id all s l bud (st'++(k0++((g.2.take i).filter P).map (zC (dR all s l) b))) os (sp+1) v3 v12 A.st) 0 (Nat.zero_le _) ?_ λi B2 hi ⟨h103,v3,h3',hI2⟩=>?_
      ·simp only[go_sem,simprocAttr,h3']
       exact⟨_,rfl,by simpa using hI1⟩
      have hob2:=hI2.obj
      unfold dA cr gH gD dG at hob2
      simp only[go_sem,simprocAttr,h103,h3']
      refine⟨λhlt=>?_,λhge=>?_⟩
      ·obtain⟨y,hy⟩:=get_some hlt
       have hyn:=hg24 y (List.mem_of_getElem? hy)
       obtain⟨p,hp⟩:=get_some hyn
       have hatV:atV (g.2.map λk=>AV.int .i64 (k:Nat)) (i:Int)= .int .i64 (y:Nat):=av hy
       have hat:=qo (s:=s) (l:=l) hp
       have hlen:((List.range all.length).map λi=>gh all s l i ((all[i]?).getD wF)).length=all.length:=by rw[List.length_map,List.length_range]
       have h232:b.2.2<4294967296:=by omega
       have hpw:2^y<4294967296:=lf (by omega)
       have hand:=fI b.2.2 (2^y) h232 hpw
       have hor1:=gS b.2.1 (2^y) (by omega) hpw
       have hcl:gb all y<4294967296:=kQ λz hz=>by have:=(List.mem_filter.1 hz).1;rw[List.mem_range]at this;omega
       have hor2:=gS b.2.2 (gb all y) h232 hcl
       have hz:(((b.2.2 &&& 2^y:Nat):Int)==0)= !b.2.2.testBit y:=by
        rw[←zu,Bool.eq_iff_iff];simp
       have hPy:P y=(lV l s p&& !b.2.2.testBit y):=by
        rw[hP]
        show(yW all s l y&&_)=_
        unfold yW
        rw[hp]
        simp only[NF hn]
       have hfl:(g.2.take (i+1)).filter P=(g.2.take i).filter P++if P y=true then [y]else []:=by
        rw[aj hy,List.filter_append,List.filter_cons,List.filter_nil]
       have hkl:(st'++(k0++((g.2.take i).filter P).map (zC (dR all s l) b))).length≤100000100:=by
        have:=List.length_filter_le P (g.2.take i)
        simp only[List.length_append,List.length_map,List.length_take]at *
        omega
       simp only[go_sem,simprocAttr,h103,h3',hatV,ar hob2,az hob2,hat,hlen,List.length_map]
       refine⟨hlt,hyn,.of (by kernel_rfl),aA.fnG (λ_=>qm y (by omega)) ?_⟩
       simp only[go_sem,simprocAttr,hand,hz]
       rw[←hPy]
       have hIf:=hI2.more [none]
       refine⟨λhh=>?_,λhh=>?_⟩
       ·rw[if_pos hh]at hfl
        refine⟨.of (by kernel_rfl),?_⟩
        refine aA.fn (qm y (by omega)) ?_
        simp only[go_sem,simprocAttr,hor1,hor2,hwb,h3',hIf.todo.st.ok,hIf.todo.st.un,cc]
        refine bX.NU (σ:=B2.st++[none]) (ys:=[tD (zC (dR all s l) b y)]) (by first|rfl|simp only[go_sem,simprocAttr]) 1000000000 (by kernel_rfl) hIf.todo (.lit _ _ _) (by simp) (by rw[List.length_map];simp only[List.length_cons,List.length_nil];omega) λv τ2 ha=>?_
        have hpu:=hIf.push (x:=zC (dR all s l) b y) ha
        simp only[go_sem,simprocAttr,h103,ha.row.v.st.ok,ha.row.v.st.un]
        refine⟨hlt,ah hlt (by rw[au];omega),v,rfl,?_⟩
        rw[hfl,List.map_append,←List.append_assoc,←List.append_assoc]
        rw[List.append_assoc st' k0]
        exact hpu
       ·rw[if_neg (by rw[hh];decide),List.append_nil]at hfl
        simp only[go_sem,simprocAttr,h103,h3']
        rw[hfl]
        exact⟨hlt,ah hlt (by rw[au];omega),_,rfl,hIf⟩
      ·rw[List.take_of_length_le hge]at hI2
       exact⟨_,rfl,hI2⟩
     ·simp only[go_sem,simprocAttr,h3']
      have hkids:k0++(g.2.filter P).map (zC (dR all s l) b)=kids (dR all s l) g b:=by
       unfold kids
       rw[hk0,hP]
      rw[hkids]at hI2
      have hperm:=hC.perm
      rw[hnodeR.1]at hperm
      refine .here (ku (dR all s l) (aK all s l) (st'++kids (dR all s l) g b)) (by rw[hk,hnodeR.2];omega) ⟨_,os,sp+1,v3,v12,by simp only[go_sem,simprocAttr,h3'],rfl,hI2,hperm,by have:=hnodeR.2;omega,by have:=hC.len;omega,hbud1,λx hx=>?_,hC.oks⟩
      rcases List.mem_append.1 hx with hx|hx
      ·exact hC.ok x (by simp[hx])
      ·rw[←hkids]at hx
       rcases List.mem_append.1 hx with hx|hx
       ·rw[hk0]at hx
        split at hx
        ·simp at hx
         subst hx
         exact⟨hblt,hb2,hb3⟩
        ·cases hx
       ·obtain⟨y,hy,rfl⟩:=List.mem_map.1 hx
        have hyn:=hg24 y (List.mem_filter.1 hy).1
        refine⟨hblt,Nat.or_lt_two_pow hb2 (Nat.pow_lt_pow_right (by decide) hyn),Nat.or_lt_two_pow hb3 ?_⟩
        exact IB λz hz=>by have:=(List.mem_filter.1 hz).1;rw[List.mem_range]at this;exact this
  ·have hst0:st=[]:=by
    cases st with
    |nil=>rfl
    |cons a r=>exact absurd hneg (by simp)
   subst hst0
   exact⟨os,sp,v3,v12,hI,hC⟩
 ·have hob:=hI.obj
  unfold dA cr gH gD dG at hob
  have hcnt:=hC.cnt
  rw[show ku (dR all s l) (aK all s l) []=0 from rfl,Nat.add_zero]at hcnt
  have hperm:=hC.perm
  rw[show pX (dR all s l) (aK all s l) []=[]from rfl,List.append_nil]at hperm
  have hpf:(os.map λS=>(ja all s S (ef l),S)).Perm (wH all s l (ef l)):=hperm.map _
  have hfok: ∀x∈(os.map λS=>(ja all s S (ef l),S)),Ep x:=λx hx=>by
   obtain⟨S,hS,rfl⟩:=List.mem_map.1 hx
   have:=hC.oks S hS
   exact⟨mu _ _ _ _ _ _,by show S<_;omega⟩
  have hbud2:bud=0∨((gN (dR all s l) (aK all s l) 0 0:Nat):Int)≤bud:=by rw[←hcnt];exact hC.bud
  rcases hI.out with⟨rfl,hnil⟩|⟨ido,rfl,hz,hne⟩
  ·simp only[go_sem,simprocAttr,ar hob,az hob]
   refine an.fn xd ?_
   simp only[go_sem,simprocAttr,ar hob,az hob,aP hob]
   have hos:os=[]:=by simpa using hnil
   subst hos
   refine cO.ret ?_
   simp only[go_sem,simprocAttr]
   refine⟨_,.refl _,by have:=hI.fr.len;simpa using this,hI.fr.set (.inl (by simp)) _,.inr ⟨hbud2,rfl,.ay,[],?_,.inl ⟨rfl,rfl⟩,λj hj=>by simp[bj]at hj,hpf,.nil⟩⟩
   rw[←hcnt,List.getElem?_set_self (List.getElem?_eq_some_iff.1 hI.obj).1]
   rfl
  ·obtain⟨xs,hxs⟩: ∃xs,xs=os.map λS=>(ja all s S (ef l),S):=⟨_,rfl⟩
   rw[←hxs]at hz hne hpf hfok hob hI
   have hxl:xs.length≤1000000000:=by rw[hxs,List.length_map];have:=hC.len;omega
   have hso:=Bb (W0:=W0) B.st ido xs hz (λe=>hne (by rw[e];rfl)) hxl hfok
   simp only[go_sem,simprocAttr,ar hob,az hob,List.length_map]
   refine an.goes (by simp only[go_sem,simprocAttr]) hso λr σ1 ⟨ys,hy1,hy2,hσ1⟩=>?_
   subst hσ1
   have hidne:id≠ido:=λe=>by
    have:=hI.obj
    unfold dA cr at this
    rw[e,hz]at this
    simp at this
   have hob2:(B.st.set ido (some (.cells 116 (ys.map eP))))[id]?=some (dA all s l bud sp false (.row 116 ido 0 (xs.map eP).length)):=by rw[List.getElem?_set_ne (Ne.symm hidne),hI.obj]
   have hob2':=hob2
   unfold dA cr gH gD dG at hob2
   simp only[go_sem,simprocAttr,ar hob2,az hob2,aP hob2]
   refine cO.ret ?_
   simp only[go_sem,simprocAttr]
   have hf12:=hI.f12 ido (by simp[bj])
   have hidol:ido<(B.st).length:=(List.getElem?_eq_some_iff.1 hz).1
   have hidl2:id<B.st.length:=(List.getElem?_eq_some_iff.1 hI.obj).1
   refine⟨_,.refl _,by have:=hI.fr.len;simpa using this,(hI.fr.set (.inr hf12) _).set (.inl (by simp)) _,.inr ⟨hbud2,rfl,.row 116 ido 0 (xs.map eP).length,ys,?_,?_,λj hj=>?_,hy1.trans hpf,hy2⟩⟩
   ·rw[←hcnt,List.getElem?_set_self (by simpa using hidl2)]
    rfl
   ·refine .inr ⟨ido,0,_,ys.map eP,rfl,?_,?_,?_⟩
    ·rw[List.getElem?_set_ne hidne,List.getElem?_set_self hidol]
    ·simp[hy1.length_eq]
    ·rw[List.drop_zero,List.take_of_length_le (by simp[hy1.length_eq])]
   ·simp[bj]at hj
    subst hj
    exact hf12
end Go.Proofs.Tryz
end
section
namespace Go.Proofs.Tryz
open Go Go.Av
set_option maxRecDepth 10000
set_option maxHeartbeats 2000000
variable {W0 :World}
structure Ji (all:List Pkg)(s:List aL)(l:List aI):Prop where
 h0:bw all=0
 ho:all=cI all
 hmn: ∀p∈all,mH p
 Gs:s.length≤10
 hU:Uni all s l
def Di (all:List Pkg)(s:List aL)(l:List aI):Nat:=gN (dR all s l) (aK all s l) 0 0
def vu (all:List Pkg)(s:List aL)(l:List aI):List FB:=(oA all s l (ef l)).map toB
inductive SSt |fresh|run (o:List FB)|fail
def D6 (σ:ab)(id:Nat)(all:List Pkg)(s:List aL)(l:List aI)(bud:Int):SSt→Prop
 | .fresh=>σ[id]?=some (dA all s l bud 0 false .ay)
 | .run o=>ep all s l=false∧(∃v,σ[id]?=some (dA all s l bud (Di all s l) true v)∧eu σ v 116 (o.map eP))∧ ∀x∈o,x.1.length=5∧x.2<2^all.length
 | .fail=>ep all s l=false∧0<bud∧ ∃v,σ[id]?=some (dA all s l bud bud false v)
def jC (all:List Pkg)(s:List aL)(l:List aI)(bud:Int)(st:SSt):Option FB×Int×SSt:=
 if ep all s l=true then(none,0,st)else match st with
  | .fail=>(none,11,.fail)
  | .fresh=>if 0<bud∧bud<Di all s l then(none,11,.fail)else((vu all s l).head?,0,.run (vu all s l).tail)
  | .run o=>(o.head?,0,.run o.tail)
def Er (all:List Pkg):Option FB→Int→AV
 |none,e=>.tup [bg [],dY [0,0,0,0,0],.bool false,.int .i64 e]
 |some x,e=>.tup [bg (atL all (aS all.length x.2)),dY x.1,.bool true,.int .i64 e]
theorem Ji.VP {all:List Pkg}{s:List aL}{l:List aI}(h:Ji all s l)(hnv:ep all s l=false){o:List FB}(hp:o.Perm (wH all s l (ef l)))(hs:o.Pairwise λx y=>ltB y x=false):o=vu all s l:=
 AB (dz h.h0) (λp hp=>dC h.h0 hp) (yM (by rw[h.ho];exact mr (gu h.h0).2)) h.hU hnv _ hp hs
theorem Es (σ:ab)(id:Nat)(all:List Pkg)(s:List aL)(l:List aI)(bud:Int)(v:AV)(hb:0<bud)(hid:σ[id]?=some (dA all s l bud bud false v)):
  aX prog W0 57 [.ptr 96 id 0 []] σ λr σ'=>r= .int .i64 11∧σ'=σ:=by
 have hidl:=(List.getElem?_eq_some_iff.1 hid).1
 refine aX.back (.int _ _) ?_
 refine jb [.tmp 2] [5,8,5000010,3000069,2000072,4000011,2000140,2000003] func57 rfl rfl ntmps57 rfl rfl λhs=>?_
 simp only[go_sem,simprocAttr]
 refine af.at [0] (.of (by kernel_rfl)) (λA=>False) ?_ λB hF=>hF.elim
 refine af.cD [0] (.of (by kernel_rfl)) (λk A=>A.env 3= .row 171 σ.length 0 1∧Ext σ A.st) 0 ?_ λk B ⟨h3,hx⟩=>?_
 ·simp only[go_sem,simprocAttr]
  exact Ext.app (.refl _) _
 have hob:B.st[id]?=some (dA all s l bud bud false v):=by
  have e:=congrArg (·[id]?) hx
  simp only[List.getElem?_take,if_pos hidl]at e
  rw[e,hid]
 unfold dA cr at hob
 have hc:(decide (0<bud)&&(bud==bud))=true:=by simp[hb]
 have hd:decide (0<bud)=true:=decide_eq_true hb
 simp only[go_sem,simprocAttr,h3,ar hob,az hob,hd]
 refine⟨.of (by kernel_rfl),cO.ret ?_⟩
 simp only[go_sem,simprocAttr]
 exact⟨_,.refl _,hx.le,.refl _,hx⟩
@[go_sem] theorem Q0 {A:aa}(t u v w:ResultVar):qV A [t,u,v,w]= .tup [jn A t,jn A u,jn A v,jn A w]:=rfl
theorem wE {n:Nat}(D:Dat): ∀{gs:List (Bool×List Nat)} (s c:Nat),(∀g∈gs,∀i∈g.2,i<n)→s<2^n→ ∀S∈mG D gs s c,S<2^n
 |[],s,c,_,h,S,hS=>by
  rw[mG]at hS
  split at hS
  ·simp at hS;rw[hS];exact h
  ·cases hS
 |g::r,s,c,hg,h,S,hS=>by
  rw[mG]at hS
  rcases List.mem_append.1 hS with hS|hS
  ·split at hS
   ·exact wE D s c (λg' h'=>hg g' (by simp[h'])) h S hS
   ·cases hS
  ·obtain⟨i,hi,hS⟩:=List.mem_flatMap.1 hS
   exact wE D _ _ (λg' h'=>hg g' (by simp[h'])) (Nat.or_lt_two_pow h (Nat.pow_lt_pow_right (by decide) (hg g (by simp) i (List.mem_filter.1 hi).1))) S hS
theorem DW {all:List Pkg}(s:List aL)(l:List aI)(D:Dat)(t c:Nat)(ht:t<2^all.length){S:Nat}(hS:S∈mG D (aK all s l) t c):S<2^all.length:=by
 refine wE D t c (λg hg i hi=>?_) ht S hS
 unfold aK at hg
 obtain⟨n,_,rfl⟩:=List.mem_map.1 hg
 obtain⟨q,hq,_⟩:=bn.1 hi
 exact(List.getElem?_eq_some_iff.1 hq).1
theorem mz (all:List Pkg)(e:Int):cR (.tup [.ay,.agg 39 [.int .i64 0,.int .i64 0,.int .i64 0,.int .i64 0,.int .i64 0],.bool false,.int .i64 e]) (Er all none e):=by
 refine .tup rfl λi x y hx hy=>?_
 match i,hx,hy with
 |0,hx,hy=>cases hx;cases hy;exact .ay _
 |1,hx,hy=>cases hx;cases hy;exact .refl _
 |2,hx,hy=>cases hx;cases hy;exact .refl _
 |3,hx,hy=>cases hx;cases hy;exact .refl _
theorem I5 (hW:qU W0)(σ:ab)(id:Nat)(all:List Pkg)(s:List aL)(l:List aI)(bud:Int)(st:SSt)(hH:Ji all s l)(hb0:0≤bud)(hbm:bud≤1000000000000)(hst:D6 σ id all s l bud st):
  aX prog W0 14 [.ptr 96 id 0 []] σ λr σ'=>r=Er all (jC all s l bud st).1 (jC all s l bud st).2.1∧Fr [id] σ σ'∧D6 σ' id all s l bud (jC all s l bud st).2.2:=by
 obtain⟨sp,dn,v,hob,hdn,hvn⟩: ∃(sp:Int) (dn:Bool) (v:AV),σ[id]?=some (dA all s l bud sp dn v)∧(dn=true↔ ∃o,st= .run o)∧(ep all s l=true→v= .ay):=by
  cases st with
  |fresh=>exact⟨0,false,.ay,hst,by simp,λ_=>rfl⟩
  |run o=>obtain⟨h0,⟨v,h1,_⟩,_⟩:=hst;exact⟨_,true,v,h1,by simp,λh=>absurd h0 (by rw[h];decide)⟩
  |fail=>obtain⟨h0,_,v,h1⟩:=hst;exact⟨_,false,v,h1,by simp,λh=>absurd h0 (by rw[h];decide)⟩
 have hidl:=(List.getElem?_eq_some_iff.1 hob).1
 have hn:=hH.hU.asks
 refine jb [.tmp 2,.cell 3 39,.tmp 4,.tmp 5] [7,3000059,4000011] func14 rfl rfl ntmps14 rfl rfl λhs=>?_
 have hob1: ∀J,(σ++J)[id]?=some (dA all s l bud sp dn v):=λJ=>by rw[List.getElem?_append_left hidl,hob]
 have hob2:=hob1
 unfold dA cr at hob2
 simp only[go_sem,simprocAttr,ar (hob2 _),az (hob2 _)]
 obtain⟨cz,hcz⟩: ∃cz:Option cY,cz=some (.cells 39 [.agg 39 [.int .i64 0,.int .i64 0,.int .i64 0,.int .i64 0,.int .i64 0]]):=⟨_,rfl⟩
 have hz0:(σ++[cz])[σ.length]?=some cz:=by rw[List.getElem?_append_right (Nat.le_refl _),Nat.sub_self];rfl
 have hfr0:Fr [id] σ (σ++[cz]):=Fr.ext (Ext.app (.refl _) _)
 have hrv: ∀{J:ab} {o:List FB} {w:AV},eu σ w 116 (o.map eP)→eu (σ++J) w 116 (o.map eP):=λh=>h.eC λj hj=>by rw[List.getElem?_append_left (h.lt j hj)]
 refine cg.at [0,3] (by kernel_rfl) (λA=>A.st[σ.length]?=some cz∧Fr [id] σ A.st∧((ep all s l=true∧A.st=σ++[cz])∨(∃o,D6 A.st id all s l bud (.run o)∧jC all s l bud st=(o.head?,0,.run o.tail)))) (λhc=>?_) (λhc=>?_) λB ⟨hz,hfr,hcase⟩=>?_
 ·simp only[Bool.and_eq_true,Bool.not_eq_true']at hc
  obtain⟨hc1,hc2⟩:=hc
  cases st with
  |fresh=>
   have hst0:(σ++[cz])[id]?=some (dA all s l bud 0 false .ay):=by rw[List.getElem?_append_left hidl];exact hst
   have hfi:=H0 (W0:=W0) hW (σ++[cz]) id all s l bud hn hH.h0 hH.ho hH.hmn hH.Gs hb0 hbm hst0
   simp only[go_sem,simprocAttr]
   refine an.goes (by simp only[go_sem,simprocAttr];rw[hcz]) hfi λr σ1 ⟨hfr1,hr⟩=>?_
   have hfr2:Fr [id] σ σ1:=⟨by have:=hfr1.len;simp at this;omega,λj hj hF=>by rw[hfr1.old j (by simp;omega) hF,hfr0.old j hj hF]⟩
   have hz1:σ1[σ.length]?=some cz:=by rw[hfr1.old σ.length (by simp) (by simp;omega),hz0]
   rcases hr with⟨g1,g2,rfl,w,g3⟩|⟨g1,rfl,w,o,g3,g4,g5,g6,g7⟩
   ·have hnx:jC all s l bud .fresh=(none,11,.fail):=by
     unfold jC
     rw[if_neg (by rw[hc2];decide)]
     exact if_pos ⟨g1,g2⟩
    rw[hnx]
    have hz1':=hz1
    rw[hcz]at hz1'
    simp only[go_sem,simprocAttr,ar hz1',az hz1',aP hz1',fZ hz1']
    refine cO.ret ?_
    simp only[go_sem,simprocAttr,ar hz1',az hz1',jn]
    exact⟨_,mz all 11,hfr2.len,rfl,hfr2,hc2,g1,w,g3⟩
   ·have hob3:=g3
    have ho:=hH.VP hc2 g6 g7
    simp only[go_sem,simprocAttr]
    refine⟨hz1,hfr2,.inr ⟨vu all s l,⟨hc2,⟨w,g3,by rw[←ho];exact g4⟩,λx hx=>?_⟩,?_⟩⟩
    ·rw[←ho]at hx
     obtain⟨S,hS,rfl⟩:=List.mem_map.1 (g6.subset hx)
     exact⟨mu _ _ _ _ _ _,DW s l _ 0 0 (Nat.two_pow_pos _) hS⟩
    ·unfold jC
     rw[if_neg (by rw[hc2];decide)]
     exact if_neg (by unfold Di;omega)
  |run o=>exact absurd (hdn.2 ⟨o,rfl⟩) (by rw[hc1];decide)
  |fail=>
   obtain⟨_,q1,w,q2⟩:=hst
   have hst0:(σ++[cz])[id]?=some (dA all s l bud bud false w):=by rw[List.getElem?_append_left hidl];exact q2
   have hnx:jC all s l bud .fail=(none,11,.fail):=by
    unfold jC
    rw[if_neg (by rw[hc2];decide)]
   rw[hnx]
   have hz1':=hz0
   rw[hcz]at hz1'
   simp only[go_sem,simprocAttr]
   refine an.reads (by simp only[go_sem,simprocAttr];rw[hcz]) (Es (σ++[cz]) id all s l bud w q1 hst0) ?_
   simp only[go_sem,simprocAttr,ar hz1',az hz1',aP hz1',fZ hz1']
   refine cO.ret ?_
   simp only[go_sem,simprocAttr,ar hz1',az hz1',jn]
   rw[hcz]at hfr0 hst0
   exact⟨_,mz all 11,by simp,rfl,hfr0,hc2,q1,w,hst0⟩
 ·have hc':dn=true∨ep all s l=true:=by
   cases dn<;>simp_all
  simp only[go_sem,simprocAttr]
  rw[←hcz]
  refine⟨rfl,hfr0,?_⟩
  by_cases hnv:ep all s l=true
  ·exact .inl ⟨hnv,rfl⟩
  ·have hd:dn=true:=by rcases hc' with h|h;exact h;exact absurd h hnv
   obtain⟨o,rfl⟩:=hdn.1 hd
   obtain⟨p1,⟨w,p2,p3⟩,p4⟩:=hst
   refine .inr ⟨o,⟨p1,⟨w,by rw[List.getElem?_append_left hidl];exact p2,hrv p3⟩,p4⟩,?_⟩
   unfold jC
   rw[if_neg hnv]
 ·have hz1:=hz
  rw[hcz]at hz1
  rcases hcase with⟨hnv,hBst⟩|⟨o,⟨p1,⟨w,p2,p3⟩,p4⟩,hnx⟩
  ·have hnx:jC all s l bud st=(none,0,st):=by unfold jC;rw[if_pos hnv]
   have hvn':=hvn hnv
   subst hvn'
   have hob3:B.st[id]?=some (dA all s l bud sp dn .ay):=by rw[hBst,List.getElem?_append_left hidl,hob]
   unfold dA cr at hob3
   rw[hnx]
   simp only[go_sem,simprocAttr,ar hob3,az hob3,hnv,ar hz1,az hz1,aP hz1,fZ hz1]
   refine cO.ret ?_
   simp only[go_sem,simprocAttr,ar hz1,az hz1,jn]
   refine⟨_,mz all 0,by rw[hBst];simp,rfl,hfr,?_⟩
   cases st with
   |fresh=>
    show B.st[id]?=_
    rw[hBst,List.getElem?_append_left hidl]
    exact hst
   |run o=>exact absurd hst.1 (by rw[hnv];decide)
   |fail=>exact absurd hst.1 (by rw[hnv];decide)
  ·have hob3:=p2
   unfold dA cr at hob3
   rw[hnx]
   simp only[go_sem,simprocAttr,ar hob3,az hob3,p3.st.ok,p3.st.un,p3.st.len,p3.st.gA,p1,List.length_map,ar hz1,az hz1,aP hz1,fZ hz1]
   refine⟨λh0=>cO.ret ?_,λh0=>?_⟩
   ·have ho:o=[]:=List.length_eq_zero_iff.1 (by omega)
    subst ho
    simp only[go_sem,simprocAttr,ar hz1,az hz1,jn]
    exact⟨_,mz all 0,hfr.len,rfl,hfr,p1,⟨w,p2,p3⟩,p4⟩
   ·obtain⟨x,r,rfl⟩: ∃x r,o=x::r:=by
     cases o with
     |nil=>exact absurd rfl h0
     |cons x r=>exact⟨x,r,rfl⟩
    have hcut:=p3.cut (a:=1) (b:=(x::r).length) (by simp) (by simp)
    rcases p3 with⟨rfl,hnil⟩|⟨ido,off,m,zs,rfl,hz2,hle,hx⟩
    ·simp at hnil
    have hml:m=r.length+1:=by
     have:=congrArg List.length hx
     simp only[List.length_map,List.length_cons,List.length_take,List.length_drop]at this
     omega
    subst hml
    have hzi:zs[off+0]?=some (eP x):=by
     have h1:((x::r).map eP)[0]?=some (eP x):=rfl
     rw[hx,List.getElem?_take,if_pos (by omega),List.getElem?_drop]at h1
     exact h1
    have hob4:(B.st++[none])[id]?=some (dA all s l bud (Di all s l) true (.row 116 ido off (r.length+1))):=by rw[List.getElem?_append_left (List.getElem?_eq_some_iff.1 p2).1];exact p2
    have hob5:=hob4
    unfold dA cr at hob5
    obtain⟨τ,hτ⟩: ∃τ,τ=(B.st++[none]).set id (dA all s l bud (Di all s l) true (.row 116 ido (off+1) r.length)):=⟨_,rfl⟩
    have hlid:id<(B.st++[none]).length:=(List.getElem?_eq_some_iff.1 hob4).1
    have hobτ:τ[id]?=some (dA all s l bud (Di all s l) true (.row 116 ido (off+1) r.length)):=by rw[hτ];exact List.getElem?_set_self hlid
    have hne1:id≠σ.length:=by omega
    have hzτ:τ[σ.length]?=some cz:=by rw[hτ,List.getElem?_set_ne hne1,List.getElem?_append_left (List.getElem?_eq_some_iff.1 hz).1,hz]
    have hzτ':=hzτ
    rw[hcz]at hzτ'
    obtain⟨hx5,hx2⟩:=p4 x (by simp)
    have hwh:=GG (W0:=W0) hW τ id all x.2 hH.h0 hH.ho hH.hmn hx2 hobτ
    have hτ':=hτ
    unfold dA cr at hτ'
    have hco1: ∀g,okM g (dY x.1)=True:=λg=>bT trivial
    have hco2:unm (dY x.1)=dY x.1:=rfl
    have hco3:bo prog 39 (dY x.1)=true:=by kernel_rfl
    simp only[go_sem,simprocAttr,ar hz2,az hz2,hzi,eP,cc,ar hob5,az hob5,aP hob5,List.length_cons]
    rw[←hτ']
    refine⟨.of (by kernel_rfl),aA.st hwh ?_⟩
    simp only[go_sem,simprocAttr,hco1,hco2,hco3,ar hzτ',az hzτ',aP hzτ']
    have hl3:σ.length<τ.length:=(List.getElem?_eq_some_iff.1 hzτ).1
    have hlk:(τ.set σ.length (some (.cells 39 [dY x.1])))[σ.length]?=some (some (.cells 39 [dY x.1])):=List.getElem?_set_self hl3
    have hco4: ∀σ',qC none σ' 39 (.loc 39 (dY x.1))=True:=λσ'=>eq_true rfl
    have hfrτ:Fr [id] σ τ:=by rw[hτ];exact(hfr.app _).set (.inl (by simp)) _
    refine cO.ret ?_
    simp only[go_sem,simprocAttr,ar hlk,az hlk,jn]
    refine⟨_,.refl _,by simpa using hfrτ.len,rfl,hfrτ.set (.inr (Nat.le_refl _)) _,p1,⟨.row 116 ido (off+1) r.length,?_,?_⟩,λy hy=>p4 y (List.mem_cons_of_mem _ hy)⟩
    ·rw[List.getElem?_set_ne (Ne.symm hne1)];exact hobτ
    ·have hidne:ido≠id:=λe=>by
      rw[e]at hz2
      unfold dA cr at p2
      rw[hz2]at p2
      simp at p2
     have hidne2:ido≠σ.length:=λe=>by
      rw[e,hz1]at hz2
      simp at hz2
     have hr:eu B.st (.row 116 ido (off+1) r.length) 116 (r.map eP):=by
      have h:=hcut
      simp only[tE,List.length_cons,Nat.add_sub_cancel,List.map_cons,List.drop_succ_cons,List.drop_zero]at h
      rwa [List.take_of_length_le (by simp)]at h
     refine hr.eC λj hj=>?_
     simp[bj]at hj
     subst hj
     rw[List.getElem?_set_ne (Ne.symm hidne2),hτ,List.getElem?_set_ne (Ne.symm hidne),List.getElem?_append_left (List.getElem?_eq_some_iff.1 hz2).1]
end Go.Proofs.Tryz
end
section
namespace Go.Proofs.Tryz
open Go Go.Av
set_option maxRecDepth 10000
variable {W0 :World}
theorem zI (fs gs:List AV):iw prog 39 fs gs=tR [1,1,1,1,1] fs gs:=by
 have hu:prog.underlying 39=some (.array 5 3):=by kernel_rfl
 have hc:(ae prog 3==1&& !prog.eqGuardType prog.depth 39)=true:=by kernel_rfl
 have hf:bq prog 39=some [3,3,3,3,3]:=by kernel_rfl
 have hk:[3,3,3,3,3].map (eqK prog)=[1,1,1,1,1]:=by kernel_rfl
 unfold iw
 simp only[hu]
 rw[if_pos hc,hf,Option.bind_some,A4,hk]
theorem I9 {a b:List Nat}(ha:a.length=5)(hb:b.length=5):iw prog 39 (a.map λx=>.int .i64 (x:Nat)) (b.map λx=>.int .i64 (x:Nat))=some (decide (a=b)):=by
 rw[zI]
 match a,ha,b,hb with
 |[a0,a1,a2,a3,a4],_,[b0,b1,b2,b3,b4],_=>
  simp only[List.map_cons,List.map_nil,tR,AX,if_true,Option.bind_some,Option.map_some,Bool.and_true,Option.some.injEq]
  rw[Bool.eq_iff_iff]
  simp[Int.ofNat_inj]
def bwA :Pkg:=⟨[97,97],[49],[],[[⟨[98,98],0,[]⟩,⟨[99,99],0,[]⟩]],[],[],[],[],false⟩
def bwB :Pkg:=⟨[98,98],[49],[],[],[],[],[],[],false⟩
def bwC :Pkg:=⟨[99,99],[49],[],[],[],[],[],[],false⟩
def bwL :List Pkg:=[bwA,bwB,bwC]
def bwQ :List aI:=[⟨1,[97,97],[]⟩]
theorem Wi :iG bwL [] bwQ=0:=by decide+kernel
theorem T6 :ep bwL [] bwQ=false:=by decide+kernel
theorem IN :(vu bwL [] bwQ).head?=some ([0,0,0,2,0],3):=by decide+kernel
theorem En : ∀p∈bwL,mH p:=λp hp=>by
 simp[bwL]at hp
 rcases hp with rfl|rfl|rfl<;>exact⟨by decide,by decide,by decide⟩
theorem TF :Ji bwL [] bwQ:=⟨by decide+kernel,by decide+kernel,En,by decide,⟨by decide+kernel,by decide+kernel,λx hx=>by cases hx⟩⟩
theorem pE (hW:qU W0):ag prog W0 10 [] (.bool true):=by
 refine .FI (.bool _) λσ=>?_
 refine jb [.tmp 0] [5] func10 rfl rfl ntmps10 rfl rfl λhs=>?_
 simp only[go_sem,simprocAttr]
 refine an.goes (by simp only[go_sem,simprocAttr]) ((Gn σ bwL [] bwQ 0 En (λx hx=>by cases hx)).cU (.cons (.sub (jd (n:=10) (by kernel_rfl))) (.cons (.ay _) (.cons (.sub (jd (n:=10) (by kernel_rfl))) (.cons (.refl _) .nil))))) λr σ1 ⟨hx,hr⟩=>?_
 rcases hr with⟨h,_⟩|⟨_,id,rfl,hid,hob⟩
 ·exact absurd Wi h
 rw[DB TF.hU.asks]at hob
 simp only[go_sem,simprocAttr]
 have hn:=I5 hW σ1 id bwL [] bwQ 0 .fresh TF (by decide) (by decide) hob
 have hnx:jC bwL [] bwQ 0 .fresh=(some ([0,0,0,2,0],3),0,.run (vu bwL [] bwQ).tail):=by
  unfold jC
  rw[if_neg (by rw[T6];decide)]
  simp only[IN]
  rfl
 rw[hnx]at hn
 refine an.goes (by simp only[go_sem,simprocAttr]) hn λr σ2 ⟨hr,hfr,_⟩=>?_
 subst hr
 have hpk:atL bwL (aS bwL.length 3)=[bwA,bwB]:=by decide+kernel
 have a1: ∀(x y:AV) (l:List AV),atV (x::y::l) 1=y:=λ_ _ _=>rfl
 simp only[go_sem,simprocAttr,Er,hpk,bg,dY,List.map_cons,List.map_nil,List.length_cons,List.length_nil,a1]
 simp only[go_sem,simprocAttr,aw,bwB]
 have heq:iw prog 39 [AV.int .i64 0,AV.int .i64 0,AV.int .i64 0,AV.int .i64 2,AV.int .i64 0] [AV.int .i64 0,AV.int .i64 0,AV.int .i64 0,AV.int .i64 2,AV.int .i64 0]=some true:=I9 (a:=[0,0,0,2,0]) (b:=[0,0,0,2,0]) rfl rfl
 rw[heq]
 refine⟨rfl,cO.ret ?_⟩
 simp only[go_sem,simprocAttr,Option.map_some,Option.getD_some]
 have hle:=hfr.len
 have hl1:=hx.le
 refine⟨_,.refl _,by first|omega|(simp;omega),.refl _,?_⟩
 exact(hfr.E0 hx λj hj=>by simp at hj;omega).app _
end Go.Proofs.Tryz
end
section
namespace Go.Proofs.Tryz
open Go Go.Av
set_option maxRecDepth 10000
variable {W0 :World}
theorem vd (l:List Pkg)(hp: ∀p∈l,tW p):ag prog W0 17 [bg l] (.bool (lW 0 l)):=by
 refine ai [2] [4] func17 rfl rfl ntmps17 rfl rfl (.bool _) λhs σ=>?_
 have hl:=(aO (hs _ (List.mem_cons_self ..))).1
 have hls:=(aO (hs _ (List.mem_cons_self ..))).2
 simp only[go_sem,simprocAttr,bg,List.length_map]
 refine af.upto [9,10] (.of (by kernel_rfl)) l.length (λi A=>A.env 11= .int .i64 i∧Ext σ A.st∧lW i (l.drop i)=lW 0 l) 0 (Nat.zero_le _) ?_ λi B hi ⟨h8,hst,hI⟩=>?_
 ·simp only[go_sem,simprocAttr]
  simp[Ext.refl]
 simp only[go_sem,simprocAttr,h8,List.length_map]
 refine⟨λhc=>⟨hc,?_⟩,λhc=>?_⟩
 ·obtain⟨p,hpi⟩:=get_some hc
  simp only[av hpi]
  have hR:=hp p (List.mem_of_getElem? hpi)
  have r1:=hR.con;have r2:=hR.brk;have r3:=hR.dW
  rw[Fv]at r1 r2 r3
  have hw1:IntKind.i64.wrap ((p.con.length:Int)+(p.brk.length:Int))=((p.con.length:Int)+(p.brk.length:Int)):=aF (by omega)
  have hw2:IntKind.i64.wrap ((p.con.length:Int)+(p.brk.length:Int)+(p.dW.length:Int))=((p.con.length:Int)+(p.brk.length:Int)+(p.dW.length:Int)):=aF (by omega)
  rw[List.drop_eq_getElem_cons hc,lW]at hI
  have hpe:l[i]=p:=(List.getElem?_eq_some_iff.1 hpi).2
  rw[hpe]at hI
  simp only[go_sem,simprocAttr,aw,aE,cn,h8,List.length_map,hw1,hw2]
  have e3:[ax p.pre,ax p.dep,ax p.rcm]=[p.pre,p.dep,p.rcm].map ax:=rfl
  refine⟨λhb=>⟨ak ?_,hst.app _⟩,λhb=>?_⟩
  ·have:nA i p=false:=by
    unfold nA
    simp only[Bool.or_eq_true,decide_eq_true_eq]at hb
    rcases hb with hb|hb
    ·rw[decide_eq_false (show ¬i<26 by omega)];rfl
    ·rw[decide_eq_false (show ¬p.con.length+p.brk.length+p.dW.length≤40 by omega),Bool.and_false];rfl
   rw[←hI,this];rfl
  simp only[Bool.or_eq_false_iff,decide_eq_false_iff_not]at hb
  have hP:nA i p=[p.pre,p.dep,p.rcm].all sk:=by
   unfold nA
   rw[decide_eq_true (show i<26 by omega),decide_eq_true (show p.con.length+p.brk.length+p.dW.length≤40 by omega)];rfl
  simp only[e3]
  have hds:=hls p (List.mem_of_getElem? hpi)
  refine af.ats [9,10,11] (.of (by kernel_rfl)) (λA=>Ext σ A.st∧nA i p=true) ?_ λB2 ⟨hst,h6⟩=>?_
  ·refine af.upto [9,10,11,38] (.of (by kernel_rfl)) 3 (λj A=>A.env 39= .int .i64 j∧Ext σ A.st∧([p.pre,p.dep,p.rcm].drop j).all sk=[p.pre,p.dep,p.rcm].all sk) 0 (Nat.zero_le _) ?_ λj B2 hj ⟨h39,hst,hJ⟩=>?_
   ·simp only[go_sem,simprocAttr]
    exact hst.app _
   simp only[go_sem,simprocAttr,h39]
   simp only[e3]
   refine⟨λhc2=>?_,λhc2=>?_⟩
   ·have hc3:j<[p.pre,p.dep,p.rcm].length:=by show j<3;omega
    obtain⟨d,hdj⟩:=get_some hc3
    have hde:=(List.getElem?_eq_some_iff.1 hdj).2
    rw[List.drop_eq_getElem_cons hc3,hde,List.all_cons]at hJ
    simp only[getD_map hdj]
    simp only[go_sem,simprocAttr,ax,h39,List.length_map]
    refine⟨hc3,?_⟩
    have hlD:sk d=(decide (d.length≤14)&&d.all λc=>decide (c.length≤10)):=rfl
    refine⟨λhb=>⟨ak ?_,hst⟩,λhb=>?_⟩
    ·rw[←hI,hP,←hJ,hlD,decide_eq_false (by omega)];rfl
    rw[decide_eq_true (show d.length≤14 by omega),Bool.true_and]at hlD
    refine af.ats [9,10,11,38,39] (.of (by kernel_rfl)) (λA=>Ext σ A.st∧(d.all λc=>decide (c.length≤10))=true) ?_ λB3 ⟨hst,h6⟩=>?_
    ·refine af.upto [9,10,11,38,39,45,46] (.of (by kernel_rfl)) d.length (λk A=>A.env 47= .int .i64 k∧Ext σ A.st∧ ∀c∈d.take k,c.length≤10) 0 (Nat.zero_le _) ?_ λk B3 hk ⟨h47,hst,hK⟩=>?_
     ·simp only[go_sem,simprocAttr]
      simp[hst]
     simp only[go_sem,simprocAttr,h47,List.length_map]
     refine⟨λhc4=>⟨hc4,?_⟩,λhc4=>?_⟩
     ·obtain⟨c,hck⟩:=get_some hc4
      simp only[av hck]
      simp only[go_sem,simprocAttr,aE,h47,List.length_map]
      refine⟨λhb=>⟨ak ?_,hst⟩,λhb=>⟨hc4,ah hc4 (by rw[au];omega),hst,?_⟩⟩
      ·have:(d.all λc=>decide (c.length≤10))=false:=by
        rw[List.all_eq_false]
        exact⟨c,List.mem_of_getElem? hck,by simp;omega⟩
       rw[←hI,hP,←hJ,hlD,this];rfl
      ·rw[aj hck]
       intro x hx
       rcases List.mem_append.1 hx with hx|hx
       ·exact hK x hx
       ·rw[List.mem_singleton.1 hx];omega
     ·rw[List.take_of_length_le hc4]at hK
      exact⟨hst,List.all_eq_true.2 λc hcm=>decide_eq_true (hK c hcm)⟩
    simp only[go_sem,simprocAttr,h39]
    refine⟨by omega,ah (show j<3 by omega) (by rw[au];omega),hst,?_⟩
    rw[hlD,h6,Bool.true_and]at hJ
    simpa using hJ
   ·have:j=3:=by omega
    subst this
    exact⟨hst,by rw[hP,←hJ];rfl⟩
  simp only[go_sem,simprocAttr,h8]
  refine⟨hc,ah hc hl,hst,?_⟩
  rw[h6,Bool.true_and]at hI
  exact hI
 ·have:i=l.length:=by omega
  subst this
  rw[List.drop_length]at hI
  exact⟨ak hI,hst⟩
theorem G2 (l:List aL)(hl:l.length≤733007751829):ag prog W0 18 [bc l] (bg (l.map (·.pkg))):=by
 refine ai [2] [5] func18 rfl rfl ntmps18 rfl rfl (oY _) λhs σ=>?_
 simp only[go_sem,simprocAttr,bc,List.length_map]
 refine af.at [6,7] (.of (by kernel_rfl)) (λA=>∃ v,A.env 3=v∧aU σ A.st v 54 ((l.map (·.pkg)).map aw)) ?_ λB ⟨v,h3,hb⟩=>?_
 ·refine af.upto [6,7] (.of (by kernel_rfl)) l.length (λi A=>∃ v,A.env 3=v∧A.env 8= .int .i64 i∧aU σ A.st v 54 (((l.take i).map (·.pkg)).map aw)) 0 (Nat.zero_le _) ?_ λi B hi ⟨v,h3,h8,hb⟩=>?_
  ·simp only[go_sem,simprocAttr]
   exact⟨_,rfl,aU.nil (.refl _) _⟩
  simp only[go_sem,simprocAttr,h3,h8,hb.ok,hb.un,List.length_map]
  refine⟨λhlt=>⟨hlt,?_⟩,λhlt=>?_⟩
  ·obtain⟨x,hx⟩:=get_some hlt
   simp only[av hx]
   have hb1:=hb.more [none]
   simp only[go_sem,simprocAttr,bH,aw,h3,h8,hb.ok,hb.un]
   refine bX.own 733007751829 (by kernel_rfl) hb1.bld (.lit _ _ _) (by simp;omega) λv' σ' ha'=>?_
   have hb':=hb1.app ha'
   simp only[go_sem,simprocAttr,h3,h8,hb.ok,hb.un,hb'.ok,hb'.un]
   refine⟨hlt,_,rfl,ah hlt (by rw[au];omega),?_⟩
   rw[aj hx,List.map_append,List.map_append]
   exact hb'
  ·rw[List.take_of_length_le hlt]at hb
   exact⟨_,rfl,hb⟩
 simp only[go_sem,simprocAttr,h3,hb.ok,hb.un]
 exact⟨hb.cU,hb.ext⟩
theorem II {n:Nat}{a:AV}(h:OfT prog (n+2) 83 a): ∃p,a=bM p:=by
 obtain⟨xs,rfl,g⟩:=lD (ts:=[3,9,9]) (by kernel_rfl) h
 obtain _|⟨x,_|⟨y,_|⟨z,_|_⟩⟩⟩:=xs<;>simp only[qT,and_false,and_true]at g
 obtain⟨h1,h2,h3⟩:=g
 obtain⟨k,rfl,_⟩:=Bl (k:=.i64) (by kernel_rfl) h1
 obtain⟨s,rfl,_⟩:=jv (by kernel_rfl) h2
 obtain⟨v,rfl,_⟩:=jv (by kernel_rfl) h3
 exact⟨⟨k,s,v⟩,rfl⟩
theorem FV {n:Nat}{a:AV}(h:OfT prog (n+3) 24 a): ∃l,a=br l:=by
 obtain⟨l,rfl,_⟩:=oo (f:=bM) (e:=83) (by kernel_rfl) (λx=>II) h
 exact⟨l,rfl⟩
theorem JQ (hW:qU W0)(all:List Pkg)(s:List aL)(l:List aI)(hp: ∀p∈all,tW p)(hsp: ∀x∈s,tW x.pkg)(hsl:s.length≤733007751829):ag prog W0 4 [bg all,bc s,br l] (.bool true):=by
 refine .FI (.bool _) λσ=>?_
 refine jb [.tmp 6] [11,14] func4 rfl rfl ntmps4 rfl rfl λhs=>?_
 simp only[go_sem,simprocAttr]
 refine an.fn (vd all hp) ?_
 simp only[go_sem,simprocAttr]
 have hbp: ∀p∈s.map (·.pkg),tW p:=λp hp2=>by
  obtain⟨x,hx,rfl⟩:=List.mem_map.1 hp2
  exact hsp x hx
 refine aA.fnG (λ_=>G2 s hsl) ?_
 simp only[go_sem,simprocAttr]
 refine aA.fnG (λ_=>vd (s.map (·.pkg)) hbp) ?_
 simp only[go_sem,simprocAttr,br,bg,List.length_map]
 refine⟨λhc=>?_,λhc=>?_⟩
 ·refine an.fn (pE hW) ?_
  simp only[go_sem,simprocAttr]
  refine cO.ret ?_
  simp only[go_sem,simprocAttr]
  exact⟨_,.refl _,.refl _,.refl _⟩
 simp only[Bool.or_eq_false_iff,Bool.not_eq_false',decide_eq_false_iff_not]at hc
 obtain⟨⟨⟨hl1,hl2⟩,hl3⟩,hl4⟩:=hc
 have hmn: ∀p∈all,mH p:=vn hl1
 have hms: ∀x∈s,mH x.pkg:=λx hx=>vn hl2 _ (List.mem_map_of_mem hx)
 refine an.goes (by simp only[go_sem,simprocAttr]) (Gn σ all s l 0 hmn hms) λr σ1 ⟨hx,hr⟩=>?_
 obtain⟨xv,rfl,hxv⟩: ∃xv,r= .tup [xv,.int .i64 (iG all s l)]∧((iG all s l≠0∧xv= .nil)∨(iG all s l=0∧ ∃id,xv= .ptr 96 id 0 [])):=by
  rcases hr with⟨h,rfl⟩|⟨h,id,rfl,_⟩
  ·exact⟨_,rfl,.inl ⟨h,rfl⟩⟩
  ·exact⟨_,by rw[h],.inr ⟨h,id,rfl⟩⟩
 have hok: ∀g,okM g xv=True:=λg=>by rcases hxv with⟨_,rfl⟩|⟨_,id,rfl⟩<;>exact eq_true trivial
 have hun:unm xv=xv:=by rcases hxv with⟨_,rfl⟩|⟨_,id,rfl⟩<;>rfl
 simp only[go_sem,simprocAttr,hok,hun]
 refine an.fn (Ds all) ?_
 simp only[go_sem,simprocAttr]
 have hso:bw all==0→all.length≤1024:=λh=>by have:=dz (by simpa using h);omega
 refine aA.fnG (λh=>Ad all (hso h)) ?_
 simp only[go_sem,simprocAttr]
 refine aA.fnG (λ_=>xI all (cI all)) ?_
 simp only[go_sem,simprocAttr]
 obtain⟨w1,hw1⟩: ∃w1,w1=if bw all≠0 then bw all else if all≠cI all then(1:Int)else 0:=⟨_,rfl⟩
 obtain⟨w2,hw2⟩: ∃w2,w2=if w1=0 then dp s else w1:=⟨_,rfl⟩
 obtain⟨w3,hw3⟩: ∃w3,w3=if w2=0 then cW l else w2:=⟨_,rfl⟩
 obtain⟨nin,hnin⟩: ∃nin:aL→Bool,nin=λx=>!all.any λp=>decide (p=x.pkg):=⟨_,rfl⟩
 have hE:iG all s l=if w3=0∧s.any nin=true then 1 else w3:=by
  unfold iG
  rw[hnin,hw3,hw2,hw1]
  by_cases e1:bw all=0<;>by_cases e2:all=cI all<;>by_cases e3:dp s=0<;>by_cases e4:cW l=0<;>by_cases e5:(s.any λx=>!all.any λp=>decide (p=x.pkg))=true
  all_goals first|(rw[if_neg (by simp[e1])];simp[←e2,e3,e4,e5];done)|(simp[e1,e3,e4,e5,←e2];done)|(simp_all;done)
 refine cg.at [0,1,2,7,8] (by kernel_rfl) (λA=>A.env 9= .int .i64 w1∧A.st=σ1) (λhc=>?_) (λhc=>?_) λB1 ⟨h9,hst1⟩=>?_
 ·simp only[Bool.and_eq_true,beq_iff_eq,Bool.not_eq_true',decide_eq_false_iff_not]at hc
  simp only[go_sem,simprocAttr]
  rw[hw1,if_neg (by simp[hc.1]),if_pos hc.2]
 ·simp only[go_sem,simprocAttr]
  rw[hw1]
  by_cases h:bw all=0
  ·have h2:all=cI all:=by simpa[h]using hc
   rw[if_neg (by simp[h]),if_neg (by simp[←h2]),h]
  ·rw[if_pos h]
 simp only[go_sem,simprocAttr,h9,hst1]
 refine cg.at [0,1,2,7,8] (by kernel_rfl) (λA=>A.env 9= .int .i64 w2∧A.st=σ1) (λhc=>?_) (λhc=>?_) λB2 ⟨h9,hst2⟩=>?_
 ·simp only[go_sem,simprocAttr]
  refine an.fn (AF s) ?_
  simp only[go_sem,simprocAttr,hst1]
  rw[hw2,if_pos (by simpa using hc)]
 ·simp only[go_sem,simprocAttr,h9,hst1]
  rw[hw2,if_neg (by simpa using hc)]
 simp only[go_sem,simprocAttr,h9,hst2]
 refine cg.at [0,1,7,8] (by kernel_rfl) (λA=>A.env 9= .int .i64 w3∧A.st=σ1) (λhc=>?_) (λhc=>?_) λB3 ⟨h9,hst3⟩=>?_
 ·simp only[go_sem,simprocAttr]
  refine an.fn (yC l) ?_
  simp only[go_sem,simprocAttr,hst2]
  rw[hw3,if_pos (by simpa using hc)]
 ·simp only[go_sem,simprocAttr,h9,hst2]
  rw[hw3,if_neg (by simpa using hc)]
 simp only[go_sem,simprocAttr,h9,hst3,bc,List.length_map]
 refine af.at [7,8] (.of (by kernel_rfl)) (λA=>A.env 9= .int .i64 (iG all s l)∧Ext σ1 A.st) ?_ λB4 ⟨h9,hst4⟩=>?_
 ·refine af.upto [0,7,8,61,62] (.of (by kernel_rfl)) s.length (λi A=>A.env 63= .int .i64 i∧A.env 9= .int .i64 (if w3=0∧(s.take i).any nin=true then 1 else w3)∧Ext σ1 A.st) 0 (Nat.zero_le _) ?_ λi B4 hi ⟨h63,h9,hst4⟩=>?_
  ·simp only[go_sem,simprocAttr,h9,hst3]
   exact⟨by simp,.refl _⟩
  simp only[go_sem,simprocAttr,h63,h9,List.length_map]
  refine⟨λhlt=>⟨hlt,?_⟩,λhge=>?_⟩
  ·obtain⟨x,hx⟩:=get_some hlt
   simp only[av hx]
   simp only[go_sem,simprocAttr,h63,h9,bH,bg,List.length_map]
   refine af.at [0,7,8,9,61,62,63] (.of (by kernel_rfl)) (λA=>A.env 12= .bool (all.any λp=>decide (p=x.pkg))∧Ext σ1 A.st) ?_ λB5 ⟨h12,hst5⟩=>?_
   ·refine af.upto [0,7,8,9,11,61,62,63,67,68] (.of (by kernel_rfl)) all.length (λj A=>A.env 69= .int .i64 j∧A.env 12= .bool ((all.take j).any λp=>decide (p=x.pkg))∧Ext σ1 A.st) 0 (Nat.zero_le _) ?_ λj B5 hj ⟨h69,h12,hst5⟩=>?_
    ·simp only[go_sem,simprocAttr]
     exact⟨rfl,hst4.app _⟩
    simp only[go_sem,simprocAttr,h69,h12,List.length_map]
    refine⟨λhlt2=>⟨hlt2,?_⟩,λhge2=>?_⟩
    ·obtain⟨p,hp2⟩:=get_some hlt2
     simp only[av hp2]
     simp only[go_sem,simprocAttr,h69,h12]
     refine aA.fnG (λ_=>Bk p x.pkg) ?_
     simp only[go_sem,simprocAttr,h69,h12]
     refine⟨hlt2,ah hlt2 (by rw[au];omega),?_,hst5.app _⟩
     rw[any_succ hp2]
     try rfl
    ·rw[List.take_of_length_le hge2]
     exact⟨rfl,hst5⟩
   simp only[go_sem,simprocAttr,h63,h9,h12]
   have hnx:nin x= !all.any λp=>decide (p=x.pkg):=by rw[hnin]
   rw[←hnx]
   refine⟨λhc=>⟨hlt,ah hlt (by rw[au];omega),?_,hst5⟩,λhc=>⟨hlt,ah hlt (by rw[au];omega),?_,hst5⟩⟩
   ·rw[any_succ hx]
    simp only[Bool.and_eq_true,beq_iff_eq]at hc
    obtain⟨h1,h2⟩:=hc
    have h3:w3=0:=by split at h1<;>omega
    rw[if_pos ⟨h3,by rw[h2,Bool.or_true]⟩]
   ·rw[any_succ hx]
    by_cases h3:w3=0
    ·by_cases h4:(s.take i).any nin=true
     ·rw[if_pos ⟨h3,h4⟩,if_pos ⟨h3,by rw[h4,Bool.true_or]⟩]
     ·rw[if_neg (λh=>h4 h.2)]at hc ⊢
      have h5:nin x=false:=by simpa[h3]using hc
      rw[if_neg (λh=>by have:=h.2;rw[h5,Bool.or_false]at this;exact h4 this)]
    ·rw[if_neg (λh=>h3 h.1),if_neg (λh=>h3 h.1)]
  ·rw[List.take_of_length_le hge,←hE]
   exact⟨rfl,hst4⟩
 ·have hext:Ext σ B4.st:=hx.trans hst4
  rcases hxv with⟨h0,rfl⟩|⟨h0,id,rfl⟩
  ·have hf:(iG all s l==0)=false:=by simpa using h0
   simp only[go_sem,simprocAttr,h9,hf]
   refine aA.fnG (λ_=>pE hW) ?_
   simp only[go_sem,simprocAttr]
   refine cO.ret ?_
   simp only[go_sem,simprocAttr]
   exact⟨_,.refl _,hext.le,.refl _,hext⟩
  ·have hf:(iG all s l==0)=true:=by simpa using h0
   simp only[go_sem,simprocAttr,h9,hf]
   refine aA.fnG (λ_=>pE hW) ?_
   simp only[go_sem,simprocAttr]
   refine cO.ret ?_
   simp only[go_sem,simprocAttr]
   exact⟨_,.refl _,hext.le,.refl _,hext⟩
end Go.Proofs.Tryz
end
