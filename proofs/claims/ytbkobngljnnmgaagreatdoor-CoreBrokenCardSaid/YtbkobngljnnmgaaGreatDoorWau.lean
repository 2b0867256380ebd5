/- What the last text of this claim rests on. No conditions. -/
import Derived.WalkKit
import Derived.Sort.Grow
import Derived.Sort.Row
import Derived.Test.YtbkobngljnnmgaaGreatDoorWad
import Derived.Test.YtbkobngljnnmgaaGreatDoorWah
import Derived.Test.YtbkobngljnnmgaaGreatDoorWap
import Derived.Test.YtbkobngljnnmgaaGreatDoorWas
import Derived.Test.YtbkobngljnnmgaaGreatDoorWat
set_option linter.unusedSimpArgs false
set_option linter.unusedVariables false
open List renaming length_map->acf,getElem?_eq_some_iff->acg,mem_of_getElem?->ach,take_of_length_le->aci,mem_cons_self->acj,getElem?_set_self->acm,getElem?_append_left->acn,mem_append->acp,mem_singleton->acq,length_range->acr,mem_map->acs,any_eq_false->acu,any_eq_true->acv,range_succ->acw
open Nat renaming zero_le->ack,le_refl->aco
section
namespace Go.Av
section
variable {P :Program}
@[go_sem] theorem Y3 (t t':TypeId)(v:AV):cI P .eql t (.loc t' v) .nil=if iO P t then .bool false else .undef:=by grind [cI,cR,lS,AV.iL]
@[go_sem] theorem Y2 (t t':TypeId)(v:AV):cJ P .eql t (.loc t' v) .nil=(iO P t=true):=by simp[cJ,cR,lS,AV.iL]
end
end Go.Av
end
section
namespace Go.Proofs.Tryz
open Go Go.Av
set_option maxRecDepth 10000
variable {W0 :World}
theorem qi (l:List Clause)(hl:l.length<=1048576)(hc: ∀c∈l,c.length<=1048576):ai prog W0 199 [aB l] (aB l):=by
 refine an [2] [] func199 rfl rfl ntmps199 rfl rfl (eh _) λhs σ=>?_
 simp only[go_sem,simprocAttr,aB,acf];refine ae.at [6,7] (λA=>∃ v,A.env 3=v/\aH σ A.st v 77 (l.map aF)) ?_ λB ⟨v,h3,hb⟩=>?_
 .refine ae.upto [6,7] l.length (λi A=>∃ v,A.env 3=v/\A.env 8= .int .i64 i/\aH σ A.st v 77 ((l.take i).map aF)) 0 (ack _) ?_ λi B hi ⟨v,h3,h8,hb⟩=>?_
  .simp only[go_sem,simprocAttr];simp[aH.nil,Ext.refl]
  simp only[go_sem,simprocAttr,h3,h8,acf];refine⟨λhlt=>⟨hlt,?_⟩,λhlt=>?_⟩
  .obtain⟨c,ha⟩:=get_some hlt;simp only[aw ha];simp only[go_sem,simprocAttr,aF];refine aj.fn (v7 c (hc c (ach ha))) ?_;simp only[go_sem,simprocAttr,hb.ok,hb.un,aF];refine bq.own 1048576 (by kernel_rfl) hb.bld (.lit _ _ _) (by grind) λv' σ' ha'=>?_
   have hb':=hb.app ha';simp only[go_sem,simprocAttr,h8];refine⟨hlt,_,rfl,ag hlt (by grind [au]),?_⟩;rw[ah ha,List.map_append];exact hb'
  grind
 simp only[go_sem,simprocAttr,h3];exact⟨hb.bS,hb.ext⟩
theorem kY {l:List Clause}(h:l.length<=12/\ ∀c∈l,lT c=true):l.length<=1048576/\ ∀c∈l,c.length<=1048576:=
 ⟨by omega,λc hc=>by grind [BG]⟩
theorem PU (p:Pkg)(hp:aS p=0):ai prog W0 136 [ay p] (ay p):=by
 have hg:=dz hp;refine mg [.cell 2 51] [] func136 rfl rfl ntmps136 rfl rfl (rj _) λhs σ=>?_
 simp only[go_sem,simprocAttr,ay];have g1:=kY hg.pre;have g2:=kY hg.dep;have g3:=kY hg.rcm;refine⟨.of (by kernel_rfl),aD.fn (qi p.pre g1.1 g1.2) ?_⟩;simp only[go_sem,simprocAttr];refine aD.fn (qi p.dep g2.1 g2.2) ?_;simp only[go_sem,simprocAttr];refine aD.fn (qi p.rcm g3.1 g3.2) ?_;simp only[go_sem,simprocAttr];refine⟨.of (by kernel_rfl),aD.fn (pq p.con (by grind [ux.con])) ?_⟩;simp only[go_sem,simprocAttr];refine aD.fn (pq p.brk (by grind [ux.brk])) ?_;simp only[go_sem,simprocAttr];refine aD.fn (Aa p.eI (by grind [ux.eI])) ?_;simp only[go_sem,simprocAttr]
def fq (l:List Pkg):AV:=.loc 201 (.agg 201 [aL l])
@[go_sem] theorem ab6 (gd:Option Bool)(l:List Pkg):okM gd (fq l)=True:=cr trivial
theorem XA (l:List Pkg):unm (fq l)=fq l:=rfl
theorem TZ (p:Pkg):unm (ay p)=ay p:=rfl
attribute [go_sem] XA TZ
theorem sv (l:List Pkg):ai prog W0 82 [fq l] (.int .i64 l.length):=by
 refine an [2] [] func82 rfl rfl ntmps82 rfl rfl (.int _ _) λhs σ=>?_
 simp only[go_sem,simprocAttr,fq,aL,acf]
 try exact .refl _
theorem Py (l:List Pkg)(i:Nat){p:Pkg}(hi:l[i]?=some p)(hp:aS p=0):ai prog W0 83 [fq l,.int .i64 i] (.tup [ay p,.bool true]):=by
 have hlt:=(acg.1 hi).1;refine mg [.cell 4 51,.tmp 5] [] func83 rfl rfl ntmps83 rfl rfl (.qT (rj _) (.bool _)) λhs σ=>?_
 simp only[go_sem,simprocAttr,fq,aL];refine aD.fnG (λ_=>sv l) ?_;simp only[go_sem,simprocAttr,acf];refine⟨λh=>absurd h (by grind),λ_=>⟨hlt,?_⟩⟩;simp only[aw hi];simp only[go_sem,simprocAttr,ay];refine aj.fn (PU p hp) ?_;simp only[go_sem,simprocAttr,ay]
def plB (l:List Pkg)(b:Pkg->Bool)(i:Nat):List Nat:=(List.range i).filter λi=>match l[i]? with
 |some p=>b p
 |none=>false
theorem wS {l:List Pkg}{b:Pkg->Bool}{i:Nat}{p:Pkg}(h:l[i]?=some p):plB l b (i+1)=plB l b i++if b p then [i]else []:=by
 grind [plB,acw]
theorem VW (l:List Pkg)(b:Pkg->Bool)(i:Nat):(plB l b i).length<=i:=by
 have:=List.length_filter_le (λi=>match l[i]? with|some p=>b p|none=>false) (List.range i)
 rwa [acr]at this
def br (l:List Pkg)(b:Pkg->Bool):List Nat:=plB l b l.length
theorem sj (l:List Pkg)(hl:l.length<=1048576)(b:Pkg->Bool)(g:FuncId)(caps:List AV)(hg: ∀p∈l,ai prog W0 g ([ay p]++caps) (.bool (b p))):ai prog W0 149 [fq l,.fn g caps] (.sl 3 ((br l b).map λi=>.int .i64 (i:Nat))):=by
 refine an [4] [] func149 rfl rfl ntmps149 rfl rfl (.sl λx hx=>by obtain⟨i,_,rfl⟩:=acs.1 hx;exact .int _ _) λhs σ=>?_
 simp only[go_sem,simprocAttr];refine aj.fn (sv l) ?_;simp only[go_sem,simprocAttr];refine ae.at [] (λA=>∃ v,A.env 5=v/\aH σ A.st v 3 ((br l b).map λi=>.int .i64 (i:Nat))) ?_ λB ⟨v,h5,hb⟩=>?_
 .refine ae.upto [0,1,8] l.length (λi A=>∃ v,A.env 5=v/\A.env 9= .int .i64 i/\aH σ A.st v 3 ((plB l b i).map λi=>.int .i64 (i:Nat))) 0 (ack _) ?_ λi B hi ⟨v,h5,h9,hb⟩=>?_
  .simp only[go_sem,simprocAttr];exact⟨_,rfl,aH.nil (.refl _) _⟩
  simp only[go_sem,simprocAttr,h5,h9];refine⟨λhlt=>?_,λhlt=>?_⟩
  .obtain⟨p,ha⟩:=get_some hlt;simp only[go_sem,simprocAttr,fq,aL,acf];simp only[aw ha];simp only[go_sem,simprocAttr];refine⟨hlt,aj.pure (hg p (ach ha)) ?_⟩;have hpl:=VW l b i;simp only[go_sem,simprocAttr,h5,h9,hb.ok,hb.un];refine⟨λhp=>?_,λhp=>?_⟩
   .refine bq.own 1048576 (by kernel_rfl) hb.bld (.lit _ _ _) (by grind) λv' σ' ha'=>?_
    have hb':=hb.app ha';simp only[go_sem,simprocAttr,h9];grind [ag,au,wS]
   grind [ag,au,wS]
  .have e:i=l.length:=by omega
   subst e;exact⟨_,rfl,hb⟩
 simp only[go_sem,simprocAttr,h5];exact⟨hb.bS,hb.ext⟩
theorem Q3 (l:List Nat):aW 0 (nN l):=.sl λx hx=>by obtain⟨i,_,rfl⟩:=acs.1 hx;exact .int _ _
theorem Rf (l:List Pkg)(hl:l.length<=1048576)(n:List UInt8):ai prog W0 86 [fq l,.str n] (nN (br l λp=>p.name==n)):=by
 refine an [4] [3] func86 rfl rfl ntmps86 rfl rfl (Q3 _) λhs σ=>?_
 simp only[go_sem,simprocAttr];refine aj.fn (sj l hl (λp=>p.name==n) 150 [.loc 9 (.str n)] λp _=>?_) ?_
 .refine an [3] [2] func150 rfl rfl ntmps150 rfl rfl (.bool _) λhs σ=>?_
  simp only[go_sem,simprocAttr,ay]
  try exact .refl _
 simp only[go_sem,simprocAttr,nN]
 try exact .refl _
theorem Ec (l:List Pkg)(hl:l.length<=1048576)(a:Atom):ai prog W0 125 [fq l,aU a] (nN (br l λp=>dc p a)):=by
 refine an [4] [3] func125 rfl rfl ntmps125 rfl rfl (Q3 _) λhs σ=>?_
 simp only[go_sem,simprocAttr,aU];refine aj.fn (sj l hl (λp=>dc p a) 192 [.loc 76 (aU a)] λp _=>?_) ?_
 .refine an [3] [2] func192 rfl rfl ntmps192 rfl rfl (.bool _) λhs σ=>?_
  simp only[go_sem,simprocAttr];refine aj.fn (vu p a) ?_;simp only[go_sem,simprocAttr]
  try exact .refl _
 simp only[go_sem,simprocAttr,nN]
 try exact .refl _
theorem Kr (l:List Pkg)(hl:l.length<=1048576)(n v:List UInt8):ai prog W0 116 [fq l,.str n,.str v] (.tup [.int .i64 (((br l λp=>p.name==n&&bt p.ver v).head?.getD 0:Nat):Int),.bool (br l λp=>p.name==n&&bt p.ver v).head?.isSome]):=by
 refine an [6,7] [4,5] func116 rfl rfl ntmps116 rfl rfl (.qT (.int _ _) (.bool _)) λhs σ=>?_
 simp only[go_sem,simprocAttr];refine aj.fn (sj l hl (λp=>p.name==n&&bt p.ver v) 183 [.loc 9 (.str n),.loc 9 (.str v)] λp _=>?_) ?_
 .refine an [4] [3] func183 rfl rfl ntmps183 rfl rfl (.bool _) λhs σ=>?_
  simp only[go_sem,simprocAttr,ay];refine aD.fnG (λ_=>nF p.ver v) ?_;simp only[go_sem,simprocAttr]
  try exact .refl _
 generalize br l _=ps;cases ps with
 |nil=>simp only[go_sem,simprocAttr];try exact .refl _
 |cons i r=>simp only[go_sem,simprocAttr];rw[show atV (AV.int IntKind.i64 i::List.map (λi:Nat=>AV.int IntKind.i64 (i:Int)) r) 0= .int .i64 i from rfl];exact .refl _
def uC (l:List Pkg)(i:Nat):Option (List UInt8):=match l[i]? with
 |some p=>if i=0\/(l[i-1]?.map Pkg.name)≠some p.name then some p.name else none
 |none=>none
def nmB (l:List Pkg)(i:Nat):List (List UInt8):=(List.range i).filterMap (uC l)
theorem vw (l:List Pkg)(i:Nat):nmB l (i+1)=nmB l i++(uC l i).toList:=by
 grind [nmB,acw]
theorem B8 (l:List Pkg)(i:Nat):(nmB l i).length<=i:=by
 have:=List.length_filterMap_le (uC l) (List.range i)
 rwa [acr]at this
theorem uO (u v:AV):oV true u v=u:=by
 unfold oV oR;grind [xn]
theorem zU (l:List (List UInt8)):aW 0 (.sl 9 (l.map .str)):=.sl λx hx=>by obtain⟨i,_,rfl⟩:=acs.1 hx;exact .str _
theorem O4 (l:List Pkg)(hl:l.length<=1048576):ai prog W0 85 [fq l] (.sl 9 ((nmB l l.length).map .str)):=by
 refine an [2] [] func85 rfl rfl ntmps85 rfl rfl (zU _) λhs σ=>?_
 simp only[go_sem,simprocAttr];refine aj.fn (sv l) ?_;simp only[go_sem,simprocAttr];refine ae.at [] (λA=>∃ v,A.env 3=v/\aH σ A.st v 9 ((nmB l l.length).map .str)) ?_ λB ⟨v,h3,hb⟩=>?_
 .refine ae.upto [0,6] l.length (λi A=>∃ v,A.env 3=v/\A.env 7= .int .i64 i/\aH σ A.st v 9 ((nmB l i).map .str)) 0 (ack _) ?_ λi B hi ⟨v,h3,h7,hb⟩=>?_
  .simp only[go_sem,simprocAttr];exact⟨_,rfl,aH.nil (.refl _) _⟩
  simp only[go_sem,simprocAttr,h3,h7,hb.ok,hb.un];refine⟨λhlt=>?_,λhlt=>?_⟩
  .obtain⟨p,ha⟩:=get_some hlt;have hnl:=B8 l i;rcases Nat.eq_zero_or_pos i with h0|h0
   .subst h0;have e0:atV (List.map ay l) 0=ay p:=aw (i:=0) ha;have hn0:uC l 0=some p.name:=by grind [uC]
    simp only[go_sem,simprocAttr,fq,aL,acf,e0,ay,uO];refine⟨.of (by kernel_rfl),hlt,?_⟩;refine bq.own 1048576 (by kernel_rfl) hb.bld (.lit _ _ _) (by simp_all) λv' σ' ha'=>?_
    have hb':=hb.app ha';simp only[go_sem,simprocAttr,h7];grind [vw]
   .obtain⟨q,hq⟩:=get_some (show i-1<l.length by omega);have w1:IntKind.i64.wrap ((i:Int)-1)=((i-1:Nat):Int):=by grind [aJ]
    have z1:((i:Int)==0)=false:=by grind
    have z2: ¬((i:Int)=0):=by omega
    have e0:atV (List.map ay l) i=ay p:=aw ha;have e1:atV (List.map ay l) ((i-1:Nat):Int)=ay q:=aw hq;have hn0:uC l i=if q.name≠p.name then some p.name else none:=by
     grind [uC]
    simp only[go_sem,simprocAttr,fq,aL,acf,w1,z1,z2,e0,e1,ay];refine⟨.of (by kernel_rfl),by omega,hlt,λhne=>⟨hlt,?_⟩,λhe=>⟨hlt,_,rfl,ag hlt (by grind [au]),?_⟩⟩
    .refine bq.own 1048576 (by kernel_rfl) hb.bld (.lit _ _ _) (by grind) λv' σ' ha'=>?_
     have hb':=hb.app ha';simp only[go_sem,simprocAttr,h7];grind [ag,au,vw]
    grind [vw]
  grind
 simp only[go_sem,simprocAttr,h3];exact⟨hb.bS,hb.ext⟩
theorem zu {f:Pkg->Pkg->Int}(hw:lY (ltF f))(σ:ab)(id n:Nat)(xs:List Pkg)(hn:n=xs.length)(hx:n<40)(hid:σ[id]?=some (cC xs))(g:FuncId)(caps:List AV)(hcmp:uh W0 f xs g caps):
  aP prog W0 137 [.row 51 id 0 n,.fn g caps] σ λr σ'=>∃ C,C.Perm xs/\dm (ltF f) C/\σ'=σ.set id (cC C):=by
 refine bY [] [] func137 rfl rfl ntmps137 rfl rfl λhs=>?_
 simp only[go_sem,simprocAttr];refine aj.goes (by simp only[go_sem,simprocAttr]) (L1 hw σ id n xs hn hx hid g caps hcmp) λr σ1 ⟨C,p,r,hσ⟩=>?_
 simp only[go_sem,simprocAttr];refine bu.normal ?_;simp only[go_sem,simprocAttr];exact⟨_,.refl _,by simp_all,C,p,r,hσ⟩
theorem pR (a b:List UInt8):ai prog W0 141 [.str a,.str b] (.int .i64 (bO a b)):=by
 refine an [4] [] func141 rfl rfl ntmps141 rfl rfl (.int _ _) λhs σ=>?_
 simp only[go_sem,simprocAttr];refine aj.fn (pT a b) ?_;simp only[go_sem,simprocAttr,rL]
 try exact .refl _
theorem Xm (p q:Pkg):ai prog W0 138 [ay p,ay q] (.int .i64 (gF p q)):=by
 refine an [4] [2,3] func138 rfl rfl ntmps138 rfl rfl (.int _ _) λhs σ=>?_
 simp only[go_sem,simprocAttr,ay];refine⟨.of (by kernel_rfl),aD.fn (Bj p.name q.name) ?_⟩;simp only[go_sem,simprocAttr];refine aD.fn (pR q.ver p.ver) ?_;simp only[go_sem,simprocAttr];refine aD.fn ((Sb [jI p.name q.name,bO q.ver p.ver]).bS (.cons (.lit _ _) .nil)) ?_;simp only[go_sem,simprocAttr];have e:orL [jI p.name q.name,bO q.ver p.ver]=gF p q:=by
  grind [gF,orL]
 rw[e];exact .refl _
theorem Vy {l:List Pkg}(hv:zk l):uh W0 yV l 138 []:=λa ha b hb=>by
 rw[KT (hv a ha) (hv b hb)];simp[Xm]
theorem JY {g:FuncId}{caps:List AV}:ai prog W0 137 [.aq,.fn g caps] (.tup []):=by
 have h1:ai prog W0 247 [.aq,.int .i64 0,.int .i64 0,.fn g caps] (.tup []):=by
  refine an [] [] func247 rfl rfl ntmps247 rfl rfl (.tup λx hx=>by cases hx) λhs σ=>?_
  simp only[go_sem,simprocAttr];refine ae.cB [0,1,2,3] (λk E=>E.env 8= .int .i64 1/\E.st=σ) 0 ?_ λk E ⟨h8,hst⟩=>?_
  .simp only[go_sem,simprocAttr]
  simp only[go_sem,simprocAttr,h8,hst]
  try exact .refl _
 have h2:ai prog W0 203 [.aq,.int .i64 0,.fn g caps] (.tup []):=by
  refine an [] [] func203 rfl rfl ntmps203 rfl rfl (.tup λx hx=>by cases hx) λhs σ=>?_
  simp only[go_sem,simprocAttr];refine ae.at [0,1,2,6] (λE=>E.env 7= .int .i64 0/\E.st=σ) ?_ λE ⟨h7,hst⟩=>?_
  .refine ae.cB [0,1,2,6] (λk E=>E.env 7= .int .i64 0/\E.env 8= .int .i64 20/\E.st=σ) 0 ?_ λk E ⟨h7,h8,hst⟩=>?_
   .simp only[go_sem,simprocAttr]
   simp only[go_sem,simprocAttr,h7,h8,hst]
  simp only[go_sem,simprocAttr,h7];refine aj.fn h1 ?_;simp only[go_sem,simprocAttr];refine ae.cB [0,1,2] (λk E=>E.env 6= .int .i64 20/\E.st=σ) 0 ?_ λk E ⟨h6,hst⟩=>?_
  .simp only[go_sem,simprocAttr,hst]
  simp only[go_sem,simprocAttr,h6,hst]
  try exact .refl _
 refine an [] [] func137 rfl rfl ntmps137 rfl rfl (.tup λx hx=>by cases hx) λhs σ=>?_
 simp only[go_sem,simprocAttr];refine aj.fn h2 ?_;simp only[go_sem,simprocAttr]
 try exact .refl _
def E9 (v:AV):Option bH:=some (.cells 201 [.agg 201 [v]])
structure Fo (σ st:ab)(ix:Nat)(v:AV)(xs:List Pkg):Prop where
 ext:Ext σ st
 low:σ.length<=ix
 at_:st[ix]?=some (E9 v)
 row:(v= .aq/\xs=[])\/ ∃rid,v= .row 51 rid 0 xs.length/\st[rid]?=some (cC xs)/\σ.length<=rid
theorem Kp (l:List Pkg):aW 0 (fq l):=.loc (.agg λx hx=>by
 grind [kA])
theorem VQ (l:List Pkg)(hp: ∀p∈l,iT p)(h0:aZ l=0):ai prog W0 78 [aL l] (.tup [fq (cO l),.int .i64 0]):=by
 have hm: ∀p∈l,aS p=0:=λp hp=>dT h0 hp
 have h24:=dF h0;have hv:=(fD h0).2;refine xJ [.tmp 2,.tmp 3] [7,2000029,4000008] func78 rfl rfl ntmps78 rfl rfl (.qT (Kp _) (.int _ _)) λhs σ=>?_
 simp only[go_sem,simprocAttr];refine aj.fn (pz l hp) ?_;simp only[go_sem,simprocAttr,h0,aL,acf];refine ae.at [5] (λA=>∃ v,Fo σ A.st σ.length v l) ?_ λB ⟨v,hI⟩=>?_
 .refine ae.upto [5,15,16] l.length (λi A=>A.env 17= .int .i64 i/\ ∃v,Fo σ A.st σ.length v (l.take i)) 0 (ack _) ?_ λi B hi ⟨h17,v,hI⟩=>?_
  .simp only[go_sem,simprocAttr];exact⟨.aq,(Ext.refl _).app _,aco _,by simp[E9],.inl ⟨rfl,rfl⟩⟩
  simp only[go_sem,simprocAttr,h17,acf];refine⟨λhlt=>?_,λhge=>?_⟩
  .obtain⟨p,ha⟩:=get_some hlt;simp only[aw ha];have hat:=hI.at_;have hvn:df v:=by rcases hI.row with⟨rfl,_⟩|⟨_,rfl,_⟩<;>trivial
   have c1:(B.st++[none])[σ.length]?=some (E9 v):=(acn (acg.1 hat).1).trans hat;have hil:(l.take i).length=i:=by simp_all
   unfold E9 at c1;simp only[go_sem,simprocAttr,ak c1];refine⟨hlt,.of (by kernel_rfl),aD.fn (PU p (hm p (ach ha))) ?_⟩;have hR:dX (B.st++[none]) v 51 ((l.take i).map ay):=by
    rcases hI.row with⟨h1,h2⟩|⟨rid,h1,h2,h3⟩
    .exact .inl ⟨h1,by simp_all⟩
    .refine .inr (.inr ⟨rid,0,_,_,h1,(acn (acg.1 h2).1).trans h2,by simp,?_⟩);simp[aci]
   have hkl:(cn v (B.st++[none])).length=(B.st++[none]).length:=by unfold cn;grind
   have hk1:(cn v (B.st++[none]))[σ.length]?=some (E9 v):=by
    rcases hI.row with⟨rfl,h2⟩|⟨rid,rfl,h2,h3⟩
    .exact c1
    .have hne:rid≠σ.length:=λe=>by grind [cC]
     exact(List.getElem?_set_ne hne).trans c1
   have hfp:bb prog 51 (ay p)=true:=by kernel_rfl
   simp only[go_sem,simprocAttr,cr hvn,cX hvn,hfp];refine bq.row 1048576 (by kernel_rfl) hR (.lit _ _ _) (by grind) (λh=>by cases h) λ_=>?_
   have c2:(cn v (B.st++[none])++[some (.cells 51 ((l.take i).map ay++[ay p]))])[σ.length]?=some (E9 v):=(acn (acg.1 hk1).1).trans hk1;unfold E9 at c2;simp only[go_sem,simprocAttr,h17,ak c2,aC c2];refine⟨hlt,ag hlt (by grind [au]),_,?_,aco _,acm (acg.1 c2).1,.inr ⟨B.st.length+1,?_,?_,?_⟩⟩
   .grind [Ext.set,Ext.app,cn,Fo.row,Fo.ext]
   .grind
   .have hne:σ.length≠B.st.length+1:=by grind
    simp_all[cC,ah]
   grind
  grind
 have hat:=hI.at_;unfold E9 at hat;rcases hI.row with⟨rfl,rfl⟩|⟨rid,rfl,hr1,hr2⟩
 .simp only[go_sem,simprocAttr,ak hat];refine aj.fn JY ?_;simp only[go_sem,simprocAttr];refine cW.via (.inl rfl) (.bS σ.length 0 (z':=.agg 201 [.sl 51 []]) hat rfl (.agg rfl λi a b ha hb=>by
   match i,ha,hb with
   |0,ha,hb=>cases ha;cases hb;exact .aq _) (.pt 2 rfl (acm (acg.1 hat).1) (.refl _))) ?_
  refine⟨⟨trivial,trivial,trivial⟩,?_,?_⟩
  .exact .refl _
  .exact(hI.ext.set (aco _) _).set (aco _) _
 .simp only[go_sem,simprocAttr,ak hat];refine aj.goes (by simp only[go_sem,simprocAttr]) (zu Rm _ rid l.length l rfl (by omega) hr1 _ _ (Vy hv)) λr σ1 ⟨C,p,r,hσ⟩=>?_
  have hC:C=cO l:=Wn (fD h0).1 hv (NY (λx hx=>hv x (p.subset hx)) r) (kp hv) p (ey l);have hne:rid≠σ.length:=λe=>by grind [cC]
  have hrl:=(acg.1 hr1).1;have hat2:σ1[σ.length]?=some (some (.cells 201 [.agg 201 [.row 51 rid 0 l.length]])):=by simp_all
  have hr3:σ1[rid]?=some (some (.cells 51 (C.map ay))):=by rw[hσ];exact acm hrl
  simp only[go_sem,simprocAttr];have hlen:C.length=l.length:=p.length_eq;refine cW.via (.inl rfl) (.cell (t:=23) (o:=0) σ.length 0 [0] hat2 rfl rfl hr3 (by simp_all) hne (by kernel_rfl) (.pt 2 rfl (acm (by rw[List.length_set];exact(acg.1 hat2).1)) (.refl _))) ?_;refine⟨⟨trivial,trivial,trivial⟩,?_,?_⟩
  .have e:List.take l.length (List.drop 0 (List.map ay C))=List.map ay (cO l):=by
    grind [aci]
   show dj (.tup [.loc 201 (.agg 201 [.sl 51 (List.take l.length (List.drop 0 (List.map ay C)))]),.int .i64 0]) _;rw[e];exact .refl _
  .have hx:Ext σ σ1:=by grind [Ext.set,Fo.ext]
   exact((hx.set hr2 _).set (aco _) _).set (aco _) _
theorem sA (l:List Pkg)(hp: ∀p∈l,iT p):ai prog W0 78 [aL l] (if aZ l=0 then .tup [fq (cO l),.int .i64 0]else .tup [.nil,.int .i64 (aZ l)]):=by
 split
 .grind [VQ]
 .rename_i h0;refine xJ [.tmp 2,.tmp 3] [7,2000029,4000008] func78 rfl rfl ntmps78 rfl rfl (.qT .nil (.int _ _)) λhs σ=>?_
  simp only[go_sem,simprocAttr];refine aj.fn (pz l hp) ?_;simp only[go_sem,simprocAttr,h0];refine cW.ret ?_;simp only[go_sem,simprocAttr]
def ck (a:aM):AV:=.agg 66 [.int .i64 a.kind,.str a.name,.str a.ver]
def bC (l:List aM):AV:=.sl 66 (l.map ck)
@[go_sem] theorem aac (gd:Option Bool)(l:List aM):okM gd (bC l)=True:=eq_true trivial
@[go_sem] theorem aan (l:List aM):unm (bC l)=bC l:=rfl
@[go_sem] theorem Z6 (gd:Option Bool)(l:List aA):okM gd (aK l)=True:=eq_true trivial
theorem Rk (l:List aA):unm (aK l)=aK l:=rfl
theorem PX (l:List Pkg):unm (aL l)=aL l:=rfl
attribute [go_sem] Rk PX
theorem df.ask (a:aM):df (ck a):=trivial
@[go_sem] theorem abl (gd:Option Bool)(a:aM):okM gd (ck a)=True:=eq_true trivial
@[go_sem] theorem abt (a:aM):unm (ck a)=ck a:=rfl
@[go_sem] theorem abp (gd:Option Bool)(a:aA):okM gd (bf a)=True:=eq_true trivial
@[go_sem] theorem abo (a:aA):unm (bf a)=bf a:=rfl
theorem J8 (a:aM):aW 0 (ck a):=.agg λx hx=>by
 simp only[List.mem_cons,List.not_mem_nil,or_false]at hx;rcases hx with rfl|rfl|rfl
 .exact .int _ _
 .exact .str _
 .exact .str _
theorem aag {α:Type}(enc:α->AV)(hp: ∀a,df (enc a))(l:List α)(q:α->Bool)(g:FuncId)(caps:List AV)(h: ∀a∈l,ai prog W0 g ([enc a]++caps) (.bool (q a))):
  ai prog W0 286 [.sl 148 (l.map enc),.fn g caps] (.int .i64 (iS q l)):=by
 refine an [4] [] func286 rfl rfl ntmps286 rfl rfl (.int _ _) λhs σ=>?_
 have hl:=(aQ (hs _ (acj ..))).1;simp only[go_sem,simprocAttr];refine ae.upto [0,1,7] l.length (λi A=>A.env 8= .int .i64 i/\A.st=σ/\ ∀a∈l.take i,q a=false) 0 (ack _) ?_ λi B hi ⟨h8,hst,hI⟩=>?_
 .simp only[go_sem,simprocAttr]
  all_goals simp
 simp only[go_sem,simprocAttr,h8,hst,acf];refine⟨λhc=>⟨hc,?_⟩,λhc=>az ?_⟩
 .obtain⟨a,ha⟩:=get_some hc;simp only[aw ha,cr (hp a),cX (hp a),true_and];refine aj.pure (h a (ach ha)) ?_;simp only[go_sem,simprocAttr,h8,hst];refine⟨λhq=>az (gf ha hq hI).symm,λhq=>⟨hc,ag hc hl,?_⟩⟩;rw[ah ha];intro b hb;rcases acp.1 hb with hb|hb
  .exact hI b hb
  .rw[acq.1 hb];exact hq
 .rw[dM]
  rwa [aci hc]at hI
theorem aai {α:Type}(enc:α->AV)(hp: ∀a,df (enc a))(l:List α)(q:α->Bool)(g:FuncId)(caps:List AV)(h: ∀a∈l,ai prog W0 g ([enc a]++caps) (.bool (q a))):
  ai prog W0 208 [.sl 66 (l.map enc),.fn g caps] (.int .i64 (iS q l)):=by
 refine an [4] [] func208 rfl rfl ntmps208 rfl rfl (.int _ _) λhs σ=>?_
 have hl:=(aQ (hs _ (acj ..))).1;simp only[go_sem,simprocAttr];refine ae.upto [0,1,7] l.length (λi A=>A.env 8= .int .i64 i/\A.st=σ/\ ∀a∈l.take i,q a=false) 0 (ack _) ?_ λi B hi ⟨h8,hst,hI⟩=>?_
 .simp only[go_sem,simprocAttr]
  all_goals simp
 simp only[go_sem,simprocAttr,h8,hst,acf];refine⟨λhc=>⟨hc,?_⟩,λhc=>az ?_⟩
 .obtain⟨a,ha⟩:=get_some hc;simp only[aw ha,cr (hp a),cX (hp a),true_and];refine aj.pure (h a (ach ha)) ?_;simp only[go_sem,simprocAttr,h8,hst];refine⟨λhq=>az (gf ha hq hI).symm,λhq=>⟨hc,ag hc hl,?_⟩⟩;rw[ah ha];intro b hb;rcases acp.1 hb with hb|hb
  .exact hI b hb
  .rw[acq.1 hb];exact hq
 .rw[dM]
  rwa [aci hc]at hI
theorem aae {α:Type}(enc:α->AV)(hp: ∀a,df (enc a))(l:List α)(q:α->Bool)(g:FuncId)(caps:List AV)(h: ∀a∈l,ai prog W0 g ([enc a]++caps) (.bool (q a))):
  ai prog W0 252 [.sl 148 (l.map enc),.fn g caps] (.bool (l.any q)):=by
 refine an [4] [] func252 rfl rfl ntmps252 rfl rfl (.bool _) λhs σ=>?_
 simp only[go_sem,simprocAttr];refine aj.fn (aag enc hp l q g caps h) ?_;simp only[go_sem,simprocAttr];exact ar jv
theorem WD {α:Type}(enc:α->AV)(hp: ∀a,df (enc a))(l:List α)(q:α->Bool)(g:FuncId)(caps:List AV)(h: ∀a∈l,ai prog W0 g ([enc a]++caps) (.bool (q a))):
  ai prog W0 153 [.sl 66 (l.map enc),.fn g caps] (.bool (l.any q)):=by
 refine an [4] [] func153 rfl rfl ntmps153 rfl rfl (.bool _) λhs σ=>?_
 simp only[go_sem,simprocAttr];refine aj.fn (aai enc hp l q g caps h) ?_;simp only[go_sem,simprocAttr];exact ar jv
def NoB {α:Type}(q:α->Bool)(l:List α)(i:Nat):Prop:=∀ b∈l.take i,q b=false
theorem NoB.zero {α:Type}(q:α->Bool)(l:List α):NoB q l 0:=λb hb=>by simp at hb
theorem NoB.succ {α:Type}{l:List α}{i:Nat}{a:α}{q:α->Bool}(hI:NoB q l i)(ha:l[i]?=some a)(hq:q a=false):NoB q l (i+1):=by
 unfold NoB;rw[ah ha];intro b hb;rcases acp.1 hb with hb|hb
 .exact hI b hb
 simp_all
theorem NoB.all {α:Type}{l:List α}{i:Nat}{q:α->Bool}(hI:NoB q l i)(h:l.length<=i): ∀b∈l,q b=false:=by
 grind [NoB,aci]
theorem nE (l:List aA)(n:List UInt8):ai prog W0 89 [aK l,.str n] (.tup [.int .i64 (if iS (λx:aA=>x.pkg.name==n) l<0 then 0 else iS (λx:aA=>x.pkg.name==n) l),.bool (decide (0<=iS (λx:aA=>x.pkg.name==n) l))]):=by
 refine an [4,5] [7] func89 rfl rfl ntmps89 rfl rfl (.qT (.int _ _) (.bool _)) λhs σ=>?_
 have hl:=(aQ (hs _ (acj ..))).1;simp only[go_sem,simprocAttr,aK,acf];refine ae.upto [1,8,9] l.length (λi A=>A.env 10= .int .i64 i/\Ext σ A.st/\NoB (λx:aA=>x.pkg.name==n) l i) 0 (ack _) ?_ λi B hi ⟨h10,hst,hI⟩=>?_
 .simp only[go_sem,simprocAttr];simp[Ext.refl,NoB.zero]
 simp only[go_sem,simprocAttr,h10,acf];refine⟨λhc=>⟨hc,?_⟩,λhc=>?_⟩
 .obtain⟨a,ha⟩:=get_some hc;simp only[aw ha];simp only[go_sem,simprocAttr,bf,ay];refine⟨λhq=>⟨?_,hst.app _⟩,λhq=>⟨hc,ag hc hl,hst.app _,hI.succ ha (by simp_all)⟩⟩;rw[gf ha (by simp_all) hI,if_neg (by omega),decide_eq_true (by omega)];exact .refl _
 .rw[dM (hI.all hc)];exact⟨.refl _,hst⟩
theorem QC (l:List aA)(n:List UInt8):ai prog W0 21 [aK l,.str n] (.int .i64 (iS (λx:aA=>x.pkg.name==n) l)):=by
 refine an [4] [6] func21 rfl rfl ntmps21 rfl rfl (.int _ _) λhs σ=>?_
 have hl:=(aQ (hs _ (acj ..))).1;simp only[go_sem,simprocAttr,aK,acf];refine ae.upto [1,7,8] l.length (λi A=>A.env 9= .int .i64 i/\Ext σ A.st/\NoB (λx:aA=>x.pkg.name==n) l i) 0 (ack _) ?_ λi B hi ⟨h10,hst,hI⟩=>?_
 .simp only[go_sem,simprocAttr];exact⟨.refl _,.zero _ _⟩
 simp only[go_sem,simprocAttr,h10,acf];refine⟨λhc=>⟨hc,?_⟩,λhc=>?_⟩
 .obtain⟨a,ha⟩:=get_some hc;simp only[aw ha];simp only[go_sem,simprocAttr,bf,ay,h10];refine⟨λhq=>⟨?_,hst.app _⟩,λhq=>⟨hc,ag hc hl,hst.app _,hI.succ ha (by simpa using hq)⟩⟩;rw[gf ha (by simpa using hq) hI];exact .refl _
 .rw[dM (hI.all hc)];exact⟨.refl _,hst⟩
theorem Va (l:List aM)(k:Int):ai prog W0 24 [bC l,.int .i64 k] (.bool (l.any λa=>a.kind==k)):=by
 refine an [4] [6] func24 rfl rfl ntmps24 rfl rfl (.bool _) λhs σ=>?_
 have hl:=(aQ (hs _ (acj ..))).1;simp only[go_sem,simprocAttr,bC,acf];refine ae.upto [1,7,8] l.length (λi A=>A.env 9= .int .i64 i/\Ext σ A.st/\NoB (λa:aM=>a.kind==k) l i) 0 (ack _) ?_ λi B hi ⟨h10,hst,hI⟩=>?_
 .simp only[go_sem,simprocAttr];exact⟨.refl _,.zero _ _⟩
 simp only[go_sem,simprocAttr,h10,acf];refine⟨λhc=>⟨hc,?_⟩,λhc=>?_⟩
 .obtain⟨a,ha⟩:=get_some hc;simp only[aw ha];simp only[go_sem,simprocAttr,ck,h10];refine⟨λhq=>⟨ar ?_,hst.app _⟩,λhq=>⟨hc,ag hc hl,hst.app _,hI.succ ha (by simpa using hq)⟩⟩;exact(acv.2 ⟨a,ach ha,by simpa using hq⟩).symm
 .refine⟨ar ?_,hst⟩;exact(acu.2 λx hx=>by simpa using hI.all hc x hx).symm
theorem A4 (l:List aM)(k:Int):ai prog W0 72 [bC l,.int .i64 k] (.bool (l.any λa=>a.kind==k)):=by
 refine an [4] [6] func72 rfl rfl ntmps72 rfl rfl (.bool _) λhs σ=>?_
 have hl:=(aQ (hs _ (acj ..))).1;simp only[go_sem,simprocAttr,bC,acf];refine ae.upto [1,7,8] l.length (λi A=>A.env 9= .int .i64 i/\Ext σ A.st/\NoB (λa:aM=>a.kind==k) l i) 0 (ack _) ?_ λi B hi ⟨h10,hst,hI⟩=>?_
 .simp only[go_sem,simprocAttr];exact⟨.refl _,.zero _ _⟩
 simp only[go_sem,simprocAttr,h10,acf];refine⟨λhc=>⟨hc,?_⟩,λhc=>?_⟩
 .obtain⟨a,ha⟩:=get_some hc;simp only[aw ha];simp only[go_sem,simprocAttr,ck,h10];refine⟨λhq=>⟨ar ?_,hst.app _⟩,λhq=>⟨hc,ag hc hl,hst.app _,hI.succ ha (by simpa using hq)⟩⟩;exact(acv.2 ⟨a,ach ha,by simpa using hq⟩).symm
 .refine⟨ar ?_,hst⟩;exact(acu.2 λx hx=>by simpa using hI.all hc x hx).symm
def eV (l:List aM):Bool:=(l.any λa=>a.kind==3)||l.any λa=>a.kind==4
theorem IQ (l:List aM):ai prog W0 81 [bC l] (.bool (eV l)):=by
 refine an [2] [] func81 rfl rfl ntmps81 rfl rfl (.bool _) λhs σ=>?_
 simp only[go_sem,simprocAttr];refine aj.fn (A4 l 3) ?_;simp only[go_sem,simprocAttr];refine aD.fnG (λ_=>A4 l 4) ?_;simp only[go_sem,simprocAttr,eV]
 try exact .refl _
def pF :aM:=⟨0,[],[]⟩
theorem js {α:Type}{l:List α}{i:Nat}{a:α}{q:α->Bool}(ha:l[i]?=some a)(hq:q a=true)(hI:NoB q l i):l.find? q=some a:=by
 obtain⟨hi,he⟩:=acg.1 ha;refine List.find?_eq_some_iff_getElem.2 ⟨hq,i,hi,he,λj hj=>?_⟩;rw[hI _ (List.mem_iff_getElem.2 ⟨j,by grind,by simp_all⟩)];rfl
theorem QZ (p:Pkg)(all:List Pkg)(h24:all.length<=1048576):ai prog W0 146 [ay p,aL all] (.int .i64 (dG all p)):=by
 refine an [4] [2,7] func146 rfl rfl ntmps146 rfl rfl (.int _ _) λhs σ=>?_
 simp only[go_sem,simprocAttr,aL,acf];refine ae.at [] (λA=>A.env 5= .int .i64 (dG all p)/\Ext σ A.st) ?_ λB ⟨h5,hst⟩=>?_
 .refine ae.upto [2,8,9] all.length (λi A=>A.env 10= .int .i64 i/\A.env 5= .int .i64 (dG (all.take i) p)/\Ext σ A.st/\dG (all.take i) p<=i) 0 (ack _) ?_ λi B hi ⟨h10,h5,hst,hle⟩=>?_
  .simp only[go_sem,simprocAttr];simp[dG,Ext.refl]
  simp only[go_sem,simprocAttr,h10,h5,acf];refine⟨λhc=>⟨hc,?_⟩,λhc=>?_⟩
  .obtain⟨q,hq⟩:=get_some hc;have hn:dG (all.take (i+1)) p=dG (all.take i) p+if (q.name==p.name&&decide (0<bO q.ver p.ver))=true then 1 else 0:=by
    unfold dG;rw[ah hq,List.filter_append,List.length_append];congr 1;rw[List.filter_cons];split<;>rfl
   simp only[aw hq];simp only[go_sem,simprocAttr,ay,h10,h5];refine aD.fnG (λ_=>pR q.ver p.ver) ?_;simp only[go_sem,simprocAttr,h10,h5];refine⟨λhb=>⟨hc,ag hc (by rw[au];omega),?_,hst.app _,?_⟩,λhb=>⟨hc,ag hc (by rw[au];omega),?_,hst.app _,?_⟩⟩
   .rw[hn,if_pos hb,ko (N:=1048577) (by omega) (by rw[au];omega)]
   .rw[hn,if_pos hb];omega
   .rw[hn,if_neg (by simp[hb])];rfl
   .rw[hn,if_neg (by simp[hb])];omega
  .rw[aci hc];exact⟨rfl,hst⟩
 simp only[go_sem,simprocAttr,h5];exact hst
set_option maxHeartbeats 1000000
theorem Fz {l:List Pkg}{b:Pkg->Bool}:(br l b).head?=l.findIdx? b:=by
 have key: ∀i,i<=l.length->(plB l b i).head?=(l.take i).findIdx? b:=by
  intro i
  induction i with
  |zero=>simp[plB]
  |succ i ih=>
   intro hi;obtain⟨p,hp⟩:=get_some (show i<l.length by omega);rw[wS hp,ah hp,List.head?_append,ih (by omega),List.findIdx?_append];grind
 have:=key l.length (aco _)
 rwa [List.take_length]at this
theorem VP (l:List Pkg)(n v:List UInt8):(br l λp=>p.name==n&&bt p.ver v).head?=sx l n v:=Fz
theorem Ho (all:List Pkg)(h0:aZ all=0):ai prog W0 122 [aL all,fq (cO all)] (.bool (decide (all=cO all))):=by
 have h24:=dF h0;have hsl:(cO all).length=all.length:=(ey all).length_eq;refine an [4] [6] func122 rfl rfl ntmps122 rfl rfl (.bool _) λhs σ=>?_
 have hl:=(aQ (hs _ (acj ..))).1;simp only[go_sem,simprocAttr,aL,acf];refine ae.upto [1,9,10] all.length (λi A=>A.env 11= .int .i64 i/\Ext σ A.st/\ ∀k p,k<i->all[k]?=some p->sx (cO all) p.name p.ver=some k) 0 (ack _) ?_ λi B hi ⟨h11,hst,hI⟩=>?_
 .simp only[go_sem,simprocAttr];exact .refl _
 simp only[go_sem,simprocAttr,h11,acf];refine⟨λhc=>⟨hc,?_⟩,λhc=>⟨ar (decide_eq_true ((tP h0).1 λk p hk=>hI k p (by grind) hk)).symm,hst⟩⟩
 .obtain⟨p,hp⟩:=get_some hc;simp only[aw hp];simp only[go_sem,simprocAttr,ay];refine aj.fn (Kr (cO all) (by omega) p.name p.ver) ?_;rw[VP];simp only[go_sem,simprocAttr,h11];have hno:sx (cO all) p.name p.ver≠some i->all≠cO all:=λh e=>h ((tP h0).2 e i p hp)
  cases hf:sx (cO all) p.name p.ver with
  |none=>
   simp only[go_sem,simprocAttr];exact⟨ar (decide_eq_false (hno (by simp_all))).symm,hst.app _⟩
  |some k=>
   simp only[go_sem,simprocAttr,Option.getD_some];refine⟨λhne=>⟨ar (decide_eq_false (hno (by simp_all))).symm,hst.app _⟩,λhe=>⟨hc,ag hc (by omega),hst.app _,λj q hj hq=>?_⟩⟩;grind
def UX (n:Nat)(cls:List (List Int)):AV:=.loc 248 (.agg 248 [.int .i64 n,FR cls])
@[go_sem] theorem abq (n:Nat)(cls:List (List Int)):unm (UX n cls)=UX n cls:=rfl
def abz (n:Nat)(cls:List (List Int)):AV:=.loc 188 (.agg 188 [.int .i64 n,UX n cls])
def marks (n:Nat):List Int->List Bool->Option (List Bool)
 |[],m=>some m
 |i::r,m=>if 0<=i/\i<n then(if (m[i.toNat]?).getD false=true then none else marks n r (m.set i.toNat true))else none
def jX (all:List Pkg)(c:Clause):List Int:=c.flatMap λa=>(br all λq=>dc q a).map fO
theorem uT {l:List Pkg}{b:Pkg->Bool}{k:Nat}:k∈br l b↔ ∃q,l[k]?=some q/\b q=true:=by
 grind [br,plB]
theorem Mm {c:Clause}{all:List Pkg}{x:Int}:x∈jW c 0 all↔ ∃k q,all[k]?=some q/\c.any (dc q)=true/\x=fO k:=by
 have key: ∀(l:List Pkg) (i:Nat),x∈jW c i l↔ ∃k q,l[k]?=some q/\c.any (dc q)=true/\x=fO (i+k):=by
  intro l
  induction l with
  |nil=>simp[jW]
  |cons p r ih=>
   intro i;rw[jW,acp,ih];constructor
   .rintro(h|⟨k,q,h1,h2,h3⟩)
    .split at h
     .rename_i hs;simp at h;exact⟨0,p,rfl,hs,by omega⟩
     simp_all
    .exact⟨k+1,q,by simp_all,h2,by grind⟩
   grind
 simp_all
theorem zV {c:Clause}{all:List Pkg}{x:Int}:x∈jX all c↔x∈jW c 0 all:=by
 grind [Mm,jX,uT]
end Go.Proofs.Tryz
end
section
namespace Go.Proofs.Tryz
open Go Go.Av Go.Sort
set_option maxRecDepth 100000
set_option maxHeartbeats 2000000
theorem Xb (a:Int)(w:World):Calls prog 332 #[.int .i64 a] w λe w'=>e= .returned (.bool false)/\w'=w:=by
 go_enter func332,ntmps332
 go_wp2
 go_ret
 exact⟨rfl,rfl⟩
theorem YE (a b:Int)(w:World):Calls prog 297 #[.int .i64 a,.int .i64 b] w λe w'=>e= .returned (.int .i64 (sgn a b))/\w'=w:=by
 have h1:=λx W=>Xb x W
 unfold sgn
 go_enter func297,ntmps297
 go_wp2_with (go_at_call 332;refine(h1 _ _).mono ?_;rintro e w' ⟨rfl,rfl⟩)
 all_goals go_ret
 all_goals simp_all
theorem Xh (a:Int)(w:World):Calls prog 298 #[.int .u32 a] w λe w'=>e= .returned (.bool false)/\w'=w:=by
 go_enter func298,ntmps298
 go_wp2
 go_ret
 exact⟨rfl,rfl⟩
theorem YG (a b:Int)(w:World):Calls prog 257 #[.int .u32 a,.int .u32 b] w λe w'=>e= .returned (.int .i64 (sgn a b))/\w'=w:=by
 have h1:=λx W=>Xh x W
 unfold sgn
 go_enter func257,ntmps257
 go_wp2_with (go_at_call 298;refine(h1 _ _).mono ?_;rintro e w' ⟨rfl,rfl⟩)
 all_goals go_ret
 all_goals simp_all
theorem XZ (a:Int)(w:World):Calls prog 278 #[.int .u64 a] w λe w'=>e= .returned (.bool false)/\w'=w:=by
 go_enter func278,ntmps278
 go_wp2
 go_ret
 exact⟨rfl,rfl⟩
theorem Xl (a b:Int)(w:World):Calls prog 239 #[.int .u64 a,.int .u64 b] w λe w'=>e= .returned (.int .i64 (sgn a b))/\w'=w:=by
 have h1:=λx W=>XZ x W
 unfold sgn
 go_enter func239,ntmps239
 go_wp2_with (go_at_call 278;refine(h1 _ _).mono ?_;rintro e w' ⟨rfl,rfl⟩)
 all_goals go_ret
 all_goals simp_all
theorem XX (a:Int)(w:World):Calls prog 279 #[.int .i64 a] w λe w'=>e= .returned (.bool false)/\w'=w:=by
 go_enter func279,ntmps279
 go_wp2
 go_ret
 exact⟨rfl,rfl⟩
theorem Yi (a b:Int)(w:World):Calls prog 240 #[.int .i64 a,.int .i64 b] w λe w'=>e= .returned (.int .i64 (sgn a b))/\w'=w:=by
 have h1:=λx W=>XX x W
 unfold sgn
 go_enter func240,ntmps240
 go_wp2_with (go_at_call 279;refine(h1 _ _).mono ?_;rintro e w' ⟨rfl,rfl⟩)
 all_goals go_ret
 all_goals simp_all
theorem aar (l:Int)(hl:l.natAbs<=1000000)(w:World):Calls prog 235 #[.int .i64 l] w λe w'=>e= .returned (.int .u64 (l.natAbs:Nat))/\w'=w:=by
 have e1:l<0->IntKind.u64.wrap (-(IntKind.u64.wrap l))=(l.natAbs:Int):=λh=>by grind [IntKind.wrap,IntKind.bits]
 have e2: ¬l<0->IntKind.u64.wrap l=(l.natAbs:Int):=λh=>by grind [IntKind.wrap,IntKind.bits]
 go_enter func235,ntmps235
 go_wp2
 all_goals go_ret
 all_goals simp_all
theorem Z7 (a b:Int)(B:Nat)(w:World)(h0:w.cell? ⟨B,0,none⟩=some (.int .i64 a))(h1:w.cell? ⟨B,1,none⟩=some (.int .i64 b)):Calls prog 139 #[.slice (some ⟨B,0,none⟩) 2 2] w λe w'=>e= .returned (.int .i64 (orL [a,b]))/\w'=w:=by
 obtain⟨r,hr⟩: ∃r,r=orL [a,b]:=⟨_,rfl⟩;rw[<-hr];have f1:a≠0->r=a:=λh=>by grind [orL]
 have f2:a=0->r=b:=λh=>by grind [orL]
 clear hr
 go_enter func139,ntmps139
 go_wp2
 refine wp_loop_rounds 3 ?_;rw[rounds_succ]
 go_wp2
 all_goals (try (rw[rounds_succ];go_wp2))
 all_goals (try (rw[rounds_succ];go_wp2))
 all_goals (try go_ret)
 all_goals refine⟨?_,rfl⟩
 all_goals simp_all
theorem Xg (a b:Int)(ha:a.natAbs<=1000000)(hb:b.natAbs<=1000000)(w:World):Calls prog 238 #[.int .i64 a,.int .i64 b] w λe w'=>e= .returned (.int .i64 (orL [sgn (a.natAbs:Nat) (b.natAbs:Nat),sgn a b]))/\ ∃q os,w'=grow (w.drewN q) os:=by
 have c1: ∀(W:World) (u v:Value),(W.alloc (.cells #[u,v] 3)).cell? ⟨W.heap.size,0,none⟩=some u:=λW u v=>by simp_all
 have c2: ∀(W:World) (u v:Value),(W.alloc (.cells #[u,v] 3)).cell? ⟨W.heap.size,1,none⟩=some v:=λW u v=>by simp_all
 go_enter func238,ntmps238
 go_wp2_with (first|(go_at_call 235;refine(aar _ (by assumption) _).mono ?_;rintro e w' ⟨rfl,rfl⟩)|(go_at_call 239;refine(Xl _ _ _).mono ?_;rintro e w' ⟨rfl,rfl⟩)|(go_at_call 240;refine(Yi _ _ _).mono ?_;rintro e w' ⟨rfl,rfl⟩)|(go_at_call 139;refine(Z7 _ _ _ _ (c1 _ _ _) (c2 _ _ _)).mono ?_;rintro e w' ⟨rfl,rfl⟩))
 all_goals go_ret
 exact⟨rfl,0,_,alloc_eq_grow _ _⟩
end Go.Proofs.Tryz
end
