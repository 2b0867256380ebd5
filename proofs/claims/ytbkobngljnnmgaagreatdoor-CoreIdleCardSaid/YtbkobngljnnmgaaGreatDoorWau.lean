/- What the last text of this claim rests on. No conditions. -/
import Derived.WalkKit
import Derived.Sort.Grow
import Derived.Sort.Row
import Derived.Test.YtbkobngljnnmgaaGreatDoorWad
import Derived.Test.YtbkobngljnnmgaaGreatDoorWah
import Derived.Test.YtbkobngljnnmgaaGreatDoorWap
import Derived.Test.YtbkobngljnnmgaaGreatDoorWas
import Derived.Test.YtbkobngljnnmgaaGreatDoorWat
set_option linter.unusedSimpArgs false
set_option linter.unusedVariables false
open List renaming length_map->acG,getElem?_eq_some_iff->acH,take_of_length_le->acI,mem_cons_self->acK,mem_of_getElem?->acL,getElem?_set_self->acM,getElem?_append_left->acN,mem_append->acP,mem_singleton->acQ,filter_append->acR,length_append->acS,length_range->acT,mem_map->acU,filter_cons->acV,range_succ->acW
open Nat renaming zero_le->acJ,le_refl->acO
section
namespace Go.Av
section
variable {P :Program}
@[go_sem] theorem ZX (t t':TypeId)(v:AV):cZ P .eql t (.loc t' v) .nil=if ik P t then .bool false else .undef:=by grind [cZ,dc,nF,AV.ig]
@[go_sem] theorem ZS (t t':TypeId)(v:AV):dd P .eql t (.loc t' v) .nil=(ik P t=true):=by simp[dd,dc,nF,AV.ig]
end
end Go.Av
end
section
namespace Go.Proofs.Tryz
open Go Go.Av
set_option maxRecDepth 10000
variable {W0 :World}
theorem qw (l:List Clause)(hl:l.length<=1048576)(hc: ∀c∈l,c.length<=1048576):ai prog W0 199 [aA l] (aA l):=by
 refine ak [2] [] func199 rfl rfl ntmps199 rfl rfl (ez _) λhs σ=>?_
 simp only[go_sem,simprocAttr,aA,acG];refine ae.at [6,7] (λA=>∃ v,A.env 3=v/\aM σ A.st v 77 (l.map aF)) ?_ λB ⟨v,h3,hb⟩=>?_
 .refine ae.upto [6,7] l.length (λi A=>∃ v,A.env 3=v/\A.env 8= .int .i64 i/\aM σ A.st v 77 ((l.take i).map aF)) 0 (acJ _) ?_ λi B hi ⟨v,h3,h8,hb⟩=>?_
  .simp only[go_sem,simprocAttr];simp[aM.nil,Ext.refl]
  simp only[go_sem,simprocAttr,h3,h8,acG];refine⟨λhlt=>⟨hlt,?_⟩,λhlt=>?_⟩
  .obtain⟨c,ha⟩:=get_some hlt;simp only[aw ha];simp only[go_sem,simprocAttr,aF];refine aj.fn (xf c (hc c (acL ha))) ?_;simp only[go_sem,simprocAttr,hb.ok,hb.un,aF];refine bA.own 1048576 (by kernel_rfl) hb.bld (.lit _ _ _) (by grind) λv' σ' ha'=>?_
   have hb':=hb.app ha';simp only[go_sem,simprocAttr,h8];refine⟨hlt,_,rfl,ag hlt (by grind [aq]),?_⟩;rw[ah ha,List.map_append];exact hb'
  grind
 simp only[go_sem,simprocAttr,h3];exact⟨hb.cb,hb.ext⟩
theorem kN {l:List Clause}(h:l.length<=12/\ ∀c∈l,lQ c=true):l.length<=1048576/\ ∀c∈l,c.length<=1048576:=
 ⟨by omega,λc hc=>by grind [Dp]⟩
theorem Sc (p:Pkg)(hp:aT p=0):ai prog W0 136 [ax p] (ax p):=by
 have hg:=cQ hp;refine kD [.cell 2 51] [] func136 rfl rfl ntmps136 rfl rfl (rB _) λhs σ=>?_
 simp only[go_sem,simprocAttr,ax];have g1:=kN hg.pre;have g2:=kN hg.dep;have g3:=kN hg.rcm;refine⟨.of (by kernel_rfl),aD.fn (qw p.pre g1.1 g1.2) ?_⟩;simp only[go_sem,simprocAttr];refine aD.fn (qw p.dep g2.1 g2.2) ?_;simp only[go_sem,simprocAttr];refine aD.fn (qw p.rcm g3.1 g3.2) ?_;simp only[go_sem,simprocAttr];refine⟨.of (by kernel_rfl),aD.fn (ph p.con (by grind [uH.con])) ?_⟩;simp only[go_sem,simprocAttr];refine aD.fn (ph p.brk (by grind [uH.brk])) ?_;simp only[go_sem,simprocAttr];refine aD.fn (AB p.eN (by grind [uH.eN])) ?_;simp only[go_sem,simprocAttr]
def fu (l:List Pkg):AV:=.loc 201 (.agg 201 [aI l])
@[go_sem] theorem acg (gd:Option Bool)(l:List Pkg):okM gd (fu l)=True:=ct trivial
theorem Yd (l:List Pkg):unm (fu l)=fu l:=rfl
theorem V8 (p:Pkg):unm (ax p)=ax p:=rfl
attribute [go_sem] Yd V8
theorem tD (l:List Pkg):ai prog W0 82 [fu l] (.int .i64 l.length):=by
 refine ak [2] [] func82 rfl rfl ntmps82 rfl rfl (.int _ _) λhs σ=>?_
 simp only[go_sem,simprocAttr,fu,aI,acG]
 try exact .refl _
theorem SH (l:List Pkg)(i:Nat){p:Pkg}(hi:l[i]?=some p)(hp:aT p=0):ai prog W0 83 [fu l,.int .i64 i] (.tup [ax p,.bool true]):=by
 have hlt:=(acH.1 hi).1;refine kD [.cell 4 51,.tmp 5] [] func83 rfl rfl ntmps83 rfl rfl (.rj (rB _) (.bool _)) λhs σ=>?_
 simp only[go_sem,simprocAttr,fu,aI];refine aD.fnG (λ_=>tD l) ?_;simp only[go_sem,simprocAttr,acG];refine⟨λh=>absurd h (by grind),λ_=>⟨hlt,?_⟩⟩;simp only[aw hi];simp only[go_sem,simprocAttr,ax];refine aj.fn (Sc p hp) ?_;simp only[go_sem,simprocAttr,ax]
def plB (l:List Pkg)(b:Pkg->Bool)(i:Nat):List Nat:=(List.range i).filter λi=>match l[i]? with
 |some p=>b p
 |none=>false
theorem xK {l:List Pkg}{b:Pkg->Bool}{i:Nat}{p:Pkg}(h:l[i]?=some p):plB l b (i+1)=plB l b i++if b p then [i]else []:=by
 grind [plB,acW]
theorem VB (l:List Pkg)(b:Pkg->Bool)(i:Nat):(plB l b i).length<=i:=by
 have:=List.length_filter_le (λi=>match l[i]? with|some p=>b p|none=>false) (List.range i)
 rwa [acT]at this
def bu (l:List Pkg)(b:Pkg->Bool):List Nat:=plB l b l.length
theorem sR (l:List Pkg)(hl:l.length<=1048576)(b:Pkg->Bool)(g:FuncId)(caps:List AV)(hg: ∀p∈l,ai prog W0 g ([ax p]++caps) (.bool (b p))):ai prog W0 149 [fu l,.fn g caps] (.sl 3 ((bu l b).map λi=>.int .i64 (i:Nat))):=by
 refine ak [4] [] func149 rfl rfl ntmps149 rfl rfl (.sl λx hx=>by obtain⟨i,_,rfl⟩:=acU.1 hx;exact .int _ _) λhs σ=>?_
 simp only[go_sem,simprocAttr];refine aj.fn (tD l) ?_;simp only[go_sem,simprocAttr];refine ae.at [] (λA=>∃ v,A.env 5=v/\aM σ A.st v 3 ((bu l b).map λi=>.int .i64 (i:Nat))) ?_ λB ⟨v,h5,hb⟩=>?_
 .refine ae.upto [0,1,8] l.length (λi A=>∃ v,A.env 5=v/\A.env 9= .int .i64 i/\aM σ A.st v 3 ((plB l b i).map λi=>.int .i64 (i:Nat))) 0 (acJ _) ?_ λi B hi ⟨v,h5,h9,hb⟩=>?_
  .simp only[go_sem,simprocAttr];exact⟨_,rfl,aM.nil (.refl _) _⟩
  simp only[go_sem,simprocAttr,h5,h9];refine⟨λhlt=>?_,λhlt=>?_⟩
  .obtain⟨p,ha⟩:=get_some hlt;simp only[go_sem,simprocAttr,fu,aI,acG];simp only[aw ha];simp only[go_sem,simprocAttr];refine⟨hlt,aj.pure (hg p (acL ha)) ?_⟩;have hpl:=VB l b i;simp only[go_sem,simprocAttr,h5,h9,hb.ok,hb.un];refine⟨λhp=>?_,λhp=>?_⟩
   .refine bA.own 1048576 (by kernel_rfl) hb.bld (.lit _ _ _) (by grind) λv' σ' ha'=>?_
    have hb':=hb.app ha';simp only[go_sem,simprocAttr,h9];grind [ag,aq,xK]
   grind [ag,aq,xK]
  .have e:i=l.length:=by omega
   subst e;exact⟨_,rfl,hb⟩
 simp only[go_sem,simprocAttr,h5];exact⟨hb.cb,hb.ext⟩
theorem QN (l:List Nat):aX 0 (nV l):=.sl λx hx=>by obtain⟨i,_,rfl⟩:=acU.1 hx;exact .int _ _
theorem SE (l:List Pkg)(hl:l.length<=1048576)(n:List UInt8):ai prog W0 86 [fu l,.str n] (nV (bu l λp=>p.name==n)):=by
 refine ak [4] [3] func86 rfl rfl ntmps86 rfl rfl (QN _) λhs σ=>?_
 simp only[go_sem,simprocAttr];refine aj.fn (sR l hl (λp=>p.name==n) 150 [.loc 9 (.str n)] λp _=>?_) ?_
 .refine ak [3] [2] func150 rfl rfl ntmps150 rfl rfl (.bool _) λhs σ=>?_
  simp only[go_sem,simprocAttr,ax]
  try exact .refl _
 simp only[go_sem,simprocAttr,nV]
 try exact .refl _
theorem D2 (l:List Pkg)(hl:l.length<=1048576)(a:Atom):ai prog W0 125 [fu l,aV a] (nV (bu l λp=>c8 p a)):=by
 refine ak [4] [3] func125 rfl rfl ntmps125 rfl rfl (QN _) λhs σ=>?_
 simp only[go_sem,simprocAttr,aV];refine aj.fn (sR l hl (λp=>c8 p a) 192 [.loc 76 (aV a)] λp _=>?_) ?_
 .refine ak [3] [2] func192 rfl rfl ntmps192 rfl rfl (.bool _) λhs σ=>?_
  simp only[go_sem,simprocAttr];refine aj.fn (xp p a) ?_;simp only[go_sem,simprocAttr]
  try exact .refl _
 simp only[go_sem,simprocAttr,nV]
 try exact .refl _
theorem KN (l:List Pkg)(hl:l.length<=1048576)(n v:List UInt8):ai prog W0 116 [fu l,.str n,.str v] (.tup [.int .i64 (((bu l λp=>p.name==n&&bb p.ver v).head?.getD 0:Nat):Int),.bool (bu l λp=>p.name==n&&bb p.ver v).head?.isSome]):=by
 refine ak [6,7] [4,5] func116 rfl rfl ntmps116 rfl rfl (.rj (.int _ _) (.bool _)) λhs σ=>?_
 simp only[go_sem,simprocAttr];refine aj.fn (sR l hl (λp=>p.name==n&&bb p.ver v) 183 [.loc 9 (.str n),.loc 9 (.str v)] λp _=>?_) ?_
 .refine ak [4] [3] func183 rfl rfl ntmps183 rfl rfl (.bool _) λhs σ=>?_
  simp only[go_sem,simprocAttr,ax];refine aD.fnG (λ_=>np p.ver v) ?_;simp only[go_sem,simprocAttr]
  try exact .refl _
 generalize bu l _=ps;cases ps with
 |nil=>simp only[go_sem,simprocAttr];try exact .refl _
 |cons i r=>simp only[go_sem,simprocAttr];rw[show atV (AV.int IntKind.i64 i::List.map (λi:Nat=>AV.int IntKind.i64 (i:Int)) r) 0= .int .i64 i from rfl];exact .refl _
def uK (l:List Pkg)(i:Nat):Option (List UInt8):=match l[i]? with
 |some p=>if i=0\/(l[i-1]?.map Pkg.name)≠some p.name then some p.name else none
 |none=>none
def nmB (l:List Pkg)(i:Nat):List (List UInt8):=(List.range i).filterMap (uK l)
theorem xQ (l:List Pkg)(i:Nat):nmB l (i+1)=nmB l i++(uK l i).toList:=by
 grind [nmB,acW]
theorem Ds (l:List Pkg)(i:Nat):(nmB l i).length<=i:=by
 have:=List.length_filterMap_le (uK l) (List.range i)
 rwa [acT]at this
theorem uP (u v:AV):oJ true u v=u:=by
 unfold oJ oq;grind [xC]
theorem AH (l:List (List UInt8)):aX 0 (.sl 9 (l.map .str)):=.sl λx hx=>by obtain⟨i,_,rfl⟩:=acU.1 hx;exact .str _
theorem PQ (l:List Pkg)(hl:l.length<=1048576):ai prog W0 85 [fu l] (.sl 9 ((nmB l l.length).map .str)):=by
 refine ak [2] [] func85 rfl rfl ntmps85 rfl rfl (AH _) λhs σ=>?_
 simp only[go_sem,simprocAttr];refine aj.fn (tD l) ?_;simp only[go_sem,simprocAttr];refine ae.at [] (λA=>∃ v,A.env 3=v/\aM σ A.st v 9 ((nmB l l.length).map .str)) ?_ λB ⟨v,h3,hb⟩=>?_
 .refine ae.upto [0,6] l.length (λi A=>∃ v,A.env 3=v/\A.env 7= .int .i64 i/\aM σ A.st v 9 ((nmB l i).map .str)) 0 (acJ _) ?_ λi B hi ⟨v,h3,h7,hb⟩=>?_
  .simp only[go_sem,simprocAttr];exact⟨_,rfl,aM.nil (.refl _) _⟩
  simp only[go_sem,simprocAttr,h3,h7,hb.ok,hb.un];refine⟨λhlt=>?_,λhlt=>?_⟩
  .obtain⟨p,ha⟩:=get_some hlt;have hnl:=Ds l i;rcases Nat.eq_zero_or_pos i with h0|h0
   .subst h0;have e0:atV (List.map ax l) 0=ax p:=aw (i:=0) ha;have hn0:uK l 0=some p.name:=by grind [uK]
    simp only[go_sem,simprocAttr,fu,aI,acG,e0,ax,uP];refine⟨.of (by kernel_rfl),hlt,?_⟩;refine bA.own 1048576 (by kernel_rfl) hb.bld (.lit _ _ _) (by simp_all) λv' σ' ha'=>?_
    have hb':=hb.app ha';simp only[go_sem,simprocAttr,h7];grind [xQ]
   .obtain⟨q,hq⟩:=get_some (show i-1<l.length by omega);have w1:IntKind.i64.wrap ((i:Int)-1)=((i-1:Nat):Int):=by grind [aG]
    have z1:((i:Int)==0)=false:=by grind
    have z2: ¬((i:Int)=0):=by omega
    have e0:atV (List.map ax l) i=ax p:=aw ha;have e1:atV (List.map ax l) ((i-1:Nat):Int)=ax q:=aw hq;have hn0:uK l i=if q.name≠p.name then some p.name else none:=by
     grind [uK]
    simp only[go_sem,simprocAttr,fu,aI,acG,w1,z1,z2,e0,e1,ax];refine⟨.of (by kernel_rfl),by omega,hlt,λhne=>⟨hlt,?_⟩,λhe=>⟨hlt,_,rfl,ag hlt (by grind [aq]),?_⟩⟩
    .refine bA.own 1048576 (by kernel_rfl) hb.bld (.lit _ _ _) (by grind) λv' σ' ha'=>?_
     have hb':=hb.app ha';simp only[go_sem,simprocAttr,h7];grind [ag,aq,xQ]
    grind [xQ]
  grind
 simp only[go_sem,simprocAttr,h3];exact⟨hb.cb,hb.ext⟩
theorem zH {f:Pkg->Pkg->Int}(hw:mA (ltF f))(σ:ab)(id n:Nat)(xs:List Pkg)(hn:n=xs.length)(hx:n<40)(hid:σ[id]?=some (cJ xs))(g:FuncId)(caps:List AV)(hcmp:uz W0 f xs g caps):
  aS prog W0 137 [.row 51 id 0 n,.fn g caps] σ λr σ'=>∃ C,C.Perm xs/\dt (ltF f) C/\σ'=σ.set id (cJ C):=by
 refine bZ [] [] func137 rfl rfl ntmps137 rfl rfl λhs=>?_
 simp only[go_sem,simprocAttr];refine aj.goes (by simp only[go_sem,simprocAttr]) (Nv hw σ id n xs hn hx hid g caps hcmp) λr σ1 ⟨C,p,r,hσ⟩=>?_
 simp only[go_sem,simprocAttr];refine bz.normal ?_;simp only[go_sem,simprocAttr];exact⟨_,.refl _,by simp_all,C,p,r,hσ⟩
theorem qH (a b:List UInt8):ai prog W0 141 [.str a,.str b] (.int .i64 (bO a b)):=by
 refine ak [4] [] func141 rfl rfl ntmps141 rfl rfl (.int _ _) λhs σ=>?_
 simp only[go_sem,simprocAttr];refine aj.fn (qk a b) ?_;simp only[go_sem,simprocAttr,rA]
 try exact .refl _
theorem Y5 (p q:Pkg):ai prog W0 138 [ax p,ax q] (.int .i64 (gm p q)):=by
 refine ak [4] [2,3] func138 rfl rfl ntmps138 rfl rfl (.int _ _) λhs σ=>?_
 simp only[go_sem,simprocAttr,ax];refine⟨.of (by kernel_rfl),aD.fn (Dr p.name q.name) ?_⟩;simp only[go_sem,simprocAttr];refine aD.fn (qH q.ver p.ver) ?_;simp only[go_sem,simprocAttr];refine aD.fn ((Pw [iJ p.name q.name,bO q.ver p.ver]).cb (.cons (.lit _ _) .nil)) ?_;simp only[go_sem,simprocAttr];have e:orL [iJ p.name q.name,bO q.ver p.ver]=gm p q:=by
  grind [gm,orL]
 rw[e];exact .refl _
theorem Uz {l:List Pkg}(hv:uC l):uz W0 yx l 138 []:=λa ha b hb=>by
 rw[Lp (hv a ha) (hv b hb)];simp[Y5]
theorem Iw {g:FuncId}{caps:List AV}:ai prog W0 137 [.ar,.fn g caps] (.tup []):=by
 have h1:ai prog W0 247 [.ar,.int .i64 0,.int .i64 0,.fn g caps] (.tup []):=by
  refine ak [] [] func247 rfl rfl ntmps247 rfl rfl (.tup λx hx=>by cases hx) λhs σ=>?_
  simp only[go_sem,simprocAttr];refine ae.cC [0,1,2,3] (λk E=>E.env 8= .int .i64 1/\E.st=σ) 0 ?_ λk E ⟨h8,hst⟩=>?_
  .simp only[go_sem,simprocAttr]
  simp only[go_sem,simprocAttr,h8,hst]
  try exact .refl _
 have h2:ai prog W0 203 [.ar,.int .i64 0,.fn g caps] (.tup []):=by
  refine ak [] [] func203 rfl rfl ntmps203 rfl rfl (.tup λx hx=>by cases hx) λhs σ=>?_
  simp only[go_sem,simprocAttr];refine ae.at [0,1,2,6] (λE=>E.env 7= .int .i64 0/\E.st=σ) ?_ λE ⟨h7,hst⟩=>?_
  .refine ae.cC [0,1,2,6] (λk E=>E.env 7= .int .i64 0/\E.env 8= .int .i64 20/\E.st=σ) 0 ?_ λk E ⟨h7,h8,hst⟩=>?_
   .simp only[go_sem,simprocAttr]
   simp only[go_sem,simprocAttr,h7,h8,hst]
  simp only[go_sem,simprocAttr,h7];refine aj.fn h1 ?_;simp only[go_sem,simprocAttr];refine ae.cC [0,1,2] (λk E=>E.env 6= .int .i64 20/\E.st=σ) 0 ?_ λk E ⟨h6,hst⟩=>?_
  .simp only[go_sem,simprocAttr,hst]
  simp only[go_sem,simprocAttr,h6,hst]
  try exact .refl _
 refine ak [] [] func137 rfl rfl ntmps137 rfl rfl (.tup λx hx=>by cases hx) λhs σ=>?_
 simp only[go_sem,simprocAttr];refine aj.fn h2 ?_;simp only[go_sem,simprocAttr]
 try exact .refl _
def FC (v:AV):Option bJ:=some (.cells 201 [.agg 201 [v]])
structure Fb (σ st:ab)(ix:Nat)(v:AV)(xs:List Pkg):Prop where
 ext:Ext σ st
 low:σ.length<=ix
 at_:st[ix]?=some (FC v)
 row:(v= .ar/\xs=[])\/ ∃rid,v= .row 51 rid 0 xs.length/\st[rid]?=some (cJ xs)/\σ.length<=rid
theorem KH (l:List Pkg):aX 0 (fu l):=.loc (.agg λx hx=>by
 grind [kL])
theorem VP (l:List Pkg)(hp: ∀p∈l,iM p)(h0:aY l=0):ai prog W0 78 [aI l] (.tup [fu (cV l),.int .i64 0]):=by
 have hm: ∀p∈l,aT p=0:=λp hp=>dT h0 hp
 have h24:=dK h0;have hv:=(eX h0).2;refine xN [.tmp 2,.tmp 3] [7,2000029,4000008] func78 rfl rfl ntmps78 rfl rfl (.rj (KH _) (.int _ _)) λhs σ=>?_
 simp only[go_sem,simprocAttr];refine aj.fn (pB l hp) ?_;simp only[go_sem,simprocAttr,h0,aI,acG];refine ae.at [5] (λA=>∃ v,Fb σ A.st σ.length v l) ?_ λB ⟨v,hI⟩=>?_
 .refine ae.upto [5,15,16] l.length (λi A=>A.env 17= .int .i64 i/\ ∃v,Fb σ A.st σ.length v (l.take i)) 0 (acJ _) ?_ λi B hi ⟨h17,v,hI⟩=>?_
  .simp only[go_sem,simprocAttr];exact⟨.ar,(Ext.refl _).app _,acO _,by simp[FC],.inl ⟨rfl,rfl⟩⟩
  simp only[go_sem,simprocAttr,h17,acG];refine⟨λhlt=>?_,λhge=>?_⟩
  .obtain⟨p,ha⟩:=get_some hlt;simp only[aw ha];have hat:=hI.at_;have hvn:dm v:=by rcases hI.row with⟨rfl,_⟩|⟨_,rfl,_⟩<;>trivial
   have c1:(B.st++[none])[σ.length]?=some (FC v):=(acN (acH.1 hat).1).trans hat;have hil:(l.take i).length=i:=by simp_all
   unfold FC at c1;simp only[go_sem,simprocAttr,an c1];refine⟨hlt,.of (by kernel_rfl),aD.fn (Sc p (hm p (acL ha))) ?_⟩;have hR:ee (B.st++[none]) v 51 ((l.take i).map ax):=by
    rcases hI.row with⟨h1,h2⟩|⟨rid,h1,h2,h3⟩
    .exact .inl ⟨h1,by simp_all⟩
    .refine .inr (.inr ⟨rid,0,_,_,h1,(acN (acH.1 h2).1).trans h2,by simp,?_⟩);simp[acI]
   have hkl:(cq v (B.st++[none])).length=(B.st++[none]).length:=by unfold cq;grind
   have hk1:(cq v (B.st++[none]))[σ.length]?=some (FC v):=by
    rcases hI.row with⟨rfl,h2⟩|⟨rid,rfl,h2,h3⟩
    .exact c1
    .have hne:rid≠σ.length:=λe=>by grind [cJ]
     exact(List.getElem?_set_ne hne).trans c1
   have hfp:bc prog 51 (ax p)=true:=by kernel_rfl
   simp only[go_sem,simprocAttr,ct hvn,da hvn,hfp];refine bA.row 1048576 (by kernel_rfl) hR (.lit _ _ _) (by grind) (λh=>by cases h) λ_=>?_
   have c2:(cq v (B.st++[none])++[some (.cells 51 ((l.take i).map ax++[ax p]))])[σ.length]?=some (FC v):=(acN (acH.1 hk1).1).trans hk1;unfold FC at c2;simp only[go_sem,simprocAttr,h17,an c2,aC c2];refine⟨hlt,ag hlt (by grind [aq]),_,?_,acO _,acM (acH.1 c2).1,.inr ⟨B.st.length+1,?_,?_,?_⟩⟩
   .grind [Ext.set,Ext.app,cq,Fb.row,Fb.ext]
   .grind
   .have hne:σ.length≠B.st.length+1:=by grind
    simp_all[cJ,ah]
   grind
  grind
 have hat:=hI.at_;unfold FC at hat;rcases hI.row with⟨rfl,rfl⟩|⟨rid,rfl,hr1,hr2⟩
 .simp only[go_sem,simprocAttr,an hat];refine aj.fn Iw ?_;simp only[go_sem,simprocAttr];refine cX.via (.inl rfl) (.cb σ.length 0 (z':=.agg 201 [.sl 51 []]) hat rfl (.agg rfl λi a b ha hb=>by
   match i,ha,hb with
   |0,ha,hb=>cases ha;cases hb;exact .ar _) (.pt 2 rfl (acM (acH.1 hat).1) (.refl _))) ?_
  refine⟨⟨trivial,trivial,trivial⟩,?_,?_⟩
  .exact .refl _
  .exact(hI.ext.set (acO _) _).set (acO _) _
 .simp only[go_sem,simprocAttr,an hat];refine aj.goes (by simp only[go_sem,simprocAttr]) (zH RJ _ rid l.length l rfl (by omega) hr1 _ _ (Uz hv)) λr σ1 ⟨C,p,r,hσ⟩=>?_
  have hC:C=cV l:=KM (eX h0).1 hv (MM (λx hx=>hv x (p.subset hx)) r) (kl hv) p (eE l);have hne:rid≠σ.length:=λe=>by grind [cJ]
  have hrl:=(acH.1 hr1).1;have hat2:σ1[σ.length]?=some (some (.cells 201 [.agg 201 [.row 51 rid 0 l.length]])):=by simp_all
  have hr3:σ1[rid]?=some (some (.cells 51 (C.map ax))):=by rw[hσ];exact acM hrl
  simp only[go_sem,simprocAttr];have hlen:C.length=l.length:=p.length_eq;refine cX.via (.inl rfl) (.cell (t:=23) (o:=0) σ.length 0 [0] hat2 rfl rfl hr3 (by simp_all) hne (by kernel_rfl) (.pt 2 rfl (acM (by rw[List.length_set];exact(acH.1 hat2).1)) (.refl _))) ?_;refine⟨⟨trivial,trivial,trivial⟩,?_,?_⟩
  .have e:List.take l.length (List.drop 0 (List.map ax C))=List.map ax (cV l):=by
    grind [acI]
   show dq (.tup [.loc 201 (.agg 201 [.sl 51 (List.take l.length (List.drop 0 (List.map ax C)))]),.int .i64 0]) _;rw[e];exact .refl _
  .have hx:Ext σ σ1:=by grind [Ext.set,Fb.ext]
   exact((hx.set hr2 _).set (acO _) _).set (acO _) _
theorem tG (l:List Pkg)(hp: ∀p∈l,iM p):ai prog W0 78 [aI l] (if aY l=0 then .tup [fu (cV l),.int .i64 0]else .tup [.nil,.int .i64 (aY l)]):=by
 split
 .grind [VP]
 .rename_i h0;refine xN [.tmp 2,.tmp 3] [7,2000029,4000008] func78 rfl rfl ntmps78 rfl rfl (.rj .nil (.int _ _)) λhs σ=>?_
  simp only[go_sem,simprocAttr];refine aj.fn (pB l hp) ?_;simp only[go_sem,simprocAttr,h0];refine cX.ret ?_;simp only[go_sem,simprocAttr]
def cy (a:aN):AV:=.agg 66 [.int .i64 a.kind,.str a.name,.str a.ver]
def bM (l:List aN):AV:=.sl 66 (l.map cy)
@[go_sem] theorem abz (gd:Option Bool)(l:List aN):okM gd (bM l)=True:=eq_true trivial
@[go_sem] theorem aa2 (l:List aN):unm (bM l)=bM l:=rfl
@[go_sem] theorem aaG (gd:Option Bool)(l:List aB):okM gd (aK l)=True:=eq_true trivial
theorem Tg (l:List aB):unm (aK l)=aK l:=rfl
theorem SK (l:List Pkg):unm (aI l)=aI l:=rfl
attribute [go_sem] Tg SK
theorem dm.ask (a:aN):dm (cy a):=trivial
@[go_sem] theorem abN (gd:Option Bool)(a:aN):okM gd (cy a)=True:=eq_true trivial
@[go_sem] theorem abI (a:aN):unm (cy a)=cy a:=rfl
@[go_sem] theorem abK (gd:Option Bool)(a:aB):okM gd (bg a)=True:=eq_true trivial
@[go_sem] theorem abS (a:aB):unm (bg a)=bg a:=rfl
theorem Ks (a:aN):aX 0 (cy a):=.agg λx hx=>by
 simp only[List.mem_cons,List.not_mem_nil,or_false]at hx;rcases hx with rfl|rfl|rfl
 .exact .int _ _
 .exact .str _
 .exact .str _
theorem abm {α:Type}(enc:α->AV)(hp: ∀a,dm (enc a))(l:List α)(q:α->Bool)(g:FuncId)(caps:List AV)(h: ∀a∈l,ai prog W0 g ([enc a]++caps) (.bool (q a))):
  ai prog W0 286 [.sl 148 (l.map enc),.fn g caps] (.int .i64 (fK q l)):=by
 refine ak [4] [] func286 rfl rfl ntmps286 rfl rfl (.int _ _) λhs σ=>?_
 have hl:=(aL (hs _ (acK ..))).1;simp only[go_sem,simprocAttr];refine ae.upto [0,1,7] l.length (λi A=>A.env 8= .int .i64 i/\A.st=σ/\ ∀a∈l.take i,q a=false) 0 (acJ _) ?_ λi B hi ⟨h8,hst,hI⟩=>?_
 .simp only[go_sem,simprocAttr]
  all_goals simp
 simp only[go_sem,simprocAttr,h8,hst,acG];refine⟨λhc=>⟨hc,?_⟩,λhc=>az ?_⟩
 .obtain⟨a,ha⟩:=get_some hc;simp only[aw ha,ct (hp a),da (hp a),true_and];refine aj.pure (h a (acL ha)) ?_;simp only[go_sem,simprocAttr,h8,hst];refine⟨λhq=>az (eQ ha hq hI).symm,λhq=>⟨hc,ag hc hl,?_⟩⟩;rw[ah ha];intro b hb;rcases acP.1 hb with hb|hb
  .exact hI b hb
  .rw[acQ.1 hb];exact hq
 .rw[dr]
  rwa [acI hc]at hI
theorem aaV {α:Type}(enc:α->AV)(hp: ∀a,dm (enc a))(l:List α)(q:α->Bool)(g:FuncId)(caps:List AV)(h: ∀a∈l,ai prog W0 g ([enc a]++caps) (.bool (q a))):
  ai prog W0 208 [.sl 66 (l.map enc),.fn g caps] (.int .i64 (fK q l)):=by
 refine ak [4] [] func208 rfl rfl ntmps208 rfl rfl (.int _ _) λhs σ=>?_
 have hl:=(aL (hs _ (acK ..))).1;simp only[go_sem,simprocAttr];refine ae.upto [0,1,7] l.length (λi A=>A.env 8= .int .i64 i/\A.st=σ/\ ∀a∈l.take i,q a=false) 0 (acJ _) ?_ λi B hi ⟨h8,hst,hI⟩=>?_
 .simp only[go_sem,simprocAttr]
  all_goals simp
 simp only[go_sem,simprocAttr,h8,hst,acG];refine⟨λhc=>⟨hc,?_⟩,λhc=>az ?_⟩
 .obtain⟨a,ha⟩:=get_some hc;simp only[aw ha,ct (hp a),da (hp a),true_and];refine aj.pure (h a (acL ha)) ?_;simp only[go_sem,simprocAttr,h8,hst];refine⟨λhq=>az (eQ ha hq hI).symm,λhq=>⟨hc,ag hc hl,?_⟩⟩;rw[ah ha];intro b hb;rcases acP.1 hb with hb|hb
  .exact hI b hb
  .rw[acQ.1 hb];exact hq
 .rw[dr]
  rwa [acI hc]at hI
theorem aaR {α:Type}(enc:α->AV)(hp: ∀a,dm (enc a))(l:List α)(q:α->Bool)(g:FuncId)(caps:List AV)(h: ∀a∈l,ai prog W0 g ([enc a]++caps) (.bool (q a))):
  ai prog W0 252 [.sl 148 (l.map enc),.fn g caps] (.bool (l.any q)):=by
 refine ak [4] [] func252 rfl rfl ntmps252 rfl rfl (.bool _) λhs σ=>?_
 simp only[go_sem,simprocAttr];refine aj.fn (abm enc hp l q g caps h) ?_;simp only[go_sem,simprocAttr];exact au jq
theorem Xi {α:Type}(enc:α->AV)(hp: ∀a,dm (enc a))(l:List α)(q:α->Bool)(g:FuncId)(caps:List AV)(h: ∀a∈l,ai prog W0 g ([enc a]++caps) (.bool (q a))):
  ai prog W0 153 [.sl 66 (l.map enc),.fn g caps] (.bool (l.any q)):=by
 refine ak [4] [] func153 rfl rfl ntmps153 rfl rfl (.bool _) λhs σ=>?_
 simp only[go_sem,simprocAttr];refine aj.fn (aaV enc hp l q g caps h) ?_;simp only[go_sem,simprocAttr];exact au jq
def NoB {α:Type}(q:α->Bool)(l:List α)(i:Nat):Prop:=∀ b∈l.take i,q b=false
theorem NoB.zero {α:Type}(q:α->Bool)(l:List α):NoB q l 0:=λb hb=>by simp at hb
theorem NoB.succ {α:Type}{l:List α}{i:Nat}{a:α}{q:α->Bool}(hI:NoB q l i)(ha:l[i]?=some a)(hq:q a=false):NoB q l (i+1):=by
 unfold NoB;rw[ah ha];intro b hb;rcases acP.1 hb with hb|hb
 .exact hI b hb
 simp_all
theorem NoB.all {α:Type}{l:List α}{i:Nat}{q:α->Bool}(hI:NoB q l i)(h:l.length<=i): ∀b∈l,q b=false:=by
 grind [NoB,acI]
theorem mQ (l:List aB)(n:List UInt8):ai prog W0 89 [aK l,.str n] (.tup [.int .i64 (if fK (λx:aB=>x.pkg.name==n) l<0 then 0 else fK (λx:aB=>x.pkg.name==n) l),.bool (decide (0<=fK (λx:aB=>x.pkg.name==n) l))]):=by
 refine ak [4,5] [7] func89 rfl rfl ntmps89 rfl rfl (.rj (.int _ _) (.bool _)) λhs σ=>?_
 have hl:=(aL (hs _ (acK ..))).1;simp only[go_sem,simprocAttr,aK,acG];refine ae.upto [1,8,9] l.length (λi A=>A.env 10= .int .i64 i/\Ext σ A.st/\NoB (λx:aB=>x.pkg.name==n) l i) 0 (acJ _) ?_ λi B hi ⟨h10,hst,hI⟩=>?_
 .simp only[go_sem,simprocAttr];simp[Ext.refl,NoB.zero]
 simp only[go_sem,simprocAttr,h10,acG];refine⟨λhc=>⟨hc,?_⟩,λhc=>?_⟩
 .obtain⟨a,ha⟩:=get_some hc;simp only[aw ha];simp only[go_sem,simprocAttr,bg,ax];refine⟨λhq=>⟨?_,hst.app _⟩,λhq=>⟨hc,ag hc hl,hst.app _,hI.succ ha (by simp_all)⟩⟩;rw[eQ ha (by simp_all) hI,if_neg (by omega),decide_eq_true (by omega)];exact .refl _
 .rw[dr (hI.all hc)];exact⟨.refl _,hst⟩
theorem Gg (l:List Pkg)(n:List UInt8):ai prog W0 49 [aI l,.str n] (.int .i64 (fK (λp:Pkg=>p.name==n) l)):=by
 refine ak [4] [6] func49 rfl rfl ntmps49 rfl rfl (.int _ _) λhs σ=>?_
 have hl:=(aL (hs _ (acK ..))).1;simp only[go_sem,simprocAttr,aI,acG];refine ae.upto [1,7,8] l.length (λi A=>A.env 9= .int .i64 i/\Ext σ A.st/\NoB (λp:Pkg=>p.name==n) l i) 0 (acJ _) ?_ λi B hi ⟨h10,hst,hI⟩=>?_
 .simp only[go_sem,simprocAttr];exact⟨.refl _,.zero _ _⟩
 simp only[go_sem,simprocAttr,h10,acG];refine⟨λhc=>⟨hc,?_⟩,λhc=>?_⟩
 .obtain⟨a,ha⟩:=get_some hc;simp only[aw ha];simp only[go_sem,simprocAttr,bg,ax,h10];refine⟨λhq=>⟨?_,hst.app _⟩,λhq=>⟨hc,ag hc hl,hst.app _,hI.succ ha (by simpa using hq)⟩⟩;rw[eQ ha (by simpa using hq) hI];exact .refl _
 .rw[dr (hI.all hc)];exact⟨.refl _,hst⟩
theorem DG (l:List aB)(n:List UInt8):ai prog W0 21 [aK l,.str n] (.int .i64 (fK (λx:aB=>x.pkg.name==n) l)):=by
 refine ak [4] [6] func21 rfl rfl ntmps21 rfl rfl (.int _ _) λhs σ=>?_
 have hl:=(aL (hs _ (acK ..))).1;simp only[go_sem,simprocAttr,aK,acG];refine ae.upto [1,7,8] l.length (λi A=>A.env 9= .int .i64 i/\Ext σ A.st/\NoB (λx:aB=>x.pkg.name==n) l i) 0 (acJ _) ?_ λi B hi ⟨h10,hst,hI⟩=>?_
 .simp only[go_sem,simprocAttr];exact⟨.refl _,.zero _ _⟩
 simp only[go_sem,simprocAttr,h10,acG];refine⟨λhc=>⟨hc,?_⟩,λhc=>?_⟩
 .obtain⟨a,ha⟩:=get_some hc;simp only[aw ha];simp only[go_sem,simprocAttr,bg,ax,h10];refine⟨λhq=>⟨?_,hst.app _⟩,λhq=>⟨hc,ag hc hl,hst.app _,hI.succ ha (by simpa using hq)⟩⟩;rw[eQ ha (by simpa using hq) hI];exact .refl _
 .rw[dr (hI.all hc)];exact⟨.refl _,hst⟩
theorem Cc (l:List aN)(k:Int):ai prog W0 72 [bM l,.int .i64 k] (.bool (l.any λa=>a.kind==k)):=by
 refine ak [4] [6] func72 rfl rfl ntmps72 rfl rfl (.bool _) λhs σ=>?_
 have hl:=(aL (hs _ (acK ..))).1;simp only[go_sem,simprocAttr,bM,acG];refine ae.upto [1,7,8] l.length (λi A=>A.env 9= .int .i64 i/\Ext σ A.st/\NoB (λa:aN=>a.kind==k) l i) 0 (acJ _) ?_ λi B hi ⟨h10,hst,hI⟩=>?_
 .simp only[go_sem,simprocAttr];exact⟨.refl _,.zero _ _⟩
 simp only[go_sem,simprocAttr,h10,acG];refine⟨λhc=>⟨hc,?_⟩,λhc=>?_⟩
 .obtain⟨a,ha⟩:=get_some hc;simp only[aw ha];simp only[go_sem,simprocAttr,cy,h10];refine⟨λhq=>⟨au ?_,hst.app _⟩,λhq=>⟨hc,ag hc hl,hst.app _,hI.succ ha (by simpa using hq)⟩⟩;exact(List.any_eq_true.2 ⟨a,acL ha,by simpa using hq⟩).symm
 .refine⟨au ?_,hst⟩;exact(List.any_eq_false.2 λx hx=>by simpa using hI.all hc x hx).symm
def eL (l:List aN):Bool:=(l.any λa=>a.kind==3)||l.any λa=>a.kind==4
theorem HZ (l:List aN):ai prog W0 81 [bM l] (.bool (eL l)):=by
 refine ak [2] [] func81 rfl rfl ntmps81 rfl rfl (.bool _) λhs σ=>?_
 simp only[go_sem,simprocAttr];refine aj.fn (Cc l 3) ?_;simp only[go_sem,simprocAttr];refine aD.fnG (λ_=>Cc l 4) ?_;simp only[go_sem,simprocAttr,eL]
 try exact .refl _
def pJ :aN:=⟨0,[],[]⟩
theorem gI {α:Type}{l:List α}{i:Nat}{a:α}{q:α->Bool}(ha:l[i]?=some a)(hq:q a=true)(hI:NoB q l i):l.find? q=some a:=by
 obtain⟨hi,he⟩:=acH.1 ha;refine List.find?_eq_some_iff_getElem.2 ⟨hq,i,hi,he,λj hj=>?_⟩;rw[hI _ (List.mem_iff_getElem.2 ⟨j,by grind,by simp_all⟩)];rfl
theorem TU (p:Pkg)(all:List Pkg)(h24:all.length<=1048576):ai prog W0 146 [ax p,aI all] (.int .i64 (bF all p)):=by
 refine ak [4] [2,7] func146 rfl rfl ntmps146 rfl rfl (.int _ _) λhs σ=>?_
 simp only[go_sem,simprocAttr,aI,acG];refine ae.at [] (λA=>A.env 5= .int .i64 (bF all p)/\Ext σ A.st) ?_ λB ⟨h5,hst⟩=>?_
 .refine ae.upto [2,8,9] all.length (λi A=>A.env 10= .int .i64 i/\A.env 5= .int .i64 (bF (all.take i) p)/\Ext σ A.st/\bF (all.take i) p<=i) 0 (acJ _) ?_ λi B hi ⟨h10,h5,hst,hle⟩=>?_
  .simp only[go_sem,simprocAttr];simp[bF,Ext.refl]
  simp only[go_sem,simprocAttr,h10,h5,acG];refine⟨λhc=>⟨hc,?_⟩,λhc=>?_⟩
  .obtain⟨q,hq⟩:=get_some hc;have hn:bF (all.take (i+1)) p=bF (all.take i) p+if (q.name==p.name&&decide (0<bO q.ver p.ver))=true then 1 else 0:=by
    unfold bF;rw[ah hq,acR,acS];congr 1;rw[acV];split<;>rfl
   simp only[aw hq];simp only[go_sem,simprocAttr,ax,h10,h5];refine aD.fnG (λ_=>qH q.ver p.ver) ?_;simp only[go_sem,simprocAttr,h10,h5];refine⟨λhb=>⟨hc,ag hc (by rw[aq];omega),?_,hst.app _,?_⟩,λhb=>⟨hc,ag hc (by rw[aq];omega),?_,hst.app _,?_⟩⟩
   .rw[hn,if_pos hb,jf (N:=1048577) (by omega) (by rw[aq];omega)]
   .rw[hn,if_pos hb];omega
   .rw[hn,if_neg (by simp[hb])];rfl
   .rw[hn,if_neg (by simp[hb])];omega
  .rw[acI hc];exact⟨rfl,hst⟩
 simp only[go_sem,simprocAttr,h5];exact hst
theorem On (p:Pkg)(all:List Pkg)(h24:all.length<=1048576):ai prog W0 57 [ax p,aI all] (.int .i64 (bF all p)):=by
 refine ak [4] [2,7] func57 rfl rfl ntmps57 rfl rfl (.int _ _) λhs σ=>?_
 simp only[go_sem,simprocAttr,aI,acG];refine ae.at [] (λA=>A.env 5= .int .i64 (bF all p)/\Ext σ A.st) ?_ λB ⟨h5,hst⟩=>?_
 .refine ae.upto [2,8,9] all.length (λi A=>A.env 10= .int .i64 i/\A.env 5= .int .i64 (bF (all.take i) p)/\Ext σ A.st/\bF (all.take i) p<=i) 0 (acJ _) ?_ λi B hi ⟨h10,h5,hst,hle⟩=>?_
  .simp only[go_sem,simprocAttr];simp[bF,Ext.refl]
  simp only[go_sem,simprocAttr,h10,h5,acG];refine⟨λhc=>⟨hc,?_⟩,λhc=>?_⟩
  .obtain⟨q,hq⟩:=get_some hc;have hn:bF (all.take (i+1)) p=bF (all.take i) p+if (q.name==p.name&&decide (0<bO q.ver p.ver))=true then 1 else 0:=by
    unfold bF;rw[ah hq,acR,acS];congr 1;rw[acV];split<;>rfl
   simp only[aw hq];simp only[go_sem,simprocAttr,ax,h10,h5];refine aD.fnG (λ_=>mM q.ver p.ver) ?_;simp only[go_sem,simprocAttr,h10,h5];refine⟨λhb=>⟨hc,ag hc (by rw[aq];omega),?_,hst.app _,?_⟩,λhb=>⟨hc,ag hc (by rw[aq];omega),?_,hst.app _,?_⟩⟩
   .rw[hn,if_pos hb,jf (N:=1048577) (by omega) (by rw[aq];omega)]
   .rw[hn,if_pos hb];omega
   .rw[hn,if_neg (by simp[hb])];rfl
   .rw[hn,if_neg (by simp[hb])];omega
  .rw[acI hc];exact⟨rfl,hst⟩
 simp only[go_sem,simprocAttr,h5];exact hst
set_option maxHeartbeats 1000000
theorem GO {l:List Pkg}{b:Pkg->Bool}:(bu l b).head?=l.findIdx? b:=by
 have key: ∀i,i<=l.length->(plB l b i).head?=(l.take i).findIdx? b:=by
  intro i
  induction i with
  |zero=>simp[plB]
  |succ i ih=>
   intro hi;obtain⟨p,hp⟩:=get_some (show i<l.length by omega);rw[xK hp,ah hp,List.head?_append,ih (by omega),List.findIdx?_append];grind
 have:=key l.length (acO _)
 rwa [List.take_length]at this
theorem Vp (l:List Pkg)(n v:List UInt8):(bu l λp=>p.name==n&&bb p.ver v).head?=sW l n v:=GO
theorem IA (all:List Pkg)(h0:aY all=0):ai prog W0 122 [aI all,fu (cV all)] (.bool (decide (all=cV all))):=by
 have h24:=dK h0;have hsl:(cV all).length=all.length:=(eE all).length_eq;refine ak [4] [6] func122 rfl rfl ntmps122 rfl rfl (.bool _) λhs σ=>?_
 have hl:=(aL (hs _ (acK ..))).1;simp only[go_sem,simprocAttr,aI,acG];refine ae.upto [1,9,10] all.length (λi A=>A.env 11= .int .i64 i/\Ext σ A.st/\ ∀k p,k<i->all[k]?=some p->sW (cV all) p.name p.ver=some k) 0 (acJ _) ?_ λi B hi ⟨h11,hst,hI⟩=>?_
 .simp only[go_sem,simprocAttr];exact .refl _
 simp only[go_sem,simprocAttr,h11,acG];refine⟨λhc=>⟨hc,?_⟩,λhc=>⟨au (decide_eq_true ((tI h0).1 λk p hk=>hI k p (by grind) hk)).symm,hst⟩⟩
 .obtain⟨p,hp⟩:=get_some hc;simp only[aw hp];simp only[go_sem,simprocAttr,ax];refine aj.fn (KN (cV all) (by omega) p.name p.ver) ?_;rw[Vp];simp only[go_sem,simprocAttr,h11];have hno:sW (cV all) p.name p.ver≠some i->all≠cV all:=λh e=>h ((tI h0).2 e i p hp)
  cases hf:sW (cV all) p.name p.ver with
  |none=>
   simp only[go_sem,simprocAttr];exact⟨au (decide_eq_false (hno (by simp_all))).symm,hst.app _⟩
  |some k=>
   simp only[go_sem,simprocAttr,Option.getD_some];refine⟨λhne=>⟨au (decide_eq_false (hno (by simp_all))).symm,hst.app _⟩,λhe=>⟨hc,ag hc (by omega),hst.app _,λj q hj hq=>?_⟩⟩;grind
def VK (n:Nat)(cls:List (List Int)):AV:=.loc 248 (.agg 248 [.int .i64 n,Ej cls])
@[go_sem] theorem abD (n:Nat)(cls:List (List Int)):unm (VK n cls)=VK n cls:=rfl
def ab4 (n:Nat)(cls:List (List Int)):AV:=.loc 188 (.agg 188 [.int .i64 n,VK n cls])
def marks (n:Nat):List Int->List Bool->Option (List Bool)
 |[],m=>some m
 |i::r,m=>if 0<=i/\i<n then(if (m[i.toNat]?).getD false=true then none else marks n r (m.set i.toNat true))else none
def jM (all:List Pkg)(c:Clause):List Int:=c.flatMap λa=>(bu all λq=>c8 q a).map fQ
theorem uN {l:List Pkg}{b:Pkg->Bool}{k:Nat}:k∈bu l b↔ ∃q,l[k]?=some q/\b q=true:=by
 grind [bu,plB]
theorem OR {c:Clause}{all:List Pkg}{x:Int}:x∈jI c 0 all↔ ∃k q,all[k]?=some q/\c.any (c8 q)=true/\x=fQ k:=by
 have key: ∀(l:List Pkg) (i:Nat),x∈jI c i l↔ ∃k q,l[k]?=some q/\c.any (c8 q)=true/\x=fQ (i+k):=by
  intro l
  induction l with
  |nil=>simp[jI]
  |cons p r ih=>
   intro i;rw[jI,acP,ih];constructor
   .rintro(h|⟨k,q,h1,h2,h3⟩)
    .split at h
     .rename_i hs;simp at h;exact⟨0,p,rfl,hs,by omega⟩
     simp_all
    .exact⟨k+1,q,by simp_all,h2,by grind⟩
   grind
 simp_all
theorem Ap {c:Clause}{all:List Pkg}{x:Int}:x∈jM all c↔x∈jI c 0 all:=by
 grind [OR,jM,uN]
end Go.Proofs.Tryz
end
section
namespace Go.Proofs.Tryz
open Go Go.Av Go.Sort
set_option maxRecDepth 100000
set_option maxHeartbeats 2000000
theorem Ze (a:Int)(w:World):Calls prog 332 #[.int .i64 a] w λe w'=>e= .returned (.bool false)/\w'=w:=by
 go_enter func332,ntmps332
 go_wp2
 go_ret
 exact⟨rfl,rfl⟩
theorem Y8 (a b:Int)(w:World):Calls prog 297 #[.int .i64 a,.int .i64 b] w λe w'=>e= .returned (.int .i64 (sgn a b))/\w'=w:=by
 have h1:=λx W=>Ze x W
 unfold sgn
 go_enter func297,ntmps297
 go_wp2_with (go_at_call 332;refine(h1 _ _).mono ?_;rintro e w' ⟨rfl,rfl⟩)
 all_goals go_ret
 all_goals simp_all
theorem XB (a:Int)(w:World):Calls prog 298 #[.int .u32 a] w λe w'=>e= .returned (.bool false)/\w'=w:=by
 go_enter func298,ntmps298
 go_wp2
 go_ret
 exact⟨rfl,rfl⟩
theorem XQ (a b:Int)(w:World):Calls prog 257 #[.int .u32 a,.int .u32 b] w λe w'=>e= .returned (.int .i64 (sgn a b))/\w'=w:=by
 have h1:=λx W=>XB x W
 unfold sgn
 go_enter func257,ntmps257
 go_wp2_with (go_at_call 298;refine(h1 _ _).mono ?_;rintro e w' ⟨rfl,rfl⟩)
 all_goals go_ret
 all_goals simp_all
theorem Yk (a:Int)(w:World):Calls prog 278 #[.int .u64 a] w λe w'=>e= .returned (.bool false)/\w'=w:=by
 go_enter func278,ntmps278
 go_wp2
 go_ret
 exact⟨rfl,rfl⟩
theorem Zc (a b:Int)(w:World):Calls prog 239 #[.int .u64 a,.int .u64 b] w λe w'=>e= .returned (.int .i64 (sgn a b))/\w'=w:=by
 have h1:=λx W=>Yk x W
 unfold sgn
 go_enter func239,ntmps239
 go_wp2_with (go_at_call 278;refine(h1 _ _).mono ?_;rintro e w' ⟨rfl,rfl⟩)
 all_goals go_ret
 all_goals simp_all
theorem YY (a:Int)(w:World):Calls prog 279 #[.int .i64 a] w λe w'=>e= .returned (.bool false)/\w'=w:=by
 go_enter func279,ntmps279
 go_wp2
 go_ret
 exact⟨rfl,rfl⟩
theorem Yy (a b:Int)(w:World):Calls prog 240 #[.int .i64 a,.int .i64 b] w λe w'=>e= .returned (.int .i64 (sgn a b))/\w'=w:=by
 have h1:=λx W=>YY x W
 unfold sgn
 go_enter func240,ntmps240
 go_wp2_with (go_at_call 279;refine(h1 _ _).mono ?_;rintro e w' ⟨rfl,rfl⟩)
 all_goals go_ret
 all_goals simp_all
theorem aaU (l:Int)(hl:l.natAbs<=1000000)(w:World):Calls prog 235 #[.int .i64 l] w λe w'=>e= .returned (.int .u64 (l.natAbs:Nat))/\w'=w:=by
 have e1:l<0->IntKind.u64.wrap (-(IntKind.u64.wrap l))=(l.natAbs:Int):=λh=>by grind [IntKind.wrap,IntKind.bits]
 have e2: ¬l<0->IntKind.u64.wrap l=(l.natAbs:Int):=λh=>by grind [IntKind.wrap,IntKind.bits]
 go_enter func235,ntmps235
 go_wp2
 all_goals go_ret
 all_goals simp_all
theorem aaK (a b:Int)(B:Nat)(w:World)(h0:w.cell? ⟨B,0,none⟩=some (.int .i64 a))(h1:w.cell? ⟨B,1,none⟩=some (.int .i64 b)):Calls prog 139 #[.slice (some ⟨B,0,none⟩) 2 2] w λe w'=>e= .returned (.int .i64 (orL [a,b]))/\w'=w:=by
 obtain⟨r,hr⟩: ∃r,r=orL [a,b]:=⟨_,rfl⟩;rw[<-hr];have f1:a≠0->r=a:=λh=>by grind [orL]
 have f2:a=0->r=b:=λh=>by grind [orL]
 clear hr
 go_enter func139,ntmps139
 go_wp2
 refine wp_loop_rounds 3 ?_;rw[rounds_succ]
 go_wp2
 all_goals (try (rw[rounds_succ];go_wp2))
 all_goals (try (rw[rounds_succ];go_wp2))
 all_goals (try go_ret)
 all_goals refine⟨?_,rfl⟩
 all_goals simp_all
theorem X5 (a b:Int)(ha:a.natAbs<=1000000)(hb:b.natAbs<=1000000)(w:World):Calls prog 238 #[.int .i64 a,.int .i64 b] w λe w'=>e= .returned (.int .i64 (orL [sgn (a.natAbs:Nat) (b.natAbs:Nat),sgn a b]))/\ ∃q os,w'=grow (w.drewN q) os:=by
 have c1: ∀(W:World) (u v:Value),(W.alloc (.cells #[u,v] 3)).cell? ⟨W.heap.size,0,none⟩=some u:=λW u v=>by simp_all
 have c2: ∀(W:World) (u v:Value),(W.alloc (.cells #[u,v] 3)).cell? ⟨W.heap.size,1,none⟩=some v:=λW u v=>by simp_all
 go_enter func238,ntmps238
 go_wp2_with (first|(go_at_call 235;refine(aaU _ (by assumption) _).mono ?_;rintro e w' ⟨rfl,rfl⟩)|(go_at_call 239;refine(Zc _ _ _).mono ?_;rintro e w' ⟨rfl,rfl⟩)|(go_at_call 240;refine(Yy _ _ _).mono ?_;rintro e w' ⟨rfl,rfl⟩)|(go_at_call 139;refine(aaK _ _ _ _ (c1 _ _ _) (c2 _ _ _)).mono ?_;rintro e w' ⟨rfl,rfl⟩))
 all_goals go_ret
 exact⟨rfl,0,_,alloc_eq_grow _ _⟩
end Go.Proofs.Tryz
end
