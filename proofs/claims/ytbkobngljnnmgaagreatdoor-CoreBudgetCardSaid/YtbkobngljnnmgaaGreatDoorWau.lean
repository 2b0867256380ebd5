/- Texts that the last one of this claim rests on: a layer over the guide's own conditions for code; contracts of the functions that the law reaches, one by one. No conditions beside those of the given rows. -/
import Derived.WalkKit
import Derived.Sort.Grow
import Derived.Sort.Row
import Derived.Test.YtbkobngljnnmgaaGreatDoorWad
import Derived.Test.YtbkobngljnnmgaaGreatDoorWah
import Derived.Test.YtbkobngljnnmgaaGreatDoorWap
import Derived.Test.YtbkobngljnnmgaaGreatDoorWas
import Derived.Test.YtbkobngljnnmgaaGreatDoorWat
set_option linter.unusedSimpArgs false
set_option linter.unusedVariables false
open List renaming length_map->acO,getElem?_eq_some_iff->acP,take_of_length_le->acQ,mem_of_getElem?->acR,mem_cons_self->acT,getElem?_set_self->acU,getElem?_append_left->acV,mem_append->acX,mem_singleton->acY,length_range->acZ,mem_map->ac0,range_succ->ac1
open Nat renaming zero_le->acS,le_refl->acW
section
namespace Go.Av
section
variable {P :Program}
@[go_sem] theorem Vh (t t':TypeId)(v:AV):cA P .eql t (.loc t' v) .nil=if gW P t then .bool false else .undef:=by grind [cA,cL,lI,AV.il]
@[go_sem] theorem UD (t t':TypeId)(v:AV):cC P .eql t (.loc t' v) .nil=(gW P t=true):=by simp[cC,cL,lI,AV.il]
end
end Go.Av
end
section
namespace Go.Proofs.Tryz
open Go Go.Av
set_option maxRecDepth 10000
variable {W0 :World}
theorem pV (l:List Clause)(hl:l.length<=1048576)(hc: ∀c∈l,c.length<=1048576):ag prog W0 199 [aA l] (aA l):=by
 refine an [2] [] func199 rfl rfl ntmps199 rfl rfl (ec _) λhs σ=>?_
 simp only[go_sem,simprocAttr,aA,acO];refine ae.at [6,7] (.of (by kernel_rfl)) (λA=>∃ v,A.env 3=v/\aL σ A.st v 77 (l.map aF)) ?_ λB ⟨v,h3,hb⟩=>?_
 .refine ae.upto [6,7] (.of (by kernel_rfl)) l.length (λi A=>∃ v,A.env 3=v/\A.env 8= .int .i64 i/\aL σ A.st v 77 ((l.take i).map aF)) 0 (acS _) ?_ λi B hi ⟨v,h3,h8,hb⟩=>?_
  .simp only[go_sem,simprocAttr];simp[aL.nil,Ext.refl]
  simp only[go_sem,simprocAttr,h3,h8,acO];refine⟨λhlt=>⟨hlt,?_⟩,λhlt=>?_⟩
  .obtain⟨c,ha⟩:=get_some hlt;simp only[aw ha];simp only[go_sem,simprocAttr,aF];refine aj.fn (uJ c (hc c (acR ha))) ?_;simp only[go_sem,simprocAttr,hb.ok,hb.un,aF];refine bA.own 1048576 (by kernel_rfl) hb.bld (.lit _ _ _) (by grind) λv' σ' ha'=>?_
   have hb':=hb.app ha';simp only[go_sem,simprocAttr,h8];refine⟨hlt,_,rfl,ah hlt (by grind [au]),?_⟩;rw[ai ha,List.map_append];exact hb'
  grind
 simp only[go_sem,simprocAttr,h3];exact⟨hb.cb,hb.ext⟩
theorem ku {l:List Clause}(h:l.length<=12/\ ∀c∈l,lO c=true):l.length<=1048576/\ ∀c∈l,c.length<=1048576:=
 ⟨by omega,λc hc=>by grind [zO]⟩
theorem KJ (p:Pkg)(hp:aS p=0):ag prog W0 136 [ay p] (ay p):=by
 have hg:=dE hp;refine l9 [.cell 2 51] [] func136 rfl rfl ntmps136 rfl rfl (rD _) λhs σ=>?_
 simp only[go_sem,simprocAttr,ay];have g1:=ku hg.pre;have g2:=ku hg.dep;have g3:=ku hg.rcm;refine⟨.of (by kernel_rfl),aB.fn (pV p.pre g1.1 g1.2) ?_⟩;simp only[go_sem,simprocAttr];refine aB.fn (pV p.dep g2.1 g2.2) ?_;simp only[go_sem,simprocAttr];refine aB.fn (pV p.rcm g3.1 g3.2) ?_;simp only[go_sem,simprocAttr];refine⟨.of (by kernel_rfl),aB.fn (oW p.con (by grind [tT.con])) ?_⟩;simp only[go_sem,simprocAttr];refine aB.fn (oW p.brk (by grind [tT.brk])) ?_;simp only[go_sem,simprocAttr];refine aB.fn (yn p.eX (by grind [tT.eX])) ?_;simp only[go_sem,simprocAttr]
def fb (l:List Pkg):AV:=.loc 201 (.agg 201 [aM l])
@[go_sem] theorem acs (gd:Option Bool)(l:List Pkg):okM gd (fb l)=True:=cq trivial
@[go_sem] theorem abZ (l:List Pkg):unm (fb l)=fb l:=rfl
@[go_sem] theorem aaO (p:Pkg):unm (ay p)=ay p:=rfl
theorem sr (l:List Pkg):ag prog W0 82 [fb l] (.int .i64 l.length):=by
 refine an [2] [] func82 rfl rfl ntmps82 rfl rfl (.int _ _) λhs σ=>?_
 simp only[go_sem,simprocAttr,fb,aM,acO]
 try exact .refl _
theorem Kx (l:List Pkg)(i:Nat){p:Pkg}(hi:l[i]?=some p)(hp:aS p=0):ag prog W0 83 [fb l,.int .i64 i] (.tup [ay p,.bool true]):=by
 have hlt:=(acP.1 hi).1;refine l9 [.cell 4 51,.tmp 5] [] func83 rfl rfl ntmps83 rfl rfl (.rW (rD _) (.bool _)) λhs σ=>?_
 simp only[go_sem,simprocAttr,fb,aM];refine aB.fnG (λ_=>sr l) ?_;simp only[go_sem,simprocAttr,acO];refine⟨λh=>absurd h (by grind),λ_=>⟨hlt,?_⟩⟩;simp only[aw hi];simp only[go_sem,simprocAttr,ay];refine aj.fn (KJ p hp) ?_;simp only[go_sem,simprocAttr,ay]
def plB (l:List Pkg)(b:Pkg->Bool)(i:Nat):List Nat:=(List.range i).filter λi=>match l[i]? with
 |some p=>b p
 |none=>false
theorem u9 {l:List Pkg}{b:Pkg->Bool}{i:Nat}{p:Pkg}(h:l[i]?=some p):plB l b (i+1)=plB l b i++if b p then [i]else []:=by
 grind [plB,ac1]
theorem Nt (l:List Pkg)(b:Pkg->Bool)(i:Nat):(plB l b i).length<=i:=by
 have:=List.length_filter_le (λi=>match l[i]? with|some p=>b p|none=>false) (List.range i)
 rwa [acZ]at this
def bu (l:List Pkg)(b:Pkg->Bool):List Nat:=plB l b l.length
theorem sB (l:List Pkg)(hl:l.length<=1048576)(b:Pkg->Bool)(g:FuncId)(caps:List AV)(hg: ∀p∈l,ag prog W0 g ([ay p]++caps) (.bool (b p))):ag prog W0 149 [fb l,.fn g caps] (.sl 3 ((bu l b).map λi=>.int .i64 (i:Nat))):=by
 refine an [4] [] func149 rfl rfl ntmps149 rfl rfl (.sl λx hx=>by obtain⟨i,_,rfl⟩:=ac0.1 hx;exact .int _ _) λhs σ=>?_
 simp only[go_sem,simprocAttr];refine aj.fn (sr l) ?_;simp only[go_sem,simprocAttr];refine ae.at [] (.of (by kernel_rfl)) (λA=>∃ v,A.env 5=v/\aL σ A.st v 3 ((bu l b).map λi=>.int .i64 (i:Nat))) ?_ λB ⟨v,h5,hb⟩=>?_
 .refine ae.upto [0,1,8] (.of (by kernel_rfl)) l.length (λi A=>∃ v,A.env 5=v/\A.env 9= .int .i64 i/\aL σ A.st v 3 ((plB l b i).map λi=>.int .i64 (i:Nat))) 0 (acS _) ?_ λi B hi ⟨v,h5,h9,hb⟩=>?_
  .simp only[go_sem,simprocAttr];exact⟨_,rfl,aL.nil (.refl _) _⟩
  simp only[go_sem,simprocAttr,h5,h9];refine⟨λhlt=>?_,λhlt=>?_⟩
  .obtain⟨p,ha⟩:=get_some hlt;simp only[go_sem,simprocAttr,fb,aM,acO];simp only[aw ha];simp only[go_sem,simprocAttr];refine⟨hlt,aj.pure (hg p (acR ha)) ?_⟩;have hpl:=Nt l b i;simp only[go_sem,simprocAttr,h5,h9,hb.ok,hb.un];refine⟨λhp=>?_,λhp=>?_⟩
   .refine bA.own 1048576 (by kernel_rfl) hb.bld (.lit _ _ _) (by grind) λv' σ' ha'=>?_
    have hb':=hb.app ha';simp only[go_sem,simprocAttr,h9];grind [ah,au,u9]
   grind [ah,au,u9]
  .have e:i=l.length:=by omega
   subst e;exact⟨_,rfl,hb⟩
 simp only[go_sem,simprocAttr,h5];exact⟨hb.cb,hb.ext⟩
theorem L2 (l:List Nat):aU 0 (nL l):=.sl λx hx=>by obtain⟨i,_,rfl⟩:=ac0.1 hx;exact .int _ _
theorem JU (l:List Pkg)(hl:l.length<=1048576)(n:List UInt8):ag prog W0 86 [fb l,.str n] (nL (bu l λp=>p.name==n)):=by
 refine an [4] [3] func86 rfl rfl ntmps86 rfl rfl (L2 _) λhs σ=>?_
 simp only[go_sem,simprocAttr];refine aj.fn (sB l hl (λp=>p.name==n) 150 [.loc 9 (.str n)] λp _=>?_) ?_
 .refine an [3] [2] func150 rfl rfl ntmps150 rfl rfl (.bool _) λhs σ=>?_
  simp only[go_sem,simprocAttr,ay]
  try exact .refl _
 simp only[go_sem,simprocAttr,nL]
 try exact .refl _
theorem Bo (l:List Pkg)(hl:l.length<=1048576)(a:Atom):ag prog W0 125 [fb l,aW a] (nL (bu l λp=>dO p a)):=by
 refine an [4] [3] func125 rfl rfl ntmps125 rfl rfl (L2 _) λhs σ=>?_
 simp only[go_sem,simprocAttr,aW];refine aj.fn (sB l hl (λp=>dO p a) 192 [.loc 76 (aW a)] λp _=>?_) ?_
 .refine an [3] [2] func192 rfl rfl ntmps192 rfl rfl (.bool _) λhs σ=>?_
  simp only[go_sem,simprocAttr];refine aj.fn (we p a) ?_;simp only[go_sem,simprocAttr]
  try exact .refl _
 simp only[go_sem,simprocAttr,nL]
 try exact .refl _
theorem Gk (l:List Pkg)(hl:l.length<=1048576)(n v:List UInt8):ag prog W0 116 [fb l,.str n,.str v] (.tup [.int .i64 (((bu l λp=>p.name==n&&bq p.ver v).head?.getD 0:Nat):Int),.bool (bu l λp=>p.name==n&&bq p.ver v).head?.isSome]):=by
 refine an [6,7] [4,5] func116 rfl rfl ntmps116 rfl rfl (.rW (.int _ _) (.bool _)) λhs σ=>?_
 simp only[go_sem,simprocAttr];refine aj.fn (sB l hl (λp=>p.name==n&&bq p.ver v) 183 [.loc 9 (.str n),.loc 9 (.str v)] λp _=>?_) ?_
 .refine an [4] [3] func183 rfl rfl ntmps183 rfl rfl (.bool _) λhs σ=>?_
  simp only[go_sem,simprocAttr,ay];refine aB.fnG (λ_=>ni p.ver v) ?_;simp only[go_sem,simprocAttr]
  try exact .refl _
 generalize bu l _=ps;cases ps with
 |nil=>simp only[go_sem,simprocAttr];try exact .refl _
 |cons i r=>simp only[go_sem,simprocAttr];rw[show atV (AV.int IntKind.i64 i::List.map (λi:Nat=>AV.int IntKind.i64 (i:Int)) r) 0= .int .i64 i from rfl];exact .refl _
def tQ (l:List Pkg)(i:Nat):Option (List UInt8):=match l[i]? with
 |some p=>if i=0\/(l[i-1]?.map Pkg.name)≠some p.name then some p.name else none
 |none=>none
def nmB (l:List Pkg)(i:Nat):List (List UInt8):=(List.range i).filterMap (tQ l)
theorem wL (l:List Pkg)(i:Nat):nmB l (i+1)=nmB l i++(tQ l i).toList:=by
 grind [nmB,ac1]
theorem Ar (l:List Pkg)(i:Nat):(nmB l i).length<=i:=by
 have:=List.length_filterMap_le (tQ l) (List.range i)
 rwa [acZ]at this
theorem uq (u v:AV):oK true u v=u:=by
 unfold oK oL;grind [vh]
theorem zm (l:List (List UInt8)):aU 0 (.sl 9 (l.map .str)):=.sl λx hx=>by obtain⟨i,_,rfl⟩:=ac0.1 hx;exact .str _
theorem KV (l:List Pkg)(hl:l.length<=1048576):ag prog W0 85 [fb l] (.sl 9 ((nmB l l.length).map .str)):=by
 refine an [2] [] func85 rfl rfl ntmps85 rfl rfl (zm _) λhs σ=>?_
 simp only[go_sem,simprocAttr];refine aj.fn (sr l) ?_;simp only[go_sem,simprocAttr];refine ae.at [] (.of (by kernel_rfl)) (λA=>∃ v,A.env 3=v/\aL σ A.st v 9 ((nmB l l.length).map .str)) ?_ λB ⟨v,h3,hb⟩=>?_
 .refine ae.upto [0,6] (.of (by kernel_rfl)) l.length (λi A=>∃ v,A.env 3=v/\A.env 7= .int .i64 i/\aL σ A.st v 9 ((nmB l i).map .str)) 0 (acS _) ?_ λi B hi ⟨v,h3,h7,hb⟩=>?_
  .simp only[go_sem,simprocAttr];exact⟨_,rfl,aL.nil (.refl _) _⟩
  simp only[go_sem,simprocAttr,h3,h7,hb.ok,hb.un];refine⟨λhlt=>?_,λhlt=>?_⟩
  .obtain⟨p,ha⟩:=get_some hlt;have hnl:=Ar l i;rcases Nat.eq_zero_or_pos i with h0|h0
   .subst h0;have e0:atV (List.map ay l) 0=ay p:=aw (i:=0) ha;have hn0:tQ l 0=some p.name:=by grind [tQ]
    simp only[go_sem,simprocAttr,fb,aM,acO,e0,ay,uq];refine⟨.of (by kernel_rfl),hlt,?_⟩;refine bA.own 1048576 (by kernel_rfl) hb.bld (.lit _ _ _) (by simp_all) λv' σ' ha'=>?_
    have hb':=hb.app ha';simp only[go_sem,simprocAttr,h7];grind [wL]
   .obtain⟨q,hq⟩:=get_some (show i-1<l.length by omega);have w1:IntKind.i64.wrap ((i:Int)-1)=((i-1:Nat):Int):=by grind [aH]
    have z1:((i:Int)==0)=false:=by grind
    have z2: ¬((i:Int)=0):=by omega
    have e0:atV (List.map ay l) i=ay p:=aw ha;have e1:atV (List.map ay l) ((i-1:Nat):Int)=ay q:=aw hq;have hn0:tQ l i=if q.name≠p.name then some p.name else none:=by
     grind [tQ]
    simp only[go_sem,simprocAttr,fb,aM,acO,w1,z1,z2,e0,e1,ay];refine⟨.of (by kernel_rfl),by omega,hlt,λhne=>⟨hlt,?_⟩,λhe=>⟨hlt,_,rfl,ah hlt (by grind [au]),?_⟩⟩
    .refine bA.own 1048576 (by kernel_rfl) hb.bld (.lit _ _ _) (by grind) λv' σ' ha'=>?_
     have hb':=hb.app ha';simp only[go_sem,simprocAttr,h7];grind [ah,au,wL]
    grind [wL]
  grind
 simp only[go_sem,simprocAttr,h3];exact⟨hb.cb,hb.ext⟩
theorem xD {f:Pkg->Pkg->Int}(hw:me (ltF f))(σ:ab)(id n:Nat)(xs:List Pkg)(hn:n=xs.length)(hx:n<40)(hid:σ[id]?=some (cF xs))(g:FuncId)(caps:List AV)(hcmp:uf W0 f xs g caps):
  aP prog W0 137 [.row 51 id 0 n,.fn g caps] σ λr σ'=>∃ C,C.Perm xs/\dj (ltF f) C/\σ'=σ.set id (cF C):=by
 refine bY [] [] func137 rfl rfl ntmps137 rfl rfl λhs=>?_
 simp only[go_sem,simprocAttr];refine aj.goes (by simp only[go_sem,simprocAttr]) (Ip hw σ id n xs hn hx hid g caps hcmp) λr σ1 ⟨C,p,r,hσ⟩=>?_
 simp only[go_sem,simprocAttr];refine bt.normal ?_;simp only[go_sem,simprocAttr];exact⟨_,.refl _,by simp_all,C,p,r,hσ⟩
theorem qd (a b:List UInt8):ag prog W0 141 [.str a,.str b] (.int .i64 (cd a b)):=by
 refine an [4] [] func141 rfl rfl ntmps141 rfl rfl (.int _ _) λhs σ=>?_
 simp only[go_sem,simprocAttr];refine aj.fn (p9 a b) ?_;simp only[go_sem,simprocAttr,qY]
 try exact .refl _
theorem RI (p q:Pkg):ag prog W0 138 [ay p,ay q] (.int .i64 (gu p q)):=by
 refine an [4] [2,3] func138 rfl rfl ntmps138 rfl rfl (.int _ _) λhs σ=>?_
 simp only[go_sem,simprocAttr,ay];refine⟨.of (by kernel_rfl),aB.fn (AN p.name q.name) ?_⟩;simp only[go_sem,simprocAttr];refine aB.fn (qd q.ver p.ver) ?_;simp only[go_sem,simprocAttr];refine aB.fn ((KB [jB p.name q.name,cd q.ver p.ver]).cb (.cons (.lit _ _) .nil)) ?_;simp only[go_sem,simprocAttr];have e:orL [jB p.name q.name,cd q.ver p.ver]=gu p q:=by
  grind [gu,orL]
 rw[e];exact .refl _
theorem OR {l:List Pkg}(hv:xC l):uf W0 xw l 138 []:=λa ha b hb=>by
 rw[Gq (hv a ha) (hv b hb)];simp[RI]
theorem Ej {g:FuncId}{caps:List AV}:ag prog W0 137 [.ar,.fn g caps] (.tup []):=by
 have h1:ag prog W0 247 [.ar,.int .i64 0,.int .i64 0,.fn g caps] (.tup []):=by
  refine an [] [] func247 rfl rfl ntmps247 rfl rfl (.tup λx hx=>by cases hx) λhs σ=>?_
  simp only[go_sem,simprocAttr];refine ae.cE [0,1,2,3] (.of (by kernel_rfl)) (λk E=>E.env 8= .int .i64 1/\E.st=σ) 0 ?_ λk E ⟨h8,hst⟩=>?_
  .simp only[go_sem,simprocAttr]
  simp only[go_sem,simprocAttr,h8,hst]
  try exact .refl _
 have h2:ag prog W0 203 [.ar,.int .i64 0,.fn g caps] (.tup []):=by
  refine an [] [] func203 rfl rfl ntmps203 rfl rfl (.tup λx hx=>by cases hx) λhs σ=>?_
  simp only[go_sem,simprocAttr];refine ae.at [0,1,2,6] (.of (by kernel_rfl)) (λE=>E.env 7= .int .i64 0/\E.st=σ) ?_ λE ⟨h7,hst⟩=>?_
  .refine ae.cE [0,1,2,6] (.of (by kernel_rfl)) (λk E=>E.env 7= .int .i64 0/\E.env 8= .int .i64 20/\E.st=σ) 0 ?_ λk E ⟨h7,h8,hst⟩=>?_
   .simp only[go_sem,simprocAttr]
   simp only[go_sem,simprocAttr,h7,h8,hst]
  simp only[go_sem,simprocAttr,h7];refine aj.fn h1 ?_;simp only[go_sem,simprocAttr];refine ae.cE [0,1,2] (.of (by kernel_rfl)) (λk E=>E.env 6= .int .i64 20/\E.st=σ) 0 ?_ λk E ⟨h6,hst⟩=>?_
  .simp only[go_sem,simprocAttr,hst]
  simp only[go_sem,simprocAttr,h6,hst]
  try exact .refl _
 refine an [] [] func137 rfl rfl ntmps137 rfl rfl (.tup λx hx=>by cases hx) λhs σ=>?_
 simp only[go_sem,simprocAttr];refine aj.fn h2 ?_;simp only[go_sem,simprocAttr]
 try exact .refl _
def Ck (v:AV):Option bK:=some (.cells 201 [.agg 201 [v]])
structure DD (σ st:ab)(ix:Nat)(v:AV)(xs:List Pkg):Prop where
 ext:Ext σ st
 low:σ.length<=ix
 at_:st[ix]?=some (Ck v)
 row:(v= .ar/\xs=[])\/ ∃rid,v= .row 51 rid 0 xs.length/\st[rid]?=some (cF xs)/\σ.length<=rid
theorem Gg (l:List Pkg):aU 0 (fb l):=.loc (.agg λx hx=>by
 grind [kf])
theorem NS (l:List Pkg)(hp: ∀p∈l,iE p)(h0:aZ l=0):ag prog W0 78 [aM l] (.tup [fb (cS l),.int .i64 0]):=by
 have hm: ∀p∈l,aS p=0:=λp hp=>dM h0 hp
 have h24:=dH h0;have hv:=(ft h0).2;refine wT [.tmp 2,.tmp 3] [7,2000029,4000008] func78 rfl rfl ntmps78 rfl rfl (.rW (Gg _) (.int _ _)) λhs σ=>?_
 simp only[go_sem,simprocAttr];refine aj.fn (o6 l hp) ?_;simp only[go_sem,simprocAttr,h0,aM,acO];refine ae.at [5] (.of (by kernel_rfl)) (λA=>∃ v,DD σ A.st σ.length v l) ?_ λB ⟨v,hI⟩=>?_
 .refine ae.upto [5,15,16] (.of (by kernel_rfl)) l.length (λi A=>A.env 17= .int .i64 i/\ ∃v,DD σ A.st σ.length v (l.take i)) 0 (acS _) ?_ λi B hi ⟨h17,v,hI⟩=>?_
  .simp only[go_sem,simprocAttr];exact⟨.ar,(Ext.refl _).app _,acW _,by simp[Ck],.inl ⟨rfl,rfl⟩⟩
  simp only[go_sem,simprocAttr,h17,acO];refine⟨λhlt=>?_,λhge=>?_⟩
  .obtain⟨p,ha⟩:=get_some hlt;simp only[aw ha];have hat:=hI.at_;have hvn:dd v:=by rcases hI.row with⟨rfl,_⟩|⟨_,rfl,_⟩<;>trivial
   have c1:(B.st++[none])[σ.length]?=some (Ck v):=(acV (acP.1 hat).1).trans hat;have hil:(l.take i).length=i:=by simp_all
   unfold Ck at c1;simp only[go_sem,simprocAttr,ak c1];refine⟨hlt,.of (by kernel_rfl),aB.fn (KJ p (hm p (acR ha))) ?_⟩;have hR:dS (B.st++[none]) v 51 ((l.take i).map ay):=by
    rcases hI.row with⟨h1,h2⟩|⟨rid,h1,h2,h3⟩
    .exact .inl ⟨h1,by simp_all⟩
    .refine .inr (.inr ⟨rid,0,_,_,h1,(acV (acP.1 h2).1).trans h2,by simp,?_⟩);simp[acQ]
   have hkl:(cp v (B.st++[none])).length=(B.st++[none]).length:=by unfold cp;grind
   have hk1:(cp v (B.st++[none]))[σ.length]?=some (Ck v):=by
    rcases hI.row with⟨rfl,h2⟩|⟨rid,rfl,h2,h3⟩
    .exact c1
    .have hne:rid≠σ.length:=λe=>by grind [cF]
     exact(List.getElem?_set_ne hne).trans c1
   have hfp:bb prog 51 (ay p)=true:=by kernel_rfl
   simp only[go_sem,simprocAttr,cq hvn,cY hvn,hfp];refine bA.row 1048576 (by kernel_rfl) hR (.lit _ _ _) (by grind) (λh=>by cases h) λ_=>?_
   have c2:(cp v (B.st++[none])++[some (.cells 51 ((l.take i).map ay++[ay p]))])[σ.length]?=some (Ck v):=(acV (acP.1 hk1).1).trans hk1;unfold Ck at c2;simp only[go_sem,simprocAttr,h17,ak c2,aC c2];refine⟨hlt,ah hlt (by grind [au]),_,?_,acW _,acU (acP.1 c2).1,.inr ⟨B.st.length+1,?_,?_,?_⟩⟩
   .grind [Ext.set,Ext.app,cp,DD.row,DD.ext]
   .grind
   .have hne:σ.length≠B.st.length+1:=by grind
    simp_all[cF,ai]
   grind
  grind
 have hat:=hI.at_;unfold Ck at hat;rcases hI.row with⟨rfl,rfl⟩|⟨rid,rfl,hr1,hr2⟩
 .simp only[go_sem,simprocAttr,ak hat];refine aj.fn Ej ?_;simp only[go_sem,simprocAttr];refine c7.via (.inl rfl) (.cb σ.length 0 (z':=.agg 201 [.sl 51 []]) hat rfl (.agg rfl λi a b ha hb=>by
   match i,ha,hb with
   |0,ha,hb=>cases ha;cases hb;exact .ar _) (.pt 2 rfl (acU (acP.1 hat).1) (.refl _))) ?_
  refine⟨⟨trivial,trivial,trivial⟩,?_,?_⟩
  .exact .refl _
  .exact(hI.ext.set (acW _) _).set (acW _) _
 .simp only[go_sem,simprocAttr,ak hat];refine aj.goes (by simp only[go_sem,simprocAttr]) (xD JI _ rid l.length l rfl (by omega) hr1 _ _ (OR hv)) λr σ1 ⟨C,p,r,hσ⟩=>?_
  have hC:C=cS l:=PE (ft h0).1 hv (H9 (λx hx=>hv x (p.subset hx)) r) (j8 hv) p (ej l);have hne:rid≠σ.length:=λe=>by grind [cF]
  have hrl:=(acP.1 hr1).1;have hat2:σ1[σ.length]?=some (some (.cells 201 [.agg 201 [.row 51 rid 0 l.length]])):=by simp_all
  have hr3:σ1[rid]?=some (some (.cells 51 (C.map ay))):=by rw[hσ];exact acU hrl
  simp only[go_sem,simprocAttr];have hlen:C.length=l.length:=p.length_eq;refine c7.via (.inl rfl) (.cell (t:=23) (o:=0) σ.length 0 [0] hat2 rfl rfl hr3 (by simp_all) hne (by kernel_rfl) (.pt 2 rfl (acU (by rw[List.length_set];exact(acP.1 hat2).1)) (.refl _))) ?_;refine⟨⟨trivial,trivial,trivial⟩,?_,?_⟩
  .have e:List.take l.length (List.drop 0 (List.map ay C))=List.map ay (cS l):=by
    grind [acQ]
   show dc (.tup [.loc 201 (.agg 201 [.sl 51 (List.take l.length (List.drop 0 (List.map ay C)))]),.int .i64 0]) _;rw[e];exact .refl _
  .have hx:Ext σ σ1:=by grind [Ext.set,DD.ext]
   exact((hx.set hr2 _).set (acW _) _).set (acW _) _
theorem sg (l:List Pkg)(hp: ∀p∈l,iE p):ag prog W0 78 [aM l] (if aZ l=0 then .tup [fb (cS l),.int .i64 0]else .tup [.nil,.int .i64 (aZ l)]):=by
 split
 .grind [NS]
 .rename_i h0;refine wT [.tmp 2,.tmp 3] [7,2000029,4000008] func78 rfl rfl ntmps78 rfl rfl (.rW .nil (.int _ _)) λhs σ=>?_
  simp only[go_sem,simprocAttr];refine aj.fn (o6 l hp) ?_;simp only[go_sem,simprocAttr,h0];refine c7.ret ?_;simp only[go_sem,simprocAttr]
def cn (a:aK):AV:=.agg 66 [.int .i64 a.kind,.str a.name,.str a.ver]
def bF (l:List aK):AV:=.sl 66 (l.map cn)
@[go_sem] theorem YW (gd:Option Bool)(l:List aK):okM gd (bF l)=True:=eq_true trivial
@[go_sem] theorem ZQ (l:List aK):unm (bF l)=bF l:=rfl
@[go_sem] theorem Zw (gd:Option Bool)(l:List aD):okM gd (aJ l)=True:=eq_true trivial
@[go_sem] theorem YO (l:List aD):unm (aJ l)=aJ l:=rfl
@[go_sem] theorem aat (l:List Pkg):unm (aM l)=aM l:=rfl
theorem dd.ask (a:aK):dd (cn a):=trivial
@[go_sem] theorem aaM (gd:Option Bool)(a:aK):okM gd (cn a)=True:=eq_true trivial
@[go_sem] theorem abp (a:aK):unm (cn a)=cn a:=rfl
@[go_sem] theorem aa8 (gd:Option Bool)(a:aD):okM gd (bh a)=True:=eq_true trivial
@[go_sem] theorem abA (a:aD):unm (bh a)=bh a:=rfl
theorem Gb (a:aK):aU 0 (cn a):=.agg λx hx=>by
 simp only[List.mem_cons,List.not_mem_nil,or_false]at hx;rcases hx with rfl|rfl|rfl
 .exact .int _ _
 .exact .str _
 .exact .str _
theorem Zu {α:Type}(enc:α->AV)(hp: ∀a,dd (enc a))(l:List α)(q:α->Bool)(g:FuncId)(caps:List AV)(h: ∀a∈l,ag prog W0 g ([enc a]++caps) (.bool (q a))):
  ag prog W0 286 [.sl 148 (l.map enc),.fn g caps] (.int .i64 (iH q l)):=by
 refine an [4] [] func286 rfl rfl ntmps286 rfl rfl (.int _ _) λhs σ=>?_
 have hl:=(aQ (hs _ (acT ..))).1;simp only[go_sem,simprocAttr];refine ae.upto [0,1,7] (.of (by kernel_rfl)) l.length (λi A=>A.env 8= .int .i64 i/\A.st=σ/\ ∀a∈l.take i,q a=false) 0 (acS _) ?_ λi B hi ⟨h8,hst,hI⟩=>?_
 .simp only[go_sem,simprocAttr]
  all_goals simp
 simp only[go_sem,simprocAttr,h8,hst,acO];refine⟨λhc=>⟨hc,?_⟩,λhc=>az ?_⟩
 .obtain⟨a,ha⟩:=get_some hc;simp only[aw ha,cq (hp a),cY (hp a),true_and];refine aj.pure (h a (acR ha)) ?_;simp only[go_sem,simprocAttr,h8,hst];refine⟨λhq=>az (fW ha hq hI).symm,λhq=>⟨hc,ah hc hl,?_⟩⟩;rw[ai ha];intro b hb;rcases acX.1 hb with hb|hb
  .exact hI b hb
  .rw[acY.1 hb];exact hq
 .rw[dG]
  rwa [acQ hc]at hI
theorem Xn {α:Type}(enc:α->AV)(hp: ∀a,dd (enc a))(l:List α)(q:α->Bool)(g:FuncId)(caps:List AV)(h: ∀a∈l,ag prog W0 g ([enc a]++caps) (.bool (q a))):
  ag prog W0 208 [.sl 66 (l.map enc),.fn g caps] (.int .i64 (iH q l)):=by
 refine an [4] [] func208 rfl rfl ntmps208 rfl rfl (.int _ _) λhs σ=>?_
 have hl:=(aQ (hs _ (acT ..))).1;simp only[go_sem,simprocAttr];refine ae.upto [0,1,7] (.of (by kernel_rfl)) l.length (λi A=>A.env 8= .int .i64 i/\A.st=σ/\ ∀a∈l.take i,q a=false) 0 (acS _) ?_ λi B hi ⟨h8,hst,hI⟩=>?_
 .simp only[go_sem,simprocAttr]
  all_goals simp
 simp only[go_sem,simprocAttr,h8,hst,acO];refine⟨λhc=>⟨hc,?_⟩,λhc=>az ?_⟩
 .obtain⟨a,ha⟩:=get_some hc;simp only[aw ha,cq (hp a),cY (hp a),true_and];refine aj.pure (h a (acR ha)) ?_;simp only[go_sem,simprocAttr,h8,hst];refine⟨λhq=>az (fW ha hq hI).symm,λhq=>⟨hc,ah hc hl,?_⟩⟩;rw[ai ha];intro b hb;rcases acX.1 hb with hb|hb
  .exact hI b hb
  .rw[acY.1 hb];exact hq
 .rw[dG]
  rwa [acQ hc]at hI
theorem ZR {α:Type}(enc:α->AV)(hp: ∀a,dd (enc a))(l:List α)(q:α->Bool)(g:FuncId)(caps:List AV)(h: ∀a∈l,ag prog W0 g ([enc a]++caps) (.bool (q a))):
  ag prog W0 252 [.sl 148 (l.map enc),.fn g caps] (.bool (l.any q)):=by
 refine an [4] [] func252 rfl rfl ntmps252 rfl rfl (.bool _) λhs σ=>?_
 simp only[go_sem,simprocAttr];refine aj.fn (Zu enc hp l q g caps h) ?_;simp only[go_sem,simprocAttr];exact aq jd
theorem Qd {α:Type}(enc:α->AV)(hp: ∀a,dd (enc a))(l:List α)(q:α->Bool)(g:FuncId)(caps:List AV)(h: ∀a∈l,ag prog W0 g ([enc a]++caps) (.bool (q a))):
  ag prog W0 153 [.sl 66 (l.map enc),.fn g caps] (.bool (l.any q)):=by
 refine an [4] [] func153 rfl rfl ntmps153 rfl rfl (.bool _) λhs σ=>?_
 simp only[go_sem,simprocAttr];refine aj.fn (Xn enc hp l q g caps h) ?_;simp only[go_sem,simprocAttr];exact aq jd
def NoB {α:Type}(q:α->Bool)(l:List α)(i:Nat):Prop:=∀ b∈l.take i,q b=false
theorem NoB.zero {α:Type}(q:α->Bool)(l:List α):NoB q l 0:=λb hb=>by simp at hb
theorem NoB.succ {α:Type}{l:List α}{i:Nat}{a:α}{q:α->Bool}(hI:NoB q l i)(ha:l[i]?=some a)(hq:q a=false):NoB q l (i+1):=by
 unfold NoB;rw[ai ha];intro b hb;rcases acX.1 hb with hb|hb
 .exact hI b hb
 simp_all
theorem NoB.all {α:Type}{l:List α}{i:Nat}{q:α->Bool}(hI:NoB q l i)(h:l.length<=i): ∀b∈l,q b=false:=by
 grind [NoB,acQ]
theorem nh (l:List aD)(n:List UInt8):ag prog W0 89 [aJ l,.str n] (.tup [.int .i64 (if iH (λx:aD=>x.pkg.name==n) l<0 then 0 else iH (λx:aD=>x.pkg.name==n) l),.bool (decide (0<=iH (λx:aD=>x.pkg.name==n) l))]):=by
 refine an [4,5] [7] func89 rfl rfl ntmps89 rfl rfl (.rW (.int _ _) (.bool _)) λhs σ=>?_
 have hl:=(aQ (hs _ (acT ..))).1;simp only[go_sem,simprocAttr,aJ,acO];refine ae.upto [1,8,9] (.of (by kernel_rfl)) l.length (λi A=>A.env 10= .int .i64 i/\Ext σ A.st/\NoB (λx:aD=>x.pkg.name==n) l i) 0 (acS _) ?_ λi B hi ⟨h10,hst,hI⟩=>?_
 .simp only[go_sem,simprocAttr];simp[Ext.refl,NoB.zero]
 simp only[go_sem,simprocAttr,h10,acO];refine⟨λhc=>⟨hc,?_⟩,λhc=>?_⟩
 .obtain⟨a,ha⟩:=get_some hc;simp only[aw ha];simp only[go_sem,simprocAttr,bh,ay];refine⟨λhq=>⟨?_,hst.app _⟩,λhq=>⟨hc,ah hc hl,hst.app _,hI.succ ha (by simp_all)⟩⟩;rw[fW ha (by simp_all) hI,if_neg (by omega),decide_eq_true (by omega)];exact .refl _
 .rw[dG (hI.all hc)];exact⟨.refl _,hst⟩
theorem KI (l:List aD)(n:List UInt8):ag prog W0 21 [aJ l,.str n] (.int .i64 (iH (λx:aD=>x.pkg.name==n) l)):=by
 refine an [4] [6] func21 rfl rfl ntmps21 rfl rfl (.int _ _) λhs σ=>?_
 have hl:=(aQ (hs _ (acT ..))).1;simp only[go_sem,simprocAttr,aJ,acO];refine ae.upto [1,7,8] (.of (by kernel_rfl)) l.length (λi A=>A.env 9= .int .i64 i/\Ext σ A.st/\NoB (λx:aD=>x.pkg.name==n) l i) 0 (acS _) ?_ λi B hi ⟨h10,hst,hI⟩=>?_
 .simp only[go_sem,simprocAttr];exact⟨.refl _,.zero _ _⟩
 simp only[go_sem,simprocAttr,h10,acO];refine⟨λhc=>⟨hc,?_⟩,λhc=>?_⟩
 .obtain⟨a,ha⟩:=get_some hc;simp only[aw ha];simp only[go_sem,simprocAttr,bh,ay,h10];refine⟨λhq=>⟨?_,hst.app _⟩,λhq=>⟨hc,ah hc hl,hst.app _,hI.succ ha (by simpa using hq)⟩⟩;rw[fW ha (by simpa using hq) hI];exact .refl _
 .rw[dG (hI.all hc)];exact⟨.refl _,hst⟩
theorem AO (l:List aK)(k:Int):ag prog W0 72 [bF l,.int .i64 k] (.bool (l.any λa=>a.kind==k)):=by
 refine an [4] [6] func72 rfl rfl ntmps72 rfl rfl (.bool _) λhs σ=>?_
 have hl:=(aQ (hs _ (acT ..))).1;simp only[go_sem,simprocAttr,bF,acO];refine ae.upto [1,7,8] (.of (by kernel_rfl)) l.length (λi A=>A.env 9= .int .i64 i/\Ext σ A.st/\NoB (λa:aK=>a.kind==k) l i) 0 (acS _) ?_ λi B hi ⟨h10,hst,hI⟩=>?_
 .simp only[go_sem,simprocAttr];exact⟨.refl _,.zero _ _⟩
 simp only[go_sem,simprocAttr,h10,acO];refine⟨λhc=>⟨hc,?_⟩,λhc=>?_⟩
 .obtain⟨a,ha⟩:=get_some hc;simp only[aw ha];simp only[go_sem,simprocAttr,cn,h10];refine⟨λhq=>⟨aq ?_,hst.app _⟩,λhq=>⟨hc,ah hc hl,hst.app _,hI.succ ha (by simpa using hq)⟩⟩;exact(List.any_eq_true.2 ⟨a,acR ha,by simpa using hq⟩).symm
 .refine⟨aq ?_,hst⟩;exact(List.any_eq_false.2 λx hx=>by simpa using hI.all hc x hx).symm
def eS (l:List aK):Bool:=(l.any λa=>a.kind==3)||l.any λa=>a.kind==4
theorem EI (l:List aK):ag prog W0 81 [bF l] (.bool (eS l)):=by
 refine an [2] [] func81 rfl rfl ntmps81 rfl rfl (.bool _) λhs σ=>?_
 simp only[go_sem,simprocAttr];refine aj.fn (AO l 3) ?_;simp only[go_sem,simprocAttr];refine aB.fnG (λ_=>AO l 4) ?_;simp only[go_sem,simprocAttr,eS]
 try exact .refl _
def pF :aK:=⟨0,[],[]⟩
theorem jj {α:Type}{l:List α}{i:Nat}{a:α}{q:α->Bool}(ha:l[i]?=some a)(hq:q a=true)(hI:NoB q l i):l.find? q=some a:=by
 obtain⟨hi,he⟩:=acP.1 ha;refine List.find?_eq_some_iff_getElem.2 ⟨hq,i,hi,he,λj hj=>?_⟩;rw[hI _ (List.mem_iff_getElem.2 ⟨j,by grind,by simp_all⟩)];rfl
theorem KL (p:Pkg)(all:List Pkg)(h24:all.length<=1048576):ag prog W0 146 [ay p,aM all] (.int .i64 (dx all p)):=by
 refine an [4] [2,7] func146 rfl rfl ntmps146 rfl rfl (.int _ _) λhs σ=>?_
 simp only[go_sem,simprocAttr,aM,acO];refine ae.at [] (.of (by kernel_rfl)) (λA=>A.env 5= .int .i64 (dx all p)/\Ext σ A.st) ?_ λB ⟨h5,hst⟩=>?_
 .refine ae.upto [2,8,9] (.of (by kernel_rfl)) all.length (λi A=>A.env 10= .int .i64 i/\A.env 5= .int .i64 (dx (all.take i) p)/\Ext σ A.st/\dx (all.take i) p<=i) 0 (acS _) ?_ λi B hi ⟨h10,h5,hst,hle⟩=>?_
  .simp only[go_sem,simprocAttr];simp[dx,Ext.refl]
  simp only[go_sem,simprocAttr,h10,h5,acO];refine⟨λhc=>⟨hc,?_⟩,λhc=>?_⟩
  .obtain⟨q,hq⟩:=get_some hc;have hn:dx (all.take (i+1)) p=dx (all.take i) p+if (q.name==p.name&&decide (0<cd q.ver p.ver))=true then 1 else 0:=by
    unfold dx;rw[ai hq,List.filter_append,List.length_append];congr 1;rw[List.filter_cons];split<;>rfl
   simp only[aw hq];simp only[go_sem,simprocAttr,ay,h10,h5];refine aB.fnG (λ_=>qd q.ver p.ver) ?_;simp only[go_sem,simprocAttr,h10,h5];refine⟨λhb=>⟨hc,ah hc (by rw[au];omega),?_,hst.app _,?_⟩,λhb=>⟨hc,ah hc (by rw[au];omega),?_,hst.app _,?_⟩⟩
   .rw[hn,if_pos hb,j9 (N:=1048577) (by omega) (by rw[au];omega)]
   .rw[hn,if_pos hb];omega
   .rw[hn,if_neg (by simp[hb])];rfl
   .rw[hn,if_neg (by simp[hb])];omega
  .rw[acQ hc];exact⟨rfl,hst⟩
 simp only[go_sem,simprocAttr,h5];exact hst
set_option maxHeartbeats 1000000
theorem Bq {l:List Pkg}{b:Pkg->Bool}:(bu l b).head?=l.findIdx? b:=by
 have key: ∀i,i<=l.length->(plB l b i).head?=(l.take i).findIdx? b:=by
  intro i
  induction i with
  |zero=>simp[plB]
  |succ i ih=>
   intro hi;obtain⟨p,hp⟩:=get_some (show i<l.length by omega);rw[u9 hp,ai hp,List.head?_append,ih (by omega),List.findIdx?_append];grind
 have:=key l.length (acW _)
 rwa [List.take_length]at this
theorem PN (l:List Pkg)(n v:List UInt8):(bu l λp=>p.name==n&&bq p.ver v).head?=sW l n v:=Bq
theorem Ez (all:List Pkg)(h0:aZ all=0):ag prog W0 122 [aM all,fb (cS all)] (.bool (decide (all=cS all))):=by
 have h24:=dH h0;have hsl:(cS all).length=all.length:=(ej all).length_eq;refine an [4] [6] func122 rfl rfl ntmps122 rfl rfl (.bool _) λhs σ=>?_
 have hl:=(aQ (hs _ (acT ..))).1;simp only[go_sem,simprocAttr,aM,acO];refine ae.upto [1,9,10] (.of (by kernel_rfl)) all.length (λi A=>A.env 11= .int .i64 i/\Ext σ A.st/\ ∀k p,k<i->all[k]?=some p->sW (cS all) p.name p.ver=some k) 0 (acS _) ?_ λi B hi ⟨h11,hst,hI⟩=>?_
 .simp only[go_sem,simprocAttr];exact .refl _
 simp only[go_sem,simprocAttr,h11,acO];refine⟨λhc=>⟨hc,?_⟩,λhc=>⟨aq (decide_eq_true ((tA h0).1 λk p hk=>hI k p (by grind) hk)).symm,hst⟩⟩
 .obtain⟨p,hp⟩:=get_some hc;simp only[aw hp];simp only[go_sem,simprocAttr,ay];refine aj.fn (Gk (cS all) (by omega) p.name p.ver) ?_;rw[PN];simp only[go_sem,simprocAttr,h11];have hno:sW (cS all) p.name p.ver≠some i->all≠cS all:=λh e=>h ((tA h0).2 e i p hp)
  cases hf:sW (cS all) p.name p.ver with
  |none=>
   simp only[go_sem,simprocAttr];exact⟨aq (decide_eq_false (hno (by simp_all))).symm,hst.app _⟩
  |some k=>
   simp only[go_sem,simprocAttr,Option.getD_some];refine⟨λhne=>⟨aq (decide_eq_false (hno (by simp_all))).symm,hst.app _⟩,λhe=>⟨hc,ah hc (by omega),hst.app _,λj q hj hq=>?_⟩⟩;grind
def PI (n:Nat)(cls:List (List Int)):AV:=.loc 248 (.agg 248 [.int .i64 n,Dn cls])
@[go_sem] theorem abw (n:Nat)(cls:List (List Int)):unm (PI n cls)=PI n cls:=rfl
def aca (n:Nat)(cls:List (List Int)):AV:=.loc 188 (.agg 188 [.int .i64 n,PI n cls])
def marks (n:Nat):List Int->List Bool->Option (List Bool)
 |[],m=>some m
 |i::r,m=>if 0<=i/\i<n then(if (m[i.toNat]?).getD false=true then none else marks n r (m.set i.toNat true))else none
def jm (all:List Pkg)(c:Clause):List Int:=c.flatMap λa=>(bu all λq=>dO q a).map fJ
theorem uy {l:List Pkg}{b:Pkg->Bool}{k:Nat}:k∈bu l b↔ ∃q,l[k]?=some q/\b q=true:=by
 grind [bu,plB]
theorem Hw {c:Clause}{all:List Pkg}{x:Int}:x∈jy c 0 all↔ ∃k q,all[k]?=some q/\c.any (dO q)=true/\x=fJ k:=by
 have key: ∀(l:List Pkg) (i:Nat),x∈jy c i l↔ ∃k q,l[k]?=some q/\c.any (dO q)=true/\x=fJ (i+k):=by
  intro l
  induction l with
  |nil=>simp[jy]
  |cons p r ih=>
   intro i;rw[jy,acX,ih];constructor
   .rintro(h|⟨k,q,h1,h2,h3⟩)
    .split at h
     .rename_i hs;simp at h;exact⟨0,p,rfl,hs,by omega⟩
     simp_all
    .exact⟨k+1,q,by simp_all,h2,by grind⟩
   grind
 simp_all
theorem yK {c:Clause}{all:List Pkg}{x:Int}:x∈jm all c↔x∈jy c 0 all:=by
 grind [Hw,jm,uy]
end Go.Proofs.Tryz
end
section
namespace Go.Proofs.Tryz
open Go Go.Av Go.Sort
set_option maxRecDepth 100000
set_option maxHeartbeats 2000000
theorem RM (a:Int)(w:World):Calls prog 332 #[.int .i64 a] w λe w'=>e= .returned (.bool false)/\w'=w:=by
 go_enter func332,ntmps332
 go_wp2
 go_ret
 exact⟨rfl,rfl⟩
theorem Ry (a b:Int)(w:World):Calls prog 297 #[.int .i64 a,.int .i64 b] w λe w'=>e= .returned (.int .i64 (sgn a b))/\w'=w:=by
 have h1:=λx W=>RM x W
 unfold sgn
 go_enter func297,ntmps297
 go_wp2_with (go_at_call 332;refine(h1 _ _).mono ?_;rintro e w' ⟨rfl,rfl⟩)
 all_goals go_ret
 all_goals simp_all
theorem Sl (a:Int)(w:World):Calls prog 298 #[.int .u32 a] w λe w'=>e= .returned (.bool false)/\w'=w:=by
 go_enter func298,ntmps298
 go_wp2
 go_ret
 exact⟨rfl,rfl⟩
theorem SA (a b:Int)(w:World):Calls prog 257 #[.int .u32 a,.int .u32 b] w λe w'=>e= .returned (.int .i64 (sgn a b))/\w'=w:=by
 have h1:=λx W=>Sl x W
 unfold sgn
 go_enter func257,ntmps257
 go_wp2_with (go_at_call 298;refine(h1 _ _).mono ?_;rintro e w' ⟨rfl,rfl⟩)
 all_goals go_ret
 all_goals simp_all
theorem S4 (a:Int)(w:World):Calls prog 278 #[.int .u64 a] w λe w'=>e= .returned (.bool false)/\w'=w:=by
 go_enter func278,ntmps278
 go_wp2
 go_ret
 exact⟨rfl,rfl⟩
theorem SM (a b:Int)(w:World):Calls prog 239 #[.int .u64 a,.int .u64 b] w λe w'=>e= .returned (.int .i64 (sgn a b))/\w'=w:=by
 have h1:=λx W=>S4 x W
 unfold sgn
 go_enter func239,ntmps239
 go_wp2_with (go_at_call 278;refine(h1 _ _).mono ?_;rintro e w' ⟨rfl,rfl⟩)
 all_goals go_ret
 all_goals simp_all
theorem SC (a:Int)(w:World):Calls prog 279 #[.int .i64 a] w λe w'=>e= .returned (.bool false)/\w'=w:=by
 go_enter func279,ntmps279
 go_wp2
 go_ret
 exact⟨rfl,rfl⟩
theorem SP (a b:Int)(w:World):Calls prog 240 #[.int .i64 a,.int .i64 b] w λe w'=>e= .returned (.int .i64 (sgn a b))/\w'=w:=by
 have h1:=λx W=>SC x W
 unfold sgn
 go_enter func240,ntmps240
 go_wp2_with (go_at_call 279;refine(h1 _ _).mono ?_;rintro e w' ⟨rfl,rfl⟩)
 all_goals go_ret
 all_goals simp_all
theorem X6 (l:Int)(hl:l.natAbs<=1000000)(w:World):Calls prog 235 #[.int .i64 l] w λe w'=>e= .returned (.int .u64 (l.natAbs:Nat))/\w'=w:=by
 have e1:l<0->IntKind.u64.wrap (-(IntKind.u64.wrap l))=(l.natAbs:Int):=λh=>by grind [IntKind.wrap,IntKind.bits]
 have e2: ¬l<0->IntKind.u64.wrap l=(l.natAbs:Int):=λh=>by grind [IntKind.wrap,IntKind.bits]
 go_enter func235,ntmps235
 go_wp2
 all_goals go_ret
 all_goals simp_all
theorem Yc (a b:Int)(B:Nat)(w:World)(h0:w.cell? ⟨B,0,none⟩=some (.int .i64 a))(h1:w.cell? ⟨B,1,none⟩=some (.int .i64 b)):Calls prog 139 #[.slice (some ⟨B,0,none⟩) 2 2] w λe w'=>e= .returned (.int .i64 (orL [a,b]))/\w'=w:=by
 obtain⟨r,hr⟩: ∃r,r=orL [a,b]:=⟨_,rfl⟩;rw[<-hr];have f1:a≠0->r=a:=λh=>by grind [orL]
 have f2:a=0->r=b:=λh=>by grind [orL]
 clear hr
 go_enter func139,ntmps139
 go_wp2
 refine wp_loop_rounds 3 ?_;rw[rounds_succ]
 go_wp2
 all_goals (try (rw[rounds_succ];go_wp2))
 all_goals (try (rw[rounds_succ];go_wp2))
 all_goals (try go_ret)
 all_goals refine⟨?_,rfl⟩
 all_goals simp_all
theorem TS (a b:Int)(ha:a.natAbs<=1000000)(hb:b.natAbs<=1000000)(w:World):Calls prog 238 #[.int .i64 a,.int .i64 b] w λe w'=>e= .returned (.int .i64 (orL [sgn (a.natAbs:Nat) (b.natAbs:Nat),sgn a b]))/\ ∃q os,w'=grow (w.drewN q) os:=by
 have c1: ∀(W:World) (u v:Value),(W.alloc (.cells #[u,v] 3)).cell? ⟨W.heap.size,0,none⟩=some u:=λW u v=>by simp_all
 have c2: ∀(W:World) (u v:Value),(W.alloc (.cells #[u,v] 3)).cell? ⟨W.heap.size,1,none⟩=some v:=λW u v=>by simp_all
 go_enter func238,ntmps238
 go_wp2_with (first|(go_at_call 235;refine(X6 _ (by assumption) _).mono ?_;rintro e w' ⟨rfl,rfl⟩)|(go_at_call 239;refine(SM _ _ _).mono ?_;rintro e w' ⟨rfl,rfl⟩)|(go_at_call 240;refine(SP _ _ _).mono ?_;rintro e w' ⟨rfl,rfl⟩)|(go_at_call 139;refine(Yc _ _ _ _ (c1 _ _ _) (c2 _ _ _)).mono ?_;rintro e w' ⟨rfl,rfl⟩))
 all_goals go_ret
 exact⟨rfl,0,_,alloc_eq_grow _ _⟩
end Go.Proofs.Tryz
end
