/- What the last text of this claim rests on. No conditions. -/
import Derived.WalkKit
import Derived.Sort.Grow
import Derived.Sort.Row
import Derived.Test.YtbkobngljnnmgaaGreatDoorWad
import Derived.Test.YtbkobngljnnmgaaGreatDoorWah
import Derived.Test.YtbkobngljnnmgaaGreatDoorWap
import Derived.Test.YtbkobngljnnmgaaGreatDoorWas
import Derived.Test.YtbkobngljnnmgaaGreatDoorWat
set_option linter.unusedSimpArgs false
set_option linter.unusedVariables false
open List renaming length_map->ab4,getElem?_eq_some_iff->ab5,take_of_length_le->ab6,mem_of_getElem?->ab7,mem_cons_self->ab9,getElem?_set_self->aca,getElem?_append_left->acb,mem_append->ace,mem_singleton->acf,length_range->acg,mem_map->ach,range_succ->aci
open Nat renaming zero_le->ab8,le_refl->acd
section
namespace Go.Av
section
variable {P :Program}
@[go_sem] theorem YR (t t':TypeId)(v:AV):cD P .eql t (.loc t' v) .nil=if gX P t then .bool false else .undef:=by grind [cD,cS,lK,AV.ic]
@[go_sem] theorem Zp (t t':TypeId)(v:AV):cF P .eql t (.loc t' v) .nil=(gX P t=true):=by simp[cF,cS,lK,AV.ic]
end
end Go.Av
end
section
namespace Go.Proofs.Tryz
open Go Go.Av
set_option maxRecDepth 10000
variable {W0 :World}
theorem pY (l:List Clause)(hl:l.length<=1048576)(hc: ∀c∈l,c.length<=1048576):ag prog W0 199 [aA l] (aA l):=by
 refine ak [2] [] func199 rfl rfl ntmps199 rfl rfl (eg _) λhs σ=>?_
 simp only[go_sem,simprocAttr,aA,ab4];refine ae.at [6,7] (λA=>∃ v,A.env 3=v/\aK σ A.st v 77 (l.map aF)) ?_ λB ⟨v,h3,hb⟩=>?_
 .refine ae.upto [6,7] l.length (λi A=>∃ v,A.env 3=v/\A.env 8= .int .i64 i/\aK σ A.st v 77 ((l.take i).map aF)) 0 (ab8 _) ?_ λi B hi ⟨v,h3,h8,hb⟩=>?_
  .simp only[go_sem,simprocAttr];simp[aK.nil,Ext.refl]
  simp only[go_sem,simprocAttr,h3,h8,ab4];refine⟨λhlt=>⟨hlt,?_⟩,λhlt=>?_⟩
  .obtain⟨c,ha⟩:=get_some hlt;simp only[aw ha];simp only[go_sem,simprocAttr,aF];refine aj.fn (wo c (hc c (ab7 ha))) ?_;simp only[go_sem,simprocAttr,hb.ok,hb.un,aF];refine bz.own 1048576 (by kernel_rfl) hb.bld (.lit _ _ _) (by grind) λv' σ' ha'=>?_
   have hb':=hb.app ha';simp only[go_sem,simprocAttr,h8];refine⟨hlt,_,rfl,ah hlt (by grind [au]),?_⟩;rw[ai ha,List.map_append];exact hb'
  grind
 simp only[go_sem,simprocAttr,h3];exact⟨hb.bT,hb.ext⟩
theorem kJ {l:List Clause}(h:l.length<=12/\ ∀c∈l,lO c=true):l.length<=1048576/\ ∀c∈l,c.length<=1048576:=
 ⟨by omega,λc hc=>by grind [Bc]⟩
theorem SS (p:Pkg)(hp:aS p=0):ag prog W0 136 [ay p] (ay p):=by
 have hg:=dt hp;refine lR [.cell 2 51] [] func136 rfl rfl ntmps136 rfl rfl (rG _) λhs σ=>?_
 simp only[go_sem,simprocAttr,ay];have g1:=kJ hg.pre;have g2:=kJ hg.dep;have g3:=kJ hg.rcm;refine⟨.of (by kernel_rfl),aC.fn (pY p.pre g1.1 g1.2) ?_⟩;simp only[go_sem,simprocAttr];refine aC.fn (pY p.dep g2.1 g2.2) ?_;simp only[go_sem,simprocAttr];refine aC.fn (pY p.rcm g3.1 g3.2) ?_;simp only[go_sem,simprocAttr];refine⟨.of (by kernel_rfl),aC.fn (o5 p.con (by grind [sR.con])) ?_⟩;simp only[go_sem,simprocAttr];refine aC.fn (o5 p.brk (by grind [sR.brk])) ?_;simp only[go_sem,simprocAttr];refine aC.fn (zM p.eY (by grind [sR.eY])) ?_;simp only[go_sem,simprocAttr]
def fo (l:List Pkg):AV:=.loc 201 (.agg 201 [aL l])
@[go_sem] theorem abE (gd:Option Bool)(l:List Pkg):okM gd (fo l)=True:=cp trivial
theorem X2 (l:List Pkg):unm (fo l)=fo l:=rfl
theorem TL (p:Pkg):unm (ay p)=ay p:=rfl
attribute [go_sem] X2 TL
theorem ti (l:List Pkg):ag prog W0 82 [fo l] (.int .i64 l.length):=by
 refine ak [2] [] func82 rfl rfl ntmps82 rfl rfl (.int _ _) λhs σ=>?_
 simp only[go_sem,simprocAttr,fo,aL,ab4]
 try exact .refl _
theorem Sk (l:List Pkg)(i:Nat){p:Pkg}(hi:l[i]?=some p)(hp:aS p=0):ag prog W0 83 [fo l,.int .i64 i] (.tup [ay p,.bool true]):=by
 have hlt:=(ab5.1 hi).1;refine lR [.cell 4 51,.tmp 5] [] func83 rfl rfl ntmps83 rfl rfl (.rK (rG _) (.bool _)) λhs σ=>?_
 simp only[go_sem,simprocAttr,fo,aL];refine aC.fnG (λ_=>ti l) ?_;simp only[go_sem,simprocAttr,ab4];refine⟨λh=>absurd h (by grind),λ_=>⟨hlt,?_⟩⟩;simp only[aw hi];simp only[go_sem,simprocAttr,ay];refine aj.fn (SS p hp) ?_;simp only[go_sem,simprocAttr,ay]
def plB (l:List Pkg)(b:Pkg->Bool)(i:Nat):List Nat:=(List.range i).filter λi=>match l[i]? with
 |some p=>b p
 |none=>false
theorem vb {l:List Pkg}{b:Pkg->Bool}{i:Nat}{p:Pkg}(h:l[i]?=some p):plB l b (i+1)=plB l b i++if b p then [i]else []:=by
 grind [plB,aci]
theorem Vy (l:List Pkg)(b:Pkg->Bool)(i:Nat):(plB l b i).length<=i:=by
 have:=List.length_filter_le (λi=>match l[i]? with|some p=>b p|none=>false) (List.range i)
 rwa [acg]at this
def br (l:List Pkg)(b:Pkg->Bool):List Nat:=plB l b l.length
theorem sS (l:List Pkg)(hl:l.length<=1048576)(b:Pkg->Bool)(g:FuncId)(caps:List AV)(hg: ∀p∈l,ag prog W0 g ([ay p]++caps) (.bool (b p))):ag prog W0 149 [fo l,.fn g caps] (.sl 3 ((br l b).map λi=>.int .i64 (i:Nat))):=by
 refine ak [4] [] func149 rfl rfl ntmps149 rfl rfl (.sl λx hx=>by obtain⟨i,_,rfl⟩:=ach.1 hx;exact .int _ _) λhs σ=>?_
 simp only[go_sem,simprocAttr];refine aj.fn (ti l) ?_;simp only[go_sem,simprocAttr];refine ae.at [] (λA=>∃ v,A.env 5=v/\aK σ A.st v 3 ((br l b).map λi=>.int .i64 (i:Nat))) ?_ λB ⟨v,h5,hb⟩=>?_
 .refine ae.upto [0,1,8] l.length (λi A=>∃ v,A.env 5=v/\A.env 9= .int .i64 i/\aK σ A.st v 3 ((plB l b i).map λi=>.int .i64 (i:Nat))) 0 (ab8 _) ?_ λi B hi ⟨v,h5,h9,hb⟩=>?_
  .simp only[go_sem,simprocAttr];exact⟨_,rfl,aK.nil (.refl _) _⟩
  simp only[go_sem,simprocAttr,h5,h9];refine⟨λhlt=>?_,λhlt=>?_⟩
  .obtain⟨p,ha⟩:=get_some hlt;simp only[go_sem,simprocAttr,fo,aL,ab4];simp only[aw ha];simp only[go_sem,simprocAttr];refine⟨hlt,aj.pure (hg p (ab7 ha)) ?_⟩;have hpl:=Vy l b i;simp only[go_sem,simprocAttr,h5,h9,hb.ok,hb.un];refine⟨λhp=>?_,λhp=>?_⟩
   .refine bz.own 1048576 (by kernel_rfl) hb.bld (.lit _ _ _) (by grind) λv' σ' ha'=>?_
    have hb':=hb.app ha';simp only[go_sem,simprocAttr,h9];grind [ah,au,vb]
   grind [ah,au,vb]
  .have e:i=l.length:=by omega
   subst e;exact⟨_,rfl,hb⟩
 simp only[go_sem,simprocAttr,h5];exact⟨hb.bT,hb.ext⟩
theorem Pq (l:List Nat):aV 0 (nL l):=.sl λx hx=>by obtain⟨i,_,rfl⟩:=ach.1 hx;exact .int _ _
theorem PZ (l:List Pkg)(hl:l.length<=1048576)(n:List UInt8):ag prog W0 86 [fo l,.str n] (nL (br l λp=>p.name==n)):=by
 refine ak [4] [3] func86 rfl rfl ntmps86 rfl rfl (Pq _) λhs σ=>?_
 simp only[go_sem,simprocAttr];refine aj.fn (sS l hl (λp=>p.name==n) 150 [.loc 9 (.str n)] λp _=>?_) ?_
 .refine ak [3] [2] func150 rfl rfl ntmps150 rfl rfl (.bool _) λhs σ=>?_
  simp only[go_sem,simprocAttr,ay]
  try exact .refl _
 simp only[go_sem,simprocAttr,nL]
 try exact .refl _
theorem Fo (l:List Pkg)(hl:l.length<=1048576)(a:Atom):ag prog W0 125 [fo l,aX a] (nL (br l λp=>dO p a)):=by
 refine ak [4] [3] func125 rfl rfl ntmps125 rfl rfl (Pq _) λhs σ=>?_
 simp only[go_sem,simprocAttr,aX];refine aj.fn (sS l hl (λp=>dO p a) 192 [.loc 76 (aX a)] λp _=>?_) ?_
 .refine ak [3] [2] func192 rfl rfl ntmps192 rfl rfl (.bool _) λhs σ=>?_
  simp only[go_sem,simprocAttr];refine aj.fn (vr p a) ?_;simp only[go_sem,simprocAttr]
  try exact .refl _
 simp only[go_sem,simprocAttr,nL]
 try exact .refl _
theorem K4 (l:List Pkg)(hl:l.length<=1048576)(n v:List UInt8):ag prog W0 116 [fo l,.str n,.str v] (.tup [.int .i64 (((br l λp=>p.name==n&&bn p.ver v).head?.getD 0:Nat):Int),.bool (br l λp=>p.name==n&&bn p.ver v).head?.isSome]):=by
 refine ak [6,7] [4,5] func116 rfl rfl ntmps116 rfl rfl (.rK (.int _ _) (.bool _)) λhs σ=>?_
 simp only[go_sem,simprocAttr];refine aj.fn (sS l hl (λp=>p.name==n&&bn p.ver v) 183 [.loc 9 (.str n),.loc 9 (.str v)] λp _=>?_) ?_
 .refine ak [4] [3] func183 rfl rfl ntmps183 rfl rfl (.bool _) λhs σ=>?_
  simp only[go_sem,simprocAttr,ay];refine aC.fnG (λ_=>nu p.ver v) ?_;simp only[go_sem,simprocAttr]
  try exact .refl _
 generalize br l _=ps;cases ps with
 |nil=>simp only[go_sem,simprocAttr];try exact .refl _
 |cons i r=>simp only[go_sem,simprocAttr];rw[show atV (AV.int IntKind.i64 i::List.map (λi:Nat=>AV.int IntKind.i64 (i:Int)) r) 0= .int .i64 i from rfl];exact .refl _
def um (l:List Pkg)(i:Nat):Option (List UInt8):=match l[i]? with
 |some p=>if i=0\/(l[i-1]?.map Pkg.name)≠some p.name then some p.name else none
 |none=>none
def nmB (l:List Pkg)(i:Nat):List (List UInt8):=(List.range i).filterMap (um l)
theorem vd (l:List Pkg)(i:Nat):nmB l (i+1)=nmB l i++(um l i).toList:=by
 grind [nmB,aci]
theorem CS (l:List Pkg)(i:Nat):(nmB l i).length<=i:=by
 have:=List.length_filterMap_le (um l) (List.range i)
 rwa [acg]at this
theorem uJ (u v:AV):oA true u v=u:=by
 unfold oA oC;grind [vH]
theorem Ad (l:List (List UInt8)):aV 0 (.sl 9 (l.map .str)):=.sl λx hx=>by obtain⟨i,_,rfl⟩:=ach.1 hx;exact .str _
theorem Ph (l:List Pkg)(hl:l.length<=1048576):ag prog W0 85 [fo l] (.sl 9 ((nmB l l.length).map .str)):=by
 refine ak [2] [] func85 rfl rfl ntmps85 rfl rfl (Ad _) λhs σ=>?_
 simp only[go_sem,simprocAttr];refine aj.fn (ti l) ?_;simp only[go_sem,simprocAttr];refine ae.at [] (λA=>∃ v,A.env 3=v/\aK σ A.st v 9 ((nmB l l.length).map .str)) ?_ λB ⟨v,h3,hb⟩=>?_
 .refine ae.upto [0,6] l.length (λi A=>∃ v,A.env 3=v/\A.env 7= .int .i64 i/\aK σ A.st v 9 ((nmB l i).map .str)) 0 (ab8 _) ?_ λi B hi ⟨v,h3,h7,hb⟩=>?_
  .simp only[go_sem,simprocAttr];exact⟨_,rfl,aK.nil (.refl _) _⟩
  simp only[go_sem,simprocAttr,h3,h7,hb.ok,hb.un];refine⟨λhlt=>?_,λhlt=>?_⟩
  .obtain⟨p,ha⟩:=get_some hlt;have hnl:=CS l i;rcases Nat.eq_zero_or_pos i with h0|h0
   .subst h0;have e0:atV (List.map ay l) 0=ay p:=aw (i:=0) ha;have hn0:um l 0=some p.name:=by grind [um]
    simp only[go_sem,simprocAttr,fo,aL,ab4,e0,ay,uJ];refine⟨.of (by kernel_rfl),hlt,?_⟩;refine bz.own 1048576 (by kernel_rfl) hb.bld (.lit _ _ _) (by simp_all) λv' σ' ha'=>?_
    have hb':=hb.app ha';simp only[go_sem,simprocAttr,h7];grind [vd]
   .obtain⟨q,hq⟩:=get_some (show i-1<l.length by omega);have w1:IntKind.i64.wrap ((i:Int)-1)=((i-1:Nat):Int):=by grind [aH]
    have z1:((i:Int)==0)=false:=by grind
    have z2: ¬((i:Int)=0):=by omega
    have e0:atV (List.map ay l) i=ay p:=aw ha;have e1:atV (List.map ay l) ((i-1:Nat):Int)=ay q:=aw hq;have hn0:um l i=if q.name≠p.name then some p.name else none:=by
     grind [um]
    simp only[go_sem,simprocAttr,fo,aL,ab4,w1,z1,z2,e0,e1,ay];refine⟨.of (by kernel_rfl),by omega,hlt,λhne=>⟨hlt,?_⟩,λhe=>⟨hlt,_,rfl,ah hlt (by grind [au]),?_⟩⟩
    .refine bz.own 1048576 (by kernel_rfl) hb.bld (.lit _ _ _) (by grind) λv' σ' ha'=>?_
     have hb':=hb.app ha';simp only[go_sem,simprocAttr,h7];grind [ah,au,vd]
    grind [vd]
  grind
 simp only[go_sem,simprocAttr,h3];exact⟨hb.bT,hb.ext⟩
theorem zi {f:Pkg->Pkg->Int}(hw:ma (ltF f))(σ:ab)(id n:Nat)(xs:List Pkg)(hn:n=xs.length)(hx:n<40)(hid:σ[id]?=some (cE xs))(g:FuncId)(caps:List AV)(hcmp:ug W0 f xs g caps):
  aO prog W0 137 [.row 51 id 0 n,.fn g caps] σ λr σ'=>∃ C,C.Perm xs/\dj (ltF f) C/\σ'=σ.set id (cE C):=by
 refine bY [] [] func137 rfl rfl ntmps137 rfl rfl λhs=>?_
 simp only[go_sem,simprocAttr];refine aj.goes (by simp only[go_sem,simprocAttr]) (Mq hw σ id n xs hn hx hid g caps hcmp) λr σ1 ⟨C,p,r,hσ⟩=>?_
 simp only[go_sem,simprocAttr];refine bu.normal ?_;simp only[go_sem,simprocAttr];exact⟨_,.refl _,by simp_all,C,p,r,hσ⟩
theorem qb (a b:List UInt8):ag prog W0 141 [.str a,.str b] (.int .i64 (cc a b)):=by
 refine ak [4] [] func141 rfl rfl ntmps141 rfl rfl (.int _ _) λhs σ=>?_
 simp only[go_sem,simprocAttr];refine aj.fn (qg a b) ?_;simp only[go_sem,simprocAttr,rJ]
 try exact .refl _
theorem YE (p q:Pkg):ag prog W0 138 [ay p,ay q] (.int .i64 (gl p q)):=by
 refine ak [4] [2,3] func138 rfl rfl ntmps138 rfl rfl (.int _ _) λhs σ=>?_
 simp only[go_sem,simprocAttr,ay];refine⟨.of (by kernel_rfl),aC.fn (CB p.name q.name) ?_⟩;simp only[go_sem,simprocAttr];refine aC.fn (qb q.ver p.ver) ?_;simp only[go_sem,simprocAttr];refine aC.fn ((Pd [jy p.name q.name,cc q.ver p.ver]).bT (.cons (.lit _ _) .nil)) ?_;simp only[go_sem,simprocAttr];have e:orL [jy p.name q.name,cc q.ver p.ver]=gl p q:=by
  grind [gl,orL]
 rw[e];exact .refl _
theorem UA {l:List Pkg}(hv:xN l):ug W0 yG l 138 []:=λa ha b hb=>by
 rw[Ks (hv a ha) (hv b hb)];simp[YE]
theorem GO {g:FuncId}{caps:List AV}:ag prog W0 137 [.ar,.fn g caps] (.tup []):=by
 have h1:ag prog W0 247 [.ar,.int .i64 0,.int .i64 0,.fn g caps] (.tup []):=by
  refine ak [] [] func247 rfl rfl ntmps247 rfl rfl (.tup λx hx=>by cases hx) λhs σ=>?_
  simp only[go_sem,simprocAttr];refine ae.cB [0,1,2,3] (λk E=>E.env 8= .int .i64 1/\E.st=σ) 0 ?_ λk E ⟨h8,hst⟩=>?_
  .simp only[go_sem,simprocAttr]
  simp only[go_sem,simprocAttr,h8,hst]
  try exact .refl _
 have h2:ag prog W0 203 [.ar,.int .i64 0,.fn g caps] (.tup []):=by
  refine ak [] [] func203 rfl rfl ntmps203 rfl rfl (.tup λx hx=>by cases hx) λhs σ=>?_
  simp only[go_sem,simprocAttr];refine ae.at [0,1,2,6] (λE=>E.env 7= .int .i64 0/\E.st=σ) ?_ λE ⟨h7,hst⟩=>?_
  .refine ae.cB [0,1,2,6] (λk E=>E.env 7= .int .i64 0/\E.env 8= .int .i64 20/\E.st=σ) 0 ?_ λk E ⟨h7,h8,hst⟩=>?_
   .simp only[go_sem,simprocAttr]
   simp only[go_sem,simprocAttr,h7,h8,hst]
  simp only[go_sem,simprocAttr,h7];refine aj.fn h1 ?_;simp only[go_sem,simprocAttr];refine ae.cB [0,1,2] (λk E=>E.env 6= .int .i64 20/\E.st=σ) 0 ?_ λk E ⟨h6,hst⟩=>?_
  .simp only[go_sem,simprocAttr,hst]
  simp only[go_sem,simprocAttr,h6,hst]
  try exact .refl _
 refine ak [] [] func137 rfl rfl ntmps137 rfl rfl (.tup λx hx=>by cases hx) λhs σ=>?_
 simp only[go_sem,simprocAttr];refine aj.fn h2 ?_;simp only[go_sem,simprocAttr]
 try exact .refl _
def Ff (v:AV):Option bJ:=some (.cells 201 [.agg 201 [v]])
structure Dk (σ st:ab)(ix:Nat)(v:AV)(xs:List Pkg):Prop where
 ext:Ext σ st
 low:σ.length<=ix
 at_:st[ix]?=some (Ff v)
 row:(v= .ar/\xs=[])\/ ∃rid,v= .row 51 rid 0 xs.length/\st[rid]?=some (cE xs)/\σ.length<=rid
theorem KU (l:List Pkg):aV 0 (fo l):=.loc (.agg λx hx=>by
 grind [kq])
theorem TV (l:List Pkg)(hp: ∀p∈l,gW p)(h0:aR l=0):ag prog W0 78 [aL l] (.tup [fo (cQ l),.int .i64 0]):=by
 have hm: ∀p∈l,aS p=0:=λp hp=>dP h0 hp
 have h24:=dK h0;have hv:=(eE h0).2;refine xd [.tmp 2,.tmp 3] [7,2000029,4000008] func78 rfl rfl ntmps78 rfl rfl (.rK (KU _) (.int _ _)) λhs σ=>?_
 simp only[go_sem,simprocAttr];refine aj.fn (oT l hp) ?_;simp only[go_sem,simprocAttr,h0,aL,ab4];refine ae.at [5] (λA=>∃ v,Dk σ A.st σ.length v l) ?_ λB ⟨v,hI⟩=>?_
 .refine ae.upto [5,15,16] l.length (λi A=>A.env 17= .int .i64 i/\ ∃v,Dk σ A.st σ.length v (l.take i)) 0 (ab8 _) ?_ λi B hi ⟨h17,v,hI⟩=>?_
  .simp only[go_sem,simprocAttr];exact⟨.ar,(Ext.refl _).app _,acd _,by simp[Ff],.inl ⟨rfl,rfl⟩⟩
  simp only[go_sem,simprocAttr,h17,ab4];refine⟨λhlt=>?_,λhge=>?_⟩
  .obtain⟨p,ha⟩:=get_some hlt;simp only[aw ha];have hat:=hI.at_;have hvn:dc v:=by rcases hI.row with⟨rfl,_⟩|⟨_,rfl,_⟩<;>trivial
   have c1:(B.st++[none])[σ.length]?=some (Ff v):=(acb (ab5.1 hat).1).trans hat;have hil:(l.take i).length=i:=by simp_all
   unfold Ff at c1;simp only[go_sem,simprocAttr,an c1];refine⟨hlt,.of (by kernel_rfl),aC.fn (SS p (hm p (ab7 ha))) ?_⟩;have hR:dT (B.st++[none]) v 51 ((l.take i).map ay):=by
    rcases hI.row with⟨h1,h2⟩|⟨rid,h1,h2,h3⟩
    .exact .inl ⟨h1,by simp_all⟩
    .refine .inr (.inr ⟨rid,0,_,_,h1,(acb (ab5.1 h2).1).trans h2,by simp,?_⟩);simp[ab6]
   have hkl:(cn v (B.st++[none])).length=(B.st++[none]).length:=by unfold cn;grind
   have hk1:(cn v (B.st++[none]))[σ.length]?=some (Ff v):=by
    rcases hI.row with⟨rfl,h2⟩|⟨rid,rfl,h2,h3⟩
    .exact c1
    .have hne:rid≠σ.length:=λe=>by grind [cE]
     exact(List.getElem?_set_ne hne).trans c1
   have hfp:bb prog 51 (ay p)=true:=by kernel_rfl
   simp only[go_sem,simprocAttr,cp hvn,c8 hvn,hfp];refine bz.row 1048576 (by kernel_rfl) hR (.lit _ _ _) (by grind) (λh=>by cases h) λ_=>?_
   have c2:(cn v (B.st++[none])++[some (.cells 51 ((l.take i).map ay++[ay p]))])[σ.length]?=some (Ff v):=(acb (ab5.1 hk1).1).trans hk1;unfold Ff at c2;simp only[go_sem,simprocAttr,h17,an c2,aB c2];refine⟨hlt,ah hlt (by grind [au]),_,?_,acd _,aca (ab5.1 c2).1,.inr ⟨B.st.length+1,?_,?_,?_⟩⟩
   .grind [Ext.set,Ext.app,cn,Dk.row,Dk.ext]
   .grind
   .have hne:σ.length≠B.st.length+1:=by grind
    simp_all[cE,ai]
   grind
  grind
 have hat:=hI.at_;unfold Ff at hat;rcases hI.row with⟨rfl,rfl⟩|⟨rid,rfl,hr1,hr2⟩
 .simp only[go_sem,simprocAttr,an hat];refine aj.fn GO ?_;simp only[go_sem,simprocAttr];refine cY.via (.inl rfl) (.bT σ.length 0 (z':=.agg 201 [.sl 51 []]) hat rfl (.agg rfl λi a b ha hb=>by
   match i,ha,hb with
   |0,ha,hb=>cases ha;cases hb;exact .ar _) (.pt 2 rfl (aca (ab5.1 hat).1) (.refl _))) ?_
  refine⟨⟨trivial,trivial,trivial⟩,?_,?_⟩
  .exact .refl _
  .exact(hI.ext.set (acd _) _).set (acd _) _
 .simp only[go_sem,simprocAttr,an hat];refine aj.goes (by simp only[go_sem,simprocAttr]) (zi Tf _ rid l.length l rfl (by omega) hr1 _ _ (UA hv)) λr σ1 ⟨C,p,r,hσ⟩=>?_
  have hC:C=cQ l:=KZ (eE h0).1 hv (Nl (λx hx=>hv x (p.subset hx)) r) (iS hv) p (dC l);have hne:rid≠σ.length:=λe=>by grind [cE]
  have hrl:=(ab5.1 hr1).1;have hat2:σ1[σ.length]?=some (some (.cells 201 [.agg 201 [.row 51 rid 0 l.length]])):=by simp_all
  have hr3:σ1[rid]?=some (some (.cells 51 (C.map ay))):=by rw[hσ];exact aca hrl
  simp only[go_sem,simprocAttr];have hlen:C.length=l.length:=p.length_eq;refine cY.via (.inl rfl) (.cell (t:=23) (o:=0) σ.length 0 [0] hat2 rfl rfl hr3 (by simp_all) hne (by kernel_rfl) (.pt 2 rfl (aca (by rw[List.length_set];exact(ab5.1 hat2).1)) (.refl _))) ?_;refine⟨⟨trivial,trivial,trivial⟩,?_,?_⟩
  .have e:List.take l.length (List.drop 0 (List.map ay C))=List.map ay (cQ l):=by
    grind [ab6]
   show df (.tup [.loc 201 (.agg 201 [.sl 51 (List.take l.length (List.drop 0 (List.map ay C)))]),.int .i64 0]) _;rw[e];exact .refl _
  .have hx:Ext σ σ1:=by grind [Ext.set,Dk.ext]
   exact((hx.set hr2 _).set (acd _) _).set (acd _) _
theorem sx (l:List Pkg)(hp: ∀p∈l,gW p):ag prog W0 78 [aL l] (if aR l=0 then .tup [fo (cQ l),.int .i64 0]else .tup [.nil,.int .i64 (aR l)]):=by
 split
 .grind [TV]
 .rename_i h0;refine xd [.tmp 2,.tmp 3] [7,2000029,4000008] func78 rfl rfl ntmps78 rfl rfl (.rK .nil (.int _ _)) λhs σ=>?_
  simp only[go_sem,simprocAttr];refine aj.fn (oT l hp) ?_;simp only[go_sem,simprocAttr,h0];refine cY.ret ?_;simp only[go_sem,simprocAttr]
def cm (a:aM):AV:=.agg 66 [.int .i64 a.kind,.str a.name,.str a.ver]
def bF (l:List aM):AV:=.sl 66 (l.map cm)
@[go_sem] theorem aa0 (gd:Option Bool)(l:List aM):okM gd (bF l)=True:=eq_true trivial
@[go_sem] theorem aax (l:List aM):unm (bF l)=bF l:=rfl
@[go_sem] theorem aaL (gd:Option Bool)(l:List aD):okM gd (aJ l)=True:=eq_true trivial
theorem SZ (l:List aD):unm (aJ l)=aJ l:=rfl
theorem PB (l:List Pkg):unm (aL l)=aL l:=rfl
attribute [go_sem] SZ PB
theorem dc.ask (a:aM):dc (cm a):=trivial
@[go_sem] theorem aa8 (gd:Option Bool)(a:aM):okM gd (cm a)=True:=eq_true trivial
@[go_sem] theorem abi (a:aM):unm (cm a)=cm a:=rfl
@[go_sem] theorem aa6 (gd:Option Bool)(a:aD):okM gd (bf a)=True:=eq_true trivial
@[go_sem] theorem abe (a:aD):unm (bf a)=bf a:=rfl
theorem KV (a:aM):aV 0 (cm a):=.agg λx hx=>by
 simp only[List.mem_cons,List.not_mem_nil,or_false]at hx;rcases hx with rfl|rfl|rfl
 .exact .int _ _
 .exact .str _
 .exact .str _
theorem aa2 {α:Type}(enc:α->AV)(hp: ∀a,dc (enc a))(l:List α)(q:α->Bool)(g:FuncId)(caps:List AV)(h: ∀a∈l,ag prog W0 g ([enc a]++caps) (.bool (q a))):
  ag prog W0 286 [.sl 148 (l.map enc),.fn g caps] (.int .i64 (gS q l)):=by
 refine ak [4] [] func286 rfl rfl ntmps286 rfl rfl (.int _ _) λhs σ=>?_
 have hl:=(aN (hs _ (ab9 ..))).1;simp only[go_sem,simprocAttr];refine ae.upto [0,1,7] l.length (λi A=>A.env 8= .int .i64 i/\A.st=σ/\ ∀a∈l.take i,q a=false) 0 (ab8 _) ?_ λi B hi ⟨h8,hst,hI⟩=>?_
 .simp only[go_sem,simprocAttr]
  all_goals simp
 simp only[go_sem,simprocAttr,h8,hst,ab4];refine⟨λhc=>⟨hc,?_⟩,λhc=>az ?_⟩
 .obtain⟨a,ha⟩:=get_some hc;simp only[aw ha,cp (hp a),c8 (hp a),true_and];refine aj.pure (h a (ab7 ha)) ?_;simp only[go_sem,simprocAttr,h8,hst];refine⟨λhq=>az (fy ha hq hI).symm,λhq=>⟨hc,ah hc hl,?_⟩⟩;rw[ai ha];intro b hb;rcases ace.1 hb with hb|hb
  .exact hI b hb
  .rw[acf.1 hb];exact hq
 .rw[dx]
  rwa [ab6 hc]at hI
theorem aam {α:Type}(enc:α->AV)(hp: ∀a,dc (enc a))(l:List α)(q:α->Bool)(g:FuncId)(caps:List AV)(h: ∀a∈l,ag prog W0 g ([enc a]++caps) (.bool (q a))):
  ag prog W0 208 [.sl 66 (l.map enc),.fn g caps] (.int .i64 (gS q l)):=by
 refine ak [4] [] func208 rfl rfl ntmps208 rfl rfl (.int _ _) λhs σ=>?_
 have hl:=(aN (hs _ (ab9 ..))).1;simp only[go_sem,simprocAttr];refine ae.upto [0,1,7] l.length (λi A=>A.env 8= .int .i64 i/\A.st=σ/\ ∀a∈l.take i,q a=false) 0 (ab8 _) ?_ λi B hi ⟨h8,hst,hI⟩=>?_
 .simp only[go_sem,simprocAttr]
  all_goals simp
 simp only[go_sem,simprocAttr,h8,hst,ab4];refine⟨λhc=>⟨hc,?_⟩,λhc=>az ?_⟩
 .obtain⟨a,ha⟩:=get_some hc;simp only[aw ha,cp (hp a),c8 (hp a),true_and];refine aj.pure (h a (ab7 ha)) ?_;simp only[go_sem,simprocAttr,h8,hst];refine⟨λhq=>az (fy ha hq hI).symm,λhq=>⟨hc,ah hc hl,?_⟩⟩;rw[ai ha];intro b hb;rcases ace.1 hb with hb|hb
  .exact hI b hb
  .rw[acf.1 hb];exact hq
 .rw[dx]
  rwa [ab6 hc]at hI
theorem aah {α:Type}(enc:α->AV)(hp: ∀a,dc (enc a))(l:List α)(q:α->Bool)(g:FuncId)(caps:List AV)(h: ∀a∈l,ag prog W0 g ([enc a]++caps) (.bool (q a))):
  ag prog W0 252 [.sl 148 (l.map enc),.fn g caps] (.bool (l.any q)):=by
 refine ak [4] [] func252 rfl rfl ntmps252 rfl rfl (.bool _) λhs σ=>?_
 simp only[go_sem,simprocAttr];refine aj.fn (aa2 enc hp l q g caps h) ?_;simp only[go_sem,simprocAttr];exact aq jb
theorem Wj {α:Type}(enc:α->AV)(hp: ∀a,dc (enc a))(l:List α)(q:α->Bool)(g:FuncId)(caps:List AV)(h: ∀a∈l,ag prog W0 g ([enc a]++caps) (.bool (q a))):
  ag prog W0 153 [.sl 66 (l.map enc),.fn g caps] (.bool (l.any q)):=by
 refine ak [4] [] func153 rfl rfl ntmps153 rfl rfl (.bool _) λhs σ=>?_
 simp only[go_sem,simprocAttr];refine aj.fn (aam enc hp l q g caps h) ?_;simp only[go_sem,simprocAttr];exact aq jb
def NoB {α:Type}(q:α->Bool)(l:List α)(i:Nat):Prop:=∀ b∈l.take i,q b=false
theorem NoB.zero {α:Type}(q:α->Bool)(l:List α):NoB q l 0:=λb hb=>by simp at hb
theorem NoB.succ {α:Type}{l:List α}{i:Nat}{a:α}{q:α->Bool}(hI:NoB q l i)(ha:l[i]?=some a)(hq:q a=false):NoB q l (i+1):=by
 unfold NoB;rw[ai ha];intro b hb;rcases ace.1 hb with hb|hb
 .exact hI b hb
 simp_all
theorem NoB.all {α:Type}{l:List α}{i:Nat}{q:α->Bool}(hI:NoB q l i)(h:l.length<=i): ∀b∈l,q b=false:=by
 grind [NoB,ab6]
theorem mr (l:List aD)(n:List UInt8):ag prog W0 89 [aJ l,.str n] (.tup [.int .i64 (if gS (λx:aD=>x.pkg.name==n) l<0 then 0 else gS (λx:aD=>x.pkg.name==n) l),.bool (decide (0<=gS (λx:aD=>x.pkg.name==n) l))]):=by
 refine ak [4,5] [7] func89 rfl rfl ntmps89 rfl rfl (.rK (.int _ _) (.bool _)) λhs σ=>?_
 have hl:=(aN (hs _ (ab9 ..))).1;simp only[go_sem,simprocAttr,aJ,ab4];refine ae.upto [1,8,9] l.length (λi A=>A.env 10= .int .i64 i/\Ext σ A.st/\NoB (λx:aD=>x.pkg.name==n) l i) 0 (ab8 _) ?_ λi B hi ⟨h10,hst,hI⟩=>?_
 .simp only[go_sem,simprocAttr];simp[Ext.refl,NoB.zero]
 simp only[go_sem,simprocAttr,h10,ab4];refine⟨λhc=>⟨hc,?_⟩,λhc=>?_⟩
 .obtain⟨a,ha⟩:=get_some hc;simp only[aw ha];simp only[go_sem,simprocAttr,bf,ay];refine⟨λhq=>⟨?_,hst.app _⟩,λhq=>⟨hc,ah hc hl,hst.app _,hI.succ ha (by simp_all)⟩⟩;rw[fy ha (by simp_all) hI,if_neg (by omega),decide_eq_true (by omega)];exact .refl _
 .rw[dx (hI.all hc)];exact⟨.refl _,hst⟩
theorem Pn (l:List aD)(n:List UInt8):ag prog W0 21 [aJ l,.str n] (.int .i64 (gS (λx:aD=>x.pkg.name==n) l)):=by
 refine ak [4] [6] func21 rfl rfl ntmps21 rfl rfl (.int _ _) λhs σ=>?_
 have hl:=(aN (hs _ (ab9 ..))).1;simp only[go_sem,simprocAttr,aJ,ab4];refine ae.upto [1,7,8] l.length (λi A=>A.env 9= .int .i64 i/\Ext σ A.st/\NoB (λx:aD=>x.pkg.name==n) l i) 0 (ab8 _) ?_ λi B hi ⟨h10,hst,hI⟩=>?_
 .simp only[go_sem,simprocAttr];exact⟨.refl _,.zero _ _⟩
 simp only[go_sem,simprocAttr,h10,ab4];refine⟨λhc=>⟨hc,?_⟩,λhc=>?_⟩
 .obtain⟨a,ha⟩:=get_some hc;simp only[aw ha];simp only[go_sem,simprocAttr,bf,ay,h10];refine⟨λhq=>⟨?_,hst.app _⟩,λhq=>⟨hc,ah hc hl,hst.app _,hI.succ ha (by simpa using hq)⟩⟩;rw[fy ha (by simpa using hq) hI];exact .refl _
 .rw[dx (hI.all hc)];exact⟨.refl _,hst⟩
theorem BH (l:List aM)(k:Int):ag prog W0 72 [bF l,.int .i64 k] (.bool (l.any λa=>a.kind==k)):=by
 refine ak [4] [6] func72 rfl rfl ntmps72 rfl rfl (.bool _) λhs σ=>?_
 have hl:=(aN (hs _ (ab9 ..))).1;simp only[go_sem,simprocAttr,bF,ab4];refine ae.upto [1,7,8] l.length (λi A=>A.env 9= .int .i64 i/\Ext σ A.st/\NoB (λa:aM=>a.kind==k) l i) 0 (ab8 _) ?_ λi B hi ⟨h10,hst,hI⟩=>?_
 .simp only[go_sem,simprocAttr];exact⟨.refl _,.zero _ _⟩
 simp only[go_sem,simprocAttr,h10,ab4];refine⟨λhc=>⟨hc,?_⟩,λhc=>?_⟩
 .obtain⟨a,ha⟩:=get_some hc;simp only[aw ha];simp only[go_sem,simprocAttr,cm,h10];refine⟨λhq=>⟨aq ?_,hst.app _⟩,λhq=>⟨hc,ah hc hl,hst.app _,hI.succ ha (by simpa using hq)⟩⟩;exact(List.any_eq_true.2 ⟨a,ab7 ha,by simpa using hq⟩).symm
 .refine⟨aq ?_,hst⟩;exact(List.any_eq_false.2 λx hx=>by simpa using hI.all hc x hx).symm
def eX (l:List aM):Bool:=(l.any λa=>a.kind==3)||l.any λa=>a.kind==4
theorem Ib (l:List aM):ag prog W0 81 [bF l] (.bool (eX l)):=by
 refine ak [2] [] func81 rfl rfl ntmps81 rfl rfl (.bool _) λhs σ=>?_
 simp only[go_sem,simprocAttr];refine aj.fn (BH l 3) ?_;simp only[go_sem,simprocAttr];refine aC.fnG (λ_=>BH l 4) ?_;simp only[go_sem,simprocAttr,eX]
 try exact .refl _
def pz :aM:=⟨0,[],[]⟩
theorem jf {α:Type}{l:List α}{i:Nat}{a:α}{q:α->Bool}(ha:l[i]?=some a)(hq:q a=true)(hI:NoB q l i):l.find? q=some a:=by
 obtain⟨hi,he⟩:=ab5.1 ha;refine List.find?_eq_some_iff_getElem.2 ⟨hq,i,hi,he,λj hj=>?_⟩;rw[hI _ (List.mem_iff_getElem.2 ⟨j,by grind,by simp_all⟩)];rfl
theorem O7 (p:Pkg)(all:List Pkg)(h24:all.length<=1048576):ag prog W0 146 [ay p,aL all] (.int .i64 (dA all p)):=by
 refine ak [4] [2,7] func146 rfl rfl ntmps146 rfl rfl (.int _ _) λhs σ=>?_
 simp only[go_sem,simprocAttr,aL,ab4];refine ae.at [] (λA=>A.env 5= .int .i64 (dA all p)/\Ext σ A.st) ?_ λB ⟨h5,hst⟩=>?_
 .refine ae.upto [2,8,9] all.length (λi A=>A.env 10= .int .i64 i/\A.env 5= .int .i64 (dA (all.take i) p)/\Ext σ A.st/\dA (all.take i) p<=i) 0 (ab8 _) ?_ λi B hi ⟨h10,h5,hst,hle⟩=>?_
  .simp only[go_sem,simprocAttr];simp[dA,Ext.refl]
  simp only[go_sem,simprocAttr,h10,h5,ab4];refine⟨λhc=>⟨hc,?_⟩,λhc=>?_⟩
  .obtain⟨q,hq⟩:=get_some hc;have hn:dA (all.take (i+1)) p=dA (all.take i) p+if (q.name==p.name&&decide (0<cc q.ver p.ver))=true then 1 else 0:=by
    unfold dA;rw[ai hq,List.filter_append,List.length_append];congr 1;rw[List.filter_cons];split<;>rfl
   simp only[aw hq];simp only[go_sem,simprocAttr,ay,h10,h5];refine aC.fnG (λ_=>qb q.ver p.ver) ?_;simp only[go_sem,simprocAttr,h10,h5];refine⟨λhb=>⟨hc,ah hc (by rw[au];omega),?_,hst.app _,?_⟩,λhb=>⟨hc,ah hc (by rw[au];omega),?_,hst.app _,?_⟩⟩
   .rw[hn,if_pos hb,j7 (N:=1048577) (by omega) (by rw[au];omega)]
   .rw[hn,if_pos hb];omega
   .rw[hn,if_neg (by simp[hb])];rfl
   .rw[hn,if_neg (by simp[hb])];omega
  .rw[ab6 hc];exact⟨rfl,hst⟩
 simp only[go_sem,simprocAttr,h5];exact hst
set_option maxHeartbeats 1000000
theorem DX {l:List Pkg}{b:Pkg->Bool}:(br l b).head?=l.findIdx? b:=by
 have key: ∀i,i<=l.length->(plB l b i).head?=(l.take i).findIdx? b:=by
  intro i
  induction i with
  |zero=>simp[plB]
  |succ i ih=>
   intro hi;obtain⟨p,hp⟩:=get_some (show i<l.length by omega);rw[vb hp,ai hp,List.head?_append,ih (by omega),List.findIdx?_append];grind
 have:=key l.length (acd _)
 rwa [List.take_length]at this
theorem Vk (l:List Pkg)(n v:List UInt8):(br l λp=>p.name==n&&bn p.ver v).head?=sn l n v:=DX
theorem HH (all:List Pkg)(h0:aR all=0):ag prog W0 122 [aL all,fo (cQ all)] (.bool (decide (all=cQ all))):=by
 have h24:=dK h0;have hsl:(cQ all).length=all.length:=(dC all).length_eq;refine ak [4] [6] func122 rfl rfl ntmps122 rfl rfl (.bool _) λhs σ=>?_
 have hl:=(aN (hs _ (ab9 ..))).1;simp only[go_sem,simprocAttr,aL,ab4];refine ae.upto [1,9,10] all.length (λi A=>A.env 11= .int .i64 i/\Ext σ A.st/\ ∀k p,k<i->all[k]?=some p->sn (cQ all) p.name p.ver=some k) 0 (ab8 _) ?_ λi B hi ⟨h11,hst,hI⟩=>?_
 .simp only[go_sem,simprocAttr];exact .refl _
 simp only[go_sem,simprocAttr,h11,ab4];refine⟨λhc=>⟨hc,?_⟩,λhc=>⟨aq (decide_eq_true ((tP h0).1 λk p hk=>hI k p (by grind) hk)).symm,hst⟩⟩
 .obtain⟨p,hp⟩:=get_some hc;simp only[aw hp];simp only[go_sem,simprocAttr,ay];refine aj.fn (K4 (cQ all) (by omega) p.name p.ver) ?_;rw[Vk];simp only[go_sem,simprocAttr,h11];have hno:sn (cQ all) p.name p.ver≠some i->all≠cQ all:=λh e=>h ((tP h0).2 e i p hp)
  cases hf:sn (cQ all) p.name p.ver with
  |none=>
   simp only[go_sem,simprocAttr];exact⟨aq (decide_eq_false (hno (by simp_all))).symm,hst.app _⟩
  |some k=>
   simp only[go_sem,simprocAttr,Option.getD_some];refine⟨λhne=>⟨aq (decide_eq_false (hno (by simp_all))).symm,hst.app _⟩,λhe=>⟨hc,ah hc (by omega),hst.app _,λj q hj hq=>?_⟩⟩;grind
def Vg (n:Nat)(cls:List (List Int)):AV:=.loc 248 (.agg 248 [.int .i64 n,EL cls])
@[go_sem] theorem abc (n:Nat)(cls:List (List Int)):unm (Vg n cls)=Vg n cls:=rfl
def abA (n:Nat)(cls:List (List Int)):AV:=.loc 188 (.agg 188 [.int .i64 n,Vg n cls])
def marks (n:Nat):List Int->List Bool->Option (List Bool)
 |[],m=>some m
 |i::r,m=>if 0<=i/\i<n then(if (m[i.toNat]?).getD false=true then none else marks n r (m.set i.toNat true))else none
def jF (all:List Pkg)(c:Clause):List Int:=c.flatMap λa=>(br all λq=>dO q a).map fO
theorem uF {l:List Pkg}{b:Pkg->Bool}{k:Nat}:k∈br l b↔ ∃q,l[k]?=some q/\b q=true:=by
 grind [br,plB]
theorem L9 {c:Clause}{all:List Pkg}{x:Int}:x∈jB c 0 all↔ ∃k q,all[k]?=some q/\c.any (dO q)=true/\x=fO k:=by
 have key: ∀(l:List Pkg) (i:Nat),x∈jB c i l↔ ∃k q,l[k]?=some q/\c.any (dO q)=true/\x=fO (i+k):=by
  intro l
  induction l with
  |nil=>simp[jB]
  |cons p r ih=>
   intro i;rw[jB,ace,ih];constructor
   .rintro(h|⟨k,q,h1,h2,h3⟩)
    .split at h
     .rename_i hs;simp at h;exact⟨0,p,rfl,hs,by omega⟩
     simp_all
    .exact⟨k+1,q,by simp_all,h2,by grind⟩
   grind
 simp_all
theorem z7 {c:Clause}{all:List Pkg}{x:Int}:x∈jF all c↔x∈jB c 0 all:=by
 grind [L9,jF,uF]
end Go.Proofs.Tryz
end
section
namespace Go.Proofs.Tryz
open Go Go.Av Go.Sort
set_option maxRecDepth 100000
set_option maxHeartbeats 2000000
theorem Yu (a:Int)(w:World):Calls prog 332 #[.int .i64 a] w λe w'=>e= .returned (.bool false)/\w'=w:=by
 go_enter func332,ntmps332
 go_wp2
 go_ret
 exact⟨rfl,rfl⟩
theorem Yn (a b:Int)(w:World):Calls prog 297 #[.int .i64 a,.int .i64 b] w λe w'=>e= .returned (.int .i64 (sgn a b))/\w'=w:=by
 have h1:=λx W=>Yu x W
 unfold sgn
 go_enter func297,ntmps297
 go_wp2_with (go_at_call 332;refine(h1 _ _).mono ?_;rintro e w' ⟨rfl,rfl⟩)
 all_goals go_ret
 all_goals simp_all
theorem WR (a:Int)(w:World):Calls prog 298 #[.int .u32 a] w λe w'=>e= .returned (.bool false)/\w'=w:=by
 go_enter func298,ntmps298
 go_wp2
 go_ret
 exact⟨rfl,rfl⟩
theorem XN (a b:Int)(w:World):Calls prog 257 #[.int .u32 a,.int .u32 b] w λe w'=>e= .returned (.int .i64 (sgn a b))/\w'=w:=by
 have h1:=λx W=>WR x W
 unfold sgn
 go_enter func257,ntmps257
 go_wp2_with (go_at_call 298;refine(h1 _ _).mono ?_;rintro e w' ⟨rfl,rfl⟩)
 all_goals go_ret
 all_goals simp_all
theorem XI (a:Int)(w:World):Calls prog 278 #[.int .u64 a] w λe w'=>e= .returned (.bool false)/\w'=w:=by
 go_enter func278,ntmps278
 go_wp2
 go_ret
 exact⟨rfl,rfl⟩
theorem XY (a b:Int)(w:World):Calls prog 239 #[.int .u64 a,.int .u64 b] w λe w'=>e= .returned (.int .i64 (sgn a b))/\w'=w:=by
 have h1:=λx W=>XI x W
 unfold sgn
 go_enter func239,ntmps239
 go_wp2_with (go_at_call 278;refine(h1 _ _).mono ?_;rintro e w' ⟨rfl,rfl⟩)
 all_goals go_ret
 all_goals simp_all
theorem Yz (a:Int)(w:World):Calls prog 279 #[.int .i64 a] w λe w'=>e= .returned (.bool false)/\w'=w:=by
 go_enter func279,ntmps279
 go_wp2
 go_ret
 exact⟨rfl,rfl⟩
theorem WQ (a b:Int)(w:World):Calls prog 240 #[.int .i64 a,.int .i64 b] w λe w'=>e= .returned (.int .i64 (sgn a b))/\w'=w:=by
 have h1:=λx W=>Yz x W
 unfold sgn
 go_enter func240,ntmps240
 go_wp2_with (go_at_call 279;refine(h1 _ _).mono ?_;rintro e w' ⟨rfl,rfl⟩)
 all_goals go_ret
 all_goals simp_all
theorem Zz (l:Int)(hl:l.natAbs<=1000000)(w:World):Calls prog 235 #[.int .i64 l] w λe w'=>e= .returned (.int .u64 (l.natAbs:Nat))/\w'=w:=by
 have e1:l<0->IntKind.u64.wrap (-(IntKind.u64.wrap l))=(l.natAbs:Int):=λh=>by grind [IntKind.wrap,IntKind.bits]
 have e2: ¬l<0->IntKind.u64.wrap l=(l.natAbs:Int):=λh=>by grind [IntKind.wrap,IntKind.bits]
 go_enter func235,ntmps235
 go_wp2
 all_goals go_ret
 all_goals simp_all
theorem aaw (a b:Int)(B:Nat)(w:World)(h0:w.cell? ⟨B,0,none⟩=some (.int .i64 a))(h1:w.cell? ⟨B,1,none⟩=some (.int .i64 b)):Calls prog 139 #[.slice (some ⟨B,0,none⟩) 2 2] w λe w'=>e= .returned (.int .i64 (orL [a,b]))/\w'=w:=by
 obtain⟨r,hr⟩: ∃r,r=orL [a,b]:=⟨_,rfl⟩;rw[<-hr];have f1:a≠0->r=a:=λh=>by grind [orL]
 have f2:a=0->r=b:=λh=>by grind [orL]
 clear hr
 go_enter func139,ntmps139
 go_wp2
 refine wp_loop_rounds 3 ?_;rw[rounds_succ]
 go_wp2
 all_goals (try (rw[rounds_succ];go_wp2))
 all_goals (try (rw[rounds_succ];go_wp2))
 all_goals (try go_ret)
 all_goals refine⟨?_,rfl⟩
 all_goals simp_all
theorem Yy (a b:Int)(ha:a.natAbs<=1000000)(hb:b.natAbs<=1000000)(w:World):Calls prog 238 #[.int .i64 a,.int .i64 b] w λe w'=>e= .returned (.int .i64 (orL [sgn (a.natAbs:Nat) (b.natAbs:Nat),sgn a b]))/\ ∃q os,w'=grow (w.drewN q) os:=by
 have c1: ∀(W:World) (u v:Value),(W.alloc (.cells #[u,v] 3)).cell? ⟨W.heap.size,0,none⟩=some u:=λW u v=>by simp_all
 have c2: ∀(W:World) (u v:Value),(W.alloc (.cells #[u,v] 3)).cell? ⟨W.heap.size,1,none⟩=some v:=λW u v=>by simp_all
 go_enter func238,ntmps238
 go_wp2_with (first|(go_at_call 235;refine(Zz _ (by assumption) _).mono ?_;rintro e w' ⟨rfl,rfl⟩)|(go_at_call 239;refine(XY _ _ _).mono ?_;rintro e w' ⟨rfl,rfl⟩)|(go_at_call 240;refine(WQ _ _ _).mono ?_;rintro e w' ⟨rfl,rfl⟩)|(go_at_call 139;refine(aaw _ _ _ _ (c1 _ _ _) (c2 _ _ _)).mono ?_;rintro e w' ⟨rfl,rfl⟩))
 all_goals go_ret
 exact⟨rfl,0,_,alloc_eq_grow _ _⟩
end Go.Proofs.Tryz
end
