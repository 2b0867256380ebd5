/- Texts that the last one of this claim rests on: a layer over the guide's own conditions for code; contracts of the functions that the law reaches, one by one. No conditions beside those of the given rows. -/
import Derived.WalkKit
import Derived.Lib.SliceRun
import Derived.Test.YtbkobngljnnmgaaGreatDoorWah
import Derived.Test.YtbkobngljnnmgaaGreatDoorWak
import Derived.Test.YtbkobngljnnmgaaGreatDoorWal
import Derived.Test.YtbkobngljnnmgaaGreatDoorWam
import Derived.Test.YtbkobngljnnmgaaGreatDoorWan
import Derived.Test.YtbkobngljnnmgaaGreatDoorWap
import Derived.Test.YtbkobngljnnmgaaGreatDoorWaq
import Derived.Test.YtbkobngljnnmgaaGreatDoorWar
set_option linter.unusedSimpArgs false
set_option linter.unusedVariables false
open List renaming length_map->acO,take_of_length_le->acP,drop_eq_getElem_cons->acR,mem_cons_self->acS,mem_map->acT,getElem?_eq_some_iff->acV,filter_sublist->acW,map_nil->acX,mem_of_getElem?->acY,getElem?_append_left->ac0,drop_eq_nil_of_le->ac5,length_nil->ac8,map_cons->ade,getElem_map->adh,any_eq_true->adi,nil_append->adj,mem_cons->adp,map_map->ads
open Nat renaming zero_le->acQ,lt_of_lt_of_le->acZ,testBit_mod_two_pow->ac3,mod_eq_of_lt->ac4,testBit_shiftRight->ac6,testBit_lt_two_pow->ac7,testBit_shiftLeft->ac9,le_refl->ada,pow_le_pow_right->adb,or_lt_two_pow->adg,testBit_and->adk,div_add_mod->adl,mul_add_mod->adm,mod_lt->adn,testBit_or->ado,le_trans->adr
open List.Pairwise renaming sublist->acU,imp->adf,imp_of_mem->adq
open Classical renaming not_not->ac1
open List.Perm renaming eq_of_pairwise->ac2,length_eq->adt,of_eq->adu
section
namespace Go.Av
def rZ (st:ab)(v:AV)(e:TypeId)(xs:List AV):Prop:=v= .sl e xs\/ ∃id,v= .row e id 0 xs.length/\st[id]?=some (some (.cells e xs))
section
variable {σ st:ab}{v:AV}{e:TypeId}{xs:List AV}
theorem rZ.notM (h:rZ st v e xs):dd v:=by
 rcases h with rfl|⟨_,rfl,_⟩<;>trivial
theorem rZ.ok (h:rZ st v e xs)(g:Option Bool):okM g v=True:=cq h.notM
theorem rZ.un (h:rZ st v e xs):unm v=v:=cY h.notM
theorem rZ.len (h:rZ st v e xs):oh v= .int .i64 xs.length:=by
 rcases h with rfl|⟨_,rfl,_⟩<;>rfl
theorem rZ.ext (h:rZ σ v e xs)(hx:Ext σ st):rZ st v e xs:=by
 rcases h with h|⟨id,h1,h2⟩
 .exact .inl h
 .exact .inr ⟨id,h1,by rw[(Fr.ext (F:=[]) hx).old id (acV.1 h2).1 (by simp)];exact h2⟩
theorem rZ.fR (h:rZ st v e xs)(P:Program)(t:TypeId):fR P t v=((elT P t).isSome=true):=by
 rcases h with rfl|⟨_,rfl,_⟩<;>rfl
end
end Go.Av
end
section
namespace Go.Proofs.Tryz
open Go Go.Av
set_option maxRecDepth 10000
variable {W0 :World}
end Go.Proofs.Tryz
end
section
namespace Go.Av
structure pD (rid:Nat)(σ σ':ab):Prop where
 len:σ.length<=σ'.length
 old: ∀j,j<σ.length->j≠rid->σ'[j]?=σ[j]?
theorem pD.refl (b:Nat)(σ:ab):pD b σ σ:=⟨ada _,λ_ _ _=>rfl⟩
theorem pD.trans {b:Nat}{σ σ' σ'':ab}(h:pD b σ σ')(k:pD b σ' σ''):pD b σ σ'':=⟨adr h.len k.len,λj hj hn=>(k.old j (acZ hj h.len) hn).trans (h.old j hj hn)⟩
theorem pD.set {b:Nat}{σ σ':ab}(h:pD b σ σ')(o:Option bK):pD b σ (σ'.set b o):=⟨by simpa using h.len,λj hj hn=>by grind [pD.old]⟩
theorem pD.app {b:Nat}{σ σ':ab}(h:pD b σ σ')(l:ab):pD b σ (σ'++l):=⟨by have:=h.len;grind,λj hj hn=>by grind [ac0,pD.old]⟩
theorem pD.ext {b:Nat}{σ τ σ':ab}(h:pD b τ σ')(k:Ext σ τ)(hb:σ.length<=b):Ext σ σ':=by
 refine List.ext_getElem? λj=>?_
 rw[List.getElem?_take];split
 .rename_i hj;rw[h.old j (by have:=k.le;omega) (by omega),k.eq,ac0 hj]
 simp_all
theorem uq (u v:AV):oK true u v=u:=by
 unfold oK oL;cases u<;>cases v<;>rfl
end Go.Av
end
section
namespace Go.Proofs.Tryz
open Go Go.Av
set_option maxRecDepth 10000
variable {W0 :World}
def nlz (e:TypeId)(xs:List AV):AV:=match xs with
 |[]=>.ar
 |x::r=>.sl e (x::r)
theorem z7 {e:TypeId}{xs:List AV}(h:aU 0 (.sl e xs)):aU 0 (nlz e xs):=by
 cases xs with
 |nil=>exact .ar
 |cons x r=>exact h
def TN (l:List Clause):AV:=nlz 77 (l.map aF)
def Mk (l:List Atom):AV:=nlz 76 (l.map aW)
def Uj (l:List iR):AV:=nlz 179 (l.map dA)
end Go.Proofs.Tryz
end
section
namespace Go.Av
def hd0 :List UInt8->UInt8
 |[]=>0
 |c::_=>c
end Go.Av
end
section
namespace Go.Proofs.Tryz
open Go Go.Av
set_option maxRecDepth 10000
variable {W0 :World}
end Go.Proofs.Tryz
end
section
namespace Go.Proofs.Tryz
open Go Go.Av
end Go.Proofs.Tryz
end
section
namespace Go.Proofs.Tryz
open Go Go.Av
set_option maxRecDepth 10000
variable {W0 :World}
theorem Ma (l:List Atom)(hl:l.length<=1048576):ag prog W0 201 [nlz 76 (l.map aW)] (nlz 76 (l.map aW)):=by
 refine an [2] [] func201 rfl rfl ntmps201 rfl rfl (z7 (ji ry l)) λhs σ=>?_
 cases l with
 |nil=>
  simp only[go_sem,simprocAttr,acX,nlz]
 |cons x c=>
  simp only[go_sem,simprocAttr,ade,nlz];refine bA.own 1048576 (by kernel_rfl) (.inr (.inl rfl)) (.sl _ _ _) (by simpa using hl) λv' σ' ha'=>?_
  have hb':=(aL.app (σ:=σ) ⟨.inr (.inl rfl),.refl _,λt h=>by cases h⟩ ha');simp only[go_sem,simprocAttr,hb'.ok,hb'.un];exact⟨hb'.cb,hb'.ext⟩
theorem J5 (l:List iR)(hl:l.length<=1048576):ag prog W0 202 [nlz 179 (l.map dA)] (nlz 179 (l.map dA)):=by
 refine an [2] [] func202 rfl rfl ntmps202 rfl rfl (z7 (ji wE l)) λhs σ=>?_
 cases l with
 |nil=>
  simp only[go_sem,simprocAttr,acX,nlz]
 |cons x c=>
  simp only[go_sem,simprocAttr,ade,nlz];refine bA.own 1048576 (by kernel_rfl) (.inr (.inl rfl)) (.sl _ _ _) (by simpa using hl) λv' σ' ha'=>?_
  have hb':=(aL.app (σ:=σ) ⟨.inr (.inl rfl),.refl _,λt h=>by cases h⟩ ha');simp only[go_sem,simprocAttr,hb'.ok,hb'.un];exact⟨hb'.cb,hb'.ext⟩
theorem Jc (l:List Atom)(hl:l.length<=1048576):ag prog W0 200 [nlz 76 (l.map aW)] (nlz 76 (l.map aW)):=by
 refine an [2] [] func200 rfl rfl ntmps200 rfl rfl (z7 (ji ry l)) λhs σ=>?_
 cases l with
 |nil=>
  simp only[go_sem,simprocAttr,acX,nlz]
 |cons x c=>
  simp only[go_sem,simprocAttr,ade,nlz];refine bA.own 1048576 (by kernel_rfl) (.inr (.inl rfl)) (.sl _ _ _) (by simpa using hl) λv' σ' ha'=>?_
  have hb':=(aL.app (σ:=σ) ⟨.inr (.inl rfl),.refl _,λt h=>by cases h⟩ ha');simp only[go_sem,simprocAttr,hb'.ok,hb'.un];exact⟨hb'.cb,hb'.ext⟩
def YG (p:Pkg):AV:=.agg 51 [.str p.name,.str p.ver,TN p.pre,TN p.dep,TN p.rcm,Mk p.con,Mk p.brk,Uj p.eX,.bool p.ess]
def ab4 (x:aD):AV:=.agg 53 [YG x.pkg,.bool x.py,.bool x.hold]
end Go.Proofs.Tryz
end
section
namespace Go.Av
theorem Lf {α:Type}{g:α->Nat}: ∀{l:List α} {a:α},a∈l->g a<=(l.map g).sum
 |b::l,a,h=>by
  rcases adp.1 h with rfl|h
  .simp
  .have:=Lf (g:=g) h;grind
theorem Lg {α:Type}{g h:α->Nat}(hg: ∀a,g a<=h a): ∀l:List α,(l.map g).sum<=(l.map h).sum
 |[]=>by simp
 |a::l=>by
  have:=Lg hg l;grind
structure RU (s:Stz):Prop where
 ln: -9223372036854775808<=s.line
 fl:s.fields.length<=1048576
 sz:(s.fields.map λf=>f.lines.length).sum<=1048574
 fd: ∀f∈s.fields,CL f.lines+f.lines.length<=140737488355328/\(Rh f.name=7\/(oI f.lines).length<=1048574)
end Go.Av
end
section
namespace Go.Proofs.Tryz
open Go Go.Av
set_option maxRecDepth 10000
variable {W0 :World}
end Go.Proofs.Tryz
end
section
namespace Go.Av
structure J4 (s:Stz):Prop where
 ln: -9223372036854775808<=s.line
 fl:s.fields.length<=1048576
 sz:(s.fields.map λf=>CL f.lines+f.lines.length).sum<=1048574
theorem J4.wide {s:Stz}(h:J4 s):RU s:=by
 have hs:=Lg (g:=λf:Fld=>f.lines.length) (h:=λf:Fld=>CL f.lines+f.lines.length) (λf=>by omega) s.fields;refine⟨h.ln,h.fl,adr hs h.sz,λf hf=>?_⟩;grind [Lf,J4.sz,HS]
end Go.Av
end
section
namespace Go.Proofs.Tryz
open Go Go.Av
set_option maxRecDepth 10000
variable {W0 :World}
theorem KA (p:Pkg):Sub (YG p) (ay p):=.agg rfl λi a b ha hb=>by
 have nz: ∀(e:TypeId) (xs:List AV),Sub (nlz e xs) (.sl e xs):=λe xs=>by
  cases xs with
  |nil=>exact .ar _
  |cons x r=>exact .refl _
 match i,ha,hb with
 |0,ha,hb|1,ha,hb|8,ha,hb=>cases ha;cases hb;exact .refl _
 |2,ha,hb|3,ha,hb|4,ha,hb|5,ha,hb|6,ha,hb|7,ha,hb=>cases ha;cases hb;exact nz _ _
def bh (x:aD):AV:=.agg 53 [ay x.pkg,.bool x.py,.bool x.hold]
def aJ (l:List aD):AV:=.sl 53 (l.map bh)
theorem pQ (l:List aD)(hp: ∀x∈l,iE x.pkg):ag prog W0 74 [aJ l] (.int .i64 (bM l)):=by
 refine an [2] [4] func74 rfl rfl ntmps74 rfl rfl (.int _ _) λhs σ=>?_
 have hl:=(aQ (hs _ (acS ..))).1;simp only[go_sem,simprocAttr,aJ,acO];refine⟨λh=>az (by grind [bM]),λh=>?_⟩;have h10: ¬10<l.length:=λe=>by omega
 refine ae.at [0] (.of (by kernel_rfl)) (λA=>Ext σ A.st/\orL (l.map λx=>aS x.pkg)=0) ?_ λB ⟨hst,h6⟩=>?_
 .refine ae.upto [0,10,11] (.of (by kernel_rfl)) l.length (λi A=>A.env 12= .int .i64 i/\Ext σ A.st/\orL ((l.map λx=>aS x.pkg).drop i)=orL (l.map λx=>aS x.pkg)) 0 (acQ _) ?_ λi B hi ⟨h8,hst,hI⟩=>?_
  .simp only[go_sem,simprocAttr];simp[Ext.refl]
  simp only[go_sem,simprocAttr,h8,acO];refine⟨λhc=>⟨hc,?_⟩,λhc=>?_⟩
  .obtain⟨a,ha⟩:=get_some hc;obtain⟨hlt,hae⟩:=acV.1 ha;rw[acR (by simp_all),adh,hae]at hI;simp only[aw ha];simp only[go_sem,simprocAttr,bh];refine aj.fn (Kc a.pkg (hp a (acY ha))) ?_;simp only[go_sem,simprocAttr,h8];refine⟨λhq=>⟨az ?_,hst.app _⟩,λhq=>⟨hc,ah hc hl,hst.app _,?_⟩⟩
   .grind [orL,bM]
   grind [orL]
  .rw[ac5 (by simp_all)]at hI;exact⟨hst,hI.symm⟩
 have hm:bM l=if kY l=true then 4 else 0:=by grind [bM]
 simp only[go_sem,simprocAttr];refine ae.upto [0] (.of (by kernel_rfl)) (max 1 l.length) (λi A=>A.env 6= .int .i64 i/\1<=i/\Ext σ A.st/\kY (l.drop (i-1))=kY l) 1 (Nat.le_max_left _ _) ?_ λi A hi ⟨h6',h1,hst',hI⟩=>?_
 .simp only[go_sem,simprocAttr];exact hst
 simp only[go_sem,simprocAttr,h6',acO];refine⟨λhc=>?_,λhc=>?_⟩
 .have hc':i<l.length:=by omega
  obtain⟨j,rfl⟩: ∃j,i=j+1:=⟨i-1,by omega⟩;obtain⟨a,ha⟩:=get_some (show j<l.length by omega);obtain⟨b,hb⟩:=get_some hc';have hw:IntKind.i64.wrap (((j+1:Nat):Int)-1)=(j:Nat):=by grind [aH]
  simp only[hw];simp only[go_sem,simprocAttr,aw ha,aw hb,bh,ay];have hd:l.drop j=a::l.drop (j+1):=by grind [acR]
  have hd1:l.drop (j+1)=b::l.drop (j+1+1):=by grind [acR]
  have hI':kY (l.drop j)=kY l:=hI;rw[hd,hd1,kY,<-hd1]at hI';refine⟨.of (by kernel_rfl),by omega,hc',λhq=>⟨az ?_,hst'⟩,λhq=>⟨by omega,ah hc' hl,hst',?_⟩⟩
  .simp_all
  simp_all
 .have hn:kY l=false:=by
   rw[<-hI];have hlen:(l.drop (i-1)).length<=1:=by simp_all
   generalize l.drop (i-1)=r at hlen
   match r,hlen with
   |[],_=>rfl
   |[x],_=>rfl
  exact⟨az (by simp_all),hst'⟩
theorem E3 (l:List aD):ag prog W0 55 [aJ l] (.int .i64 (bM l)):=by
 refine an [2] [4] func55 rfl rfl ntmps55 rfl rfl (.int _ _) λhs σ=>?_
 have hl:=(aQ (hs _ (acS ..))).1;simp only[go_sem,simprocAttr,aJ,acO];refine⟨λh=>az (by grind [bM]),λh=>?_⟩;have h10: ¬10<l.length:=λe=>by omega
 refine ae.at [0] (.of (by kernel_rfl)) (λA=>Ext σ A.st/\orL (l.map λx=>aS x.pkg)=0) ?_ λB ⟨hst,h6⟩=>?_
 .refine ae.upto [0,10,11] (.of (by kernel_rfl)) l.length (λi A=>A.env 12= .int .i64 i/\Ext σ A.st/\orL ((l.map λx=>aS x.pkg).drop i)=orL (l.map λx=>aS x.pkg)) 0 (acQ _) ?_ λi B hi ⟨h8,hst,hI⟩=>?_
  .simp only[go_sem,simprocAttr];simp[Ext.refl]
  simp only[go_sem,simprocAttr,h8,acO];refine⟨λhc=>⟨hc,?_⟩,λhc=>?_⟩
  .obtain⟨a,ha⟩:=get_some hc;obtain⟨hlt,hae⟩:=acV.1 ha;rw[acR (by simp_all),adh,hae]at hI;simp only[aw ha];simp only[go_sem,simprocAttr,bh];refine aj.fn (JY a.pkg) ?_;simp only[go_sem,simprocAttr,h8];refine⟨λhq=>⟨az ?_,hst.app _⟩,λhq=>⟨hc,ah hc hl,hst.app _,?_⟩⟩
   .grind [orL,bM]
   grind [orL]
  .rw[ac5 (by simp_all)]at hI;exact⟨hst,hI.symm⟩
 have hm:bM l=if kY l=true then 4 else 0:=by grind [bM]
 simp only[go_sem,simprocAttr,acO];refine ae.upto [0,24] (.of (by kernel_rfl)) l.length (λi A=>A.env 25= .int .i64 i/\Ext σ A.st/\kY (l.drop (i-1))=kY l) 0 (acQ _) ?_ λi A hi ⟨h6',hst',hI⟩=>?_
 .simp only[go_sem,simprocAttr];exact hst
 simp only[go_sem,simprocAttr,h6',acO];refine⟨λhc=>?_,λhc=>?_⟩
 .cases i with
  |zero=>
   simp only[go_sem,simprocAttr,jZ];exact⟨.of (by kernel_rfl),hc,hst'⟩
  |succ j=>
   obtain⟨a,ha⟩:=get_some (show j<l.length by omega);obtain⟨b,hb⟩:=get_some hc;have hw:IntKind.i64.wrap (((j+1:Nat):Int)-1)=(j:Nat):=by grind [aH]
   have hgt:decide ((0:Int)<((j+1:Nat):Int))=true:=decide_eq_true (by omega);simp only[hw,hgt];simp only[go_sem,simprocAttr,aw ha,aw hb,bh,ay];have hd:l.drop j=a::l.drop (j+1):=by grind [acR]
   have hd1:l.drop (j+1)=b::l.drop (j+1+1):=by grind [acR]
   have hI':kY (l.drop j)=kY l:=hI;rw[hd,hd1,kY,<-hd1]at hI';refine⟨.of (by kernel_rfl),λ_=>by omega,λ_=>hc,λhq=>⟨az ?_,hst'⟩,λhq=>⟨hc,ah hc hl,hst',?_⟩⟩
   .simp_all
   simp_all
 .have hn:kY l=false:=by
   rw[<-hI];have hlen:(l.drop (i-1)).length<=1:=by grind
   generalize l.drop (i-1)=r at hlen
   match r,hlen with
   |[],_=>rfl
   |[x],_=>rfl
  exact⟨az (by simp_all),hst'⟩
theorem JJ (x:aD):Sub (ab4 x) (bh x):=.agg rfl λi a b ha hb=>by
 match i,ha,hb with
 |0,ha,hb=>grind [KA]
 |1,ha,hb|2,ha,hb=>cases ha;cases hb;exact .refl _
theorem zG (x:aD):aU 0 (bh x):=.agg λy hy=>by
 simp at hy;rcases hy with rfl|rfl|rfl
 .exact rD _
 .exact .bool _
 .exact .bool _
theorem rJ (l:List aD):aU 0 (aJ l):=ji zG l
theorem CW (a b:List Atom):ag prog W0 133 [aF a,aF b] (.bool (decide (a=b))):=by
 refine an [4] [] func133 rfl rfl ntmps133 rfl rfl (.bool _) λhs σ=>?_
 have hl:=(aQ (hs _ (acS ..))).1;simp only[go_sem,simprocAttr,aF,acO];refine⟨λh=>aq (decide_eq_false λe=>h (by rw[e])).symm,λh=>?_⟩;have hab:a.length=b.length:=by omega
 refine ae.upto [0,1,12] (.of (by kernel_rfl)) a.length (λi A=>A.env 13= .int .i64 i/\A.st=σ/\a.take i=b.take i) 0 (acQ _) ?_ λi B hi ⟨h13,hst,hI⟩=>?_
 .simp only[go_sem,simprocAttr];simp
 simp only[go_sem,simprocAttr,h13,hst,acO];refine⟨λhc=>?_,λhc=>aq ?_⟩
 .obtain⟨x,hx⟩:=get_some hc;obtain⟨y,hy⟩:=get_some (show i<b.length by omega);simp only[go_sem,simprocAttr,h13,hst,acO,aw hx,aw hy];exact⟨.of (by kernel_rfl),hc,by omega,λhne=>aq (decide_eq_false (ga hx hy hne)).symm,λe=>⟨hc,ah hc hl,dp hI hx (e▸hy)⟩⟩
 .rw[acP hc,acP (by omega)]at hI;exact(decide_eq_true hI).symm
theorem vb (a b:List Atom):ag prog W0 134 [aF a,aF b] (.bool (decide (a=b))):=by
 refine an [4] [] func134 rfl rfl ntmps134 rfl rfl (.bool _) λhs σ=>?_
 have hl:=(aQ (hs _ (acS ..))).1;simp only[go_sem,simprocAttr,aF,acO];refine⟨λh=>aq (decide_eq_false λe=>h (by rw[e])).symm,λh=>?_⟩;have hab:a.length=b.length:=by omega
 refine ae.upto [0,1,12] (.of (by kernel_rfl)) a.length (λi A=>A.env 13= .int .i64 i/\A.st=σ/\a.take i=b.take i) 0 (acQ _) ?_ λi B hi ⟨h13,hst,hI⟩=>?_
 .simp only[go_sem,simprocAttr];simp
 simp only[go_sem,simprocAttr,h13,hst,acO];refine⟨λhc=>?_,λhc=>aq ?_⟩
 .obtain⟨x,hx⟩:=get_some hc;obtain⟨y,hy⟩:=get_some (show i<b.length by omega);simp only[go_sem,simprocAttr,h13,hst,acO,aw hx,aw hy];exact⟨.of (by kernel_rfl),hc,by omega,λhne=>aq (decide_eq_false (ga hx hy hne)).symm,λe=>⟨hc,ah hc hl,dp hI hx (e▸hy)⟩⟩
 .rw[acP hc,acP (by omega)]at hI;exact(decide_eq_true hI).symm
theorem FX (a b:List iR):ag prog W0 135 [ct a,ct b] (.bool (decide (a=b))):=by
 refine an [4] [] func135 rfl rfl ntmps135 rfl rfl (.bool _) λhs σ=>?_
 have hl:=(aQ (hs _ (acS ..))).1;simp only[go_sem,simprocAttr,ct,acO];refine⟨λh=>aq (decide_eq_false λe=>h (by rw[e])).symm,λh=>?_⟩;have hab:a.length=b.length:=by omega
 refine ae.upto [0,1,12] (.of (by kernel_rfl)) a.length (λi A=>A.env 13= .int .i64 i/\A.st=σ/\a.take i=b.take i) 0 (acQ _) ?_ λi B hi ⟨h13,hst,hI⟩=>?_
 .simp only[go_sem,simprocAttr];simp
 simp only[go_sem,simprocAttr,h13,hst,acO];refine⟨λhc=>?_,λhc=>aq ?_⟩
 .obtain⟨x,hx⟩:=get_some hc;obtain⟨y,hy⟩:=get_some (show i<b.length by omega);simp only[go_sem,simprocAttr,h13,hst,acO,aw hx,aw hy];exact⟨.of (by kernel_rfl),hc,by omega,λhne=>aq (decide_eq_false (ga hx hy hne)).symm,λe=>⟨hc,ah hc hl,dp hI hx (e▸hy)⟩⟩
 .rw[acP hc,acP (by omega)]at hI;exact(decide_eq_true hI).symm
theorem Hk (a b:List Atom):ag prog W0 132 [aF a,aF b] (.bool (decide (a=b))):=by
 refine an [4] [] func132 rfl rfl ntmps132 rfl rfl (.bool _) λhs σ=>?_
 simp only[go_sem,simprocAttr,aF];refine aj.fn (CW a b) ?_;simp only[go_sem,simprocAttr]
theorem H5 (a b:List Clause)(g:FuncId)(h: ∀c∈a,∀d∈b,ag prog W0 g [aF c,aF d] (.bool (decide (c=d)))):ag prog W0 131 [aA a,aA b,.fn g []] (.bool (decide (a=b))):=by
 refine an [6] [] func131 rfl rfl ntmps131 rfl rfl (.bool _) λhs σ=>?_
 have hl:=(aQ (hs _ (acS ..))).1;simp only[go_sem,simprocAttr,aA,acO];refine⟨λh=>aq (decide_eq_false λe=>h (by rw[e])).symm,λhne=>?_⟩;have hab:a.length=b.length:=by omega
 refine ae.upto [1,2,15,16] (.of (by kernel_rfl)) a.length (λi A=>A.env 17= .int .i64 i/\A.st=σ/\a.take i=b.take i) 0 (acQ _) ?_ λi B hi ⟨h13,hst,hI⟩=>?_
 .simp only[go_sem,simprocAttr];simp
 simp only[go_sem,simprocAttr,h13,hst,acO];refine⟨λhc=>⟨hc,?_⟩,λhc=>aq ?_⟩
 .obtain⟨x,hx⟩:=get_some hc;obtain⟨y,hy⟩:=get_some (show i<b.length by omega);simp only[go_sem,simprocAttr,aw hx,aw hy,aF];refine⟨by omega,?_⟩;refine aj.pure (h x (acY hx) y (acY hy)) ?_;simp only[go_sem,simprocAttr,h13,hst];grind [aq,ah,dp]
 grind
theorem uI (a b:List Clause):ag prog W0 130 [aA a,aA b] (.bool (decide (a=b))):=by
 refine an [4] [] func130 rfl rfl ntmps130 rfl rfl (.bool _) λhs σ=>?_
 simp only[go_sem,simprocAttr,aA];refine aj.fn (H5 a b _ λc _ d _=>Hk c d) ?_;simp only[go_sem,simprocAttr]
theorem EA (p q:Pkg):ag prog W0 77 [ay p,ay q] (.bool (decide (p=q))):=by
 refine an [4] [2,3] func77 rfl rfl ntmps77 rfl rfl (.bool _) λhs σ=>?_
 simp only[List.append_eq,List.cons_append,adj];simp only[go_sem,simprocAttr,ay];refine aB.fnG (λ_=>uI _ _) ?_;simp only[go_sem,simprocAttr];refine aB.fnG (λ_=>uI _ _) ?_;simp only[go_sem,simprocAttr];refine aB.fnG (λ_=>uI _ _) ?_;simp only[go_sem,simprocAttr];refine aB.fnG (λ_=>vb _ _) ?_;simp only[go_sem,simprocAttr];refine aB.fnG (λ_=>vb _ _) ?_;simp only[go_sem,simprocAttr];refine aB.fnG (λ_=>FX _ _) ?_;simp only[go_sem,simprocAttr];refine aq ?_;obtain⟨a1,a2,a3,a4,a5,a6,a7,a8,a9⟩:=p;obtain⟨b1,b2,b3,b4,b5,b6,b7,b8,b9⟩:=q;grind
theorem BQ (a b:List aD):ag prog W0 44 [aJ a,aJ b] (.bool (decide (a=b))):=by
 refine an [4] [] func44 rfl rfl ntmps44 rfl rfl (.bool _) λhs σ=>?_
 have hl:=(aQ (hs _ (acS ..))).1;simp only[go_sem,simprocAttr,aJ,acO];refine⟨λh=>aq (decide_eq_false λe=>h (by rw[e])).symm,λh=>?_⟩;have hab:a.length=b.length:=by omega
 refine ae.upto [0,1,12] (.of (by kernel_rfl)) a.length (λi A=>A.env 13= .int .i64 i/\A.st=σ/\a.take i=b.take i) 0 (acQ _) ?_ λi B hi ⟨h13,hst,hI⟩=>?_
 .simp only[go_sem,simprocAttr];simp
 simp only[go_sem,simprocAttr,h13,hst,acO];refine⟨λhc=>?_,λhc=>aq ?_⟩
 .obtain⟨x,hx⟩:=get_some hc;obtain⟨y,hy⟩:=get_some (show i<b.length by omega);simp only[go_sem,simprocAttr,h13,hst,acO,aw hx,aw hy,ay,bh];refine⟨.of (by kernel_rfl),hc,by omega,aB.fn (PD x.pkg y.pkg) ?_⟩;by_cases hp:x.pkg=y.pkg
  .rw[decide_eq_true hp];simp only[go_sem,simprocAttr,h13,hst,acO,aw hx,aw hy,bh];refine⟨hc,by omega,λ_=>hc,λ_=>by omega,λhne=>aq (decide_eq_false (ga hx hy ?_)).symm,λe=>⟨hc,ah hc hl,dp hI hx ?_⟩⟩
   .rintro rfl;simp at hne
   .have:x=y:=by
     obtain⟨x1,x2,x3⟩:=x;obtain⟨y1,y2,y3⟩:=y;simp at e hp;simp[e,hp]
    rw[this];exact hy
  .rw[decide_eq_false hp];simp only[go_sem,simprocAttr,h13,hst,acO,aw hx,aw hy,bh];exact aq (decide_eq_false (ga hx hy λe=>hp (by rw[e]))).symm
 .rw[acP hc,acP (by omega)]at hI;exact(decide_eq_true hI).symm
end Go.Proofs.Tryz
end
section
namespace Go.Av
open Go
theorem lG.keep {P:Program}{A:aa}{s e:TypeId}{id off m:Nat}{xs:List AV}{dst:Option Nat}{k:aa->Prop}(hs:elT P s=some e)(he:fD P e=some .u8)(h0:0<m)(hσ:A.st[id]?=some (some (.cells e xs)))(hm:off+m<=xs.length)
  (hk:k ((A.put dst (.sl e ((xs.drop off).take m))).ax (A.st.set id none))):lG P s s (.row e id off m) dst A k .mk:=.inr (.inr ⟨e,id,off,m,xs,rfl,⟨rfl,hs,he⟩,h0,hσ,hm,hk⟩)
end Go.Av
end
section
namespace Go.Proofs.Tryz
open Go Go.Av
set_option maxRecDepth 10000
variable {W0 :World}
theorem IG :reachBytes=140737488351232:=by decide
theorem OI {n:Nat}{a:AV}(h:OfT prog (n+6) 53 a): ∃x,a=bh x/\ue x.pkg:=by
 obtain⟨xs,rfl,g⟩:=n9 (ts:=[51,4,4]) (by kernel_rfl) h;obtain _|⟨x1,_|⟨x2,_|⟨x3,_|_⟩⟩⟩:=xs<;>simp only[vG,and_false,and_true]at g
 obtain⟨h1,h2,h3⟩:=g;obtain⟨p,rfl,hp⟩:=Gi (n:=n) h1;obtain⟨b,rfl⟩:=vn (by kernel_rfl) h2;obtain⟨c,rfl⟩:=vn (by kernel_rfl) h3;exact⟨⟨p,b,c⟩,rfl,hp⟩
theorem LY {n:Nat}{a:AV}(h:OfT prog (n+7) 22 a): ∃l,a=aJ l/\l.length<=733007751829/\ ∀x∈l,ue x.pkg:=by
 obtain⟨xs,rfl,hl,hx⟩:=N2 (e:=53) (by kernel_rfl) h;obtain⟨ps,rfl⟩:=all_map (f:=λq:{ x:aD // ue x.pkg }=>bh q.1) λx hm=>by
  obtain⟨p,rfl,h1⟩:=OI (hx x hm);exact⟨⟨p,h1⟩,rfl⟩
 refine⟨ps.map (·.1),by simp[aJ],?_,λp hp=>?_⟩
 .have hb:prog.bytesOf 53=192:=by kernel_rfl
  grind [IG]
 grind
end Go.Proofs.Tryz
end
section
namespace Go.Av
theorem zO {c:Clause}(h:lO c=true):c≠[]/\c.length<=6/\ ∀a∈c,cu a=true:=by
 grind [lO]
end Go.Av
end
section
namespace Go.Proofs.Tryz
open Go Go.Av
set_option maxRecDepth 10000
variable {W0 :World}
theorem ma (e:TypeId)(a:Option Addr)(cap:Nat)(h:cap<=maxLen)(w:World)(C:Ctx):aI prog w C (.sl e []) (.slice a 0 cap):=
 .one rfl (Rel.sl (xs:=[]) (λ_=>[]) (acQ _) h (λi x h=>by simp at h) (λi x h=>by simp at h) λhn=>absurd hn (by simp))
theorem IX :ag prog W0 201 [aF []] (aF []):=by
 refine mF func201 (by kernel_rfl) (by kernel_rfl) λw C vs hvl hv=>?_
 obtain _|⟨v1,_|⟨_,_⟩⟩:=vs<;>simp at hvl
 have h1:=(hv 0 _ _ rfl rfl).aG rfl;cases h1;rename_i a cap cf hc hm hr hz hs;simp only[acX,ac8]at hm;show Calls _ _ #[Value.slice a 0 cap] _ _;have q30: ∀(w:World) (a:Option Addr) (n c n' c':Nat),(binOp .eql 48 (.slice a n c) (.slice none n' c')).run prog w= .ok (.bool a.isNone) w:=λw a n c n' c'=>Lib.run_eql_slice_nil w _ _ a n c n' c' Tryz.underlying48
 clear hv hr hz hs;cases a
 all_goals go_enter Tryz.func201,Tryz.ntmps201
 all_goals go_wp2
 all_goals go_ret
 .exact⟨_,rfl,ma _ _ _ (acQ _),RowKit.Below.refl _ w⟩
 .exact⟨_,rfl,ma _ _ _ (acQ _),(RowKit.Below.refl _ w).alloc (ada _) _⟩
theorem Il :ag prog W0 202 [ct []] (ct []):=by
 refine mF func202 (by kernel_rfl) (by kernel_rfl) λw C vs hvl hv=>?_
 obtain _|⟨v1,_|⟨_,_⟩⟩:=vs<;>simp at hvl
 have h1:=(hv 0 _ _ rfl rfl).aG rfl;cases h1;rename_i a cap cf hc hm hr hz hs;simp only[acX,ac8]at hm;show Calls _ _ #[Value.slice a 0 cap] _ _;have q30: ∀(w:World) (a:Option Addr) (n c n' c':Nat),(binOp .eql 49 (.slice a n c) (.slice none n' c')).run prog w= .ok (.bool a.isNone) w:=λw a n c n' c'=>Lib.run_eql_slice_nil w _ _ a n c n' c' Tryz.underlying49
 clear hv hr hz hs;cases a
 all_goals go_enter Tryz.func202,Tryz.ntmps202
 all_goals go_wp2
 all_goals go_ret
 .exact⟨_,rfl,ma _ _ _ (acQ _),RowKit.Below.refl _ w⟩
 .exact⟨_,rfl,ma _ _ _ (acQ _),(RowKit.Below.refl _ w).alloc (ada _) _⟩
theorem Ey :ag prog W0 200 [aF []] (aF []):=by
 refine mF func200 (by kernel_rfl) (by kernel_rfl) λw C vs hvl hv=>?_
 obtain _|⟨v1,_|⟨_,_⟩⟩:=vs<;>simp at hvl
 have h1:=(hv 0 _ _ rfl rfl).aG rfl;cases h1;rename_i a cap cf hc hm hr hz hs;simp only[acX,ac8]at hm;show Calls _ _ #[Value.slice a 0 cap] _ _;have q30: ∀(w:World) (a:Option Addr) (n c n' c':Nat),(binOp .eql 77 (.slice a n c) (.slice none n' c')).run prog w= .ok (.bool a.isNone) w:=λw a n c n' c'=>Lib.run_eql_slice_nil w _ _ a n c n' c' Tryz.underlying77
 clear hv hr hz hs;cases a
 all_goals go_enter Tryz.func200,Tryz.ntmps200
 all_goals go_wp2
 all_goals go_ret
 .exact⟨_,rfl,ma _ _ _ (acQ _),RowKit.Below.refl _ w⟩
 .exact⟨_,rfl,ma _ _ _ (acQ _),(RowKit.Below.refl _ w).alloc (ada _) _⟩
theorem oW (l:List Atom)(hl:l.length<=1048576):ag prog W0 201 [aF l] (aF l):=by
 cases l with
 |nil=>exact IX
 |cons x c=>exact Ma (x::c) hl
theorem yn (l:List iR)(hl:l.length<=1048576):ag prog W0 202 [ct l] (ct l):=by
 cases l with
 |nil=>exact Il
 |cons x c=>exact J5 (x::c) hl
theorem uJ (l:List Atom)(hl:l.length<=1048576):ag prog W0 200 [aF l] (aF l):=by
 cases l with
 |nil=>exact Ey
 |cons x c=>exact Jc (x::c) hl
end Go.Proofs.Tryz
end
section
namespace Go.Av
def qg.fit :qg->Prop
 | .count _=>False
 | .atoms l=>l.length<=1048576
 | .Lw l=>l.length<=1048576
 |_=>True
end Go.Av
end
section
namespace Go.Proofs.Tryz
open Go Go.Av
set_option maxRecDepth 10000
variable {W0 :World}
end Go.Proofs.Tryz
end
section
namespace Go.Av
theorem Bld.Kd {st:ab}{v:AV}{e:TypeId}{xs:List AV}(h:Bld st v e xs):Sub v (.sl e xs):=by
 rcases h with⟨rfl,rfl⟩|rfl|⟨t,rfl,_⟩
 .exact .ar _
 .exact .lit _ _
 .exact .own _ _ _
theorem ag.Fh {P:Program}{W0:World}{f:FuncId}{args:List AV}{r:AV}(hr:aU 0 r)(h: ∀σ,aP P W0 f args σ λr' σ'=>dc r' r/\Ext σ σ'):ag P W0 f args r:=λσ w C vs hst hl hv=>
 (h σ w C vs hst hl hv).mono λe w' ⟨v,r',σ',C',he,⟨hw,hx⟩,hs,hrv,hstep⟩=>by
  have hs2:aE P W0 w' (C'.eH σ.length) σ:=by
   have:=hs.eH (n:=σ.length) hx.le λid te xs hid hss=>hst.ids (show σ[id]?=some (some (.cells te xs)) by
    have e:=congrArg (·[id]?) hx;simp_all)
   rwa [hx]at this
  exact⟨v,r,σ,C'.eH σ.length,he,⟨rfl,rfl⟩,hs2,(hrv.cb hw).eH (eQ (acQ _) hr),hstep.eH (by grind [aE.nx])⟩
end Go.Av
end
section
namespace Go.Proofs.Tryz
open Go Go.Av
set_option maxRecDepth 10000
variable {W0 :World}
def Kl :List UInt8:=[80,97,99,107,97,103,101]
def JB :List UInt8:=[86,101,114,115,105,111,110]
def acE :List UInt8:=[69,115,115,101,110,116,105,97,108]
def abR :List UInt8:=[80,114,101,45,68,101,112,101,110,100,115]
def acB :List UInt8:=[68,101,112,101,110,100,115]
def acv :List UInt8:=[82,101,99,111,109,109,101,110,100,115]
def ab5 :List UInt8:=[67,111,110,102,108,105,99,116,115]
def acx :List UInt8:=[66,114,101,97,107,115]
def XA :List UInt8:=[80,114,111,118,105,100,101,115]
structure LiN (l:List Clause):Prop where
 len:l.length<=1048576
 cl: ∀c∈l,c.length<=1048576
end Go.Proofs.Tryz
end
section
namespace Go.Av
def Lz (n:List UInt8)(k:Int)(s:List UInt8):List UInt8:=
 if 0<k/\s=[]then [32,46]else if 0<k then 32::s else if s=[]then n++[58]else n++[58,32]++s
end Go.Av
end
section
namespace Go.Proofs.Tryz
open Go Go.Av
set_option maxRecDepth 10000
variable {W0 :World}
end Go.Proofs.Tryz
end
section
namespace Go.Av
def FY (k:Int)(s:List UInt8):Bool:=!(decide (0<=QA s)|| !(oD s==s)||(decide (0<k)&&s==[46]))&&(decide (0<k)||nD s==s)
end Go.Av
end
section
namespace Go.Proofs.Tryz
open Go Go.Av
set_option maxRecDepth 10000
variable {W0 :World}
end Go.Proofs.Tryz
end
section
namespace Go.Av
def G3 {α:Type}(q:Nat->α->Bool):Nat->List α->Bool
 |_,[]=>true
 |i,x::r=>q i x&&G3 q (i+1) r
def ym (f:Fld)(ahead:List Fld):Int:=
 if ((Mw f.name:Int)==0||(Mw f.name:Int) !=(f.name.length:Int)||(f.lines.length:Int)==0)=true then 3
 else if G3 (λk s=>FY k s) 0 f.lines=false then 3
 else if aak ahead f.name=true then 4
 else if G3 (λk s=>decide ((Lz f.name k s).length<=1000)) 0 f.lines=false then 2
 else 0
end Go.Av
end
section
namespace Go.Proofs.Tryz
open Go Go.Av
set_option maxRecDepth 10000
variable {W0 :World}
end Go.Proofs.Tryz
end
section
namespace Go.Av
open Go.Proofs.Tryz
def prB (c:UInt8):Bool:=decide (32<=c.toNat)&&decide (c.toNat<=126)
theorem Gr : ∀(f:Nat) {s:List UInt8} (i:Nat),(∀c∈s,prB c=true)->GK f s i= -1
 |0,_,_,_=>rfl
 |_+1,[],_,_=>rfl
 |f+1,c::r,i,h=>by
  have hc:=h c (by simp);simp only[prB,Bool.and_eq_true,decide_eq_true_eq]at hc;have h1:yL (c::r)=1:=BL (by omega);have h2:RT c=false:=by
   grind [RT]
  rw[GK,h1,h2,if_neg (by simp)];exact Gr f _ λx hx=>h x (by simp_all)
theorem JL {s:List UInt8}(h: ∀c∈s,prB c=true):QA s= -1:=Gr _ _ h
structure Edge (s:List UInt8):Prop where
 hd: ∃c t,s=c::t/\BG c≠1
 tl: ∃u c,s=u++[c]/\BG c≠1
theorem Edge.plain {s:List UInt8}(hne:s≠[])(h: ∀c∈s,BG c=0):Edge s:=by
 constructor
 .cases s with
  |nil=>simp_all
  |cons c t=>simp_all
 .rcases List.eq_nil_or_concat s with rfl|⟨u,c,rfl⟩
  .simp_all
  grind
theorem Edge.ne {s:List UInt8}(h:Edge s):s≠[]:=by
 grind [Edge.hd]
theorem Edge.app {s m t:List UInt8}(hs:Edge s)(ht:Edge t):Edge (s++(m++t)):=by
 obtain⟨c,a,rfl,h1⟩:=hs.hd;obtain⟨u,d,rfl,h2⟩:=ht.tl;exact⟨⟨c,a++(m++(u++[d])),rfl,h1⟩,⟨(c::a)++(m++u),d,by simp,h2⟩⟩
theorem Edge.oD {s:List UInt8}(h:Edge s):oD s=s:=by
 grind [Edge.tl,F2,wsB]
theorem Edge.skip {s:List UInt8}(h:Edge s):mh s=s:=by
 grind [Edge.hd,Ow]
theorem Edge.trim {s:List UInt8}(h:Edge s):nD s=s:=by
 unfold nD;rw[h.skip,h.oD]
theorem mz {l:List Clause}(h:cR l=0):l.length<=12/\ ∀c∈l,lO c=true:=by
 unfold cR at h;split at h
 .cases h
 rename_i h1;split at h
 .cases h
 rename_i h2;refine⟨by omega,λc hc=>?_⟩;have h3: ¬(6<c.length):=λh6=>h1 (.inr (adi.2 ⟨c,hc,by simp_all⟩))
 have h4: ¬((decide (c.length=0)||c.any λa=>!cu a)=true):=λh6=>h2 (adi.2 ⟨c,hc,h6⟩)
 grind [lO]
theorem oB {l:List Atom}(h:cR (single l)=0):l.length<=12/\ ∀a∈l,cu a=true:=by
 obtain⟨h1,h2⟩:=mz h;refine⟨by grind [single],λa ha=>?_⟩;exact(zO (h2 [a] (acT.2 ⟨a,ha,rfl⟩))).2.2 a (by simp)
structure tT (p:Pkg):Prop where
 name:eD p.name=true
 ver:bP p.ver=true
 pre:p.pre.length<=12/\ ∀c∈p.pre,lO c=true
 dep:p.dep.length<=12/\ ∀c∈p.dep,lO c=true
 rcm:p.rcm.length<=12/\ ∀c∈p.rcm,lO c=true
 con:p.con.length<=12/\ ∀a∈p.con,cu a=true
 brk:p.brk.length<=12/\ ∀a∈p.brk,cu a=true
 eX:p.eX.length<=12/\ ∀x∈p.eX,cu (bT x)=true
theorem dE {p:Pkg}(h:aS p=0):tT p:=by
 unfold aS at h;split at h
 .cases h
 rename_i h1;simp only[Bool.or_eq_true,Bool.not_eq_true',not_or,Bool.not_eq_false]at h1;have h2:=iA h;obtain⟨g1,g2⟩:=oB (h2 (cR (single (p.eX.map bT))) (by simp));exact⟨h1.1,h1.2,mz (h2 _ (by simp)),mz (h2 _ (by simp)),mz (h2 _ (by simp)),oB (h2 _ (by simp)),oB (h2 _ (by simp)),by simp_all,λx hx=>g2 _ (acT.2 ⟨x,hx,rfl⟩)⟩
structure ab8 (n t:List UInt8)(v:qg):Prop where
 AI:Edge t
 pr: ∀c∈t,prB c=true
 read:Z1 n t= .ok v
def Ty :List UInt8:=[83,116,97,116,101]
def ZE :List UInt8:=[72,111,108,100]
def Jj :List (List UInt8):=[Kl,JB,acE,abR,acB,acv,ab5,acx,XA]
def uQ :List (List UInt8):=Jj++[Ty,ZE]
structure FG (y:Fld×qg):Prop where
 fit: ∃t,y.1.lines=[t]/\ab8 y.1.name t y.2
 name:y.1.name∈uQ
def lnF (f:Fld):List UInt8:=Lz f.name 0 (f.lines.headD [])
theorem K9 : ∀n∈uQ,n≠[]/\(∀c∈n,BG c=0)/\(∀c∈n,prB c=true)/\Mw n=n.length/\YI n=false:=by decide
structure LnF (y:Fld×qg)(t:List UInt8):Prop where
 lines:y.1.lines=[t]
 AI:Edge t
 pr: ∀c∈t,prB c=true
 name:y.1.name∈uQ
 line:lnF y.1=y.1.name++58::32::t
theorem FG.ln {y:Fld×qg}(h:FG y): ∃t,LnF y t:=by
 obtain⟨t,h1,h2⟩:=h.fit;refine⟨t,h1,h2.AI,h2.pr,h.name,?_⟩;unfold lnF Lz;rw[h1];simp[h2.AI.ne]
theorem LnF.may {y:Fld×qg}{t:List UInt8}(h:LnF y t){ahead:List Fld}(ha:aak ahead y.1.name=false):ym y.1 ahead=if (lnF y.1).length<=1000 then 0 else 2:=by
 obtain⟨h1,h2,h3,h4,h5⟩:=K9 _ h.name;have hl:y.1.name.length≠0:=λe=>h1 (List.length_eq_zero_iff.1 e)
 have ho:FY ((0:Nat):Int) t=true:=by
  grind [FY,JL,LnF.pr,Edge.oD,LnF.AI,Edge.trim]
 unfold ym;rw[h.lines];grind [G3,lnF,LnF.lines]
structure SG (L:List (Fld×qg)):Prop where
 ne:L≠[]
 len:L.length<=40
 fg: ∀y∈L,FG y
 pw:L.Pairwise λy z=>QE y.1.name z.1.name=false
theorem gQ {l:List Pkg}(h:aZ l=0):l.length<=24/\ ∀p∈l,aS p=0:=by
 unfold aZ at h;split at h
 .cases h
 rename_i h1;split at h
 .omega
 rename_i h2;exact⟨by omega,λp hp=>iA (by omega) _ (acT.2 ⟨p,hp,rfl⟩)⟩
theorem fS {l:List aD}(h:bM l=0):l.length<=10/\ ∀x∈l,aS x.pkg=0:=by
 unfold bM at h;split at h
 .cases h
 rename_i h1;split at h
 .omega
 rename_i h2;exact⟨by omega,λx hx=>iA (ac1.1 h2) _ (acT.2 ⟨x,hx,rfl⟩)⟩
def dP (repo:List Pkg)(s:List aD):List Pkg:=s.map (·.pkg)++repo.filter λp=>match cI s p.name with
 |none=>true
 |some x=>!bq x.pkg.ver p.ver
def cD (repo:List Pkg)(s:List aD):List Pkg×Int:=
 if aZ repo≠0 then([],aZ repo)else if bM s≠0 then([],bM s)
 else if 24<(dP repo s).length\/10<(dr (dP repo s) []).length then([],12)else(cS (dP repo s),0)
theorem yQ : ∀{s:List aD},kY s=false->s.Pairwise λx y=>Op.bytesLess x.pkg.name y.pkg.name=true
 |[],_=>.nil
 |[x],_=>List.pairwise_singleton _ _
 |x::y::r,h=>by
  rw[kY,Bool.or_eq_false_iff,Bool.not_eq_false']at h;have ih:=yQ h.2;grind [List.pairwise_cons,eu]
theorem gy {s:List aD}(h:bM s=0):(s.map (·.pkg.name)).Nodup:=by
 have hd:kY s=false:=by
  grind [bM]
 rw[List.Nodup,List.pairwise_map];refine(yQ hd).imp λ{x y} h e=>?_
 grind [dX]
theorem DX {l m:List Pkg}(h:l.Perm m):(dr l []).length=(dr m []).length:=by
 grind [ic,adt,iL]
theorem o8 {l:List Pkg}(h1:l.length<=24)(h2: ∀p∈l,aS p=0)(h3:pO l)(h4:(dr l []).length<=10):aZ l=0:=by
 unfold aZ;rw[if_neg (by omega),if_neg,if_neg,if_neg (by omega)]
 .rw[Bool.not_eq_true,rU];exact⟨by simp,h3⟩
 grind [zU]
theorem D3 {l m:List Pkg}(h:l.Perm m)(hd:pO l):pO m:=h.pairwise hd λ{a b} h=>by grind [tp]
theorem GX {repo:List Pkg}{s:List aD}(h:(cD repo s).2=0):aZ (cD repo s).1=0/\nJ (cD repo s).1/\(∀x∈s,x.pkg∈(cD repo s).1)/\bM s=0:=by
 unfold cD at h ⊢;split at h
 .omega
 rename_i h1;rw[if_neg h1];split at h
 .omega
 rename_i h2;rw[if_neg h2];split at h
 .cases h
 rename_i h3;rw[if_neg h3];have h1:=ac1.1 h1;have h2:=ac1.1 h2;obtain⟨_,hr⟩:=gQ h1;obtain⟨_,he⟩:=fS h2;obtain⟨hd,_⟩:=ft h1;have hnm:=gy h2;have hp:=ej (dP repo s);have hmay: ∀p∈dP repo s,aS p=0:=λp hp=>by
  grind [dP]
 have hnd:pO (dP repo s):=by
  refine List.pairwise_append.2 ⟨?_,acU acW hd,λp hp q hq=>?_⟩
  .grind [dy]
  .obtain⟨x,hx,rfl⟩:=acT.1 hp;grind [dy,lT]
 have hv:xC (dP repo s):=λp hp=>by
  grind [dE,tT.ver]
 refine⟨o8 (by rw[hp.length_eq];omega) (λp hpm=>hmay p (hp.subset hpm)) (D3 hp.symm hnd) (by grind [DX]),j8 hv,λx hx=>hp.symm.subset ?_,h2⟩;grind [dP]
theorem CF {k:Nat}{t:List Nat}(hs:t.Pairwise (· < ·))(hk: ∀i∈t,i<k):bf k (bZ t)=t:=by
 have h2:(bf k (bZ t)).Pairwise (· < ·):=acU acW List.pairwise_lt_range;grind [ac2,List.perm_ext_iff_of_nodup,adf,c8,db]
def zv (S:Nat):Nat:=lg (bf 32 S)
def ltB (x y:List Nat×Nat):Bool:=lexB x.1 y.1||(x.1==y.1&&decide (zv y.2<zv x.2))
def Ad (all:List Pkg)(s:List aD)(l:List aK)(up:Bool):List (List Nat×Nat):=(pz (eP all s l) (aV all s l) 0 0).map λS=>(kB all s S up,S)
def nE (all:List Pkg)(s:List aD)(l:List aK)(up:Bool):List (List Nat×List Nat):=
 P8 (((gB all (all.length+1) 0 []).filter λt=>iT l (atL all t) s).map λt=>(x0 all s (atL all t) up,t))
def toB (x:List Nat×List Nat):List Nat×Nat:=(x.1,bZ x.2)
theorem mj (up:Bool)(a b c d e:Nat):(Cj up a b c d e).length=5:=by
 unfold Cj;split<;>rfl
theorem C5 {all:List Pkg}{t:List Nat}(h:t∈gB all (all.length+1) 0 []):t∈di (dT all (all.length+1) 0):=by
 grind [gx]
theorem It {all:List Pkg}(hc:pA all){t:List Nat}(ht:t∈di (dT all (all.length+1) 0)):t.Pairwise (· < ·)/\ ∀i∈t,i<all.length:=by
 obtain⟨r1,_,_⟩:=lr hc (f:=all.length+1) (i:=0) (by omega) (by omega) (λj p q hj=>by omega);grind [uB,mo,fu,cc]
theorem Gw {all:List Pkg}: ∀{f i:Nat},∀g∈dT all f i,i<=all.length->g≠[]
 |0,i,g,hg,_=>by cases hg
 |f+1,i,g,hg,hi=>by
  rw[dT]at hg;by_cases h:i=all.length
  .simp_all
  .rw[if_neg h]at hg;obtain⟨p,hp⟩:=get_some (show i<all.length by omega);obtain⟨b1,b2⟩:=eV hp;rcases adp.1 hg with rfl|hg
   .grind
   .exact Gw g hg b2
theorem tD : ∀{gs:List (List Nat)},sk gs->(∀g∈gs,g.Nodup)->(di gs).Nodup
 |[],_,_=>by simp[di]
 |g::r,ha,hn=>by
  have ih:=tD ha.2 λh hh=>hn h (by simp[hh])
  rw[di,List.nodup_append];refine⟨?_,ih,λt ht u hu e=>?_⟩
  .have: ∀l:List Nat,l.Nodup->(l.flatMap λi=>(di r).map (i:: ·)).Nodup:=λl=>by
    grind
   simp_all
  .obtain⟨i,hi,ht⟩:=List.mem_flatMap.1 ht;obtain⟨a,_,rfl⟩:=acT.1 ht;rw[<-e]at hu;obtain⟨h,hh,hih⟩:=fu hu i (by simp);exact ha.1 i hi h hh hih
theorem xG {all:List Pkg}(hc:pA all)(q:List Nat->Bool):((gB all (all.length+1) 0 []).filter q).Nodup:=by
 obtain⟨_,_,r3⟩:=lr hc (f:=all.length+1) (i:=0) (by omega) (by omega) (λj p q hj=>by omega);obtain⟨_,k2⟩:=uB hc (f:=all.length+1) (i:=0) (by omega) (by omega) (λj p q hj=>by omega);rw[gx (by omega)];refine acU acW (acU acW ?_);grind [tD,adf]
theorem L1 {all:List Pkg}{s:List aD}{l:List aK}(hc:pA all)(up:Bool):(nE all s l up).Perm (((gB all (all.length+1) 0 []).filter λt=>iT l (atL all t) s).map λt=>(x0 all s (atL all t) up,t))/\(nE all s l up).Pairwise λa b=>ltP a b=true:=
 Cz (k:=5) (o:=[]) (by
  grind [xG]) (λy hy=>by
  rw[adj]at hy;obtain⟨t,_,rfl⟩:=acT.1 hy;exact mj _ _ _ _ _ _) .nil
theorem D0 {all:List Pkg}{s:List aD}{l:List aK}(h24:all.length<=24)(hm: ∀p∈all,aS p=0)(hc:pA all)(hU:Uni all s l)(hnv:dL all s l=false)(up:Bool){o:List (List Nat×Nat)}(hp:o.Perm (Ad all s l up))(hs:o.Pairwise λx y=>ltB y x=false):
  o=(nE all s l up).map toB:=by
 obtain⟨b1,b2⟩:=L1 (s:=s) (l:=l) hc up;generalize hW:(gB all (all.length+1) 0 []).filter (λt=>iT l (atL all t) s)=W at b1;have hWp: ∀t∈W,t∈di (dT all (all.length+1) 0):=λt ht=>by
  grind [C5]
 have hinc: ∀t∈W,t.Pairwise (· < ·)/\ ∀i∈t,i<32:=λt ht=>by
  grind [It]
 have hmem: ∀x∈nE all s l up,x.2∈W/\x.1.length=5:=λx hx=>by
  obtain⟨t,ht,rfl⟩:=acT.1 (b1.subset hx);exact⟨ht,mj _ _ _ _ _ _⟩
 have hturn: ∀t∈W,zv (bZ t)=lg t:=λt ht=>by
  grind [zv,CF]
 have hlt: ∀x∈nE all s l up,∀y∈nE all s l up,ltB (toB x) (toB y)=ltP x y:=λx hx y hy=>by
  grind [ltB,ltP,toB,wo]
 have hperm:o.Perm ((nE all s l up).map toB):=by
  refine hp.trans ?_;have h1:=(CA hm hc hU hnv).map λS=>(kB all s S up,S)
  rw[hW]at h1;refine h1.trans (List.Perm.trans (adu ?_) (b1.map toB).symm);rw[ads,ads];refine List.map_congr_left λt ht=>?_
  show(kB all s (bZ t) up,bZ t)=(x0 all s (atL all t) up,bZ t);grind [NC]
 have hs2:((nE all s l up).map toB).Pairwise λx y=>ltB y x=false:=by
  grind [adq,xW,OO]
 refine ac2 (le:=λx y=>ltB y x=false) (λx y hx hy h1 h2=>?_) hs hs2 hperm;grind [F6]
end Go.Av
end
section
namespace Go.Av
theorem gL (a b:Nat)(ha:a<4294967296)(hb:b<4294967296):bits .and .u32 (a:Int) (b:Int)=((a &&& b:Nat):Int):=by
 have h1:(BitVec.ofInt 32 (a:Int)).toNat=a:=by simp_all
 have h2:(BitVec.ofInt 32 (b:Int)).toNat=b:=by simp_all
 show IntKind.u32.wrap ((BitVec.ofInt 32 (a:Int) &&& BitVec.ofInt 32 (b:Int)).toNat:Int)=_;have hlt:=(BitVec.ofInt 32 (a:Int) &&& BitVec.ofInt 32 (b:Int)).isLt;grind [IntKind.wrap_u32]
theorem jk (a b:Nat)(ha:a<4294967296)(hb:b<4294967296):bits .or .u32 (a:Int) (b:Int)=((a ||| b:Nat):Int):=by
 have h1:(BitVec.ofInt 32 (a:Int)).toNat=a:=by simp_all
 have h2:(BitVec.ofInt 32 (b:Int)).toNat=b:=by simp_all
 show IntKind.u32.wrap ((BitVec.ofInt 32 (a:Int) ||| BitVec.ofInt 32 (b:Int)).toNat:Int)=_;have hlt:=(BitVec.ofInt 32 (a:Int) ||| BitVec.ofInt 32 (b:Int)).isLt;grind [IntKind.wrap_u32]
def bX (m k x:Nat):Nat:=((x >>> k) &&& m) ||| (((x &&& m) <<< k) % 4294967296)
theorem lR {m k x:Nat}(hm:m<4294967296):bX m k x<4294967296:=
 adg (n:=32) (Nat.lt_of_le_of_lt Nat.and_le_right hm) (adn _ (by decide))
theorem Ic (m k x i:Nat)(hi:i<32):(bX m k x).testBit i=((x.testBit (k+i)&&m.testBit i)||(decide (k<=i)&&(x.testBit (i-k)&&m.testBit (i-k)))):=by
 unfold bX;rw[ado,adk,ac6,show 4294967296=2^32 from rfl,ac3,ac9,adk];simp[hi]
def jo (x:Nat):Nat:=
 let a:=bX 16711935 8 (bX 252645135 4 (bX 858993459 2 (bX 1431655765 1 x)))
 (a >>> 16) ||| ((a <<< 16) % 4294967296)
theorem N9 (x:Nat):jo x<4294967296:=
 adg (n:=32) (by
  grind [Nat.shiftRight_eq_div_pow,lR]) (adn _ (by decide))
theorem aai : ∀i,i<32->Nat.testBit 1431655765 i=decide (i % 2=0):=by decide
theorem Xs : ∀i,i<32->Nat.testBit 858993459 i=decide (i % 4<2):=by decide
theorem Yl : ∀i,i<32->Nat.testBit 252645135 i=decide (i % 8<4):=by decide
theorem Zg : ∀i,i<32->Nat.testBit 16711935 i=decide (i % 16<8):=by decide
theorem rC {m k:Nat}(hk:0<k)(hm: ∀i,i<32->m.testBit i=decide (i % (2*k)<k))(x i:Nat)(hi:i<32):
  (bX m k x).testBit i=x.testBit (if i % (2*k)<k then i+k else i-k):=by
 rw[Ic m k x i hi,hm i hi];by_cases h:i % (2*k)<k
 .by_cases h2:k<=i
  .have h3: ¬(i-k) % (2*k)<k:=by
    have hd:=adl i (2*k);have hq:i / (2*k)≠0:=by
     grind
    obtain⟨q,hq⟩:=Nat.exists_eq_succ_of_ne_zero hq;have e:i-k=2*k*q+(i % (2*k)+k):=by
     grind [Nat.mul_succ]
    rw[e,adm,ac4 (by omega)];omega
   grind
  grind
 .have h2:k<=i:=by
   rcases Nat.lt_or_ge i k with g|g
   .rw[ac4 (by omega)]at h;omega
   .exact g
  have h3:(i-k) % (2*k)<k:=by
   have hd:=adl i (2*k);have hl:=adn i (show 0<2*k by omega);have e:i-k=2*k*(i / (2*k))+(i % (2*k)-k):=by omega
   rw[e,adm,ac4 (by omega)];omega
  grind
theorem JK (x:Nat): ∀i,i<32->(jo x).testBit i=x.testBit (31-i):=by
 intro i hi;have s1:=rC (m:=1431655765) (k:=1) (by decide) (λi hi=>by grind [aai]) x;have s2:=rC (m:=858993459) (k:=2) (by decide) Xs (bX 1431655765 1 x);have s4:=rC (m:=252645135) (k:=4) (by decide) Yl (bX 858993459 2 (bX 1431655765 1 x));have s8:=rC (m:=16711935) (k:=8) (by decide) Zg (bX 252645135 4 (bX 858993459 2 (bX 1431655765 1 x)));have hA:=lR (m:=16711935) (k:=8) (x:=bX 252645135 4 (bX 858993459 2 (bX 1431655765 1 x))) (by decide);have hB:(jo x).testBit i=(bX 16711935 8 (bX 252645135 4 (bX 858993459 2 (bX 1431655765 1 x)))).testBit (if i<16 then i+16 else i-16):=by
  unfold jo;simp only;generalize bX 16711935 8 (bX 252645135 4 (bX 858993459 2 (bX 1431655765 1 x)))=a at hA;rw[ado,ac6,show 4294967296=2^32 from rfl,ac3,ac9];by_cases h:i<16
  .have: ¬16<=i:=by omega
   simp[h,hi,this,Nat.add_comm]
  .have h16:16<=i:=by omega
   have:a.testBit (16+i)=false:=ac7 (acZ hA (show 2^32<=2^(16+i)from adb (n:=2) (by decide) (by omega)));simp[h,hi,h16,this]
 rw[hB,s8 _ (by split<;>omega),s4 _ (by split<;>split<;>omega),s2 _ (by split<;>split<;>split<;>omega),s1 _ (by split<;>split<;>split<;>split<;>omega)];congr 1;clear s1 s2 s4 s8 hA hB;grind
theorem Hz {x:Nat}(hx:x<4294967296):zv x=jo x:=by
 apply Nat.eq_of_testBit_eq;intro i;unfold zv lg;rw[db];by_cases hi:i<32
 .rw[JK x i hi];apply Bool.eq_iff_iff.2;simp only[decide_eq_true_eq,acT];refine⟨λ⟨j,hj,e⟩=>?_,λh=>⟨31-i,c8.2 ⟨by omega,h⟩,by omega⟩⟩;grind [c8]
 .rw[ac7 (acZ (N9 x) (show 2^32<=2^i from adb (n:=2) (by decide) (by omega)))];grind
end Go.Av
end
