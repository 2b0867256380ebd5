/- What the last text of this claim rests on. No conditions. -/
import Derived.WalkKit
import Derived.Lib.SliceRun
import Derived.Test.YtbkobngljnnmgaaGreatDoorWah
import Derived.Test.YtbkobngljnnmgaaGreatDoorWak
import Derived.Test.YtbkobngljnnmgaaGreatDoorWal
import Derived.Test.YtbkobngljnnmgaaGreatDoorWam
import Derived.Test.YtbkobngljnnmgaaGreatDoorWan
import Derived.Test.YtbkobngljnnmgaaGreatDoorWap
import Derived.Test.YtbkobngljnnmgaaGreatDoorWaq
import Derived.Test.YtbkobngljnnmgaaGreatDoorWar
set_option linter.unusedSimpArgs false
set_option linter.unusedVariables false
open List renaming length_map->ab4,take_of_length_le->ab5,drop_eq_getElem_cons->ab7,mem_cons_self->ab8,mem_map->ab9,getElem?_eq_some_iff->acb,filter_sublist->acd,map_nil->ace,mem_of_getElem?->acf,getElem?_append_left->ach,drop_eq_nil_of_le->acn,length_nil->acq,map_cons->acv,getElem_map->acy,any_eq_true->acz,nil_append->acA,mem_cons->acG,map_map->acJ
open Nat renaming zero_le->ab6,lt_of_lt_of_le->acg,testBit_mod_two_pow->ack,mod_eq_of_lt->acm,testBit_shiftRight->aco,testBit_lt_two_pow->acp,testBit_shiftLeft->acr,le_refl->acs,pow_le_pow_right->acu,or_lt_two_pow->acx,testBit_and->acB,div_add_mod->acC,mul_add_mod->acD,mod_lt->acE,testBit_or->acF,le_trans->acI
open List.Pairwise renaming sublist->aca,imp->acw,imp_of_mem->acH
open Classical renaming not_not->aci
open List.Perm renaming eq_of_pairwise->acj,length_eq->acK,of_eq->acL
section
namespace Go.Av
def tm (st:ab)(v:AV)(e:TypeId)(xs:List AV):Prop:=v= .sl e xs\/ ∃id,v= .row e id 0 xs.length/\st[id]?=some (some (.cells e xs))
section
variable {σ st:ab}{v:AV}{e:TypeId}{xs:List AV}
theorem tm.notM (h:tm st v e xs):dc v:=by
 rcases h with rfl|⟨_,rfl,_⟩<;>trivial
theorem tm.ok (h:tm st v e xs)(g:Option Bool):okM g v=True:=cp h.notM
theorem tm.un (h:tm st v e xs):unm v=v:=c8 h.notM
theorem tm.len (h:tm st v e xs):oK v= .int .i64 xs.length:=by
 rcases h with rfl|⟨_,rfl,_⟩<;>rfl
theorem tm.ext (h:tm σ v e xs)(hx:Ext σ st):tm st v e xs:=by
 rcases h with h|⟨id,h1,h2⟩
 .exact .inl h
 .exact .inr ⟨id,h1,by rw[(Fr.ext (F:=[]) hx).old id (acb.1 h2).1 (by simp)];exact h2⟩
theorem tm.fY (h:tm st v e xs)(P:Program)(t:TypeId):fY P t v=((elT P t).isSome=true):=by
 rcases h with rfl|⟨_,rfl,_⟩<;>rfl
end
end Go.Av
end
section
namespace Go.Proofs.Tryz
open Go Go.Av
set_option maxRecDepth 10000
variable {W0 :World}
end Go.Proofs.Tryz
end
section
namespace Go.Av
structure pv (rid:Nat)(σ σ':ab):Prop where
 len:σ.length<=σ'.length
 old: ∀j,j<σ.length->j≠rid->σ'[j]?=σ[j]?
theorem pv.refl (b:Nat)(σ:ab):pv b σ σ:=⟨acs _,λ_ _ _=>rfl⟩
theorem pv.trans {b:Nat}{σ σ' σ'':ab}(h:pv b σ σ')(k:pv b σ' σ''):pv b σ σ'':=⟨acI h.len k.len,λj hj hn=>(k.old j (acg hj h.len) hn).trans (h.old j hj hn)⟩
theorem pv.set {b:Nat}{σ σ':ab}(h:pv b σ σ')(o:Option bJ):pv b σ (σ'.set b o):=⟨by simpa using h.len,λj hj hn=>by grind [pv.old]⟩
theorem pv.app {b:Nat}{σ σ':ab}(h:pv b σ σ')(l:ab):pv b σ (σ'++l):=⟨by have:=h.len;grind,λj hj hn=>by grind [ach,pv.old]⟩
theorem pv.ext {b:Nat}{σ τ σ':ab}(h:pv b τ σ')(k:Ext σ τ)(hb:σ.length<=b):Ext σ σ':=by
 refine List.ext_getElem? λj=>?_
 rw[List.getElem?_take];split
 .rename_i hj;rw[h.old j (by have:=k.le;omega) (by omega),k.eq,ach hj]
 simp_all
theorem uJ (u v:AV):oA true u v=u:=by
 unfold oA oC;cases u<;>cases v<;>rfl
end Go.Av
end
section
namespace Go.Proofs.Tryz
open Go Go.Av
set_option maxRecDepth 10000
variable {W0 :World}
def nlz (e:TypeId)(xs:List AV):AV:=match xs with
 |[]=>.ar
 |x::r=>.sl e (x::r)
theorem BA {e:TypeId}{xs:List AV}(h:aV 0 (.sl e xs)):aV 0 (nlz e xs):=by
 cases xs with
 |nil=>exact .ar
 |cons x r=>exact h
def X6 (l:List Clause):AV:=nlz 77 (l.map aF)
def Rc (l:List Atom):AV:=nlz 76 (l.map aX)
def XP (l:List iK):AV:=nlz 179 (l.map dG)
end Go.Proofs.Tryz
end
section
namespace Go.Av
def hd0 :List UInt8->UInt8
 |[]=>0
 |c::_=>c
end Go.Av
end
section
namespace Go.Proofs.Tryz
open Go Go.Av
set_option maxRecDepth 10000
variable {W0 :World}
end Go.Proofs.Tryz
end
section
namespace Go.Proofs.Tryz
open Go Go.Av
end Go.Proofs.Tryz
end
section
namespace Go.Proofs.Tryz
open Go Go.Av
set_option maxRecDepth 10000
variable {W0 :World}
theorem Rf (l:List Atom)(hl:l.length<=1048576):ag prog W0 201 [nlz 76 (l.map aX)] (nlz 76 (l.map aX)):=by
 refine ak [2] [] func201 rfl rfl ntmps201 rfl rfl (BA (jg qH l)) λhs σ=>?_
 cases l with
 |nil=>
  simp only[go_sem,simprocAttr,ace,nlz]
 |cons x c=>
  simp only[go_sem,simprocAttr,acv,nlz];refine bz.own 1048576 (by kernel_rfl) (.inr (.inl rfl)) (.sl _ _ _) (by simpa using hl) λv' σ' ha'=>?_
  have hb':=(aK.app (σ:=σ) ⟨.inr (.inl rfl),.refl _,λt h=>by cases h⟩ ha');simp only[go_sem,simprocAttr,hb'.ok,hb'.un];exact⟨hb'.bT,hb'.ext⟩
theorem R6 (l:List iK)(hl:l.length<=1048576):ag prog W0 202 [nlz 179 (l.map dG)] (nlz 179 (l.map dG)):=by
 refine ak [2] [] func202 rfl rfl ntmps202 rfl rfl (BA (jg vF l)) λhs σ=>?_
 cases l with
 |nil=>
  simp only[go_sem,simprocAttr,ace,nlz]
 |cons x c=>
  simp only[go_sem,simprocAttr,acv,nlz];refine bz.own 1048576 (by kernel_rfl) (.inr (.inl rfl)) (.sl _ _ _) (by simpa using hl) λv' σ' ha'=>?_
  have hb':=(aK.app (σ:=σ) ⟨.inr (.inl rfl),.refl _,λt h=>by cases h⟩ ha');simp only[go_sem,simprocAttr,hb'.ok,hb'.un];exact⟨hb'.bT,hb'.ext⟩
theorem NW (l:List Atom)(hl:l.length<=1048576):ag prog W0 200 [nlz 76 (l.map aX)] (nlz 76 (l.map aX)):=by
 refine ak [2] [] func200 rfl rfl ntmps200 rfl rfl (BA (jg qH l)) λhs σ=>?_
 cases l with
 |nil=>
  simp only[go_sem,simprocAttr,ace,nlz]
 |cons x c=>
  simp only[go_sem,simprocAttr,acv,nlz];refine bz.own 1048576 (by kernel_rfl) (.inr (.inl rfl)) (.sl _ _ _) (by simpa using hl) λv' σ' ha'=>?_
  have hb':=(aK.app (σ:=σ) ⟨.inr (.inl rfl),.refl _,λt h=>by cases h⟩ ha');simp only[go_sem,simprocAttr,hb'.ok,hb'.un];exact⟨hb'.bT,hb'.ext⟩
def Z4 (p:Pkg):AV:=.agg 51 [.str p.name,.str p.ver,X6 p.pre,X6 p.dep,X6 p.rcm,Rc p.con,Rc p.brk,XP p.eY,.bool p.ess]
def abu (x:aD):AV:=.agg 53 [Z4 x.pkg,.bool x.px,.bool x.hold]
end Go.Proofs.Tryz
end
section
namespace Go.Av
theorem P7 {α:Type}{g:α->Nat}: ∀{l:List α} {a:α},a∈l->g a<=(l.map g).sum
 |b::l,a,h=>by
  rcases acG.1 h with rfl|h
  .simp
  .have:=P7 (g:=g) h;grind
theorem R7 {α:Type}{g h:α->Nat}(hg: ∀a,g a<=h a): ∀l:List α,(l.map g).sum<=(l.map h).sum
 |[]=>by simp
 |a::l=>by
  have:=R7 hg l;grind
structure Xv (s:Stz):Prop where
 ln: -9223372036854775808<=s.line
 fl:s.fields.length<=1048576
 sz:(s.fields.map λf=>f.lines.length).sum<=1048574
 fd: ∀f∈s.fields,FK f.lines+f.lines.length<=140737488355328/\(Wl f.name=7\/(oJ f.lines).length<=1048574)
end Go.Av
end
section
namespace Go.Proofs.Tryz
open Go Go.Av
set_option maxRecDepth 10000
variable {W0 :World}
end Go.Proofs.Tryz
end
section
namespace Go.Av
structure Qy (s:Stz):Prop where
 ln: -9223372036854775808<=s.line
 fl:s.fields.length<=1048576
 sz:(s.fields.map λf=>FK f.lines+f.lines.length).sum<=1048574
theorem Qy.wide {s:Stz}(h:Qy s):Xv s:=by
 have hs:=R7 (g:=λf:Fld=>f.lines.length) (h:=λf:Fld=>FK f.lines+f.lines.length) (λf=>by omega) s.fields;refine⟨h.ln,h.fl,acI hs h.sz,λf hf=>?_⟩;grind [P7,Qy.sz,MO]
end Go.Av
end
section
namespace Go.Proofs.Tryz
open Go Go.Av
set_option maxRecDepth 10000
variable {W0 :World}
theorem PE (p:Pkg):Sub (Z4 p) (ay p):=.agg rfl λi a b ha hb=>by
 have nz: ∀(e:TypeId) (xs:List AV),Sub (nlz e xs) (.sl e xs):=λe xs=>by
  cases xs with
  |nil=>exact .ar _
  |cons x r=>exact .refl _
 match i,ha,hb with
 |0,ha,hb|1,ha,hb|8,ha,hb=>cases ha;cases hb;exact .refl _
 |2,ha,hb|3,ha,hb|4,ha,hb|5,ha,hb|6,ha,hb|7,ha,hb=>cases ha;cases hb;exact nz _ _
def bf (x:aD):AV:=.agg 53 [ay x.pkg,.bool x.px,.bool x.hold]
def aJ (l:List aD):AV:=.sl 53 (l.map bf)
theorem qu (l:List aD)(hp: ∀x∈l,gW x.pkg):ag prog W0 74 [aJ l] (.int .i64 (bK l)):=by
 refine ak [2] [4] func74 rfl rfl ntmps74 rfl rfl (.int _ _) λhs σ=>?_
 have hl:=(aN (hs _ (ab8 ..))).1;simp only[go_sem,simprocAttr,aJ,ab4];refine⟨λh=>az (by grind [bK]),λh=>?_⟩;have h10: ¬10<l.length:=λe=>by omega
 refine ae.at [0] (λA=>Ext σ A.st/\orL (l.map λx=>aS x.pkg)=0) ?_ λB ⟨hst,h6⟩=>?_
 .refine ae.upto [0,10,11] l.length (λi A=>A.env 12= .int .i64 i/\Ext σ A.st/\orL ((l.map λx=>aS x.pkg).drop i)=orL (l.map λx=>aS x.pkg)) 0 (ab6 _) ?_ λi B hi ⟨h8,hst,hI⟩=>?_
  .simp only[go_sem,simprocAttr];simp[Ext.refl]
  simp only[go_sem,simprocAttr,h8,ab4];refine⟨λhc=>⟨hc,?_⟩,λhc=>?_⟩
  .obtain⟨a,ha⟩:=get_some hc;obtain⟨hlt,hae⟩:=acb.1 ha;rw[ab7 (by simp_all),acy,hae]at hI;simp only[aw ha];simp only[go_sem,simprocAttr,bf];refine aj.fn (PN a.pkg (hp a (acf ha))) ?_;simp only[go_sem,simprocAttr,h8];refine⟨λhq=>⟨az ?_,hst.app _⟩,λhq=>⟨hc,ah hc hl,hst.app _,?_⟩⟩
   .grind [orL,bK]
   grind [orL]
  .rw[acn (by simp_all)]at hI;exact⟨hst,hI.symm⟩
 have hm:bK l=if kU l=true then 4 else 0:=by grind [bK]
 simp only[go_sem,simprocAttr];refine ae.upto [0] (max 1 l.length) (λi A=>A.env 6= .int .i64 i/\1<=i/\Ext σ A.st/\kU (l.drop (i-1))=kU l) 1 (Nat.le_max_left _ _) ?_ λi A hi ⟨h6',h1,hst',hI⟩=>?_
 .simp only[go_sem,simprocAttr];exact hst
 simp only[go_sem,simprocAttr,h6',ab4];refine⟨λhc=>?_,λhc=>?_⟩
 .have hc':i<l.length:=by omega
  obtain⟨j,rfl⟩: ∃j,i=j+1:=⟨i-1,by omega⟩;obtain⟨a,ha⟩:=get_some (show j<l.length by omega);obtain⟨b,hb⟩:=get_some hc';have hw:IntKind.i64.wrap (((j+1:Nat):Int)-1)=(j:Nat):=by grind [aH]
  simp only[hw];simp only[go_sem,simprocAttr,aw ha,aw hb,bf,ay];have hd:l.drop j=a::l.drop (j+1):=by grind [ab7]
  have hd1:l.drop (j+1)=b::l.drop (j+1+1):=by grind [ab7]
  have hI':kU (l.drop j)=kU l:=hI;rw[hd,hd1,kU,<-hd1]at hI';refine⟨.of (by kernel_rfl),by omega,hc',λhq=>⟨az ?_,hst'⟩,λhq=>⟨by omega,ah hc' hl,hst',?_⟩⟩
  .simp_all
  simp_all
 .have hn:kU l=false:=by
   rw[<-hI];have hlen:(l.drop (i-1)).length<=1:=by simp_all
   generalize l.drop (i-1)=r at hlen
   match r,hlen with
   |[],_=>rfl
   |[x],_=>rfl
  exact⟨az (by simp_all),hst'⟩
theorem I8 (l:List aD):ag prog W0 55 [aJ l] (.int .i64 (bK l)):=by
 refine ak [2] [4] func55 rfl rfl ntmps55 rfl rfl (.int _ _) λhs σ=>?_
 have hl:=(aN (hs _ (ab8 ..))).1;simp only[go_sem,simprocAttr,aJ,ab4];refine⟨λh=>az (by grind [bK]),λh=>?_⟩;have h10: ¬10<l.length:=λe=>by omega
 refine ae.at [0] (λA=>Ext σ A.st/\orL (l.map λx=>aS x.pkg)=0) ?_ λB ⟨hst,h6⟩=>?_
 .refine ae.upto [0,10,11] l.length (λi A=>A.env 12= .int .i64 i/\Ext σ A.st/\orL ((l.map λx=>aS x.pkg).drop i)=orL (l.map λx=>aS x.pkg)) 0 (ab6 _) ?_ λi B hi ⟨h8,hst,hI⟩=>?_
  .simp only[go_sem,simprocAttr];simp[Ext.refl]
  simp only[go_sem,simprocAttr,h8,ab4];refine⟨λhc=>⟨hc,?_⟩,λhc=>?_⟩
  .obtain⟨a,ha⟩:=get_some hc;obtain⟨hlt,hae⟩:=acb.1 ha;rw[ab7 (by simp_all),acy,hae]at hI;simp only[aw ha];simp only[go_sem,simprocAttr,bf];refine aj.fn (RH a.pkg) ?_;simp only[go_sem,simprocAttr,h8];refine⟨λhq=>⟨az ?_,hst.app _⟩,λhq=>⟨hc,ah hc hl,hst.app _,?_⟩⟩
   .grind [orL,bK]
   grind [orL]
  .rw[acn (by simp_all)]at hI;exact⟨hst,hI.symm⟩
 have hm:bK l=if kU l=true then 4 else 0:=by grind [bK]
 simp only[go_sem,simprocAttr,ab4];refine ae.upto [0,24] l.length (λi A=>A.env 25= .int .i64 i/\Ext σ A.st/\kU (l.drop (i-1))=kU l) 0 (ab6 _) ?_ λi A hi ⟨h6',hst',hI⟩=>?_
 .simp only[go_sem,simprocAttr];exact hst
 simp only[go_sem,simprocAttr,h6',ab4];refine⟨λhc=>?_,λhc=>?_⟩
 .cases i with
  |zero=>
   simp only[go_sem,simprocAttr,j6];exact⟨.of (by kernel_rfl),hc,hst'⟩
  |succ j=>
   obtain⟨a,ha⟩:=get_some (show j<l.length by omega);obtain⟨b,hb⟩:=get_some hc;have hw:IntKind.i64.wrap (((j+1:Nat):Int)-1)=(j:Nat):=by grind [aH]
   have hgt:decide ((0:Int)<((j+1:Nat):Int))=true:=decide_eq_true (by omega);simp only[hw,hgt];simp only[go_sem,simprocAttr,aw ha,aw hb,bf,ay];have hd:l.drop j=a::l.drop (j+1):=by grind [ab7]
   have hd1:l.drop (j+1)=b::l.drop (j+1+1):=by grind [ab7]
   have hI':kU (l.drop j)=kU l:=hI;rw[hd,hd1,kU,<-hd1]at hI';refine⟨.of (by kernel_rfl),λ_=>by omega,λ_=>hc,λhq=>⟨az ?_,hst'⟩,λhq=>⟨hc,ah hc hl,hst',?_⟩⟩
   .simp_all
   simp_all
 .have hn:kU l=false:=by
   rw[<-hI];have hlen:(l.drop (i-1)).length<=1:=by grind
   generalize l.drop (i-1)=r at hlen
   match r,hlen with
   |[],_=>rfl
   |[x],_=>rfl
  exact⟨az (by simp_all),hst'⟩
theorem R3 (x:aD):Sub (abu x) (bf x):=.agg rfl λi a b ha hb=>by
 match i,ha,hb with
 |0,ha,hb=>grind [PE]
 |1,ha,hb|2,ha,hb=>cases ha;cases hb;exact .refl _
theorem CR (x:aD):aV 0 (bf x):=.agg λy hy=>by
 simp at hy;rcases hy with rfl|rfl|rfl
 .exact rG _
 .exact .bool _
 .exact .bool _
theorem qN (l:List aD):aV 0 (aJ l):=jg CR l
theorem DM (a b:List Atom):ag prog W0 133 [aF a,aF b] (.bool (decide (a=b))):=by
 refine ak [4] [] func133 rfl rfl ntmps133 rfl rfl (.bool _) λhs σ=>?_
 have hl:=(aN (hs _ (ab8 ..))).1;simp only[go_sem,simprocAttr,aF,ab4];refine⟨λh=>aq (decide_eq_false λe=>h (by rw[e])).symm,λh=>?_⟩;have hab:a.length=b.length:=by omega
 refine ae.upto [0,1,12] a.length (λi A=>A.env 13= .int .i64 i/\A.st=σ/\a.take i=b.take i) 0 (ab6 _) ?_ λi B hi ⟨h13,hst,hI⟩=>?_
 .simp only[go_sem,simprocAttr];simp
 simp only[go_sem,simprocAttr,h13,hst,ab4];refine⟨λhc=>?_,λhc=>aq ?_⟩
 .obtain⟨x,hx⟩:=get_some hc;obtain⟨y,hy⟩:=get_some (show i<b.length by omega);simp only[go_sem,simprocAttr,h13,hst,ab4,aw hx,aw hy];exact⟨.of (by kernel_rfl),hc,by omega,λhne=>aq (decide_eq_false (fV hx hy hne)).symm,λe=>⟨hc,ah hc hl,dq hI hx (e▸hy)⟩⟩
 .rw[ab5 hc,ab5 (by omega)]at hI;exact(decide_eq_true hI).symm
theorem xu (a b:List Atom):ag prog W0 134 [aF a,aF b] (.bool (decide (a=b))):=by
 refine ak [4] [] func134 rfl rfl ntmps134 rfl rfl (.bool _) λhs σ=>?_
 have hl:=(aN (hs _ (ab8 ..))).1;simp only[go_sem,simprocAttr,aF,ab4];refine⟨λh=>aq (decide_eq_false λe=>h (by rw[e])).symm,λh=>?_⟩;have hab:a.length=b.length:=by omega
 refine ae.upto [0,1,12] a.length (λi A=>A.env 13= .int .i64 i/\A.st=σ/\a.take i=b.take i) 0 (ab6 _) ?_ λi B hi ⟨h13,hst,hI⟩=>?_
 .simp only[go_sem,simprocAttr];simp
 simp only[go_sem,simprocAttr,h13,hst,ab4];refine⟨λhc=>?_,λhc=>aq ?_⟩
 .obtain⟨x,hx⟩:=get_some hc;obtain⟨y,hy⟩:=get_some (show i<b.length by omega);simp only[go_sem,simprocAttr,h13,hst,ab4,aw hx,aw hy];exact⟨.of (by kernel_rfl),hc,by omega,λhne=>aq (decide_eq_false (fV hx hy hne)).symm,λe=>⟨hc,ah hc hl,dq hI hx (e▸hy)⟩⟩
 .rw[ab5 hc,ab5 (by omega)]at hI;exact(decide_eq_true hI).symm
theorem Iv (a b:List iK):ag prog W0 135 [ct a,ct b] (.bool (decide (a=b))):=by
 refine ak [4] [] func135 rfl rfl ntmps135 rfl rfl (.bool _) λhs σ=>?_
 have hl:=(aN (hs _ (ab8 ..))).1;simp only[go_sem,simprocAttr,ct,ab4];refine⟨λh=>aq (decide_eq_false λe=>h (by rw[e])).symm,λh=>?_⟩;have hab:a.length=b.length:=by omega
 refine ae.upto [0,1,12] a.length (λi A=>A.env 13= .int .i64 i/\A.st=σ/\a.take i=b.take i) 0 (ab6 _) ?_ λi B hi ⟨h13,hst,hI⟩=>?_
 .simp only[go_sem,simprocAttr];simp
 simp only[go_sem,simprocAttr,h13,hst,ab4];refine⟨λhc=>?_,λhc=>aq ?_⟩
 .obtain⟨x,hx⟩:=get_some hc;obtain⟨y,hy⟩:=get_some (show i<b.length by omega);simp only[go_sem,simprocAttr,h13,hst,ab4,aw hx,aw hy];exact⟨.of (by kernel_rfl),hc,by omega,λhne=>aq (decide_eq_false (fV hx hy hne)).symm,λe=>⟨hc,ah hc hl,dq hI hx (e▸hy)⟩⟩
 .rw[ab5 hc,ab5 (by omega)]at hI;exact(decide_eq_true hI).symm
theorem MZ (a b:List Atom):ag prog W0 132 [aF a,aF b] (.bool (decide (a=b))):=by
 refine ak [4] [] func132 rfl rfl ntmps132 rfl rfl (.bool _) λhs σ=>?_
 simp only[go_sem,simprocAttr,aF];refine aj.fn (DM a b) ?_;simp only[go_sem,simprocAttr]
theorem L5 (a b:List Clause)(g:FuncId)(h: ∀c∈a,∀d∈b,ag prog W0 g [aF c,aF d] (.bool (decide (c=d)))):ag prog W0 131 [aA a,aA b,.fn g []] (.bool (decide (a=b))):=by
 refine ak [6] [] func131 rfl rfl ntmps131 rfl rfl (.bool _) λhs σ=>?_
 have hl:=(aN (hs _ (ab8 ..))).1;simp only[go_sem,simprocAttr,aA,ab4];refine⟨λh=>aq (decide_eq_false λe=>h (by rw[e])).symm,λhne=>?_⟩;have hab:a.length=b.length:=by omega
 refine ae.upto [1,2,15,16] a.length (λi A=>A.env 17= .int .i64 i/\A.st=σ/\a.take i=b.take i) 0 (ab6 _) ?_ λi B hi ⟨h13,hst,hI⟩=>?_
 .simp only[go_sem,simprocAttr];simp
 simp only[go_sem,simprocAttr,h13,hst,ab4];refine⟨λhc=>⟨hc,?_⟩,λhc=>aq ?_⟩
 .obtain⟨x,hx⟩:=get_some hc;obtain⟨y,hy⟩:=get_some (show i<b.length by omega);simp only[go_sem,simprocAttr,aw hx,aw hy,aF];refine⟨by omega,?_⟩;refine aj.pure (h x (acf hx) y (acf hy)) ?_;simp only[go_sem,simprocAttr,h13,hst];grind [aq,ah,dq]
 grind
theorem xr (a b:List Clause):ag prog W0 130 [aA a,aA b] (.bool (decide (a=b))):=by
 refine ak [4] [] func130 rfl rfl ntmps130 rfl rfl (.bool _) λhs σ=>?_
 simp only[go_sem,simprocAttr,aA];refine aj.fn (L5 a b _ λc _ d _=>MZ c d) ?_;simp only[go_sem,simprocAttr]
theorem IU (p q:Pkg):ag prog W0 77 [ay p,ay q] (.bool (decide (p=q))):=by
 refine ak [4] [2,3] func77 rfl rfl ntmps77 rfl rfl (.bool _) λhs σ=>?_
 simp only[List.append_eq,List.cons_append,acA];simp only[go_sem,simprocAttr,ay];refine aC.fnG (λ_=>xr _ _) ?_;simp only[go_sem,simprocAttr];refine aC.fnG (λ_=>xr _ _) ?_;simp only[go_sem,simprocAttr];refine aC.fnG (λ_=>xr _ _) ?_;simp only[go_sem,simprocAttr];refine aC.fnG (λ_=>xu _ _) ?_;simp only[go_sem,simprocAttr];refine aC.fnG (λ_=>xu _ _) ?_;simp only[go_sem,simprocAttr];refine aC.fnG (λ_=>Iv _ _) ?_;simp only[go_sem,simprocAttr];refine aq ?_;obtain⟨a1,a2,a3,a4,a5,a6,a7,a8,a9⟩:=p;obtain⟨b1,b2,b3,b4,b5,b6,b7,b8,b9⟩:=q;grind
theorem E0 (a b:List aD):ag prog W0 44 [aJ a,aJ b] (.bool (decide (a=b))):=by
 refine ak [4] [] func44 rfl rfl ntmps44 rfl rfl (.bool _) λhs σ=>?_
 have hl:=(aN (hs _ (ab8 ..))).1;simp only[go_sem,simprocAttr,aJ,ab4];refine⟨λh=>aq (decide_eq_false λe=>h (by rw[e])).symm,λh=>?_⟩;have hab:a.length=b.length:=by omega
 refine ae.upto [0,1,12] a.length (λi A=>A.env 13= .int .i64 i/\A.st=σ/\a.take i=b.take i) 0 (ab6 _) ?_ λi B hi ⟨h13,hst,hI⟩=>?_
 .simp only[go_sem,simprocAttr];simp
 simp only[go_sem,simprocAttr,h13,hst,ab4];refine⟨λhc=>?_,λhc=>aq ?_⟩
 .obtain⟨x,hx⟩:=get_some hc;obtain⟨y,hy⟩:=get_some (show i<b.length by omega);simp only[go_sem,simprocAttr,h13,hst,ab4,aw hx,aw hy,ay,bf];refine⟨.of (by kernel_rfl),hc,by omega,aC.fn (Uo x.pkg y.pkg) ?_⟩;by_cases hp:x.pkg=y.pkg
  .rw[decide_eq_true hp];simp only[go_sem,simprocAttr,h13,hst,ab4,aw hx,aw hy,bf];refine⟨hc,by omega,λ_=>hc,λ_=>by omega,λhne=>aq (decide_eq_false (fV hx hy ?_)).symm,λe=>⟨hc,ah hc hl,dq hI hx ?_⟩⟩
   .rintro rfl;simp at hne
   .have:x=y:=by
     obtain⟨x1,x2,x3⟩:=x;obtain⟨y1,y2,y3⟩:=y;simp at e hp;simp[e,hp]
    rw[this];exact hy
  .rw[decide_eq_false hp];simp only[go_sem,simprocAttr,h13,hst,ab4,aw hx,aw hy,bf];exact aq (decide_eq_false (fV hx hy λe=>hp (by rw[e]))).symm
 .rw[ab5 hc,ab5 (by omega)]at hI;exact(decide_eq_true hI).symm
end Go.Proofs.Tryz
end
section
namespace Go.Av
open Go
theorem lB.keep {P:Program}{A:aa}{s e:TypeId}{id off m:Nat}{xs:List AV}{dst:Option Nat}{k:aa->Prop}(hs:elT P s=some e)(he:fI P e=some .u8)(h0:0<m)(hσ:A.st[id]?=some (some (.cells e xs)))(hm:off+m<=xs.length)
  (hk:k ((A.put dst (.sl e ((xs.drop off).take m))).ax (A.st.set id none))):lB P s s (.row e id off m) dst A k .mk:=.inr (.inr ⟨e,id,off,m,xs,rfl,⟨rfl,hs,he⟩,h0,hσ,hm,hk⟩)
end Go.Av
end
section
namespace Go.Proofs.Tryz
open Go Go.Av
set_option maxRecDepth 10000
variable {W0 :World}
theorem LJ :reachBytes=140737488351232:=by decide
theorem UG {n:Nat}{a:AV}(h:OfT prog (n+6) 53 a): ∃x,a=bf x/\uf x.pkg:=by
 obtain⟨xs,rfl,g⟩:=og (ts:=[51,4,4]) (by kernel_rfl) h;obtain _|⟨x1,_|⟨x2,_|⟨x3,_|_⟩⟩⟩:=xs<;>simp only[vE,and_false,and_true]at g
 obtain⟨h1,h2,h3⟩:=g;obtain⟨p,rfl,hp⟩:=K0 (n:=n) h1;obtain⟨b,rfl⟩:=vo (by kernel_rfl) h2;obtain⟨c,rfl⟩:=vo (by kernel_rfl) h3;exact⟨⟨p,b,c⟩,rfl,hp⟩
theorem Te {n:Nat}{a:AV}(h:OfT prog (n+7) 22 a): ∃l,a=aJ l/\l.length<=733007751829/\ ∀x∈l,uf x.pkg:=by
 obtain⟨xs,rfl,hl,hx⟩:=TQ (e:=53) (by kernel_rfl) h;obtain⟨ps,rfl⟩:=all_map (f:=λq:{ x:aD // uf x.pkg }=>bf q.1) λx hm=>by
  obtain⟨p,rfl,h1⟩:=UG (hx x hm);exact⟨⟨p,h1⟩,rfl⟩
 refine⟨ps.map (·.1),by simp[aJ],?_,λp hp=>?_⟩
 .have hb:prog.bytesOf 53=192:=by kernel_rfl
  grind [LJ]
 grind
end Go.Proofs.Tryz
end
section
namespace Go.Av
theorem Bc {c:Clause}(h:lO c=true):c≠[]/\c.length<=6/\ ∀a∈c,cr a=true:=by
 grind [lO]
end Go.Av
end
section
namespace Go.Proofs.Tryz
open Go Go.Av
set_option maxRecDepth 10000
variable {W0 :World}
theorem lZ (e:TypeId)(a:Option Addr)(cap:Nat)(h:cap<=maxLen)(w:World)(C:Ctx):aI prog w C (.sl e []) (.slice a 0 cap):=
 .one rfl (Rel.sl (xs:=[]) (λ_=>[]) (ab6 _) h (λi x h=>by simp at h) (λi x h=>by simp at h) λhn=>absurd hn (by simp))
theorem Lk :ag prog W0 201 [aF []] (aF []):=by
 refine mC func201 (by kernel_rfl) (by kernel_rfl) λw C vs hvl hv=>?_
 obtain _|⟨v1,_|⟨_,_⟩⟩:=vs<;>simp at hvl
 have h1:=(hv 0 _ _ rfl rfl).aG rfl;cases h1;rename_i a cap cf hc hm hr hz hs;simp only[ace,acq]at hm;show Calls _ _ #[Value.slice a 0 cap] _ _;have q30: ∀(w:World) (a:Option Addr) (n c n' c':Nat),(binOp .eql 48 (.slice a n c) (.slice none n' c')).run prog w= .ok (.bool a.isNone) w:=λw a n c n' c'=>Lib.run_eql_slice_nil w _ _ a n c n' c' Tryz.underlying48
 clear hv hr hz hs;cases a
 all_goals go_enter Tryz.func201,Tryz.ntmps201
 all_goals go_wp2
 all_goals go_ret
 .exact⟨_,rfl,lZ _ _ _ (ab6 _),RowKit.Below.refl _ w⟩
 .exact⟨_,rfl,lZ _ _ _ (ab6 _),(RowKit.Below.refl _ w).alloc (acs _) _⟩
theorem Mr :ag prog W0 202 [ct []] (ct []):=by
 refine mC func202 (by kernel_rfl) (by kernel_rfl) λw C vs hvl hv=>?_
 obtain _|⟨v1,_|⟨_,_⟩⟩:=vs<;>simp at hvl
 have h1:=(hv 0 _ _ rfl rfl).aG rfl;cases h1;rename_i a cap cf hc hm hr hz hs;simp only[ace,acq]at hm;show Calls _ _ #[Value.slice a 0 cap] _ _;have q30: ∀(w:World) (a:Option Addr) (n c n' c':Nat),(binOp .eql 49 (.slice a n c) (.slice none n' c')).run prog w= .ok (.bool a.isNone) w:=λw a n c n' c'=>Lib.run_eql_slice_nil w _ _ a n c n' c' Tryz.underlying49
 clear hv hr hz hs;cases a
 all_goals go_enter Tryz.func202,Tryz.ntmps202
 all_goals go_wp2
 all_goals go_ret
 .exact⟨_,rfl,lZ _ _ _ (ab6 _),RowKit.Below.refl _ w⟩
 .exact⟨_,rfl,lZ _ _ _ (ab6 _),(RowKit.Below.refl _ w).alloc (acs _) _⟩
theorem HF :ag prog W0 200 [aF []] (aF []):=by
 refine mC func200 (by kernel_rfl) (by kernel_rfl) λw C vs hvl hv=>?_
 obtain _|⟨v1,_|⟨_,_⟩⟩:=vs<;>simp at hvl
 have h1:=(hv 0 _ _ rfl rfl).aG rfl;cases h1;rename_i a cap cf hc hm hr hz hs;simp only[ace,acq]at hm;show Calls _ _ #[Value.slice a 0 cap] _ _;have q30: ∀(w:World) (a:Option Addr) (n c n' c':Nat),(binOp .eql 77 (.slice a n c) (.slice none n' c')).run prog w= .ok (.bool a.isNone) w:=λw a n c n' c'=>Lib.run_eql_slice_nil w _ _ a n c n' c' Tryz.underlying77
 clear hv hr hz hs;cases a
 all_goals go_enter Tryz.func200,Tryz.ntmps200
 all_goals go_wp2
 all_goals go_ret
 .exact⟨_,rfl,lZ _ _ _ (ab6 _),RowKit.Below.refl _ w⟩
 .exact⟨_,rfl,lZ _ _ _ (ab6 _),(RowKit.Below.refl _ w).alloc (acs _) _⟩
theorem o5 (l:List Atom)(hl:l.length<=1048576):ag prog W0 201 [aF l] (aF l):=by
 cases l with
 |nil=>exact Lk
 |cons x c=>exact Rf (x::c) hl
theorem zM (l:List iK)(hl:l.length<=1048576):ag prog W0 202 [ct l] (ct l):=by
 cases l with
 |nil=>exact Mr
 |cons x c=>exact R6 (x::c) hl
theorem wo (l:List Atom)(hl:l.length<=1048576):ag prog W0 200 [aF l] (aF l):=by
 cases l with
 |nil=>exact HF
 |cons x c=>exact NW (x::c) hl
end Go.Proofs.Tryz
end
section
namespace Go.Av
def p5.fit :p5->Prop
 | .count _=>False
 | .atoms l=>l.length<=1048576
 | .Sl l=>l.length<=1048576
 |_=>True
end Go.Av
end
section
namespace Go.Proofs.Tryz
open Go Go.Av
set_option maxRecDepth 10000
variable {W0 :World}
end Go.Proofs.Tryz
end
section
namespace Go.Av
theorem Bld.PQ {st:ab}{v:AV}{e:TypeId}{xs:List AV}(h:Bld st v e xs):Sub v (.sl e xs):=by
 rcases h with⟨rfl,rfl⟩|rfl|⟨t,rfl,_⟩
 .exact .ar _
 .exact .lit _ _
 .exact .own _ _ _
theorem ag.Jk {P:Program}{W0:World}{f:FuncId}{args:List AV}{r:AV}(hr:aV 0 r)(h: ∀σ,aO P W0 f args σ λr' σ'=>df r' r/\Ext σ σ'):ag P W0 f args r:=λσ w C vs hst hl hv=>
 (h σ w C vs hst hl hv).mono λe w' ⟨v,r',σ',C',he,⟨hw,hx⟩,hs,hrv,hstep⟩=>by
  have hs2:aE P W0 w' (C'.eH σ.length) σ:=by
   have:=hs.eH (n:=σ.length) hx.le λid te xs hid hss=>hst.ids (show σ[id]?=some (some (.cells te xs)) by
    have e:=congrArg (·[id]?) hx;simp_all)
   rwa [hx]at this
  exact⟨v,r,σ,C'.eH σ.length,he,⟨rfl,rfl⟩,hs2,(hrv.bT hw).eH (eR (ab6 _) hr),hstep.eH (by grind [aE.nx])⟩
end Go.Av
end
section
namespace Go.Proofs.Tryz
open Go Go.Av
set_option maxRecDepth 10000
variable {W0 :World}
def Tm :List UInt8:=[80,97,99,107,97,103,101]
def Rp :List UInt8:=[86,101,114,115,105,111,110]
def abL :List UInt8:=[69,115,115,101,110,116,105,97,108]
def abR :List UInt8:=[80,114,101,45,68,101,112,101,110,100,115]
def abO :List UInt8:=[68,101,112,101,110,100,115]
def abV :List UInt8:=[82,101,99,111,109,109,101,110,100,115]
def abD :List UInt8:=[67,111,110,102,108,105,99,116,115]
def abJ :List UInt8:=[66,114,101,97,107,115]
def ZX :List UInt8:=[80,114,111,118,105,100,101,115]
structure LiN (l:List Clause):Prop where
 len:l.length<=1048576
 cl: ∀c∈l,c.length<=1048576
end Go.Proofs.Tryz
end
section
namespace Go.Av
def OY (n:List UInt8)(k:Int)(s:List UInt8):List UInt8:=
 if 0<k/\s=[]then [32,46]else if 0<k then 32::s else if s=[]then n++[58]else n++[58,32]++s
end Go.Av
end
section
namespace Go.Proofs.Tryz
open Go Go.Av
set_option maxRecDepth 10000
variable {W0 :World}
end Go.Proofs.Tryz
end
section
namespace Go.Av
def Ij (k:Int)(s:List UInt8):Bool:=!(decide (0<=Wq s)|| !(oI s==s)||(decide (0<k)&&s==[46]))&&(decide (0<k)||nF s==s)
end Go.Av
end
section
namespace Go.Proofs.Tryz
open Go Go.Av
set_option maxRecDepth 10000
variable {W0 :World}
end Go.Proofs.Tryz
end
section
namespace Go.Av
def KJ {α:Type}(q:Nat->α->Bool):Nat->List α->Bool
 |_,[]=>true
 |i,x::r=>q i x&&KJ q (i+1) r
def zE (f:Fld)(ahead:List Fld):Int:=
 if ((R4 f.name:Int)==0||(R4 f.name:Int) !=(f.name.length:Int)||(f.lines.length:Int)==0)=true then 3
 else if KJ (λk s=>Ij k s) 0 f.lines=false then 3
 else if aat ahead f.name=true then 4
 else if KJ (λk s=>decide ((OY f.name k s).length<=1000)) 0 f.lines=false then 2
 else 0
end Go.Av
end
section
namespace Go.Proofs.Tryz
open Go Go.Av
set_option maxRecDepth 10000
variable {W0 :World}
end Go.Proofs.Tryz
end
section
namespace Go.Av
open Go.Proofs.Tryz
def prB (c:UInt8):Bool:=decide (32<=c.toNat)&&decide (c.toNat<=126)
theorem KG : ∀(f:Nat) {s:List UInt8} (i:Nat),(∀c∈s,prB c=true)->KP f s i= -1
 |0,_,_,_=>rfl
 |_+1,[],_,_=>rfl
 |f+1,c::r,i,h=>by
  have hc:=h c (by simp);simp only[prB,Bool.and_eq_true,decide_eq_true_eq]at hc;have h1:zT (c::r)=1:=F4 (by omega);have h2:XJ c=false:=by
   grind [XJ]
  rw[KP,h1,h2,if_neg (by simp)];exact KG f _ λx hx=>h x (by simp_all)
theorem Pv {s:List UInt8}(h: ∀c∈s,prB c=true):Wq s= -1:=KG _ _ h
structure Edge (s:List UInt8):Prop where
 hd: ∃c t,s=c::t/\E5 c≠1
 tl: ∃u c,s=u++[c]/\E5 c≠1
theorem Edge.plain {s:List UInt8}(hne:s≠[])(h: ∀c∈s,E5 c=0):Edge s:=by
 constructor
 .cases s with
  |nil=>simp_all
  |cons c t=>simp_all
 .rcases List.eq_nil_or_concat s with rfl|⟨u,c,rfl⟩
  .simp_all
  grind
theorem Edge.ne {s:List UInt8}(h:Edge s):s≠[]:=by
 grind [Edge.hd]
theorem Edge.app {s m t:List UInt8}(hs:Edge s)(ht:Edge t):Edge (s++(m++t)):=by
 obtain⟨c,a,rfl,h1⟩:=hs.hd;obtain⟨u,d,rfl,h2⟩:=ht.tl;exact⟨⟨c,a++(m++(u++[d])),rfl,h1⟩,⟨(c::a)++(m++u),d,by simp,h2⟩⟩
theorem Edge.oI {s:List UInt8}(h:Edge s):oI s=s:=by
 grind [Edge.tl,IK,wsB]
theorem Edge.skip {s:List UInt8}(h:Edge s):mm s=s:=by
 grind [Edge.hd,Tu]
theorem Edge.trim {s:List UInt8}(h:Edge s):nF s=s:=by
 unfold nF;rw[h.skip,h.oI]
theorem mD {l:List Clause}(h:cP l=0):l.length<=12/\ ∀c∈l,lO c=true:=by
 unfold cP at h;split at h
 .cases h
 rename_i h1;split at h
 .cases h
 rename_i h2;refine⟨by omega,λc hc=>?_⟩;have h3: ¬(6<c.length):=λh6=>h1 (.inr (acz.2 ⟨c,hc,by simp_all⟩))
 have h4: ¬((decide (c.length=0)||c.any λa=>!cr a)=true):=λh6=>h2 (acz.2 ⟨c,hc,h6⟩)
 grind [lO]
theorem nU {l:List Atom}(h:cP (single l)=0):l.length<=12/\ ∀a∈l,cr a=true:=by
 obtain⟨h1,h2⟩:=mD h;refine⟨by grind [single],λa ha=>?_⟩;exact(Bc (h2 [a] (ab9.2 ⟨a,ha,rfl⟩))).2.2 a (by simp)
structure sR (p:Pkg):Prop where
 name:eI p.name=true
 ver:bM p.ver=true
 pre:p.pre.length<=12/\ ∀c∈p.pre,lO c=true
 dep:p.dep.length<=12/\ ∀c∈p.dep,lO c=true
 rcm:p.rcm.length<=12/\ ∀c∈p.rcm,lO c=true
 con:p.con.length<=12/\ ∀a∈p.con,cr a=true
 brk:p.brk.length<=12/\ ∀a∈p.brk,cr a=true
 eY:p.eY.length<=12/\ ∀x∈p.eY,cr (bS x)=true
theorem dt {p:Pkg}(h:aS p=0):sR p:=by
 unfold aS at h;split at h
 .cases h
 rename_i h1;simp only[Bool.or_eq_true,Bool.not_eq_true',not_or,Bool.not_eq_false]at h1;have h2:=iB h;obtain⟨g1,g2⟩:=nU (h2 (cP (single (p.eY.map bS))) (by simp));exact⟨h1.1,h1.2,mD (h2 _ (by simp)),mD (h2 _ (by simp)),mD (h2 _ (by simp)),nU (h2 _ (by simp)),nU (h2 _ (by simp)),by simp_all,λx hx=>g2 _ (ab9.2 ⟨x,hx,rfl⟩)⟩
structure abT (n t:List UInt8)(v:p5):Prop where
 A9:Edge t
 pr: ∀c∈t,prB c=true
 read:aap n t= .ok v
def Xg :List UInt8:=[83,116,97,116,101]
def Z6 :List UInt8:=[72,111,108,100]
def OJ :List (List UInt8):=[Tm,Rp,abL,abR,abO,abV,abD,abJ,ZX]
def uN :List (List UInt8):=OJ++[Xg,Z6]
structure FG (y:Fld×p5):Prop where
 fit: ∃t,y.1.lines=[t]/\abT y.1.name t y.2
 name:y.1.name∈uN
def lnF (f:Fld):List UInt8:=OY f.name 0 (f.lines.headD [])
theorem S7 : ∀n∈uN,n≠[]/\(∀c∈n,E5 c=0)/\(∀c∈n,prB c=true)/\R4 n=n.length/\aav n=false:=by decide
structure LnF (y:Fld×p5)(t:List UInt8):Prop where
 lines:y.1.lines=[t]
 A9:Edge t
 pr: ∀c∈t,prB c=true
 name:y.1.name∈uN
 line:lnF y.1=y.1.name++58::32::t
theorem FG.ln {y:Fld×p5}(h:FG y): ∃t,LnF y t:=by
 obtain⟨t,h1,h2⟩:=h.fit;refine⟨t,h1,h2.A9,h2.pr,h.name,?_⟩;unfold lnF OY;rw[h1];simp[h2.A9.ne]
theorem LnF.may {y:Fld×p5}{t:List UInt8}(h:LnF y t){ahead:List Fld}(ha:aat ahead y.1.name=false):zE y.1 ahead=if (lnF y.1).length<=1000 then 0 else 2:=by
 obtain⟨h1,h2,h3,h4,h5⟩:=S7 _ h.name;have hl:y.1.name.length≠0:=λe=>h1 (List.length_eq_zero_iff.1 e)
 have ho:Ij ((0:Nat):Int) t=true:=by
  grind [Ij,Pv,LnF.pr,Edge.oI,LnF.A9,Edge.trim]
 unfold zE;rw[h.lines];grind [KJ,lnF,LnF.lines]
structure SG (L:List (Fld×p5)):Prop where
 ne:L≠[]
 len:L.length<=40
 fg: ∀y∈L,FG y
 pw:L.Pairwise λy z=>Wt y.1.name z.1.name=false
theorem gI {l:List Pkg}(h:aR l=0):l.length<=24/\ ∀p∈l,aS p=0:=by
 unfold aR at h;split at h
 .cases h
 rename_i h1;split at h
 .omega
 rename_i h2;exact⟨by omega,λp hp=>iB (by omega) _ (ab9.2 ⟨p,hp,rfl⟩)⟩
theorem eZ {l:List aD}(h:bK l=0):l.length<=10/\ ∀x∈l,aS x.pkg=0:=by
 unfold bK at h;split at h
 .cases h
 rename_i h1;split at h
 .omega
 rename_i h2;exact⟨by omega,λx hx=>iB (aci.1 h2) _ (ab9.2 ⟨x,hx,rfl⟩)⟩
def cZ (repo:List Pkg)(s:List aD):List Pkg:=s.map (·.pkg)++repo.filter λp=>match cI s p.name with
 |none=>true
 |some x=>!bn x.pkg.ver p.ver
def cy (repo:List Pkg)(s:List aD):List Pkg×Int:=
 if aR repo≠0 then([],aR repo)else if bK s≠0 then([],bK s)
 else if 24<(cZ repo s).length\/10<(cC (cZ repo s) []).length then([],12)else(cQ (cZ repo s),0)
theorem Ae : ∀{s:List aD},kU s=false->s.Pairwise λx y=>Op.bytesLess x.pkg.name y.pkg.name=true
 |[],_=>.nil
 |[x],_=>List.pairwise_singleton _ _
 |x::y::r,h=>by
  rw[kU,Bool.or_eq_false_iff,Bool.not_eq_false']at h;have ih:=Ae h.2;grind [List.pairwise_cons,eu]
theorem fq {s:List aD}(h:bK s=0):(s.map (·.pkg.name)).Nodup:=by
 have hd:kU s=false:=by
  grind [bK]
 rw[List.Nodup,List.pairwise_map];refine(Ae hd).imp λ{x y} h e=>?_
 grind [eh]
theorem vg {l m:List Pkg}(h:l.Perm m):(cC l []).length=(cC m []).length:=by
 grind [e5,acK,gC]
theorem pk {l:List Pkg}(h1:l.length<=24)(h2: ∀p∈l,aS p=0)(h3:pJ l)(h4:(cC l []).length<=10):aR l=0:=by
 unfold aR;rw[if_neg (by omega),if_neg,if_neg,if_neg (by omega)]
 .rw[Bool.not_eq_true,om];exact⟨by simp,h3⟩
 grind [uz]
theorem G5 {l m:List Pkg}(h:l.Perm m)(hd:pJ l):pJ m:=h.pairwise hd λ{a b} h=>by grind [oG]
theorem CP {repo:List Pkg}{s:List aD}(h:(cy repo s).2=0):aR (cy repo s).1=0/\nI (cy repo s).1/\(∀x∈s,x.pkg∈(cy repo s).1)/\bK s=0:=by
 unfold cy at h ⊢;split at h
 .omega
 rename_i h1;rw[if_neg h1];split at h
 .omega
 rename_i h2;rw[if_neg h2];split at h
 .cases h
 rename_i h3;rw[if_neg h3];have h1:=aci.1 h1;have h2:=aci.1 h2;obtain⟨_,hr⟩:=gI h1;obtain⟨_,he⟩:=eZ h2;obtain⟨hd,_⟩:=eE h1;have hnm:=fq h2;have hp:=dC (cZ repo s);have hmay: ∀p∈cZ repo s,aS p=0:=λp hp=>by
  grind [cZ]
 have hnd:pJ (cZ repo s):=by
  refine List.pairwise_append.2 ⟨?_,aca acd hd,λp hp q hq=>?_⟩
  .grind [dB]
  .obtain⟨x,hx,rfl⟩:=ab9.1 hp;grind [dB,kQ]
 have hv:xN (cZ repo s):=λp hp=>by
  grind [dt,sR.ver]
 refine⟨pk (by rw[hp.length_eq];omega) (λp hpm=>hmay p (hp.subset hpm)) (G5 hp.symm hnd) (by grind [vg]),iS hv,λx hx=>hp.symm.subset ?_,h2⟩;grind [cZ]
theorem Fh {k:Nat}{t:List Nat}(hs:t.Pairwise (· < ·))(hk: ∀i∈t,i<k):bg k (bZ t)=t:=by
 have h2:(bg k (bZ t)).Pairwise (· < ·):=aca acd List.pairwise_lt_range;grind [acj,List.perm_ext_iff_of_nodup,acw,c9,db]
def Aw (S:Nat):Nat:=lj (bg 32 S)
def ltB (x y:List Nat×Nat):Bool:=lexB x.1 y.1||(x.1==y.1&&decide (Aw y.2<Aw x.2))
def BZ (all:List Pkg)(s:List aD)(l:List aM)(up:Bool):List (List Nat×Nat):=(pA (eV all s l) (aW all s l) 0 0).map λS=>(ki all s S up,S)
def nD (all:List Pkg)(s:List aD)(l:List aM)(up:Bool):List (List Nat×List Nat):=
 Wi (((gx all (all.length+1) 0 []).filter λt=>iM l (atL all t) s).map λt=>(z6 all s (atL all t) up,t))
def toB (x:List Nat×List Nat):List Nat×Nat:=(x.1,bZ x.2)
theorem mc (up:Bool)(a b c d e:Nat):(Gj up a b c d e).length=5:=by
 unfold Gj;split<;>rfl
theorem ED {all:List Pkg}{t:List Nat}(h:t∈gx all (all.length+1) 0 []):t∈dh (dU all (all.length+1) 0):=by
 grind [gm]
theorem MA {all:List Pkg}(hc:pB all){t:List Nat}(ht:t∈dh (dU all (all.length+1) 0)):t.Pairwise (· < ·)/\ ∀i∈t,i<all.length:=by
 obtain⟨r1,_,_⟩:=ll hc (f:=all.length+1) (i:=0) (by omega) (by omega) (λj p q hj=>by omega);grind [uG,lT,ft,cb]
theorem Ky {all:List Pkg}: ∀{f i:Nat},∀g∈dU all f i,i<=all.length->g≠[]
 |0,i,g,hg,_=>by cases hg
 |f+1,i,g,hg,hi=>by
  rw[dU]at hg;by_cases h:i=all.length
  .simp_all
  .rw[if_neg h]at hg;obtain⟨p,hp⟩:=get_some (show i<all.length by omega);obtain⟨b1,b2⟩:=eT hp;rcases acG.1 hg with rfl|hg
   .grind
   .exact Ky g hg b2
theorem tG : ∀{gs:List (List Nat)},se gs->(∀g∈gs,g.Nodup)->(dh gs).Nodup
 |[],_,_=>by simp[dh]
 |g::r,ha,hn=>by
  have ih:=tG ha.2 λh hh=>hn h (by simp[hh])
  rw[dh,List.nodup_append];refine⟨?_,ih,λt ht u hu e=>?_⟩
  .have: ∀l:List Nat,l.Nodup->(l.flatMap λi=>(dh r).map (i:: ·)).Nodup:=λl=>by
    grind
   simp_all
  .obtain⟨i,hi,ht⟩:=List.mem_flatMap.1 ht;obtain⟨a,_,rfl⟩:=ab9.1 ht;rw[<-e]at hu;obtain⟨h,hh,hih⟩:=ft hu i (by simp);exact ha.1 i hi h hh hih
theorem yV {all:List Pkg}(hc:pB all)(q:List Nat->Bool):((gx all (all.length+1) 0 []).filter q).Nodup:=by
 obtain⟨_,_,r3⟩:=ll hc (f:=all.length+1) (i:=0) (by omega) (by omega) (λj p q hj=>by omega);obtain⟨_,k2⟩:=uG hc (f:=all.length+1) (i:=0) (by omega) (by omega) (λj p q hj=>by omega);rw[gm (by omega)];refine aca acd (aca acd ?_);grind [tG,acw]
theorem Rw {all:List Pkg}{s:List aD}{l:List aM}(hc:pB all)(up:Bool):(nD all s l up).Perm (((gx all (all.length+1) 0 []).filter λt=>iM l (atL all t) s).map λt=>(z6 all s (atL all t) up,t))/\(nD all s l up).Pairwise λa b=>ltP a b=true:=
 Ey (k:=5) (o:=[]) (by
  grind [yV]) (λy hy=>by
  rw[acA]at hy;obtain⟨t,_,rfl⟩:=ab9.1 hy;exact mc _ _ _ _ _ _) .nil
theorem JH {all:List Pkg}{s:List aD}{l:List aM}(h24:all.length<=24)(hm: ∀p∈all,aS p=0)(hc:pB all)(hU:Uni all s l)(hnv:dQ all s l=false)(up:Bool){o:List (List Nat×Nat)}(hp:o.Perm (BZ all s l up))(hs:o.Pairwise λx y=>ltB y x=false):
  o=(nD all s l up).map toB:=by
 obtain⟨b1,b2⟩:=Rw (s:=s) (l:=l) hc up;generalize hW:(gx all (all.length+1) 0 []).filter (λt=>iM l (atL all t) s)=W at b1;have hWp: ∀t∈W,t∈dh (dU all (all.length+1) 0):=λt ht=>by
  grind [ED]
 have hinc: ∀t∈W,t.Pairwise (· < ·)/\ ∀i∈t,i<32:=λt ht=>by
  grind [MA]
 have hmem: ∀x∈nD all s l up,x.2∈W/\x.1.length=5:=λx hx=>by
  obtain⟨t,ht,rfl⟩:=ab9.1 (b1.subset hx);exact⟨ht,mc _ _ _ _ _ _⟩
 have hturn: ∀t∈W,Aw (bZ t)=lj t:=λt ht=>by
  grind [Aw,Fh]
 have hlt: ∀x∈nD all s l up,∀y∈nD all s l up,ltB (toB x) (toB y)=ltP x y:=λx hx y hy=>by
  grind [ltB,ltP,toB,wh]
 have hperm:o.Perm ((nD all s l up).map toB):=by
  refine hp.trans ?_;have h1:=(Ed hm hc hU hnv).map λS=>(ki all s S up,S)
  rw[hW]at h1;refine h1.trans (List.Perm.trans (acL ?_) (b1.map toB).symm);rw[acJ,acJ];refine List.map_congr_left λt ht=>?_
  show(ki all s (bZ t) up,bZ t)=(z6 all s (atL all t) up,bZ t);grind [Tq]
 have hs2:((nD all s l up).map toB).Pairwise λx y=>ltB y x=false:=by
  grind [acH,zH,T6]
 refine acj (le:=λx y=>ltB y x=false) (λx y hx hy h1 h2=>?_) hs hs2 hperm;grind [Kv]
end Go.Av
end
section
namespace Go.Av
theorem gO (a b:Nat)(ha:a<4294967296)(hb:b<4294967296):bits .and .u32 (a:Int) (b:Int)=((a &&& b:Nat):Int):=by
 have h1:(BitVec.ofInt 32 (a:Int)).toNat=a:=by simp_all
 have h2:(BitVec.ofInt 32 (b:Int)).toNat=b:=by simp_all
 show IntKind.u32.wrap ((BitVec.ofInt 32 (a:Int) &&& BitVec.ofInt 32 (b:Int)).toNat:Int)=_;have hlt:=(BitVec.ofInt 32 (a:Int) &&& BitVec.ofInt 32 (b:Int)).isLt;grind [IntKind.wrap_u32]
theorem jx (a b:Nat)(ha:a<4294967296)(hb:b<4294967296):bits .or .u32 (a:Int) (b:Int)=((a ||| b:Nat):Int):=by
 have h1:(BitVec.ofInt 32 (a:Int)).toNat=a:=by simp_all
 have h2:(BitVec.ofInt 32 (b:Int)).toNat=b:=by simp_all
 show IntKind.u32.wrap ((BitVec.ofInt 32 (a:Int) ||| BitVec.ofInt 32 (b:Int)).toNat:Int)=_;have hlt:=(BitVec.ofInt 32 (a:Int) ||| BitVec.ofInt 32 (b:Int)).isLt;grind [IntKind.wrap_u32]
def bX (m k x:Nat):Nat:=((x >>> k) &&& m) ||| (((x &&& m) <<< k) % 4294967296)
theorem lX {m k x:Nat}(hm:m<4294967296):bX m k x<4294967296:=
 acx (n:=32) (Nat.lt_of_le_of_lt Nat.and_le_right hm) (acE _ (by decide))
theorem MU (m k x i:Nat)(hi:i<32):(bX m k x).testBit i=((x.testBit (k+i)&&m.testBit i)||(decide (k<=i)&&(x.testBit (i-k)&&m.testBit (i-k)))):=by
 unfold bX;rw[acF,acB,aco,show 4294967296=2^32 from rfl,ack,acr,acB];simp[hi]
def js (x:Nat):Nat:=
 let a:=bX 16711935 8 (bX 252645135 4 (bX 858993459 2 (bX 1431655765 1 x)))
 (a >>> 16) ||| ((a <<< 16) % 4294967296)
theorem VR (x:Nat):js x<4294967296:=
 acx (n:=32) (by
  grind [Nat.shiftRight_eq_div_pow,lX]) (acE _ (by decide))
theorem ZC : ∀i,i<32->Nat.testBit 1431655765 i=decide (i % 2=0):=by decide
theorem Zv : ∀i,i<32->Nat.testBit 858993459 i=decide (i % 4<2):=by decide
theorem aaQ : ∀i,i<32->Nat.testBit 252645135 i=decide (i % 8<4):=by decide
theorem aaR : ∀i,i<32->Nat.testBit 16711935 i=decide (i % 16<8):=by decide
theorem qC {m k:Nat}(hk:0<k)(hm: ∀i,i<32->m.testBit i=decide (i % (2*k)<k))(x i:Nat)(hi:i<32):
  (bX m k x).testBit i=x.testBit (if i % (2*k)<k then i+k else i-k):=by
 rw[MU m k x i hi,hm i hi];by_cases h:i % (2*k)<k
 .by_cases h2:k<=i
  .have h3: ¬(i-k) % (2*k)<k:=by
    have hd:=acC i (2*k);have hq:i / (2*k)≠0:=by
     grind
    obtain⟨q,hq⟩:=Nat.exists_eq_succ_of_ne_zero hq;have e:i-k=2*k*q+(i % (2*k)+k):=by
     grind [Nat.mul_succ]
    rw[e,acD,acm (by omega)];omega
   grind
  grind
 .have h2:k<=i:=by
   rcases Nat.lt_or_ge i k with g|g
   .rw[acm (by omega)]at h;omega
   .exact g
  have h3:(i-k) % (2*k)<k:=by
   have hd:=acC i (2*k);have hl:=acE i (show 0<2*k by omega);have e:i-k=2*k*(i / (2*k))+(i % (2*k)-k):=by omega
   rw[e,acD,acm (by omega)];omega
  grind
theorem Pp (x:Nat): ∀i,i<32->(js x).testBit i=x.testBit (31-i):=by
 intro i hi;have s1:=qC (m:=1431655765) (k:=1) (by decide) (λi hi=>by grind [ZC]) x;have s2:=qC (m:=858993459) (k:=2) (by decide) Zv (bX 1431655765 1 x);have s4:=qC (m:=252645135) (k:=4) (by decide) aaQ (bX 858993459 2 (bX 1431655765 1 x));have s8:=qC (m:=16711935) (k:=8) (by decide) aaR (bX 252645135 4 (bX 858993459 2 (bX 1431655765 1 x)));have hA:=lX (m:=16711935) (k:=8) (x:=bX 252645135 4 (bX 858993459 2 (bX 1431655765 1 x))) (by decide);have hB:(js x).testBit i=(bX 16711935 8 (bX 252645135 4 (bX 858993459 2 (bX 1431655765 1 x)))).testBit (if i<16 then i+16 else i-16):=by
  unfold js;simp only;generalize bX 16711935 8 (bX 252645135 4 (bX 858993459 2 (bX 1431655765 1 x)))=a at hA;rw[acF,aco,show 4294967296=2^32 from rfl,ack,acr];by_cases h:i<16
  .have: ¬16<=i:=by omega
   simp[h,hi,this,Nat.add_comm]
  .have h16:16<=i:=by omega
   have:a.testBit (16+i)=false:=acp (acg hA (show 2^32<=2^(16+i)from acu (n:=2) (by decide) (by omega)));simp[h,hi,h16,this]
 rw[hB,s8 _ (by split<;>omega),s4 _ (by split<;>split<;>omega),s2 _ (by split<;>split<;>split<;>omega),s1 _ (by split<;>split<;>split<;>split<;>omega)];congr 1;clear s1 s2 s4 s8 hA hB;grind
theorem Ot {x:Nat}(hx:x<4294967296):Aw x=js x:=by
 apply Nat.eq_of_testBit_eq;intro i;unfold Aw lj;rw[db];by_cases hi:i<32
 .rw[Pp x i hi];apply Bool.eq_iff_iff.2;simp only[decide_eq_true_eq,ab9];refine⟨λ⟨j,hj,e⟩=>?_,λh=>⟨31-i,c9.2 ⟨by omega,h⟩,by omega⟩⟩;grind [c9]
 .rw[acp (acg (VR x) (show 2^32<=2^i from acu (n:=2) (by decide) (by omega)))];grind
end Go.Av
end
