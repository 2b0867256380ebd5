/- What the last text of this claim rests on. No conditions. -/
import Derived.WalkKit
import Derived.Lib.SliceRun
import Derived.Test.YtbkobngljnnmgaaGreatDoorWah
import Derived.Test.YtbkobngljnnmgaaGreatDoorWak
import Derived.Test.YtbkobngljnnmgaaGreatDoorWal
import Derived.Test.YtbkobngljnnmgaaGreatDoorWam
import Derived.Test.YtbkobngljnnmgaaGreatDoorWan
import Derived.Test.YtbkobngljnnmgaaGreatDoorWap
import Derived.Test.YtbkobngljnnmgaaGreatDoorWaq
import Derived.Test.YtbkobngljnnmgaaGreatDoorWar
set_option linter.unusedSimpArgs false
set_option linter.unusedVariables false
open List renaming length_map->acf,drop_eq_getElem_cons->acg,take_of_length_le->aci,mem_cons_self->acj,mem_map->ack,getElem?_eq_some_iff->acn,filter_sublist->aco,map_nil->acp,mem_of_getElem?->acq,getElem?_append_left->acs,drop_eq_nil_of_le->acy,length_nil->acB,map_cons->acF,getElem_map->acI,any_eq_true->acJ,nil_append->acK,mem_cons->acQ,map_map->acT
open Nat renaming zero_le->ach,lt_of_lt_of_le->acr,testBit_mod_two_pow->acw,mod_eq_of_lt->acx,testBit_shiftRight->acz,testBit_lt_two_pow->acA,testBit_shiftLeft->acC,le_refl->acD,pow_le_pow_right->acE,or_lt_two_pow->acH,testBit_and->acL,div_add_mod->acM,mul_add_mod->acN,mod_lt->acO,testBit_or->acP,le_trans->acS
open List.Pairwise renaming sublist->acm,imp->acG,imp_of_mem->acR
open Classical renaming not_not->acu
open List.Perm renaming eq_of_pairwise->acv,length_eq->acU,of_eq->acV
section
namespace Go.Av
def sE (st:ab)(v:AV)(e:TypeId)(xs:List AV):Prop:=v= .sl e xs\/ ∃id,v= .row e id 0 xs.length/\st[id]?=some (some (.cells e xs))
section
variable {σ st:ab}{v:AV}{e:TypeId}{xs:List AV}
theorem sE.notM (h:sE st v e xs):df v:=by
 rcases h with rfl|⟨_,rfl,_⟩<;>trivial
theorem sE.ok (h:sE st v e xs)(g:Option Bool):okM g v=True:=cr h.notM
theorem sE.un (h:sE st v e xs):unm v=v:=cX h.notM
theorem sE.len (h:sE st v e xs):oU v= .int .i64 xs.length:=by
 rcases h with rfl|⟨_,rfl,_⟩<;>rfl
theorem sE.ext (h:sE σ v e xs)(hx:Ext σ st):sE st v e xs:=by
 rcases h with h|⟨id,h1,h2⟩
 .exact .inl h
 .exact .inr ⟨id,h1,by rw[(Fr.ext (F:=[]) hx).old id (acn.1 h2).1 (by simp)];exact h2⟩
theorem sE.gn (h:sE st v e xs)(P:Program)(t:TypeId):gn P t v=((elT P t).isSome=true):=by
 rcases h with rfl|⟨_,rfl,_⟩<;>rfl
end
end Go.Av
end
section
namespace Go.Proofs.Tryz
open Go Go.Av
set_option maxRecDepth 10000
variable {W0 :World}
end Go.Proofs.Tryz
end
section
namespace Go.Av
structure pE (rid:Nat)(σ σ':ab):Prop where
 len:σ.length<=σ'.length
 old: ∀j,j<σ.length->j≠rid->σ'[j]?=σ[j]?
theorem pE.refl (b:Nat)(σ:ab):pE b σ σ:=⟨acD _,λ_ _ _=>rfl⟩
theorem pE.trans {b:Nat}{σ σ' σ'':ab}(h:pE b σ σ')(k:pE b σ' σ''):pE b σ σ'':=⟨acS h.len k.len,λj hj hn=>(k.old j (acr hj h.len) hn).trans (h.old j hj hn)⟩
theorem pE.set {b:Nat}{σ σ':ab}(h:pE b σ σ')(o:Option bH):pE b σ (σ'.set b o):=⟨by simpa using h.len,λj hj hn=>by grind [pE.old]⟩
theorem pE.app {b:Nat}{σ σ':ab}(h:pE b σ σ')(l:ab):pE b σ (σ'++l):=⟨by have:=h.len;grind,λj hj hn=>by grind [acs,pE.old]⟩
theorem pE.ext {b:Nat}{σ τ σ':ab}(h:pE b τ σ')(k:Ext σ τ)(hb:σ.length<=b):Ext σ σ':=by
 refine List.ext_getElem? λj=>?_
 rw[List.getElem?_take];split
 .rename_i hj;rw[h.old j (by have:=k.le;omega) (by omega),k.eq,acs hj]
 simp_all
theorem uO (u v:AV):oV true u v=u:=by
 unfold oV oR;cases u<;>cases v<;>rfl
end Go.Av
end
section
namespace Go.Proofs.Tryz
open Go Go.Av
set_option maxRecDepth 10000
variable {W0 :World}
def nlz (e:TypeId)(xs:List AV):AV:=match xs with
 |[]=>.aq
 |x::r=>.sl e (x::r)
theorem Bd {e:TypeId}{xs:List AV}(h:aW 0 (.sl e xs)):aW 0 (nlz e xs):=by
 cases xs with
 |nil=>exact .aq
 |cons x r=>exact h
def XS (l:List Clause):AV:=nlz 77 (l.map aF)
def SM (l:List Atom):AV:=nlz 76 (l.map aU)
def Yr (l:List jE):AV:=nlz 179 (l.map dD)
end Go.Proofs.Tryz
end
section
namespace Go.Av
def hd0 :List UInt8->UInt8
 |[]=>0
 |c::_=>c
end Go.Av
end
section
namespace Go.Proofs.Tryz
open Go Go.Av
set_option maxRecDepth 10000
variable {W0 :World}
end Go.Proofs.Tryz
end
section
namespace Go.Proofs.Tryz
open Go Go.Av
end Go.Proofs.Tryz
end
section
namespace Go.Proofs.Tryz
open Go Go.Av
set_option maxRecDepth 10000
variable {W0 :World}
theorem OZ (l:List Atom)(hl:l.length<=1048576):ai prog W0 201 [nlz 76 (l.map aU)] (nlz 76 (l.map aU)):=by
 refine an [2] [] func201 rfl rfl ntmps201 rfl rfl (Bd (jz rp l)) λhs σ=>?_
 cases l with
 |nil=>
  simp only[go_sem,simprocAttr,acp,nlz]
 |cons x c=>
  simp only[go_sem,simprocAttr,acF,nlz];refine bq.own 1048576 (by kernel_rfl) (.inr (.inl rfl)) (.sl _ _ _) (by simpa using hl) λv' σ' ha'=>?_
  have hb':=(aH.app (σ:=σ) ⟨.inr (.inl rfl),.refl _,λt h=>by cases h⟩ ha');simp only[go_sem,simprocAttr,hb'.ok,hb'.un];exact⟨hb'.bS,hb'.ext⟩
theorem SL (l:List jE)(hl:l.length<=1048576):ai prog W0 202 [nlz 179 (l.map dD)] (nlz 179 (l.map dD)):=by
 refine an [2] [] func202 rfl rfl ntmps202 rfl rfl (Bd (jz wY l)) λhs σ=>?_
 cases l with
 |nil=>
  simp only[go_sem,simprocAttr,acp,nlz]
 |cons x c=>
  simp only[go_sem,simprocAttr,acF,nlz];refine bq.own 1048576 (by kernel_rfl) (.inr (.inl rfl)) (.sl _ _ _) (by simpa using hl) λv' σ' ha'=>?_
  have hb':=(aH.app (σ:=σ) ⟨.inr (.inl rfl),.refl _,λt h=>by cases h⟩ ha');simp only[go_sem,simprocAttr,hb'.ok,hb'.un];exact⟨hb'.bS,hb'.ext⟩
theorem NV (l:List Atom)(hl:l.length<=1048576):ai prog W0 200 [nlz 76 (l.map aU)] (nlz 76 (l.map aU)):=by
 refine an [2] [] func200 rfl rfl ntmps200 rfl rfl (Bd (jz rp l)) λhs σ=>?_
 cases l with
 |nil=>
  simp only[go_sem,simprocAttr,acp,nlz]
 |cons x c=>
  simp only[go_sem,simprocAttr,acF,nlz];refine bq.own 1048576 (by kernel_rfl) (.inr (.inl rfl)) (.sl _ _ _) (by simpa using hl) λv' σ' ha'=>?_
  have hb':=(aH.app (σ:=σ) ⟨.inr (.inl rfl),.refl _,λt h=>by cases h⟩ ha');simp only[go_sem,simprocAttr,hb'.ok,hb'.un];exact⟨hb'.bS,hb'.ext⟩
def aaY (p:Pkg):AV:=.agg 51 [.str p.name,.str p.ver,XS p.pre,XS p.dep,XS p.rcm,SM p.con,SM p.brk,Yr p.eI,.bool p.ess]
def ab5 (x:aA):AV:=.agg 53 [aaY x.pkg,.bool x.k9,.bool x.hold]
end Go.Proofs.Tryz
end
section
namespace Go.Av
theorem Sk {α:Type}{g:α->Nat}: ∀{l:List α} {a:α},a∈l->g a<=(l.map g).sum
 |b::l,a,h=>by
  rcases acQ.1 h with rfl|h
  .simp
  .have:=Sk (g:=g) h;grind
theorem SS {α:Type}{g h:α->Nat}(hg: ∀a,g a<=h a): ∀l:List α,(l.map g).sum<=(l.map h).sum
 |[]=>by simp
 |a::l=>by
  have:=SS hg l;grind
structure YL (s:Stz):Prop where
 ln: -9223372036854775808<=s.line
 fl:s.fields.length<=1048576
 sz:(s.fields.map λf=>f.lines.length).sum<=1048574
 fd: ∀f∈s.fields,FO f.lines+f.lines.length<=140737488355328/\(WV f.name=7\/(oM f.lines).length<=1048574)
end Go.Av
end
section
namespace Go.Proofs.Tryz
open Go Go.Av
set_option maxRecDepth 10000
variable {W0 :World}
end Go.Proofs.Tryz
end
section
namespace Go.Av
structure Sl (s:Stz):Prop where
 ln: -9223372036854775808<=s.line
 fl:s.fields.length<=1048576
 sz:(s.fields.map λf=>FO f.lines+f.lines.length).sum<=1048574
theorem Sl.wide {s:Stz}(h:Sl s):YL s:=by
 have hs:=SS (g:=λf:Fld=>f.lines.length) (h:=λf:Fld=>FO f.lines+f.lines.length) (λf=>by omega) s.fields;refine⟨h.ln,h.fl,acS hs h.sz,λf hf=>?_⟩;grind [Sk,Sl.sz,Nh]
end Go.Av
end
section
namespace Go.Proofs.Tryz
open Go Go.Av
set_option maxRecDepth 10000
variable {W0 :World}
theorem S6 (p:Pkg):Sub (aaY p) (ay p):=.agg rfl λi a b ha hb=>by
 have nz: ∀(e:TypeId) (xs:List AV),Sub (nlz e xs) (.sl e xs):=λe xs=>by
  cases xs with
  |nil=>exact .aq _
  |cons x r=>exact .refl _
 match i,ha,hb with
 |0,ha,hb|1,ha,hb|8,ha,hb=>cases ha;cases hb;exact .refl _
 |2,ha,hb|3,ha,hb|4,ha,hb|5,ha,hb|6,ha,hb|7,ha,hb=>cases ha;cases hb;exact nz _ _
def bf (x:aA):AV:=.agg 53 [ay x.pkg,.bool x.k9,.bool x.hold]
def aK (l:List aA):AV:=.sl 53 (l.map bf)
theorem p0 (l:List aA)(hp: ∀x∈l,iT x.pkg):ai prog W0 74 [aK l] (.int .i64 (bJ l)):=by
 refine an [2] [4] func74 rfl rfl ntmps74 rfl rfl (.int _ _) λhs σ=>?_
 have hl:=(aQ (hs _ (acj ..))).1;simp only[go_sem,simprocAttr,aK,acf];refine⟨λh=>az (by grind [bJ]),λh=>?_⟩;have h10: ¬10<l.length:=λe=>by omega
 refine ae.at [0] (λA=>Ext σ A.st/\orL (l.map λx=>aS x.pkg)=0) ?_ λB ⟨hst,h6⟩=>?_
 .refine ae.upto [0,10,11] l.length (λi A=>A.env 12= .int .i64 i/\Ext σ A.st/\orL ((l.map λx=>aS x.pkg).drop i)=orL (l.map λx=>aS x.pkg)) 0 (ach _) ?_ λi B hi ⟨h8,hst,hI⟩=>?_
  .simp only[go_sem,simprocAttr];simp[Ext.refl]
  simp only[go_sem,simprocAttr,h8,acf];refine⟨λhc=>⟨hc,?_⟩,λhc=>?_⟩
  .obtain⟨a,ha⟩:=get_some hc;obtain⟨hlt,hae⟩:=acn.1 ha;rw[acg (by simp_all),acI,hae]at hI;simp only[aw ha];simp only[go_sem,simprocAttr,bf];refine aj.fn (Pr a.pkg (hp a (acq ha))) ?_;simp only[go_sem,simprocAttr,h8];refine⟨λhq=>⟨az ?_,hst.app _⟩,λhq=>⟨hc,ag hc hl,hst.app _,?_⟩⟩
   .grind [orL,bJ]
   grind [orL]
  .rw[acy (by simp_all)]at hI;exact⟨hst,hI.symm⟩
 have hm:bJ l=if k8 l=true then 4 else 0:=by grind [bJ]
 simp only[go_sem,simprocAttr];refine ae.upto [0] (max 1 l.length) (λi A=>A.env 6= .int .i64 i/\1<=i/\Ext σ A.st/\k8 (l.drop (i-1))=k8 l) 1 (Nat.le_max_left _ _) ?_ λi A hi ⟨h6',h1,hst',hI⟩=>?_
 .simp only[go_sem,simprocAttr];exact hst
 simp only[go_sem,simprocAttr,h6',acf];refine⟨λhc=>?_,λhc=>?_⟩
 .have hc':i<l.length:=by omega
  obtain⟨j,rfl⟩: ∃j,i=j+1:=⟨i-1,by omega⟩;obtain⟨a,ha⟩:=get_some (show j<l.length by omega);obtain⟨b,hb⟩:=get_some hc';have hw:IntKind.i64.wrap (((j+1:Nat):Int)-1)=(j:Nat):=by grind [aJ]
  simp only[hw];simp only[go_sem,simprocAttr,aw ha,aw hb,bf,ay];have hd:l.drop j=a::l.drop (j+1):=by grind [acg]
  have hd1:l.drop (j+1)=b::l.drop (j+1+1):=by grind [acg]
  have hI':k8 (l.drop j)=k8 l:=hI;rw[hd,hd1,k8,<-hd1]at hI';refine⟨.of (by kernel_rfl),by omega,hc',λhq=>⟨az ?_,hst'⟩,λhq=>⟨by omega,ag hc' hl,hst',?_⟩⟩
  .simp_all
  simp_all
 .have hn:k8 l=false:=by
   rw[<-hI];have hlen:(l.drop (i-1)).length<=1:=by simp_all
   generalize l.drop (i-1)=r at hlen
   match r,hlen with
   |[],_=>rfl
   |[x],_=>rfl
  exact⟨az (by simp_all),hst'⟩
theorem Hj (l:List aA):ai prog W0 55 [aK l] (.int .i64 (bJ l)):=by
 refine an [2] [4] func55 rfl rfl ntmps55 rfl rfl (.int _ _) λhs σ=>?_
 have hl:=(aQ (hs _ (acj ..))).1;simp only[go_sem,simprocAttr,aK,acf];refine⟨λh=>az (by grind [bJ]),λh=>?_⟩;have h10: ¬10<l.length:=λe=>by omega
 refine ae.at [0] (λA=>Ext σ A.st/\orL (l.map λx=>aS x.pkg)=0) ?_ λB ⟨hst,h6⟩=>?_
 .refine ae.upto [0,10,11] l.length (λi A=>A.env 12= .int .i64 i/\Ext σ A.st/\orL ((l.map λx=>aS x.pkg).drop i)=orL (l.map λx=>aS x.pkg)) 0 (ach _) ?_ λi B hi ⟨h8,hst,hI⟩=>?_
  .simp only[go_sem,simprocAttr];simp[Ext.refl]
  simp only[go_sem,simprocAttr,h8,acf];refine⟨λhc=>⟨hc,?_⟩,λhc=>?_⟩
  .obtain⟨a,ha⟩:=get_some hc;obtain⟨hlt,hae⟩:=acn.1 ha;rw[acg (by simp_all),acI,hae]at hI;simp only[aw ha];simp only[go_sem,simprocAttr,bf];refine aj.fn (R1 a.pkg) ?_;simp only[go_sem,simprocAttr,h8];refine⟨λhq=>⟨az ?_,hst.app _⟩,λhq=>⟨hc,ag hc hl,hst.app _,?_⟩⟩
   .grind [orL,bJ]
   grind [orL]
  .rw[acy (by simp_all)]at hI;exact⟨hst,hI.symm⟩
 have hm:bJ l=if k8 l=true then 4 else 0:=by grind [bJ]
 simp only[go_sem,simprocAttr,acf];refine ae.upto [0,24] l.length (λi A=>A.env 25= .int .i64 i/\Ext σ A.st/\k8 (l.drop (i-1))=k8 l) 0 (ach _) ?_ λi A hi ⟨h6',hst',hI⟩=>?_
 .simp only[go_sem,simprocAttr];exact hst
 simp only[go_sem,simprocAttr,h6',acf];refine⟨λhc=>?_,λhc=>?_⟩
 .cases i with
  |zero=>
   simp only[go_sem,simprocAttr,kj];exact⟨.of (by kernel_rfl),hc,hst'⟩
  |succ j=>
   obtain⟨a,ha⟩:=get_some (show j<l.length by omega);obtain⟨b,hb⟩:=get_some hc;have hw:IntKind.i64.wrap (((j+1:Nat):Int)-1)=(j:Nat):=by grind [aJ]
   have hgt:decide ((0:Int)<((j+1:Nat):Int))=true:=decide_eq_true (by omega);simp only[hw,hgt];simp only[go_sem,simprocAttr,aw ha,aw hb,bf,ay];have hd:l.drop j=a::l.drop (j+1):=by grind [acg]
   have hd1:l.drop (j+1)=b::l.drop (j+1+1):=by grind [acg]
   have hI':k8 (l.drop j)=k8 l:=hI;rw[hd,hd1,k8,<-hd1]at hI';refine⟨.of (by kernel_rfl),λ_=>by omega,λ_=>hc,λhq=>⟨az ?_,hst'⟩,λhq=>⟨hc,ag hc hl,hst',?_⟩⟩
   .simp_all
   simp_all
 .have hn:k8 l=false:=by
   rw[<-hI];have hlen:(l.drop (i-1)).length<=1:=by grind
   generalize l.drop (i-1)=r at hlen
   match r,hlen with
   |[],_=>rfl
   |[x],_=>rfl
  exact⟨az (by simp_all),hst'⟩
theorem To (x:aA):Sub (ab5 x) (bf x):=.agg rfl λi a b ha hb=>by
 match i,ha,hb with
 |0,ha,hb=>grind [S6]
 |1,ha,hb|2,ha,hb=>cases ha;cases hb;exact .refl _
theorem C9 (x:aA):aW 0 (bf x):=.agg λy hy=>by
 simp at hy;rcases hy with rfl|rfl|rfl
 .exact rj _
 .exact .bool _
 .exact .bool _
theorem qP (l:List aA):aW 0 (aK l):=jz C9 l
theorem FJ (a b:List Atom):ai prog W0 133 [aF a,aF b] (.bool (decide (a=b))):=by
 refine an [4] [] func133 rfl rfl ntmps133 rfl rfl (.bool _) λhs σ=>?_
 have hl:=(aQ (hs _ (acj ..))).1;simp only[go_sem,simprocAttr,aF,acf];refine⟨λh=>ar (decide_eq_false λe=>h (by rw[e])).symm,λh=>?_⟩;have hab:a.length=b.length:=by omega
 refine ae.upto [0,1,12] a.length (λi A=>A.env 13= .int .i64 i/\A.st=σ/\a.take i=b.take i) 0 (ach _) ?_ λi B hi ⟨h13,hst,hI⟩=>?_
 .simp only[go_sem,simprocAttr];simp
 simp only[go_sem,simprocAttr,h13,hst,acf];refine⟨λhc=>?_,λhc=>ar ?_⟩
 .obtain⟨x,hx⟩:=get_some hc;obtain⟨y,hy⟩:=get_some (show i<b.length by omega);simp only[go_sem,simprocAttr,h13,hst,acf,aw hx,aw hy];exact⟨.of (by kernel_rfl),hc,by omega,λhne=>ar (decide_eq_false (py hx hy hne)).symm,λe=>⟨hc,ag hc hl,ij hI hx (e▸hy)⟩⟩
 .rw[aci hc,aci (by omega)]at hI;exact(decide_eq_true hI).symm
theorem u7 (a b:List Atom):ai prog W0 134 [aF a,aF b] (.bool (decide (a=b))):=by
 refine an [4] [] func134 rfl rfl ntmps134 rfl rfl (.bool _) λhs σ=>?_
 have hl:=(aQ (hs _ (acj ..))).1;simp only[go_sem,simprocAttr,aF,acf];refine⟨λh=>ar (decide_eq_false λe=>h (by rw[e])).symm,λh=>?_⟩;have hab:a.length=b.length:=by omega
 refine ae.upto [0,1,12] a.length (λi A=>A.env 13= .int .i64 i/\A.st=σ/\a.take i=b.take i) 0 (ach _) ?_ λi B hi ⟨h13,hst,hI⟩=>?_
 .simp only[go_sem,simprocAttr];simp
 simp only[go_sem,simprocAttr,h13,hst,acf];refine⟨λhc=>?_,λhc=>ar ?_⟩
 .obtain⟨x,hx⟩:=get_some hc;obtain⟨y,hy⟩:=get_some (show i<b.length by omega);simp only[go_sem,simprocAttr,h13,hst,acf,aw hx,aw hy];exact⟨.of (by kernel_rfl),hc,by omega,λhne=>ar (decide_eq_false (py hx hy hne)).symm,λe=>⟨hc,ag hc hl,ij hI hx (e▸hy)⟩⟩
 .rw[aci hc,aci (by omega)]at hI;exact(decide_eq_true hI).symm
theorem I6 (a b:List jE):ai prog W0 135 [cy a,cy b] (.bool (decide (a=b))):=by
 refine an [4] [] func135 rfl rfl ntmps135 rfl rfl (.bool _) λhs σ=>?_
 have hl:=(aQ (hs _ (acj ..))).1;simp only[go_sem,simprocAttr,cy,acf];refine⟨λh=>ar (decide_eq_false λe=>h (by rw[e])).symm,λh=>?_⟩;have hab:a.length=b.length:=by omega
 refine ae.upto [0,1,12] a.length (λi A=>A.env 13= .int .i64 i/\A.st=σ/\a.take i=b.take i) 0 (ach _) ?_ λi B hi ⟨h13,hst,hI⟩=>?_
 .simp only[go_sem,simprocAttr];simp
 simp only[go_sem,simprocAttr,h13,hst,acf];refine⟨λhc=>?_,λhc=>ar ?_⟩
 .obtain⟨x,hx⟩:=get_some hc;obtain⟨y,hy⟩:=get_some (show i<b.length by omega);simp only[go_sem,simprocAttr,h13,hst,acf,aw hx,aw hy];exact⟨.of (by kernel_rfl),hc,by omega,λhne=>ar (decide_eq_false (py hx hy hne)).symm,λe=>⟨hc,ag hc hl,ij hI hx (e▸hy)⟩⟩
 .rw[aci hc,aci (by omega)]at hI;exact(decide_eq_true hI).symm
theorem LX (a b:List Atom):ai prog W0 132 [aF a,aF b] (.bool (decide (a=b))):=by
 refine an [4] [] func132 rfl rfl ntmps132 rfl rfl (.bool _) λhs σ=>?_
 simp only[go_sem,simprocAttr,aF];refine aj.fn (FJ a b) ?_;simp only[go_sem,simprocAttr]
theorem MU (a b:List Clause)(g:FuncId)(h: ∀c∈a,∀d∈b,ai prog W0 g [aF c,aF d] (.bool (decide (c=d)))):ai prog W0 131 [aB a,aB b,.fn g []] (.bool (decide (a=b))):=by
 refine an [6] [] func131 rfl rfl ntmps131 rfl rfl (.bool _) λhs σ=>?_
 have hl:=(aQ (hs _ (acj ..))).1;simp only[go_sem,simprocAttr,aB,acf];refine⟨λh=>ar (decide_eq_false λe=>h (by rw[e])).symm,λhne=>?_⟩;have hab:a.length=b.length:=by omega
 refine ae.upto [1,2,15,16] a.length (λi A=>A.env 17= .int .i64 i/\A.st=σ/\a.take i=b.take i) 0 (ach _) ?_ λi B hi ⟨h13,hst,hI⟩=>?_
 .simp only[go_sem,simprocAttr];simp
 simp only[go_sem,simprocAttr,h13,hst,acf];refine⟨λhc=>⟨hc,?_⟩,λhc=>ar ?_⟩
 .obtain⟨x,hx⟩:=get_some hc;obtain⟨y,hy⟩:=get_some (show i<b.length by omega);simp only[go_sem,simprocAttr,aw hx,aw hy,aF];refine⟨by omega,?_⟩;refine aj.pure (h x (acq hx) y (acq hy)) ?_;simp only[go_sem,simprocAttr,h13,hst];grind [ar,ag,ij]
 grind
theorem xP (a b:List Clause):ai prog W0 130 [aB a,aB b] (.bool (decide (a=b))):=by
 refine an [4] [] func130 rfl rfl ntmps130 rfl rfl (.bool _) λhs σ=>?_
 simp only[go_sem,simprocAttr,aB];refine aj.fn (MU a b _ λc _ d _=>LX c d) ?_;simp only[go_sem,simprocAttr]
theorem JJ (p q:Pkg):ai prog W0 77 [ay p,ay q] (.bool (decide (p=q))):=by
 refine an [4] [2,3] func77 rfl rfl ntmps77 rfl rfl (.bool _) λhs σ=>?_
 simp only[List.append_eq,List.cons_append,acK];simp only[go_sem,simprocAttr,ay];refine aD.fnG (λ_=>xP _ _) ?_;simp only[go_sem,simprocAttr];refine aD.fnG (λ_=>xP _ _) ?_;simp only[go_sem,simprocAttr];refine aD.fnG (λ_=>xP _ _) ?_;simp only[go_sem,simprocAttr];refine aD.fnG (λ_=>u7 _ _) ?_;simp only[go_sem,simprocAttr];refine aD.fnG (λ_=>u7 _ _) ?_;simp only[go_sem,simprocAttr];refine aD.fnG (λ_=>I6 _ _) ?_;simp only[go_sem,simprocAttr];refine ar ?_;obtain⟨a1,a2,a3,a4,a5,a6,a7,a8,a9⟩:=p;obtain⟨b1,b2,b3,b4,b5,b6,b7,b8,b9⟩:=q;grind
end Go.Proofs.Tryz
end
section
namespace Go.Av
open Go
theorem lK.keep {P:Program}{A:aa}{s e:TypeId}{id off m:Nat}{xs:List AV}{dst:Option Nat}{k:aa->Prop}(hs:elT P s=some e)(he:fV P e=some .u8)(h0:0<m)(hσ:A.st[id]?=some (some (.cells e xs)))(hm:off+m<=xs.length)
  (hk:k ((A.put dst (.sl e ((xs.drop off).take m))).ax (A.st.set id none))):lK P s s (.row e id off m) dst A k .mk:=.inr (.inr ⟨e,id,off,m,xs,rfl,⟨rfl,hs,he⟩,h0,hσ,hm,hk⟩)
end Go.Av
end
section
namespace Go.Proofs.Tryz
open Go Go.Av
set_option maxRecDepth 10000
variable {W0 :World}
theorem OE :reachBytes=140737488351232:=by decide
theorem Vv {n:Nat}{a:AV}(h:OfT prog (n+6) 53 a): ∃x,a=bf x/\uE x.pkg:=by
 obtain⟨xs,rfl,g⟩:=oC (ts:=[51,4,4]) (by kernel_rfl) h;obtain _|⟨x1,_|⟨x2,_|⟨x3,_|_⟩⟩⟩:=xs<;>simp only[wJ,and_false,and_true]at g
 obtain⟨h1,h2,h3⟩:=g;obtain⟨p,rfl,hp⟩:=J7 (n:=n) h1;obtain⟨b,rfl⟩:=vf (by kernel_rfl) h2;obtain⟨c,rfl⟩:=vf (by kernel_rfl) h3;exact⟨⟨p,b,c⟩,rfl,hp⟩
theorem OY {n:Nat}{a:AV}(h:OfT prog (n+7) 22 a): ∃l,a=aK l/\l.length<=733007751829/\ ∀x∈l,uE x.pkg:=by
 obtain⟨xs,rfl,hl,hx⟩:=V1 (e:=53) (by kernel_rfl) h;obtain⟨ps,rfl⟩:=all_map (f:=λq:{ x:aA // uE x.pkg }=>bf q.1) λx hm=>by
  obtain⟨p,rfl,h1⟩:=Vv (hx x hm);exact⟨⟨p,h1⟩,rfl⟩
 refine⟨ps.map (·.1),by simp[aK],?_,λp hp=>?_⟩
 .have hb:prog.bytesOf 53=192:=by kernel_rfl
  grind [OE]
 grind
end Go.Proofs.Tryz
end
section
namespace Go.Av
theorem BG {c:Clause}(h:lT c=true):c≠[]/\c.length<=6/\ ∀a∈c,ct a=true:=by
 grind [lT]
end Go.Av
end
section
namespace Go.Proofs.Tryz
open Go Go.Av
set_option maxRecDepth 10000
variable {W0 :World}
theorem me (e:TypeId)(a:Option Addr)(cap:Nat)(h:cap<=maxLen)(w:World)(C:Ctx):aI prog w C (.sl e []) (.slice a 0 cap):=
 .one rfl (Rel.sl (xs:=[]) (λ_=>[]) (ach _) h (λi x h=>by simp at h) (λi x h=>by simp at h) λhn=>absurd hn (by simp))
theorem Mx :ai prog W0 201 [aF []] (aF []):=by
 refine nq func201 (by kernel_rfl) (by kernel_rfl) λw C vs hvl hv=>?_
 obtain _|⟨v1,_|⟨_,_⟩⟩:=vs<;>simp at hvl
 have h1:=(hv 0 _ _ rfl rfl).aG rfl;cases h1;rename_i a cap cf hc hm hr hz hs;simp only[acp,acB]at hm;show Calls _ _ #[Value.slice a 0 cap] _ _;have q30: ∀(w:World) (a:Option Addr) (n c n' c':Nat),(binOp .eql 48 (.slice a n c) (.slice none n' c')).run prog w= .ok (.bool a.isNone) w:=λw a n c n' c'=>Lib.run_eql_slice_nil w _ _ a n c n' c' Tryz.underlying48
 clear hv hr hz hs;cases a
 all_goals go_enter Tryz.func201,Tryz.ntmps201
 all_goals go_wp2
 all_goals go_ret
 .exact⟨_,rfl,me _ _ _ (ach _),RowKit.Below.refl _ w⟩
 .exact⟨_,rfl,me _ _ _ (ach _),(RowKit.Below.refl _ w).alloc (acD _) _⟩
theorem LV :ai prog W0 202 [cy []] (cy []):=by
 refine nq func202 (by kernel_rfl) (by kernel_rfl) λw C vs hvl hv=>?_
 obtain _|⟨v1,_|⟨_,_⟩⟩:=vs<;>simp at hvl
 have h1:=(hv 0 _ _ rfl rfl).aG rfl;cases h1;rename_i a cap cf hc hm hr hz hs;simp only[acp,acB]at hm;show Calls _ _ #[Value.slice a 0 cap] _ _;have q30: ∀(w:World) (a:Option Addr) (n c n' c':Nat),(binOp .eql 49 (.slice a n c) (.slice none n' c')).run prog w= .ok (.bool a.isNone) w:=λw a n c n' c'=>Lib.run_eql_slice_nil w _ _ a n c n' c' Tryz.underlying49
 clear hv hr hz hs;cases a
 all_goals go_enter Tryz.func202,Tryz.ntmps202
 all_goals go_wp2
 all_goals go_ret
 .exact⟨_,rfl,me _ _ _ (ach _),RowKit.Below.refl _ w⟩
 .exact⟨_,rfl,me _ _ _ (ach _),(RowKit.Below.refl _ w).alloc (acD _) _⟩
theorem Il :ai prog W0 200 [aF []] (aF []):=by
 refine nq func200 (by kernel_rfl) (by kernel_rfl) λw C vs hvl hv=>?_
 obtain _|⟨v1,_|⟨_,_⟩⟩:=vs<;>simp at hvl
 have h1:=(hv 0 _ _ rfl rfl).aG rfl;cases h1;rename_i a cap cf hc hm hr hz hs;simp only[acp,acB]at hm;show Calls _ _ #[Value.slice a 0 cap] _ _;have q30: ∀(w:World) (a:Option Addr) (n c n' c':Nat),(binOp .eql 77 (.slice a n c) (.slice none n' c')).run prog w= .ok (.bool a.isNone) w:=λw a n c n' c'=>Lib.run_eql_slice_nil w _ _ a n c n' c' Tryz.underlying77
 clear hv hr hz hs;cases a
 all_goals go_enter Tryz.func200,Tryz.ntmps200
 all_goals go_wp2
 all_goals go_ret
 .exact⟨_,rfl,me _ _ _ (ach _),RowKit.Below.refl _ w⟩
 .exact⟨_,rfl,me _ _ _ (ach _),(RowKit.Below.refl _ w).alloc (acD _) _⟩
theorem pq (l:List Atom)(hl:l.length<=1048576):ai prog W0 201 [aF l] (aF l):=by
 cases l with
 |nil=>exact Mx
 |cons x c=>exact OZ (x::c) hl
theorem Aa (l:List jE)(hl:l.length<=1048576):ai prog W0 202 [cy l] (cy l):=by
 cases l with
 |nil=>exact LV
 |cons x c=>exact SL (x::c) hl
theorem v7 (l:List Atom)(hl:l.length<=1048576):ai prog W0 200 [aF l] (aF l):=by
 cases l with
 |nil=>exact Il
 |cons x c=>exact NV (x::c) hl
end Go.Proofs.Tryz
end
section
namespace Go.Av
def qv.fit :qv->Prop
 | .count _=>False
 | .atoms l=>l.length<=1048576
 | .RS l=>l.length<=1048576
 |_=>True
end Go.Av
end
section
namespace Go.Proofs.Tryz
open Go Go.Av
set_option maxRecDepth 10000
variable {W0 :World}
end Go.Proofs.Tryz
end
section
namespace Go.Av
theorem Bld.Q0 {st:ab}{v:AV}{e:TypeId}{xs:List AV}(h:Bld st v e xs):Sub v (.sl e xs):=by
 rcases h with⟨rfl,rfl⟩|rfl|⟨t,rfl,_⟩
 .exact .aq _
 .exact .lit _ _
 .exact .own _ _ _
theorem ai.I4 {P:Program}{W0:World}{f:FuncId}{args:List AV}{r:AV}(hr:aW 0 r)(h: ∀σ,aP P W0 f args σ λr' σ'=>dj r' r/\Ext σ σ'):ai P W0 f args r:=λσ w C vs hst hl hv=>
 (h σ w C vs hst hl hv).mono λe w' ⟨v,r',σ',C',he,⟨hw,hx⟩,hs,hrv,hstep⟩=>by
  have hs2:aE P W0 w' (C'.eQ σ.length) σ:=by
   have:=hs.eQ (n:=σ.length) hx.le λid te xs hid hss=>hst.ids (show σ[id]?=some (some (.cells te xs)) by
    have e:=congrArg (·[id]?) hx;simp_all)
   rwa [hx]at this
  exact⟨v,r,σ,C'.eQ σ.length,he,⟨rfl,rfl⟩,hs2,(hrv.bS hw).eQ (fk (ach _) hr),hstep.eQ (by grind [aE.nx])⟩
end Go.Av
end
section
namespace Go.Proofs.Tryz
open Go Go.Av
set_option maxRecDepth 10000
variable {W0 :World}
def Qi :List UInt8:=[80,97,99,107,97,103,101]
def R4 :List UInt8:=[86,101,114,115,105,111,110]
def abP :List UInt8:=[69,115,115,101,110,116,105,97,108]
def abD :List UInt8:=[80,114,101,45,68,101,112,101,110,100,115]
def abZ :List UInt8:=[68,101,112,101,110,100,115]
def abA :List UInt8:=[82,101,99,111,109,109,101,110,100,115]
def ab4 :List UInt8:=[67,111,110,102,108,105,99,116,115]
def abX :List UInt8:=[66,114,101,97,107,115]
def aaz :List UInt8:=[80,114,111,118,105,100,101,115]
structure LiN (l:List Clause):Prop where
 len:l.length<=1048576
 cl: ∀c∈l,c.length<=1048576
end Go.Proofs.Tryz
end
section
namespace Go.Av
def R3 (n:List UInt8)(k:Int)(s:List UInt8):List UInt8:=
 if 0<k/\s=[]then [32,46]else if 0<k then 32::s else if s=[]then n++[58]else n++[58,32]++s
end Go.Av
end
section
namespace Go.Proofs.Tryz
open Go Go.Av
set_option maxRecDepth 10000
variable {W0 :World}
end Go.Proofs.Tryz
end
section
namespace Go.Av
def Jz (k:Int)(s:List UInt8):Bool:=!(decide (0<=WZ s)|| !(nZ s==s)||(decide (0<k)&&s==[46]))&&(decide (0<k)||nH s==s)
end Go.Av
end
section
namespace Go.Proofs.Tryz
open Go Go.Av
set_option maxRecDepth 10000
variable {W0 :World}
end Go.Proofs.Tryz
end
section
namespace Go.Av
def Ki {α:Type}(q:Nat->α->Bool):Nat->List α->Bool
 |_,[]=>true
 |i,x::r=>q i x&&Ki q (i+1) r
def An (f:Fld)(ahead:List Fld):Int:=
 if ((RE f.name:Int)==0||(RE f.name:Int) !=(f.name.length:Int)||(f.lines.length:Int)==0)=true then 3
 else if Ki (λk s=>Jz k s) 0 f.lines=false then 3
 else if ZY ahead f.name=true then 4
 else if Ki (λk s=>decide ((R3 f.name k s).length<=1000)) 0 f.lines=false then 2
 else 0
end Go.Av
end
section
namespace Go.Proofs.Tryz
open Go Go.Av
set_option maxRecDepth 10000
variable {W0 :World}
end Go.Proofs.Tryz
end
section
namespace Go.Av
open Go.Proofs.Tryz
def prB (c:UInt8):Bool:=decide (32<=c.toNat)&&decide (c.toNat<=126)
theorem K3 : ∀(f:Nat) {s:List UInt8} (i:Nat),(∀c∈s,prB c=true)->Kv f s i= -1
 |0,_,_,_=>rfl
 |_+1,[],_,_=>rfl
 |f+1,c::r,i,h=>by
  have hc:=h c (by simp);simp only[prB,Bool.and_eq_true,decide_eq_true_eq]at hc;have h1:zP (c::r)=1:=GC (by omega);have h2:Yh c=false:=by
   grind [Yh]
  rw[Kv,h1,h2,if_neg (by simp)];exact K3 f _ λx hx=>h x (by simp_all)
theorem Sz {s:List UInt8}(h: ∀c∈s,prB c=true):WZ s= -1:=K3 _ _ h
structure Edge (s:List UInt8):Prop where
 hd: ∃c t,s=c::t/\Et c≠1
 tl: ∃u c,s=u++[c]/\Et c≠1
theorem Edge.plain {s:List UInt8}(hne:s≠[])(h: ∀c∈s,Et c=0):Edge s:=by
 constructor
 .cases s with
  |nil=>simp_all
  |cons c t=>simp_all
 .rcases List.eq_nil_or_concat s with rfl|⟨u,c,rfl⟩
  .simp_all
  grind
theorem Edge.ne {s:List UInt8}(h:Edge s):s≠[]:=by
 grind [Edge.hd]
theorem Edge.app {s m t:List UInt8}(hs:Edge s)(ht:Edge t):Edge (s++(m++t)):=by
 obtain⟨c,a,rfl,h1⟩:=hs.hd;obtain⟨u,d,rfl,h2⟩:=ht.tl;exact⟨⟨c,a++(m++(u++[d])),rfl,h1⟩,⟨(c::a)++(m++u),d,by simp,h2⟩⟩
theorem Edge.nZ {s:List UInt8}(h:Edge s):nZ s=s:=by
 grind [Edge.tl,I1,wsB]
theorem Edge.skip {s:List UInt8}(h:Edge s):mr s=s:=by
 grind [Edge.hd,Vo]
theorem Edge.trim {s:List UInt8}(h:Edge s):nH s=s:=by
 unfold nH;rw[h.skip,h.nZ]
theorem mL {l:List Clause}(h:cP l=0):l.length<=12/\ ∀c∈l,lT c=true:=by
 unfold cP at h;split at h
 .cases h
 rename_i h1;split at h
 .cases h
 rename_i h2;refine⟨by omega,λc hc=>?_⟩;have h3: ¬(6<c.length):=λh6=>h1 (.inr (acJ.2 ⟨c,hc,by simp_all⟩))
 have h4: ¬((decide (c.length=0)||c.any λa=>!ct a)=true):=λh6=>h2 (acJ.2 ⟨c,hc,h6⟩)
 grind [lT]
theorem oI {l:List Atom}(h:cP (single l)=0):l.length<=12/\ ∀a∈l,ct a=true:=by
 obtain⟨h1,h2⟩:=mL h;refine⟨by grind [single],λa ha=>?_⟩;exact(BG (h2 [a] (ack.2 ⟨a,ha,rfl⟩))).2.2 a (by simp)
structure ux (p:Pkg):Prop where
 name:eN p.name=true
 ver:bK p.ver=true
 pre:p.pre.length<=12/\ ∀c∈p.pre,lT c=true
 dep:p.dep.length<=12/\ ∀c∈p.dep,lT c=true
 rcm:p.rcm.length<=12/\ ∀c∈p.rcm,lT c=true
 con:p.con.length<=12/\ ∀a∈p.con,ct a=true
 brk:p.brk.length<=12/\ ∀a∈p.brk,ct a=true
 eI:p.eI.length<=12/\ ∀x∈p.eI,ct (bT x)=true
theorem dz {p:Pkg}(h:aS p=0):ux p:=by
 unfold aS at h;split at h
 .cases h
 rename_i h1;simp only[Bool.or_eq_true,Bool.not_eq_true',not_or,Bool.not_eq_false]at h1;have h2:=im h;obtain⟨g1,g2⟩:=oI (h2 (cP (single (p.eI.map bT))) (by simp));exact⟨h1.1,h1.2,mL (h2 _ (by simp)),mL (h2 _ (by simp)),mL (h2 _ (by simp)),oI (h2 _ (by simp)),oI (h2 _ (by simp)),by simp_all,λx hx=>g2 _ (ack.2 ⟨x,hx,rfl⟩)⟩
structure abN (n t:List UInt8)(v:qv):Prop where
 BN:Edge t
 pr: ∀c∈t,prB c=true
 read:aaN n t= .ok v
def XT :List UInt8:=[83,116,97,116,101]
def ZH :List UInt8:=[72,111,108,100]
def Rh :List (List UInt8):=[Qi,R4,abP,abD,abZ,abA,ab4,abX,aaz]
def wR :List (List UInt8):=Rh++[XT,ZH]
structure FG (y:Fld×qv):Prop where
 fit: ∃t,y.1.lines=[t]/\abN y.1.name t y.2
 name:y.1.name∈wR
def lnF (f:Fld):List UInt8:=R3 f.name 0 (f.lines.headD [])
theorem Sd : ∀n∈wR,n≠[]/\(∀c∈n,Et c=0)/\(∀c∈n,prB c=true)/\RE n=n.length/\aa5 n=false:=by decide
structure LnF (y:Fld×qv)(t:List UInt8):Prop where
 lines:y.1.lines=[t]
 BN:Edge t
 pr: ∀c∈t,prB c=true
 name:y.1.name∈wR
 line:lnF y.1=y.1.name++58::32::t
theorem FG.ln {y:Fld×qv}(h:FG y): ∃t,LnF y t:=by
 obtain⟨t,h1,h2⟩:=h.fit;refine⟨t,h1,h2.BN,h2.pr,h.name,?_⟩;unfold lnF R3;rw[h1];simp[h2.BN.ne]
theorem LnF.may {y:Fld×qv}{t:List UInt8}(h:LnF y t){ahead:List Fld}(ha:ZY ahead y.1.name=false):An y.1 ahead=if (lnF y.1).length<=1000 then 0 else 2:=by
 obtain⟨h1,h2,h3,h4,h5⟩:=Sd _ h.name;have hl:y.1.name.length≠0:=λe=>h1 (List.length_eq_zero_iff.1 e)
 have ho:Jz ((0:Nat):Int) t=true:=by
  grind [Jz,Sz,LnF.pr,Edge.nZ,LnF.BN,Edge.trim]
 unfold An;rw[h.lines];grind [Ki,lnF,LnF.lines]
structure SG (L:List (Fld×qv)):Prop where
 ne:L≠[]
 len:L.length<=40
 fg: ∀y∈L,FG y
 pw:L.Pairwise λy z=>WA y.1.name z.1.name=false
theorem gU {l:List Pkg}(h:aZ l=0):l.length<=24/\ ∀p∈l,aS p=0:=by
 unfold aZ at h;split at h
 .cases h
 rename_i h1;split at h
 .omega
 rename_i h2;exact⟨by omega,λp hp=>im (by omega) _ (ack.2 ⟨p,hp,rfl⟩)⟩
theorem gk {l:List aA}(h:bJ l=0):l.length<=10/\ ∀x∈l,aS x.pkg=0:=by
 unfold bJ at h;split at h
 .cases h
 rename_i h1;split at h
 .omega
 rename_i h2;exact⟨by omega,λx hx=>im (acu.1 h2) _ (ack.2 ⟨x,hx,rfl⟩)⟩
def dU (repo:List Pkg)(s:List aA):List Pkg:=s.map (·.pkg)++repo.filter λp=>match cF s p.name with
 |none=>true
 |some x=>!bt x.pkg.ver p.ver
def c7 (repo:List Pkg)(s:List aA):List Pkg×Int:=
 if aZ repo≠0 then([],aZ repo)else if bJ s≠0 then([],bJ s)
 else if 24<(dU repo s).length\/10<(dA (dU repo s) []).length then([],12)else(cO (dU repo s),0)
theorem zA : ∀{s:List aA},k8 s=false->s.Pairwise λx y=>Op.bytesLess x.pkg.name y.pkg.name=true
 |[],_=>.nil
 |[x],_=>List.pairwise_singleton _ _
 |x::y::r,h=>by
  rw[k8,Bool.or_eq_false_iff,Bool.not_eq_false']at h;have ih:=zA h.2;grind [List.pairwise_cons,ew]
theorem gC {s:List aA}(h:bJ s=0):(s.map (·.pkg.name)).Nodup:=by
 have hd:k8 s=false:=by
  grind [bJ]
 rw[List.Nodup,List.pairwise_map];refine(zA hd).imp λ{x y} h e=>?_
 grind [eu]
theorem Jf {l m:List Pkg}(h:l.Perm m):(dA l []).length=(dA m []).length:=by
 grind [iM,acU,jo]
theorem oZ {l:List Pkg}(h1:l.length<=24)(h2: ∀p∈l,aS p=0)(h3:pJ l)(h4:(dA l []).length<=10):aZ l=0:=by
 unfold aZ;rw[if_neg (by omega),if_neg,if_neg,if_neg (by omega)]
 .rw[Bool.not_eq_true,qQ];exact⟨by simp,h3⟩
 grind [Ck]
theorem HC {l m:List Pkg}(h:l.Perm m)(hd:pJ l):pJ m:=h.pairwise hd λ{a b} h=>by grind [tF]
theorem Cz {repo:List Pkg}{s:List aA}(h:(c7 repo s).2=0):aZ (c7 repo s).1=0/\nR (c7 repo s).1/\(∀x∈s,x.pkg∈(c7 repo s).1)/\bJ s=0:=by
 unfold c7 at h ⊢;split at h
 .omega
 rename_i h1;rw[if_neg h1];split at h
 .omega
 rename_i h2;rw[if_neg h2];split at h
 .cases h
 rename_i h3;rw[if_neg h3];have h1:=acu.1 h1;have h2:=acu.1 h2;obtain⟨_,hr⟩:=gU h1;obtain⟨_,he⟩:=gk h2;obtain⟨hd,_⟩:=fD h1;have hnm:=gC h2;have hp:=ey (dU repo s);have hmay: ∀p∈dU repo s,aS p=0:=λp hp=>by
  grind [dU]
 have hnd:pJ (dU repo s):=by
  refine List.pairwise_append.2 ⟨?_,acm aco hd,λp hp q hq=>?_⟩
  .grind [dE]
  .obtain⟨x,hx,rfl⟩:=ack.1 hp;grind [dE,mi]
 have hv:zk (dU repo s):=λp hp=>by
  grind [dz,ux.ver]
 refine⟨oZ (by rw[hp.length_eq];omega) (λp hpm=>hmay p (hp.subset hpm)) (HC hp.symm hnd) (by grind [Jf]),kp hv,λx hx=>hp.symm.subset ?_,h2⟩;grind [dU]
theorem ER {k:Nat}{t:List Nat}(hs:t.Pairwise (· < ·))(hk: ∀i∈t,i<k):bg k (bZ t)=t:=by
 have h2:(bg k (bZ t)).Pairwise (· < ·):=acm aco List.pairwise_lt_range;grind [acv,List.perm_ext_iff_of_nodup,acG,c9,dd]
def Ao (S:Nat):Nat:=lG (bg 32 S)
def ltB (x y:List Nat×Nat):Bool:=lexB x.1 y.1||(x.1==y.1&&decide (Ao y.2<Ao x.2))
def Bf (all:List Pkg)(s:List aA)(l:List aM)(up:Bool):List (List Nat×Nat):=(pG (fc all s l) (aV all s l) 0 0).map λS=>(kH all s S up,S)
def nL (all:List Pkg)(s:List aA)(l:List aM)(up:Bool):List (List Nat×List Nat):=
 WB (((eL all (all.length+1) 0 []).filter λt=>iz l (atL all t) s).map λt=>(uY all s (atL all t) up,t))
def toB (x:List Nat×List Nat):List Nat×Nat:=(x.1,bZ x.2)
theorem ma (up:Bool)(a b c d e:Nat):(Dz up a b c d e).length=5:=by
 unfold Dz;split<;>rfl
theorem tV {all:List Pkg}{t:List Nat}(h:t∈eL all (all.length+1) 0 []):t∈dq (dY all (all.length+1) 0):=by
 grind [gH]
theorem N5 {all:List Pkg}(hc:oN all){t:List Nat}(ht:t∈dq (dY all (all.length+1) 0)):t.Pairwise (· < ·)/\ ∀i∈t,i<all.length:=by
 obtain⟨r1,_,_⟩:=lz hc (f:=all.length+1) (i:=0) (by omega) (by omega) (λj p q hj=>by omega);grind [uP,mw,fE,cb]
theorem KP {all:List Pkg}: ∀{f i:Nat},∀g∈dY all f i,i<=all.length->g≠[]
 |0,i,g,hg,_=>by cases hg
 |f+1,i,g,hg,hi=>by
  rw[dY]at hg;by_cases h:i=all.length
  .simp_all
  .rw[if_neg h]at hg;obtain⟨p,hp⟩:=get_some (show i<all.length by omega);obtain⟨b1,b2⟩:=eD hp;rcases acQ.1 hg with rfl|hg
   .grind
   .exact KP g hg b2
theorem tK : ∀{gs:List (List Nat)},s9 gs->(∀g∈gs,g.Nodup)->(dq gs).Nodup
 |[],_,_=>by simp[dq]
 |g::r,ha,hn=>by
  have ih:=tK ha.2 λh hh=>hn h (by simp[hh])
  rw[dq,List.nodup_append];refine⟨?_,ih,λt ht u hu e=>?_⟩
  .have: ∀l:List Nat,l.Nodup->(l.flatMap λi=>(dq r).map (i:: ·)).Nodup:=λl=>by
    grind
   simp_all
  .obtain⟨i,hi,ht⟩:=List.mem_flatMap.1 ht;obtain⟨a,_,rfl⟩:=ack.1 ht;rw[<-e]at hu;obtain⟨h,hh,hih⟩:=fE hu i (by simp);exact ha.1 i hi h hh hih
theorem yM {all:List Pkg}(hc:oN all)(q:List Nat->Bool):((eL all (all.length+1) 0 []).filter q).Nodup:=by
 obtain⟨_,_,r3⟩:=lz hc (f:=all.length+1) (i:=0) (by omega) (by omega) (λj p q hj=>by omega);obtain⟨_,k2⟩:=uP hc (f:=all.length+1) (i:=0) (by omega) (by omega) (λj p q hj=>by omega);rw[gH (by omega)];refine acm aco (acm aco ?_);grind [tK,acG]
theorem Pa {all:List Pkg}{s:List aA}{l:List aM}(hc:oN all)(up:Bool):(nL all s l up).Perm (((eL all (all.length+1) 0 []).filter λt=>iz l (atL all t) s).map λt=>(uY all s (atL all t) up,t))/\(nL all s l up).Pairwise λa b=>ltP a b=true:=
 FE (k:=5) (o:=[]) (by
  grind [yM]) (λy hy=>by
  rw[acK]at hy;obtain⟨t,_,rfl⟩:=ack.1 hy;exact ma _ _ _ _ _ _) .nil
theorem Ih {all:List Pkg}{s:List aA}{l:List aM}(h24:all.length<=24)(hm: ∀p∈all,aS p=0)(hc:oN all)(hU:Uni all s l)(hnv:dR all s l=false)(up:Bool){o:List (List Nat×Nat)}(hp:o.Perm (Bf all s l up))(hs:o.Pairwise λx y=>ltB y x=false):
  o=(nL all s l up).map toB:=by
 obtain⟨b1,b2⟩:=Pa (s:=s) (l:=l) hc up;generalize hW:(eL all (all.length+1) 0 []).filter (λt=>iz l (atL all t) s)=W at b1;have hWp: ∀t∈W,t∈dq (dY all (all.length+1) 0):=λt ht=>by
  grind [tV]
 have hinc: ∀t∈W,t.Pairwise (· < ·)/\ ∀i∈t,i<32:=λt ht=>by
  grind [N5]
 have hmem: ∀x∈nL all s l up,x.2∈W/\x.1.length=5:=λx hx=>by
  obtain⟨t,ht,rfl⟩:=ack.1 (b1.subset hx);exact⟨ht,ma _ _ _ _ _ _⟩
 have hturn: ∀t∈W,Ao (bZ t)=lG t:=λt ht=>by
  grind [Ao,ER]
 have hlt: ∀x∈nL all s l up,∀y∈nL all s l up,ltB (toB x) (toB y)=ltP x y:=λx hx y hy=>by
  grind [ltB,ltP,toB,wi]
 have hperm:o.Perm ((nL all s l up).map toB):=by
  refine hp.trans ?_;have h1:=(EV hm hc hU hnv).map λS=>(kH all s S up,S)
  rw[hW]at h1;refine h1.trans (List.Perm.trans (acV ?_) (b1.map toB).symm);rw[acT,acT];refine List.map_congr_left λt ht=>?_
  show(kH all s (bZ t) up,bZ t)=(uY all s (atL all t) up,bZ t);grind [TM]
 have hs2:((nL all s l up).map toB).Pairwise λx y=>ltB y x=false:=by
  grind [acR,Aw,Vt]
 refine acv (le:=λx y=>ltB y x=false) (λx y hx hy h1 h2=>?_) hs hs2 hperm;grind [Kw]
end Go.Av
end
section
namespace Go.Av
theorem ia (a b:Nat)(ha:a<4294967296)(hb:b<4294967296):bits .and .u32 (a:Int) (b:Int)=((a &&& b:Nat):Int):=by
 have h1:(BitVec.ofInt 32 (a:Int)).toNat=a:=by simp_all
 have h2:(BitVec.ofInt 32 (b:Int)).toNat=b:=by simp_all
 show IntKind.u32.wrap ((BitVec.ofInt 32 (a:Int) &&& BitVec.ofInt 32 (b:Int)).toNat:Int)=_;have hlt:=(BitVec.ofInt 32 (a:Int) &&& BitVec.ofInt 32 (b:Int)).isLt;grind [IntKind.wrap_u32]
theorem jN (a b:Nat)(ha:a<4294967296)(hb:b<4294967296):bits .or .u32 (a:Int) (b:Int)=((a ||| b:Nat):Int):=by
 have h1:(BitVec.ofInt 32 (a:Int)).toNat=a:=by simp_all
 have h2:(BitVec.ofInt 32 (b:Int)).toNat=b:=by simp_all
 show IntKind.u32.wrap ((BitVec.ofInt 32 (a:Int) ||| BitVec.ofInt 32 (b:Int)).toNat:Int)=_;have hlt:=(BitVec.ofInt 32 (a:Int) ||| BitVec.ofInt 32 (b:Int)).isLt;grind [IntKind.wrap_u32]
def bX (m k x:Nat):Nat:=((x >>> k) &&& m) ||| (((x &&& m) <<< k) % 4294967296)
theorem mh {m k x:Nat}(hm:m<4294967296):bX m k x<4294967296:=
 acH (n:=32) (Nat.lt_of_le_of_lt Nat.and_le_right hm) (acO _ (by decide))
theorem Om (m k x i:Nat)(hi:i<32):(bX m k x).testBit i=((x.testBit (k+i)&&m.testBit i)||(decide (k<=i)&&(x.testBit (i-k)&&m.testBit (i-k)))):=by
 unfold bX;rw[acP,acL,acz,show 4294967296=2^32 from rfl,acw,acC,acL];simp[hi]
def jG (x:Nat):Nat:=
 let a:=bX 16711935 8 (bX 252645135 4 (bX 858993459 2 (bX 1431655765 1 x)))
 (a >>> 16) ||| ((a <<< 16) % 4294967296)
theorem TG (x:Nat):jG x<4294967296:=
 acH (n:=32) (by
  grind [Nat.shiftRight_eq_div_pow,mh]) (acO _ (by decide))
theorem aaK : ∀i,i<32->Nat.testBit 1431655765 i=decide (i % 2=0):=by decide
theorem abc : ∀i,i<32->Nat.testBit 858993459 i=decide (i % 4<2):=by decide
theorem aa2 : ∀i,i<32->Nat.testBit 252645135 i=decide (i % 8<4):=by decide
theorem ZQ : ∀i,i<32->Nat.testBit 16711935 i=decide (i % 16<8):=by decide
theorem rn {m k:Nat}(hk:0<k)(hm: ∀i,i<32->m.testBit i=decide (i % (2*k)<k))(x i:Nat)(hi:i<32):
  (bX m k x).testBit i=x.testBit (if i % (2*k)<k then i+k else i-k):=by
 rw[Om m k x i hi,hm i hi];by_cases h:i % (2*k)<k
 .by_cases h2:k<=i
  .have h3: ¬(i-k) % (2*k)<k:=by
    have hd:=acM i (2*k);have hq:i / (2*k)≠0:=by
     grind
    obtain⟨q,hq⟩:=Nat.exists_eq_succ_of_ne_zero hq;have e:i-k=2*k*q+(i % (2*k)+k):=by
     grind [Nat.mul_succ]
    rw[e,acN,acx (by omega)];omega
   grind
  grind
 .have h2:k<=i:=by
   rcases Nat.lt_or_ge i k with g|g
   .rw[acx (by omega)]at h;omega
   .exact g
  have h3:(i-k) % (2*k)<k:=by
   have hd:=acM i (2*k);have hl:=acO i (show 0<2*k by omega);have e:i-k=2*k*(i / (2*k))+(i % (2*k)-k):=by omega
   rw[e,acN,acx (by omega)];omega
  grind
theorem Rc (x:Nat): ∀i,i<32->(jG x).testBit i=x.testBit (31-i):=by
 intro i hi;have s1:=rn (m:=1431655765) (k:=1) (by decide) (λi hi=>by grind [aaK]) x;have s2:=rn (m:=858993459) (k:=2) (by decide) abc (bX 1431655765 1 x);have s4:=rn (m:=252645135) (k:=4) (by decide) aa2 (bX 858993459 2 (bX 1431655765 1 x));have s8:=rn (m:=16711935) (k:=8) (by decide) ZQ (bX 252645135 4 (bX 858993459 2 (bX 1431655765 1 x)));have hA:=mh (m:=16711935) (k:=8) (x:=bX 252645135 4 (bX 858993459 2 (bX 1431655765 1 x))) (by decide);have hB:(jG x).testBit i=(bX 16711935 8 (bX 252645135 4 (bX 858993459 2 (bX 1431655765 1 x)))).testBit (if i<16 then i+16 else i-16):=by
  unfold jG;simp only;generalize bX 16711935 8 (bX 252645135 4 (bX 858993459 2 (bX 1431655765 1 x)))=a at hA;rw[acP,acz,show 4294967296=2^32 from rfl,acw,acC];by_cases h:i<16
  .have: ¬16<=i:=by omega
   simp[h,hi,this,Nat.add_comm]
  .have h16:16<=i:=by omega
   have:a.testBit (16+i)=false:=acA (acr hA (show 2^32<=2^(16+i)from acE (n:=2) (by decide) (by omega)));simp[h,hi,h16,this]
 rw[hB,s8 _ (by split<;>omega),s4 _ (by split<;>split<;>omega),s2 _ (by split<;>split<;>split<;>omega),s1 _ (by split<;>split<;>split<;>split<;>omega)];congr 1;clear s1 s2 s4 s8 hA hB;grind
theorem NF {x:Nat}(hx:x<4294967296):Ao x=jG x:=by
 apply Nat.eq_of_testBit_eq;intro i;unfold Ao lG;rw[dd];by_cases hi:i<32
 .rw[Rc x i hi];apply Bool.eq_iff_iff.2;simp only[decide_eq_true_eq,ack];refine⟨λ⟨j,hj,e⟩=>?_,λh=>⟨31-i,c9.2 ⟨by omega,h⟩,by omega⟩⟩;grind [c9]
 .rw[acA (acr (TG x) (show 2^32<=2^i from acE (n:=2) (by decide) (by omega)))];grind
end Go.Av
end
