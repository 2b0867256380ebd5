/- What the last text of this claim rests on. No conditions. -/
import Derived.WalkKit
import Derived.Lib.SliceRun
import Derived.Test.YtbkobngljnnmgaaGreatDoorWah
import Derived.Test.YtbkobngljnnmgaaGreatDoorWak
import Derived.Test.YtbkobngljnnmgaaGreatDoorWal
import Derived.Test.YtbkobngljnnmgaaGreatDoorWam
import Derived.Test.YtbkobngljnnmgaaGreatDoorWan
import Derived.Test.YtbkobngljnnmgaaGreatDoorWap
import Derived.Test.YtbkobngljnnmgaaGreatDoorWaq
import Derived.Test.YtbkobngljnnmgaaGreatDoorWar
set_option linter.unusedSimpArgs false
set_option linter.unusedVariables false
open List renaming length_map->acG,drop_eq_getElem_cons->acH,take_of_length_le->acJ,mem_cons_self->acK,mem_map->acL,getElem?_eq_some_iff->acN,filter_sublist->acO,map_nil->acP,mem_of_getElem?->acQ,getElem?_append_left->acS,drop_eq_nil_of_le->acX,length_nil->ac0,map_cons->ac4,getElem_map->ac7,any_eq_true->ac8,nil_append->ac9,mem_cons->adh,map_map->adk
open Nat renaming zero_le->acI,lt_of_lt_of_le->acR,testBit_mod_two_pow->acV,mod_eq_of_lt->acW,testBit_shiftRight->acY,testBit_lt_two_pow->acZ,testBit_shiftLeft->ac1,le_refl->ac2,pow_le_pow_right->ac3,or_lt_two_pow->ac6,testBit_and->ada,div_add_mod->adb,mul_add_mod->ade,mod_lt->adf,testBit_or->adg,le_trans->adj
open List.Pairwise renaming sublist->acM,imp->ac5,imp_of_mem->adi
open Classical renaming not_not->acT
open List.Perm renaming eq_of_pairwise->acU,length_eq->adl,of_eq->adm
section
namespace Go.Av
def td (st:ab)(v:AV)(e:TypeId)(xs:List AV):Prop:=v= .sl e xs\/ ∃id,v= .row e id 0 xs.length/\st[id]?=some (some (.cells e xs))
section
variable {σ st:ab}{v:AV}{e:TypeId}{xs:List AV}
theorem td.notM (h:td st v e xs):dm v:=by
 rcases h with rfl|⟨_,rfl,_⟩<;>trivial
theorem td.ok (h:td st v e xs)(g:Option Bool):okM g v=True:=ct h.notM
theorem td.un (h:td st v e xs):unm v=v:=da h.notM
theorem td.len (h:td st v e xs):oA v= .int .i64 xs.length:=by
 rcases h with rfl|⟨_,rfl,_⟩<;>rfl
theorem td.ext (h:td σ v e xs)(hx:Ext σ st):td st v e xs:=by
 rcases h with h|⟨id,h1,h2⟩
 .exact .inl h
 .exact .inr ⟨id,h1,by rw[(Fr.ext (F:=[]) hx).old id (acN.1 h2).1 (by simp)];exact h2⟩
theorem td.fR (h:td st v e xs)(P:Program)(t:TypeId):fR P t v=((elT P t).isSome=true):=by
 rcases h with rfl|⟨_,rfl,_⟩<;>rfl
end
end Go.Av
end
section
namespace Go.Proofs.Tryz
open Go Go.Av
set_option maxRecDepth 10000
variable {W0 :World}
end Go.Proofs.Tryz
end
section
namespace Go.Av
structure pI (rid:Nat)(σ σ':ab):Prop where
 len:σ.length<=σ'.length
 old: ∀j,j<σ.length->j≠rid->σ'[j]?=σ[j]?
theorem pI.refl (b:Nat)(σ:ab):pI b σ σ:=⟨ac2 _,λ_ _ _=>rfl⟩
theorem pI.trans {b:Nat}{σ σ' σ'':ab}(h:pI b σ σ')(k:pI b σ' σ''):pI b σ σ'':=⟨adj h.len k.len,λj hj hn=>(k.old j (acR hj h.len) hn).trans (h.old j hj hn)⟩
theorem pI.set {b:Nat}{σ σ':ab}(h:pI b σ σ')(o:Option bJ):pI b σ (σ'.set b o):=⟨by simpa using h.len,λj hj hn=>by grind [pI.old]⟩
theorem pI.app {b:Nat}{σ σ':ab}(h:pI b σ σ')(l:ab):pI b σ (σ'++l):=⟨by have:=h.len;grind,λj hj hn=>by grind [acS,pI.old]⟩
theorem pI.ext {b:Nat}{σ τ σ':ab}(h:pI b τ σ')(k:Ext σ τ)(hb:σ.length<=b):Ext σ σ':=by
 refine List.ext_getElem? λj=>?_
 rw[List.getElem?_take];split
 .rename_i hj;rw[h.old j (by have:=k.le;omega) (by omega),k.eq,acS hj]
 simp_all
theorem uP (u v:AV):oJ true u v=u:=by
 unfold oJ oq;cases u<;>cases v<;>rfl
end Go.Av
end
section
namespace Go.Proofs.Tryz
open Go Go.Av
set_option maxRecDepth 10000
variable {W0 :World}
def nlz (e:TypeId)(xs:List AV):AV:=match xs with
 |[]=>.ar
 |x::r=>.sl e (x::r)
theorem CY {e:TypeId}{xs:List AV}(h:aX 0 (.sl e xs)):aX 0 (nlz e xs):=by
 cases xs with
 |nil=>exact .ar
 |cons x r=>exact h
def XN (l:List Clause):AV:=nlz 77 (l.map aF)
def S6 (l:List Atom):AV:=nlz 76 (l.map aV)
def XE (l:List jx):AV:=nlz 179 (l.map dJ)
end Go.Proofs.Tryz
end
section
namespace Go.Av
def hd0 :List UInt8->UInt8
 |[]=>0
 |c::_=>c
end Go.Av
end
section
namespace Go.Proofs.Tryz
open Go Go.Av
set_option maxRecDepth 10000
variable {W0 :World}
end Go.Proofs.Tryz
end
section
namespace Go.Proofs.Tryz
open Go Go.Av
end Go.Proofs.Tryz
end
section
namespace Go.Proofs.Tryz
open Go Go.Av
set_option maxRecDepth 10000
variable {W0 :World}
theorem Ry (l:List Atom)(hl:l.length<=1048576):ai prog W0 201 [nlz 76 (l.map aV)] (nlz 76 (l.map aV)):=by
 refine ak [2] [] func201 rfl rfl ntmps201 rfl rfl (CY (jm rM l)) λhs σ=>?_
 cases l with
 |nil=>
  simp only[go_sem,simprocAttr,acP,nlz]
 |cons x c=>
  simp only[go_sem,simprocAttr,ac4,nlz];refine bA.own 1048576 (by kernel_rfl) (.inr (.inl rfl)) (.sl _ _ _) (by simpa using hl) λv' σ' ha'=>?_
  have hb':=(aM.app (σ:=σ) ⟨.inr (.inl rfl),.refl _,λt h=>by cases h⟩ ha');simp only[go_sem,simprocAttr,hb'.ok,hb'.un];exact⟨hb'.cb,hb'.ext⟩
theorem QU (l:List jx)(hl:l.length<=1048576):ai prog W0 202 [nlz 179 (l.map dJ)] (nlz 179 (l.map dJ)):=by
 refine ak [2] [] func202 rfl rfl ntmps202 rfl rfl (CY (jm vw l)) λhs σ=>?_
 cases l with
 |nil=>
  simp only[go_sem,simprocAttr,acP,nlz]
 |cons x c=>
  simp only[go_sem,simprocAttr,ac4,nlz];refine bA.own 1048576 (by kernel_rfl) (.inr (.inl rfl)) (.sl _ _ _) (by simpa using hl) λv' σ' ha'=>?_
  have hb':=(aM.app (σ:=σ) ⟨.inr (.inl rfl),.refl _,λt h=>by cases h⟩ ha');simp only[go_sem,simprocAttr,hb'.ok,hb'.un];exact⟨hb'.cb,hb'.ext⟩
theorem Pc (l:List Atom)(hl:l.length<=1048576):ai prog W0 200 [nlz 76 (l.map aV)] (nlz 76 (l.map aV)):=by
 refine ak [2] [] func200 rfl rfl ntmps200 rfl rfl (CY (jm rM l)) λhs σ=>?_
 cases l with
 |nil=>
  simp only[go_sem,simprocAttr,acP,nlz]
 |cons x c=>
  simp only[go_sem,simprocAttr,ac4,nlz];refine bA.own 1048576 (by kernel_rfl) (.inr (.inl rfl)) (.sl _ _ _) (by simpa using hl) λv' σ' ha'=>?_
  have hb':=(aM.app (σ:=σ) ⟨.inr (.inl rfl),.refl _,λt h=>by cases h⟩ ha');simp only[go_sem,simprocAttr,hb'.ok,hb'.un];exact⟨hb'.cb,hb'.ext⟩
def aaZ (p:Pkg):AV:=.agg 51 [.str p.name,.str p.ver,XN p.pre,XN p.dep,XN p.rcm,S6 p.con,S6 p.brk,XE p.eN,.bool p.ess]
def acp (x:aB):AV:=.agg 53 [aaZ x.pkg,.bool x.ku,.bool x.hold]
end Go.Proofs.Tryz
end
section
namespace Go.Av
theorem Qh {α:Type}{g:α->Nat}: ∀{l:List α} {a:α},a∈l->g a<=(l.map g).sum
 |b::l,a,h=>by
  rcases adh.1 h with rfl|h
  .simp
  .have:=Qh (g:=g) h;grind
theorem RB {α:Type}{g h:α->Nat}(hg: ∀a,g a<=h a): ∀l:List α,(l.map g).sum<=(l.map h).sum
 |[]=>by simp
 |a::l=>by
  have:=RB hg l;grind
structure XV (s:Stz):Prop where
 ln: -9223372036854775808<=s.line
 fl:s.fields.length<=1048576
 sz:(s.fields.map λf=>f.lines.length).sum<=1048574
 fd: ∀f∈s.fields,Ep f.lines+f.lines.length<=140737488355328/\(Xb f.name=7\/(oY f.lines).length<=1048574)
end Go.Av
end
section
namespace Go.Proofs.Tryz
open Go Go.Av
set_option maxRecDepth 10000
variable {W0 :World}
end Go.Proofs.Tryz
end
section
namespace Go.Av
structure Qt (s:Stz):Prop where
 ln: -9223372036854775808<=s.line
 fl:s.fields.length<=1048576
 sz:(s.fields.map λf=>Ep f.lines+f.lines.length).sum<=1048574
theorem Qt.wide {s:Stz}(h:Qt s):XV s:=by
 have hs:=RB (g:=λf:Fld=>f.lines.length) (h:=λf:Fld=>Ep f.lines+f.lines.length) (λf=>by omega) s.fields;refine⟨h.ln,h.fl,adj hs h.sz,λf hf=>?_⟩;grind [Qh,Qt.sz,O0]
end Go.Av
end
section
namespace Go.Proofs.Tryz
open Go Go.Av
set_option maxRecDepth 10000
variable {W0 :World}
theorem PK (p:Pkg):Sub (aaZ p) (ax p):=.agg rfl λi a b ha hb=>by
 have nz: ∀(e:TypeId) (xs:List AV),Sub (nlz e xs) (.sl e xs):=λe xs=>by
  cases xs with
  |nil=>exact .ar _
  |cons x r=>exact .refl _
 match i,ha,hb with
 |0,ha,hb|1,ha,hb|8,ha,hb=>cases ha;cases hb;exact .refl _
 |2,ha,hb|3,ha,hb|4,ha,hb|5,ha,hb|6,ha,hb|7,ha,hb=>cases ha;cases hb;exact nz _ _
def bg (x:aB):AV:=.agg 53 [ax x.pkg,.bool x.ku,.bool x.hold]
def aK (l:List aB):AV:=.sl 53 (l.map bg)
theorem qh (l:List aB)(hp: ∀x∈l,iM x.pkg):ai prog W0 74 [aK l] (.int .i64 (br l)):=by
 refine ak [2] [4] func74 rfl rfl ntmps74 rfl rfl (.int _ _) λhs σ=>?_
 have hl:=(aL (hs _ (acK ..))).1;simp only[go_sem,simprocAttr,aK,acG];refine⟨λh=>az (by grind [br]),λh=>?_⟩;have h10: ¬10<l.length:=λe=>by omega
 refine ae.at [0] (λA=>Ext σ A.st/\orL (l.map λx=>aT x.pkg)=0) ?_ λB ⟨hst,h6⟩=>?_
 .refine ae.upto [0,10,11] l.length (λi A=>A.env 12= .int .i64 i/\Ext σ A.st/\orL ((l.map λx=>aT x.pkg).drop i)=orL (l.map λx=>aT x.pkg)) 0 (acI _) ?_ λi B hi ⟨h8,hst,hI⟩=>?_
  .simp only[go_sem,simprocAttr];simp[Ext.refl]
  simp only[go_sem,simprocAttr,h8,acG];refine⟨λhc=>⟨hc,?_⟩,λhc=>?_⟩
  .obtain⟨a,ha⟩:=get_some hc;obtain⟨hlt,hae⟩:=acN.1 ha;rw[acH (by simp_all),ac7,hae]at hI;simp only[aw ha];simp only[go_sem,simprocAttr,bg];refine aj.fn (QT a.pkg (hp a (acQ ha))) ?_;simp only[go_sem,simprocAttr,h8];refine⟨λhq=>⟨az ?_,hst.app _⟩,λhq=>⟨hc,ag hc hl,hst.app _,?_⟩⟩
   .grind [orL,br]
   grind [orL]
  .rw[acX (by simp_all)]at hI;exact⟨hst,hI.symm⟩
 have hm:br l=if kh l=true then 4 else 0:=by grind [br]
 simp only[go_sem,simprocAttr];refine ae.upto [0] (max 1 l.length) (λi A=>A.env 6= .int .i64 i/\1<=i/\Ext σ A.st/\kh (l.drop (i-1))=kh l) 1 (Nat.le_max_left _ _) ?_ λi A hi ⟨h6',h1,hst',hI⟩=>?_
 .simp only[go_sem,simprocAttr];exact hst
 simp only[go_sem,simprocAttr,h6',acG];refine⟨λhc=>?_,λhc=>?_⟩
 .have hc':i<l.length:=by omega
  obtain⟨j,rfl⟩: ∃j,i=j+1:=⟨i-1,by omega⟩;obtain⟨a,ha⟩:=get_some (show j<l.length by omega);obtain⟨b,hb⟩:=get_some hc';have hw:IntKind.i64.wrap (((j+1:Nat):Int)-1)=(j:Nat):=by grind [aG]
  simp only[hw];simp only[go_sem,simprocAttr,aw ha,aw hb,bg,ax];have hd:l.drop j=a::l.drop (j+1):=by grind [acH]
  have hd1:l.drop (j+1)=b::l.drop (j+1+1):=by grind [acH]
  have hI':kh (l.drop j)=kh l:=hI;rw[hd,hd1,kh,<-hd1]at hI';refine⟨.of (by kernel_rfl),by omega,hc',λhq=>⟨az ?_,hst'⟩,λhq=>⟨by omega,ag hc' hl,hst',?_⟩⟩
  .simp_all
  simp_all
 .have hn:kh l=false:=by
   rw[<-hI];have hlen:(l.drop (i-1)).length<=1:=by simp_all
   generalize l.drop (i-1)=r at hlen
   match r,hlen with
   |[],_=>rfl
   |[x],_=>rfl
  exact⟨az (by simp_all),hst'⟩
theorem Ka (l:List aB):ai prog W0 55 [aK l] (.int .i64 (br l)):=by
 refine ak [2] [4] func55 rfl rfl ntmps55 rfl rfl (.int _ _) λhs σ=>?_
 have hl:=(aL (hs _ (acK ..))).1;simp only[go_sem,simprocAttr,aK,acG];refine⟨λh=>az (by grind [br]),λh=>?_⟩;have h10: ¬10<l.length:=λe=>by omega
 refine ae.at [0] (λA=>Ext σ A.st/\orL (l.map λx=>aT x.pkg)=0) ?_ λB ⟨hst,h6⟩=>?_
 .refine ae.upto [0,10,11] l.length (λi A=>A.env 12= .int .i64 i/\Ext σ A.st/\orL ((l.map λx=>aT x.pkg).drop i)=orL (l.map λx=>aT x.pkg)) 0 (acI _) ?_ λi B hi ⟨h8,hst,hI⟩=>?_
  .simp only[go_sem,simprocAttr];simp[Ext.refl]
  simp only[go_sem,simprocAttr,h8,acG];refine⟨λhc=>⟨hc,?_⟩,λhc=>?_⟩
  .obtain⟨a,ha⟩:=get_some hc;obtain⟨hlt,hae⟩:=acN.1 ha;rw[acH (by simp_all),ac7,hae]at hI;simp only[aw ha];simp only[go_sem,simprocAttr,bg];refine aj.fn (H4 a.pkg) ?_;simp only[go_sem,simprocAttr,h8];refine⟨λhq=>⟨az ?_,hst.app _⟩,λhq=>⟨hc,ag hc hl,hst.app _,?_⟩⟩
   .grind [orL,br]
   grind [orL]
  .rw[acX (by simp_all)]at hI;exact⟨hst,hI.symm⟩
 have hm:br l=if kh l=true then 4 else 0:=by grind [br]
 simp only[go_sem,simprocAttr,acG];refine ae.upto [0,24] l.length (λi A=>A.env 25= .int .i64 i/\Ext σ A.st/\kh (l.drop (i-1))=kh l) 0 (acI _) ?_ λi A hi ⟨h6',hst',hI⟩=>?_
 .simp only[go_sem,simprocAttr];exact hst
 simp only[go_sem,simprocAttr,h6',acG];refine⟨λhc=>?_,λhc=>?_⟩
 .cases i with
  |zero=>
   simp only[go_sem,simprocAttr,j8];exact⟨.of (by kernel_rfl),hc,hst'⟩
  |succ j=>
   obtain⟨a,ha⟩:=get_some (show j<l.length by omega);obtain⟨b,hb⟩:=get_some hc;have hw:IntKind.i64.wrap (((j+1:Nat):Int)-1)=(j:Nat):=by grind [aG]
   have hgt:decide ((0:Int)<((j+1:Nat):Int))=true:=decide_eq_true (by omega);simp only[hw,hgt];simp only[go_sem,simprocAttr,aw ha,aw hb,bg,ax];have hd:l.drop j=a::l.drop (j+1):=by grind [acH]
   have hd1:l.drop (j+1)=b::l.drop (j+1+1):=by grind [acH]
   have hI':kh (l.drop j)=kh l:=hI;rw[hd,hd1,kh,<-hd1]at hI';refine⟨.of (by kernel_rfl),λ_=>by omega,λ_=>hc,λhq=>⟨az ?_,hst'⟩,λhq=>⟨hc,ag hc hl,hst',?_⟩⟩
   .simp_all
   simp_all
 .have hn:kh l=false:=by
   rw[<-hI];have hlen:(l.drop (i-1)).length<=1:=by grind
   generalize l.drop (i-1)=r at hlen
   match r,hlen with
   |[],_=>rfl
   |[x],_=>rfl
  exact⟨az (by simp_all),hst'⟩
theorem Q0 (x:aB):Sub (acp x) (bg x):=.agg rfl λi a b ha hb=>by
 match i,ha,hb with
 |0,ha,hb=>grind [PK]
 |1,ha,hb|2,ha,hb=>cases ha;cases hb;exact .refl _
theorem Bk (x:aB):aX 0 (bg x):=.agg λy hy=>by
 simp at hy;rcases hy with rfl|rfl|rfl
 .exact rB _
 .exact .bool _
 .exact .bool _
theorem qI (l:List aB):aX 0 (aK l):=jm Bk l
theorem Eg (a b:List Atom):ai prog W0 133 [aF a,aF b] (.bool (decide (a=b))):=by
 refine ak [4] [] func133 rfl rfl ntmps133 rfl rfl (.bool _) λhs σ=>?_
 have hl:=(aL (hs _ (acK ..))).1;simp only[go_sem,simprocAttr,aF,acG];refine⟨λh=>au (decide_eq_false λe=>h (by rw[e])).symm,λh=>?_⟩;have hab:a.length=b.length:=by omega
 refine ae.upto [0,1,12] a.length (λi A=>A.env 13= .int .i64 i/\A.st=σ/\a.take i=b.take i) 0 (acI _) ?_ λi B hi ⟨h13,hst,hI⟩=>?_
 .simp only[go_sem,simprocAttr];simp
 simp only[go_sem,simprocAttr,h13,hst,acG];refine⟨λhc=>?_,λhc=>au ?_⟩
 .obtain⟨x,hx⟩:=get_some hc;obtain⟨y,hy⟩:=get_some (show i<b.length by omega);simp only[go_sem,simprocAttr,h13,hst,acG,aw hx,aw hy];exact⟨.of (by kernel_rfl),hc,by omega,λhne=>au (decide_eq_false (sK hx hy hne)).symm,λe=>⟨hc,ag hc hl,kc hI hx (e▸hy)⟩⟩
 .rw[acJ hc,acJ (by omega)]at hI;exact(decide_eq_true hI).symm
theorem wF (a b:List Atom):ai prog W0 134 [aF a,aF b] (.bool (decide (a=b))):=by
 refine ak [4] [] func134 rfl rfl ntmps134 rfl rfl (.bool _) λhs σ=>?_
 have hl:=(aL (hs _ (acK ..))).1;simp only[go_sem,simprocAttr,aF,acG];refine⟨λh=>au (decide_eq_false λe=>h (by rw[e])).symm,λh=>?_⟩;have hab:a.length=b.length:=by omega
 refine ae.upto [0,1,12] a.length (λi A=>A.env 13= .int .i64 i/\A.st=σ/\a.take i=b.take i) 0 (acI _) ?_ λi B hi ⟨h13,hst,hI⟩=>?_
 .simp only[go_sem,simprocAttr];simp
 simp only[go_sem,simprocAttr,h13,hst,acG];refine⟨λhc=>?_,λhc=>au ?_⟩
 .obtain⟨x,hx⟩:=get_some hc;obtain⟨y,hy⟩:=get_some (show i<b.length by omega);simp only[go_sem,simprocAttr,h13,hst,acG,aw hx,aw hy];exact⟨.of (by kernel_rfl),hc,by omega,λhne=>au (decide_eq_false (sK hx hy hne)).symm,λe=>⟨hc,ag hc hl,kc hI hx (e▸hy)⟩⟩
 .rw[acJ hc,acJ (by omega)]at hI;exact(decide_eq_true hI).symm
theorem I7 (a b:List jx):ai prog W0 135 [cG a,cG b] (.bool (decide (a=b))):=by
 refine ak [4] [] func135 rfl rfl ntmps135 rfl rfl (.bool _) λhs σ=>?_
 have hl:=(aL (hs _ (acK ..))).1;simp only[go_sem,simprocAttr,cG,acG];refine⟨λh=>au (decide_eq_false λe=>h (by rw[e])).symm,λh=>?_⟩;have hab:a.length=b.length:=by omega
 refine ae.upto [0,1,12] a.length (λi A=>A.env 13= .int .i64 i/\A.st=σ/\a.take i=b.take i) 0 (acI _) ?_ λi B hi ⟨h13,hst,hI⟩=>?_
 .simp only[go_sem,simprocAttr];simp
 simp only[go_sem,simprocAttr,h13,hst,acG];refine⟨λhc=>?_,λhc=>au ?_⟩
 .obtain⟨x,hx⟩:=get_some hc;obtain⟨y,hy⟩:=get_some (show i<b.length by omega);simp only[go_sem,simprocAttr,h13,hst,acG,aw hx,aw hy];exact⟨.of (by kernel_rfl),hc,by omega,λhne=>au (decide_eq_false (sK hx hy hne)).symm,λe=>⟨hc,ag hc hl,kc hI hx (e▸hy)⟩⟩
 .rw[acJ hc,acJ (by omega)]at hI;exact(decide_eq_true hI).symm
theorem Mt (a b:List Atom):ai prog W0 132 [aF a,aF b] (.bool (decide (a=b))):=by
 refine ak [4] [] func132 rfl rfl ntmps132 rfl rfl (.bool _) λhs σ=>?_
 simp only[go_sem,simprocAttr,aF];refine aj.fn (Eg a b) ?_;simp only[go_sem,simprocAttr]
theorem Ov (a b:List Clause)(g:FuncId)(h: ∀c∈a,∀d∈b,ai prog W0 g [aF c,aF d] (.bool (decide (c=d)))):ai prog W0 131 [aA a,aA b,.fn g []] (.bool (decide (a=b))):=by
 refine ak [6] [] func131 rfl rfl ntmps131 rfl rfl (.bool _) λhs σ=>?_
 have hl:=(aL (hs _ (acK ..))).1;simp only[go_sem,simprocAttr,aA,acG];refine⟨λh=>au (decide_eq_false λe=>h (by rw[e])).symm,λhne=>?_⟩;have hab:a.length=b.length:=by omega
 refine ae.upto [1,2,15,16] a.length (λi A=>A.env 17= .int .i64 i/\A.st=σ/\a.take i=b.take i) 0 (acI _) ?_ λi B hi ⟨h13,hst,hI⟩=>?_
 .simp only[go_sem,simprocAttr];simp
 simp only[go_sem,simprocAttr,h13,hst,acG];refine⟨λhc=>⟨hc,?_⟩,λhc=>au ?_⟩
 .obtain⟨x,hx⟩:=get_some hc;obtain⟨y,hy⟩:=get_some (show i<b.length by omega);simp only[go_sem,simprocAttr,aw hx,aw hy,aF];refine⟨by omega,?_⟩;refine aj.pure (h x (acQ hx) y (acQ hy)) ?_;simp only[go_sem,simprocAttr,h13,hst];grind [au,ag,kc]
 grind
theorem xZ (a b:List Clause):ai prog W0 130 [aA a,aA b] (.bool (decide (a=b))):=by
 refine ak [4] [] func130 rfl rfl ntmps130 rfl rfl (.bool _) λhs σ=>?_
 simp only[go_sem,simprocAttr,aA];refine aj.fn (Ov a b _ λc _ d _=>Mt c d) ?_;simp only[go_sem,simprocAttr]
theorem I1 (p q:Pkg):ai prog W0 77 [ax p,ax q] (.bool (decide (p=q))):=by
 refine ak [4] [2,3] func77 rfl rfl ntmps77 rfl rfl (.bool _) λhs σ=>?_
 simp only[List.append_eq,List.cons_append,ac9];simp only[go_sem,simprocAttr,ax];refine aD.fnG (λ_=>xZ _ _) ?_;simp only[go_sem,simprocAttr];refine aD.fnG (λ_=>xZ _ _) ?_;simp only[go_sem,simprocAttr];refine aD.fnG (λ_=>xZ _ _) ?_;simp only[go_sem,simprocAttr];refine aD.fnG (λ_=>wF _ _) ?_;simp only[go_sem,simprocAttr];refine aD.fnG (λ_=>wF _ _) ?_;simp only[go_sem,simprocAttr];refine aD.fnG (λ_=>I7 _ _) ?_;simp only[go_sem,simprocAttr];refine au ?_;obtain⟨a1,a2,a3,a4,a5,a6,a7,a8,a9⟩:=p;obtain⟨b1,b2,b3,b4,b5,b6,b7,b8,b9⟩:=q;grind
end Go.Proofs.Tryz
end
section
namespace Go.Av
open Go
theorem lI.keep {P:Program}{A:aa}{s e:TypeId}{id off m:Nat}{xs:List AV}{dst:Option Nat}{k:aa->Prop}(hs:elT P s=some e)(he:fZ P e=some .u8)(h0:0<m)(hσ:A.st[id]?=some (some (.cells e xs)))(hm:off+m<=xs.length)
  (hk:k ((A.put dst (.sl e ((xs.drop off).take m))).ay (A.st.set id none))):lI P s s (.row e id off m) dst A k .mk:=.inr (.inr ⟨e,id,off,m,xs,rfl,⟨rfl,hs,he⟩,h0,hσ,hm,hk⟩)
end Go.Av
end
section
namespace Go.Proofs.Tryz
open Go Go.Av
set_option maxRecDepth 10000
variable {W0 :World}
theorem LZ :reachBytes=140737488351232:=by decide
theorem VX {n:Nat}{a:AV}(h:OfT prog (n+6) 53 a): ∃x,a=bg x/\uJ x.pkg:=by
 obtain⟨xs,rfl,g⟩:=qN (ts:=[51,4,4]) (by kernel_rfl) h;obtain _|⟨x1,_|⟨x2,_|⟨x3,_|_⟩⟩⟩:=xs<;>simp only[zl,and_false,and_true]at g
 obtain⟨h1,h2,h3⟩:=g;obtain⟨p,rfl,hp⟩:=KT (n:=n) h1;obtain⟨b,rfl⟩:=xS (by kernel_rfl) h2;obtain⟨c,rfl⟩:=xS (by kernel_rfl) h3;exact⟨⟨p,b,c⟩,rfl,hp⟩
theorem RC {n:Nat}{a:AV}(h:OfT prog (n+7) 22 a): ∃l,a=aK l/\l.length<=733007751829/\ ∀x∈l,uJ x.pkg:=by
 obtain⟨xs,rfl,hl,hx⟩:=Wp (e:=53) (by kernel_rfl) h;obtain⟨ps,rfl⟩:=all_map (f:=λq:{ x:aB // uJ x.pkg }=>bg q.1) λx hm=>by
  obtain⟨p,rfl,h1⟩:=VX (hx x hm);exact⟨⟨p,h1⟩,rfl⟩
 refine⟨ps.map (·.1),by simp[aK],?_,λp hp=>?_⟩
 .have hb:prog.bytesOf 53=192:=by kernel_rfl
  grind [LZ]
 grind
end Go.Proofs.Tryz
end
section
namespace Go.Av
theorem Dp {c:Clause}(h:lQ c=true):c≠[]/\c.length<=6/\ ∀a∈c,cA a=true:=by
 grind [lQ]
end Go.Av
end
section
namespace Go.Proofs.Tryz
open Go Go.Av
set_option maxRecDepth 10000
variable {W0 :World}
theorem mb (e:TypeId)(a:Option Addr)(cap:Nat)(h:cap<=maxLen)(w:World)(C:Ctx):aJ prog w C (.sl e []) (.slice a 0 cap):=
 .one rfl (Rel.sl (xs:=[]) (λ_=>[]) (acI _) h (λi x h=>by simp at h) (λi x h=>by simp at h) λhn=>absurd hn (by simp))
theorem O1 :ai prog W0 201 [aF []] (aF []):=by
 refine mO func201 (by kernel_rfl) (by kernel_rfl) λw C vs hvl hv=>?_
 obtain _|⟨v1,_|⟨_,_⟩⟩:=vs<;>simp at hvl
 have h1:=(hv 0 _ _ rfl rfl).aH rfl;cases h1;rename_i a cap cf hc hm hr hz hs;simp only[acP,ac0]at hm;show Calls _ _ #[Value.slice a 0 cap] _ _;have q30: ∀(w:World) (a:Option Addr) (n c n' c':Nat),(binOp .eql 48 (.slice a n c) (.slice none n' c')).run prog w= .ok (.bool a.isNone) w:=λw a n c n' c'=>Lib.run_eql_slice_nil w _ _ a n c n' c' Tryz.underlying48
 clear hv hr hz hs;cases a
 all_goals go_enter Tryz.func201,Tryz.ntmps201
 all_goals go_wp2
 all_goals go_ret
 .exact⟨_,rfl,mb _ _ _ (acI _),RowKit.Below.refl _ w⟩
 .exact⟨_,rfl,mb _ _ _ (acI _),(RowKit.Below.refl _ w).alloc (ac2 _) _⟩
theorem Ot :ai prog W0 202 [cG []] (cG []):=by
 refine mO func202 (by kernel_rfl) (by kernel_rfl) λw C vs hvl hv=>?_
 obtain _|⟨v1,_|⟨_,_⟩⟩:=vs<;>simp at hvl
 have h1:=(hv 0 _ _ rfl rfl).aH rfl;cases h1;rename_i a cap cf hc hm hr hz hs;simp only[acP,ac0]at hm;show Calls _ _ #[Value.slice a 0 cap] _ _;have q30: ∀(w:World) (a:Option Addr) (n c n' c':Nat),(binOp .eql 49 (.slice a n c) (.slice none n' c')).run prog w= .ok (.bool a.isNone) w:=λw a n c n' c'=>Lib.run_eql_slice_nil w _ _ a n c n' c' Tryz.underlying49
 clear hv hr hz hs;cases a
 all_goals go_enter Tryz.func202,Tryz.ntmps202
 all_goals go_wp2
 all_goals go_ret
 .exact⟨_,rfl,mb _ _ _ (acI _),RowKit.Below.refl _ w⟩
 .exact⟨_,rfl,mb _ _ _ (acI _),(RowKit.Below.refl _ w).alloc (ac2 _) _⟩
theorem Hs :ai prog W0 200 [aF []] (aF []):=by
 refine mO func200 (by kernel_rfl) (by kernel_rfl) λw C vs hvl hv=>?_
 obtain _|⟨v1,_|⟨_,_⟩⟩:=vs<;>simp at hvl
 have h1:=(hv 0 _ _ rfl rfl).aH rfl;cases h1;rename_i a cap cf hc hm hr hz hs;simp only[acP,ac0]at hm;show Calls _ _ #[Value.slice a 0 cap] _ _;have q30: ∀(w:World) (a:Option Addr) (n c n' c':Nat),(binOp .eql 77 (.slice a n c) (.slice none n' c')).run prog w= .ok (.bool a.isNone) w:=λw a n c n' c'=>Lib.run_eql_slice_nil w _ _ a n c n' c' Tryz.underlying77
 clear hv hr hz hs;cases a
 all_goals go_enter Tryz.func200,Tryz.ntmps200
 all_goals go_wp2
 all_goals go_ret
 .exact⟨_,rfl,mb _ _ _ (acI _),RowKit.Below.refl _ w⟩
 .exact⟨_,rfl,mb _ _ _ (acI _),(RowKit.Below.refl _ w).alloc (ac2 _) _⟩
theorem ph (l:List Atom)(hl:l.length<=1048576):ai prog W0 201 [aF l] (aF l):=by
 cases l with
 |nil=>exact O1
 |cons x c=>exact Ry (x::c) hl
theorem AB (l:List jx)(hl:l.length<=1048576):ai prog W0 202 [cG l] (cG l):=by
 cases l with
 |nil=>exact Ot
 |cons x c=>exact QU (x::c) hl
theorem xf (l:List Atom)(hl:l.length<=1048576):ai prog W0 200 [aF l] (aF l):=by
 cases l with
 |nil=>exact Hs
 |cons x c=>exact Pc (x::c) hl
end Go.Proofs.Tryz
end
section
namespace Go.Av
def qE.fit :qE->Prop
 | .count _=>False
 | .atoms l=>l.length<=1048576
 | .Rj l=>l.length<=1048576
 |_=>True
end Go.Av
end
section
namespace Go.Proofs.Tryz
open Go Go.Av
set_option maxRecDepth 10000
variable {W0 :World}
end Go.Proofs.Tryz
end
section
namespace Go.Av
theorem Bld.Pu {st:ab}{v:AV}{e:TypeId}{xs:List AV}(h:Bld st v e xs):Sub v (.sl e xs):=by
 rcases h with⟨rfl,rfl⟩|rfl|⟨t,rfl,_⟩
 .exact .ar _
 .exact .lit _ _
 .exact .own _ _ _
theorem ai.Im {P:Program}{W0:World}{f:FuncId}{args:List AV}{r:AV}(hr:aX 0 r)(h: ∀σ,aS P W0 f args σ λr' σ'=>dq r' r/\Ext σ σ'):ai P W0 f args r:=λσ w C vs hst hl hv=>
 (h σ w C vs hst hl hv).mono λe w' ⟨v,r',σ',C',he,⟨hw,hx⟩,hs,hrv,hstep⟩=>by
  have hs2:aE P W0 w' (C'.eY σ.length) σ:=by
   have:=hs.eY (n:=σ.length) hx.le λid te xs hid hss=>hst.ids (show σ[id]?=some (some (.cells te xs)) by
    have e:=congrArg (·[id]?) hx;simp_all)
   rwa [hx]at this
  exact⟨v,r,σ,C'.eY σ.length,he,⟨rfl,rfl⟩,hs2,(hrv.cb hw).eY (fo (acI _) hr),hstep.eY (by grind [aE.nx])⟩
end Go.Av
end
section
namespace Go.Proofs.Tryz
open Go Go.Av
set_option maxRecDepth 10000
variable {W0 :World}
def Ts :List UInt8:=[80,97,99,107,97,103,101]
def Sr :List UInt8:=[86,101,114,115,105,111,110]
def ab7 :List UInt8:=[69,115,115,101,110,116,105,97,108]
def abV :List UInt8:=[80,114,101,45,68,101,112,101,110,100,115]
def ab8 :List UInt8:=[68,101,112,101,110,100,115]
def abT :List UInt8:=[82,101,99,111,109,109,101,110,100,115]
def abZ :List UInt8:=[67,111,110,102,108,105,99,116,115]
def ab6 :List UInt8:=[66,114,101,97,107,115]
def aag :List UInt8:=[80,114,111,118,105,100,101,115]
structure LiN (l:List Clause):Prop where
 len:l.length<=1048576
 cl: ∀c∈l,c.length<=1048576
theorem RI {p:Pkg}(h:aT p=0):p.name≠[]/\p.ver≠[]:=by
 unfold aT at h;split at h
 .cases h
 .rename_i hc;refine⟨λe=>hc ?_,λe=>hc ?_⟩
  .rw[e];rfl
  .rw[e,show bI []=false by decide];simp
end Go.Proofs.Tryz
end
section
namespace Go.Av
def TV (n:List UInt8)(k:Int)(s:List UInt8):List UInt8:=
 if 0<k/\s=[]then [32,46]else if 0<k then 32::s else if s=[]then n++[58]else n++[58,32]++s
end Go.Av
end
section
namespace Go.Proofs.Tryz
open Go Go.Av
set_option maxRecDepth 10000
variable {W0 :World}
end Go.Proofs.Tryz
end
section
namespace Go.Av
def JZ (k:Int)(s:List UInt8):Bool:=!(decide (0<=W2 s)|| !(oc s==s)||(decide (0<k)&&s==[46]))&&(decide (0<k)||nS s==s)
end Go.Av
end
section
namespace Go.Proofs.Tryz
open Go Go.Av
set_option maxRecDepth 10000
variable {W0 :World}
end Go.Proofs.Tryz
end
section
namespace Go.Av
def Lc {α:Type}(q:Nat->α->Bool):Nat->List α->Bool
 |_,[]=>true
 |i,x::r=>q i x&&Lc q (i+1) r
def Az (f:Fld)(ahead:List Fld):Int:=
 if ((SR f.name:Int)==0||(SR f.name:Int) !=(f.name.length:Int)||(f.lines.length:Int)==0)=true then 3
 else if Lc (λk s=>JZ k s) 0 f.lines=false then 3
 else if abC ahead f.name=true then 4
 else if Lc (λk s=>decide ((TV f.name k s).length<=1000)) 0 f.lines=false then 2
 else 0
end Go.Av
end
section
namespace Go.Proofs.Tryz
open Go Go.Av
set_option maxRecDepth 10000
variable {W0 :World}
end Go.Proofs.Tryz
end
section
namespace Go.Av
open Go.Proofs.Tryz
def prB (c:UInt8):Bool:=decide (32<=c.toNat)&&decide (c.toNat<=126)
theorem KS : ∀(f:Nat) {s:List UInt8} (i:Nat),(∀c∈s,prB c=true)->KO f s i= -1
 |0,_,_,_=>rfl
 |_+1,[],_,_=>rfl
 |f+1,c::r,i,h=>by
  have hc:=h c (by simp);simp only[prB,Bool.and_eq_true,decide_eq_true_eq]at hc;have h1:z6 (c::r)=1:=E4 (by omega);have h2:Ya c=false:=by
   grind [Ya]
  rw[KO,h1,h2,if_neg (by simp)];exact KS f _ λx hx=>h x (by simp_all)
theorem Sy {s:List UInt8}(h: ∀c∈s,prB c=true):W2 s= -1:=KS _ _ h
structure Edge (s:List UInt8):Prop where
 hd: ∃c t,s=c::t/\Fz c≠1
 tl: ∃u c,s=u++[c]/\Fz c≠1
theorem Edge.plain {s:List UInt8}(hne:s≠[])(h: ∀c∈s,Fz c=0):Edge s:=by
 constructor
 .cases s with
  |nil=>simp_all
  |cons c t=>simp_all
 .rcases List.eq_nil_or_concat s with rfl|⟨u,c,rfl⟩
  .simp_all
  grind
theorem Edge.ne {s:List UInt8}(h:Edge s):s≠[]:=by
 grind [Edge.hd]
theorem Edge.app {s m t:List UInt8}(hs:Edge s)(ht:Edge t):Edge (s++(m++t)):=by
 obtain⟨c,a,rfl,h1⟩:=hs.hd;obtain⟨u,d,rfl,h2⟩:=ht.tl;exact⟨⟨c,a++(m++(u++[d])),rfl,h1⟩,⟨(c::a)++(m++u),d,by simp,h2⟩⟩
theorem Edge.oc {s:List UInt8}(h:Edge s):oc s=s:=by
 grind [Edge.tl,HY,wsB]
theorem Edge.skip {s:List UInt8}(h:Edge s):lX s=s:=by
 grind [Edge.hd,Vl]
theorem Edge.trim {s:List UInt8}(h:Edge s):nS s=s:=by
 unfold nS;rw[h.skip,h.oc]
theorem nB {l:List Clause}(h:cU l=0):l.length<=12/\ ∀c∈l,lQ c=true:=by
 unfold cU at h;split at h
 .cases h
 rename_i h1;split at h
 .cases h
 rename_i h2;refine⟨by omega,λc hc=>?_⟩;have h3: ¬(6<c.length):=λh6=>h1 (.inr (ac8.2 ⟨c,hc,by simp_all⟩))
 have h4: ¬((decide (c.length=0)||c.any λa=>!cA a)=true):=λh6=>h2 (ac8.2 ⟨c,hc,h6⟩)
 grind [lQ]
theorem oQ {l:List Atom}(h:cU (single l)=0):l.length<=12/\ ∀a∈l,cA a=true:=by
 obtain⟨h1,h2⟩:=nB h;refine⟨by grind [single],λa ha=>?_⟩;exact(Dp (h2 [a] (acL.2 ⟨a,ha,rfl⟩))).2.2 a (by simp)
structure uH (p:Pkg):Prop where
 name:eT p.name=true
 ver:bI p.ver=true
 pre:p.pre.length<=12/\ ∀c∈p.pre,lQ c=true
 dep:p.dep.length<=12/\ ∀c∈p.dep,lQ c=true
 rcm:p.rcm.length<=12/\ ∀c∈p.rcm,lQ c=true
 con:p.con.length<=12/\ ∀a∈p.con,cA a=true
 brk:p.brk.length<=12/\ ∀a∈p.brk,cA a=true
 eN:p.eN.length<=12/\ ∀x∈p.eN,cA (bU x)=true
theorem cQ {p:Pkg}(h:aT p=0):uH p:=by
 unfold aT at h;split at h
 .cases h
 rename_i h1;simp only[Bool.or_eq_true,Bool.not_eq_true',not_or,Bool.not_eq_false]at h1;have h2:=iA h;obtain⟨g1,g2⟩:=oQ (h2 (cU (single (p.eN.map bU))) (by simp));exact⟨h1.1,h1.2,nB (h2 _ (by simp)),nB (h2 _ (by simp)),nB (h2 _ (by simp)),oQ (h2 _ (by simp)),oQ (h2 _ (by simp)),by simp_all,λx hx=>g2 _ (acL.2 ⟨x,hx,rfl⟩)⟩
structure acb (n t:List UInt8)(v:qE):Prop where
 Cd:Edge t
 pr: ∀c∈t,prB c=true
 read:abb n t= .ok v
def Ym :List UInt8:=[83,116,97,116,101]
def abt :List UInt8:=[72,111,108,100]
def R5 :List (List UInt8):=[Ts,Sr,ab7,abV,ab8,abT,abZ,ab6,aag]
def wX :List (List UInt8):=R5++[Ym,abt]
structure FG (y:Fld×qE):Prop where
 fit: ∃t,y.1.lines=[t]/\acb y.1.name t y.2
 name:y.1.name∈wX
def lnF (f:Fld):List UInt8:=TV f.name 0 (f.lines.headD [])
theorem Q9 : ∀n∈wX,n≠[]/\(∀c∈n,Fz c=0)/\(∀c∈n,prB c=true)/\SR n=n.length/\aaD n=false:=by decide
structure LnF (y:Fld×qE)(t:List UInt8):Prop where
 lines:y.1.lines=[t]
 Cd:Edge t
 pr: ∀c∈t,prB c=true
 name:y.1.name∈wX
 line:lnF y.1=y.1.name++58::32::t
theorem FG.ln {y:Fld×qE}(h:FG y): ∃t,LnF y t:=by
 obtain⟨t,h1,h2⟩:=h.fit;refine⟨t,h1,h2.Cd,h2.pr,h.name,?_⟩;unfold lnF TV;rw[h1];simp[h2.Cd.ne]
theorem LnF.may {y:Fld×qE}{t:List UInt8}(h:LnF y t){ahead:List Fld}(ha:abC ahead y.1.name=false):Az y.1 ahead=if (lnF y.1).length<=1000 then 0 else 2:=by
 obtain⟨h1,h2,h3,h4,h5⟩:=Q9 _ h.name;have hl:y.1.name.length≠0:=λe=>h1 (List.length_eq_zero_iff.1 e)
 have ho:JZ ((0:Nat):Int) t=true:=by
  grind [JZ,Sy,LnF.pr,Edge.oc,LnF.Cd,Edge.trim]
 unfold Az;rw[h.lines];grind [Lc,lnF,LnF.lines]
structure SG (L:List (Fld×qE)):Prop where
 ne:L≠[]
 len:L.length<=40
 fg: ∀y∈L,FG y
 pw:L.Pairwise λy z=>Xf y.1.name z.1.name=false
theorem gS {l:List Pkg}(h:aY l=0):l.length<=24/\ ∀p∈l,aT p=0:=by
 unfold aY at h;split at h
 .cases h
 rename_i h1;split at h
 .omega
 rename_i h2;exact⟨by omega,λp hp=>iA (by omega) _ (acL.2 ⟨p,hp,rfl⟩)⟩
theorem dy {l:List aB}(h:br l=0):l.length<=10/\ ∀x∈l,aT x.pkg=0:=by
 unfold br at h;split at h
 .cases h
 rename_i h1;split at h
 .omega
 rename_i h2;exact⟨by omega,λx hx=>iA (acT.1 h2) _ (acL.2 ⟨x,hx,rfl⟩)⟩
def dV (repo:List Pkg)(s:List aB):List Pkg:=s.map (·.pkg)++repo.filter λp=>match ca s p.name with
 |none=>true
 |some x=>!bb x.pkg.ver p.ver
def cB (repo:List Pkg)(s:List aB):List Pkg×Int:=
 if aY repo≠0 then([],aY repo)else if br s≠0 then([],br s)
 else if 24<(dV repo s).length\/10<(dE (dV repo s) []).length then([],12)else(cV (dV repo s),0)
theorem px : ∀{s:List aB},kh s=false->s.Pairwise λx y=>Op.bytesLess x.pkg.name y.pkg.name=true
 |[],_=>.nil
 |[x],_=>List.pairwise_singleton _ _
 |x::y::r,h=>by
  rw[kh,Bool.or_eq_false_iff,Bool.not_eq_false']at h;have ih:=px h.2;grind [List.pairwise_cons,eF]
theorem cn {s:List aB}(h:br s=0):(s.map (·.pkg.name)).Nodup:=by
 have hd:kh s=false:=by
  grind [br]
 rw[List.Nodup,List.pairwise_map];refine(px hd).imp λ{x y} h e=>?_
 grind [ew]
theorem IW {l m:List Pkg}(h:l.Perm m):(dE l []).length=(dE m []).length:=by
 grind [iz,adl,iV]
theorem pe {l:List Pkg}(h1:l.length<=24)(h2: ∀p∈l,aT p=0)(h3:nR l)(h4:(dE l []).length<=10):aY l=0:=by
 unfold aY;rw[if_neg (by omega),if_neg,if_neg,if_neg (by omega)]
 .rw[Bool.not_eq_true,qU];exact⟨by simp,h3⟩
 grind [CI]
theorem xa {l m:List Pkg}(h:l.Perm m)(hd:nR l):nR m:=h.pairwise hd λ{a b} h=>by grind [uf]
theorem uV {repo:List Pkg}{s:List aB}(h:(cB repo s).2=0):aY (cB repo s).1=0/\kf (cB repo s).1/\(∀x∈s,x.pkg∈(cB repo s).1)/\br s=0:=by
 unfold cB at h ⊢;split at h
 .omega
 rename_i h1;rw[if_neg h1];split at h
 .omega
 rename_i h2;rw[if_neg h2];split at h
 .cases h
 rename_i h3;rw[if_neg h3];have h1:=acT.1 h1;have h2:=acT.1 h2;obtain⟨_,hr⟩:=gS h1;obtain⟨_,he⟩:=dy h2;obtain⟨hd,_⟩:=eX h1;have hnm:=cn h2;have hp:=eE (dV repo s);have hmay: ∀p∈dV repo s,aT p=0:=λp hp=>by
  grind [dV]
 have hnd:nR (dV repo s):=by
  refine List.pairwise_append.2 ⟨?_,acM acO hd,λp hp q hq=>?_⟩
  .grind [dA]
  .obtain⟨x,hx,rfl⟩:=acL.1 hp;grind [dA,jt]
 have hv:uC (dV repo s):=λp hp=>by
  grind [cQ,uH.ver]
 refine⟨pe (by rw[hp.length_eq];omega) (λp hpm=>hmay p (hp.subset hpm)) (xa hp.symm hnd) (by grind [IW]),kl hv,λx hx=>hp.symm.subset ?_,h2⟩;grind [dV]
theorem ES {k:Nat}{t:List Nat}(hs:t.Pairwise (· < ·))(hk: ∀i∈t,i<k):bh k (cc t)=t:=by
 have h2:(bh k (cc t)).Pairwise (· < ·):=acM acO List.pairwise_lt_range;grind [acU,List.perm_ext_iff_of_nodup,ac5,de,di]
def AG (S:Nat):Nat:=lE (bh 32 S)
def ltB (x y:List Nat×Nat):Bool:=lexB x.1 y.1||(x.1==y.1&&decide (AG y.2<AG x.2))
def B0 (all:List Pkg)(s:List aB)(l:List aN)(up:Bool):List (List Nat×Nat):=(pL (fh all s l) (aW all s l) 0 0).map λS=>(kB all s S up,S)
def j6 (all:List Pkg)(s:List aB)(l:List aN)(up:Bool):List (List Nat×List Nat):=
 W9 (((ec all (all.length+1) 0 []).filter λt=>gq l (atL all t) s).map λt=>(mj all s (atL all t) up,t))
def toB (x:List Nat×List Nat):List Nat×Nat:=(x.1,cc x.2)
theorem ko (up:Bool)(a b c d e:Nat):(zV up a b c d e).length=5:=by
 unfold zV;split<;>rfl
theorem oZ {all:List Pkg}{t:List Nat}(h:t∈ec all (all.length+1) 0 []):t∈du (ef all (all.length+1) 0):=by
 grind [gz]
theorem MR {all:List Pkg}(hc:mW all){t:List Nat}(ht:t∈du (ef all (all.length+1) 0)):t.Pairwise (· < ·)/\ ∀i∈t,i<all.length:=by
 obtain⟨r1,_,_⟩:=lK hc (f:=all.length+1) (i:=0) (by omega) (by omega) (λj p q hj=>by omega);grind [u7,l9,fE,cg]
theorem Kl {all:List Pkg}: ∀{f i:Nat},∀g∈ef all f i,i<=all.length->g≠[]
 |0,i,g,hg,_=>by cases hg
 |f+1,i,g,hg,hi=>by
  rw[ef]at hg;by_cases h:i=all.length
  .simp_all
  .rw[if_neg h]at hg;obtain⟨p,hp⟩:=get_some (show i<all.length by omega);obtain⟨b1,b2⟩:=dR hp;rcases adh.1 hg with rfl|hg
   .grind
   .exact Kl g hg b2
theorem ub : ∀{gs:List (List Nat)},tF gs->(∀g∈gs,g.Nodup)->(du gs).Nodup
 |[],_,_=>by simp[du]
 |g::r,ha,hn=>by
  have ih:=ub ha.2 λh hh=>hn h (by simp[hh])
  rw[du,List.nodup_append];refine⟨?_,ih,λt ht u hu e=>?_⟩
  .have: ∀l:List Nat,l.Nodup->(l.flatMap λi=>(du r).map (i:: ·)).Nodup:=λl=>by
    grind
   simp_all
  .obtain⟨i,hi,ht⟩:=List.mem_flatMap.1 ht;obtain⟨a,_,rfl⟩:=acL.1 ht;rw[<-e]at hu;obtain⟨h,hh,hih⟩:=fE hu i (by simp);exact ha.1 i hi h hh hih
theorem zg {all:List Pkg}(hc:mW all)(q:List Nat->Bool):((ec all (all.length+1) 0 []).filter q).Nodup:=by
 obtain⟨_,_,r3⟩:=lK hc (f:=all.length+1) (i:=0) (by omega) (by omega) (λj p q hj=>by omega);obtain⟨_,k2⟩:=u7 hc (f:=all.length+1) (i:=0) (by omega) (by omega) (λj p q hj=>by omega);rw[gz (by omega)];refine acM acO (acM acO ?_);grind [ub,ac5]
theorem El {all:List Pkg}{s:List aB}{l:List aN}(hc:mW all)(up:Bool):(j6 all s l up).Perm (((ec all (all.length+1) 0 []).filter λt=>gq l (atL all t) s).map λt=>(mj all s (atL all t) up,t))/\(j6 all s l up).Pairwise λa b=>ltP a b=true:=
 Fy (k:=5) (o:=[]) (by
  grind [zg]) (λy hy=>by
  rw[ac9]at hy;obtain⟨t,_,rfl⟩:=acL.1 hy;exact ko _ _ _ _ _ _) .nil
theorem IF {all:List Pkg}{s:List aB}{l:List aN}(h24:all.length<=24)(hm: ∀p∈all,aT p=0)(hc:mW all)(hU:Uni all s l)(hnv:dU all s l=false)(up:Bool){o:List (List Nat×Nat)}(hp:o.Perm (B0 all s l up))(hs:o.Pairwise λx y=>ltB y x=false):
  o=(j6 all s l up).map toB:=by
 obtain⟨b1,b2⟩:=El (s:=s) (l:=l) hc up;generalize hW:(ec all (all.length+1) 0 []).filter (λt=>gq l (atL all t) s)=W at b1;have hWp: ∀t∈W,t∈du (ef all (all.length+1) 0):=λt ht=>by
  grind [oZ]
 have hinc: ∀t∈W,t.Pairwise (· < ·)/\ ∀i∈t,i<32:=λt ht=>by
  grind [MR]
 have hmem: ∀x∈j6 all s l up,x.2∈W/\x.1.length=5:=λx hx=>by
  obtain⟨t,ht,rfl⟩:=acL.1 (b1.subset hx);exact⟨ht,ko _ _ _ _ _ _⟩
 have hturn: ∀t∈W,AG (cc t)=lE t:=λt ht=>by
  grind [AG,ES]
 have hlt: ∀x∈j6 all s l up,∀y∈j6 all s l up,ltB (toB x) (toB y)=ltP x y:=λx hx y hy=>by
  grind [ltB,ltP,toB,yo]
 have hperm:o.Perm ((j6 all s l up).map toB):=by
  refine hp.trans ?_;have h1:=(EK hm hc hU hnv).map λS=>(kB all s S up,S)
  rw[hW]at h1;refine h1.trans (List.Perm.trans (adm ?_) (b1.map toB).symm);rw[adk,adk];refine List.map_congr_left λt ht=>?_
  show(kB all s (cc t) up,cc t)=(mj all s (atL all t) up,cc t);grind [U9]
 have hs2:((j6 all s l up).map toB).Pairwise λx y=>ltB y x=false:=by
  grind [adi,zU,KZ]
 refine acU (le:=λx y=>ltB y x=false) (λx y hx hy h1 h2=>?_) hs hs2 hperm;grind [KX]
end Go.Av
end
section
namespace Go.Av
theorem gX (a b:Nat)(ha:a<4294967296)(hb:b<4294967296):bits .and .u32 (a:Int) (b:Int)=((a &&& b:Nat):Int):=by
 have h1:(BitVec.ofInt 32 (a:Int)).toNat=a:=by simp_all
 have h2:(BitVec.ofInt 32 (b:Int)).toNat=b:=by simp_all
 show IntKind.u32.wrap ((BitVec.ofInt 32 (a:Int) &&& BitVec.ofInt 32 (b:Int)).toNat:Int)=_;have hlt:=(BitVec.ofInt 32 (a:Int) &&& BitVec.ofInt 32 (b:Int)).isLt;grind [IntKind.wrap_u32]
theorem jB (a b:Nat)(ha:a<4294967296)(hb:b<4294967296):bits .or .u32 (a:Int) (b:Int)=((a ||| b:Nat):Int):=by
 have h1:(BitVec.ofInt 32 (a:Int)).toNat=a:=by simp_all
 have h2:(BitVec.ofInt 32 (b:Int)).toNat=b:=by simp_all
 show IntKind.u32.wrap ((BitVec.ofInt 32 (a:Int) ||| BitVec.ofInt 32 (b:Int)).toNat:Int)=_;have hlt:=(BitVec.ofInt 32 (a:Int) ||| BitVec.ofInt 32 (b:Int)).isLt;grind [IntKind.wrap_u32]
def bY (m k x:Nat):Nat:=((x >>> k) &&& m) ||| (((x &&& m) <<< k) % 4294967296)
theorem mm {m k x:Nat}(hm:m<4294967296):bY m k x<4294967296:=
 ac6 (n:=32) (Nat.lt_of_le_of_lt Nat.and_le_right hm) (adf _ (by decide))
theorem O2 (m k x i:Nat)(hi:i<32):(bY m k x).testBit i=((x.testBit (k+i)&&m.testBit i)||(decide (k<=i)&&(x.testBit (i-k)&&m.testBit (i-k)))):=by
 unfold bY;rw[adg,ada,acY,show 4294967296=2^32 from rfl,acV,ac1,ada];simp[hi]
def jP (x:Nat):Nat:=
 let a:=bY 16711935 8 (bY 252645135 4 (bY 858993459 2 (bY 1431655765 1 x)))
 (a >>> 16) ||| ((a <<< 16) % 4294967296)
theorem VV (x:Nat):jP x<4294967296:=
 ac6 (n:=32) (by
  grind [Nat.shiftRight_eq_div_pow,mm]) (adf _ (by decide))
theorem aai : ∀i,i<32->Nat.testBit 1431655765 i=decide (i % 2=0):=by decide
theorem ZY : ∀i,i<32->Nat.testBit 858993459 i=decide (i % 4<2):=by decide
theorem aaC : ∀i,i<32->Nat.testBit 252645135 i=decide (i % 8<4):=by decide
theorem aaf : ∀i,i<32->Nat.testBit 16711935 i=decide (i % 16<8):=by decide
theorem rZ {m k:Nat}(hk:0<k)(hm: ∀i,i<32->m.testBit i=decide (i % (2*k)<k))(x i:Nat)(hi:i<32):
  (bY m k x).testBit i=x.testBit (if i % (2*k)<k then i+k else i-k):=by
 rw[O2 m k x i hi,hm i hi];by_cases h:i % (2*k)<k
 .by_cases h2:k<=i
  .have h3: ¬(i-k) % (2*k)<k:=by
    have hd:=adb i (2*k);have hq:i / (2*k)≠0:=by
     grind
    obtain⟨q,hq⟩:=Nat.exists_eq_succ_of_ne_zero hq;have e:i-k=2*k*q+(i % (2*k)+k):=by
     grind [Nat.mul_succ]
    rw[e,ade,acW (by omega)];omega
   grind
  grind
 .have h2:k<=i:=by
   rcases Nat.lt_or_ge i k with g|g
   .rw[acW (by omega)]at h;omega
   .exact g
  have h3:(i-k) % (2*k)<k:=by
   have hd:=adb i (2*k);have hl:=adf i (show 0<2*k by omega);have e:i-k=2*k*(i / (2*k))+(i % (2*k)-k):=by omega
   rw[e,ade,acW (by omega)];omega
  grind
theorem Tm (x:Nat): ∀i,i<32->(jP x).testBit i=x.testBit (31-i):=by
 intro i hi;have s1:=rZ (m:=1431655765) (k:=1) (by decide) (λi hi=>by grind [aai]) x;have s2:=rZ (m:=858993459) (k:=2) (by decide) ZY (bY 1431655765 1 x);have s4:=rZ (m:=252645135) (k:=4) (by decide) aaC (bY 858993459 2 (bY 1431655765 1 x));have s8:=rZ (m:=16711935) (k:=8) (by decide) aaf (bY 252645135 4 (bY 858993459 2 (bY 1431655765 1 x)));have hA:=mm (m:=16711935) (k:=8) (x:=bY 252645135 4 (bY 858993459 2 (bY 1431655765 1 x))) (by decide);have hB:(jP x).testBit i=(bY 16711935 8 (bY 252645135 4 (bY 858993459 2 (bY 1431655765 1 x)))).testBit (if i<16 then i+16 else i-16):=by
  unfold jP;simp only;generalize bY 16711935 8 (bY 252645135 4 (bY 858993459 2 (bY 1431655765 1 x)))=a at hA;rw[adg,acY,show 4294967296=2^32 from rfl,acV,ac1];by_cases h:i<16
  .have: ¬16<=i:=by omega
   simp[h,hi,this,Nat.add_comm]
  .have h16:16<=i:=by omega
   have:a.testBit (16+i)=false:=acZ (acR hA (show 2^32<=2^(16+i)from ac3 (n:=2) (by decide) (by omega)));simp[h,hi,h16,this]
 rw[hB,s8 _ (by split<;>omega),s4 _ (by split<;>split<;>omega),s2 _ (by split<;>split<;>split<;>omega),s1 _ (by split<;>split<;>split<;>split<;>omega)];congr 1;clear s1 s2 s4 s8 hA hB;grind
theorem NR {x:Nat}(hx:x<4294967296):AG x=jP x:=by
 apply Nat.eq_of_testBit_eq;intro i;unfold AG lE;rw[di];by_cases hi:i<32
 .rw[Tm x i hi];apply Bool.eq_iff_iff.2;simp only[decide_eq_true_eq,acL];refine⟨λ⟨j,hj,e⟩=>?_,λh=>⟨31-i,de.2 ⟨by omega,h⟩,by omega⟩⟩;grind [de]
 .rw[acZ (acR (VV x) (show 2^32<=2^i from ac3 (n:=2) (by decide) (by omega)))];grind
end Go.Av
end
