/- Texts that the last one of this claim rests on: a layer over the guide's own conditions for code; contracts of the functions that the law reaches, one by one. No conditions beside those of the given rows. -/
import Derived.WalkKit
import Derived.Lib.SliceRun
import Derived.Test.YtbooehmmhbioaaaGreatDoorWah
import Derived.Test.YtbooehmmhbioaaaGreatDoorWak
import Derived.Test.YtbooehmmhbioaaaGreatDoorWal
import Derived.Test.YtbooehmmhbioaaaGreatDoorWam
import Derived.Test.YtbooehmmhbioaaaGreatDoorWan
import Derived.Test.YtbooehmmhbioaaaGreatDoorWap
import Derived.Test.YtbooehmmhbioaaaGreatDoorWaq
import Derived.Test.YtbooehmmhbioaaaGreatDoorWar
set_option linter.unusedSimpArgs false
set_option linter.unusedVariables false
section
namespace Go.Av
def qy (st:ab)(v:AV)(e:TypeId)(xs:List AV):Prop:=v= .sl e xs∨ ∃id,v= .row e id 0 xs.length∧st[id]?=some (some (.cells e xs))
section
variable {σ st:ab}{v:AV}{e:TypeId}{xs:List AV}
theorem qy.notM (h:qy st v e xs):cJ v:=by
 rcases h with rfl|⟨_,rfl,_⟩<;>trivial
theorem qy.ok (h:qy st v e xs)(g:Option Bool):okM g v=True:=bR h.notM
theorem qy.un (h:qy st v e xs):unm v=v:=cp h.notM
theorem qy.len (h:qy st v e xs):lX v= .int .i64 xs.length:=by
 rcases h with rfl|⟨_,rfl,_⟩<;>rfl
theorem qy.ext (h:qy σ v e xs)(hx:Ext σ st):qy st v e xs:=by
 rcases h with h|⟨id,h1,h2⟩
 ·exact .inl h
 ·exact .inr ⟨id,h1,by rw[(Fr.ext (F:=[]) hx).old id (List.getElem?_eq_some_iff.1 h2).1 (by simp)];exact h2⟩
theorem qy.fO (h:qy st v e xs)(P:Program)(t:TypeId):fO P t v=((elT P t).isSome=true):=by
 rcases h with rfl|⟨_,rfl,_⟩<;>rfl
end
end Go.Av
namespace Go.Proofs.Tryz
open Go Go.Av
set_option maxRecDepth 10000
variable {W0 :World}
end Go.Proofs.Tryz
end
section
namespace Go.Av
structure oo (rid:Nat)(σ σ':ab):Prop where
 len:σ.length≤σ'.length
 old: ∀j,j<σ.length→j≠rid→σ'[j]?=σ[j]?
theorem oo.refl (b:Nat)(σ:ab):oo b σ σ:=⟨Nat.le_refl _,λ_ _ _=>rfl⟩
theorem oo.trans {b:Nat}{σ σ' σ'':ab}(h:oo b σ σ')(k:oo b σ' σ''):oo b σ σ'':=⟨Nat.le_trans h.len k.len,λj hj hn=>(k.old j (Nat.lt_of_lt_of_le hj h.len) hn).trans (h.old j hj hn)⟩
theorem oo.set {b:Nat}{σ σ':ab}(h:oo b σ σ')(o:Option cX):oo b σ (σ'.set b o):=⟨by simpa using h.len,λj hj hn=>by rw[List.getElem?_set_ne (λe=>hn e.symm)];exact h.old j hj hn⟩
theorem oo.app {b:Nat}{σ σ':ab}(h:oo b σ σ')(l:ab):oo b σ (σ'++l):=⟨by have:=h.len;simp;omega,λj hj hn=>by rw[List.getElem?_append_left (by have:=h.len;omega)];exact h.old j hj hn⟩
theorem oo.ext {b:Nat}{σ τ σ':ab}(h:oo b τ σ')(k:Ext σ τ)(hb:σ.length≤b):Ext σ σ':=by
 refine List.ext_getElem? λj=>?_
 rw[List.getElem?_take]
 split
 ·rename_i hj
  rw[h.old j (by have:=k.le;omega) (by omega),k.eq,List.getElem?_append_left hj]
 ·rw[List.getElem?_eq_none (by omega)]
theorem mw (u v:AV):lj true u v=u:=by
 unfold lj lT
 cases u<;>cases v<;>rfl
end Go.Av
namespace Go.Proofs.Tryz
open Go Go.Av
set_option maxRecDepth 10000
variable {W0 :World}
end Go.Proofs.Tryz
end
section
namespace Go.Proofs.Tryz
open Go Go.Av
set_option maxRecDepth 10000
variable {W0 :World}
def nlz (e:TypeId)(xs:List AV):AV:=match xs with
 |[]=>.az
 |x::r=>.sl e (x::r)
theorem wS {e:TypeId}{xs:List AV}(h:aU 0 (.sl e xs)):aU 0 (nlz e xs):=by
 cases xs with
 |nil=>exact .az
 |cons x r=>exact h
def N1 (l:List Clause):AV:=nlz 72 (l.map aC)
def FE (l:List Atom):AV:=nlz 81 (l.map aN)
def NY (l:List ia):AV:=nlz 147 (l.map cV)
end Go.Proofs.Tryz
end
section
namespace Go.Av
def hd0 :List UInt8→UInt8
 |[]=>0
 |c::_=>c
end Go.Av
namespace Go.Proofs.Tryz
open Go Go.Av
set_option maxRecDepth 10000
variable {W0 :World}
end Go.Proofs.Tryz
end
section
namespace Go.Proofs.Tryz
open Go Go.Av
end Go.Proofs.Tryz
namespace Go.Proofs.Tryz
open Go Go.Av
set_option maxRecDepth 10000
variable {W0 :World}
theorem Hd (l:List Atom)(hl:l.length≤1048576):ag prog W0 153 [nlz 81 (l.map aN)] (nlz 81 (l.map aN)):=by
 refine al [2] [] func153 rfl rfl ntmps153 rfl rfl (wS (gK pf l)) λhs σ=>?_
 cases l with
 |nil=>
  simp only[go_sem,simprocAttr,List.map_nil,nlz]
 |cons x c=>
  simp only[go_sem,simprocAttr,List.map_cons,nlz]
  refine bM.own 1048576 (by kernel_rfl) (.inr (.inl rfl)) (.sl _ _ _) (by simpa using hl) λv' σ' ha'=>?_
  have hb':=(aK.app (σ:=σ) ⟨.inr (.inl rfl),.refl _,λt h=>by cases h⟩ ha')
  simp only[go_sem,simprocAttr,hb'.ok,hb'.un]
  exact⟨hb'.bZ,hb'.ext⟩
theorem HV (l:List ia)(hl:l.length≤1048576):ag prog W0 154 [nlz 147 (l.map cV)] (nlz 147 (l.map cV)):=by
 refine al [2] [] func154 rfl rfl ntmps154 rfl rfl (wS (gK s5 l)) λhs σ=>?_
 cases l with
 |nil=>
  simp only[go_sem,simprocAttr,List.map_nil,nlz]
 |cons x c=>
  simp only[go_sem,simprocAttr,List.map_cons,nlz]
  refine bM.own 1048576 (by kernel_rfl) (.inr (.inl rfl)) (.sl _ _ _) (by simpa using hl) λv' σ' ha'=>?_
  have hb':=(aK.app (σ:=σ) ⟨.inr (.inl rfl),.refl _,λt h=>by cases h⟩ ha')
  simp only[go_sem,simprocAttr,hb'.ok,hb'.un]
  exact⟨hb'.bZ,hb'.ext⟩
theorem Ex (l:List Atom)(hl:l.length≤1048576):ag prog W0 152 [nlz 81 (l.map aN)] (nlz 81 (l.map aN)):=by
 refine al [2] [] func152 rfl rfl ntmps152 rfl rfl (wS (gK pf l)) λhs σ=>?_
 cases l with
 |nil=>
  simp only[go_sem,simprocAttr,List.map_nil,nlz]
 |cons x c=>
  simp only[go_sem,simprocAttr,List.map_cons,nlz]
  refine bM.own 1048576 (by kernel_rfl) (.inr (.inl rfl)) (.sl _ _ _) (by simpa using hl) λv' σ' ha'=>?_
  have hb':=(aK.app (σ:=σ) ⟨.inr (.inl rfl),.refl _,λt h=>by cases h⟩ ha')
  simp only[go_sem,simprocAttr,hb'.ok,hb'.un]
  exact⟨hb'.bZ,hb'.ext⟩
end Go.Proofs.Tryz
end
section
namespace Go.Proofs.Tryz
open Go Go.Av
set_option maxRecDepth 10000
variable {W0 :World}
def Th (p:Pkg):AV:=.agg 54 [.str p.name,.str p.ver,N1 p.pre,N1 p.dep,N1 p.rcm,FE p.con,FE p.brk,NY p.dI,.bool p.ess]
def W8 (x:aG):AV:=.agg 56 [Th x.pkg,.bool x.Jh,.bool x.hold]
end Go.Proofs.Tryz
end
section
namespace Go.Av
theorem E5 {α:Type}{g:α→Nat}: ∀{l:List α} {a:α},a∈l→g a≤(l.map g).sum
 |b::l,a,h=>by
  rcases List.mem_cons.1 h with rfl|h
  ·simp
  ·have:=E5 (g:=g) h
   simp;omega
theorem Gh {α:Type}{g h:α→Nat}(hg: ∀a,g a≤h a): ∀l:List α,(l.map g).sum≤(l.map h).sum
 |[]=>by simp
 |a::l=>by
  have:=Gh hg l
  have:=hg a
  simp;omega
structure Mq (s:Stz):Prop where
 ln: -9223372036854775808≤s.line
 fl:s.fields.length≤1048576
 sz:(s.fields.map λf=>f.lines.length).sum≤1048574
 fd: ∀f∈s.fields,wZ f.lines+f.lines.length≤140737488355328∧(Lt f.name=7∨(ml f.lines).length≤1048574)
end Go.Av
namespace Go.Proofs.Tryz
open Go Go.Av
set_option maxRecDepth 10000
variable {W0 :World}
end Go.Proofs.Tryz
end
section
namespace Go.Av
structure Mg (s:Stz):Prop where
 ln: -9223372036854775808≤s.line
 fl:s.fields.length≤1048576
 sz:(s.fields.map λf=>wZ f.lines+f.lines.length).sum≤1048574
theorem Mg.wide {s:Stz}(h:Mg s):Mq s:=by
 have hs:=Gh (g:=λf:Fld=>f.lines.length) (h:=λf:Fld=>wZ f.lines+f.lines.length) (λf=>by omega) s.fields
 refine⟨h.ln,h.fl,Nat.le_trans hs h.sz,λf hf=>?_⟩
 have:=Nat.le_trans (E5 (g:=λf:Fld=>wZ f.lines+f.lines.length) hf) h.sz
 exact⟨Nat.le_trans this (by decide),.inr (Nat.le_trans (DL _) this)⟩
end Go.Av
namespace Go.Proofs.Tryz
open Go Go.Av
set_option maxRecDepth 10000
variable {W0 :World}
theorem HA (p:Pkg):Sub (Th p) (au p):=.agg rfl λi a b ha hb=>by
 have nz: ∀(e:TypeId) (xs:List AV),Sub (nlz e xs) (.sl e xs):=λe xs=>by
  cases xs with
  |nil=>exact .az _
  |cons x r=>exact .refl _
 match i,ha,hb with
 |0,ha,hb|1,ha,hb|8,ha,hb=>cases ha;cases hb;exact .refl _
 |2,ha,hb|3,ha,hb|4,ha,hb|5,ha,hb|6,ha,hb|7,ha,hb=>cases ha;cases hb;exact nz _ _
end Go.Proofs.Tryz
end
section
namespace Go.Proofs.Tryz
open Go Go.Av
set_option maxRecDepth 10000
variable {W0 :World}
def bD (x:aG):AV:=.agg 56 [au x.pkg,.bool x.Jh,.bool x.hold]
def bf (l:List aG):AV:=.sl 56 (l.map bD)
theorem BF (l:List aG)(hp: ∀x∈l,lp x.pkg):ag prog W0 34 [bf l] (.int .i64 (bS l)):=by
 refine al [2] [4] func34 rfl rfl ntmps34 rfl rfl (.int _ _) λhs σ=>?_
 have hl:=(aH (hs _ (List.mem_cons_self ..))).1
 simp only[go_sem,simprocAttr,bf,List.length_map]
 refine⟨λh=>ar (by rw[bS,if_pos ((me l 10).1 (by simpa using h))]),λh=>?_⟩
 have h10: ¬10<l.length:=λe=>by have:=(me l 10).2 e;omega
 refine ae.at [0] (.of (by kernel_rfl)) (λA=>Ext σ A.st∧orL (l.map λx=>aL x.pkg)=0) ?_ λB ⟨hst,h6⟩=>?_
 ·refine ae.upto [0,10,11] (.of (by kernel_rfl)) l.length (λi A=>A.env 12= .int .i64 i∧Ext σ A.st∧orL ((l.map λx=>aL x.pkg).drop i)=orL (l.map λx=>aL x.pkg)) 0 (Nat.zero_le _) ?_ λi B hi ⟨h8,hst,hI⟩=>?_
  ·simp only[go_sem,simprocAttr]
   simp[Ext.refl]
  simp only[go_sem,simprocAttr,h8,List.length_map]
  refine⟨λhc=>⟨hc,?_⟩,λhc=>?_⟩
  ·obtain⟨a,ha⟩:=get_some hc
   obtain⟨hlt,hae⟩:=List.getElem?_eq_some_iff.1 ha
   rw[List.drop_eq_getElem_cons (by simpa using hc),List.getElem_map,hae]at hI
   simp only[av ha]
   simp only[go_sem,simprocAttr,bD,h8,List.length_map]
   refine ak.fn (Ge a.pkg (hp a (List.mem_of_getElem? ha))) ?_
   simp only[go_sem,simprocAttr,h8]
   refine⟨λhq=>⟨ar ?_,hst.app _⟩,λhq=>⟨hc,ah hc hl,hst.app _,?_⟩⟩
   ·rw[orL,if_pos hq]at hI
    rw[bS,if_neg h10,if_pos (by rw[←hI];exact hq),hI]
   ·rw[←hI,orL,if_neg (by simpa using hq)]
  ·rw[List.drop_eq_nil_of_le (by simpa using hc)]at hI
   exact⟨hst,hI.symm⟩
 have hm:bS l=if jy l=true then 4 else 0:=by rw[bS,if_neg h10,if_neg (by simp[h6])]
 simp only[go_sem,simprocAttr,List.length_map]
 refine ae.upto [0] (.of (by kernel_rfl)) (max 1 l.length) (λi A=>A.env 6= .int .i64 i∧1≤i∧Ext σ A.st∧jy (l.drop (i-1))=jy l) 1 (Nat.le_max_left _ _) ?_ λi A hi ⟨h6',h1,hst',hI⟩=>?_
 ·simp only[go_sem,simprocAttr]
  exact hst
 simp only[go_sem,simprocAttr,h6',List.length_map]
 refine⟨λhc=>?_,λhc=>?_⟩
 ·have hc':i<l.length:=by omega
  obtain⟨j,rfl⟩: ∃j,i=j+1:=⟨i-1,by omega⟩
  obtain⟨a,ha⟩:=get_some (show j<l.length by omega)
  obtain⟨b,hb⟩:=get_some hc'
  have hw:IntKind.i64.wrap (((j+1:Nat):Int)-1)=(j:Nat):=by rw[aE (by rw[aq]at hl;omega)];omega
  simp only[hw]
  simp only[go_sem,simprocAttr,h6',List.length_map,av ha,av hb,bD,au]
  have hd:l.drop j=a::l.drop (j+1):=by rw[List.drop_eq_getElem_cons (by omega)];congr 1;exact(List.getElem?_eq_some_iff.1 ha).2
  have hd1:l.drop (j+1)=b::l.drop (j+1+1):=by rw[List.drop_eq_getElem_cons hc'];congr 1;exact(List.getElem?_eq_some_iff.1 hb).2
  have hI':jy (l.drop j)=jy l:=hI
  rw[hd,hd1,jy,←hd1]at hI'
  refine⟨.of (by kernel_rfl),by omega,hc',λhq=>⟨ar ?_,hst'⟩,λhq=>⟨by omega,ah hc' hl,hst',?_⟩⟩
  ·rw[hm,←hI',hq,if_pos (by simp)]
  ·rw[←hI',hq];simp
 ·have hn:jy l=false:=by
   rw[←hI]
   have hlen:(l.drop (i-1)).length≤1:=by rw[List.length_drop];omega
   generalize l.drop (i-1)=r at hlen
   match r,hlen with
   |[],_=>rfl
   |[x],_=>rfl
  exact⟨ar (by rw[hm,hn];rfl),hst'⟩
theorem Bs (l:List aG):ag prog W0 21 [bf l] (.int .i64 (bS l)):=by
 refine al [2] [4] func21 rfl rfl ntmps21 rfl rfl (.int _ _) λhs σ=>?_
 have hl:=(aH (hs _ (List.mem_cons_self ..))).1
 simp only[go_sem,simprocAttr,bf,List.length_map]
 refine⟨λh=>ar (by rw[bS,if_pos ((me l 10).1 (by simpa using h))]),λh=>?_⟩
 have h10: ¬10<l.length:=λe=>by have:=(me l 10).2 e;omega
 refine ae.at [0] (.of (by kernel_rfl)) (λA=>Ext σ A.st∧orL (l.map λx=>aL x.pkg)=0) ?_ λB ⟨hst,h6⟩=>?_
 ·refine ae.upto [0,10,11] (.of (by kernel_rfl)) l.length (λi A=>A.env 12= .int .i64 i∧Ext σ A.st∧orL ((l.map λx=>aL x.pkg).drop i)=orL (l.map λx=>aL x.pkg)) 0 (Nat.zero_le _) ?_ λi B hi ⟨h8,hst,hI⟩=>?_
  ·simp only[go_sem,simprocAttr]
   simp[Ext.refl]
  simp only[go_sem,simprocAttr,h8,List.length_map]
  refine⟨λhc=>⟨hc,?_⟩,λhc=>?_⟩
  ·obtain⟨a,ha⟩:=get_some hc
   obtain⟨hlt,hae⟩:=List.getElem?_eq_some_iff.1 ha
   rw[List.drop_eq_getElem_cons (by simpa using hc),List.getElem_map,hae]at hI
   simp only[av ha]
   simp only[go_sem,simprocAttr,bD,h8,List.length_map]
   refine ak.fn (AA a.pkg) ?_
   simp only[go_sem,simprocAttr,h8]
   refine⟨λhq=>⟨ar ?_,hst.app _⟩,λhq=>⟨hc,ah hc hl,hst.app _,?_⟩⟩
   ·rw[orL,if_pos hq]at hI
    rw[bS,if_neg h10,if_pos (by rw[←hI];exact hq),hI]
   ·rw[←hI,orL,if_neg (by simpa using hq)]
  ·rw[List.drop_eq_nil_of_le (by simpa using hc)]at hI
   exact⟨hst,hI.symm⟩
 have hm:bS l=if jy l=true then 4 else 0:=by rw[bS,if_neg h10,if_neg (by simp[h6])]
 simp only[go_sem,simprocAttr,List.length_map]
 refine ae.upto [0,24] (.of (by kernel_rfl)) l.length (λi A=>A.env 25= .int .i64 i∧Ext σ A.st∧jy (l.drop (i-1))=jy l) 0 (Nat.zero_le _) ?_ λi A hi ⟨h6',hst',hI⟩=>?_
 ·simp only[go_sem,simprocAttr]
  exact hst
 simp only[go_sem,simprocAttr,h6',List.length_map]
 refine⟨λhc=>?_,λhc=>?_⟩
 ·cases i with
  |zero=>
   simp only[go_sem,simprocAttr,h6',List.length_map,rP]
   exact⟨.of (by kernel_rfl),hc,hst'⟩
  |succ j=>
   obtain⟨a,ha⟩:=get_some (show j<l.length by omega)
   obtain⟨b,hb⟩:=get_some hc
   have hw:IntKind.i64.wrap (((j+1:Nat):Int)-1)=(j:Nat):=by rw[aE (by rw[aq]at hl;omega)];omega
   have hgt:decide ((0:Int)<((j+1:Nat):Int))=true:=decide_eq_true (by omega)
   simp only[hw,hgt]
   simp only[go_sem,simprocAttr,h6',List.length_map,av ha,av hb,bD,au]
   have hd:l.drop j=a::l.drop (j+1):=by rw[List.drop_eq_getElem_cons (by omega)];congr 1;exact(List.getElem?_eq_some_iff.1 ha).2
   have hd1:l.drop (j+1)=b::l.drop (j+1+1):=by rw[List.drop_eq_getElem_cons hc];congr 1;exact(List.getElem?_eq_some_iff.1 hb).2
   have hI':jy (l.drop j)=jy l:=hI
   rw[hd,hd1,jy,←hd1]at hI'
   refine⟨.of (by kernel_rfl),λ_=>by omega,λ_=>hc,λhq=>⟨ar ?_,hst'⟩,λhq=>⟨hc,ah hc hl,hst',?_⟩⟩
   ·rw[hm,←hI',hq,if_pos (by simp)]
   ·rw[←hI',hq];simp
 ·have hn:jy l=false:=by
   rw[←hI]
   have hlen:(l.drop (i-1)).length≤1:=by rw[List.length_drop];omega
   generalize l.drop (i-1)=r at hlen
   match r,hlen with
   |[],_=>rfl
   |[x],_=>rfl
  exact⟨ar (by rw[hm,hn];rfl),hst'⟩
end Go.Proofs.Tryz
end
section
namespace Go.Proofs.Tryz
open Go Go.Av
set_option maxRecDepth 10000
variable {W0 :World}
theorem HT (x:aG):Sub (W8 x) (bD x):=.agg rfl λi a b ha hb=>by
 match i,ha,hb with
 |0,ha,hb=>cases ha;cases hb;exact HA _
 |1,ha,hb|2,ha,hb=>cases ha;cases hb;exact .refl _
theorem w9 (x:aG):aU 0 (bD x):=.agg λy hy=>by
 simp at hy
 rcases hy with rfl|rfl|rfl
 ·exact r7 _
 ·exact .bool _
 ·exact .bool _
theorem yZ (l:List aG):aU 0 (bf l):=gK w9 l
end Go.Proofs.Tryz
end
section
namespace Go.Proofs.Tryz
open Go Go.Av
set_option maxRecDepth 10000
variable {W0 :World}
theorem ye (a b:List Atom):ag prog W0 87 [aC a,aC b] (.bool (decide (a=b))):=by
 refine al [4] [] func87 rfl rfl ntmps87 rfl rfl (.bool _) λhs σ=>?_
 have hl:=(aH (hs _ (List.mem_cons_self ..))).1
 simp only[go_sem,simprocAttr,aC,List.length_map]
 refine⟨λh=>ai (decide_eq_false λe=>h (by rw[e])).symm,λh=>?_⟩
 have hab:a.length=b.length:=by omega
 refine ae.upto [0,1,12] (.of (by kernel_rfl)) a.length (λi A=>A.env 13= .int .i64 i∧A.st=σ∧a.take i=b.take i) 0 (Nat.zero_le _) ?_ λi B hi ⟨h13,hst,hI⟩=>?_
 ·simp only[go_sem,simprocAttr]
  simp
 simp only[go_sem,simprocAttr,h13,hst,List.length_map]
 refine⟨λhc=>?_,λhc=>ai ?_⟩
 ·obtain⟨x,hx⟩:=get_some hc
  obtain⟨y,hy⟩:=get_some (show i<b.length by omega)
  simp only[go_sem,simprocAttr,h13,hst,List.length_map,av hx,av hy]
  exact⟨.of (by kernel_rfl),hc,by omega,λhne=>ai (decide_eq_false (mz hx hy hne)).symm,λe=>⟨hc,ah hc hl,iL hI hx (e▸hy)⟩⟩
 ·rw[List.take_of_length_le hc,List.take_of_length_le (by omega)]at hI
  exact(decide_eq_true hI).symm
theorem sS (a b:List Atom):ag prog W0 88 [aC a,aC b] (.bool (decide (a=b))):=by
 refine al [4] [] func88 rfl rfl ntmps88 rfl rfl (.bool _) λhs σ=>?_
 have hl:=(aH (hs _ (List.mem_cons_self ..))).1
 simp only[go_sem,simprocAttr,aC,List.length_map]
 refine⟨λh=>ai (decide_eq_false λe=>h (by rw[e])).symm,λh=>?_⟩
 have hab:a.length=b.length:=by omega
 refine ae.upto [0,1,12] (.of (by kernel_rfl)) a.length (λi A=>A.env 13= .int .i64 i∧A.st=σ∧a.take i=b.take i) 0 (Nat.zero_le _) ?_ λi B hi ⟨h13,hst,hI⟩=>?_
 ·simp only[go_sem,simprocAttr]
  simp
 simp only[go_sem,simprocAttr,h13,hst,List.length_map]
 refine⟨λhc=>?_,λhc=>ai ?_⟩
 ·obtain⟨x,hx⟩:=get_some hc
  obtain⟨y,hy⟩:=get_some (show i<b.length by omega)
  simp only[go_sem,simprocAttr,h13,hst,List.length_map,av hx,av hy]
  exact⟨.of (by kernel_rfl),hc,by omega,λhne=>ai (decide_eq_false (mz hx hy hne)).symm,λe=>⟨hc,ah hc hl,iL hI hx (e▸hy)⟩⟩
 ·rw[List.take_of_length_le hc,List.take_of_length_le (by omega)]at hI
  exact(decide_eq_true hI).symm
theorem BQ (a b:List ia):ag prog W0 89 [cn a,cn b] (.bool (decide (a=b))):=by
 refine al [4] [] func89 rfl rfl ntmps89 rfl rfl (.bool _) λhs σ=>?_
 have hl:=(aH (hs _ (List.mem_cons_self ..))).1
 simp only[go_sem,simprocAttr,cn,List.length_map]
 refine⟨λh=>ai (decide_eq_false λe=>h (by rw[e])).symm,λh=>?_⟩
 have hab:a.length=b.length:=by omega
 refine ae.upto [0,1,12] (.of (by kernel_rfl)) a.length (λi A=>A.env 13= .int .i64 i∧A.st=σ∧a.take i=b.take i) 0 (Nat.zero_le _) ?_ λi B hi ⟨h13,hst,hI⟩=>?_
 ·simp only[go_sem,simprocAttr]
  simp
 simp only[go_sem,simprocAttr,h13,hst,List.length_map]
 refine⟨λhc=>?_,λhc=>ai ?_⟩
 ·obtain⟨x,hx⟩:=get_some hc
  obtain⟨y,hy⟩:=get_some (show i<b.length by omega)
  simp only[go_sem,simprocAttr,h13,hst,List.length_map,av hx,av hy]
  exact⟨.of (by kernel_rfl),hc,by omega,λhne=>ai (decide_eq_false (mz hx hy hne)).symm,λe=>⟨hc,ah hc hl,iL hI hx (e▸hy)⟩⟩
 ·rw[List.take_of_length_le hc,List.take_of_length_le (by omega)]at hI
  exact(decide_eq_true hI).symm
theorem Dv (a b:List Atom):ag prog W0 86 [aC a,aC b] (.bool (decide (a=b))):=by
 refine al [4] [] func86 rfl rfl ntmps86 rfl rfl (.bool _) λhs σ=>?_
 simp only[go_sem,simprocAttr,aC]
 refine ak.fn (ye a b) ?_
 simp only[go_sem,simprocAttr]
theorem Dl (a b:List Clause)(g:FuncId)(h: ∀c∈a,∀d∈b,ag prog W0 g [aC c,aC d] (.bool (decide (c=d)))):ag prog W0 85 [ax a,ax b,.fn g []] (.bool (decide (a=b))):=by
 refine al [6] [] func85 rfl rfl ntmps85 rfl rfl (.bool _) λhs σ=>?_
 have hl:=(aH (hs _ (List.mem_cons_self ..))).1
 simp only[go_sem,simprocAttr,ax,List.length_map]
 refine⟨λh=>ai (decide_eq_false λe=>h (by rw[e])).symm,λhne=>?_⟩
 have hab:a.length=b.length:=by omega
 refine ae.upto [1,2,15,16] (.of (by kernel_rfl)) a.length (λi A=>A.env 17= .int .i64 i∧A.st=σ∧a.take i=b.take i) 0 (Nat.zero_le _) ?_ λi B hi ⟨h13,hst,hI⟩=>?_
 ·simp only[go_sem,simprocAttr]
  simp
 simp only[go_sem,simprocAttr,h13,hst,List.length_map]
 refine⟨λhc=>⟨hc,?_⟩,λhc=>ai ?_⟩
 ·obtain⟨x,hx⟩:=get_some hc
  obtain⟨y,hy⟩:=get_some (show i<b.length by omega)
  simp only[go_sem,simprocAttr,h13,hst,List.length_map,av hx,av hy,aC]
  refine⟨by omega,?_⟩
  refine ak.pure (h x (List.mem_of_getElem? hx) y (List.mem_of_getElem? hy)) ?_
  simp only[go_sem,simprocAttr,h13,hst,List.length_map]
  exact⟨λhne=>ai (decide_eq_false (mz hx hy hne)).symm,λe=>⟨hc,ah hc hl,iL hI hx (e▸hy)⟩⟩
 ·rw[List.take_of_length_le hc,List.take_of_length_le (by omega)]at hI
  exact(decide_eq_true hI).symm
theorem tf (a b:List Clause):ag prog W0 84 [ax a,ax b] (.bool (decide (a=b))):=by
 refine al [4] [] func84 rfl rfl ntmps84 rfl rfl (.bool _) λhs σ=>?_
 simp only[go_sem,simprocAttr,ax]
 refine ak.fn (Dl a b _ λc _ d _=>Dv c d) ?_
 simp only[go_sem,simprocAttr]
theorem By (p q:Pkg):ag prog W0 38 [au p,au q] (.bool (decide (p=q))):=by
 refine al [4] [2,3] func38 rfl rfl ntmps38 rfl rfl (.bool _) λhs σ=>?_
 simp only[List.append_eq,List.cons_append,List.nil_append]
 simp only[go_sem,simprocAttr,au]
 refine aA.fnG (λ_=>tf _ _) ?_
 simp only[go_sem,simprocAttr]
 refine aA.fnG (λ_=>tf _ _) ?_
 simp only[go_sem,simprocAttr]
 refine aA.fnG (λ_=>tf _ _) ?_
 simp only[go_sem,simprocAttr]
 refine aA.fnG (λ_=>sS _ _) ?_
 simp only[go_sem,simprocAttr]
 refine aA.fnG (λ_=>sS _ _) ?_
 simp only[go_sem,simprocAttr]
 refine aA.fnG (λ_=>BQ _ _) ?_
 simp only[go_sem,simprocAttr]
 refine ai ?_
 obtain⟨a1,a2,a3,a4,a5,a6,a7,a8,a9⟩:=p
 obtain⟨b1,b2,b3,b4,b5,b6,b7,b8,b9⟩:=q
 rw[Bool.eq_iff_iff]
 simp only[Bool.and_eq_true,decide_eq_true_eq,beq_iff_eq,Pkg.mk.injEq]
 constructor
 ·rintro⟨h1,h2,h3,h4,h5,h6,h7,h8,h9⟩
  simp_all
 ·intro h
  simp_all
end Go.Proofs.Tryz
end
section
namespace Go.Av
theorem sa {c:Clause}(h:j5 c=true):c≠[]∧c.length≤6∧ ∀a∈c,bT a=true:=by
 unfold j5 at h
 simp only[Bool.and_eq_true,decide_eq_true_eq,List.all_eq_true]at h
 exact⟨λe=>h.1.1 (by rw[e];rfl),h.1.2,h.2⟩
end Go.Av
end
section
namespace Go.Proofs.Tryz
open Go Go.Av
set_option maxRecDepth 10000
variable {W0 :World}
theorem kf (e:TypeId)(a:Option Addr)(cap:Nat)(h:cap≤maxLen)(w:World)(C:Ctx):aF prog w C (.sl e []) (.slice a 0 cap):=
 .one rfl (Rel.sl (xs:=[]) (λ_=>[]) (Nat.zero_le _) h (λi x h=>by simp at h) (λi x h=>by simp at h) λhn=>absurd hn (by simp))
theorem C7 :ag prog W0 153 [aC []] (aC []):=by
 refine nV func153 (by kernel_rfl) (by kernel_rfl) λw C vs hvl hv=>?_
 obtain _|⟨v1,_|⟨_,_⟩⟩:=vs<;>simp at hvl
 have h1:=(hv 0 _ _ rfl rfl).aP rfl
 cases h1
 rename_i a cap cf hc hm hr hz hs
 simp only[List.map_nil,List.length_nil]at hm
 show Calls _ _ #[Value.slice a 0 cap] _ _
 have q30: ∀(w:World) (a:Option Addr) (n c n' c':Nat),(binOp .eql 51 (.slice a n c) (.slice none n' c')).run prog w= .ok (.bool a.isNone) w:=λw a n c n' c'=>Lib.run_eql_slice_nil w _ _ a n c n' c' Tryz.underlying51
 clear hv hr hz hs
 cases a
 all_goals go_enter Tryz.func153,Tryz.ntmps153
 all_goals go_wp2
 all_goals go_ret
 ·exact⟨_,rfl,kf _ _ _ (Nat.zero_le _),RowKit.Below.refl _ w⟩
 ·exact⟨_,rfl,kf _ _ _ (Nat.zero_le _),(RowKit.Below.refl _ w).alloc (Nat.le_refl _) _⟩
theorem Db :ag prog W0 154 [cn []] (cn []):=by
 refine nV func154 (by kernel_rfl) (by kernel_rfl) λw C vs hvl hv=>?_
 obtain _|⟨v1,_|⟨_,_⟩⟩:=vs<;>simp at hvl
 have h1:=(hv 0 _ _ rfl rfl).aP rfl
 cases h1
 rename_i a cap cf hc hm hr hz hs
 simp only[List.map_nil,List.length_nil]at hm
 show Calls _ _ #[Value.slice a 0 cap] _ _
 have q30: ∀(w:World) (a:Option Addr) (n c n' c':Nat),(binOp .eql 52 (.slice a n c) (.slice none n' c')).run prog w= .ok (.bool a.isNone) w:=λw a n c n' c'=>Lib.run_eql_slice_nil w _ _ a n c n' c' Tryz.underlying52
 clear hv hr hz hs
 cases a
 all_goals go_enter Tryz.func154,Tryz.ntmps154
 all_goals go_wp2
 all_goals go_ret
 ·exact⟨_,rfl,kf _ _ _ (Nat.zero_le _),RowKit.Below.refl _ w⟩
 ·exact⟨_,rfl,kf _ _ _ (Nat.zero_le _),(RowKit.Below.refl _ w).alloc (Nat.le_refl _) _⟩
theorem Bl :ag prog W0 152 [aC []] (aC []):=by
 refine nV func152 (by kernel_rfl) (by kernel_rfl) λw C vs hvl hv=>?_
 obtain _|⟨v1,_|⟨_,_⟩⟩:=vs<;>simp at hvl
 have h1:=(hv 0 _ _ rfl rfl).aP rfl
 cases h1
 rename_i a cap cf hc hm hr hz hs
 simp only[List.map_nil,List.length_nil]at hm
 show Calls _ _ #[Value.slice a 0 cap] _ _
 have q30: ∀(w:World) (a:Option Addr) (n c n' c':Nat),(binOp .eql 72 (.slice a n c) (.slice none n' c')).run prog w= .ok (.bool a.isNone) w:=λw a n c n' c'=>Lib.run_eql_slice_nil w _ _ a n c n' c' Tryz.underlying72
 clear hv hr hz hs
 cases a
 all_goals go_enter Tryz.func152,Tryz.ntmps152
 all_goals go_wp2
 all_goals go_ret
 ·exact⟨_,rfl,kf _ _ _ (Nat.zero_le _),RowKit.Below.refl _ w⟩
 ·exact⟨_,rfl,kf _ _ _ (Nat.zero_le _),(RowKit.Below.refl _ w).alloc (Nat.le_refl _) _⟩
theorem mP (l:List Atom)(hl:l.length≤1048576):ag prog W0 153 [aC l] (aC l):=by
 cases l with
 |nil=>exact C7
 |cons x c=>exact Hd (x::c) hl
theorem vr (l:List ia)(hl:l.length≤1048576):ag prog W0 154 [cn l] (cn l):=by
 cases l with
 |nil=>exact Db
 |cons x c=>exact HV (x::c) hl
theorem ua (l:List Atom)(hl:l.length≤1048576):ag prog W0 152 [aC l] (aC l):=by
 cases l with
 |nil=>exact Bl
 |cons x c=>exact Ex (x::c) hl
end Go.Proofs.Tryz
end
section
namespace Go.Av
def nK.fit :nK→Prop
 | .count _=>False
 | .atoms l=>l.length≤1048576
 | .GI l=>l.length≤1048576
 |_=>True
end Go.Av
namespace Go.Proofs.Tryz
open Go Go.Av
set_option maxRecDepth 10000
variable {W0 :World}
end Go.Proofs.Tryz
end
section
namespace Go.Av
theorem ag.GO {P:Program}{W0:World}{f:FuncId}{args:List AV}{r:AV}(hr:aU 0 r)(h: ∀σ,aY P W0 f args σ λr' σ'=>cR r' r∧Ext σ σ'):ag P W0 f args r:=λσ w C vs hst hl hv=>
 (h σ w C vs hst hl hv).mono λe w' ⟨v,r',σ',C',he,⟨hw,hx⟩,hs,hrv,hstep⟩=>by
  have hs2:aB P W0 w' (C'.dB σ.length) σ:=by
   have:=hs.dB (n:=σ.length) hx.le λid te xs hid hss=>hst.ids (show σ[id]?=some (some (.cells te xs)) by
    have e:=congrArg (·[id]?) hx
    simp only[List.getElem?_take,if_pos hid]at e
    rw[←e];exact hss)
   rwa [hx]at this
  exact⟨v,r,σ,C'.dB σ.length,he,⟨rfl,rfl⟩,hs2,(hrv.bZ hw).dB (dW (Nat.zero_le _) hr),hstep.dB (by rw[hst.nx];exact Nat.le_refl _)⟩
end Go.Av
namespace Go.Proofs.Tryz
open Go Go.Av
set_option maxRecDepth 10000
variable {W0 :World}
def E8 :List UInt8:=[80,97,99,107,97,103,101]
def Gi :List UInt8:=[86,101,114,115,105,111,110]
def Xj :List UInt8:=[69,115,115,101,110,116,105,97,108]
def W7 :List UInt8:=[80,114,101,45,68,101,112,101,110,100,115]
def Xx :List UInt8:=[68,101,112,101,110,100,115]
def W9 :List UInt8:=[82,101,99,111,109,109,101,110,100,115]
def Xk :List UInt8:=[67,111,110,102,108,105,99,116,115]
def W6 :List UInt8:=[66,114,101,97,107,115]
def Tc :List UInt8:=[80,114,111,118,105,100,101,115]
structure LiN (l:List Clause):Prop where
 len:l.length≤1048576
 cl: ∀c∈l,c.length≤1048576
end Go.Proofs.Tryz
end
section
namespace Go.Av
def B7 (n:List UInt8)(k:Int)(s:List UInt8):List UInt8:=
 if 0<k∧s=[]then [32,46]else if 0<k then 32::s else if s=[]then n++[58]else n++[58,32]++s
end Go.Av
namespace Go.Proofs.Tryz
open Go Go.Av
set_option maxRecDepth 10000
variable {W0 :World}
end Go.Proofs.Tryz
end
section
namespace Go.Av
def BT (k:Int)(s:List UInt8):Bool:=!(decide (0≤LQ s)|| !(mb s==s)||(decide (0<k)&&s==[46]))&&(decide (0<k)||kh s==s)
end Go.Av
namespace Go.Proofs.Tryz
open Go Go.Av
set_option maxRecDepth 10000
variable {W0 :World}
end Go.Proofs.Tryz
end
section
namespace Go.Av
def Ab {α:Type}(q:Nat→α→Bool):Nat→List α→Bool
 |_,[]=>true
 |i,x::r=>q i x&&Ab q (i+1) r
def vT (f:Fld)(ahead:List Fld):Int:=
 if ((EX f.name:Int)==0||(EX f.name:Int) !=(f.name.length:Int)||(f.lines.length:Int)==0)=true then 3
 else if Ab (λk s=>BT k s) 0 f.lines=false then 3
 else if TM ahead f.name=true then 4
 else if Ab (λk s=>decide ((B7 f.name k s).length≤1000)) 0 f.lines=false then 2
 else 0
end Go.Av
namespace Go.Proofs.Tryz
open Go Go.Av
set_option maxRecDepth 10000
variable {W0 :World}
end Go.Proofs.Tryz
end
section
namespace Go.Av
open Go.Proofs.Tryz
def prB (c:UInt8):Bool:=decide (32≤c.toNat)&&decide (c.toNat≤126)
theorem C4 : ∀(f:Nat) {s:List UInt8} (i:Nat),(∀c∈s,prB c=true)→CD f s i= -1
 |0,_,_,_=>rfl
 |_+1,[],_,_=>rfl
 |f+1,c::r,i,h=>by
  have hc:=h c (by simp)
  simp only[prB,Bool.and_eq_true,decide_eq_true_eq]at hc
  have h1:vn (c::r)=1:=zn (by omega)
  have h2:MB c=false:=by
   unfold MB
   rw[decide_eq_false (by omega),decide_eq_false (show ¬c.toNat=127 by omega)]
   rfl
  rw[CD,h1,h2,if_neg (by simp)]
  exact C4 f _ λx hx=>h x (by simpa using .inr hx)
theorem Fs {s:List UInt8}(h: ∀c∈s,prB c=true):LQ s= -1:=C4 _ _ h
structure Edge (s:List UInt8):Prop where
 hd: ∃c t,s=c::t∧xJ c≠1
 tl: ∃u c,s=u++[c]∧xJ c≠1
theorem Edge.plain {s:List UInt8}(hne:s≠[])(h: ∀c∈s,xJ c=0):Edge s:=by
 constructor
 ·cases s with
  |nil=>exact absurd rfl hne
  |cons c t=>exact⟨c,t,rfl,by rw[h c (by simp)];decide⟩
 ·rcases List.eq_nil_or_concat s with rfl|⟨u,c,rfl⟩
  ·exact absurd rfl hne
  ·rw[List.concat_eq_append]at *
   exact⟨u,c,rfl,by rw[h c (by simp)];decide⟩
theorem Edge.ne {s:List UInt8}(h:Edge s):s≠[]:=by
 obtain⟨c,t,rfl,_⟩:=h.hd
 simp
theorem Edge.app {s m t:List UInt8}(hs:Edge s)(ht:Edge t):Edge (s++(m++t)):=by
 obtain⟨c,a,rfl,h1⟩:=hs.hd
 obtain⟨u,d,rfl,h2⟩:=ht.tl
 exact⟨⟨c,a++(m++(u++[d])),rfl,h1⟩,⟨(c::a)++(m++u),d,by simp,h2⟩⟩
theorem Edge.mb {s:List UInt8}(h:Edge s):mb s=s:=by
 obtain⟨u,c,rfl,h1⟩:=h.tl
 rw[A7,if_neg (by simp[wsB,h1])]
theorem Edge.skip {s:List UInt8}(h:Edge s):kg s=s:=by
 obtain⟨c,t,rfl,h1⟩:=h.hd
 exact JF h1
theorem Edge.trim {s:List UInt8}(h:Edge s):kh s=s:=by
 unfold kh
 rw[h.skip,h.mb]
theorem kN {l:List Clause}(h:cg l=0):l.length≤12∧ ∀c∈l,j5 c=true:=by
 unfold cg at h
 split at h
 ·cases h
 rename_i h1
 split at h
 ·cases h
 rename_i h2
 refine⟨by omega,λc hc=>?_⟩
 have h3: ¬(6<c.length):=λh6=>h1 (.inr (List.any_eq_true.2 ⟨c,hc,by simpa using h6⟩))
 have h4: ¬((decide (c.length=0)||c.any λa=>!bT a)=true):=λh6=>h2 (List.any_eq_true.2 ⟨c,hc,h6⟩)
 simp only[Bool.or_eq_true,decide_eq_true_eq,List.any_eq_true,Bool.not_eq_true',not_or,not_exists,not_and,Bool.not_eq_false]at h4
 simp only[j5,Bool.and_eq_true,decide_eq_true_eq,List.all_eq_true]
 exact⟨⟨h4.1,by omega⟩,λa ha=>h4.2 a ha⟩
theorem lE {l:List Atom}(h:cg (single l)=0):l.length≤12∧ ∀a∈l,bT a=true:=by
 obtain⟨h1,h2⟩:=kN h
 refine⟨by simpa[single]using h1,λa ha=>?_⟩
 exact(sa (h2 [a] (List.mem_map.2 ⟨a,ha,rfl⟩))).2.2 a (by simp)
structure W4 (p:Pkg):Prop where
 name:dc p.name=true
 ver:bk p.ver=true
 pre:p.pre.length≤12∧ ∀c∈p.pre,j5 c=true
 dep:p.dep.length≤12∧ ∀c∈p.dep,j5 c=true
 rcm:p.rcm.length≤12∧ ∀c∈p.rcm,j5 c=true
 con:p.con.length≤12∧ ∀a∈p.con,bT a=true
 brk:p.brk.length≤12∧ ∀a∈p.brk,bT a=true
 dI:p.dI.length≤12∧ ∀x∈p.dI,bT (bG x)=true
theorem eK {p:Pkg}(h:aL p=0):W4 p:=by
 unfold aL at h
 split at h
 ·cases h
 rename_i h1
 simp only[Bool.or_eq_true,Bool.not_eq_true',not_or,Bool.not_eq_false]at h1
 have h2:=gg h
 obtain⟨g1,g2⟩:=lE (h2 (cg (single (p.dI.map bG))) (by simp))
 exact⟨h1.1,h1.2,kN (h2 _ (by simp)),kN (h2 _ (by simp)),kN (h2 _ (by simp)),lE (h2 _ (by simp)),lE (h2 _ (by simp)),by simpa using g1,λx hx=>g2 _ (List.mem_map.2 ⟨x,hx,rfl⟩)⟩
structure WZ (n t:List UInt8)(v:nK):Prop where
 uE:Edge t
 pr: ∀c∈t,prB c=true
 read:Us n t= .ok v
end Go.Av
end
section
namespace Go.Av
open Go.Proofs.Tryz
def Mv :List UInt8:=[83,116,97,116,101]
def Vn :List UInt8:=[72,111,108,100]
def Fh :List (List UInt8):=[E8,Gi,Xj,W7,Xx,W9,Xk,W6,Tc]
def sU :List (List UInt8):=Fh++[Mv,Vn]
structure FG (y:Fld×nK):Prop where
 fit: ∃t,y.1.lines=[t]∧WZ y.1.name t y.2
 name:y.1.name∈sU
end Go.Av
end
section
namespace Go.Av
open Go.Proofs.Tryz
def lnF (f:Fld):List UInt8:=B7 f.name 0 (f.lines.headD [])
theorem F6 : ∀n∈sU,n≠[]∧(∀c∈n,xJ c=0)∧(∀c∈n,prB c=true)∧EX n=n.length∧SN n=false:=by decide
structure LnF (y:Fld×nK)(t:List UInt8):Prop where
 lines:y.1.lines=[t]
 uE:Edge t
 pr: ∀c∈t,prB c=true
 name:y.1.name∈sU
 line:lnF y.1=y.1.name++58::32::t
theorem FG.ln {y:Fld×nK}(h:FG y): ∃t,LnF y t:=by
 obtain⟨t,h1,h2⟩:=h.fit
 refine⟨t,h1,h2.uE,h2.pr,h.name,?_⟩
 unfold lnF B7
 rw[h1]
 simp[h2.uE.ne]
theorem LnF.may {y:Fld×nK}{t:List UInt8}(h:LnF y t){ahead:List Fld}(ha:TM ahead y.1.name=false):vT y.1 ahead=if (lnF y.1).length≤1000 then 0 else 2:=by
 obtain⟨h1,h2,h3,h4,h5⟩:=F6 _ h.name
 have hl:y.1.name.length≠0:=λe=>h1 (List.length_eq_zero_iff.1 e)
 have ho:BT ((0:Nat):Int) t=true:=by
  unfold BT
  rw[Fs h.pr,h.uE.mb,h.uE.trim]
  simp
 unfold vT
 rw[h.lines]
 rw[if_neg,if_neg,if_neg (by rw[ha];decide)]
 ·simp only[Ab,Bool.and_true,decide_eq_false_iff_not]
  have e:B7 y.1.name ((0:Nat):Int) t=lnF y.1:=by
   unfold lnF
   rw[h.lines]
   rfl
  rw[e]
  by_cases hg:(lnF y.1).length≤1000
  ·rw[if_pos hg,if_neg (λh=>h hg)]
  ·rw[if_neg hg,if_pos hg]
 ·simp only[Ab,Bool.and_true,ho]
  decide
 ·rw[h4]
  simp[hl]
structure SG (L:List (Fld×nK)):Prop where
 ne:L≠[]
 len:L.length≤40
 fg: ∀y∈L,FG y
 pw:L.Pairwise λy z=>LO y.1.name z.1.name=false
theorem yU {l:List Pkg}(h:bg l=0):l.length≤24∧ ∀p∈l,aL p=0:=by
 unfold bg at h
 split at h
 ·cases h
 rename_i h1
 split at h
 ·rename_i h2;exact absurd h h2
 rename_i h2
 exact⟨by omega,λp hp=>gg (by omega) _ (List.mem_map.2 ⟨p,hp,rfl⟩)⟩
theorem oD {l:List aG}(h:bS l=0):l.length≤10∧ ∀x∈l,aL x.pkg=0:=by
 unfold bS at h
 split at h
 ·cases h
 rename_i h1
 split at h
 ·rename_i h2;exact absurd h h2
 rename_i h2
 exact⟨by omega,λx hx=>gg (Classical.not_not.1 h2) _ (List.mem_map.2 ⟨x,hx,rfl⟩)⟩
end Go.Av
end
section
namespace Go.Av
open Go.Proofs.Tryz
def fC (repo:List Pkg)(s:List aG):List Pkg:=s.map (·.pkg)++repo.filter λp=>match eo s p.name with
 |none=>true
 |some x=>!bm x.pkg.ver p.ver
def gn (repo:List Pkg)(s:List aG):List Pkg×Int:=
 if bg repo≠0 then([],bg repo)else if bS s≠0 then([],bS s)
 else if 24<(fC repo s).length∨10<(cG (fC repo s) []).length then([],12)else(cw (fC repo s),0)
theorem vA : ∀{s:List aG},jy s=false→s.Pairwise λx y=>Op.bytesLess x.pkg.name y.pkg.name=true
 |[],_=>.nil
 |[x],_=>List.pairwise_singleton _ _
 |x::y::r,h=>by
  rw[jy,Bool.or_eq_false_iff,Bool.not_eq_false']at h
  have ih:=vA h.2
  refine List.pairwise_cons.2 ⟨λz hz=>?_,ih⟩
  rcases List.mem_cons.1 hz with rfl|hz
  ·exact h.1
  ·exact fy h.1 ((List.pairwise_cons.1 ih).1 z hz)
theorem nt {s:List aG}(h:bS s=0):(s.map (·.pkg.name)).Nodup:=by
 have hd:jy s=false:=by
  unfold bS at h
  split at h
  ·cases h
  split at h
  ·rename_i h2;exact absurd h h2
  split at h
  ·cases h
  ·rename_i h3;simpa using h3
 rw[List.Nodup,List.pairwise_map]
 refine(vA hd).imp λ{x y} h e=>?_
 rw[e,er]at h
 cases h
theorem BV {l m:List Pkg}(h:l.Perm m):(cG l []).length=(cG m []).length:=by
 have hn:=λl:List Pkg=>eQ l [] List.nodup_nil
 refine((List.perm_ext_iff_of_nodup (hn l) (hn m)).2 λx=>?_).length_eq
 rw[fx,fx]
 constructor
 ·rintro(h1|⟨p,hp,e⟩)
  ·exact .inl h1
  ·exact .inr ⟨p,h.subset hp,e⟩
 ·rintro(h1|⟨p,hp,e⟩)
  ·exact .inl h1
  ·exact .inr ⟨p,h.symm.subset hp,e⟩
theorem vB {l:List Pkg}(h1:l.length≤24)(h2: ∀p∈l,aL p=0)(h3:tW l)(h4:(cG l []).length≤10):bg l=0:=by
 unfold bg
 rw[if_neg (by omega),if_neg,if_neg,if_neg (by omega)]
 ·rw[Bool.not_eq_true,lY]
  exact⟨by simp,h3⟩
 ·rw[Classical.not_not,rY]
  intro x hx
  obtain⟨p,hp,rfl⟩:=List.mem_map.1 hx
  exact h2 p hp
theorem AS {l m:List Pkg}(h:l.Perm m)(hd:tW l):tW m:=h.pairwise hd λ{a b} h=>by rw[mg];exact h
theorem Lb {repo:List Pkg}{s:List aG}(h:(gn repo s).2=0):bg (gn repo s).1=0∧lx (gn repo s).1∧(∀x∈s,x.pkg∈(gn repo s).1)∧bS s=0:=by
 unfold gn at h ⊢
 split at h
 ·rename_i h1;exact absurd h h1
 rename_i h1
 rw[if_neg h1]
 split at h
 ·rename_i h2;exact absurd h h2
 rename_i h2
 rw[if_neg h2]
 split at h
 ·cases h
 rename_i h3
 rw[if_neg h3]
 have h1:=Classical.not_not.1 h1
 have h2:=Classical.not_not.1 h2
 obtain⟨_,hr⟩:=yU h1
 obtain⟨_,he⟩:=oD h2
 obtain⟨hd,_⟩:=eV h1
 have hnm:=nt h2
 have hp:=eI (fC repo s)
 have hmay: ∀p∈fC repo s,aL p=0:=λp hp=>by
  unfold fC at hp
  rcases List.mem_append.1 hp with hp|hp
  ·obtain⟨x,hx,rfl⟩:=List.mem_map.1 hp
   exact he x hx
  ·exact hr p (List.mem_filter.1 hp).1
 have hnd:tW (fC repo s):=by
  refine List.pairwise_append.2 ⟨?_,List.Pairwise.sublist List.filter_sublist hd,λp hp q hq=>?_⟩
  ·rw[List.pairwise_map]
   rw[List.Nodup,List.pairwise_map]at hnm
   refine hnm.imp λ{x y} hxy=>?_
   unfold cL
   have:(x.pkg.name==y.pkg.name)=false:=by simpa using hxy
   rw[this,Bool.false_and]
  ·obtain⟨x,hx,rfl⟩:=List.mem_map.1 hp
   obtain⟨_,hq2⟩:=List.mem_filter.1 hq
   unfold cL
   by_cases hn:x.pkg.name=q.name
   ·have:=pq hnm hx
    rw[hn]at this
    rw[this]at hq2
    simp only[Bool.not_eq_true']at hq2
    rw[hq2,Bool.and_false]
   ·have:(x.pkg.name==q.name)=false:=by simpa using hn
    rw[this,Bool.false_and]
 have hv:uz (fC repo s):=λp hp=>by
  have:=eK (hmay p hp)
  exact this.ver
 refine⟨vB (by rw[hp.length_eq];omega) (λp hpm=>hmay p (hp.subset hpm)) (AS hp.symm hnd) (by rw[BV hp];omega),iT hv,λx hx=>hp.symm.subset ?_,h2⟩
 unfold fC
 exact List.mem_append_left _ (List.mem_map_of_mem hx)
end Go.Av
end
section
namespace Go.Av
open Go.Proofs.Tryz
theorem yo {k:Nat}{t:List Nat}(hs:t.Pairwise (· < ·))(hk: ∀i∈t,i<k):aV k (bH t)=t:=by
 have h2:(aV k (bH t)).Pairwise (· < ·):=List.Pairwise.sublist List.filter_sublist List.pairwise_lt_range
 refine List.Perm.eq_of_pairwise (le:=(· < ·)) (λa b _ _ h1 h2=>by omega) h2 hs ?_
 rw[List.perm_ext_iff_of_nodup (h2.imp λ{a b} h=>by omega) (hs.imp λ{a b} h=>by omega)]
 intro i
 rw[bK,cq,decide_eq_true_eq]
 exact⟨λh=>h.2,λh=>⟨hk i h,h⟩⟩
def vd (S:Nat):Nat:=jQ (aV 32 S)
def ltB (x y:List Nat×Nat):Bool:=lexB x.1 y.1||(x.1==y.1&&decide (vd y.2<vd x.2))
def wx (all:List Pkg)(s:List aG)(l:List aS)(up:Bool):List (List Nat×Nat):=(nk (ee all s l) (aM all s l) 0 0).map λS=>(jn all s S up,S)
def po (all:List Pkg)(s:List aG)(l:List aS)(up:Bool):List (List Nat×List Nat):=
 Sv (((fZ all (all.length+1) 0 []).filter λt=>jY l (atL all t) s).map λt=>(zv all s (atL all t) up,t))
def toB (x:List Nat×List Nat):List Nat×Nat:=(x.1,bH x.2)
theorem na (up:Bool)(a b c d e:Nat):(yD up a b c d e).length=5:=by
 unfold yD
 split<;>rfl
theorem xO {all:List Pkg}{t:List Nat}(h:t∈fZ all (all.length+1) 0 []):t∈cA (c8 all (all.length+1) 0):=by
 rw[fk (by omega)]at h
 have:=(List.mem_filter.1 h).1
 simpa using this
theorem Es {all:List Pkg}(hc:nm all){t:List Nat}(ht:t∈cA (c8 all (all.length+1) 0)):t.Pairwise (· < ·)∧ ∀i∈t,i<all.length:=by
 obtain⟨r1,_,_⟩:=jG hc (f:=all.length+1) (i:=0) (by omega) (by omega) (λj p q hj=>by omega)
 obtain⟨k1,_⟩:=r5 hc (f:=all.length+1) (i:=0) (by omega) (by omega) (λj p q hj=>by omega)
 refine⟨kb k1 ht,λi hi=>?_⟩
 obtain⟨g,hg,hig⟩:=ew ht i hi
 obtain⟨p,rfl,_⟩:=r1 g hg
 obtain⟨q,hq,_⟩:=bn.1 hig
 exact(List.getElem?_eq_some_iff.1 hq).1
theorem Ca {all:List Pkg}: ∀{f i:Nat},∀g∈c8 all f i,i≤all.length→g≠[]
 |0,i,g,hg,_=>by cases hg
 |f+1,i,g,hg,hi=>by
  rw[c8]at hg
  by_cases h:i=all.length
  ·rw[if_pos h]at hg
   cases hg
  ·rw[if_neg h]at hg
   obtain⟨p,hp⟩:=get_some (show i<all.length by omega)
   obtain⟨b1,b2⟩:=cU hp
   rcases List.mem_cons.1 hg with rfl|hg
   ·intro e
    have:=congrArg List.length e
    simp only[List.length_range',List.length_nil]at this
    omega
   ·exact Ca g hg b2
theorem qN : ∀{gs:List (List Nat)},p5 gs→(∀g∈gs,g.Nodup)→(cA gs).Nodup
 |[],_,_=>by simp[cA]
 |g::r,ha,hn=>by
  have ih:=qN ha.2 λh hh=>hn h (by simp[hh])
  rw[cA,List.nodup_append]
  refine⟨?_,ih,λt ht u hu e=>?_⟩
  ·have: ∀l:List Nat,l.Nodup→(l.flatMap λi=>(cA r).map (i:: ·)).Nodup:=λl=>by
    induction l with
    |nil=>intro _;simp
    |cons i l ih2=>
     intro hl
     rw[List.nodup_cons]at hl
     rw[List.flatMap_cons,List.nodup_append]
     refine⟨?_,ih2 hl.2,λt ht u hu e=>?_⟩
     ·rw[List.Nodup,List.pairwise_map]
      exact ih.imp λ{a b} h e=>h (by simpa using e)
     ·obtain⟨a,_,rfl⟩:=List.mem_map.1 ht
      obtain⟨j,hj,hu⟩:=List.mem_flatMap.1 hu
      obtain⟨b,_,rfl⟩:=List.mem_map.1 hu
      simp only[List.cons.injEq]at e
      exact hl.1 (e.1▸hj)
   exact this g (hn g (by simp))
  ·obtain⟨i,hi,ht⟩:=List.mem_flatMap.1 ht
   obtain⟨a,_,rfl⟩:=List.mem_map.1 ht
   rw[←e]at hu
   obtain⟨h,hh,hih⟩:=ew hu i (by simp)
   exact ha.1 i hi h hh hih
theorem uj {all:List Pkg}(hc:nm all)(q:List Nat→Bool):((fZ all (all.length+1) 0 []).filter q).Nodup:=by
 obtain⟨_,_,r3⟩:=jG hc (f:=all.length+1) (i:=0) (by omega) (by omega) (λj p q hj=>by omega)
 obtain⟨_,k2⟩:=r5 hc (f:=all.length+1) (i:=0) (by omega) (by omega) (λj p q hj=>by omega)
 rw[fk (by omega)]
 refine List.Pairwise.sublist List.filter_sublist (List.Pairwise.sublist List.filter_sublist ?_)
 rw[show(cA (c8 all (all.length+1) 0)).map (([]:List Nat)++ ·)=cA (c8 all (all.length+1) 0) by simp]
 exact qN r3 λg hg=>(k2 g hg).imp λ{a b} h=>by omega
theorem Fv {all:List Pkg}{s:List aG}{l:List aS}(hc:nm all)(up:Bool):(po all s l up).Perm (((fZ all (all.length+1) 0 []).filter λt=>jY l (atL all t) s).map λt=>(zv all s (atL all t) up,t))∧(po all s l up).Pairwise λa b=>ltP a b=true:=
 ze (k:=5) (o:=[]) (by
  rw[List.nil_append,List.pairwise_map]
  exact uj hc _) (λy hy=>by
  rw[List.nil_append]at hy
  obtain⟨t,_,rfl⟩:=List.mem_map.1 hy
  exact na _ _ _ _ _ _) .nil
theorem AO {all:List Pkg}{s:List aG}{l:List aS}(h24:all.length≤24)(hm: ∀p∈all,aL p=0)(hc:nm all)(hU:Uni all s l)(hnv:ey all s l=false)(up:Bool){o:List (List Nat×Nat)}(hp:o.Perm (wx all s l up))(hs:o.Pairwise λx y=>ltB y x=false):
  o=(po all s l up).map toB:=by
 obtain⟨b1,b2⟩:=Fv (s:=s) (l:=l) hc up
 generalize hW:(fZ all (all.length+1) 0 []).filter (λt=>jY l (atL all t) s)=W at b1
 have hWp: ∀t∈W,t∈cA (c8 all (all.length+1) 0):=λt ht=>by
  rw[←hW]at ht
  exact xO (List.mem_filter.1 ht).1
 have hinc: ∀t∈W,t.Pairwise (· < ·)∧ ∀i∈t,i<32:=λt ht=>by
  obtain⟨g1,g2⟩:=Es hc (hWp t ht)
  exact⟨g1,λi hi=>by have:=g2 i hi;omega⟩
 have hmem: ∀x∈po all s l up,x.2∈W∧x.1.length=5:=λx hx=>by
  obtain⟨t,ht,rfl⟩:=List.mem_map.1 (b1.subset hx)
  exact⟨ht,na _ _ _ _ _ _⟩
 have hturn: ∀t∈W,vd (bH t)=jQ t:=λt ht=>by
  obtain⟨g1,g2⟩:=hinc t ht
  unfold vd
  rw[yo g1 g2]
 have hlt: ∀x∈po all s l up,∀y∈po all s l up,ltB (toB x) (toB y)=ltP x y:=λx hx y hy=>by
  obtain⟨hx,_⟩:=hmem x hx
  obtain⟨hy,_⟩:=hmem y hy
  unfold ltB ltP toB
  simp only
  rw[hturn _ hx,hturn _ hy,uc (hinc _ hx).1 (hinc _ hy).1 (hinc _ hx).2 (hinc _ hy).2]
 have hperm:o.Perm ((po all s l up).map toB):=by
  refine hp.trans ?_
  have h1:=(Aj hm hc hU hnv).map λS=>(jn all s S up,S)
  rw[hW]at h1
  refine h1.trans (List.Perm.trans (List.Perm.of_eq ?_) (b1.map toB).symm)
  rw[List.map_map,List.map_map]
  refine List.map_congr_left λt ht=>?_
  show(jn all s (bH t) up,bH t)=(zv all s (atL all t) up,bH t)
  rw[Ky hc hU (hWp t ht)]
 have hs2:((po all s l up).map toB).Pairwise λx y=>ltB y x=false:=by
  rw[List.pairwise_map]
  refine b2.imp_of_mem λ{x y} hx hy h=>?_
  rw[hlt y hy x hx]
  cases h2:ltP y x with
  |false=>rfl
  |true=>
   have:=vQ h h2
   rw[IW]at this
   cases this
 refine List.Perm.eq_of_pairwise (le:=λx y=>ltB y x=false) (λx y hx hy h1 h2=>?_) hs hs2 hperm
 obtain⟨a,ha,rfl⟩:=List.mem_map.1 (hperm.subset hx)
 obtain⟨b,hb,rfl⟩:=List.mem_map.1 hy
 rw[hlt b hb a ha]at h1
 rw[hlt a ha b hb]at h2
 by_cases he:a.2=b.2
 ·have hc2:a.1=b.1:=by
   obtain⟨t,_,rfl⟩:=List.mem_map.1 (b1.subset ha)
   obtain⟨u,_,rfl⟩:=List.mem_map.1 (b1.subset hb)
   have he:t=u:=he
   rw[he]
  unfold toB
  rw[he,hc2]
 ·have:=Cy (x:=b) (y:=a) ((hmem b hb).2.trans (hmem a ha).2.symm) (λe=>he e.symm) h1
  rw[this]at h2
  cases h2
end Go.Av
end
section
namespace Go.Av
theorem fI (a b:Nat)(ha:a<4294967296)(hb:b<4294967296):bits .and .u32 (a:Int) (b:Int)=((a &&& b:Nat):Int):=by
 have h1:(BitVec.ofInt 32 (a:Int)).toNat=a:=by simp;omega
 have h2:(BitVec.ofInt 32 (b:Int)).toNat=b:=by simp;omega
 show IntKind.u32.wrap ((BitVec.ofInt 32 (a:Int) &&& BitVec.ofInt 32 (b:Int)).toNat:Int)=_
 have hlt:=(BitVec.ofInt 32 (a:Int) &&& BitVec.ofInt 32 (b:Int)).isLt
 rw[IntKind.wrap_u32,BitVec.toNat_and,h1,h2]
 rw[BitVec.toNat_and,h1,h2]at hlt
 omega
theorem hZ (a b:Nat)(ha:a<4294967296)(hb:b<4294967296):bits .or .u32 (a:Int) (b:Int)=((a ||| b:Nat):Int):=by
 have h1:(BitVec.ofInt 32 (a:Int)).toNat=a:=by simp;omega
 have h2:(BitVec.ofInt 32 (b:Int)).toNat=b:=by simp;omega
 show IntKind.u32.wrap ((BitVec.ofInt 32 (a:Int) ||| BitVec.ofInt 32 (b:Int)).toNat:Int)=_
 have hlt:=(BitVec.ofInt 32 (a:Int) ||| BitVec.ofInt 32 (b:Int)).isLt
 rw[IntKind.wrap_u32,BitVec.toNat_or,h1,h2]
 rw[BitVec.toNat_or,h1,h2]at hlt
 omega
def bE (m k x:Nat):Nat:=((x >>> k) &&& m) ||| (((x &&& m) <<< k) % 4294967296)
theorem ke {m k x:Nat}(hm:m<4294967296):bE m k x<4294967296:=
 Nat.or_lt_two_pow (n:=32) (Nat.lt_of_le_of_lt Nat.and_le_right hm) (Nat.mod_lt _ (by decide))
theorem DF (m k x i:Nat)(hi:i<32):(bE m k x).testBit i=((x.testBit (k+i)&&m.testBit i)||(decide (k≤i)&&(x.testBit (i-k)&&m.testBit (i-k)))):=by
 unfold bE
 rw[Nat.testBit_or,Nat.testBit_and,Nat.testBit_shiftRight,show 4294967296=2^32 from rfl,Nat.testBit_mod_two_pow,Nat.testBit_shiftLeft,Nat.testBit_and]
 simp[hi]
def fK (x:Nat):Nat:=
 let a:=bE 16711935 8 (bE 252645135 4 (bE 858993459 2 (bE 1431655765 1 x)))
 (a >>> 16) ||| ((a <<< 16) % 4294967296)
theorem Kw (x:Nat):fK x<4294967296:=
 Nat.or_lt_two_pow (n:=32) (by
  rw[Nat.shiftRight_eq_div_pow]
  have:=ke (m:=16711935) (k:=8) (x:=bE 252645135 4 (bE 858993459 2 (bE 1431655765 1 x))) (by decide)
  omega) (Nat.mod_lt _ (by decide))
theorem TD : ∀i,i<32→Nat.testBit 1431655765 i=decide (i % 2=0):=by decide
theorem UO : ∀i,i<32→Nat.testBit 858993459 i=decide (i % 4<2):=by decide
theorem Sw : ∀i,i<32→Nat.testBit 252645135 i=decide (i % 8<4):=by decide
theorem Vj : ∀i,i<32→Nat.testBit 16711935 i=decide (i % 16<8):=by decide
theorem pL {m k:Nat}(hk:0<k)(hm: ∀i,i<32→m.testBit i=decide (i % (2*k)<k))(x i:Nat)(hi:i<32):
  (bE m k x).testBit i=x.testBit (if i % (2*k)<k then i+k else i-k):=by
 rw[DF m k x i hi,hm i hi]
 by_cases h:i % (2*k)<k
 ·by_cases h2:k≤i
  ·have h3: ¬(i-k) % (2*k)<k:=by
    have hd:=Nat.div_add_mod i (2*k)
    have hq:i / (2*k)≠0:=by
     intro h0;rw[h0]at hd;omega
    obtain⟨q,hq⟩:=Nat.exists_eq_succ_of_ne_zero hq
    have e:i-k=2*k*q+(i % (2*k)+k):=by
     rw[hq,Nat.mul_succ]at hd;omega
    rw[e,Nat.mul_add_mod,Nat.mod_eq_of_lt (by omega)]
    omega
   simp[h,hm (i-k) (by omega),h3,Nat.add_comm]
  ·simp[h,h2,Nat.add_comm]
 ·have h2:k≤i:=by
   rcases Nat.lt_or_ge i k with g|g
   ·rw[Nat.mod_eq_of_lt (by omega)]at h;omega
   ·exact g
  have h3:(i-k) % (2*k)<k:=by
   have hd:=Nat.div_add_mod i (2*k)
   have hl:=Nat.mod_lt i (show 0<2*k by omega)
   have e:i-k=2*k*(i / (2*k))+(i % (2*k)-k):=by omega
   rw[e,Nat.mul_add_mod,Nat.mod_eq_of_lt (by omega)]
   omega
  simp[h,h2,hm (i-k) (by omega),h3]
theorem GN (x:Nat): ∀i,i<32→(fK x).testBit i=x.testBit (31-i):=by
 intro i hi
 have s1:=pL (m:=1431655765) (k:=1) (by decide) (λi hi=>by rw[TD i hi];congr 1;simp) x
 have s2:=pL (m:=858993459) (k:=2) (by decide) UO (bE 1431655765 1 x)
 have s4:=pL (m:=252645135) (k:=4) (by decide) Sw (bE 858993459 2 (bE 1431655765 1 x))
 have s8:=pL (m:=16711935) (k:=8) (by decide) Vj (bE 252645135 4 (bE 858993459 2 (bE 1431655765 1 x)))
 have hA:=ke (m:=16711935) (k:=8) (x:=bE 252645135 4 (bE 858993459 2 (bE 1431655765 1 x))) (by decide)
 have hB:(fK x).testBit i=(bE 16711935 8 (bE 252645135 4 (bE 858993459 2 (bE 1431655765 1 x)))).testBit (if i<16 then i+16 else i-16):=by
  unfold fK
  simp only
  generalize bE 16711935 8 (bE 252645135 4 (bE 858993459 2 (bE 1431655765 1 x)))=a at hA
  rw[Nat.testBit_or,Nat.testBit_shiftRight,show 4294967296=2^32 from rfl,Nat.testBit_mod_two_pow,Nat.testBit_shiftLeft]
  by_cases h:i<16
  ·have: ¬16≤i:=by omega
   simp[h,hi,this,Nat.add_comm]
  ·have h16:16≤i:=by omega
   have:a.testBit (16+i)=false:=Nat.testBit_lt_two_pow (Nat.lt_of_lt_of_le hA (show 2^32≤2^(16+i)from Nat.pow_le_pow_right (n:=2) (by decide) (by omega)))
   simp[h,hi,h16,this]
 rw[hB,s8 _ (by split<;>omega),s4 _ (by split<;>split<;>omega),s2 _ (by split<;>split<;>split<;>omega),s1 _ (by split<;>split<;>split<;>split<;>omega)]
 congr 1
 clear s1 s2 s4 s8 hA hB
 revert i
 decide
theorem uW {x:Nat}(hx:x<4294967296):vd x=fK x:=by
 apply Nat.eq_of_testBit_eq
 intro i
 unfold vd jQ
 rw[cq]
 by_cases hi:i<32
 ·rw[GN x i hi]
  apply Bool.eq_iff_iff.2
  simp only[decide_eq_true_eq,List.mem_map]
  refine⟨λ⟨j,hj,e⟩=>?_,λh=>⟨31-i,bK.2 ⟨by omega,h⟩,by omega⟩⟩
  obtain⟨h1,h2⟩:=bK.1 hj
  rw[show 31-i=j by omega]
  exact h2
 ·rw[Nat.testBit_lt_two_pow (Nat.lt_of_lt_of_le (Kw x) (show 2^32≤2^i from Nat.pow_le_pow_right (n:=2) (by decide) (by omega)))]
  apply Bool.eq_false_iff.2
  intro h
  simp only[decide_eq_true_eq,List.mem_map]at h
  obtain⟨j,hj,e⟩:=h
  have:=(bK.1 hj).1
  omega
end Go.Av
end
