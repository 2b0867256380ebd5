/- Texts that the last one of this claim rests on: a layer over the guide's own conditions for code; contracts of the functions that the law reaches, one by one. No conditions beside those of the given rows. -/
import Derived.WalkKit
import Derived.Lib.SliceRun
import Derived.Test.YtbooehmmhbioaaaGreatDoorWah
import Derived.Test.YtbooehmmhbioaaaGreatDoorWak
import Derived.Test.YtbooehmmhbioaaaGreatDoorWal
import Derived.Test.YtbooehmmhbioaaaGreatDoorWam
import Derived.Test.YtbooehmmhbioaaaGreatDoorWan
import Derived.Test.YtbooehmmhbioaaaGreatDoorWap
import Derived.Test.YtbooehmmhbioaaaGreatDoorWaq
import Derived.Test.YtbooehmmhbioaaaGreatDoorWar
set_option linter.unusedSimpArgs false
set_option linter.unusedVariables false
section
namespace Go.Av
def qJ (st:ab)(v:AV)(e:TypeId)(xs:List AV):Prop:=v= .sl e xs∨ ∃id,v= .row e id 0 xs.length∧st[id]?=some (some (.cells e xs))
section
variable {σ st:ab}{v:AV}{e:TypeId}{xs:List AV}
theorem qJ.notM (h:qJ st v e xs):cS v:=by
 rcases h with rfl|⟨_,rfl,_⟩<;>trivial
theorem qJ.ok (h:qJ st v e xs)(g:Option Bool):okM g v=True:=bT h.notM
theorem qJ.un (h:qJ st v e xs):unm v=v:=cB h.notM
theorem qJ.len (h:qJ st v e xs):mm v= .int .i64 xs.length:=by
 rcases h with rfl|⟨_,rfl,_⟩<;>rfl
theorem qJ.ext (h:qJ σ v e xs)(hx:Ext σ st):qJ st v e xs:=by
 rcases h with h|⟨id,h1,h2⟩
 ·exact .inl h
 ·exact .inr ⟨id,h1,by rw[(Fr.ext (F:=[]) hx).old id (List.getElem?_eq_some_iff.1 h2).1 (by simp)];exact h2⟩
theorem qJ.fX (h:qJ st v e xs)(P:Program)(t:TypeId):fX P t v=((elT P t).isSome=true):=by
 rcases h with rfl|⟨_,rfl,_⟩<;>rfl
end
end Go.Av
namespace Go.Proofs.Tryz
open Go Go.Av
set_option maxRecDepth 10000
variable {W0 :World}
end Go.Proofs.Tryz
end
section
namespace Go.Av
structure o7 (rid:Nat)(σ σ':ab):Prop where
 len:σ.length≤σ'.length
 old: ∀j,j<σ.length→j≠rid→σ'[j]?=σ[j]?
theorem o7.refl (b:Nat)(σ:ab):o7 b σ σ:=⟨Nat.le_refl _,λ_ _ _=>rfl⟩
theorem o7.trans {b:Nat}{σ σ' σ'':ab}(h:o7 b σ σ')(k:o7 b σ' σ''):o7 b σ σ'':=⟨Nat.le_trans h.len k.len,λj hj hn=>(k.old j (Nat.lt_of_lt_of_le hj h.len) hn).trans (h.old j hj hn)⟩
theorem o7.set {b:Nat}{σ σ':ab}(h:o7 b σ σ')(o:Option cM):o7 b σ (σ'.set b o):=⟨by simpa using h.len,λj hj hn=>by rw[List.getElem?_set_ne (λe=>hn e.symm)];exact h.old j hj hn⟩
theorem o7.app {b:Nat}{σ σ':ab}(h:o7 b σ σ')(l:ab):o7 b σ (σ'++l):=⟨by have:=h.len;simp;omega,λj hj hn=>by rw[List.getElem?_append_left (by have:=h.len;omega)];exact h.old j hj hn⟩
theorem o7.ext {b:Nat}{σ τ σ':ab}(h:o7 b τ σ')(k:Ext σ τ)(hb:σ.length≤b):Ext σ σ':=by
 refine List.ext_getElem? λj=>?_
 rw[List.getElem?_take]
 split
 ·rename_i hj
  rw[h.old j (by have:=k.le;omega) (by omega),k.eq,List.getElem?_append_left hj]
 ·rw[List.getElem?_eq_none (by omega)]
theorem sn (u v:AV):me true u v=u:=by
 unfold me lQ
 cases u<;>cases v<;>rfl
end Go.Av
namespace Go.Proofs.Tryz
open Go Go.Av
set_option maxRecDepth 10000
variable {W0 :World}
end Go.Proofs.Tryz
end
section
namespace Go.Proofs.Tryz
open Go Go.Av
set_option maxRecDepth 10000
variable {W0 :World}
def nlz (e:TypeId)(xs:List AV):AV:=match xs with
 |[]=>.az
 |x::r=>.sl e (x::r)
theorem wE {e:TypeId}{xs:List AV}(h:aW 0 (.sl e xs)):aW 0 (nlz e xs):=by
 cases xs with
 |nil=>exact .az
 |cons x r=>exact h
def Nz (l:List Clause):AV:=nlz 72 (l.map aB)
def Fp (l:List Atom):AV:=nlz 81 (l.map aR)
def MI (l:List ir):AV:=nlz 147 (l.map c9)
end Go.Proofs.Tryz
end
section
namespace Go.Av
def hd0 :List UInt8→UInt8
 |[]=>0
 |c::_=>c
end Go.Av
namespace Go.Proofs.Tryz
open Go Go.Av
set_option maxRecDepth 10000
variable {W0 :World}
end Go.Proofs.Tryz
end
section
namespace Go.Proofs.Tryz
open Go Go.Av
end Go.Proofs.Tryz
namespace Go.Proofs.Tryz
open Go Go.Av
set_option maxRecDepth 10000
variable {W0 :World}
theorem HN (l:List Atom)(hl:l.length≤1048576):ah prog W0 153 [nlz 81 (l.map aR)] (nlz 81 (l.map aR)):=by
 refine ak [2] [] func153 rfl rfl ntmps153 rfl rfl (wE (gS oO l)) λhs σ=>?_
 cases l with
 |nil=>
  simp only[go_sem,simprocAttr,List.map_nil,nlz]
 |cons x c=>
  simp only[go_sem,simprocAttr,List.map_cons,nlz]
  refine bQ.own 1048576 (by kernel_rfl) (.inr (.inl rfl)) (.sl _ _ _) (by simpa using hl) λv' σ' ha'=>?_
  have hb':=(aQ.app (σ:=σ) ⟨.inr (.inl rfl),.refl _,λt h=>by cases h⟩ ha')
  simp only[go_sem,simprocAttr,hb'.ok,hb'.un]
  exact⟨hb'.cI,hb'.ext⟩
theorem Hn (l:List ir)(hl:l.length≤1048576):ah prog W0 154 [nlz 147 (l.map c9)] (nlz 147 (l.map c9)):=by
 refine ak [2] [] func154 rfl rfl ntmps154 rfl rfl (wE (gS tK l)) λhs σ=>?_
 cases l with
 |nil=>
  simp only[go_sem,simprocAttr,List.map_nil,nlz]
 |cons x c=>
  simp only[go_sem,simprocAttr,List.map_cons,nlz]
  refine bQ.own 1048576 (by kernel_rfl) (.inr (.inl rfl)) (.sl _ _ _) (by simpa using hl) λv' σ' ha'=>?_
  have hb':=(aQ.app (σ:=σ) ⟨.inr (.inl rfl),.refl _,λt h=>by cases h⟩ ha')
  simp only[go_sem,simprocAttr,hb'.ok,hb'.un]
  exact⟨hb'.cI,hb'.ext⟩
theorem Eu (l:List Atom)(hl:l.length≤1048576):ah prog W0 152 [nlz 81 (l.map aR)] (nlz 81 (l.map aR)):=by
 refine ak [2] [] func152 rfl rfl ntmps152 rfl rfl (wE (gS oO l)) λhs σ=>?_
 cases l with
 |nil=>
  simp only[go_sem,simprocAttr,List.map_nil,nlz]
 |cons x c=>
  simp only[go_sem,simprocAttr,List.map_cons,nlz]
  refine bQ.own 1048576 (by kernel_rfl) (.inr (.inl rfl)) (.sl _ _ _) (by simpa using hl) λv' σ' ha'=>?_
  have hb':=(aQ.app (σ:=σ) ⟨.inr (.inl rfl),.refl _,λt h=>by cases h⟩ ha')
  simp only[go_sem,simprocAttr,hb'.ok,hb'.un]
  exact⟨hb'.cI,hb'.ext⟩
end Go.Proofs.Tryz
end
section
namespace Go.Proofs.Tryz
open Go Go.Av
set_option maxRecDepth 10000
variable {W0 :World}
def Vm (p:Pkg):AV:=.agg 54 [.str p.name,.str p.ver,Nz p.pre,Nz p.dep,Nz p.rcm,Fp p.con,Fp p.brk,MI p.dE,.bool p.ess]
def Xm (x:aD):AV:=.agg 56 [Vm x.pkg,.bool x.Cc,.bool x.hold]
end Go.Proofs.Tryz
end
section
namespace Go.Av
theorem FL {α:Type}{g:α→Nat}: ∀{l:List α} {a:α},a∈l→g a≤(l.map g).sum
 |b::l,a,h=>by
  rcases List.mem_cons.1 h with rfl|h
  ·simp
  ·have:=FL (g:=g) h
   simp;omega
theorem HW {α:Type}{g h:α→Nat}(hg: ∀a,g a≤h a): ∀l:List α,(l.map g).sum≤(l.map h).sum
 |[]=>by simp
 |a::l=>by
  have:=HW hg l
  have:=hg a
  simp;omega
structure Ns (s:Stz):Prop where
 ln: -9223372036854775808≤s.line
 fl:s.fields.length≤1048576
 sz:(s.fields.map λf=>f.lines.length).sum≤1048574
 fd: ∀f∈s.fields,xi f.lines+f.lines.length≤140737488355328∧(Mm f.name=7∨(mG f.lines).length≤1048574)
end Go.Av
namespace Go.Proofs.Tryz
open Go Go.Av
set_option maxRecDepth 10000
variable {W0 :World}
end Go.Proofs.Tryz
end
section
namespace Go.Av
structure L1 (s:Stz):Prop where
 ln: -9223372036854775808≤s.line
 fl:s.fields.length≤1048576
 sz:(s.fields.map λf=>xi f.lines+f.lines.length).sum≤1048574
theorem L1.wide {s:Stz}(h:L1 s):Ns s:=by
 have hs:=HW (g:=λf:Fld=>f.lines.length) (h:=λf:Fld=>xi f.lines+f.lines.length) (λf=>by omega) s.fields
 refine⟨h.ln,h.fl,Nat.le_trans hs h.sz,λf hf=>?_⟩
 have:=Nat.le_trans (FL (g:=λf:Fld=>xi f.lines+f.lines.length) hf) h.sz
 exact⟨Nat.le_trans this (by decide),.inr (Nat.le_trans (Dl _) this)⟩
end Go.Av
namespace Go.Proofs.Tryz
open Go Go.Av
set_option maxRecDepth 10000
variable {W0 :World}
theorem FQ (p:Pkg):Sub (Vm p) (av p):=.agg rfl λi a b ha hb=>by
 have nz: ∀(e:TypeId) (xs:List AV),Sub (nlz e xs) (.sl e xs):=λe xs=>by
  cases xs with
  |nil=>exact .az _
  |cons x r=>exact .refl _
 match i,ha,hb with
 |0,ha,hb|1,ha,hb|8,ha,hb=>cases ha;cases hb;exact .refl _
 |2,ha,hb|3,ha,hb|4,ha,hb|5,ha,hb|6,ha,hb|7,ha,hb=>cases ha;cases hb;exact nz _ _
end Go.Proofs.Tryz
end
section
namespace Go.Proofs.Tryz
open Go Go.Av
set_option maxRecDepth 10000
variable {W0 :World}
def bw (x:aD):AV:=.agg 56 [av x.pkg,.bool x.Cc,.bool x.hold]
def aV (l:List aD):AV:=.sl 56 (l.map bw)
theorem Ca (l:List aD)(hp: ∀x∈l,lJ x.pkg):ah prog W0 34 [aV l] (.int .i64 (bX l)):=by
 refine ak [2] [4] func34 rfl rfl ntmps34 rfl rfl (.int _ _) λhs σ=>?_
 have hl:=(aF (hs _ (List.mem_cons_self ..))).1
 simp only[go_sem,simprocAttr,aV,List.length_map]
 refine⟨λh=>au (by rw[bX,if_pos ((lU l 10).1 (by simpa using h))]),λh=>?_⟩
 have h10: ¬10<l.length:=λe=>by have:=(lU l 10).2 e;omega
 refine ae.at [0] (.of (by kernel_rfl)) (λA=>Ext σ A.st∧orL (l.map λx=>aU x.pkg)=0) ?_ λB ⟨hst,h6⟩=>?_
 ·refine ae.upto [0,10,11] (.of (by kernel_rfl)) l.length (λi A=>A.env 12= .int .i64 i∧Ext σ A.st∧orL ((l.map λx=>aU x.pkg).drop i)=orL (l.map λx=>aU x.pkg)) 0 (Nat.zero_le _) ?_ λi B hi ⟨h8,hst,hI⟩=>?_
  ·simp only[go_sem,simprocAttr]
   simp[Ext.refl]
  simp only[go_sem,simprocAttr,h8,List.length_map]
  refine⟨λhc=>⟨hc,?_⟩,λhc=>?_⟩
  ·obtain⟨a,ha⟩:=get_some hc
   obtain⟨hlt,hae⟩:=List.getElem?_eq_some_iff.1 ha
   rw[List.drop_eq_getElem_cons (by simpa using hc),List.getElem_map,hae]at hI
   simp only[ar ha]
   simp only[go_sem,simprocAttr,bw,h8,List.length_map]
   refine al.fn (G7 a.pkg (hp a (List.mem_of_getElem? ha))) ?_
   simp only[go_sem,simprocAttr,h8]
   refine⟨λhq=>⟨au ?_,hst.app _⟩,λhq=>⟨hc,ag hc hl,hst.app _,?_⟩⟩
   ·rw[orL,if_pos hq]at hI
    rw[bX,if_neg h10,if_pos (by rw[←hI];exact hq),hI]
   ·rw[←hI,orL,if_neg (by simpa using hq)]
  ·rw[List.drop_eq_nil_of_le (by simpa using hc)]at hI
   exact⟨hst,hI.symm⟩
 have hm:bX l=if jO l=true then 4 else 0:=by rw[bX,if_neg h10,if_neg (by simp[h6])]
 simp only[go_sem,simprocAttr,List.length_map]
 refine ae.upto [0] (.of (by kernel_rfl)) (max 1 l.length) (λi A=>A.env 6= .int .i64 i∧1≤i∧Ext σ A.st∧jO (l.drop (i-1))=jO l) 1 (Nat.le_max_left _ _) ?_ λi A hi ⟨h6',h1,hst',hI⟩=>?_
 ·simp only[go_sem,simprocAttr]
  exact hst
 simp only[go_sem,simprocAttr,h6',List.length_map]
 refine⟨λhc=>?_,λhc=>?_⟩
 ·have hc':i<l.length:=by omega
  obtain⟨j,rfl⟩: ∃j,i=j+1:=⟨i-1,by omega⟩
  obtain⟨a,ha⟩:=get_some (show j<l.length by omega)
  obtain⟨b,hb⟩:=get_some hc'
  have hw:IntKind.i64.wrap (((j+1:Nat):Int)-1)=(j:Nat):=by rw[aH (by rw[aq]at hl;omega)];omega
  simp only[hw]
  simp only[go_sem,simprocAttr,h6',List.length_map,ar ha,ar hb,bw,av]
  have hd:l.drop j=a::l.drop (j+1):=by rw[List.drop_eq_getElem_cons (by omega)];congr 1;exact(List.getElem?_eq_some_iff.1 ha).2
  have hd1:l.drop (j+1)=b::l.drop (j+1+1):=by rw[List.drop_eq_getElem_cons hc'];congr 1;exact(List.getElem?_eq_some_iff.1 hb).2
  have hI':jO (l.drop j)=jO l:=hI
  rw[hd,hd1,jO,←hd1]at hI'
  refine⟨.of (by kernel_rfl),by omega,hc',λhq=>⟨au ?_,hst'⟩,λhq=>⟨by omega,ag hc' hl,hst',?_⟩⟩
  ·rw[hm,←hI',hq,if_pos (by simp)]
  ·rw[←hI',hq];simp
 ·have hn:jO l=false:=by
   rw[←hI]
   have hlen:(l.drop (i-1)).length≤1:=by rw[List.length_drop];omega
   generalize l.drop (i-1)=r at hlen
   match r,hlen with
   |[],_=>rfl
   |[x],_=>rfl
  exact⟨au (by rw[hm,hn];rfl),hst'⟩
theorem BY (l:List aD):ah prog W0 21 [aV l] (.int .i64 (bX l)):=by
 refine ak [2] [4] func21 rfl rfl ntmps21 rfl rfl (.int _ _) λhs σ=>?_
 have hl:=(aF (hs _ (List.mem_cons_self ..))).1
 simp only[go_sem,simprocAttr,aV,List.length_map]
 refine⟨λh=>au (by rw[bX,if_pos ((lU l 10).1 (by simpa using h))]),λh=>?_⟩
 have h10: ¬10<l.length:=λe=>by have:=(lU l 10).2 e;omega
 refine ae.at [0] (.of (by kernel_rfl)) (λA=>Ext σ A.st∧orL (l.map λx=>aU x.pkg)=0) ?_ λB ⟨hst,h6⟩=>?_
 ·refine ae.upto [0,10,11] (.of (by kernel_rfl)) l.length (λi A=>A.env 12= .int .i64 i∧Ext σ A.st∧orL ((l.map λx=>aU x.pkg).drop i)=orL (l.map λx=>aU x.pkg)) 0 (Nat.zero_le _) ?_ λi B hi ⟨h8,hst,hI⟩=>?_
  ·simp only[go_sem,simprocAttr]
   simp[Ext.refl]
  simp only[go_sem,simprocAttr,h8,List.length_map]
  refine⟨λhc=>⟨hc,?_⟩,λhc=>?_⟩
  ·obtain⟨a,ha⟩:=get_some hc
   obtain⟨hlt,hae⟩:=List.getElem?_eq_some_iff.1 ha
   rw[List.drop_eq_getElem_cons (by simpa using hc),List.getElem_map,hae]at hI
   simp only[ar ha]
   simp only[go_sem,simprocAttr,bw,h8,List.length_map]
   refine al.fn (Cg a.pkg) ?_
   simp only[go_sem,simprocAttr,h8]
   refine⟨λhq=>⟨au ?_,hst.app _⟩,λhq=>⟨hc,ag hc hl,hst.app _,?_⟩⟩
   ·rw[orL,if_pos hq]at hI
    rw[bX,if_neg h10,if_pos (by rw[←hI];exact hq),hI]
   ·rw[←hI,orL,if_neg (by simpa using hq)]
  ·rw[List.drop_eq_nil_of_le (by simpa using hc)]at hI
   exact⟨hst,hI.symm⟩
 have hm:bX l=if jO l=true then 4 else 0:=by rw[bX,if_neg h10,if_neg (by simp[h6])]
 simp only[go_sem,simprocAttr,List.length_map]
 refine ae.upto [0,24] (.of (by kernel_rfl)) l.length (λi A=>A.env 25= .int .i64 i∧Ext σ A.st∧jO (l.drop (i-1))=jO l) 0 (Nat.zero_le _) ?_ λi A hi ⟨h6',hst',hI⟩=>?_
 ·simp only[go_sem,simprocAttr]
  exact hst
 simp only[go_sem,simprocAttr,h6',List.length_map]
 refine⟨λhc=>?_,λhc=>?_⟩
 ·cases i with
  |zero=>
   simp only[go_sem,simprocAttr,h6',List.length_map,xJ]
   exact⟨.of (by kernel_rfl),hc,hst'⟩
  |succ j=>
   obtain⟨a,ha⟩:=get_some (show j<l.length by omega)
   obtain⟨b,hb⟩:=get_some hc
   have hw:IntKind.i64.wrap (((j+1:Nat):Int)-1)=(j:Nat):=by rw[aH (by rw[aq]at hl;omega)];omega
   have hgt:decide ((0:Int)<((j+1:Nat):Int))=true:=decide_eq_true (by omega)
   simp only[hw,hgt]
   simp only[go_sem,simprocAttr,h6',List.length_map,ar ha,ar hb,bw,av]
   have hd:l.drop j=a::l.drop (j+1):=by rw[List.drop_eq_getElem_cons (by omega)];congr 1;exact(List.getElem?_eq_some_iff.1 ha).2
   have hd1:l.drop (j+1)=b::l.drop (j+1+1):=by rw[List.drop_eq_getElem_cons hc];congr 1;exact(List.getElem?_eq_some_iff.1 hb).2
   have hI':jO (l.drop j)=jO l:=hI
   rw[hd,hd1,jO,←hd1]at hI'
   refine⟨.of (by kernel_rfl),λ_=>by omega,λ_=>hc,λhq=>⟨au ?_,hst'⟩,λhq=>⟨hc,ag hc hl,hst',?_⟩⟩
   ·rw[hm,←hI',hq,if_pos (by simp)]
   ·rw[←hI',hq];simp
 ·have hn:jO l=false:=by
   rw[←hI]
   have hlen:(l.drop (i-1)).length≤1:=by rw[List.length_drop];omega
   generalize l.drop (i-1)=r at hlen
   match r,hlen with
   |[],_=>rfl
   |[x],_=>rfl
  exact⟨au (by rw[hm,hn];rfl),hst'⟩
end Go.Proofs.Tryz
end
section
namespace Go.Proofs.Tryz
open Go Go.Av
set_option maxRecDepth 10000
variable {W0 :World}
theorem HK (x:aD):Sub (Xm x) (bw x):=.agg rfl λi a b ha hb=>by
 match i,ha,hb with
 |0,ha,hb=>cases ha;cases hb;exact FQ _
 |1,ha,hb|2,ha,hb=>cases ha;cases hb;exact .refl _
theorem xz (x:aD):aW 0 (bw x):=.agg λy hy=>by
 simp at hy
 rcases hy with rfl|rfl|rfl
 ·exact r9 _
 ·exact .bool _
 ·exact .bool _
theorem sN (l:List aD):aW 0 (aV l):=gS xz l
end Go.Proofs.Tryz
end
section
namespace Go.Proofs.Tryz
open Go Go.Av
set_option maxRecDepth 10000
variable {W0 :World}
theorem yn (a b:List Atom):ah prog W0 87 [aB a,aB b] (.bool (decide (a=b))):=by
 refine ak [4] [] func87 rfl rfl ntmps87 rfl rfl (.bool _) λhs σ=>?_
 have hl:=(aF (hs _ (List.mem_cons_self ..))).1
 simp only[go_sem,simprocAttr,aB,List.length_map]
 refine⟨λh=>aj (decide_eq_false λe=>h (by rw[e])).symm,λh=>?_⟩
 have hab:a.length=b.length:=by omega
 refine ae.upto [0,1,12] (.of (by kernel_rfl)) a.length (λi A=>A.env 13= .int .i64 i∧A.st=σ∧a.take i=b.take i) 0 (Nat.zero_le _) ?_ λi B hi ⟨h13,hst,hI⟩=>?_
 ·simp only[go_sem,simprocAttr]
  simp
 simp only[go_sem,simprocAttr,h13,hst,List.length_map]
 refine⟨λhc=>?_,λhc=>aj ?_⟩
 ·obtain⟨x,hx⟩:=get_some hc
  obtain⟨y,hy⟩:=get_some (show i<b.length by omega)
  simp only[go_sem,simprocAttr,h13,hst,List.length_map,ar hx,ar hy]
  exact⟨.of (by kernel_rfl),hc,by omega,λhne=>aj (decide_eq_false (mY hx hy hne)).symm,λe=>⟨hc,ag hc hl,jd hI hx (e▸hy)⟩⟩
 ·rw[List.take_of_length_le hc,List.take_of_length_le (by omega)]at hI
  exact(decide_eq_true hI).symm
theorem uu (a b:List Atom):ah prog W0 88 [aB a,aB b] (.bool (decide (a=b))):=by
 refine ak [4] [] func88 rfl rfl ntmps88 rfl rfl (.bool _) λhs σ=>?_
 have hl:=(aF (hs _ (List.mem_cons_self ..))).1
 simp only[go_sem,simprocAttr,aB,List.length_map]
 refine⟨λh=>aj (decide_eq_false λe=>h (by rw[e])).symm,λh=>?_⟩
 have hab:a.length=b.length:=by omega
 refine ae.upto [0,1,12] (.of (by kernel_rfl)) a.length (λi A=>A.env 13= .int .i64 i∧A.st=σ∧a.take i=b.take i) 0 (Nat.zero_le _) ?_ λi B hi ⟨h13,hst,hI⟩=>?_
 ·simp only[go_sem,simprocAttr]
  simp
 simp only[go_sem,simprocAttr,h13,hst,List.length_map]
 refine⟨λhc=>?_,λhc=>aj ?_⟩
 ·obtain⟨x,hx⟩:=get_some hc
  obtain⟨y,hy⟩:=get_some (show i<b.length by omega)
  simp only[go_sem,simprocAttr,h13,hst,List.length_map,ar hx,ar hy]
  exact⟨.of (by kernel_rfl),hc,by omega,λhne=>aj (decide_eq_false (mY hx hy hne)).symm,λe=>⟨hc,ag hc hl,jd hI hx (e▸hy)⟩⟩
 ·rw[List.take_of_length_le hc,List.take_of_length_le (by omega)]at hI
  exact(decide_eq_true hI).symm
theorem BE (a b:List ir):ah prog W0 89 [bW a,bW b] (.bool (decide (a=b))):=by
 refine ak [4] [] func89 rfl rfl ntmps89 rfl rfl (.bool _) λhs σ=>?_
 have hl:=(aF (hs _ (List.mem_cons_self ..))).1
 simp only[go_sem,simprocAttr,bW,List.length_map]
 refine⟨λh=>aj (decide_eq_false λe=>h (by rw[e])).symm,λh=>?_⟩
 have hab:a.length=b.length:=by omega
 refine ae.upto [0,1,12] (.of (by kernel_rfl)) a.length (λi A=>A.env 13= .int .i64 i∧A.st=σ∧a.take i=b.take i) 0 (Nat.zero_le _) ?_ λi B hi ⟨h13,hst,hI⟩=>?_
 ·simp only[go_sem,simprocAttr]
  simp
 simp only[go_sem,simprocAttr,h13,hst,List.length_map]
 refine⟨λhc=>?_,λhc=>aj ?_⟩
 ·obtain⟨x,hx⟩:=get_some hc
  obtain⟨y,hy⟩:=get_some (show i<b.length by omega)
  simp only[go_sem,simprocAttr,h13,hst,List.length_map,ar hx,ar hy]
  exact⟨.of (by kernel_rfl),hc,by omega,λhne=>aj (decide_eq_false (mY hx hy hne)).symm,λe=>⟨hc,ag hc hl,jd hI hx (e▸hy)⟩⟩
 ·rw[List.take_of_length_le hc,List.take_of_length_le (by omega)]at hI
  exact(decide_eq_true hI).symm
theorem Ey (a b:List Atom):ah prog W0 86 [aB a,aB b] (.bool (decide (a=b))):=by
 refine ak [4] [] func86 rfl rfl ntmps86 rfl rfl (.bool _) λhs σ=>?_
 simp only[go_sem,simprocAttr,aB]
 refine al.fn (yn a b) ?_
 simp only[go_sem,simprocAttr]
theorem DD (a b:List Clause)(g:FuncId)(h: ∀c∈a,∀d∈b,ah prog W0 g [aB c,aB d] (.bool (decide (c=d)))):ah prog W0 85 [aw a,aw b,.fn g []] (.bool (decide (a=b))):=by
 refine ak [6] [] func85 rfl rfl ntmps85 rfl rfl (.bool _) λhs σ=>?_
 have hl:=(aF (hs _ (List.mem_cons_self ..))).1
 simp only[go_sem,simprocAttr,aw,List.length_map]
 refine⟨λh=>aj (decide_eq_false λe=>h (by rw[e])).symm,λhne=>?_⟩
 have hab:a.length=b.length:=by omega
 refine ae.upto [1,2,15,16] (.of (by kernel_rfl)) a.length (λi A=>A.env 17= .int .i64 i∧A.st=σ∧a.take i=b.take i) 0 (Nat.zero_le _) ?_ λi B hi ⟨h13,hst,hI⟩=>?_
 ·simp only[go_sem,simprocAttr]
  simp
 simp only[go_sem,simprocAttr,h13,hst,List.length_map]
 refine⟨λhc=>⟨hc,?_⟩,λhc=>aj ?_⟩
 ·obtain⟨x,hx⟩:=get_some hc
  obtain⟨y,hy⟩:=get_some (show i<b.length by omega)
  simp only[go_sem,simprocAttr,h13,hst,List.length_map,ar hx,ar hy,aB]
  refine⟨by omega,?_⟩
  refine al.pure (h x (List.mem_of_getElem? hx) y (List.mem_of_getElem? hy)) ?_
  simp only[go_sem,simprocAttr,h13,hst,List.length_map]
  exact⟨λhne=>aj (decide_eq_false (mY hx hy hne)).symm,λe=>⟨hc,ag hc hl,jd hI hx (e▸hy)⟩⟩
 ·rw[List.take_of_length_le hc,List.take_of_length_le (by omega)]at hI
  exact(decide_eq_true hI).symm
theorem sH (a b:List Clause):ah prog W0 84 [aw a,aw b] (.bool (decide (a=b))):=by
 refine ak [4] [] func84 rfl rfl ntmps84 rfl rfl (.bool _) λhs σ=>?_
 simp only[go_sem,simprocAttr,aw]
 refine al.fn (DD a b _ λc _ d _=>Ey c d) ?_
 simp only[go_sem,simprocAttr]
theorem A0 (p q:Pkg):ah prog W0 38 [av p,av q] (.bool (decide (p=q))):=by
 refine ak [4] [2,3] func38 rfl rfl ntmps38 rfl rfl (.bool _) λhs σ=>?_
 simp only[List.append_eq,List.cons_append,List.nil_append]
 simp only[go_sem,simprocAttr,av]
 refine aA.fnG (λ_=>sH _ _) ?_
 simp only[go_sem,simprocAttr]
 refine aA.fnG (λ_=>sH _ _) ?_
 simp only[go_sem,simprocAttr]
 refine aA.fnG (λ_=>sH _ _) ?_
 simp only[go_sem,simprocAttr]
 refine aA.fnG (λ_=>uu _ _) ?_
 simp only[go_sem,simprocAttr]
 refine aA.fnG (λ_=>uu _ _) ?_
 simp only[go_sem,simprocAttr]
 refine aA.fnG (λ_=>BE _ _) ?_
 simp only[go_sem,simprocAttr]
 refine aj ?_
 obtain⟨a1,a2,a3,a4,a5,a6,a7,a8,a9⟩:=p
 obtain⟨b1,b2,b3,b4,b5,b6,b7,b8,b9⟩:=q
 rw[Bool.eq_iff_iff]
 simp only[Bool.and_eq_true,decide_eq_true_eq,beq_iff_eq,Pkg.mk.injEq]
 constructor
 ·rintro⟨h1,h2,h3,h4,h5,h6,h7,h8,h9⟩
  simp_all
 ·intro h
  simp_all
end Go.Proofs.Tryz
end
section
namespace Go.Av
open Go
end Go.Av
namespace Go.Proofs.Tryz
open Go Go.Av
set_option maxRecDepth 10000
variable {W0 :World}
theorem Ea :reachBytes=140737488351232:=by decide
theorem KI {n:Nat}{a:AV}(h:OfT prog (n+6) 56 a): ∃x,a=bw x∧qt x.pkg:=by
 obtain⟨xs,rfl,g⟩:=mC (ts:=[54,4,4]) (by kernel_rfl) h
 obtain _|⟨x1,_|⟨x2,_|⟨x3,_|_⟩⟩⟩:=xs<;>simp only[rV,and_false,and_true]at g
 obtain⟨h1,h2,h3⟩:=g
 obtain⟨p,rfl,hp⟩:=Dh (n:=n) h1
 obtain⟨b,rfl⟩:=sK (by kernel_rfl) h2
 obtain⟨c,rfl⟩:=sK (by kernel_rfl) h3
 exact⟨⟨p,b,c⟩,rfl,hp⟩
theorem Ii {n:Nat}{a:AV}(h:OfT prog (n+7) 23 a): ∃l,a=aV l∧l.length≤733007751829∧ ∀x∈l,qt x.pkg:=by
 obtain⟨xs,rfl,hl,hx⟩:=Lk (e:=56) (by kernel_rfl) h
 obtain⟨ps,rfl⟩:=all_map (f:=λq:{ x:aD // qt x.pkg }=>bw q.1) λx hm=>by
  obtain⟨p,rfl,h1⟩:=KI (hx x hm)
  exact⟨⟨p,h1⟩,rfl⟩
 refine⟨ps.map (·.1),by rw[aV,List.map_map];rfl,?_,λp hp=>?_⟩
 ·have hb:prog.bytesOf 56=192:=by kernel_rfl
  rw[hb,List.length_map,Ea]at hl
  rw[List.length_map]
  omega
 ·obtain⟨q,_,rfl⟩:=List.mem_map.1 hp
  exact q.2
end Go.Proofs.Tryz
end
section
namespace Go.Av
theorem sg {c:Clause}(h:ke c=true):c≠[]∧c.length≤6∧ ∀a∈c,bY a=true:=by
 unfold ke at h
 simp only[Bool.and_eq_true,decide_eq_true_eq,List.all_eq_true]at h
 exact⟨λe=>h.1.1 (by rw[e];rfl),h.1.2,h.2⟩
end Go.Av
end
section
namespace Go.Proofs.Tryz
open Go Go.Av
set_option maxRecDepth 10000
variable {W0 :World}
theorem kA (e:TypeId)(a:Option Addr)(cap:Nat)(h:cap≤maxLen)(w:World)(C:Ctx):aI prog w C (.sl e []) (.slice a 0 cap):=
 .one rfl (Rel.sl (xs:=[]) (λ_=>[]) (Nat.zero_le _) h (λi x h=>by simp at h) (λi x h=>by simp at h) λhn=>absurd hn (by simp))
theorem DN :ah prog W0 153 [aB []] (aB []):=by
 refine oF func153 (by kernel_rfl) (by kernel_rfl) λw C vs hvl hv=>?_
 obtain _|⟨v1,_|⟨_,_⟩⟩:=vs<;>simp at hvl
 have h1:=(hv 0 _ _ rfl rfl).aS rfl
 cases h1
 rename_i a cap cf hc hm hr hz hs
 simp only[List.map_nil,List.length_nil]at hm
 show Calls _ _ #[Value.slice a 0 cap] _ _
 have q30: ∀(w:World) (a:Option Addr) (n c n' c':Nat),(binOp .eql 51 (.slice a n c) (.slice none n' c')).run prog w= .ok (.bool a.isNone) w:=λw a n c n' c'=>Lib.run_eql_slice_nil w _ _ a n c n' c' Tryz.underlying51
 clear hv hr hz hs
 cases a
 all_goals go_enter Tryz.func153,Tryz.ntmps153
 all_goals go_wp2
 all_goals go_ret
 ·exact⟨_,rfl,kA _ _ _ (Nat.zero_le _),RowKit.Below.refl _ w⟩
 ·exact⟨_,rfl,kA _ _ _ (Nat.zero_le _),(RowKit.Below.refl _ w).alloc (Nat.le_refl _) _⟩
theorem El :ah prog W0 154 [bW []] (bW []):=by
 refine oF func154 (by kernel_rfl) (by kernel_rfl) λw C vs hvl hv=>?_
 obtain _|⟨v1,_|⟨_,_⟩⟩:=vs<;>simp at hvl
 have h1:=(hv 0 _ _ rfl rfl).aS rfl
 cases h1
 rename_i a cap cf hc hm hr hz hs
 simp only[List.map_nil,List.length_nil]at hm
 show Calls _ _ #[Value.slice a 0 cap] _ _
 have q30: ∀(w:World) (a:Option Addr) (n c n' c':Nat),(binOp .eql 52 (.slice a n c) (.slice none n' c')).run prog w= .ok (.bool a.isNone) w:=λw a n c n' c'=>Lib.run_eql_slice_nil w _ _ a n c n' c' Tryz.underlying52
 clear hv hr hz hs
 cases a
 all_goals go_enter Tryz.func154,Tryz.ntmps154
 all_goals go_wp2
 all_goals go_ret
 ·exact⟨_,rfl,kA _ _ _ (Nat.zero_le _),RowKit.Below.refl _ w⟩
 ·exact⟨_,rfl,kA _ _ _ (Nat.zero_le _),(RowKit.Below.refl _ w).alloc (Nat.le_refl _) _⟩
theorem Ci :ah prog W0 152 [aB []] (aB []):=by
 refine oF func152 (by kernel_rfl) (by kernel_rfl) λw C vs hvl hv=>?_
 obtain _|⟨v1,_|⟨_,_⟩⟩:=vs<;>simp at hvl
 have h1:=(hv 0 _ _ rfl rfl).aS rfl
 cases h1
 rename_i a cap cf hc hm hr hz hs
 simp only[List.map_nil,List.length_nil]at hm
 show Calls _ _ #[Value.slice a 0 cap] _ _
 have q30: ∀(w:World) (a:Option Addr) (n c n' c':Nat),(binOp .eql 72 (.slice a n c) (.slice none n' c')).run prog w= .ok (.bool a.isNone) w:=λw a n c n' c'=>Lib.run_eql_slice_nil w _ _ a n c n' c' Tryz.underlying72
 clear hv hr hz hs
 cases a
 all_goals go_enter Tryz.func152,Tryz.ntmps152
 all_goals go_wp2
 all_goals go_ret
 ·exact⟨_,rfl,kA _ _ _ (Nat.zero_le _),RowKit.Below.refl _ w⟩
 ·exact⟨_,rfl,kA _ _ _ (Nat.zero_le _),(RowKit.Below.refl _ w).alloc (Nat.le_refl _) _⟩
theorem ng (l:List Atom)(hl:l.length≤1048576):ah prog W0 153 [aB l] (aB l):=by
 cases l with
 |nil=>exact DN
 |cons x c=>exact HN (x::c) hl
theorem ve (l:List ir)(hl:l.length≤1048576):ah prog W0 154 [bW l] (bW l):=by
 cases l with
 |nil=>exact El
 |cons x c=>exact Hn (x::c) hl
theorem sT (l:List Atom)(hl:l.length≤1048576):ah prog W0 152 [aB l] (aB l):=by
 cases l with
 |nil=>exact Ci
 |cons x c=>exact Eu (x::c) hl
end Go.Proofs.Tryz
end
section
namespace Go.Av
def oG.fit :oG→Prop
 | .count _=>False
 | .atoms l=>l.length≤1048576
 | .GS l=>l.length≤1048576
 |_=>True
end Go.Av
namespace Go.Proofs.Tryz
open Go Go.Av
set_option maxRecDepth 10000
variable {W0 :World}
end Go.Proofs.Tryz
end
section
namespace Go.Av
theorem ah.FU {P:Program}{W0:World}{f:FuncId}{args:List AV}{r:AV}(hr:aW 0 r)(h: ∀σ,bg P W0 f args σ λr' σ'=>cT r' r∧Ext σ σ'):ah P W0 f args r:=λσ w C vs hst hl hv=>
 (h σ w C vs hst hl hv).mono λe w' ⟨v,r',σ',C',he,⟨hw,hx⟩,hs,hrv,hstep⟩=>by
  have hs2:aC P W0 w' (C'.dQ σ.length) σ:=by
   have:=hs.dQ (n:=σ.length) hx.le λid te xs hid hss=>hst.ids (show σ[id]?=some (some (.cells te xs)) by
    have e:=congrArg (·[id]?) hx
    simp only[List.getElem?_take,if_pos hid]at e
    rw[←e];exact hss)
   rwa [hx]at this
  exact⟨v,r,σ,C'.dQ σ.length,he,⟨rfl,rfl⟩,hs2,(hrv.cI hw).dQ (ej (Nat.zero_le _) hr),hstep.dQ (by rw[hst.nx];exact Nat.le_refl _)⟩
end Go.Av
namespace Go.Proofs.Tryz
open Go Go.Av
set_option maxRecDepth 10000
variable {W0 :World}
def Gs :List UInt8:=[80,97,99,107,97,103,101]
def GW :List UInt8:=[86,101,114,115,105,111,110]
def Xe :List UInt8:=[69,115,115,101,110,116,105,97,108]
def Xc :List UInt8:=[80,114,101,45,68,101,112,101,110,100,115]
def XO :List UInt8:=[68,101,112,101,110,100,115]
def Xj :List UInt8:=[82,101,99,111,109,109,101,110,100,115]
def W8 :List UInt8:=[67,111,110,102,108,105,99,116,115]
def Xz :List UInt8:=[66,114,101,97,107,115]
def T8 :List UInt8:=[80,114,111,118,105,100,101,115]
structure LiN (l:List Clause):Prop where
 len:l.length≤1048576
 cl: ∀c∈l,c.length≤1048576
end Go.Proofs.Tryz
end
section
namespace Go.Proofs.Tryz
open Go Go.Av
set_option maxRecDepth 10000
variable {W0 :World}
theorem M3 {p:Pkg}(h:aU p=0):p.name≠[]∧p.ver≠[]:=by
 unfold aU at h
 split at h
 ·cases h
 ·rename_i hc
  refine⟨λe=>hc ?_,λe=>hc ?_⟩
  ·rw[e];rfl
  ·rw[e,show bf []=false by decide];simp
end Go.Proofs.Tryz
end
section
namespace Go.Av
def Dk (n:List UInt8)(k:Int)(s:List UInt8):List UInt8:=
 if 0<k∧s=[]then [32,46]else if 0<k then 32::s else if s=[]then n++[58]else n++[58,32]++s
end Go.Av
namespace Go.Proofs.Tryz
open Go Go.Av
set_option maxRecDepth 10000
variable {W0 :World}
end Go.Proofs.Tryz
end
section
namespace Go.Av
def Cf (k:Int)(s:List UInt8):Bool:=!(decide (0≤Mg s)|| !(l9 s==s)||(decide (0<k)&&s==[46]))&&(decide (0<k)||kD s==s)
end Go.Av
namespace Go.Proofs.Tryz
open Go Go.Av
set_option maxRecDepth 10000
variable {W0 :World}
end Go.Proofs.Tryz
end
section
namespace Go.Av
def AA {α:Type}(q:Nat→α→Bool):Nat→List α→Bool
 |_,[]=>true
 |i,x::r=>q i x&&AA q (i+1) r
def vA (f:Fld)(ahead:List Fld):Int:=
 if ((Fm f.name:Int)==0||(Fm f.name:Int) !=(f.name.length:Int)||(f.lines.length:Int)==0)=true then 3
 else if AA (λk s=>Cf k s) 0 f.lines=false then 3
 else if TF ahead f.name=true then 4
 else if AA (λk s=>decide ((Dk f.name k s).length≤1000)) 0 f.lines=false then 2
 else 0
end Go.Av
namespace Go.Proofs.Tryz
open Go Go.Av
set_option maxRecDepth 10000
variable {W0 :World}
end Go.Proofs.Tryz
end
section
namespace Go.Av
open Go.Proofs.Tryz
def prB (c:UInt8):Bool:=decide (32≤c.toNat)&&decide (c.toNat≤126)
theorem CQ : ∀(f:Nat) {s:List UInt8} (i:Nat),(∀c∈s,prB c=true)→Co f s i= -1
 |0,_,_,_=>rfl
 |_+1,[],_,_=>rfl
 |f+1,c::r,i,h=>by
  have hc:=h c (by simp)
  simp only[prB,Bool.and_eq_true,decide_eq_true_eq]at hc
  have h1:vG (c::r)=1:=yu (by omega)
  have h2:NS c=false:=by
   unfold NS
   rw[decide_eq_false (by omega),decide_eq_false (show ¬c.toNat=127 by omega)]
   rfl
  rw[Co,h1,h2,if_neg (by simp)]
  exact CQ f _ λx hx=>h x (by simpa using .inr hx)
theorem GB {s:List UInt8}(h: ∀c∈s,prB c=true):Mg s= -1:=CQ _ _ h
theorem Kd {P:UInt8→Prop}(k1: ∀c,aJ c=true→P c)(k2: ∀c,nI c=true→P c)(k3: ∀c,uN c=true→P c)(k4:P 45)(k5:P 58){w:List UInt8}(h:bf w=true): ∀c∈w,P c:=by
 intro c hc
 unfold bf eL at h
 split at h
 ·cases h
 split at h
 ·cases h
 rename_i e t he
 split at h
 ·cases h
 rename_i u r hr
 split at h
 case isFalse=>cases h
 rename_i hg
 simp only[Bool.and_eq_true,List.all_eq_true]at hg
 obtain⟨⟨g1,g2⟩,_⟩:=hg
 have hcu:c∈t→P c:=λht=>by
  unfold ot at hr
  split at hr
  ·rename_i h0
   split at hr
   ·cases hr
   ·cases hr
    rcases vw (lastOf 45 t).toNat ht with h1|h1|h1
    ·exact k3 c (g2 c h1)
    ·rcases kQ 45 t with⟨h2,_⟩|⟨i,h2,h3,_⟩
     ·omega
     ·rw[h2,Int.toNat_natCast,h3]at h1
      cases h1
      exact k4
    ·exact k2 c (g1 c h1)
  ·cases hr
   exact k3 c (g2 c ht)
 unfold nX at he
 split at he
 ·rename_i h0
  simp only at he
  split at he
  ·rename_i hd
   cases he
   rcases vw (aP 58 w).toNat hc with h1|h1|h1
   ·exact k1 c (List.all_eq_true.1 hd.2.2 c h1)
   ·rcases fy 58 w with⟨h2,_⟩|⟨i,h2,h3,_⟩
    ·omega
    ·rw[h2,Int.toNat_natCast,h3]at h1
     cases h1
     exact k5
   ·exact hcu h1
  ·cases he
 ·cases he
  exact hcu hc
structure Edge (s:List UInt8):Prop where
 hd: ∃c t,s=c::t∧rZ c≠1
 tl: ∃u c,s=u++[c]∧rZ c≠1
theorem Edge.plain {s:List UInt8}(hne:s≠[])(h: ∀c∈s,rZ c=0):Edge s:=by
 constructor
 ·cases s with
  |nil=>exact absurd rfl hne
  |cons c t=>exact⟨c,t,rfl,by rw[h c (by simp)];decide⟩
 ·rcases List.eq_nil_or_concat s with rfl|⟨u,c,rfl⟩
  ·exact absurd rfl hne
  ·rw[List.concat_eq_append]at *
   exact⟨u,c,rfl,by rw[h c (by simp)];decide⟩
theorem Edge.ne {s:List UInt8}(h:Edge s):s≠[]:=by
 obtain⟨c,t,rfl,_⟩:=h.hd
 simp
theorem Edge.app {s m t:List UInt8}(hs:Edge s)(ht:Edge t):Edge (s++(m++t)):=by
 obtain⟨c,a,rfl,h1⟩:=hs.hd
 obtain⟨u,d,rfl,h2⟩:=ht.tl
 exact⟨⟨c,a++(m++(u++[d])),rfl,h1⟩,⟨(c::a)++(m++u),d,by simp,h2⟩⟩
theorem Edge.l9 {s:List UInt8}(h:Edge s):l9 s=s:=by
 obtain⟨u,c,rfl,h1⟩:=h.tl
 rw[AU,if_neg (by simp[wsB,h1])]
theorem Edge.skip {s:List UInt8}(h:Edge s):kC s=s:=by
 obtain⟨c,t,rfl,h1⟩:=h.hd
 exact KL h1
theorem Edge.trim {s:List UInt8}(h:Edge s):kD s=s:=by
 unfold kD
 rw[h.skip,h.l9]
theorem lf {l:List Clause}(h:cm l=0):l.length≤12∧ ∀c∈l,ke c=true:=by
 unfold cm at h
 split at h
 ·cases h
 rename_i h1
 split at h
 ·cases h
 rename_i h2
 refine⟨by omega,λc hc=>?_⟩
 have h3: ¬(6<c.length):=λh6=>h1 (.inr (List.any_eq_true.2 ⟨c,hc,by simpa using h6⟩))
 have h4: ¬((decide (c.length=0)||c.any λa=>!bY a)=true):=λh6=>h2 (List.any_eq_true.2 ⟨c,hc,h6⟩)
 simp only[Bool.or_eq_true,decide_eq_true_eq,List.any_eq_true,Bool.not_eq_true',not_or,not_exists,not_and,Bool.not_eq_false]at h4
 simp only[ke,Bool.and_eq_true,decide_eq_true_eq,List.all_eq_true]
 exact⟨⟨h4.1,by omega⟩,λa ha=>h4.2 a ha⟩
theorem mK {l:List Atom}(h:cm (single l)=0):l.length≤12∧ ∀a∈l,bY a=true:=by
 obtain⟨h1,h2⟩:=lf h
 refine⟨by simpa[single]using h1,λa ha=>?_⟩
 exact(sg (h2 [a] (List.mem_map.2 ⟨a,ha,rfl⟩))).2.2 a (by simp)
structure XE (p:Pkg):Prop where
 name:cq p.name=true
 ver:bf p.ver=true
 pre:p.pre.length≤12∧ ∀c∈p.pre,ke c=true
 dep:p.dep.length≤12∧ ∀c∈p.dep,ke c=true
 rcm:p.rcm.length≤12∧ ∀c∈p.rcm,ke c=true
 con:p.con.length≤12∧ ∀a∈p.con,bY a=true
 brk:p.brk.length≤12∧ ∀a∈p.brk,bY a=true
 dE:p.dE.length≤12∧ ∀x∈p.dE,bY (bJ x)=true
theorem dK {p:Pkg}(h:aU p=0):XE p:=by
 unfold aU at h
 split at h
 ·cases h
 rename_i h1
 simp only[Bool.or_eq_true,Bool.not_eq_true',not_or,Bool.not_eq_false]at h1
 have h2:=fZ h
 obtain⟨g1,g2⟩:=mK (h2 (cm (single (p.dE.map bJ))) (by simp))
 exact⟨h1.1,h1.2,lf (h2 _ (by simp)),lf (h2 _ (by simp)),lf (h2 _ (by simp)),mK (h2 _ (by simp)),mK (h2 _ (by simp)),by simpa using g1,λx hx=>g2 _ (List.mem_map.2 ⟨x,hx,rfl⟩)⟩
structure Xp (n t:List UInt8)(v:oG):Prop where
 uJ:Edge t
 pr: ∀c∈t,prB c=true
 read:Tm n t= .ok v
end Go.Av
end
section
namespace Go.Av
open Go.Proofs.Tryz
def OQ :List UInt8:=[83,116,97,116,101]
def SL :List UInt8:=[72,111,108,100]
def Ig :List (List UInt8):=[Gs,GW,Xe,Xc,XO,Xj,W8,Xz,T8]
def tm :List (List UInt8):=Ig++[OQ,SL]
structure FG (y:Fld×oG):Prop where
 fit: ∃t,y.1.lines=[t]∧Xp y.1.name t y.2
 name:y.1.name∈tm
end Go.Av
end
section
namespace Go.Av
open Go.Proofs.Tryz
def lnF (f:Fld):List UInt8:=Dk f.name 0 (f.lines.headD [])
theorem HE : ∀n∈tm,n≠[]∧(∀c∈n,rZ c=0)∧(∀c∈n,prB c=true)∧Fm n=n.length∧Ud n=false:=by decide
structure LnF (y:Fld×oG)(t:List UInt8):Prop where
 lines:y.1.lines=[t]
 uJ:Edge t
 pr: ∀c∈t,prB c=true
 name:y.1.name∈tm
 line:lnF y.1=y.1.name++58::32::t
theorem FG.ln {y:Fld×oG}(h:FG y): ∃t,LnF y t:=by
 obtain⟨t,h1,h2⟩:=h.fit
 refine⟨t,h1,h2.uJ,h2.pr,h.name,?_⟩
 unfold lnF Dk
 rw[h1]
 simp[h2.uJ.ne]
theorem LnF.may {y:Fld×oG}{t:List UInt8}(h:LnF y t){ahead:List Fld}(ha:TF ahead y.1.name=false):vA y.1 ahead=if (lnF y.1).length≤1000 then 0 else 2:=by
 obtain⟨h1,h2,h3,h4,h5⟩:=HE _ h.name
 have hl:y.1.name.length≠0:=λe=>h1 (List.length_eq_zero_iff.1 e)
 have ho:Cf ((0:Nat):Int) t=true:=by
  unfold Cf
  rw[GB h.pr,h.uJ.l9,h.uJ.trim]
  simp
 unfold vA
 rw[h.lines]
 rw[if_neg,if_neg,if_neg (by rw[ha];decide)]
 ·simp only[AA,Bool.and_true,decide_eq_false_iff_not]
  have e:Dk y.1.name ((0:Nat):Int) t=lnF y.1:=by
   unfold lnF
   rw[h.lines]
   rfl
  rw[e]
  by_cases hg:(lnF y.1).length≤1000
  ·rw[if_pos hg,if_neg (λh=>h hg)]
  ·rw[if_neg hg,if_pos hg]
 ·simp only[AA,Bool.and_true,ho]
  decide
 ·rw[h4]
  simp[hl]
structure SG (L:List (Fld×oG)):Prop where
 ne:L≠[]
 len:L.length≤40
 fg: ∀y∈L,FG y
 pw:L.Pairwise λy z=>L6 y.1.name z.1.name=false
theorem zU {l:List Pkg}(h:bt l=0):l.length≤24∧ ∀p∈l,aU p=0:=by
 unfold bt at h
 split at h
 ·cases h
 rename_i h1
 split at h
 ·rename_i h2;exact absurd h h2
 rename_i h2
 exact⟨by omega,λp hp=>fZ (by omega) _ (List.mem_map.2 ⟨p,hp,rfl⟩)⟩
theorem lB {l:List aD}(h:bX l=0):l.length≤10∧ ∀x∈l,aU x.pkg=0:=by
 unfold bX at h
 split at h
 ·cases h
 rename_i h1
 split at h
 ·rename_i h2;exact absurd h h2
 rename_i h2
 exact⟨by omega,λx hx=>fZ (Classical.not_not.1 h2) _ (List.mem_map.2 ⟨x,hx,rfl⟩)⟩
end Go.Av
end
section
namespace Go.Av
open Go.Proofs.Tryz
def fe (repo:List Pkg)(s:List aD):List Pkg:=s.map (·.pkg)++repo.filter λp=>match cO s p.name with
 |none=>true
 |some x=>!ba x.pkg.ver p.ver
def gw (repo:List Pkg)(s:List aD):List Pkg×Int:=
 if bt repo≠0 then([],bt repo)else if bX s≠0 then([],bX s)
 else if 24<(fe repo s).length∨10<(dy (fe repo s) []).length then([],12)else(cL (fe repo s),0)
theorem vL : ∀{s:List aD},jO s=false→s.Pairwise λx y=>Op.bytesLess x.pkg.name y.pkg.name=true
 |[],_=>.nil
 |[x],_=>List.pairwise_singleton _ _
 |x::y::r,h=>by
  rw[jO,Bool.or_eq_false_iff,Bool.not_eq_false']at h
  have ih:=vL h.2
  refine List.pairwise_cons.2 ⟨λz hz=>?_,ih⟩
  rcases List.mem_cons.1 hz with rfl|hz
  ·exact h.1
  ·exact fI h.1 ((List.pairwise_cons.1 ih).1 z hz)
theorem nD {s:List aD}(h:bX s=0):(s.map (·.pkg.name)).Nodup:=by
 have hd:jO s=false:=by
  unfold bX at h
  split at h
  ·cases h
  split at h
  ·rename_i h2;exact absurd h h2
  split at h
  ·cases h
  ·rename_i h3;simpa using h3
 rw[List.Nodup,List.pairwise_map]
 refine(vL hd).imp λ{x y} h e=>?_
 rw[e,eF]at h
 cases h
theorem BB {l m:List Pkg}(h:l.Perm m):(dy l []).length=(dy m []).length:=by
 have hn:=λl:List Pkg=>jb l [] List.nodup_nil
 refine((List.perm_ext_iff_of_nodup (hn l) (hn m)).2 λx=>?_).length_eq
 rw[jk,jk]
 constructor
 ·rintro(h1|⟨p,hp,e⟩)
  ·exact .inl h1
  ·exact .inr ⟨p,h.subset hp,e⟩
 ·rintro(h1|⟨p,hp,e⟩)
  ·exact .inl h1
  ·exact .inr ⟨p,h.symm.subset hp,e⟩
theorem vx {l:List Pkg}(h1:l.length≤24)(h2: ∀p∈l,aU p=0)(h3:rE l)(h4:(dy l []).length≤10):bt l=0:=by
 unfold bt
 rw[if_neg (by omega),if_neg,if_neg,if_neg (by omega)]
 ·rw[Bool.not_eq_true,sV]
  exact⟨by simp,h3⟩
 ·rw[Classical.not_not,Cr]
  intro x hx
  obtain⟨p,hp,rfl⟩:=List.mem_map.1 hx
  exact h2 p hp
theorem AO {l m:List Pkg}(h:l.Perm m)(hd:rE l):rE m:=h.pairwise hd λ{a b} h=>by rw[mu];exact h
theorem Jo {repo:List Pkg}{s:List aD}(h:(gw repo s).2=0):bt (gw repo s).1=0∧ns (gw repo s).1∧(∀x∈s,x.pkg∈(gw repo s).1)∧bX s=0:=by
 unfold gw at h ⊢
 split at h
 ·rename_i h1;exact absurd h h1
 rename_i h1
 rw[if_neg h1]
 split at h
 ·rename_i h2;exact absurd h h2
 rename_i h2
 rw[if_neg h2]
 split at h
 ·cases h
 rename_i h3
 rw[if_neg h3]
 have h1:=Classical.not_not.1 h1
 have h2:=Classical.not_not.1 h2
 obtain⟨_,hr⟩:=zU h1
 obtain⟨_,he⟩:=lB h2
 obtain⟨hd,_⟩:=eZ h1
 have hnm:=nD h2
 have hp:=ei (fe repo s)
 have hmay: ∀p∈fe repo s,aU p=0:=λp hp=>by
  unfold fe at hp
  rcases List.mem_append.1 hp with hp|hp
  ·obtain⟨x,hx,rfl⟩:=List.mem_map.1 hp
   exact he x hx
  ·exact hr p (List.mem_filter.1 hp).1
 have hnd:rE (fe repo s):=by
  refine List.pairwise_append.2 ⟨?_,List.Pairwise.sublist List.filter_sublist hd,λp hp q hq=>?_⟩
  ·rw[List.pairwise_map]
   rw[List.Nodup,List.pairwise_map]at hnm
   refine hnm.imp λ{x y} hxy=>?_
   unfold db
   have:(x.pkg.name==y.pkg.name)=false:=by simpa using hxy
   rw[this,Bool.false_and]
  ·obtain⟨x,hx,rfl⟩:=List.mem_map.1 hp
   obtain⟨_,hq2⟩:=List.mem_filter.1 hq
   unfold db
   by_cases hn:x.pkg.name=q.name
   ·have:=pE hnm hx
    rw[hn]at this
    rw[this]at hq2
    simp only[Bool.not_eq_true']at hq2
    rw[hq2,Bool.and_false]
   ·have:(x.pkg.name==q.name)=false:=by simpa using hn
    rw[this,Bool.false_and]
 have hv:tV (fe repo s):=λp hp=>by
  have:=dK (hmay p hp)
  exact this.ver
 refine⟨vx (by rw[hp.length_eq];omega) (λp hpm=>hmay p (hp.subset hpm)) (AO hp.symm hnd) (by rw[BB hp];omega),kj hv,λx hx=>hp.symm.subset ?_,h2⟩
 unfold fe
 exact List.mem_append_left _ (List.mem_map_of_mem hx)
end Go.Av
end
section
namespace Go.Av
open Go.Proofs.Tryz
theorem yw {k:Nat}{t:List Nat}(hs:t.Pairwise (· < ·))(hk: ∀i∈t,i<k):aX k (bG t)=t:=by
 have h2:(aX k (bG t)).Pairwise (· < ·):=List.Pairwise.sublist List.filter_sublist List.pairwise_lt_range
 refine List.Perm.eq_of_pairwise (le:=(· < ·)) (λa b _ _ h1 h2=>by omega) h2 hs ?_
 rw[List.perm_ext_iff_of_nodup (h2.imp λ{a b} h=>by omega) (hs.imp λ{a b} h=>by omega)]
 intro i
 rw[bN,cC,decide_eq_true_eq]
 exact⟨λh=>h.2,λh=>⟨hk i h,h⟩⟩
def vB (S:Nat):Nat:=jV (aX 32 S)
def ltB (x y:List Nat×Nat):Bool:=lexB x.1 y.1||(x.1==y.1&&decide (vB y.2<vB x.2))
def wP (all:List Pkg)(s:List aD)(l:List aG)(up:Bool):List (List Nat×Nat):=(ny (ey all s l) (aO all s l) 0 0).map λS=>(jj all s S up,S)
def eE (all:List Pkg)(s:List aD)(l:List aG)(up:Bool):List (List Nat×List Nat):=
 LJ (((df all (all.length+1) 0 []).filter λt=>dz l (atL all t) s).map λt=>(vo all s (atL all t) up,t))
def toB (x:List Nat×List Nat):List Nat×Nat:=(x.1,bG x.2)
theorem jh (up:Bool)(a b c d e:Nat):(yG up a b c d e).length=5:=by
 unfold yG
 split<;>rfl
theorem ri {all:List Pkg}{t:List Nat}(h:t∈df all (all.length+1) 0 []):t∈cF (dj all (all.length+1) 0):=by
 rw[fx (by omega)]at h
 have:=(List.mem_filter.1 h).1
 simpa using this
theorem Ec {all:List Pkg}(hc:lI all){t:List Nat}(ht:t∈cF (dj all (all.length+1) 0)):t.Pairwise (· < ·)∧ ∀i∈t,i<all.length:=by
 obtain⟨r1,_,_⟩:=j0 hc (f:=all.length+1) (i:=0) (by omega) (by omega) (λj p q hj=>by omega)
 obtain⟨k1,_⟩:=sb hc (f:=all.length+1) (i:=0) (by omega) (by omega) (λj p q hj=>by omega)
 refine⟨ku k1 ht,λi hi=>?_⟩
 obtain⟨g,hg,hig⟩:=eH ht i hi
 obtain⟨p,rfl,_⟩:=r1 g hg
 obtain⟨q,hq,_⟩:=bs.1 hig
 exact(List.getElem?_eq_some_iff.1 hq).1
theorem CE {all:List Pkg}: ∀{f i:Nat},∀g∈dj all f i,i≤all.length→g≠[]
 |0,i,g,hg,_=>by cases hg
 |f+1,i,g,hg,hi=>by
  rw[dj]at hg
  by_cases h:i=all.length
  ·rw[if_pos h]at hg
   cases hg
  ·rw[if_neg h]at hg
   obtain⟨p,hp⟩:=get_some (show i<all.length by omega)
   obtain⟨b1,b2⟩:=cD hp
   rcases List.mem_cons.1 hg with rfl|hg
   ·intro e
    have:=congrArg List.length e
    simp only[List.length_range',List.length_nil]at this
    omega
   ·exact CE g hg b2
theorem rA : ∀{gs:List (List Nat)},qC gs→(∀g∈gs,g.Nodup)→(cF gs).Nodup
 |[],_,_=>by simp[cF]
 |g::r,ha,hn=>by
  have ih:=rA ha.2 λh hh=>hn h (by simp[hh])
  rw[cF,List.nodup_append]
  refine⟨?_,ih,λt ht u hu e=>?_⟩
  ·have: ∀l:List Nat,l.Nodup→(l.flatMap λi=>(cF r).map (i:: ·)).Nodup:=λl=>by
    induction l with
    |nil=>intro _;simp
    |cons i l ih2=>
     intro hl
     rw[List.nodup_cons]at hl
     rw[List.flatMap_cons,List.nodup_append]
     refine⟨?_,ih2 hl.2,λt ht u hu e=>?_⟩
     ·rw[List.Nodup,List.pairwise_map]
      exact ih.imp λ{a b} h e=>h (by simpa using e)
     ·obtain⟨a,_,rfl⟩:=List.mem_map.1 ht
      obtain⟨j,hj,hu⟩:=List.mem_flatMap.1 hu
      obtain⟨b,_,rfl⟩:=List.mem_map.1 hu
      simp only[List.cons.injEq]at e
      exact hl.1 (e.1▸hj)
   exact this g (hn g (by simp))
  ·obtain⟨i,hi,ht⟩:=List.mem_flatMap.1 ht
   obtain⟨a,_,rfl⟩:=List.mem_map.1 ht
   rw[←e]at hu
   obtain⟨h,hh,hih⟩:=eH hu i (by simp)
   exact ha.1 i hi h hh hih
theorem uA {all:List Pkg}(hc:lI all)(q:List Nat→Bool):((df all (all.length+1) 0 []).filter q).Nodup:=by
 obtain⟨_,_,r3⟩:=j0 hc (f:=all.length+1) (i:=0) (by omega) (by omega) (λj p q hj=>by omega)
 obtain⟨_,k2⟩:=sb hc (f:=all.length+1) (i:=0) (by omega) (by omega) (λj p q hj=>by omega)
 rw[fx (by omega)]
 refine List.Pairwise.sublist List.filter_sublist (List.Pairwise.sublist List.filter_sublist ?_)
 rw[show(cF (dj all (all.length+1) 0)).map (([]:List Nat)++ ·)=cF (dj all (all.length+1) 0) by simp]
 exact rA r3 λg hg=>(k2 g hg).imp λ{a b} h=>by omega
theorem zn {all:List Pkg}{s:List aD}{l:List aG}(hc:lI all)(up:Bool):(eE all s l up).Perm (((df all (all.length+1) 0 []).filter λt=>dz l (atL all t) s).map λt=>(vo all s (atL all t) up,t))∧(eE all s l up).Pairwise λa b=>ltP a b=true:=
 yt (k:=5) (o:=[]) (by
  rw[List.nil_append,List.pairwise_map]
  exact uA hc _) (λy hy=>by
  rw[List.nil_append]at hy
  obtain⟨t,_,rfl⟩:=List.mem_map.1 hy
  exact jh _ _ _ _ _ _) .nil
theorem Ba {all:List Pkg}{s:List aD}{l:List aG}(h24:all.length≤24)(hm: ∀p∈all,aU p=0)(hc:lI all)(hU:Uni all s l)(hnv:da all s l=false)(up:Bool){o:List (List Nat×Nat)}(hp:o.Perm (wP all s l up))(hs:o.Pairwise λx y=>ltB y x=false):
  o=(eE all s l up).map toB:=by
 obtain⟨b1,b2⟩:=zn (s:=s) (l:=l) hc up
 generalize hW:(df all (all.length+1) 0 []).filter (λt=>dz l (atL all t) s)=W at b1
 have hWp: ∀t∈W,t∈cF (dj all (all.length+1) 0):=λt ht=>by
  rw[←hW]at ht
  exact ri (List.mem_filter.1 ht).1
 have hinc: ∀t∈W,t.Pairwise (· < ·)∧ ∀i∈t,i<32:=λt ht=>by
  obtain⟨g1,g2⟩:=Ec hc (hWp t ht)
  exact⟨g1,λi hi=>by have:=g2 i hi;omega⟩
 have hmem: ∀x∈eE all s l up,x.2∈W∧x.1.length=5:=λx hx=>by
  obtain⟨t,ht,rfl⟩:=List.mem_map.1 (b1.subset hx)
  exact⟨ht,jh _ _ _ _ _ _⟩
 have hturn: ∀t∈W,vB (bG t)=jV t:=λt ht=>by
  obtain⟨g1,g2⟩:=hinc t ht
  unfold vB
  rw[yw g1 g2]
 have hlt: ∀x∈eE all s l up,∀y∈eE all s l up,ltB (toB x) (toB y)=ltP x y:=λx hx y hy=>by
  obtain⟨hx,_⟩:=hmem x hx
  obtain⟨hy,_⟩:=hmem y hy
  unfold ltB ltP toB
  simp only
  rw[hturn _ hx,hturn _ hy,tP (hinc _ hx).1 (hinc _ hy).1 (hinc _ hx).2 (hinc _ hy).2]
 have hperm:o.Perm ((eE all s l up).map toB):=by
  refine hp.trans ?_
  have h1:=(yL hm hc hU hnv).map λS=>(jj all s S up,S)
  rw[hW]at h1
  refine h1.trans (List.Perm.trans (List.Perm.of_eq ?_) (b1.map toB).symm)
  rw[List.map_map,List.map_map]
  refine List.map_congr_left λt ht=>?_
  show(jj all s (bG t) up,bG t)=(vo all s (atL all t) up,bG t)
  rw[Je hc hU (hWp t ht)]
 have hs2:((eE all s l up).map toB).Pairwise λx y=>ltB y x=false:=by
  rw[List.pairwise_map]
  refine b2.imp_of_mem λ{x y} hx hy h=>?_
  rw[hlt y hy x hx]
  cases h2:ltP y x with
  |false=>rfl
  |true=>
   have:=vE h h2
   rw[C9]at this
   cases this
 refine List.Perm.eq_of_pairwise (le:=λx y=>ltB y x=false) (λx y hx hy h1 h2=>?_) hs hs2 hperm
 obtain⟨a,ha,rfl⟩:=List.mem_map.1 (hperm.subset hx)
 obtain⟨b,hb,rfl⟩:=List.mem_map.1 hy
 rw[hlt b hb a ha]at h1
 rw[hlt a ha b hb]at h2
 by_cases he:a.2=b.2
 ·have hc2:a.1=b.1:=by
   obtain⟨t,_,rfl⟩:=List.mem_map.1 (b1.subset ha)
   obtain⟨u,_,rfl⟩:=List.mem_map.1 (b1.subset hb)
   have he:t=u:=he
   rw[he]
  unfold toB
  rw[he,hc2]
 ·have:=Ck (x:=b) (y:=a) ((hmem b hb).2.trans (hmem a ha).2.symm) (λe=>he e.symm) h1
  rw[this]at h2
  cases h2
end Go.Av
end
section
namespace Go.Av
theorem fN (a b:Nat)(ha:a<4294967296)(hb:b<4294967296):bits .and .u32 (a:Int) (b:Int)=((a &&& b:Nat):Int):=by
 have h1:(BitVec.ofInt 32 (a:Int)).toNat=a:=by simp;omega
 have h2:(BitVec.ofInt 32 (b:Int)).toNat=b:=by simp;omega
 show IntKind.u32.wrap ((BitVec.ofInt 32 (a:Int) &&& BitVec.ofInt 32 (b:Int)).toNat:Int)=_
 have hlt:=(BitVec.ofInt 32 (a:Int) &&& BitVec.ofInt 32 (b:Int)).isLt
 rw[IntKind.wrap_u32,BitVec.toNat_and,h1,h2]
 rw[BitVec.toNat_and,h1,h2]at hlt
 omega
theorem im (a b:Nat)(ha:a<4294967296)(hb:b<4294967296):bits .or .u32 (a:Int) (b:Int)=((a ||| b:Nat):Int):=by
 have h1:(BitVec.ofInt 32 (a:Int)).toNat=a:=by simp;omega
 have h2:(BitVec.ofInt 32 (b:Int)).toNat=b:=by simp;omega
 show IntKind.u32.wrap ((BitVec.ofInt 32 (a:Int) ||| BitVec.ofInt 32 (b:Int)).toNat:Int)=_
 have hlt:=(BitVec.ofInt 32 (a:Int) ||| BitVec.ofInt 32 (b:Int)).isLt
 rw[IntKind.wrap_u32,BitVec.toNat_or,h1,h2]
 rw[BitVec.toNat_or,h1,h2]at hlt
 omega
def bH (m k x:Nat):Nat:=((x >>> k) &&& m) ||| (((x &&& m) <<< k) % 4294967296)
theorem kp {m k x:Nat}(hm:m<4294967296):bH m k x<4294967296:=
 Nat.or_lt_two_pow (n:=32) (Nat.lt_of_le_of_lt Nat.and_le_right hm) (Nat.mod_lt _ (by decide))
theorem Dx (m k x i:Nat)(hi:i<32):(bH m k x).testBit i=((x.testBit (k+i)&&m.testBit i)||(decide (k≤i)&&(x.testBit (i-k)&&m.testBit (i-k)))):=by
 unfold bH
 rw[Nat.testBit_or,Nat.testBit_and,Nat.testBit_shiftRight,show 4294967296=2^32 from rfl,Nat.testBit_mod_two_pow,Nat.testBit_shiftLeft,Nat.testBit_and]
 simp[hi]
def fV (x:Nat):Nat:=
 let a:=bH 16711935 8 (bH 252645135 4 (bH 858993459 2 (bH 1431655765 1 x)))
 (a >>> 16) ||| ((a <<< 16) % 4294967296)
theorem J6 (x:Nat):fV x<4294967296:=
 Nat.or_lt_two_pow (n:=32) (by
  rw[Nat.shiftRight_eq_div_pow]
  have:=kp (m:=16711935) (k:=8) (x:=bH 252645135 4 (bH 858993459 2 (bH 1431655765 1 x))) (by decide)
  omega) (Nat.mod_lt _ (by decide))
theorem T6 : ∀i,i<32→Nat.testBit 1431655765 i=decide (i % 2=0):=by decide
theorem UO : ∀i,i<32→Nat.testBit 858993459 i=decide (i % 4<2):=by decide
theorem UP : ∀i,i<32→Nat.testBit 252645135 i=decide (i % 8<4):=by decide
theorem S3 : ∀i,i<32→Nat.testBit 16711935 i=decide (i % 16<8):=by decide
theorem pf {m k:Nat}(hk:0<k)(hm: ∀i,i<32→m.testBit i=decide (i % (2*k)<k))(x i:Nat)(hi:i<32):
  (bH m k x).testBit i=x.testBit (if i % (2*k)<k then i+k else i-k):=by
 rw[Dx m k x i hi,hm i hi]
 by_cases h:i % (2*k)<k
 ·by_cases h2:k≤i
  ·have h3: ¬(i-k) % (2*k)<k:=by
    have hd:=Nat.div_add_mod i (2*k)
    have hq:i / (2*k)≠0:=by
     intro h0;rw[h0]at hd;omega
    obtain⟨q,hq⟩:=Nat.exists_eq_succ_of_ne_zero hq
    have e:i-k=2*k*q+(i % (2*k)+k):=by
     rw[hq,Nat.mul_succ]at hd;omega
    rw[e,Nat.mul_add_mod,Nat.mod_eq_of_lt (by omega)]
    omega
   simp[h,hm (i-k) (by omega),h3,Nat.add_comm]
  ·simp[h,h2,Nat.add_comm]
 ·have h2:k≤i:=by
   rcases Nat.lt_or_ge i k with g|g
   ·rw[Nat.mod_eq_of_lt (by omega)]at h;omega
   ·exact g
  have h3:(i-k) % (2*k)<k:=by
   have hd:=Nat.div_add_mod i (2*k)
   have hl:=Nat.mod_lt i (show 0<2*k by omega)
   have e:i-k=2*k*(i / (2*k))+(i % (2*k)-k):=by omega
   rw[e,Nat.mul_add_mod,Nat.mod_eq_of_lt (by omega)]
   omega
  simp[h,h2,hm (i-k) (by omega),h3]
theorem Ie (x:Nat): ∀i,i<32→(fV x).testBit i=x.testBit (31-i):=by
 intro i hi
 have s1:=pf (m:=1431655765) (k:=1) (by decide) (λi hi=>by rw[T6 i hi];congr 1;simp) x
 have s2:=pf (m:=858993459) (k:=2) (by decide) UO (bH 1431655765 1 x)
 have s4:=pf (m:=252645135) (k:=4) (by decide) UP (bH 858993459 2 (bH 1431655765 1 x))
 have s8:=pf (m:=16711935) (k:=8) (by decide) S3 (bH 252645135 4 (bH 858993459 2 (bH 1431655765 1 x)))
 have hA:=kp (m:=16711935) (k:=8) (x:=bH 252645135 4 (bH 858993459 2 (bH 1431655765 1 x))) (by decide)
 have hB:(fV x).testBit i=(bH 16711935 8 (bH 252645135 4 (bH 858993459 2 (bH 1431655765 1 x)))).testBit (if i<16 then i+16 else i-16):=by
  unfold fV
  simp only
  generalize bH 16711935 8 (bH 252645135 4 (bH 858993459 2 (bH 1431655765 1 x)))=a at hA
  rw[Nat.testBit_or,Nat.testBit_shiftRight,show 4294967296=2^32 from rfl,Nat.testBit_mod_two_pow,Nat.testBit_shiftLeft]
  by_cases h:i<16
  ·have: ¬16≤i:=by omega
   simp[h,hi,this,Nat.add_comm]
  ·have h16:16≤i:=by omega
   have:a.testBit (16+i)=false:=Nat.testBit_lt_two_pow (Nat.lt_of_lt_of_le hA (show 2^32≤2^(16+i)from Nat.pow_le_pow_right (n:=2) (by decide) (by omega)))
   simp[h,hi,h16,this]
 rw[hB,s8 _ (by split<;>omega),s4 _ (by split<;>split<;>omega),s2 _ (by split<;>split<;>split<;>omega),s1 _ (by split<;>split<;>split<;>split<;>omega)]
 congr 1
 clear s1 s2 s4 s8 hA hB
 revert i
 decide
theorem vH {x:Nat}(hx:x<4294967296):vB x=fV x:=by
 apply Nat.eq_of_testBit_eq
 intro i
 unfold vB jV
 rw[cC]
 by_cases hi:i<32
 ·rw[Ie x i hi]
  apply Bool.eq_iff_iff.2
  simp only[decide_eq_true_eq,List.mem_map]
  refine⟨λ⟨j,hj,e⟩=>?_,λh=>⟨31-i,bN.2 ⟨by omega,h⟩,by omega⟩⟩
  obtain⟨h1,h2⟩:=bN.1 hj
  rw[show 31-i=j by omega]
  exact h2
 ·rw[Nat.testBit_lt_two_pow (Nat.lt_of_lt_of_le (J6 x) (show 2^32≤2^i from Nat.pow_le_pow_right (n:=2) (by decide) (by omega)))]
  apply Bool.eq_false_iff.2
  intro h
  simp only[decide_eq_true_eq,List.mem_map]at h
  obtain⟨j,hj,e⟩:=h
  have:=(bN.1 hj).1
  omega
end Go.Av
end
