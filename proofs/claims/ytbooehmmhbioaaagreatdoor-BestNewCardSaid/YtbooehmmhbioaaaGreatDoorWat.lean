/- Texts that the last one of this claim rests on: a layer over the guide's own conditions for code; contracts of the functions that the law reaches, one by one. No conditions beside those of the given rows. -/
import Derived.WalkKit
import Derived.Lib.SliceRun
import Derived.Test.YtbooehmmhbioaaaGreatDoorWai
import Derived.Test.YtbooehmmhbioaaaGreatDoorWal
import Derived.Test.YtbooehmmhbioaaaGreatDoorWam
import Derived.Test.YtbooehmmhbioaaaGreatDoorWan
import Derived.Test.YtbooehmmhbioaaaGreatDoorWao
import Derived.Test.YtbooehmmhbioaaaGreatDoorWaq
import Derived.Test.YtbooehmmhbioaaaGreatDoorWar
import Derived.Test.YtbooehmmhbioaaaGreatDoorWas
set_option linter.unusedSimpArgs false
set_option linter.unusedVariables false
section
namespace Go.Av
def qe (st:ab)(v:AV)(e:TypeId)(xs:List AV):Prop:=v= .sl e xs∨ ∃id,v= .row e id 0 xs.length∧st[id]?=some (some (.cells e xs))
section
variable {σ st:ab}{v:AV}{e:TypeId}{xs:List AV}
theorem qe.notM (h:qe st v e xs):cL v:=by
 rcases h with rfl|⟨_,rfl,_⟩<;>trivial
theorem qe.ok (h:qe st v e xs)(g:Option Bool):okM g v=True:=bT h.notM
theorem qe.un (h:qe st v e xs):unm v=v:=cA h.notM
theorem qe.len (h:qe st v e xs):oI v= .int .i64 xs.length:=by
 rcases h with rfl|⟨_,rfl,_⟩<;>rfl
theorem qe.ext (h:qe σ v e xs)(hx:Ext σ st):qe st v e xs:=by
 rcases h with h|⟨id,h1,h2⟩
 ·exact .inl h
 ·exact .inr ⟨id,h1,by rw[(Fr.ext (F:=[]) hx).old id (List.getElem?_eq_some_iff.1 h2).1 (by simp)];exact h2⟩
theorem qe.gA (h:qe st v e xs)(P:Program)(t:TypeId):gA P t v=((elT P t).isSome=true):=by
 rcases h with rfl|⟨_,rfl,_⟩<;>rfl
end
end Go.Av
namespace Go.Proofs.Tryz
open Go Go.Av
set_option maxRecDepth 10000
variable {W0 :World}
end Go.Proofs.Tryz
end
section
namespace Go.Av
structure nW (rid:Nat)(σ σ':ab):Prop where
 len:σ.length≤σ'.length
 old: ∀j,j<σ.length→j≠rid→σ'[j]?=σ[j]?
theorem nW.refl (b:Nat)(σ:ab):nW b σ σ:=⟨Nat.le_refl _,λ_ _ _=>rfl⟩
theorem nW.trans {b:Nat}{σ σ' σ'':ab}(h:nW b σ σ')(k:nW b σ' σ''):nW b σ σ'':=⟨Nat.le_trans h.len k.len,λj hj hn=>(k.old j (Nat.lt_of_lt_of_le hj h.len) hn).trans (h.old j hj hn)⟩
theorem nW.set {b:Nat}{σ σ':ab}(h:nW b σ σ')(o:Option cY):nW b σ (σ'.set b o):=⟨by simpa using h.len,λj hj hn=>by rw[List.getElem?_set_ne (λe=>hn e.symm)];exact h.old j hj hn⟩
theorem nW.app {b:Nat}{σ σ':ab}(h:nW b σ σ')(l:ab):nW b σ (σ'++l):=⟨by have:=h.len;simp;omega,λj hj hn=>by rw[List.getElem?_append_left (by have:=h.len;omega)];exact h.old j hj hn⟩
theorem nW.ext {b:Nat}{σ τ σ':ab}(h:nW b τ σ')(k:Ext σ τ)(hb:σ.length≤b):Ext σ σ':=by
 refine List.ext_getElem? λj=>?_
 rw[List.getElem?_take]
 split
 ·rename_i hj
  rw[h.old j (by have:=k.le;omega) (by omega),k.eq,List.getElem?_append_left hj]
 ·rw[List.getElem?_eq_none (by omega)]
theorem BT (u v:AV):lN true u v=u:=by
 unfold lN lY
 cases u<;>cases v<;>rfl
end Go.Av
namespace Go.Proofs.Tryz
open Go Go.Av
set_option maxRecDepth 10000
variable {W0 :World}
end Go.Proofs.Tryz
end
section
namespace Go.Proofs.Tryz
open Go Go.Av
set_option maxRecDepth 10000
variable {W0 :World}
def nlz (e:TypeId)(xs:List AV):AV:=match xs with
 |[]=>.ay
 |x::r=>.sl e (x::r)
theorem wo {e:TypeId}{xs:List AV}(h:aR 0 (.sl e xs)):aR 0 (nlz e xs):=by
 cases xs with
 |nil=>exact .ay
 |cons x r=>exact h
def NY (l:List Clause):AV:=nlz 72 (l.map aE)
def Fs (l:List Atom):AV:=nlz 81 (l.map aQ)
def Nn (l:List gC):AV:=nlz 147 (l.map cZ)
end Go.Proofs.Tryz
end
section
namespace Go.Av
def hd0 :List UInt8→UInt8
 |[]=>0
 |c::_=>c
end Go.Av
namespace Go.Proofs.Tryz
open Go Go.Av
set_option maxRecDepth 10000
variable {W0 :World}
end Go.Proofs.Tryz
end
section
namespace Go.Proofs.Tryz
open Go Go.Av
end Go.Proofs.Tryz
namespace Go.Proofs.Tryz
open Go Go.Av
set_option maxRecDepth 10000
variable {W0 :World}
theorem Ga (l:List Atom)(hl:l.length≤1048576):ag prog W0 153 [nlz 81 (l.map aQ)] (nlz 81 (l.map aQ)):=by
 refine ai [2] [] func153 rfl rfl ntmps153 rfl rfl (wo (gG oe l)) λhs σ=>?_
 cases l with
 |nil=>
  simp only[go_sem,simprocAttr,List.map_nil,nlz]
 |cons x c=>
  simp only[go_sem,simprocAttr,List.map_cons,nlz]
  refine bX.own 1048576 (by kernel_rfl) (.inr (.inl rfl)) (.sl _ _ _) (by simpa using hl) λv' σ' ha'=>?_
  have hb':=(aU.app (σ:=σ) ⟨.inr (.inl rfl),.refl _,λt h=>by cases h⟩ ha')
  simp only[go_sem,simprocAttr,hb'.ok,hb'.un]
  exact⟨hb'.cU,hb'.ext⟩
theorem Ek (l:List gC)(hl:l.length≤1048576):ag prog W0 154 [nlz 147 (l.map cZ)] (nlz 147 (l.map cZ)):=by
 refine ai [2] [] func154 rfl rfl ntmps154 rfl rfl (wo (gG s5 l)) λhs σ=>?_
 cases l with
 |nil=>
  simp only[go_sem,simprocAttr,List.map_nil,nlz]
 |cons x c=>
  simp only[go_sem,simprocAttr,List.map_cons,nlz]
  refine bX.own 1048576 (by kernel_rfl) (.inr (.inl rfl)) (.sl _ _ _) (by simpa using hl) λv' σ' ha'=>?_
  have hb':=(aU.app (σ:=σ) ⟨.inr (.inl rfl),.refl _,λt h=>by cases h⟩ ha')
  simp only[go_sem,simprocAttr,hb'.ok,hb'.un]
  exact⟨hb'.cU,hb'.ext⟩
theorem Ct (l:List Atom)(hl:l.length≤1048576):ag prog W0 152 [nlz 81 (l.map aQ)] (nlz 81 (l.map aQ)):=by
 refine ai [2] [] func152 rfl rfl ntmps152 rfl rfl (wo (gG oe l)) λhs σ=>?_
 cases l with
 |nil=>
  simp only[go_sem,simprocAttr,List.map_nil,nlz]
 |cons x c=>
  simp only[go_sem,simprocAttr,List.map_cons,nlz]
  refine bX.own 1048576 (by kernel_rfl) (.inr (.inl rfl)) (.sl _ _ _) (by simpa using hl) λv' σ' ha'=>?_
  have hb':=(aU.app (σ:=σ) ⟨.inr (.inl rfl),.refl _,λt h=>by cases h⟩ ha')
  simp only[go_sem,simprocAttr,hb'.ok,hb'.un]
  exact⟨hb'.cU,hb'.ext⟩
end Go.Proofs.Tryz
end
section
namespace Go.Proofs.Tryz
open Go Go.Av
set_option maxRecDepth 10000
variable {W0 :World}
def SV (p:Pkg):AV:=.agg 54 [.str p.name,.str p.ver,NY p.pre,NY p.dep,NY p.rcm,Fs p.con,Fs p.brk,Nn p.dW,.bool p.ess]
def V4 (x:aL):AV:=.agg 56 [SV x.pkg,.bool x.IA,.bool x.hold]
end Go.Proofs.Tryz
end
section
namespace Go.Av
theorem Fy {α:Type}{g:α→Nat}: ∀{l:List α} {a:α},a∈l→g a≤(l.map g).sum
 |b::l,a,h=>by
  rcases List.mem_cons.1 h with rfl|h
  ·simp
  ·have:=Fy (g:=g) h
   simp;omega
theorem Ez {α:Type}{g h:α→Nat}(hg: ∀a,g a≤h a): ∀l:List α,(l.map g).sum≤(l.map h).sum
 |[]=>by simp
 |a::l=>by
  have:=Ez hg l
  have:=hg a
  simp;omega
structure LP (s:Stz):Prop where
 ln: -9223372036854775808≤s.line
 fl:s.fields.length≤1048576
 sz:(s.fields.map λf=>f.lines.length).sum≤1048574
 fd: ∀f∈s.fields,vS f.lines+f.lines.length≤140737488355328∧(KE f.name=7∨(lP f.lines).length≤1048574)
end Go.Av
namespace Go.Proofs.Tryz
open Go Go.Av
set_option maxRecDepth 10000
variable {W0 :World}
end Go.Proofs.Tryz
end
section
namespace Go.Av
structure K4 (s:Stz):Prop where
 ln: -9223372036854775808≤s.line
 fl:s.fields.length≤1048576
 sz:(s.fields.map λf=>vS f.lines+f.lines.length).sum≤1048574
theorem K4.wide {s:Stz}(h:K4 s):LP s:=by
 have hs:=Ez (g:=λf:Fld=>f.lines.length) (h:=λf:Fld=>vS f.lines+f.lines.length) (λf=>by omega) s.fields
 refine⟨h.ln,h.fl,Nat.le_trans hs h.sz,λf hf=>?_⟩
 have:=Nat.le_trans (Fy (g:=λf:Fld=>vS f.lines+f.lines.length) hf) h.sz
 exact⟨Nat.le_trans this (by decide),.inr (Nat.le_trans (CY _) this)⟩
end Go.Av
namespace Go.Proofs.Tryz
open Go Go.Av
set_option maxRecDepth 10000
variable {W0 :World}
theorem Gp (p:Pkg):Sub (SV p) (aw p):=.agg rfl λi a b ha hb=>by
 have nz: ∀(e:TypeId) (xs:List AV),Sub (nlz e xs) (.sl e xs):=λe xs=>by
  cases xs with
  |nil=>exact .ay _
  |cons x r=>exact .refl _
 match i,ha,hb with
 |0,ha,hb|1,ha,hb|8,ha,hb=>cases ha;cases hb;exact .refl _
 |2,ha,hb|3,ha,hb|4,ha,hb|5,ha,hb|6,ha,hb|7,ha,hb=>cases ha;cases hb;exact nz _ _
end Go.Proofs.Tryz
end
section
namespace Go.Proofs.Tryz
open Go Go.Av
set_option maxRecDepth 10000
variable {W0 :World}
def bH (x:aL):AV:=.agg 56 [aw x.pkg,.bool x.IA,.bool x.hold]
def bc (l:List aL):AV:=.sl 56 (l.map bH)
theorem AP (l:List aL)(hp: ∀x∈l,mH x.pkg):ag prog W0 34 [bc l] (.int .i64 (dp l)):=by
 refine ai [2] [4] func34 rfl rfl ntmps34 rfl rfl (.int _ _) λhs σ=>?_
 have hl:=(aO (hs _ (List.mem_cons_self ..))).1
 simp only[go_sem,simprocAttr,bc,List.length_map]
 refine⟨λh=>aq (by rw[dp,if_pos ((lS l 10).1 (by simpa using h))]),λh=>?_⟩
 have h10: ¬10<l.length:=λe=>by have:=(lS l 10).2 e;omega
 refine af.at [0] (.of (by kernel_rfl)) (λA=>Ext σ A.st∧orL (l.map λx=>aW x.pkg)=0) ?_ λB ⟨hst,h6⟩=>?_
 ·refine af.upto [0,10,11] (.of (by kernel_rfl)) l.length (λi A=>A.env 12= .int .i64 i∧Ext σ A.st∧orL ((l.map λx=>aW x.pkg).drop i)=orL (l.map λx=>aW x.pkg)) 0 (Nat.zero_le _) ?_ λi B hi ⟨h8,hst,hI⟩=>?_
  ·simp only[go_sem,simprocAttr]
   simp[Ext.refl]
  simp only[go_sem,simprocAttr,h8,List.length_map]
  refine⟨λhc=>⟨hc,?_⟩,λhc=>?_⟩
  ·obtain⟨a,ha⟩:=get_some hc
   obtain⟨hlt,hae⟩:=List.getElem?_eq_some_iff.1 ha
   rw[List.drop_eq_getElem_cons (by simpa using hc),List.getElem_map,hae]at hI
   simp only[av ha]
   simp only[go_sem,simprocAttr,bH,h8,List.length_map]
   refine an.fn (Gj a.pkg (hp a (List.mem_of_getElem? ha))) ?_
   simp only[go_sem,simprocAttr,h8]
   refine⟨λhq=>⟨aq ?_,hst.app _⟩,λhq=>⟨hc,ah hc hl,hst.app _,?_⟩⟩
   ·rw[orL,if_pos hq]at hI
    rw[dp,if_neg h10,if_pos (by rw[←hI];exact hq),hI]
   ·rw[←hI,orL,if_neg (by simpa using hq)]
  ·rw[List.drop_eq_nil_of_le (by simpa using hc)]at hI
   exact⟨hst,hI.symm⟩
 have hm:dp l=if kf l=true then 4 else 0:=by rw[dp,if_neg h10,if_neg (by simp[h6])]
 simp only[go_sem,simprocAttr,List.length_map]
 refine af.upto [0] (.of (by kernel_rfl)) (max 1 l.length) (λi A=>A.env 6= .int .i64 i∧1≤i∧Ext σ A.st∧kf (l.drop (i-1))=kf l) 1 (Nat.le_max_left _ _) ?_ λi A hi ⟨h6',h1,hst',hI⟩=>?_
 ·simp only[go_sem,simprocAttr]
  exact hst
 simp only[go_sem,simprocAttr,h6',List.length_map]
 refine⟨λhc=>?_,λhc=>?_⟩
 ·have hc':i<l.length:=by omega
  obtain⟨j,rfl⟩: ∃j,i=j+1:=⟨i-1,by omega⟩
  obtain⟨a,ha⟩:=get_some (show j<l.length by omega)
  obtain⟨b,hb⟩:=get_some hc'
  have hw:IntKind.i64.wrap (((j+1:Nat):Int)-1)=(j:Nat):=by rw[aF (by rw[au]at hl;omega)];omega
  simp only[hw]
  simp only[go_sem,simprocAttr,h6',List.length_map,av ha,av hb,bH,aw]
  have hd:l.drop j=a::l.drop (j+1):=by rw[List.drop_eq_getElem_cons (by omega)];congr 1;exact(List.getElem?_eq_some_iff.1 ha).2
  have hd1:l.drop (j+1)=b::l.drop (j+1+1):=by rw[List.drop_eq_getElem_cons hc'];congr 1;exact(List.getElem?_eq_some_iff.1 hb).2
  have hI':kf (l.drop j)=kf l:=hI
  rw[hd,hd1,kf,←hd1]at hI'
  refine⟨.of (by kernel_rfl),by omega,hc',λhq=>⟨aq ?_,hst'⟩,λhq=>⟨by omega,ah hc' hl,hst',?_⟩⟩
  ·rw[hm,←hI',hq,if_pos (by simp)]
  ·rw[←hI',hq];simp
 ·have hn:kf l=false:=by
   rw[←hI]
   have hlen:(l.drop (i-1)).length≤1:=by rw[List.length_drop];omega
   generalize l.drop (i-1)=r at hlen
   match r,hlen with
   |[],_=>rfl
   |[x],_=>rfl
  exact⟨aq (by rw[hm,hn];rfl),hst'⟩
theorem AF (l:List aL):ag prog W0 21 [bc l] (.int .i64 (dp l)):=by
 refine ai [2] [4] func21 rfl rfl ntmps21 rfl rfl (.int _ _) λhs σ=>?_
 have hl:=(aO (hs _ (List.mem_cons_self ..))).1
 simp only[go_sem,simprocAttr,bc,List.length_map]
 refine⟨λh=>aq (by rw[dp,if_pos ((lS l 10).1 (by simpa using h))]),λh=>?_⟩
 have h10: ¬10<l.length:=λe=>by have:=(lS l 10).2 e;omega
 refine af.at [0] (.of (by kernel_rfl)) (λA=>Ext σ A.st∧orL (l.map λx=>aW x.pkg)=0) ?_ λB ⟨hst,h6⟩=>?_
 ·refine af.upto [0,10,11] (.of (by kernel_rfl)) l.length (λi A=>A.env 12= .int .i64 i∧Ext σ A.st∧orL ((l.map λx=>aW x.pkg).drop i)=orL (l.map λx=>aW x.pkg)) 0 (Nat.zero_le _) ?_ λi B hi ⟨h8,hst,hI⟩=>?_
  ·simp only[go_sem,simprocAttr]
   simp[Ext.refl]
  simp only[go_sem,simprocAttr,h8,List.length_map]
  refine⟨λhc=>⟨hc,?_⟩,λhc=>?_⟩
  ·obtain⟨a,ha⟩:=get_some hc
   obtain⟨hlt,hae⟩:=List.getElem?_eq_some_iff.1 ha
   rw[List.drop_eq_getElem_cons (by simpa using hc),List.getElem_map,hae]at hI
   simp only[av ha]
   simp only[go_sem,simprocAttr,bH,h8,List.length_map]
   refine an.fn (Ef a.pkg) ?_
   simp only[go_sem,simprocAttr,h8]
   refine⟨λhq=>⟨aq ?_,hst.app _⟩,λhq=>⟨hc,ah hc hl,hst.app _,?_⟩⟩
   ·rw[orL,if_pos hq]at hI
    rw[dp,if_neg h10,if_pos (by rw[←hI];exact hq),hI]
   ·rw[←hI,orL,if_neg (by simpa using hq)]
  ·rw[List.drop_eq_nil_of_le (by simpa using hc)]at hI
   exact⟨hst,hI.symm⟩
 have hm:dp l=if kf l=true then 4 else 0:=by rw[dp,if_neg h10,if_neg (by simp[h6])]
 simp only[go_sem,simprocAttr,List.length_map]
 refine af.upto [0,24] (.of (by kernel_rfl)) l.length (λi A=>A.env 25= .int .i64 i∧Ext σ A.st∧kf (l.drop (i-1))=kf l) 0 (Nat.zero_le _) ?_ λi A hi ⟨h6',hst',hI⟩=>?_
 ·simp only[go_sem,simprocAttr]
  exact hst
 simp only[go_sem,simprocAttr,h6',List.length_map]
 refine⟨λhc=>?_,λhc=>?_⟩
 ·cases i with
  |zero=>
   simp only[go_sem,simprocAttr,h6',List.length_map,Jz]
   exact⟨.of (by kernel_rfl),hc,hst'⟩
  |succ j=>
   obtain⟨a,ha⟩:=get_some (show j<l.length by omega)
   obtain⟨b,hb⟩:=get_some hc
   have hw:IntKind.i64.wrap (((j+1:Nat):Int)-1)=(j:Nat):=by rw[aF (by rw[au]at hl;omega)];omega
   have hgt:decide ((0:Int)<((j+1:Nat):Int))=true:=decide_eq_true (by omega)
   simp only[hw,hgt]
   simp only[go_sem,simprocAttr,h6',List.length_map,av ha,av hb,bH,aw]
   have hd:l.drop j=a::l.drop (j+1):=by rw[List.drop_eq_getElem_cons (by omega)];congr 1;exact(List.getElem?_eq_some_iff.1 ha).2
   have hd1:l.drop (j+1)=b::l.drop (j+1+1):=by rw[List.drop_eq_getElem_cons hc];congr 1;exact(List.getElem?_eq_some_iff.1 hb).2
   have hI':kf (l.drop j)=kf l:=hI
   rw[hd,hd1,kf,←hd1]at hI'
   refine⟨.of (by kernel_rfl),λ_=>by omega,λ_=>hc,λhq=>⟨aq ?_,hst'⟩,λhq=>⟨hc,ah hc hl,hst',?_⟩⟩
   ·rw[hm,←hI',hq,if_pos (by simp)]
   ·rw[←hI',hq];simp
 ·have hn:kf l=false:=by
   rw[←hI]
   have hlen:(l.drop (i-1)).length≤1:=by rw[List.length_drop];omega
   generalize l.drop (i-1)=r at hlen
   match r,hlen with
   |[],_=>rfl
   |[x],_=>rfl
  exact⟨aq (by rw[hm,hn];rfl),hst'⟩
end Go.Proofs.Tryz
end
section
namespace Go.Proofs.Tryz
open Go Go.Av
set_option maxRecDepth 10000
variable {W0 :World}
theorem EL (x:aL):Sub (V4 x) (bH x):=.agg rfl λi a b ha hb=>by
 match i,ha,hb with
 |0,ha,hb=>cases ha;cases hb;exact Gp _
 |1,ha,hb|2,ha,hb=>cases ha;cases hb;exact .refl _
theorem wx (x:aL):aR 0 (bH x):=.agg λy hy=>by
 simp at hy
 rcases hy with rfl|rfl|rfl
 ·exact rD _
 ·exact .bool _
 ·exact .bool _
theorem xn (l:List aL):aR 0 (bc l):=gG wx l
end Go.Proofs.Tryz
end
section
namespace Go.Proofs.Tryz
open Go Go.Av
set_option maxRecDepth 10000
variable {W0 :World}
theorem zk (a b:List Atom):ag prog W0 87 [aE a,aE b] (.bool (decide (a=b))):=by
 refine ai [4] [] func87 rfl rfl ntmps87 rfl rfl (.bool _) λhs σ=>?_
 have hl:=(aO (hs _ (List.mem_cons_self ..))).1
 simp only[go_sem,simprocAttr,aE,List.length_map]
 refine⟨λh=>ak (decide_eq_false λe=>h (by rw[e])).symm,λh=>?_⟩
 have hab:a.length=b.length:=by omega
 refine af.upto [0,1,12] (.of (by kernel_rfl)) a.length (λi A=>A.env 13= .int .i64 i∧A.st=σ∧a.take i=b.take i) 0 (Nat.zero_le _) ?_ λi B hi ⟨h13,hst,hI⟩=>?_
 ·simp only[go_sem,simprocAttr]
  simp
 simp only[go_sem,simprocAttr,h13,hst,List.length_map]
 refine⟨λhc=>?_,λhc=>ak ?_⟩
 ·obtain⟨x,hx⟩:=get_some hc
  obtain⟨y,hy⟩:=get_some (show i<b.length by omega)
  simp only[go_sem,simprocAttr,h13,hst,List.length_map,av hx,av hy]
  exact⟨.of (by kernel_rfl),hc,by omega,λhne=>ak (decide_eq_false (fE hx hy hne)).symm,λe=>⟨hc,ah hc hl,dr hI hx (e▸hy)⟩⟩
 ·rw[List.take_of_length_le hc,List.take_of_length_le (by omega)]at hI
  exact(decide_eq_true hI).symm
theorem rO (a b:List Atom):ag prog W0 88 [aE a,aE b] (.bool (decide (a=b))):=by
 refine ai [4] [] func88 rfl rfl ntmps88 rfl rfl (.bool _) λhs σ=>?_
 have hl:=(aO (hs _ (List.mem_cons_self ..))).1
 simp only[go_sem,simprocAttr,aE,List.length_map]
 refine⟨λh=>ak (decide_eq_false λe=>h (by rw[e])).symm,λh=>?_⟩
 have hab:a.length=b.length:=by omega
 refine af.upto [0,1,12] (.of (by kernel_rfl)) a.length (λi A=>A.env 13= .int .i64 i∧A.st=σ∧a.take i=b.take i) 0 (Nat.zero_le _) ?_ λi B hi ⟨h13,hst,hI⟩=>?_
 ·simp only[go_sem,simprocAttr]
  simp
 simp only[go_sem,simprocAttr,h13,hst,List.length_map]
 refine⟨λhc=>?_,λhc=>ak ?_⟩
 ·obtain⟨x,hx⟩:=get_some hc
  obtain⟨y,hy⟩:=get_some (show i<b.length by omega)
  simp only[go_sem,simprocAttr,h13,hst,List.length_map,av hx,av hy]
  exact⟨.of (by kernel_rfl),hc,by omega,λhne=>ak (decide_eq_false (fE hx hy hne)).symm,λe=>⟨hc,ah hc hl,dr hI hx (e▸hy)⟩⟩
 ·rw[List.take_of_length_le hc,List.take_of_length_le (by omega)]at hI
  exact(decide_eq_true hI).symm
theorem AG (a b:List gC):ag prog W0 89 [cn a,cn b] (.bool (decide (a=b))):=by
 refine ai [4] [] func89 rfl rfl ntmps89 rfl rfl (.bool _) λhs σ=>?_
 have hl:=(aO (hs _ (List.mem_cons_self ..))).1
 simp only[go_sem,simprocAttr,cn,List.length_map]
 refine⟨λh=>ak (decide_eq_false λe=>h (by rw[e])).symm,λh=>?_⟩
 have hab:a.length=b.length:=by omega
 refine af.upto [0,1,12] (.of (by kernel_rfl)) a.length (λi A=>A.env 13= .int .i64 i∧A.st=σ∧a.take i=b.take i) 0 (Nat.zero_le _) ?_ λi B hi ⟨h13,hst,hI⟩=>?_
 ·simp only[go_sem,simprocAttr]
  simp
 simp only[go_sem,simprocAttr,h13,hst,List.length_map]
 refine⟨λhc=>?_,λhc=>ak ?_⟩
 ·obtain⟨x,hx⟩:=get_some hc
  obtain⟨y,hy⟩:=get_some (show i<b.length by omega)
  simp only[go_sem,simprocAttr,h13,hst,List.length_map,av hx,av hy]
  exact⟨.of (by kernel_rfl),hc,by omega,λhne=>ak (decide_eq_false (fE hx hy hne)).symm,λe=>⟨hc,ah hc hl,dr hI hx (e▸hy)⟩⟩
 ·rw[List.take_of_length_le hc,List.take_of_length_le (by omega)]at hI
  exact(decide_eq_true hI).symm
theorem Dk (a b:List Atom):ag prog W0 86 [aE a,aE b] (.bool (decide (a=b))):=by
 refine ai [4] [] func86 rfl rfl ntmps86 rfl rfl (.bool _) λhs σ=>?_
 simp only[go_sem,simprocAttr,aE]
 refine an.fn (zk a b) ?_
 simp only[go_sem,simprocAttr]
theorem CS (a b:List Clause)(g:FuncId)(h: ∀c∈a,∀d∈b,ag prog W0 g [aE c,aE d] (.bool (decide (c=d)))):ag prog W0 85 [ax a,ax b,.fn g []] (.bool (decide (a=b))):=by
 refine ai [6] [] func85 rfl rfl ntmps85 rfl rfl (.bool _) λhs σ=>?_
 have hl:=(aO (hs _ (List.mem_cons_self ..))).1
 simp only[go_sem,simprocAttr,ax,List.length_map]
 refine⟨λh=>ak (decide_eq_false λe=>h (by rw[e])).symm,λhne=>?_⟩
 have hab:a.length=b.length:=by omega
 refine af.upto [1,2,15,16] (.of (by kernel_rfl)) a.length (λi A=>A.env 17= .int .i64 i∧A.st=σ∧a.take i=b.take i) 0 (Nat.zero_le _) ?_ λi B hi ⟨h13,hst,hI⟩=>?_
 ·simp only[go_sem,simprocAttr]
  simp
 simp only[go_sem,simprocAttr,h13,hst,List.length_map]
 refine⟨λhc=>⟨hc,?_⟩,λhc=>ak ?_⟩
 ·obtain⟨x,hx⟩:=get_some hc
  obtain⟨y,hy⟩:=get_some (show i<b.length by omega)
  simp only[go_sem,simprocAttr,h13,hst,List.length_map,av hx,av hy,aE]
  refine⟨by omega,?_⟩
  refine an.pure (h x (List.mem_of_getElem? hx) y (List.mem_of_getElem? hy)) ?_
  simp only[go_sem,simprocAttr,h13,hst,List.length_map]
  exact⟨λhne=>ak (decide_eq_false (fE hx hy hne)).symm,λe=>⟨hc,ah hc hl,dr hI hx (e▸hy)⟩⟩
 ·rw[List.take_of_length_le hc,List.take_of_length_le (by omega)]at hI
  exact(decide_eq_true hI).symm
theorem sr (a b:List Clause):ag prog W0 84 [ax a,ax b] (.bool (decide (a=b))):=by
 refine ai [4] [] func84 rfl rfl ntmps84 rfl rfl (.bool _) λhs σ=>?_
 simp only[go_sem,simprocAttr,ax]
 refine an.fn (CS a b _ λc _ d _=>Dk c d) ?_
 simp only[go_sem,simprocAttr]
theorem Ao (p q:Pkg):ag prog W0 38 [aw p,aw q] (.bool (decide (p=q))):=by
 refine ai [4] [2,3] func38 rfl rfl ntmps38 rfl rfl (.bool _) λhs σ=>?_
 simp only[List.append_eq,List.cons_append,List.nil_append]
 simp only[go_sem,simprocAttr,aw]
 refine aA.fnG (λ_=>sr _ _) ?_
 simp only[go_sem,simprocAttr]
 refine aA.fnG (λ_=>sr _ _) ?_
 simp only[go_sem,simprocAttr]
 refine aA.fnG (λ_=>sr _ _) ?_
 simp only[go_sem,simprocAttr]
 refine aA.fnG (λ_=>rO _ _) ?_
 simp only[go_sem,simprocAttr]
 refine aA.fnG (λ_=>rO _ _) ?_
 simp only[go_sem,simprocAttr]
 refine aA.fnG (λ_=>AG _ _) ?_
 simp only[go_sem,simprocAttr]
 refine ak ?_
 obtain⟨a1,a2,a3,a4,a5,a6,a7,a8,a9⟩:=p
 obtain⟨b1,b2,b3,b4,b5,b6,b7,b8,b9⟩:=q
 rw[Bool.eq_iff_iff]
 simp only[Bool.and_eq_true,decide_eq_true_eq,beq_iff_eq,Pkg.mk.injEq]
 constructor
 ·rintro⟨h1,h2,h3,h4,h5,h6,h7,h8,h9⟩
  simp_all
 ·intro h
  simp_all
theorem xI (a b:List Pkg):ag prog W0 15 [bg a,bg b] (.bool (decide (a=b))):=by
 refine ai [4] [] func15 rfl rfl ntmps15 rfl rfl (.bool _) λhs σ=>?_
 have hl:=(aO (hs _ (List.mem_cons_self ..))).1
 simp only[go_sem,simprocAttr,bg,List.length_map]
 refine⟨λh=>ak (decide_eq_false λe=>h (by rw[e])).symm,λh=>?_⟩
 have hab:a.length=b.length:=by omega
 refine af.upto [0,1,12] (.of (by kernel_rfl)) a.length (λi A=>A.env 13= .int .i64 i∧A.st=σ∧a.take i=b.take i) 0 (Nat.zero_le _) ?_ λi B hi ⟨h13,hst,hI⟩=>?_
 ·simp only[go_sem,simprocAttr]
  simp
 simp only[go_sem,simprocAttr,h13,hst,List.length_map]
 refine⟨λhc=>?_,λhc=>ak ?_⟩
 ·obtain⟨x,hx⟩:=get_some hc
  obtain⟨y,hy⟩:=get_some (show i<b.length by omega)
  simp only[go_sem,simprocAttr,h13,hst,List.length_map,av hx,av hy,aw]
  refine⟨.of (by kernel_rfl),hc,by omega,aA.fn (Bk x y) ?_⟩
  simp only[go_sem,simprocAttr,h13,hst,List.length_map]
  exact⟨λhne=>ak (decide_eq_false (fE hx hy hne)).symm,λe=>⟨hc,ah hc hl,dr hI hx (e▸hy)⟩⟩
 ·rw[List.take_of_length_le hc,List.take_of_length_le (by omega)]at hI
  exact(decide_eq_true hI).symm
end Go.Proofs.Tryz
end
section
namespace Go.Av
open Go
theorem qy.eC {P:Program}{A:aa}{s e:TypeId}{id off m:Nat}{xs:List AV}{dst:Option Nat}{k:aa→Prop}(hs:elT P s=some e)(he:eH P e=some .u8)(h0:0<m)(hσ:A.st[id]?=some (some (.cells e xs)))(hm:off+m≤xs.length)
  (hk:k ((A.put dst (.sl e ((xs.drop off).take m))).al (A.st.set id none))):qy P s s (.row e id off m) dst A k .mk:=.inr (.inr ⟨e,id,off,m,xs,rfl,⟨rfl,hs,he⟩,h0,hσ,hm,hk⟩)
end Go.Av
namespace Go.Proofs.Tryz
open Go Go.Av
set_option maxRecDepth 10000
variable {W0 :World}
theorem Dn :reachBytes=140737488351232:=by decide
theorem IL {n:Nat}{a:AV}(h:OfT prog (n+6) 56 a): ∃x,a=bH x∧tW x.pkg:=by
 obtain⟨xs,rfl,g⟩:=lD (ts:=[54,4,4]) (by kernel_rfl) h
 obtain _|⟨x1,_|⟨x2,_|⟨x3,_|_⟩⟩⟩:=xs<;>simp only[qT,and_false,and_true]at g
 obtain⟨h1,h2,h3⟩:=g
 obtain⟨p,rfl,hp⟩:=BG (n:=n) h1
 obtain⟨b,rfl⟩:=th (by kernel_rfl) h2
 obtain⟨c,rfl⟩:=th (by kernel_rfl) h3
 exact⟨⟨p,b,c⟩,rfl,hp⟩
theorem Fl {n:Nat}{a:AV}(h:OfT prog (n+7) 23 a): ∃l,a=bc l∧l.length≤733007751829∧ ∀x∈l,tW x.pkg:=by
 obtain⟨xs,rfl,hl,hx⟩:=Js (e:=56) (by kernel_rfl) h
 obtain⟨ps,rfl⟩:=all_map (f:=λq:{ x:aL // tW x.pkg }=>bH q.1) λx hm=>by
  obtain⟨p,rfl,h1⟩:=IL (hx x hm)
  exact⟨⟨p,h1⟩,rfl⟩
 refine⟨ps.map (·.1),by rw[bc,List.map_map];rfl,?_,λp hp=>?_⟩
 ·have hb:prog.bytesOf 56=192:=by kernel_rfl
  rw[hb,List.length_map,Dn]at hl
  rw[List.length_map]
  omega
 ·obtain⟨q,_,rfl⟩:=List.mem_map.1 hp
  exact q.2
end Go.Proofs.Tryz
end
section
namespace Go.Av
theorem rB {c:Clause}(h:jQ c=true):c≠[]∧c.length≤6∧ ∀a∈c,bW a=true:=by
 unfold jQ at h
 simp only[Bool.and_eq_true,decide_eq_true_eq,List.all_eq_true]at h
 exact⟨λe=>h.1.1 (by rw[e];rfl),h.1.2,h.2⟩
end Go.Av
end
section
namespace Go.Proofs.Tryz
open Go Go.Av
set_option maxRecDepth 10000
variable {W0 :World}
theorem j9 (e:TypeId)(a:Option Addr)(cap:Nat)(h:cap≤maxLen)(w:World)(C:Ctx):aC prog w C (.sl e []) (.slice a 0 cap):=
 .one rfl (Rel.sl (xs:=[]) (λ_=>[]) (Nat.zero_le _) h (λi x h=>by simp at h) (λi x h=>by simp at h) λhn=>absurd hn (by simp))
theorem CD :ag prog W0 153 [aE []] (aE []):=by
 refine mS func153 (by kernel_rfl) (by kernel_rfl) λw C vs hvl hv=>?_
 obtain _|⟨v1,_|⟨_,_⟩⟩:=vs<;>simp at hvl
 have h1:=(hv 0 _ _ rfl rfl).aD rfl
 cases h1
 rename_i a cap cf hc hm hr hz hs
 simp only[List.map_nil,List.length_nil]at hm
 show Calls _ _ #[Value.slice a 0 cap] _ _
 have q30: ∀(w:World) (a:Option Addr) (n c n' c':Nat),(binOp .eql 51 (.slice a n c) (.slice none n' c')).run prog w= .ok (.bool a.isNone) w:=λw a n c n' c'=>Lib.run_eql_slice_nil w _ _ a n c n' c' Tryz.underlying51
 clear hv hr hz hs
 cases a
 all_goals go_enter Tryz.func153,Tryz.ntmps153
 all_goals go_wp2
 all_goals go_ret
 ·exact⟨_,rfl,j9 _ _ _ (Nat.zero_le _),RowKit.Below.refl _ w⟩
 ·exact⟨_,rfl,j9 _ _ _ (Nat.zero_le _),(RowKit.Below.refl _ w).alloc (Nat.le_refl _) _⟩
theorem DY :ag prog W0 154 [cn []] (cn []):=by
 refine mS func154 (by kernel_rfl) (by kernel_rfl) λw C vs hvl hv=>?_
 obtain _|⟨v1,_|⟨_,_⟩⟩:=vs<;>simp at hvl
 have h1:=(hv 0 _ _ rfl rfl).aD rfl
 cases h1
 rename_i a cap cf hc hm hr hz hs
 simp only[List.map_nil,List.length_nil]at hm
 show Calls _ _ #[Value.slice a 0 cap] _ _
 have q30: ∀(w:World) (a:Option Addr) (n c n' c':Nat),(binOp .eql 52 (.slice a n c) (.slice none n' c')).run prog w= .ok (.bool a.isNone) w:=λw a n c n' c'=>Lib.run_eql_slice_nil w _ _ a n c n' c' Tryz.underlying52
 clear hv hr hz hs
 cases a
 all_goals go_enter Tryz.func154,Tryz.ntmps154
 all_goals go_wp2
 all_goals go_ret
 ·exact⟨_,rfl,j9 _ _ _ (Nat.zero_le _),RowKit.Below.refl _ w⟩
 ·exact⟨_,rfl,j9 _ _ _ (Nat.zero_le _),(RowKit.Below.refl _ w).alloc (Nat.le_refl _) _⟩
theorem A6 :ag prog W0 152 [aE []] (aE []):=by
 refine mS func152 (by kernel_rfl) (by kernel_rfl) λw C vs hvl hv=>?_
 obtain _|⟨v1,_|⟨_,_⟩⟩:=vs<;>simp at hvl
 have h1:=(hv 0 _ _ rfl rfl).aD rfl
 cases h1
 rename_i a cap cf hc hm hr hz hs
 simp only[List.map_nil,List.length_nil]at hm
 show Calls _ _ #[Value.slice a 0 cap] _ _
 have q30: ∀(w:World) (a:Option Addr) (n c n' c':Nat),(binOp .eql 72 (.slice a n c) (.slice none n' c')).run prog w= .ok (.bool a.isNone) w:=λw a n c n' c'=>Lib.run_eql_slice_nil w _ _ a n c n' c' Tryz.underlying72
 clear hv hr hz hs
 cases a
 all_goals go_enter Tryz.func152,Tryz.ntmps152
 all_goals go_wp2
 all_goals go_ret
 ·exact⟨_,rfl,j9 _ _ _ (Nat.zero_le _),RowKit.Below.refl _ w⟩
 ·exact⟨_,rfl,j9 _ _ _ (Nat.zero_le _),(RowKit.Below.refl _ w).alloc (Nat.le_refl _) _⟩
theorem mn (l:List Atom)(hl:l.length≤1048576):ag prog W0 153 [aE l] (aE l):=by
 cases l with
 |nil=>exact CD
 |cons x c=>exact Ga (x::c) hl
theorem uK (l:List gC)(hl:l.length≤1048576):ag prog W0 154 [cn l] (cn l):=by
 cases l with
 |nil=>exact DY
 |cons x c=>exact Ek (x::c) hl
theorem sy (l:List Atom)(hl:l.length≤1048576):ag prog W0 152 [aE l] (aE l):=by
 cases l with
 |nil=>exact A6
 |cons x c=>exact Ct (x::c) hl
end Go.Proofs.Tryz
end
section
namespace Go.Av
def nf.fit :nf→Prop
 | .count _=>False
 | .atoms l=>l.length≤1048576
 | .ER l=>l.length≤1048576
 |_=>True
end Go.Av
namespace Go.Proofs.Tryz
open Go Go.Av
set_option maxRecDepth 10000
variable {W0 :World}
end Go.Proofs.Tryz
end
section
namespace Go.Av
theorem ag.FI {P:Program}{W0:World}{f:FuncId}{args:List AV}{r:AV}(hr:aR 0 r)(h: ∀σ,aX P W0 f args σ λr' σ'=>cR r' r∧Ext σ σ'):ag P W0 f args r:=λσ w C vs hst hl hv=>
 (h σ w C vs hst hl hv).mono λe w' ⟨v,r',σ',C',he,⟨hw,hx⟩,hs,hrv,hstep⟩=>by
  have hs2:aB P W0 w' (C'.dD σ.length) σ:=by
   have:=hs.dD (n:=σ.length) hx.le λid te xs hid hss=>hst.ids (show σ[id]?=some (some (.cells te xs)) by
    have e:=congrArg (·[id]?) hx
    simp only[List.getElem?_take,if_pos hid]at e
    rw[←e];exact hss)
   rwa [hx]at this
  exact⟨v,r,σ,C'.dD σ.length,he,⟨rfl,rfl⟩,hs2,(hrv.cU hw).dD (ec (Nat.zero_le _) hr),hstep.dD (by rw[hst.nx];exact Nat.le_refl _)⟩
end Go.Av
namespace Go.Proofs.Tryz
open Go Go.Av
set_option maxRecDepth 10000
variable {W0 :World}
def Et :List UInt8:=[80,97,99,107,97,103,101]
def FE :List UInt8:=[86,101,114,115,105,111,110]
def V6 :List UInt8:=[69,115,115,101,110,116,105,97,108]
def Wd :List UInt8:=[80,114,101,45,68,101,112,101,110,100,115]
def VW :List UInt8:=[68,101,112,101,110,100,115]
def We :List UInt8:=[82,101,99,111,109,109,101,110,100,115]
def VL :List UInt8:=[67,111,110,102,108,105,99,116,115]
def Wl :List UInt8:=[66,114,101,97,107,115]
def TJ :List UInt8:=[80,114,111,118,105,100,101,115]
structure LiN (l:List Clause):Prop where
 len:l.length≤1048576
 cl: ∀c∈l,c.length≤1048576
end Go.Proofs.Tryz
end
section
namespace Go.Av
def Bz (n:List UInt8)(k:Int)(s:List UInt8):List UInt8:=
 if 0<k∧s=[]then [32,46]else if 0<k then 32::s else if s=[]then n++[58]else n++[58,32]++s
end Go.Av
namespace Go.Proofs.Tryz
open Go Go.Av
set_option maxRecDepth 10000
variable {W0 :World}
end Go.Proofs.Tryz
end
section
namespace Go.Av
def Ag (k:Int)(s:List UInt8):Bool:=!(decide (0≤KT s)|| !(lQ s==s)||(decide (0<k)&&s==[46]))&&(decide (0<k)||j1 s==s)
end Go.Av
namespace Go.Proofs.Tryz
open Go Go.Av
set_option maxRecDepth 10000
variable {W0 :World}
end Go.Proofs.Tryz
end
section
namespace Go.Av
def zh {α:Type}(q:Nat→α→Bool):Nat→List α→Bool
 |_,[]=>true
 |i,x::r=>q i x&&zh q (i+1) r
def uF (f:Fld)(ahead:List Fld):Int:=
 if ((Hb f.name:Int)==0||(Hb f.name:Int) !=(f.name.length:Int)||(f.lines.length:Int)==0)=true then 3
 else if zh (λk s=>Ag k s) 0 f.lines=false then 3
 else if Ss ahead f.name=true then 4
 else if zh (λk s=>decide ((Bz f.name k s).length≤1000)) 0 f.lines=false then 2
 else 0
end Go.Av
namespace Go.Proofs.Tryz
open Go Go.Av
set_option maxRecDepth 10000
variable {W0 :World}
end Go.Proofs.Tryz
end
section
namespace Go.Av
open Go.Proofs.Tryz
def prB (c:UInt8):Bool:=decide (32≤c.toNat)&&decide (c.toNat≤126)
theorem Bp : ∀(f:Nat) {s:List UInt8} (i:Nat),(∀c∈s,prB c=true)→BY f s i= -1
 |0,_,_,_=>rfl
 |_+1,[],_,_=>rfl
 |f+1,c::r,i,h=>by
  have hc:=h c (by simp)
  simp only[prB,Bool.and_eq_true,decide_eq_true_eq]at hc
  have h1:uU (c::r)=1:=za (by omega)
  have h2:Nb c=false:=by
   unfold Nb
   rw[decide_eq_false (by omega),decide_eq_false (show ¬c.toNat=127 by omega)]
   rfl
  rw[BY,h1,h2,if_neg (by simp)]
  exact Bp f _ λx hx=>h x (by simpa using .inr hx)
theorem E1 {s:List UInt8}(h: ∀c∈s,prB c=true):KT s= -1:=Bp _ _ h
structure Edge (s:List UInt8):Prop where
 hd: ∃c t,s=c::t∧xQ c≠1
 tl: ∃u c,s=u++[c]∧xQ c≠1
theorem Edge.plain {s:List UInt8}(hne:s≠[])(h: ∀c∈s,xQ c=0):Edge s:=by
 constructor
 ·cases s with
  |nil=>exact absurd rfl hne
  |cons c t=>exact⟨c,t,rfl,by rw[h c (by simp)];decide⟩
 ·rcases List.eq_nil_or_concat s with rfl|⟨u,c,rfl⟩
  ·exact absurd rfl hne
  ·rw[List.concat_eq_append]at *
   exact⟨u,c,rfl,by rw[h c (by simp)];decide⟩
theorem Edge.ne {s:List UInt8}(h:Edge s):s≠[]:=by
 obtain⟨c,t,rfl,_⟩:=h.hd
 simp
theorem Edge.app {s m t:List UInt8}(hs:Edge s)(ht:Edge t):Edge (s++(m++t)):=by
 obtain⟨c,a,rfl,h1⟩:=hs.hd
 obtain⟨u,d,rfl,h2⟩:=ht.tl
 exact⟨⟨c,a++(m++(u++[d])),rfl,h1⟩,⟨(c::a)++(m++u),d,by simp,h2⟩⟩
theorem Edge.lQ {s:List UInt8}(h:Edge s):lQ s=s:=by
 obtain⟨u,c,rfl,h1⟩:=h.tl
 rw[Am,if_neg (by simp[wsB,h1])]
theorem Edge.skip {s:List UInt8}(h:Edge s):j2 s=s:=by
 obtain⟨c,t,rfl,h1⟩:=h.hd
 exact JZ h1
theorem Edge.trim {s:List UInt8}(h:Edge s):j1 s=s:=by
 unfold j1
 rw[h.skip,h.lQ]
theorem ko {l:List Clause}(h:cm l=0):l.length≤12∧ ∀c∈l,jQ c=true:=by
 unfold cm at h
 split at h
 ·cases h
 rename_i h1
 split at h
 ·cases h
 rename_i h2
 refine⟨by omega,λc hc=>?_⟩
 have h3: ¬(6<c.length):=λh6=>h1 (.inr (List.any_eq_true.2 ⟨c,hc,by simpa using h6⟩))
 have h4: ¬((decide (c.length=0)||c.any λa=>!bW a)=true):=λh6=>h2 (List.any_eq_true.2 ⟨c,hc,h6⟩)
 simp only[Bool.or_eq_true,decide_eq_true_eq,List.any_eq_true,Bool.not_eq_true',not_or,not_exists,not_and,Bool.not_eq_false]at h4
 simp only[jQ,Bool.and_eq_true,decide_eq_true_eq,List.all_eq_true]
 exact⟨⟨h4.1,by omega⟩,λa ha=>h4.2 a ha⟩
theorem lU {l:List Atom}(h:cm (single l)=0):l.length≤12∧ ∀a∈l,bW a=true:=by
 obtain⟨h1,h2⟩:=ko h
 refine⟨by simpa[single]using h1,λa ha=>?_⟩
 exact(rB (h2 [a] (List.mem_map.2 ⟨a,ha,rfl⟩))).2.2 a (by simp)
structure V3 (p:Pkg):Prop where
 name:cP p.name=true
 ver:bs p.ver=true
 pre:p.pre.length≤12∧ ∀c∈p.pre,jQ c=true
 dep:p.dep.length≤12∧ ∀c∈p.dep,jQ c=true
 rcm:p.rcm.length≤12∧ ∀c∈p.rcm,jQ c=true
 con:p.con.length≤12∧ ∀a∈p.con,bW a=true
 brk:p.brk.length≤12∧ ∀a∈p.brk,bW a=true
 dW:p.dW.length≤12∧ ∀x∈p.dW,bW (bI x)=true
theorem ib {p:Pkg}(h:aW p=0):V3 p:=by
 unfold aW at h
 split at h
 ·cases h
 rename_i h1
 simp only[Bool.or_eq_true,Bool.not_eq_true',not_or,Bool.not_eq_false]at h1
 have h2:=iM h
 obtain⟨g1,g2⟩:=lU (h2 (cm (single (p.dW.map bI))) (by simp))
 exact⟨h1.1,h1.2,ko (h2 _ (by simp)),ko (h2 _ (by simp)),ko (h2 _ (by simp)),lU (h2 _ (by simp)),lU (h2 _ (by simp)),by simpa using g1,λx hx=>g2 _ (List.mem_map.2 ⟨x,hx,rfl⟩)⟩
structure V1 (n t:List UInt8)(v:nf):Prop where
 tY:Edge t
 pr: ∀c∈t,prB c=true
 read:Rc n t= .ok v
end Go.Av
end
section
namespace Go.Av
open Go.Proofs.Tryz
def ND :List UInt8:=[83,116,97,116,101]
def Tm :List UInt8:=[72,111,108,100]
def Eo :List (List UInt8):=[Et,FE,V6,Wd,VW,We,VL,Wl,TJ]
def sM :List (List UInt8):=Eo++[ND,Tm]
structure FG (y:Fld×nf):Prop where
 fit: ∃t,y.1.lines=[t]∧V1 y.1.name t y.2
 name:y.1.name∈sM
end Go.Av
end
section
namespace Go.Av
open Go.Proofs.Tryz
def lnF (f:Fld):List UInt8:=Bz f.name 0 (f.lines.headD [])
theorem Fo : ∀n∈sM,n≠[]∧(∀c∈n,xQ c=0)∧(∀c∈n,prB c=true)∧Hb n=n.length∧Rp n=false:=by decide
structure LnF (y:Fld×nf)(t:List UInt8):Prop where
 lines:y.1.lines=[t]
 tY:Edge t
 pr: ∀c∈t,prB c=true
 name:y.1.name∈sM
 line:lnF y.1=y.1.name++58::32::t
theorem FG.ln {y:Fld×nf}(h:FG y): ∃t,LnF y t:=by
 obtain⟨t,h1,h2⟩:=h.fit
 refine⟨t,h1,h2.tY,h2.pr,h.name,?_⟩
 unfold lnF Bz
 rw[h1]
 simp[h2.tY.ne]
theorem LnF.may {y:Fld×nf}{t:List UInt8}(h:LnF y t){ahead:List Fld}(ha:Ss ahead y.1.name=false):uF y.1 ahead=if (lnF y.1).length≤1000 then 0 else 2:=by
 obtain⟨h1,h2,h3,h4,h5⟩:=Fo _ h.name
 have hl:y.1.name.length≠0:=λe=>h1 (List.length_eq_zero_iff.1 e)
 have ho:Ag ((0:Nat):Int) t=true:=by
  unfold Ag
  rw[E1 h.pr,h.tY.lQ,h.tY.trim]
  simp
 unfold uF
 rw[h.lines]
 rw[if_neg,if_neg,if_neg (by rw[ha];decide)]
 ·simp only[zh,Bool.and_true,decide_eq_false_iff_not]
  have e:Bz y.1.name ((0:Nat):Int) t=lnF y.1:=by
   unfold lnF
   rw[h.lines]
   rfl
  rw[e]
  by_cases hg:(lnF y.1).length≤1000
  ·rw[if_pos hg,if_neg (λh=>h hg)]
  ·rw[if_neg hg,if_pos hg]
 ·simp only[zh,Bool.and_true,ho]
  decide
 ·rw[h4]
  simp[hl]
structure SG (L:List (Fld×nf)):Prop where
 ne:L≠[]
 len:L.length≤40
 fg: ∀y∈L,FG y
 pw:L.Pairwise λy z=>K7 y.1.name z.1.name=false
end Go.Av
end
section
namespace Go.Av
open Go.Proofs.Tryz
theorem De {l:List Pkg}(h1:l.length≤24)(h2: ∀p∈l,aW p=0)(h3:Bu l)(h4:(dX l []).length≤10):bw l=0:=by
 unfold bw
 rw[if_neg (by omega),if_neg,if_neg,if_neg (by omega)]
 ·rw[Bool.not_eq_true,s7]
  exact⟨by simp,h3⟩
 ·rw[Classical.not_not,BU]
  intro x hx
  obtain⟨p,hp,rfl⟩:=List.mem_map.1 hx
  exact h2 p hp
end Go.Av
end
section
namespace Go.Av
open Go.Proofs.Tryz
theorem yZ {k:Nat}{t:List Nat}(hs:t.Pairwise (· < ·))(hk: ∀i∈t,i<k):aS k (bJ t)=t:=by
 have h2:(aS k (bJ t)).Pairwise (· < ·):=List.Pairwise.sublist List.filter_sublist List.pairwise_lt_range
 refine List.Perm.eq_of_pairwise (le:=(· < ·)) (λa b _ _ h1 h2=>by omega) h2 hs ?_
 rw[List.perm_ext_iff_of_nodup (h2.imp λ{a b} h=>by omega) (hs.imp λ{a b} h=>by omega)]
 intro i
 rw[bN,cy,decide_eq_true_eq]
 exact⟨λh=>h.2,λh=>⟨hk i h,h⟩⟩
def uj (S:Nat):Nat:=jy (aS 32 S)
def ltB (x y:List Nat×Nat):Bool:=lexB x.1 y.1||(x.1==y.1&&decide (uj y.2<uj x.2))
def wH (all:List Pkg)(s:List aL)(l:List aI)(up:Bool):List (List Nat×Nat):=(mG (dR all s l) (aK all s l) 0 0).map λS=>(ja all s S up,S)
def oA (all:List Pkg)(s:List aL)(l:List aI)(up:Bool):List (List Nat×List Nat):=
 BO (((iC all (all.length+1) 0 []).filter λt=>ki l (atL all t) s).map λt=>(vb all s (atL all t) up,t))
def toB (x:List Nat×List Nat):List Nat×Nat:=(x.1,bJ x.2)
theorem mu (up:Bool)(a b c d e:Nat):(xp up a b c d e).length=5:=by
 unfold xp
 split<;>rfl
theorem xw {all:List Pkg}{t:List Nat}(h:t∈iC all (all.length+1) 0 []):t∈cF (c9 all (all.length+1) 0):=by
 rw[fo (by omega)]at h
 have:=(List.mem_filter.1 h).1
 simpa using this
theorem DC {all:List Pkg}(hc:oq all){t:List Nat}(ht:t∈cF (c9 all (all.length+1) 0)):t.Pairwise (· < ·)∧ ∀i∈t,i<all.length:=by
 obtain⟨r1,_,_⟩:=jB hc (f:=all.length+1) (i:=0) (by omega) (by omega) (λj p q hj=>by omega)
 obtain⟨k1,_⟩:=rF hc (f:=all.length+1) (i:=0) (by omega) (by omega) (λj p q hj=>by omega)
 refine⟨j4 k1 ht,λi hi=>?_⟩
 obtain⟨g,hg,hig⟩:=eo ht i hi
 obtain⟨p,rfl,_⟩:=r1 g hg
 obtain⟨q,hq,_⟩:=bn.1 hig
 exact(List.getElem?_eq_some_iff.1 hq).1
theorem BF {all:List Pkg}: ∀{f i:Nat},∀g∈c9 all f i,i≤all.length→g≠[]
 |0,i,g,hg,_=>by cases hg
 |f+1,i,g,hg,hi=>by
  rw[c9]at hg
  by_cases h:i=all.length
  ·rw[if_pos h]at hg
   cases hg
  ·rw[if_neg h]at hg
   obtain⟨p,hp⟩:=get_some (show i<all.length by omega)
   obtain⟨b1,b2⟩:=eN hp
   rcases List.mem_cons.1 hg with rfl|hg
   ·intro e
    have:=congrArg List.length e
    simp only[List.length_range',List.length_nil]at this
    omega
   ·exact BF g hg b2
theorem qM : ∀{gs:List (List Nat)},qg gs→(∀g∈gs,g.Nodup)→(cF gs).Nodup
 |[],_,_=>by simp[cF]
 |g::r,ha,hn=>by
  have ih:=qM ha.2 λh hh=>hn h (by simp[hh])
  rw[cF,List.nodup_append]
  refine⟨?_,ih,λt ht u hu e=>?_⟩
  ·have: ∀l:List Nat,l.Nodup→(l.flatMap λi=>(cF r).map (i:: ·)).Nodup:=λl=>by
    induction l with
    |nil=>intro _;simp
    |cons i l ih2=>
     intro hl
     rw[List.nodup_cons]at hl
     rw[List.flatMap_cons,List.nodup_append]
     refine⟨?_,ih2 hl.2,λt ht u hu e=>?_⟩
     ·rw[List.Nodup,List.pairwise_map]
      exact ih.imp λ{a b} h e=>h (by simpa using e)
     ·obtain⟨a,_,rfl⟩:=List.mem_map.1 ht
      obtain⟨j,hj,hu⟩:=List.mem_flatMap.1 hu
      obtain⟨b,_,rfl⟩:=List.mem_map.1 hu
      simp only[List.cons.injEq]at e
      exact hl.1 (e.1▸hj)
   exact this g (hn g (by simp))
  ·obtain⟨i,hi,ht⟩:=List.mem_flatMap.1 ht
   obtain⟨a,_,rfl⟩:=List.mem_map.1 ht
   rw[←e]at hu
   obtain⟨h,hh,hih⟩:=eo hu i (by simp)
   exact ha.1 i hi h hh hih
theorem AB {all:List Pkg}{s:List aL}{l:List aI}(h24:all.length≤24)(hm: ∀p∈all,aW p=0)(hc:oq all)(hU:Uni all s l)(hnv:ep all s l=false)(up:Bool){o:List (List Nat×Nat)}(hp:o.Perm (wH all s l up))(hs:o.Pairwise λx y=>ltB y x=false):
  o=(oA all s l up).map toB:=by
 obtain⟨_,_,r3⟩:=jB hc (f:=all.length+1) (i:=0) (by omega) (by omega) (λj p q hj=>by omega)
 obtain⟨_,k2⟩:=rF hc (f:=all.length+1) (i:=0) (by omega) (by omega) (λj p q hj=>by omega)
 generalize hW:(iC all (all.length+1) 0 []).filter (λt=>ki l (atL all t) s)=W
 have hWp: ∀t∈W,t∈cF (c9 all (all.length+1) 0):=λt ht=>by
  rw[←hW]at ht
  exact xw (List.mem_filter.1 ht).1
 have hinc: ∀t∈W,t.Pairwise (· < ·)∧ ∀i∈t,i<32:=λt ht=>by
  obtain⟨g1,g2⟩:=DC hc (hWp t ht)
  exact⟨g1,λi hi=>by have:=g2 i hi;omega⟩
 have hWn:W.Nodup:=by
  rw[←hW,fo (by omega)]
  refine List.Pairwise.sublist List.filter_sublist (List.Pairwise.sublist List.filter_sublist ?_)
  have e2:(cF (c9 all (all.length+1) 0)).map (([]:List Nat)++ ·)=cF (c9 all (all.length+1) 0):=by simp
  rw[e2]
  exact qM r3 λg hg=>(k2 g hg).imp λ{a b} h=>by omega
 have hB:oA all s l up=BO (W.map λt=>(vb all s (atL all t) up,t)):=by
  unfold oA
  rw[hW]
 obtain⟨b1,b2⟩:=yH (k:=5) (l:=W.map λt=>(vb all s (atL all t) up,t)) (o:=[]) (by
   rw[List.nil_append,List.pairwise_map]
   exact hWn) (λy hy=>by
   rw[List.nil_append]at hy
   obtain⟨t,_,rfl⟩:=List.mem_map.1 hy
   exact mu _ _ _ _ _ _) .nil
 rw[List.nil_append]at b1
 change (BO _).Perm _ at b1
 change (BO _).Pairwise _ at b2
 rw[←hB]at b1 b2
 have hmem: ∀x∈oA all s l up,x.2∈W∧x.1.length=5:=λx hx=>by
  obtain⟨t,ht,rfl⟩:=List.mem_map.1 (b1.subset hx)
  exact⟨ht,mu _ _ _ _ _ _⟩
 have hturn: ∀t∈W,uj (bJ t)=jy t:=λt ht=>by
  obtain⟨g1,g2⟩:=hinc t ht
  unfold uj
  rw[yZ g1 g2]
 have hlt: ∀x∈oA all s l up,∀y∈oA all s l up,ltB (toB x) (toB y)=ltP x y:=λx hx y hy=>by
  obtain⟨hx,_⟩:=hmem x hx
  obtain⟨hy,_⟩:=hmem y hy
  unfold ltB ltP toB
  simp only
  rw[hturn _ hx,hturn _ hy,sS (hinc _ hx).1 (hinc _ hy).1 (hinc _ hx).2 (hinc _ hy).2]
 have hperm:o.Perm ((oA all s l up).map toB):=by
  refine hp.trans ?_
  have h1:=(xD hm hc hU hnv).map λS=>(ja all s S up,S)
  rw[hW]at h1
  refine h1.trans (List.Perm.trans (List.Perm.of_eq ?_) (b1.map toB).symm)
  rw[List.map_map,List.map_map]
  refine List.map_congr_left λt ht=>?_
  show(ja all s (bJ t) up,bJ t)=(vb all s (atL all t) up,bJ t)
  rw[Im hc hU (hWp t ht)]
 have hs2:((oA all s l up).map toB).Pairwise λx y=>ltB y x=false:=by
  rw[List.pairwise_map]
  refine b2.imp_of_mem λ{x y} hx hy h=>?_
  rw[hlt y hy x hx]
  cases h2:ltP y x with
  |false=>rfl
  |true=>
   have:=uV h h2
   rw[ID]at this
   cases this
 refine List.Perm.eq_of_pairwise (le:=λx y=>ltB y x=false) (λx y hx hy h1 h2=>?_) hs hs2 hperm
 obtain⟨a,ha,rfl⟩:=List.mem_map.1 (hperm.subset hx)
 obtain⟨b,hb,rfl⟩:=List.mem_map.1 hy
 rw[hlt b hb a ha]at h1
 rw[hlt a ha b hb]at h2
 by_cases he:a.2=b.2
 ·have hc2:a.1=b.1:=by
   obtain⟨t,_,rfl⟩:=List.mem_map.1 (b1.subset ha)
   obtain⟨u,_,rfl⟩:=List.mem_map.1 (b1.subset hb)
   have he:t=u:=he
   rw[he]
  unfold toB
  rw[he,hc2]
 ·have:=Bq (x:=b) (y:=a) ((hmem b hb).2.trans (hmem a ha).2.symm) (λe=>he e.symm) h1
  rw[this]at h2
  cases h2
end Go.Av
end
section
namespace Go.Av
theorem fI (a b:Nat)(ha:a<4294967296)(hb:b<4294967296):bits .and .u32 (a:Int) (b:Int)=((a &&& b:Nat):Int):=by
 have h1:(BitVec.ofInt 32 (a:Int)).toNat=a:=by simp;omega
 have h2:(BitVec.ofInt 32 (b:Int)).toNat=b:=by simp;omega
 show IntKind.u32.wrap ((BitVec.ofInt 32 (a:Int) &&& BitVec.ofInt 32 (b:Int)).toNat:Int)=_
 have hlt:=(BitVec.ofInt 32 (a:Int) &&& BitVec.ofInt 32 (b:Int)).isLt
 rw[IntKind.wrap_u32,BitVec.toNat_and,h1,h2]
 rw[BitVec.toNat_and,h1,h2]at hlt
 omega
theorem gS (a b:Nat)(ha:a<4294967296)(hb:b<4294967296):bits .or .u32 (a:Int) (b:Int)=((a ||| b:Nat):Int):=by
 have h1:(BitVec.ofInt 32 (a:Int)).toNat=a:=by simp;omega
 have h2:(BitVec.ofInt 32 (b:Int)).toNat=b:=by simp;omega
 show IntKind.u32.wrap ((BitVec.ofInt 32 (a:Int) ||| BitVec.ofInt 32 (b:Int)).toNat:Int)=_
 have hlt:=(BitVec.ofInt 32 (a:Int) ||| BitVec.ofInt 32 (b:Int)).isLt
 rw[IntKind.wrap_u32,BitVec.toNat_or,h1,h2]
 rw[BitVec.toNat_or,h1,h2]at hlt
 omega
def bF (m k x:Nat):Nat:=((x >>> k) &&& m) ||| (((x &&& m) <<< k) % 4294967296)
theorem kb {m k x:Nat}(hm:m<4294967296):bF m k x<4294967296:=
 Nat.or_lt_two_pow (n:=32) (Nat.lt_of_le_of_lt Nat.and_le_right hm) (Nat.mod_lt _ (by decide))
theorem Dt (m k x i:Nat)(hi:i<32):(bF m k x).testBit i=((x.testBit (k+i)&&m.testBit i)||(decide (k≤i)&&(x.testBit (i-k)&&m.testBit (i-k)))):=by
 unfold bF
 rw[Nat.testBit_or,Nat.testBit_and,Nat.testBit_shiftRight,show 4294967296=2^32 from rfl,Nat.testBit_mod_two_pow,Nat.testBit_shiftLeft,Nat.testBit_and]
 simp[hi]
def fM (x:Nat):Nat:=
 let a:=bF 16711935 8 (bF 252645135 4 (bF 858993459 2 (bF 1431655765 1 x)))
 (a >>> 16) ||| ((a <<< 16) % 4294967296)
theorem Ju (x:Nat):fM x<4294967296:=
 Nat.or_lt_two_pow (n:=32) (by
  rw[Nat.shiftRight_eq_div_pow]
  have:=kb (m:=16711935) (k:=8) (x:=bF 252645135 4 (bF 858993459 2 (bF 1431655765 1 x))) (by decide)
  omega) (Nat.mod_lt _ (by decide))
theorem Rv : ∀i,i<32→Nat.testBit 1431655765 i=decide (i % 2=0):=by decide
theorem Rw : ∀i,i<32→Nat.testBit 858993459 i=decide (i % 4<2):=by decide
theorem TE : ∀i,i<32→Nat.testBit 252645135 i=decide (i % 8<4):=by decide
theorem T9 : ∀i,i<32→Nat.testBit 16711935 i=decide (i % 16<8):=by decide
theorem oa {m k:Nat}(hk:0<k)(hm: ∀i,i<32→m.testBit i=decide (i % (2*k)<k))(x i:Nat)(hi:i<32):
  (bF m k x).testBit i=x.testBit (if i % (2*k)<k then i+k else i-k):=by
 rw[Dt m k x i hi,hm i hi]
 by_cases h:i % (2*k)<k
 ·by_cases h2:k≤i
  ·have h3: ¬(i-k) % (2*k)<k:=by
    have hd:=Nat.div_add_mod i (2*k)
    have hq:i / (2*k)≠0:=by
     intro h0;rw[h0]at hd;omega
    obtain⟨q,hq⟩:=Nat.exists_eq_succ_of_ne_zero hq
    have e:i-k=2*k*q+(i % (2*k)+k):=by
     rw[hq,Nat.mul_succ]at hd;omega
    rw[e,Nat.mul_add_mod,Nat.mod_eq_of_lt (by omega)]
    omega
   simp[h,hm (i-k) (by omega),h3,Nat.add_comm]
  ·simp[h,h2,Nat.add_comm]
 ·have h2:k≤i:=by
   rcases Nat.lt_or_ge i k with g|g
   ·rw[Nat.mod_eq_of_lt (by omega)]at h;omega
   ·exact g
  have h3:(i-k) % (2*k)<k:=by
   have hd:=Nat.div_add_mod i (2*k)
   have hl:=Nat.mod_lt i (show 0<2*k by omega)
   have e:i-k=2*k*(i / (2*k))+(i % (2*k)-k):=by omega
   rw[e,Nat.mul_add_mod,Nat.mod_eq_of_lt (by omega)]
   omega
  simp[h,h2,hm (i-k) (by omega),h3]
theorem Ft (x:Nat): ∀i,i<32→(fM x).testBit i=x.testBit (31-i):=by
 intro i hi
 have s1:=oa (m:=1431655765) (k:=1) (by decide) (λi hi=>by rw[Rv i hi];congr 1;simp) x
 have s2:=oa (m:=858993459) (k:=2) (by decide) Rw (bF 1431655765 1 x)
 have s4:=oa (m:=252645135) (k:=4) (by decide) TE (bF 858993459 2 (bF 1431655765 1 x))
 have s8:=oa (m:=16711935) (k:=8) (by decide) T9 (bF 252645135 4 (bF 858993459 2 (bF 1431655765 1 x)))
 have hA:=kb (m:=16711935) (k:=8) (x:=bF 252645135 4 (bF 858993459 2 (bF 1431655765 1 x))) (by decide)
 have hB:(fM x).testBit i=(bF 16711935 8 (bF 252645135 4 (bF 858993459 2 (bF 1431655765 1 x)))).testBit (if i<16 then i+16 else i-16):=by
  unfold fM
  simp only
  generalize bF 16711935 8 (bF 252645135 4 (bF 858993459 2 (bF 1431655765 1 x)))=a at hA
  rw[Nat.testBit_or,Nat.testBit_shiftRight,show 4294967296=2^32 from rfl,Nat.testBit_mod_two_pow,Nat.testBit_shiftLeft]
  by_cases h:i<16
  ·have: ¬16≤i:=by omega
   simp[h,hi,this,Nat.add_comm]
  ·have h16:16≤i:=by omega
   have:a.testBit (16+i)=false:=Nat.testBit_lt_two_pow (Nat.lt_of_lt_of_le hA (show 2^32≤2^(16+i)from Nat.pow_le_pow_right (n:=2) (by decide) (by omega)))
   simp[h,hi,h16,this]
 rw[hB,s8 _ (by split<;>omega),s4 _ (by split<;>split<;>omega),s2 _ (by split<;>split<;>split<;>omega),s1 _ (by split<;>split<;>split<;>split<;>omega)]
 congr 1
 clear s1 s2 s4 s8 hA hB
 revert i
 decide
theorem uY {x:Nat}(hx:x<4294967296):uj x=fM x:=by
 apply Nat.eq_of_testBit_eq
 intro i
 unfold uj jy
 rw[cy]
 by_cases hi:i<32
 ·rw[Ft x i hi]
  apply Bool.eq_iff_iff.2
  simp only[decide_eq_true_eq,List.mem_map]
  refine⟨λ⟨j,hj,e⟩=>?_,λh=>⟨31-i,bN.2 ⟨by omega,h⟩,by omega⟩⟩
  obtain⟨h1,h2⟩:=bN.1 hj
  rw[show 31-i=j by omega]
  exact h2
 ·rw[Nat.testBit_lt_two_pow (Nat.lt_of_lt_of_le (Ju x) (show 2^32≤2^i from Nat.pow_le_pow_right (n:=2) (by decide) (by omega)))]
  apply Bool.eq_false_iff.2
  intro h
  simp only[decide_eq_true_eq,List.mem_map]at h
  obtain⟨j,hj,e⟩:=h
  have:=(bN.1 hj).1
  omega
end Go.Av
end
