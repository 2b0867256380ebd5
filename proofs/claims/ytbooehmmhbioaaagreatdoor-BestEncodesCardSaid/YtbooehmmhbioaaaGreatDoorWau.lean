/- Texts that the last one of this claim rests on: a layer over the guide's own conditions for code; contracts of the functions that the law reaches, one by one. No conditions beside those of the given rows. -/
import Derived.WalkKit
import Derived.Sort.Grow
import Derived.Sort.Row
import Derived.Deep.RegionWith
import Derived.Test.YtbooehmmhbioaaaGreatDoorWad
import Derived.Test.YtbooehmmhbioaaaGreatDoorWah
import Derived.Test.YtbooehmmhbioaaaGreatDoorWap
import Derived.Test.YtbooehmmhbioaaaGreatDoorWas
import Derived.Test.YtbooehmmhbioaaaGreatDoorWat
set_option linter.unusedSimpArgs false
set_option linter.unusedVariables false
section
namespace Go.Av
section
variable {P :Program}
@[go_sem] theorem Sa (t t':TypeId)(v:AV):ca P .eql t (.loc t' v) .nil=if eN P t then .bool false else .undef:=by simp only[ca,cd,jm,AV.gj,Bool.and_true];split<;>rfl
@[go_sem] theorem Q8 (t t':TypeId)(v:AV):cj P .eql t (.loc t' v) .nil=(eN P t=true):=by simp only[cj,cd,jm,AV.gj,Bool.and_true];split<;>simp_all
end
end Go.Av
namespace Go.Proofs.Tryz
open Go Go.Av
set_option maxRecDepth 10000
variable {W0 :World}
theorem nY (l:List Clause)(hl:l.length≤1048576)(hc: ∀c∈l,c.length≤1048576):ag prog W0 151 [ax l] (ax l):=by
 refine al [2] [] func151 rfl rfl ntmps151 rfl rfl (dt _) λhs σ=>?_
 simp only[go_sem,simprocAttr,ax,List.length_map]
 refine ae.at [6,7] (.of (by kernel_rfl)) (λA=>∃ v,A.env 3=v∧aK σ A.st v 72 (l.map aC)) ?_ λB ⟨v,h3,hb⟩=>?_
 ·refine ae.upto [6,7] (.of (by kernel_rfl)) l.length (λi A=>∃ v,A.env 3=v∧A.env 8= .int .i64 i∧aK σ A.st v 72 ((l.take i).map aC)) 0 (Nat.zero_le _) ?_ λi B hi ⟨v,h3,h8,hb⟩=>?_
  ·simp only[go_sem,simprocAttr]
   exact⟨_,rfl,aK.nil (.refl _) _⟩
  simp only[go_sem,simprocAttr,h3,h8,hb.ok,hb.un,List.length_map]
  refine⟨λhlt=>⟨hlt,?_⟩,λhlt=>?_⟩
  ·obtain⟨c,ha⟩:=get_some hlt
   simp only[av ha]
   simp only[go_sem,simprocAttr,aC,h3,h8,hb.ok,hb.un]
   refine ak.fn (ua c (hc c (List.mem_of_getElem? ha))) ?_
   simp only[go_sem,simprocAttr,h3,h8,hb.ok,hb.un,aC]
   refine bM.own 1048576 (by kernel_rfl) hb.bld (.lit _ _ _) (by simp;omega) λv' σ' ha'=>?_
   have hb':=hb.app ha'
   simp only[go_sem,simprocAttr,h3,h8,hb.ok,hb.un,hb'.ok,hb'.un]
   refine⟨hlt,_,rfl,ah hlt (by rw[aq];omega),?_⟩
   rw[aj ha,List.map_append]
   exact hb'
  ·rw[List.take_of_length_le hlt]at hb
   exact⟨_,rfl,hb⟩
 simp only[go_sem,simprocAttr,h3,hb.ok,hb.un]
 exact⟨hb.bZ,hb.ext⟩
theorem ju {l:List Clause}(h:l.length≤12∧ ∀c∈l,j5 c=true):l.length≤1048576∧ ∀c∈l,c.length≤1048576:=
 ⟨by omega,λc hc=>by have:=(sa (h.2 c hc)).2.1;omega⟩
theorem G0 (p:Pkg)(hp:aL p=0):ag prog W0 91 [au p] (au p):=by
 have hg:=eK hp
 refine oA [.cell 2 54] [] func91 rfl rfl ntmps91 rfl rfl (r7 _) λhs σ=>?_
 simp only[go_sem,simprocAttr,au]
 have g1:=ju hg.pre
 have g2:=ju hg.dep
 have g3:=ju hg.rcm
 refine⟨.of (by kernel_rfl),aA.fn (nY p.pre g1.1 g1.2) ?_⟩
 simp only[go_sem,simprocAttr]
 refine aA.fn (nY p.dep g2.1 g2.2) ?_
 simp only[go_sem,simprocAttr]
 refine aA.fn (nY p.rcm g3.1 g3.2) ?_
 simp only[go_sem,simprocAttr]
 refine⟨.of (by kernel_rfl),aA.fn (mP p.con (by have:=hg.con.1;omega)) ?_⟩
 simp only[go_sem,simprocAttr]
 refine aA.fn (mP p.brk (by have:=hg.brk.1;omega)) ?_
 simp only[go_sem,simprocAttr]
 refine aA.fn (vr p.dI (by have:=hg.dI.1;omega)) ?_
 simp only[go_sem,simprocAttr]
def eX (l:List Pkg):AV:=.loc 149 (.agg 149 [aT l])
@[go_sem] theorem WY (gd:Option Bool)(l:List Pkg):okM gd (eX l)=True:=bR trivial
@[go_sem] theorem Xt (l:List Pkg):unm (eX l)=eX l:=rfl
@[go_sem] theorem VP (p:Pkg):unm (au p)=au p:=rfl
theorem ue (l:List Pkg):ag prog W0 43 [eX l] (.int .i64 l.length):=by
 refine al [2] [] func43 rfl rfl ntmps43 rfl rfl (.int _ _) λhs σ=>?_
 simp only[go_sem,simprocAttr,eX,aT,List.length_map]
 try exact .refl _
theorem Ma (l:List Pkg)(i:Nat){p:Pkg}(hi:l[i]?=some p)(hp:aL p=0):ag prog W0 44 [eX l,.int .i64 i] (.tup [au p,.bool true]):=by
 have hlt:=(List.getElem?_eq_some_iff.1 hi).1
 refine oA [.cell 4 54,.tmp 5] [] func44 rfl rfl ntmps44 rfl rfl (.xD (r7 _) (.bool _)) λhs σ=>?_
 simp only[go_sem,simprocAttr,eX,aT,List.length_map]
 refine aA.fnG (λ_=>ue l) ?_
 simp only[go_sem,simprocAttr,eX,aT,List.length_map]
 refine⟨λh=>absurd h (by simp;omega),λ_=>⟨hlt,?_⟩⟩
 simp only[av hi]
 simp only[go_sem,simprocAttr,au]
 refine ak.fn (G0 p hp) ?_
 simp only[go_sem,simprocAttr,au]
def plB (l:List Pkg)(b:Pkg→Bool)(i:Nat):List Nat:=(List.range i).filter λi=>match l[i]? with
 |some p=>b p
 |none=>false
theorem tX {l:List Pkg}{b:Pkg→Bool}{i:Nat}{p:Pkg}(h:l[i]?=some p):plB l b (i+1)=plB l b i++if b p then [i]else []:=by
 unfold plB
 rw[List.range_succ,List.filter_append]
 congr 1
 cases hb:b p<;>simp[h,hb]
theorem IZ (l:List Pkg)(b:Pkg→Bool)(i:Nat):(plB l b i).length≤i:=by
 have:=List.length_filter_le (λi=>match l[i]? with|some p=>b p|none=>false) (List.range i)
 rwa [List.length_range]at this
def bh (l:List Pkg)(b:Pkg→Bool):List Nat:=plB l b l.length
theorem qF (l:List Pkg)(hl:l.length≤1048576)(b:Pkg→Bool)(g:FuncId)(caps:List AV)(hg: ∀p∈l,ag prog W0 g ([au p]++caps) (.bool (b p))):ag prog W0 105 [eX l,.fn g caps] (.sl 3 ((bh l b).map λi=>.int .i64 (i:Nat))):=by
 refine al [4] [] func105 rfl rfl ntmps105 rfl rfl (.sl λx hx=>by obtain⟨i,_,rfl⟩:=List.mem_map.1 hx;exact .int _ _) λhs σ=>?_
 simp only[go_sem,simprocAttr]
 refine ak.fn (ue l) ?_
 simp only[go_sem,simprocAttr]
 refine ae.at [] (.of (by kernel_rfl)) (λA=>∃ v,A.env 5=v∧aK σ A.st v 3 ((bh l b).map λi=>.int .i64 (i:Nat))) ?_ λB ⟨v,h5,hb⟩=>?_
 ·refine ae.upto [0,1,8] (.of (by kernel_rfl)) l.length (λi A=>∃ v,A.env 5=v∧A.env 9= .int .i64 i∧aK σ A.st v 3 ((plB l b i).map λi=>.int .i64 (i:Nat))) 0 (Nat.zero_le _) ?_ λi B hi ⟨v,h5,h9,hb⟩=>?_
  ·simp only[go_sem,simprocAttr]
   exact⟨_,rfl,aK.nil (.refl _) _⟩
  simp only[go_sem,simprocAttr,h5,h9,hb.ok,hb.un]
  refine⟨λhlt=>?_,λhlt=>?_⟩
  ·obtain⟨p,ha⟩:=get_some hlt
   simp only[go_sem,simprocAttr,eX,aT,List.length_map,h5,h9,hb.ok,hb.un]
   simp only[av ha]
   simp only[go_sem,simprocAttr]
   refine⟨hlt,ak.pure (hg p (List.mem_of_getElem? ha)) ?_⟩
   have hpl:=IZ l b i
   simp only[go_sem,simprocAttr,h5,h9,hb.ok,hb.un]
   refine⟨λhp=>?_,λhp=>?_⟩
   ·refine bM.own 1048576 (by kernel_rfl) hb.bld (.lit _ _ _) (by simp;omega) λv' σ' ha'=>?_
    have hb':=hb.app ha'
    simp only[go_sem,simprocAttr,h5,h9,hb'.ok,hb'.un]
    refine⟨hlt,_,rfl,ah hlt (by rw[aq];omega),?_⟩
    rw[tX ha,hp,if_pos rfl,List.map_append]
    exact hb'
   ·refine⟨hlt,_,rfl,ah hlt (by rw[aq];omega),?_⟩
    rw[tX ha,hp]
    simpa using hb
  ·have e:i=l.length:=by omega
   subst e
   exact⟨_,rfl,hb⟩
 simp only[go_sem,simprocAttr,h5,hb.ok,hb.un]
 exact⟨hb.bZ,hb.ext⟩
theorem Fo (l:List Nat):aU 0 (j2 l):=.sl λx hx=>by obtain⟨i,_,rfl⟩:=List.mem_map.1 hx;exact .int _ _
theorem F3 (l:List Pkg)(hl:l.length≤1048576)(n:List UInt8):ag prog W0 47 [eX l,.str n] (j2 (bh l λp=>p.name==n)):=by
 refine al [4] [3] func47 rfl rfl ntmps47 rfl rfl (Fo _) λhs σ=>?_
 simp only[go_sem,simprocAttr]
 refine ak.fn (qF l hl (λp=>p.name==n) 106 [.loc 9 (.str n)] λp _=>?_) ?_
 ·refine al [3] [2] func106 rfl rfl ntmps106 rfl rfl (.bool _) λhs σ=>?_
  simp only[go_sem,simprocAttr,au]
  try exact .refl _
 simp only[go_sem,simprocAttr,j2]
 try exact .refl _
theorem zH (l:List Pkg)(hl:l.length≤1048576)(a:Atom):ag prog W0 73 [eX l,aN a] (j2 (bh l λp=>cS p a)):=by
 refine al [4] [3] func73 rfl rfl ntmps73 rfl rfl (Fo _) λhs σ=>?_
 simp only[go_sem,simprocAttr,aN]
 refine ak.fn (qF l hl (λp=>cS p a) 132 [.loc 81 (aN a)] λp _=>?_) ?_
 ·refine al [3] [2] func132 rfl rfl ntmps132 rfl rfl (.bool _) λhs σ=>?_
  simp only[go_sem,simprocAttr]
  refine ak.fn (FQ p a) ?_
  simp only[go_sem,simprocAttr]
  try exact .refl _
 simp only[go_sem,simprocAttr,j2]
 try exact .refl _
theorem IY (l:List Pkg)(hl:l.length≤1048576)(n v:List UInt8):ag prog W0 130 [eX l,.str n,.str v] (.tup [.int .i64 (((bh l λp=>p.name==n&&bm p.ver v).head?.getD 0:Nat):Int),.bool (bh l λp=>p.name==n&&bm p.ver v).head?.isSome]):=by
 refine al [6,7] [4,5] func130 rfl rfl ntmps130 rfl rfl (.xD (.int _ _) (.bool _)) λhs σ=>?_
 simp only[go_sem,simprocAttr]
 refine ak.fn (qF l hl (λp=>p.name==n&&bm p.ver v) 179 [.loc 9 (.str n),.loc 9 (.str v)] λp _=>?_) ?_
 ·refine al [4] [3] func179 rfl rfl ntmps179 rfl rfl (.bool _) λhs σ=>?_
  simp only[go_sem,simprocAttr,au]
  refine aA.fnG (λ_=>pv p.ver v) ?_
  simp only[go_sem,simprocAttr]
  try exact .refl _
 generalize bh l _=ps
 cases ps with
 |nil=>simp only[go_sem,simprocAttr];try exact .refl _
 |cons i r=>simp only[go_sem,simprocAttr];rw[show atV (AV.int IntKind.i64 i::List.map (λi:Nat=>AV.int IntKind.i64 (i:Int)) r) 0= .int .i64 i from rfl];exact .refl _
def qf (l:List Pkg)(i:Nat):Option (List UInt8):=match l[i]? with
 |some p=>if i=0∨(l[i-1]?.map Pkg.name)≠some p.name then some p.name else none
 |none=>none
def nmB (l:List Pkg)(i:Nat):List (List UInt8):=(List.range i).filterMap (qf l)
theorem sg (l:List Pkg)(i:Nat):nmB l (i+1)=nmB l i++(qf l i).toList:=by
 unfold nmB
 rw[List.range_succ,List.filterMap_append]
 cases h:qf l i<;>simp[h]
theorem wR (l:List Pkg)(i:Nat):(nmB l i).length≤i:=by
 have:=List.length_filterMap_le (qf l) (List.range i)
 rwa [List.length_range]at this
theorem mw (u v:AV):lj true u v=u:=by
 unfold lj lT
 split<;>simp[rm]
theorem vC (l:List (List UInt8)):aU 0 (.sl 9 (l.map .str)):=.sl λx hx=>by obtain⟨i,_,rfl⟩:=List.mem_map.1 hx;exact .str _
theorem E2 (l:List Pkg)(hl:l.length≤1048576):ag prog W0 46 [eX l] (.sl 9 ((nmB l l.length).map .str)):=by
 refine al [2] [] func46 rfl rfl ntmps46 rfl rfl (vC _) λhs σ=>?_
 simp only[go_sem,simprocAttr]
 refine ak.fn (ue l) ?_
 simp only[go_sem,simprocAttr]
 refine ae.at [] (.of (by kernel_rfl)) (λA=>∃ v,A.env 3=v∧aK σ A.st v 9 ((nmB l l.length).map .str)) ?_ λB ⟨v,h3,hb⟩=>?_
 ·refine ae.upto [0,6] (.of (by kernel_rfl)) l.length (λi A=>∃ v,A.env 3=v∧A.env 7= .int .i64 i∧aK σ A.st v 9 ((nmB l i).map .str)) 0 (Nat.zero_le _) ?_ λi B hi ⟨v,h3,h7,hb⟩=>?_
  ·simp only[go_sem,simprocAttr]
   exact⟨_,rfl,aK.nil (.refl _) _⟩
  simp only[go_sem,simprocAttr,h3,h7,hb.ok,hb.un]
  refine⟨λhlt=>?_,λhlt=>?_⟩
  ·obtain⟨p,ha⟩:=get_some hlt
   have hnl:=wR l i
   rcases Nat.eq_zero_or_pos i with h0|h0
   ·subst h0
    have e0:atV (List.map au l) 0=au p:=av (i:=0) ha
    have hn0:qf l 0=some p.name:=by simp[qf,ha]
    simp only[go_sem,simprocAttr,eX,aT,List.length_map,h3,h7,hb.ok,hb.un,e0,au,mw]
    refine⟨.of (by kernel_rfl),hlt,?_⟩
    refine bM.own 1048576 (by kernel_rfl) hb.bld (.lit _ _ _) (by simp;omega) λv' σ' ha'=>?_
    have hb':=hb.app ha'
    simp only[go_sem,simprocAttr,h3,h7,hb'.ok,hb'.un]
    refine⟨hlt,_,rfl,?_⟩
    rw[show 1=0+1 from rfl,sg,hn0,List.map_append]
    exact hb'
   ·obtain⟨q,hq⟩:=get_some (show i-1<l.length by omega)
    have w1:IntKind.i64.wrap ((i:Int)-1)=((i-1:Nat):Int):=by rw[aE (by omega)];omega
    have z1:((i:Int)==0)=false:=by simp;omega
    have z2: ¬((i:Int)=0):=by omega
    have e0:atV (List.map au l) i=au p:=av ha
    have e1:atV (List.map au l) ((i-1:Nat):Int)=au q:=av hq
    have hn0:qf l i=if q.name≠p.name then some p.name else none:=by
     simp[qf,ha,hq,show i≠0 by omega]
    simp only[go_sem,simprocAttr,eX,aT,List.length_map,h3,h7,hb.ok,hb.un,w1,z1,z2,e0,e1,au]
    refine⟨.of (by kernel_rfl),by omega,hlt,λhne=>⟨hlt,?_⟩,λhe=>⟨hlt,_,rfl,ah hlt (by rw[aq];omega),?_⟩⟩
    ·refine bM.own 1048576 (by kernel_rfl) hb.bld (.lit _ _ _) (by simp;omega) λv' σ' ha'=>?_
     have hb':=hb.app ha'
     simp only[go_sem,simprocAttr,h3,h7,hb'.ok,hb'.un]
     refine⟨hlt,_,rfl,ah hlt (by rw[aq];omega),?_⟩
     rw[sg,hn0,if_pos hne,List.map_append]
     exact hb'
    ·rw[sg,hn0,if_neg (λh=>h he)]
     simpa using hb
  ·have e:i=l.length:=by omega
   subst e
   exact⟨_,rfl,hb⟩
 simp only[go_sem,simprocAttr,h3,hb.ok,hb.un]
 exact⟨hb.bZ,hb.ext⟩
end Go.Proofs.Tryz
end
section
namespace Go.Proofs.Tryz
open Go Go.Av
set_option maxRecDepth 10000
variable {W0 :World}
theorem uG {f:Pkg→Pkg→Int}(hw:kc (ltF f))(σ:ab)(id n:Nat)(xs:List Pkg)(hn:n=xs.length)(hx:n<40)(hid:σ[id]?=some (bY xs))(g:FuncId)(caps:List AV)(hcmp:rC W0 f xs g caps):
  aY prog W0 92 [.row 54 id 0 n,.fn g caps] σ λr σ'=>∃ C,C.Perm xs∧cy (ltF f) C∧σ'=σ.set id (bY C):=by
 refine cK [] [] func92 rfl rfl ntmps92 rfl rfl λhs=>?_
 simp only[go_sem,simprocAttr]
 refine ak.goes (by simp only[go_sem,simprocAttr]) (DA hw σ id n xs hn hx hid g caps hcmp) λr σ1 ⟨C,p,r,hσ⟩=>?_
 simp only[go_sem,simprocAttr]
 refine bO.normal ?_
 simp only[go_sem,simprocAttr]
 exact⟨_,.refl _,by rw[hσ];simp,C,p,r,hσ⟩
theorem nF (a b:List UInt8):ag prog W0 96 [.str a,.str b] (.int .i64 (bo a b)):=by
 refine al [4] [] func96 rfl rfl ntmps96 rfl rfl (.int _ _) λhs σ=>?_
 simp only[go_sem,simprocAttr]
 refine ak.fn (nC a b) ?_
 simp only[go_sem,simprocAttr,pn]
 try exact .refl _
theorem OT (p q:Pkg):ag prog W0 93 [au p,au q] (.int .i64 (fQ p q)):=by
 refine al [4] [2,3] func93 rfl rfl ntmps93 rfl rfl (.int _ _) λhs σ=>?_
 simp only[go_sem,simprocAttr,au]
 refine⟨.of (by kernel_rfl),aA.fn (wj p.name q.name) ?_⟩
 simp only[go_sem,simprocAttr]
 refine aA.fn (nF q.ver p.ver) ?_
 simp only[go_sem,simprocAttr]
 refine aA.fn ((F9 [fA p.name q.name,bo q.ver p.ver]).bZ (.cons (.lit _ _) .nil)) ?_
 simp only[go_sem,simprocAttr]
 have e:orL [fA p.name q.name,bo q.ver p.ver]=fQ p q:=by
  unfold fQ orL orL orL
  split<;>simp_all
 rw[e]
 exact .refl _
theorem Jy {l:List Pkg}(hv:uz l):rC W0 uC l 93 []:=λa ha b hb=>by
 rw[CC (hv a ha) (hv b hb)]
 simpa using OT a b
theorem Bo {g:FuncId}{caps:List AV}:ag prog W0 92 [.az,.fn g caps] (.tup []):=by
 have h1:ag prog W0 206 [.az,.int .i64 0,.int .i64 0,.fn g caps] (.tup []):=by
  refine al [] [] func206 rfl rfl ntmps206 rfl rfl (.tup λx hx=>by cases hx) λhs σ=>?_
  simp only[go_sem,simprocAttr]
  refine ae.cu [0,1,2,3] (.of (by kernel_rfl)) (λk E=>E.env 8= .int .i64 1∧E.st=σ) 0 ?_ λk E ⟨h8,hst⟩=>?_
  ·simp only[go_sem,simprocAttr]
  simp only[go_sem,simprocAttr,h8,hst]
  try exact .refl _
 have h2:ag prog W0 155 [.az,.int .i64 0,.fn g caps] (.tup []):=by
  refine al [] [] func155 rfl rfl ntmps155 rfl rfl (.tup λx hx=>by cases hx) λhs σ=>?_
  simp only[go_sem,simprocAttr]
  refine ae.at [0,1,2,6] (.of (by kernel_rfl)) (λE=>E.env 7= .int .i64 0∧E.st=σ) ?_ λE ⟨h7,hst⟩=>?_
  ·refine ae.cu [0,1,2,6] (.of (by kernel_rfl)) (λk E=>E.env 7= .int .i64 0∧E.env 8= .int .i64 20∧E.st=σ) 0 ?_ λk E ⟨h7,h8,hst⟩=>?_
   ·simp only[go_sem,simprocAttr]
   simp only[go_sem,simprocAttr,h7,h8,hst]
  simp only[go_sem,simprocAttr,h7,hst]
  refine ak.fn h1 ?_
  simp only[go_sem,simprocAttr,h7,hst]
  refine ae.cu [0,1,2] (.of (by kernel_rfl)) (λk E=>E.env 6= .int .i64 20∧E.st=σ) 0 ?_ λk E ⟨h6,hst⟩=>?_
  ·simp only[go_sem,simprocAttr,hst]
  simp only[go_sem,simprocAttr,h6,hst]
  try exact .refl _
 refine al [] [] func92 rfl rfl ntmps92 rfl rfl (.tup λx hx=>by cases hx) λhs σ=>?_
 simp only[go_sem,simprocAttr]
 refine ak.fn h2 ?_
 simp only[go_sem,simprocAttr]
 try exact .refl _
def wJ (v:AV):Option cX:=some (.cells 149 [.agg 149 [v]])
structure Li (σ st:ab)(ix:Nat)(v:AV)(xs:List Pkg):Prop where
 ext:Ext σ st
 low:σ.length≤ix
 at_:st[ix]?=some (wJ v)
 row:(v= .az∧xs=[])∨ ∃rid,v= .row 54 rid 0 xs.length∧st[rid]?=some (bY xs)∧σ.length≤rid
theorem Kg (l:List Pkg):aU 0 (eX l):=.loc (.agg λx hx=>by
 rw[List.mem_singleton]at hx
 subst hx
 exact iX l)
theorem Kv (l:List Pkg)(hp: ∀p∈l,lp p)(h0:bg l=0):ag prog W0 39 [aT l] (.tup [eX (cw l),.int .i64 0]):=by
 have hm: ∀p∈l,aL p=0:=λp hp=>cW h0 hp
 have h24:=dH h0
 have hv:=(eV h0).2
 refine tO [.tmp 2,.tmp 3] [7,2000029,4000008] func39 rfl rfl ntmps39 rfl rfl (.xD (Kg _) (.int _ _)) λhs σ=>?_
 simp only[go_sem,simprocAttr]
 refine ak.fn (vI l hp) ?_
 simp only[go_sem,simprocAttr,h0,aT,List.length_map]
 refine ae.at [5] (.of (by kernel_rfl)) (λA=>∃ v,Li σ A.st σ.length v l) ?_ λB ⟨v,hI⟩=>?_
 ·refine ae.upto [5,15,16] (.of (by kernel_rfl)) l.length (λi A=>A.env 17= .int .i64 i∧ ∃v,Li σ A.st σ.length v (l.take i)) 0 (Nat.zero_le _) ?_ λi B hi ⟨h17,v,hI⟩=>?_
  ·simp only[go_sem,simprocAttr]
   exact⟨.az,(Ext.refl _).app _,Nat.le_refl _,by simp[wJ],.inl ⟨rfl,rfl⟩⟩
  simp only[go_sem,simprocAttr,h17,List.length_map]
  refine⟨λhlt=>?_,λhge=>?_⟩
  ·obtain⟨p,ha⟩:=get_some hlt
   simp only[av ha]
   have hat:=hI.at_
   have hvn:cJ v:=by rcases hI.row with⟨rfl,_⟩|⟨_,rfl,_⟩<;>trivial
   have c1:(B.st++[none])[σ.length]?=some (wJ v):=(List.getElem?_append_left (List.getElem?_eq_some_iff.1 hat).1).trans hat
   have hil:(l.take i).length=i:=by rw[List.length_take];omega
   unfold wJ at c1
   simp only[go_sem,simprocAttr,h17,aw c1,ay c1]
   refine⟨hlt,.of (by kernel_rfl),aA.fn (G0 p (hm p (List.mem_of_getElem? ha))) ?_⟩
   have hR:di (B.st++[none]) v 54 ((l.take i).map au):=by
    rcases hI.row with⟨h1,h2⟩|⟨rid,h1,h2,h3⟩
    ·exact .inl ⟨h1,by rw[h2];rfl⟩
    ·refine .inr (.inr ⟨rid,0,_,_,h1,(List.getElem?_append_left (List.getElem?_eq_some_iff.1 h2).1).trans h2,by simp,?_⟩)
     rw[List.drop_zero]
     exact(List.take_of_length_le (l:=List.map au (l.take i)) (by simp)).symm
   have hkl:(bQ v (B.st++[none])).length=(B.st++[none]).length:=by unfold bQ;split<;>simp
   have hk1:(bQ v (B.st++[none]))[σ.length]?=some (wJ v):=by
    rcases hI.row with⟨rfl,h2⟩|⟨rid,rfl,h2,h3⟩
    ·exact c1
    ·have hne:rid≠σ.length:=λe=>by rw[e,hat]at h2;simp[wJ,bY]at h2
     exact(List.getElem?_set_ne hne).trans c1
   have hfp:bq prog 54 (au p)=true:=by kernel_rfl
   simp only[go_sem,simprocAttr,h17,bR hvn,cp hvn,hfp]
   refine bM.row 1048576 (by kernel_rfl) hR (.lit _ _ _) (by simp;omega) (λh=>by cases h) λ_=>?_
   have c2:(bQ v (B.st++[none])++[some (.cells 54 ((l.take i).map au++[au p]))])[σ.length]?=some (wJ v):=(List.getElem?_append_left (List.getElem?_eq_some_iff.1 hk1).1).trans hk1
   unfold wJ at c2
   simp only[go_sem,simprocAttr,h17,aw c2,ay c2,aR c2]
   refine⟨hlt,ah hlt (by rw[aq];omega),_,?_,Nat.le_refl _,List.getElem?_set_self (List.getElem?_eq_some_iff.1 c2).1,.inr ⟨B.st.length+1,?_,?_,?_⟩⟩
   ·refine Ext.set (Ext.app ?_ _) (Nat.le_refl _) _
    unfold bQ
    split
    ·rcases hI.row with⟨h1,h2⟩|⟨rid,h1,h2,h3⟩
     ·cases h1
     ·cases h1;exact(hI.ext.app _).set h3 _
    ·exact hI.ext.app _
   ·rw[List.length_map,hil,List.length_take]
    congr 1
    omega
   ·have hne:σ.length≠B.st.length+1:=by have:=hI.ext.le;omega
    rw[List.getElem?_set_ne hne,List.getElem?_append_right (by rw[hkl];simp),hkl,bY,aj ha,List.map_append]
    simp
   ·have:=hI.ext.le;omega
  ·rw[List.take_of_length_le hge]at hI
   exact⟨v,hI⟩
 have hat:=hI.at_
 unfold wJ at hat
 rcases hI.row with⟨rfl,rfl⟩|⟨rid,rfl,hr1,hr2⟩
 ·simp only[go_sem,simprocAttr,aw hat,ay hat]
  refine ak.fn Bo ?_
  simp only[go_sem,simprocAttr,aw hat,ay hat]
  refine cI.via (.inl rfl) (.bZ σ.length 0 (z':=.agg 149 [.sl 54 []]) hat rfl (.agg rfl λi a b ha hb=>by
   match i,ha,hb with
   |0,ha,hb=>cases ha;cases hb;exact .az _) (.pt 2 rfl (List.getElem?_set_self (List.getElem?_eq_some_iff.1 hat).1) (.refl _))) ?_
  refine⟨⟨trivial,trivial,trivial⟩,?_,?_⟩
  ·exact .refl _
  ·exact(hI.ext.set (Nat.le_refl _) _).set (Nat.le_refl _) _
 ·simp only[go_sem,simprocAttr,aw hat,ay hat]
  refine ak.goes (by simp only[go_sem,simprocAttr]) (uG EN _ rid l.length l rfl (by omega) hr1 _ _ (Jy hv)) λr σ1 ⟨C,p,r,hσ⟩=>?_
  have hC:C=cw l:=CN (eV h0).1 hv (Ev (λx hx=>hv x (p.subset hx)) r) (iT hv) p (eI l)
  have hne:rid≠σ.length:=λe=>by rw[e,hat]at hr1;simp[bY]at hr1
  have hrl:=(List.getElem?_eq_some_iff.1 hr1).1
  have hat2:σ1[σ.length]?=some (some (.cells 149 [.agg 149 [.row 54 rid 0 l.length]])):=by rw[hσ,List.getElem?_set_ne hne];exact hat
  have hr3:σ1[rid]?=some (some (.cells 54 (C.map au))):=by rw[hσ];exact List.getElem?_set_self hrl
  simp only[go_sem,simprocAttr,aw hat,ay hat]
  have hlen:C.length=l.length:=p.length_eq
  refine cI.via (.inl rfl) (.cell (t:=22) (o:=0) σ.length 0 [0] hat2 rfl rfl hr3 (by simp;omega) hne (by kernel_rfl) (.pt 2 rfl (List.getElem?_set_self (by rw[List.length_set];exact(List.getElem?_eq_some_iff.1 hat2).1)) (.refl _))) ?_
  refine⟨⟨trivial,trivial,trivial⟩,?_,?_⟩
  ·have e:List.take l.length (List.drop 0 (List.map au C))=List.map au (cw l):=by
    rw[List.drop_zero,List.take_of_length_le (by simp;omega),hC]
   show cR (.tup [.loc 149 (.agg 149 [.sl 54 (List.take l.length (List.drop 0 (List.map au C)))]),.int .i64 0]) _
   rw[e]
   exact .refl _
  ·have hx:Ext σ σ1:=by rw[hσ];exact hI.ext.set hr2 _
   exact((hx.set hr2 _).set (Nat.le_refl _) _).set (Nat.le_refl _) _
theorem BK (l:List Pkg)(hp: ∀p∈l,lp p):ag prog W0 39 [aT l] (if bg l=0 then .tup [eX (cw l),.int .i64 0]else .tup [.nil,.int .i64 (bg l)]):=by
 split
 ·rename_i h0
  exact Kv l hp h0
 ·rename_i h0
  refine tO [.tmp 2,.tmp 3] [7,2000029,4000008] func39 rfl rfl ntmps39 rfl rfl (.xD .nil (.int _ _)) λhs σ=>?_
  simp only[go_sem,simprocAttr]
  refine ak.fn (vI l hp) ?_
  simp only[go_sem,simprocAttr,h0]
  refine cI.ret ?_
  simp only[go_sem,simprocAttr]
end Go.Proofs.Tryz
end
section
namespace Go.Proofs.Tryz
open Go Go.Av
set_option maxRecDepth 10000
variable {W0 :World}
def bV (a:aS):AV:=.agg 83 [.int .i64 a.kind,.str a.name,.str a.ver]
def bB (l:List aS):AV:=.sl 83 (l.map bV)
@[go_sem] theorem TF (gd:Option Bool)(l:List aS):okM gd (bB l)=True:=eq_true trivial
@[go_sem] theorem Uc (l:List aS):unm (bB l)=bB l:=rfl
@[go_sem] theorem SR (gd:Option Bool)(l:List aG):okM gd (bf l)=True:=eq_true trivial
@[go_sem] theorem Vb (l:List aG):unm (bf l)=bf l:=rfl
@[go_sem] theorem SB (l:List Pkg):unm (aT l)=aT l:=rfl
theorem cJ.ask (a:aS):cJ (bV a):=trivial
@[go_sem] theorem Wx (gd:Option Bool)(a:aS):okM gd (bV a)=True:=eq_true trivial
@[go_sem] theorem VY (a:aS):unm (bV a)=bV a:=rfl
@[go_sem] theorem V5 (gd:Option Bool)(a:aG):okM gd (bD a)=True:=eq_true trivial
@[go_sem] theorem Wy (a:aG):unm (bD a)=bD a:=rfl
theorem Ct (a:aS):aU 0 (bV a):=.agg λx hx=>by
 simp only[List.mem_cons,List.not_mem_nil,or_false]at hx
 rcases hx with rfl|rfl|rfl
 ·exact .int _ _
 ·exact .str _
 ·exact .str _
theorem Ty {α:Type}(enc:α→AV)(hp: ∀a,cJ (enc a))(l:List α)(q:α→Bool)(g:FuncId)(caps:List AV)(h: ∀a∈l,ag prog W0 g ([enc a]++caps) (.bool (q a))):
  ag prog W0 215 [.sl 100 (l.map enc),.fn g caps] (.int .i64 (gw q l)):=by
 refine al [4] [] func215 rfl rfl ntmps215 rfl rfl (.int _ _) λhs σ=>?_
 have hl:=(aH (hs _ (List.mem_cons_self ..))).1
 simp only[go_sem,simprocAttr]
 refine ae.upto [0,1,7] (.of (by kernel_rfl)) l.length (λi A=>A.env 8= .int .i64 i∧A.st=σ∧ ∀a∈l.take i,q a=false) 0 (Nat.zero_le _) ?_ λi B hi ⟨h8,hst,hI⟩=>?_
 ·simp only[go_sem,simprocAttr]
  all_goals simp
 simp only[go_sem,simprocAttr,h8,hst,List.length_map]
 refine⟨λhc=>⟨hc,?_⟩,λhc=>ar ?_⟩
 ·obtain⟨a,ha⟩:=get_some hc
  simp only[av ha,bR (hp a),cp (hp a),true_and]
  refine ak.pure (h a (List.mem_of_getElem? ha)) ?_
  simp only[go_sem,simprocAttr,h8,hst]
  refine⟨λhq=>ar (fp ha hq hI).symm,λhq=>⟨hc,ah hc hl,?_⟩⟩
  rw[aj ha]
  intro b hb
  rcases List.mem_append.1 hb with hb|hb
  ·exact hI b hb
  ·rw[List.mem_singleton.1 hb];exact hq
 ·rw[dr]
  rwa [List.take_of_length_le hc]at hI
theorem Tn {α:Type}(enc:α→AV)(hp: ∀a,cJ (enc a))(l:List α)(q:α→Bool)(g:FuncId)(caps:List AV)(h: ∀a∈l,ag prog W0 g ([enc a]++caps) (.bool (q a))):
  ag prog W0 161 [.sl 83 (l.map enc),.fn g caps] (.int .i64 (gw q l)):=by
 refine al [4] [] func161 rfl rfl ntmps161 rfl rfl (.int _ _) λhs σ=>?_
 have hl:=(aH (hs _ (List.mem_cons_self ..))).1
 simp only[go_sem,simprocAttr]
 refine ae.upto [0,1,7] (.of (by kernel_rfl)) l.length (λi A=>A.env 8= .int .i64 i∧A.st=σ∧ ∀a∈l.take i,q a=false) 0 (Nat.zero_le _) ?_ λi B hi ⟨h8,hst,hI⟩=>?_
 ·simp only[go_sem,simprocAttr]
  all_goals simp
 simp only[go_sem,simprocAttr,h8,hst,List.length_map]
 refine⟨λhc=>⟨hc,?_⟩,λhc=>ar ?_⟩
 ·obtain⟨a,ha⟩:=get_some hc
  simp only[av ha,bR (hp a),cp (hp a),true_and]
  refine ak.pure (h a (List.mem_of_getElem? ha)) ?_
  simp only[go_sem,simprocAttr,h8,hst]
  refine⟨λhq=>ar (fp ha hq hI).symm,λhq=>⟨hc,ah hc hl,?_⟩⟩
  rw[aj ha]
  intro b hb
  rcases List.mem_append.1 hb with hb|hb
  ·exact hI b hb
  ·rw[List.mem_singleton.1 hb];exact hq
 ·rw[dr]
  rwa [List.take_of_length_le hc]at hI
theorem TO {α:Type}(enc:α→AV)(hp: ∀a,cJ (enc a))(l:List α)(q:α→Bool)(g:FuncId)(caps:List AV)(h: ∀a∈l,ag prog W0 g ([enc a]++caps) (.bool (q a))):
  ag prog W0 166 [.sl 100 (l.map enc),.fn g caps] (.bool (l.any q)):=by
 refine al [4] [] func166 rfl rfl ntmps166 rfl rfl (.bool _) λhs σ=>?_
 simp only[go_sem,simprocAttr]
 refine ak.fn (Ty enc hp l q g caps h) ?_
 simp only[go_sem,simprocAttr]
 exact ai iP
theorem LF {α:Type}(enc:α→AV)(hp: ∀a,cJ (enc a))(l:List α)(q:α→Bool)(g:FuncId)(caps:List AV)(h: ∀a∈l,ag prog W0 g ([enc a]++caps) (.bool (q a))):
  ag prog W0 109 [.sl 83 (l.map enc),.fn g caps] (.bool (l.any q)):=by
 refine al [4] [] func109 rfl rfl ntmps109 rfl rfl (.bool _) λhs σ=>?_
 simp only[go_sem,simprocAttr]
 refine ak.fn (Tn enc hp l q g caps h) ?_
 simp only[go_sem,simprocAttr]
 exact ai iP
def NoB {α:Type}(q:α→Bool)(l:List α)(i:Nat):Prop:=∀ b∈l.take i,q b=false
theorem NoB.zero {α:Type}(q:α→Bool)(l:List α):NoB q l 0:=λb hb=>by simp at hb
theorem NoB.succ {α:Type}{l:List α}{i:Nat}{a:α}{q:α→Bool}(hI:NoB q l i)(ha:l[i]?=some a)(hq:q a=false):NoB q l (i+1):=by
 unfold NoB
 rw[aj ha]
 intro b hb
 rcases List.mem_append.1 hb with hb|hb
 ·exact hI b hb
 ·rw[List.mem_singleton.1 hb];exact hq
theorem NoB.all {α:Type}{l:List α}{i:Nat}{q:α→Bool}(hI:NoB q l i)(h:l.length≤i): ∀b∈l,q b=false:=by
 unfold NoB at hI
 rwa [List.take_of_length_le h]at hI
theorem xm (l:List aG)(n:List UInt8):ag prog W0 50 [bf l,.str n] (.tup [.int .i64 (if gw (λx:aG=>x.pkg.name==n) l<0 then 0 else gw (λx:aG=>x.pkg.name==n) l),.bool (decide (0≤gw (λx:aG=>x.pkg.name==n) l))]):=by
 refine al [4,5] [7] func50 rfl rfl ntmps50 rfl rfl (.xD (.int _ _) (.bool _)) λhs σ=>?_
 have hl:=(aH (hs _ (List.mem_cons_self ..))).1
 simp only[go_sem,simprocAttr,bf,List.length_map]
 refine ae.upto [1,8,9] (.of (by kernel_rfl)) l.length (λi A=>A.env 10= .int .i64 i∧Ext σ A.st∧NoB (λx:aG=>x.pkg.name==n) l i) 0 (Nat.zero_le _) ?_ λi B hi ⟨h10,hst,hI⟩=>?_
 ·simp only[go_sem,simprocAttr]
  exact⟨.refl _,.zero _ _⟩
 simp only[go_sem,simprocAttr,h10,List.length_map]
 refine⟨λhc=>⟨hc,?_⟩,λhc=>?_⟩
 ·obtain⟨a,ha⟩:=get_some hc
  simp only[av ha]
  simp only[go_sem,simprocAttr,bD,au,h10]
  refine⟨λhq=>⟨?_,hst.app _⟩,λhq=>⟨hc,ah hc hl,hst.app _,hI.succ ha (by simpa using hq)⟩⟩
  rw[fp ha (by simpa using hq) hI,if_neg (by omega),decide_eq_true (by omega)]
  exact .refl _
 ·rw[dr (hI.all hc)]
  exact⟨.refl _,hst⟩
theorem FY (l:List aG)(n:List UInt8):ag prog W0 67 [bf l,.str n] (.int .i64 (gw (λx:aG=>x.pkg.name==n) l)):=by
 refine al [4] [6] func67 rfl rfl ntmps67 rfl rfl (.int _ _) λhs σ=>?_
 have hl:=(aH (hs _ (List.mem_cons_self ..))).1
 simp only[go_sem,simprocAttr,bf,List.length_map]
 refine ae.upto [1,7,8] (.of (by kernel_rfl)) l.length (λi A=>A.env 9= .int .i64 i∧Ext σ A.st∧NoB (λx:aG=>x.pkg.name==n) l i) 0 (Nat.zero_le _) ?_ λi B hi ⟨h10,hst,hI⟩=>?_
 ·simp only[go_sem,simprocAttr]
  exact⟨.refl _,.zero _ _⟩
 simp only[go_sem,simprocAttr,h10,List.length_map]
 refine⟨λhc=>⟨hc,?_⟩,λhc=>?_⟩
 ·obtain⟨a,ha⟩:=get_some hc
  simp only[av ha]
  simp only[go_sem,simprocAttr,bD,au,h10]
  refine⟨λhq=>⟨?_,hst.app _⟩,λhq=>⟨hc,ah hc hl,hst.app _,hI.succ ha (by simpa using hq)⟩⟩
  rw[fp ha (by simpa using hq) hI]
  exact .refl _
 ·rw[dr (hI.all hc)]
  exact⟨.refl _,hst⟩
theorem CE (l:List aS)(k:Int):ag prog W0 100 [bB l,.int .i64 k] (.bool (l.any λa=>a.kind==k)):=by
 refine al [4] [6] func100 rfl rfl ntmps100 rfl rfl (.bool _) λhs σ=>?_
 have hl:=(aH (hs _ (List.mem_cons_self ..))).1
 simp only[go_sem,simprocAttr,bB,List.length_map]
 refine ae.upto [1,7,8] (.of (by kernel_rfl)) l.length (λi A=>A.env 9= .int .i64 i∧Ext σ A.st∧NoB (λa:aS=>a.kind==k) l i) 0 (Nat.zero_le _) ?_ λi B hi ⟨h10,hst,hI⟩=>?_
 ·simp only[go_sem,simprocAttr]
  exact⟨.refl _,.zero _ _⟩
 simp only[go_sem,simprocAttr,h10,List.length_map]
 refine⟨λhc=>⟨hc,?_⟩,λhc=>?_⟩
 ·obtain⟨a,ha⟩:=get_some hc
  simp only[av ha]
  simp only[go_sem,simprocAttr,bV,h10]
  refine⟨λhq=>⟨ai ?_,hst.app _⟩,λhq=>⟨hc,ah hc hl,hst.app _,hI.succ ha (by simpa using hq)⟩⟩
  exact(List.any_eq_true.2 ⟨a,List.mem_of_getElem? ha,by simpa using hq⟩).symm
 ·refine⟨ai ?_,hst⟩
  exact(List.any_eq_false.2 λx hx=>by simpa using hI.all hc x hx).symm
def ei (l:List aS):Bool:=(l.any λa=>a.kind==3)||l.any λa=>a.kind==4
theorem BG (l:List aS):ag prog W0 42 [bB l] (.bool (ei l)):=by
 refine al [2] [] func42 rfl rfl ntmps42 rfl rfl (.bool _) λhs σ=>?_
 simp only[go_sem,simprocAttr]
 refine ak.fn (CE l 3) ?_
 simp only[go_sem,simprocAttr]
 refine aA.fnG (λ_=>CE l 4) ?_
 simp only[go_sem,simprocAttr,ei]
 try exact .refl _
def ni :aS:=⟨0,[],[]⟩
theorem o5 {α:Type}{l:List α}{i:Nat}{a:α}{q:α→Bool}(ha:l[i]?=some a)(hq:q a=true)(hI:NoB q l i):l.find? q=some a:=by
 obtain⟨hi,he⟩:=List.getElem?_eq_some_iff.1 ha
 refine List.find?_eq_some_iff_getElem.2 ⟨hq,i,hi,he,λj hj=>?_⟩
 rw[hI _ (List.mem_iff_getElem.2 ⟨j,by rw[List.length_take];omega,by rw[List.getElem_take]⟩)]
 rfl
theorem Hg (p:Pkg)(all:List Pkg)(h24:all.length≤1048576):ag prog W0 102 [au p,aT all] (.int .i64 (cH all p)):=by
 refine al [4] [2,7] func102 rfl rfl ntmps102 rfl rfl (.int _ _) λhs σ=>?_
 simp only[go_sem,simprocAttr,aT,List.length_map]
 refine ae.at [] (.of (by kernel_rfl)) (λA=>A.env 5= .int .i64 (cH all p)∧Ext σ A.st) ?_ λB ⟨h5,hst⟩=>?_
 ·refine ae.upto [2,8,9] (.of (by kernel_rfl)) all.length (λi A=>A.env 10= .int .i64 i∧A.env 5= .int .i64 (cH (all.take i) p)∧Ext σ A.st∧cH (all.take i) p≤i) 0 (Nat.zero_le _) ?_ λi B hi ⟨h10,h5,hst,hle⟩=>?_
  ·simp only[go_sem,simprocAttr]
   simp[cH,Ext.refl]
  simp only[go_sem,simprocAttr,h10,h5,List.length_map]
  refine⟨λhc=>⟨hc,?_⟩,λhc=>?_⟩
  ·obtain⟨q,hq⟩:=get_some hc
   have hn:cH (all.take (i+1)) p=cH (all.take i) p+if (q.name==p.name&&decide (0<bo q.ver p.ver))=true then 1 else 0:=by
    unfold cH
    rw[aj hq,List.filter_append,List.length_append]
    congr 1
    rw[List.filter_cons]
    split<;>rfl
   simp only[av hq]
   simp only[go_sem,simprocAttr,au,h10,h5]
   refine aA.fnG (λ_=>nF q.ver p.ver) ?_
   simp only[go_sem,simprocAttr,h10,h5]
   refine⟨λhb=>⟨hc,ah hc (by rw[aq];omega),?_,hst.app _,?_⟩,λhb=>⟨hc,ah hc (by rw[aq];omega),?_,hst.app _,?_⟩⟩
   ·rw[hn,if_pos hb,iV (N:=1048577) (by omega) (by rw[aq];omega)]
   ·rw[hn,if_pos hb];omega
   ·rw[hn,if_neg (by simp[hb])];rfl
   ·rw[hn,if_neg (by simp[hb])];omega
  ·rw[List.take_of_length_le hc]
   exact⟨rfl,hst⟩
 simp only[go_sem,simprocAttr,h5]
 exact hst
end Go.Proofs.Tryz
end
section
namespace Go.Av
open Go.Proofs.Tryz
theorem Kl {all:List Pkg}{t:List Nat}(hm: ∀p∈all,aL p=0)(hs:t.Pairwise (· < ·)):vP all (λm=>decide (m∈t))↔HL (atL all t):=by
 constructor
 ·intro h
  refine⟨λp hp=>?_,?_,λp hp c hc=>?_⟩
  ·obtain⟨i,_,hi⟩:=df.1 hp
   exact hm p (List.mem_of_getElem? hi)
  ·unfold atL
   rw[List.pairwise_filterMap]
   refine hs.imp_of_mem λ{i j} hi hj hij p hp q hq=>?_
   obtain⟨h1,h2⟩:=h.con j q i p hq hp hij (by simpa using hj) (by simpa using hi)
   exact⟨λe=>h1 e.symm,by rw[jb];exact h2⟩
  ·obtain⟨i,hi,hip⟩:=df.1 hp
   obtain⟨k,q,hq,h1,h2⟩:=h.dep i p hip (by simpa using hi) c hc
   exact⟨q,df.2 ⟨k,by simpa using h2,hq⟩,h1⟩
 ·intro h
  refine⟨λi p hp hi c hc=>?_,λi p k q hp hq hki hi hk=>?_⟩
  ·obtain⟨q,hq,h1⟩:=h.met p (df.2 ⟨i,by simpa using hi,hp⟩) c hc
   obtain⟨k,hk,hkq⟩:=df.1 hq
   exact⟨k,q,hkq,h1,by simpa using hk⟩
  ·have hi:i∈t:=by simpa using hi
   have hk:k∈t:=by simpa using hk
   have hp2:=h.pair
   unfold atL at hp2
   rw[List.pairwise_filterMap]at hp2
   obtain⟨a,ha,rfl⟩:=List.getElem_of_mem hi
   obtain⟨b,hb,rfl⟩:=List.getElem_of_mem hk
   have hba:b<a:=by
    rcases Nat.lt_trichotomy a b with h1|h1|h1
    ·have:=List.pairwise_iff_getElem.1 hs a b ha hb h1
     omega
    ·subst h1;omega
    ·exact h1
   have:=List.pairwise_iff_getElem.1 hp2 b a hb ha hba q hq p hp
   exact⟨λe=>this.1 e.symm,by rw[jb];exact this.2⟩
theorem rK {all:List Pkg}{t:List Nat}(hm: ∀p∈all,aL p=0)(hs:t.Pairwise (· < ·)){M:Nat→Bool}(hM: ∀i,M (i+1)=decide (i∈t)):dh M (kI all 0 all)=dz (atL all t):=by
 rw[Bool.eq_iff_iff,zG,rj,←Kl hm hs]
 have:(λi=>M (i+1))=λm=>decide (m∈t):=by
  funext i
  exact hM i
 rw[this]
end Go.Av
end
section
namespace Go.Proofs.Tryz
open Go Go.Av
set_option maxRecDepth 10000
set_option maxHeartbeats 1000000
variable {W0 :World}
theorem Gw {l:List Pkg}{b:Pkg→Bool}:(bh l b).head?=l.findIdx? b:=by
 have key: ∀i,i≤l.length→(plB l b i).head?=(l.take i).findIdx? b:=by
  intro i
  induction i with
  |zero=>intro _;simp[plB]
  |succ i ih=>
   intro hi
   obtain⟨p,hp⟩:=get_some (show i<l.length by omega)
   rw[tX hp,aj hp,List.head?_append,ih (by omega),List.findIdx?_append]
   cases (l.take i).findIdx? b with
   |some k=>rfl
   |none=>
    have:(l.take i).length=i:=by rw[List.length_take];omega
    cases hb:b p<;>simp[hb,this]
 have:=key l.length (Nat.le_refl _)
 rwa [List.take_length]at this
theorem Jm (l:List Pkg)(n v:List UInt8):(bh l λp=>p.name==n&&bm p.ver v).head?=qb l n v:=Gw
theorem BM (all:List Pkg)(h0:bg all=0):ag prog W0 70 [aT all,eX (cw all)] (.bool (decide (all=cw all))):=by
 have h24:=dH h0
 have hsl:(cw all).length=all.length:=(eI all).length_eq
 refine al [4] [6] func70 rfl rfl ntmps70 rfl rfl (.bool _) λhs σ=>?_
 have hl:=(aH (hs _ (List.mem_cons_self ..))).1
 simp only[go_sem,simprocAttr,aT,List.length_map]
 refine ae.upto [1,9,10] (.of (by kernel_rfl)) all.length (λi A=>A.env 11= .int .i64 i∧Ext σ A.st∧ ∀k p,k<i→all[k]?=some p→qb (cw all) p.name p.ver=some k) 0 (Nat.zero_le _) ?_ λi B hi ⟨h11,hst,hI⟩=>?_
 ·simp only[go_sem,simprocAttr]
  exact .refl _
 simp only[go_sem,simprocAttr,h11,List.length_map]
 refine⟨λhc=>⟨hc,?_⟩,λhc=>⟨ai (decide_eq_true ((rr h0).1 λk p hk=>hI k p (by have:=(List.getElem?_eq_some_iff.1 hk).1;omega) hk)).symm,hst⟩⟩
 ·obtain⟨p,hp⟩:=get_some hc
  simp only[av hp]
  simp only[go_sem,simprocAttr,au,h11]
  refine ak.fn (IY (cw all) (by omega) p.name p.ver) ?_
  rw[Jm]
  simp only[go_sem,simprocAttr,h11]
  have hno:qb (cw all) p.name p.ver≠some i→all≠cw all:=λh e=>h ((rr h0).2 e i p hp)
  cases hf:qb (cw all) p.name p.ver with
  |none=>
   simp only[go_sem,simprocAttr]
   exact⟨ai (decide_eq_false (hno (by rw[hf];simp))).symm,hst.app _⟩
  |some k=>
   simp only[go_sem,simprocAttr,Option.getD_some]
   refine⟨λhne=>⟨ai (decide_eq_false (hno (by rw[hf];simp;omega))).symm,hst.app _⟩,λhe=>⟨hc,ah hc (by rw[aq];omega),hst.app _,λj q hj hq=>?_⟩⟩
   rcases Nat.lt_or_ge j i with h|h
   ·exact hI j q h hq
   ·have:j=i:=by omega
    subst this
    rw[hp]at hq
    cases hq
    rw[hf]
    congr 1
    try omega
def wC (n:Nat)(cls:List (List Int)):AV:=.loc 191 (.agg 191 [.int .i64 n,sW cls])
@[go_sem] theorem VW (gd:Option Bool)(n:Nat)(cls:List (List Int)):okM gd (wC n cls)=True:=eq_true trivial
@[go_sem] theorem Wg (n:Nat)(cls:List (List Int)):unm (wC n cls)=wC n cls:=rfl
def nj (n:Nat)(cls:List (List Int)):AV:=.loc 133 (.agg 133 [.int .i64 n,wC n cls])
theorem KH (n:Nat)(cls:List (List Int)):ag prog W0 77 [wC n cls] (.int .i64 cls.length):=by
 refine al [2] [] func77 rfl rfl ntmps77 rfl rfl (.int _ _) λhs σ=>?_
 simp only[go_sem,simprocAttr,wC,sW,List.length_map]
 try exact .refl _
def wI (m:List Bool):AV:=.sl 4 (m.map .bool)
def mOf (m:List Bool)(v:Nat):Bool:=v !=0&&(m[v-1]?).getD false
theorem OP {m:List Bool}{v:Nat}(h:v≠0){b:Bool}(hb:m[v-1]?=some b):mOf m v=b:=by simp[mOf,h,hb]
theorem Dx (σ:ab)(l:Int)(mid:Nat)(m:List Bool)(hid:σ[mid]?=some (some (.cells 4 (m.map .bool))))(hl:l≠0∧l.natAbs≤m.length)(hm:m.length≤1000000):aY prog W0 141 [.int .i64 l,.row 4 mid 0 m.length] σ λr σ'=>r= .bool (ng (mOf m) l)∧σ'=σ:=by
 refine lM [4] [] func141 rfl rfl ntmps141 rfl rfl (.bool _) λhs=>?_
 simp only[go_sem,simprocAttr]
 refine ak.fn (jJ l (by omega)) ?_
 have w1:IntKind.u64.wrap (((l.natAbs:Nat):Int)-1)=((l.natAbs-1:Nat):Int):=by simp[IntKind.wrap,IntKind.signed,IntKind.bits];omega
 have w2:IntKind.u64.wrap (m.length:Int)=m.length:=by simp[IntKind.wrap,IntKind.signed,IntKind.bits];omega
 obtain⟨b,hb⟩:=get_some (show l.natAbs-1<m.length by omega)
 have hlt:decide (l.natAbs-1<m.length)=true:=decide_eq_true (by omega)
 simp only[go_sem,simprocAttr,w1,w2,hlt,aw hid,ay hid,Nat.zero_add,List.getElem?_map,hb,Option.map_some,mw,Int.toNat_natCast]
 refine⟨by omega,bO.ret ?_⟩
 simp only[go_sem,simprocAttr]
 refine ai ?_
 unfold ng
 rw[OP (by omega) hb]
 by_cases h:0<l<;>cases b<;>simp[h]
theorem D5 (σ:ab)(l:Int)(mid:Nat)(m:List Bool)(hid:σ[mid]?=some (some (.cells 4 (m.map .bool))))(hl:l≠0∧l.natAbs≤m.length)(hm:m.length≤1000000):aY prog W0 140 [.int .i64 l,.loc 66 (.row 4 mid 0 m.length)] σ λr σ'=>r= .bool (ng (mOf m) l)∧σ'=σ:=by
 refine lM [3] [] func140 rfl rfl ntmps140 rfl rfl (.bool _) λhs=>?_
 simp only[go_sem,simprocAttr]
 refine ak.reads (by simp only[go_sem,simprocAttr]) (Dx σ l mid m hid hl hm) ?_
 simp only[go_sem,simprocAttr]
 refine bO.ret ?_
 simp only[go_sem,simprocAttr]
 try exact .refl _
theorem Di (σ:ab)(n:Nat)(cls:List (List Int))(mid:Nat)(m:List Bool)(hid:σ[mid]?=some (some (.cells 4 (m.map .bool))))(hm:m.length=n)(hk:yX n cls):aY prog W0 78 [wC n cls,.row 4 mid 0 m.length] σ λr σ'=>r= .bool (dh (mOf m) cls)∧σ'=σ:=by
 have hmid:=(List.getElem?_eq_some_iff.1 hid).1
 refine lM [4] [3] func78 rfl rfl ntmps78 rfl rfl (.bool _) λhs=>?_
 have h200:=hk.small
 have h5000:=hk.len
 simp only[go_sem,simprocAttr,wC,sW,List.length_map]
 refine ae.upto [3,12,13] (.of (by kernel_rfl)) cls.length (λi A=>A.env 14= .int .i64 i∧Ext σ A.st∧ ∀c∈cls.take i,ic (mOf m) c=true) 0 (Nat.zero_le _) ?_ λi B hi ⟨h14,hst,hI⟩=>?_
 ·simp only[go_sem,simprocAttr]
  exact⟨.refl _,λc hc=>by simp at hc⟩
 simp only[go_sem,simprocAttr,h14,List.length_map]
 refine⟨λhc=>⟨hc,?_⟩,λhc=>bO.ret ?_⟩
 ·obtain⟨c,hcc⟩:=get_some hc
  have hcm:=List.mem_of_getElem? hcc
  have hmB:B.st[mid]?=some (some (.cells 4 (m.map .bool))):=by
   have e:=congrArg (·[mid]?) hst
   simp only[List.getElem?_take,if_pos hmid]at e
   rw[e,hid]
  simp only[av hcc]
  simp only[go_sem,simprocAttr,h14]
  refine ak.reads (by simp only[go_sem,simprocAttr]) (Gr (.int .i64) cJ.int64 c (ng (mOf m)) _ [.loc 66 (.row 4 mid 0 m.length)] B.st λl hl=>D5 B.st l mid m hmB (by rw[hm];exact(hk.wf c hcm).2.2 l hl) (by omega)) ?_
  simp only[go_sem,simprocAttr,h14]
  refine⟨λhb=>bO.ret ?_,λhb=>⟨hc,ah hc (by rw[aq];omega),hst,?_⟩⟩
  ·simp only[go_sem,simprocAttr]
   refine⟨ai ?_,hst⟩
   refine(Bool.eq_false_iff.2 λh=>?_).symm
   have:=List.all_eq_true.1 h c hcm
   unfold ic at this
   rw[this]at hb
   cases hb
  ·rw[aj hcc]
   intro d hd
   rcases List.mem_append.1 hd with hd|hd
   ·exact hI d hd
   ·rw[List.mem_singleton.1 hd];exact hb
 ·rw[List.take_of_length_le hc]at hI
  simp only[go_sem,simprocAttr]
  exact⟨ai (List.all_eq_true.2 hI).symm,hst⟩
theorem xa (n:Nat)(cls:List (List Int))(hn:n≤1000)(i:Int):ag prog W0 28 [nj n cls,.int .i64 i] (.int .i64 (if 0≤i∧i<n then i+1 else 0)):=by
 refine al [4] [] func28 rfl rfl ntmps28 rfl rfl (.int _ _) λhs σ=>?_
 simp only[go_sem,simprocAttr,nj]
 refine⟨λh=>?_,λh=>?_⟩
 ·rw[if_neg (by simp at h;omega)]
  exact .refl _
 ·simp at h
  rw[if_pos (by omega),aE (by omega)]
  exact .refl _
theorem MT (n:Nat)(cls:List (List Int)):ag prog W0 30 [nj n cls] (.int .i64 cls.length):=by
 refine al [2] [] func30 rfl rfl ntmps30 rfl rfl (.int _ _) λhs σ=>?_
 simp only[go_sem,simprocAttr,nj]
 refine ak.fn (KH n cls) ?_
 simp only[go_sem,simprocAttr]
 try exact .refl _
def marks (n:Nat):List Int→List Bool→Option (List Bool)
 |[],m=>some m
 |i::r,m=>if 0≤i∧i<n then(if (m[i.toNat]?).getD false=true then none else marks n r (m.set i.toNat true))else none
theorem GA (n:Nat)(cls:List (List Int))(hk:yX n cls)(t:List Int):ag prog W0 31 [nj n cls,.sl 3 (t.map (.int .i64))] (.bool (match marks n t (List.replicate n false)with|some m=>dh (mOf m) cls|none=>false)):=by
 have h200:=hk.small
 refine ki [4] [] func31 rfl rfl ntmps31 rfl rfl (.bool _) λhs σ=>?_
 have hl:=(aH (hs _ (List.mem_cons_of_mem _ (List.mem_cons_self ..)))).1
 have hnat: ∀x:List Bool,(σ++[some (cX.cells 4 (x.map .bool))])[σ.length]?=some (some (.cells 4 (x.map .bool))):=λx=>by simp
 simp only[go_sem,simprocAttr,nj,List.length_map]
 refine uI.go (e:=4) 200 (by kernel_rfl) (z:=.bool false) (by kernel_rfl) (by kernel_rfl) h200 ?_
 simp only[go_sem,simprocAttr,List.length_map]
 refine ae.at [0,5] (.of (by kernel_rfl)) (λA=>∃ m:List Bool,m.length=n∧marks n t (List.replicate n false)=some m∧A.st=σ++[some (.cells 4 (m.map .bool))]) ?_ λB ⟨m,hm,he,hst⟩=>?_
 ·refine ae.upto [0,5,15,16] (.of (by kernel_rfl)) t.length (λi A=>A.env 17= .int .i64 i∧ ∃m:List Bool,m.length=n∧marks n (t.drop i) m=marks n t (List.replicate n false)∧A.st=σ++[some (.cells 4 (m.map .bool))]) 0 (Nat.zero_le _) ?_ λi B hi ⟨h17,m,hm,he,hst⟩=>?_
  ·simp only[go_sem,simprocAttr]
   exact⟨List.replicate n false,by simp,rfl,by simp⟩
  have hL:=aw (hnat m)
  simp only[go_sem,simprocAttr,h17,List.length_map,hst]
  refine⟨λhc=>⟨hc,?_⟩,λhc=>?_⟩
  ·obtain⟨x,hx⟩:=get_some hc
   have hd:t.drop i=x::t.drop (i+1):=by rw[List.drop_eq_getElem_cons hc];congr 1;exact(List.getElem?_eq_some_iff.1 hx).2
   rw[hd,marks]at he
   simp only[av hx]
   simp only[go_sem,simprocAttr,h17]
   have hv:=xa (W0:=W0) n cls (by omega) x
   rw[nj]at hv
   refine ak.fn hv ?_
   by_cases hb:0≤x∧x<n
   ·have hxn:x.toNat<m.length:=by omega
    obtain⟨b,hb2⟩:=get_some hxn
    have z1:(x+1==0)=false:=by simp;omega
    have z2: ¬(x+1=0):=by omega
    rw[if_pos hb,hb2,Option.getD_some]at he
    simp only[go_sem,simprocAttr,h17,hst,if_pos hb,z1,z2,aw (hnat m),ay (hnat m),aR (hnat m),Nat.zero_add,List.getElem?_map,hb2,Option.map_some,Int.toNat_natCast]
    refine⟨by omega,λhbt=>bO.ret ?_,λhbf=>⟨by omega,hc,ah hc hl,m.set x.toNat true,by simpa using hm,?_,by rw[List.map_set]⟩⟩
    ·rw[hbt,if_pos rfl]at he
     simp only[go_sem,simprocAttr,hst]
     rw[←he]
     exact .refl _
    ·rw[hbf,if_neg (by simp)]at he
     exact he
   ·have z0:(if 0≤x∧x<(n:Int)then x+1 else 0)=0:=if_neg hb
    rw[if_neg hb]at he
    simp only[go_sem,simprocAttr,h17,hst,z0,mw]
    refine bO.ret ?_
    simp only[go_sem,simprocAttr,hst]
    rw[←he]
    exact .refl _
  ·rw[List.drop_eq_nil_of_le hc]at he
   exact⟨m,hm,he.symm,rfl⟩
 rw[he]
 simp only[go_sem,simprocAttr,hst]
 have hh:=Di (W0:=W0) (σ++[some (.cells 4 (m.map .bool))]) n cls σ.length m (hnat m) hm hk
 rw[hm]at hh
 refine ak.reads (by simp only[go_sem,simprocAttr];exact hst) hh ?_
 simp only[go_sem,simprocAttr]
 refine bO.ret ?_
 simp only[go_sem,simprocAttr,hst]
end Go.Proofs.Tryz
end
section
namespace Go.Proofs.Tryz
open Go Go.Av
set_option maxRecDepth 10000
set_option maxHeartbeats 1000000
variable {W0 :World}
def il (all:List Pkg)(c:Clause):List Int:=c.flatMap λa=>(bh all λq=>cS q a).map dS
theorem o8 {l:List Pkg}{b:Pkg→Bool}{k:Nat}:k∈bh l b↔ ∃q,l[k]?=some q∧b q=true:=by
 unfold bh plB
 simp only[List.mem_filter,List.mem_range]
 constructor
 ·rintro⟨h1,h2⟩
  obtain⟨q,hq⟩:=get_some h1
  rw[hq]at h2
  exact⟨q,hq,h2⟩
 ·rintro⟨q,h1,h2⟩
  exact⟨(List.getElem?_eq_some_iff.1 h1).1,by rw[h1];exact h2⟩
theorem Er {c:Clause}{all:List Pkg}{x:Int}:x∈eD c 0 all↔ ∃k q,all[k]?=some q∧c.any (cS q)=true∧x=dS k:=by
 have key: ∀(l:List Pkg) (i:Nat),x∈eD c i l↔ ∃k q,l[k]?=some q∧c.any (cS q)=true∧x=dS (i+k):=by
  intro l
  induction l with
  |nil=>intro i;simp[eD]
  |cons p r ih=>
   intro i
   rw[eD,List.mem_append,ih]
   constructor
   ·rintro(h|⟨k,q,h1,h2,h3⟩)
    ·split at h
     ·rename_i hs;simp at h;exact⟨0,p,rfl,hs,by simpa using h⟩
     ·simp at h
    ·exact⟨k+1,q,by simpa using h1,h2,by rw[h3];congr 1;omega⟩
   ·rintro⟨k,q,h1,h2,h3⟩
    cases k with
    |zero=>simp at h1;subst h1;left;rw[if_pos h2];simpa using h3
    |succ k=>exact .inr ⟨k,q,by simpa using h1,h2,by rw[h3];congr 1;omega⟩
 simpa using key all 0
theorem vM {c:Clause}{all:List Pkg}{x:Int}:x∈il all c↔x∈eD c 0 all:=by
 rw[Er]
 unfold il
 simp only[List.mem_flatMap,List.mem_map]
 constructor
 ·rintro⟨a,ha,k,hk,rfl⟩
  obtain⟨q,h1,h2⟩:=o8.1 hk
  exact⟨k,q,h1,List.any_eq_true.2 ⟨a,ha,h2⟩,rfl⟩
 ·rintro⟨k,q,h1,h2,rfl⟩
  obtain⟨a,ha,h3⟩:=List.any_eq_true.1 h2
  exact⟨a,ha,k,o8.2 ⟨q,h1,h3⟩,rfl⟩
end Go.Proofs.Tryz
end
section
namespace Go.Proofs.Tryz
open Go Go.Av Go.Sort
set_option maxRecDepth 100000
set_option maxHeartbeats 2000000
theorem Nl (a:Int)(w:World):Calls prog 251 #[.int .i64 a] w λe w'=>e= .returned (.bool false)∧w'=w:=by
 go_enter func251,ntmps251
 go_wp2
 go_ret
 exact⟨rfl,rfl⟩
theorem M0 (a b:Int)(w:World):Calls prog 226 #[.int .i64 a,.int .i64 b] w λe w'=>e= .returned (.int .i64 (sgn a b))∧w'=w:=by
 have h1:=λx W=>Nl x W
 unfold sgn
 go_enter func226,ntmps226
 go_wp2_with (go_at_call 251;refine(h1 _ _).mono ?_;rintro e w' ⟨rfl,rfl⟩)
 all_goals go_ret
 all_goals simp_all
theorem Oy (a:Int)(w:World):Calls prog 227 #[.int .u32 a] w λe w'=>e= .returned (.bool false)∧w'=w:=by
 go_enter func227,ntmps227
 go_wp2
 go_ret
 exact⟨rfl,rfl⟩
theorem ME (a b:Int)(w:World):Calls prog 171 #[.int .u32 a,.int .u32 b] w λe w'=>e= .returned (.int .i64 (sgn a b))∧w'=w:=by
 have h1:=λx W=>Oy x W
 unfold sgn
 go_enter func171,ntmps171
 go_wp2_with (go_at_call 227;refine(h1 _ _).mono ?_;rintro e w' ⟨rfl,rfl⟩)
 all_goals go_ret
 all_goals simp_all
theorem OD (a:Int)(w:World):Calls prog 231 #[.int .u64 a] w λe w'=>e= .returned (.bool false)∧w'=w:=by
 go_enter func231,ntmps231
 go_wp2
 go_ret
 exact⟨rfl,rfl⟩
theorem Mw (a b:Int)(w:World):Calls prog 189 #[.int .u64 a,.int .u64 b] w λe w'=>e= .returned (.int .i64 (sgn a b))∧w'=w:=by
 have h1:=λx W=>OD x W
 unfold sgn
 go_enter func189,ntmps189
 go_wp2_with (go_at_call 231;refine(h1 _ _).mono ?_;rintro e w' ⟨rfl,rfl⟩)
 all_goals go_ret
 all_goals simp_all
theorem OC (a:Int)(w:World):Calls prog 232 #[.int .i64 a] w λe w'=>e= .returned (.bool false)∧w'=w:=by
 go_enter func232,ntmps232
 go_wp2
 go_ret
 exact⟨rfl,rfl⟩
theorem Oq (a b:Int)(w:World):Calls prog 190 #[.int .i64 a,.int .i64 b] w λe w'=>e= .returned (.int .i64 (sgn a b))∧w'=w:=by
 have h1:=λx W=>OC x W
 unfold sgn
 go_enter func190,ntmps190
 go_wp2_with (go_at_call 232;refine(h1 _ _).mono ?_;rintro e w' ⟨rfl,rfl⟩)
 all_goals go_ret
 all_goals simp_all
theorem Uv (l:Int)(hl:l.natAbs≤1000000)(w:World):Calls prog 185 #[.int .i64 l] w λe w'=>e= .returned (.int .u64 (l.natAbs:Nat))∧w'=w:=by
 have e1:l<0→IntKind.u64.wrap (-(IntKind.u64.wrap l))=(l.natAbs:Int):=λh=>by simp[IntKind.wrap,IntKind.signed,IntKind.bits];omega
 have e2: ¬l<0→IntKind.u64.wrap l=(l.natAbs:Int):=λh=>by simp[IntKind.wrap,IntKind.signed,IntKind.bits];omega
 go_enter func185,ntmps185
 go_wp2
 all_goals go_ret
 all_goals first|exact⟨rfl,rfl⟩|simp_all
theorem Vg (a b:Int)(B:Nat)(w:World)(h0:w.cell? ⟨B,0,none⟩=some (.int .i64 a))(h1:w.cell? ⟨B,1,none⟩=some (.int .i64 b)):Calls prog 94 #[.slice (some ⟨B,0,none⟩) 2 2] w λe w'=>e= .returned (.int .i64 (orL [a,b]))∧w'=w:=by
 obtain⟨r,hr⟩: ∃r,r=orL [a,b]:=⟨_,rfl⟩
 rw[←hr]
 have f1:a≠0→r=a:=λh=>by rw[hr];simp[orL,h]
 have f2:a=0→r=b:=λh=>by rw[hr];by_cases hb:b=0<;>simp[orL,h,hb]
 clear hr
 go_enter func94,ntmps94
 go_wp2
 refine wp_loop_rounds 3 ?_
 rw[rounds_succ]
 go_wp2
 all_goals (try (rw[rounds_succ];go_wp2))
 all_goals (try (rw[rounds_succ];go_wp2))
 all_goals (try go_ret)
 all_goals refine⟨?_,rfl⟩
 all_goals simp_all
theorem M8 (a b:Int)(ha:a.natAbs≤1000000)(hb:b.natAbs≤1000000)(w:World):Calls prog 188 #[.int .i64 a,.int .i64 b] w λe w'=>e= .returned (.int .i64 (orL [sgn (a.natAbs:Nat) (b.natAbs:Nat),sgn a b]))∧ ∃q os,w'=grow (w.drewN q) os:=by
 have c1: ∀(W:World) (u v:Value),(W.alloc (.cells #[u,v] 3)).cell? ⟨W.heap.size,0,none⟩=some u:=λW u v=>by unfold World.cell?;simp only[World.alloc_heap_new];rfl
 have c2: ∀(W:World) (u v:Value),(W.alloc (.cells #[u,v] 3)).cell? ⟨W.heap.size,1,none⟩=some v:=λW u v=>by unfold World.cell?;simp only[World.alloc_heap_new];rfl
 go_enter func188,ntmps188
 go_wp2_with (first|(go_at_call 185;refine(Uv _ (by assumption) _).mono ?_;rintro e w' ⟨rfl,rfl⟩)|(go_at_call 189;refine(Mw _ _ _).mono ?_;rintro e w' ⟨rfl,rfl⟩)|(go_at_call 190;refine(Oq _ _ _).mono ?_;rintro e w' ⟨rfl,rfl⟩)|(go_at_call 94;refine(Vg _ _ _ _ (c1 _ _ _) (c2 _ _ _)).mono ?_;rintro e w' ⟨rfl,rfl⟩))
 all_goals go_ret
 exact⟨rfl,0,_,alloc_eq_grow _ _⟩
end Go.Proofs.Tryz
end
section
namespace Go.Proofs.Tryz
open Go Go.Av Go.Sort
set_option maxRecDepth 100000
set_option maxHeartbeats 2000000
theorem oG {x m k:Nat}{K M:Int}(hx:x<4294967296)(hm:m<4294967296)(e1:(x:Int) / K=((x >>> k:Nat):Int))(e2: ∀y:Nat,(y:Int)*K % 4294967296=((y <<< k % 4294967296:Nat):Int))(hM:M=(m:Int)):
  bits .or .u32 (bits .and .u32 ((x:Int) / K) M) (bits .and .u32 (x:Int) M*K % 4294967296)=((bE m k x:Nat):Int):=by
 subst hM
 have l1:x >>> k<4294967296:=by rw[Nat.shiftRight_eq_div_pow];exact Nat.lt_of_le_of_lt (Nat.div_le_self _ _) hx
 rw[e1,fI _ _ l1 hm,fI _ _ hx hm,e2,hZ _ _ (Nat.lt_of_le_of_lt Nat.and_le_right hm) (Nat.mod_lt _ (by decide))]
 rfl
theorem Jo {x:Nat}(hx:x<4294967296):bits .or .u32 ((x:Int) / 65536) ((x:Int)*65536 % 4294967296)=(((x >>> 16) ||| ((x <<< 16) % 4294967296):Nat):Int):=by
 have e1:(x:Int) / (65536:Int)=((x >>> 16:Nat):Int):=by rw[Nat.shiftRight_eq_div_pow];omega
 have l1:x >>> 16<4294967296:=by rw[Nat.shiftRight_eq_div_pow];exact Nat.lt_of_le_of_lt (Nat.div_le_self _ _) hx
 have e2:(x:Int)*(65536:Int) % (4294967296:Int)=((x <<< 16 % 4294967296:Nat):Int):=by rw[Nat.shiftLeft_eq];omega
 rw[e1,e2,hZ _ _ l1 (Nat.mod_lt _ (by decide))]
theorem N2 (x:Nat)(hx:x<4294967296)(w:World):Calls prog 252 #[.int .u32 x] w λe w'=>e= .returned (.int .u32 (((bE 16711935 8 x >>> 16) ||| ((bE 16711935 8 x <<< 16) % 4294967296):Nat):Int))∧w'=w:=by
 have h1:=oG (m:=16711935) (k:=8) (K:=256) (M:=16711935) hx (by decide) (by rw[Nat.shiftRight_eq_div_pow];omega) (λy=>by rw[Nat.shiftLeft_eq];omega) rfl
 have h2:=Jo (x:=bE 16711935 8 x) (ke (by decide))
 rw[←h2,←h1]
 clear h1 h2
 go_enter func252,ntmps252
 go_wp2
 go_ret
 exact⟨rfl,rfl⟩
theorem UD (x:Nat)(hx:x<4294967296)(w:World):Calls prog 228 #[.int .u32 x] w λe w'=>e= .returned (.int .u32 (fK x:Nat))∧w'=w:=by
 have h1:=oG (m:=1431655765) (k:=1) (K:=2) (M:=1431655765) hx (by decide) (by rw[Nat.shiftRight_eq_div_pow];omega) (λy=>by rw[Nat.shiftLeft_eq];omega) rfl
 have l1:bE 1431655765 1 x<4294967296:=ke (by decide)
 have h2:=oG (m:=858993459) (k:=2) (K:=4) (M:=858993459) l1 (by decide) (by rw[Nat.shiftRight_eq_div_pow];omega) (λy=>by rw[Nat.shiftLeft_eq];omega) rfl
 have l2:bE 858993459 2 (bE 1431655765 1 x)<4294967296:=ke (by decide)
 have h3:=oG (m:=252645135) (k:=4) (K:=16) (M:=252645135) l2 (by decide) (by rw[Nat.shiftRight_eq_div_pow];omega) (λy=>by rw[Nat.shiftLeft_eq];omega) rfl
 have l3:bE 252645135 4 (bE 858993459 2 (bE 1431655765 1 x))<4294967296:=ke (by decide)
 have q:=N2 _ l3
 rw[←h3,←h2,←h1]at q
 have hr:fK x=(bE 16711935 8 (bE 252645135 4 (bE 858993459 2 (bE 1431655765 1 x))) >>> 16) ||| ((bE 16711935 8 (bE 252645135 4 (bE 858993459 2 (bE 1431655765 1 x))) <<< 16) % 4294967296):=rfl
 rw[hr]
 generalize ((bE 16711935 8 (bE 252645135 4 (bE 858993459 2 (bE 1431655765 1 x))) >>> 16) ||| ((bE 16711935 8 (bE 252645135 4 (bE 858993459 2 (bE 1431655765 1 x))) <<< 16) % 4294967296):Nat)=r at *
 clear h1 h2 h3 hr l1 l2 l3
 go_enter func228,ntmps228
 go_wp2_with (go_at_call 252;refine(q _).mono ?_;rintro e w' ⟨rfl,rfl⟩)
 go_ret
 exact⟨rfl,rfl⟩
theorem zm (x:Nat)(hx:x<4294967296)(w:World):Calls prog 172 #[.int .u32 x] w λe w'=>e= .returned (.int .u32 (fK x:Nat))∧w'=w:=by
 have q:=UD x hx
 generalize fK x=r at *
 go_enter func172,ntmps172
 go_wp2_with (go_at_call 228;refine(q _).mono ?_;rintro e w' ⟨rfl,rfl⟩)
 go_ret
 exact⟨rfl,rfl⟩
theorem OK (c d:List Int)(hc:c.length=5)(hd:d.length=5)(B C o:Nat)(w:World)(h1: ∀j x,c[j]?=some x→w.cell? ⟨B,1+j,none⟩=some (.int .i64 x))(h2: ∀j x,d[j]?=some x→w.cell? ⟨C,1+j,none⟩=some (.int .i64 x)):Calls prog 170 #[.slice (some ⟨B,1,none⟩) 5 5,.slice (some ⟨C,1,none⟩) 5 5] w λe w'=>e= .returned (.int .i64 (orL (List.zipWith sgn c d)))∧w'=w:=by
 obtain⟨c0,c1,c2,c3,c4,rfl⟩: ∃a b c' d e,c=[a,b,c',d,e]:=by
  match c,hc with
  |[a,b,c',d,e],_=>exact⟨a,b,c',d,e,rfl⟩
 obtain⟨d0,d1,d2,d3,d4,rfl⟩: ∃a b c' d' e,d=[a,b,c',d',e]:=by
  match d,hd with
  |[a,b,c',d',e],_=>exact⟨a,b,c',d',e,rfl⟩
 have a0:=h1 0 _ rfl
 have a1:=h1 1 _ rfl
 have a2:=h1 2 _ rfl
 have a3:=h1 3 _ rfl
 have a4:=h1 4 _ rfl
 have b0:=h2 0 _ rfl
 have b1:=h2 1 _ rfl
 have b2:=h2 2 _ rfl
 have b3:=h2 3 _ rfl
 have b4:=h2 4 _ rfl
 clear h1 h2 hc hd
 simp only[Nat.reduceAdd]at a0 a1 a2 a3 a4 b0 b1 b2 b3 b4
 have q:=λx y W=>M0 x y W
 simp only[List.zipWith_cons_cons,List.zipWith_nil_left]
 generalize hs0:sgn c0 d0=s0 at *
 generalize hs1:sgn c1 d1=s1 at *
 generalize hs2:sgn c2 d2=s2 at *
 generalize hs3:sgn c3 d3=s3 at *
 generalize hs4:sgn c4 d4=s4 at *
 have g0:s0≠0→orL [s0,s1,s2,s3,s4]=s0:=λh=>by simp[orL,h]
 have g1:s0=0→s1≠0→orL [s0,s1,s2,s3,s4]=s1:=λh h'=>by simp[orL,h,h']
 have g2:s0=0→s1=0→s2≠0→orL [s0,s1,s2,s3,s4]=s2:=λh h' h''=>by simp[orL,h,h',h'']
 have g3:s0=0→s1=0→s2=0→s3≠0→orL [s0,s1,s2,s3,s4]=s3:=λh h' h'' h3=>by simp[orL,h,h',h'',h3]
 have g4:s0=0→s1=0→s2=0→s3=0→orL [s0,s1,s2,s3,s4]=s4:=λh h' h'' h3=>by by_cases h4:s4=0<;>simp[orL,h,h',h'',h3,h4]
 generalize orL [s0,s1,s2,s3,s4]=r at *
 go_enter func170,ntmps170
 go_wp2
 refine wp_loop_rounds 6 ?_
 rw[rounds_succ]
 go_wp2_with (go_at_call 226;refine(q _ _ _).mono ?_;rintro e w' ⟨rfl,rfl⟩)
 all_goals (try (rw[rounds_succ];go_wp2_with (go_at_call 226;refine(q _ _ _).mono ?_;rintro e w' ⟨rfl,rfl⟩)))
 all_goals (try (rw[rounds_succ];go_wp2_with (go_at_call 226;refine(q _ _ _).mono ?_;rintro e w' ⟨rfl,rfl⟩)))
 all_goals (try (rw[rounds_succ];go_wp2_with (go_at_call 226;refine(q _ _ _).mono ?_;rintro e w' ⟨rfl,rfl⟩)))
 all_goals (try (rw[rounds_succ];go_wp2_with (go_at_call 226;refine(q _ _ _).mono ?_;rintro e w' ⟨rfl,rfl⟩)))
 all_goals (try (rw[rounds_succ];go_wp2_with (go_at_call 226;refine(q _ _ _).mono ?_;rintro e w' ⟨rfl,rfl⟩)))
 all_goals (try go_ret)
 all_goals refine⟨?_,rfl⟩
 all_goals simp_all
end Go.Proofs.Tryz
end
section
namespace Go.Proofs.Tryz
open Go Go.Av Go.Sort
set_option maxRecDepth 100000
set_option maxHeartbeats 4000000
theorem Hv (s t:Nat)(hs:s<4294967296)(ht:t<4294967296)(c0 c1 c2 c3 c4 d0 d1 d2 d3 d4:Int)(w:World):
  Calls prog 121 #[.agg #[.int .u32 s,.int .i64 c0,.int .i64 c1,.int .i64 c2,.int .i64 c3,.int .i64 c4],.agg #[.int .u32 t,.int .i64 d0,.int .i64 d1,.int .i64 d2,.int .i64 d3,.int .i64 d4]] w λe w'=>
   e= .returned (.int .i64 (orL [orL (List.zipWith sgn [c0,c1,c2,c3,c4] [d0,d1,d2,d3,d4]),sgn (fK t) (fK s)]))∧ ∃q os,w'=grow (w.drewN q) os:=by
 have k1: ∀(W:World) (u v:Value),(W.alloc (.cells #[u,v] 3)).cell? ⟨W.heap.size,0,none⟩=some u:=λW u v=>by unfold World.cell?;simp only[World.alloc_heap_new];rfl
 have k2: ∀(W:World) (u v:Value),(W.alloc (.cells #[u,v] 3)).cell? ⟨W.heap.size,1,none⟩=some v:=λW u v=>by unfold World.cell?;simp only[World.alloc_heap_new];rfl
 have r1:=zm s hs
 have r2:=zm t ht
 generalize fK s=rs at *
 generalize fK t=rt at *
 have q:=λx y W=>ME x y W
 generalize hz:sgn (rt:Int) rs=z at *
 obtain⟨W1,hW1⟩: ∃W1,W1=(w.alloc (.cells #[.int .u32 s,.int .i64 c0,.int .i64 c1,.int .i64 c2,.int .i64 c3,.int .i64 c4] 116)).alloc (.cells #[.int .u32 t,.int .i64 d0,.int .i64 d1,.int .i64 d2,.int .i64 d3,.int .i64 d4] 116):=⟨_,rfl⟩
 have hh0:W1.heap[w.heap.size]?=some (.cells #[.int .u32 s,.int .i64 c0,.int .i64 c1,.int .i64 c2,.int .i64 c3,.int .i64 c4] 116):=by
  rw[hW1]
  exact(RowKit.Below.heap_alloc _ _ _ (by simp)).trans (World.alloc_heap_new w _)
 have hh1:W1.heap[w.heap.size+1]?=some (.cells #[.int .u32 t,.int .i64 d0,.int .i64 d1,.int .i64 d2,.int .i64 d3,.int .i64 d4] 116):=by
  rw[hW1]
  have:=World.alloc_heap_new (w.alloc (.cells #[.int .u32 s,.int .i64 c0,.int .i64 c1,.int .i64 c2,.int .i64 c3,.int .i64 c4] 116)) (.cells #[.int .u32 t,.int .i64 d0,.int .i64 d1,.int .i64 d2,.int .i64 d3,.int .i64 d4] 116)
  rwa [World.size_alloc]at this
 have hcell: ∀(b j:Nat) (a:Array Value) (x:Value),W1.heap[b]?=some (.cells a 116)→a[j]?=some x→W1.drew.cell? ⟨b,j,none⟩=some x:=λb j a x h1 h2=>by
  show(match W1.heap[b]? with|some (.cells c _ _)=>_|_=>_)=_
  rw[h1]
  exact h2
 have g1:Calls prog 170 #[.slice (some ⟨w.heap.size,1,none⟩) 5 5,.slice (some ⟨w.heap.size+1,1,none⟩) 5 5] W1.drew λe w'=>e= .returned (.int .i64 (orL (List.zipWith sgn [c0,c1,c2,c3,c4] [d0,d1,d2,d3,d4])))∧w'=W1.drew:=OK [c0,c1,c2,c3,c4] [d0,d1,d2,d3,d4] rfl rfl _ _ 0 _ (λj x hj=>hcell _ _ _ _ hh0 (by
  match j,hj with
  |0,hj=>cases hj;rfl
  |1,hj=>cases hj;rfl
  |2,hj=>cases hj;rfl
  |3,hj=>cases hj;rfl
  |4,hj=>cases hj;rfl)) (λj x hj=>hcell _ _ _ _ hh1 (by
  match j,hj with
  |0,hj=>cases hj;rfl
  |1,hj=>cases hj;rfl
  |2,hj=>cases hj;rfl
  |3,hj=>cases hj;rfl
  |4,hj=>cases hj;rfl))
 have e1:W1.drew.cell? ⟨w.heap.size,0,none⟩=some (.int .u32 s):=hcell _ _ _ _ hh0 rfl
 have e2:W1.drew.cell? ⟨w.heap.size+1,0,none⟩=some (.int .u32 t):=hcell _ _ _ _ hh1 rfl
 have hfin: ∀o:Obj,∃q os,(W1.alloc o).drew=grow (w.drewN q) os:=λo=>⟨1,_,by rw[hW1,alloc_eq_grow,alloc_eq_grow,alloc_eq_grow,grow_grow,grow_grow];rfl⟩
 have kk1: ∀u v:Value,(W1.alloc (.cells #[u,v] 3)).drew.cell? ⟨W1.heap.size,0,none⟩=some u:=λu v=>k1 W1 u v
 have kk2: ∀u v:Value,(W1.alloc (.cells #[u,v] 3)).drew.cell? ⟨W1.heap.size,1,none⟩=some v:=λu v=>k2 W1 u v
 clear k1 k2
 clear hh0 hh1 hcell
 generalize orL (List.zipWith sgn [c0,c1,c2,c3,c4] [d0,d1,d2,d3,d4])=y at *
 go_enter func121,ntmps121
 go_wp2
 rw[←hW1]
 clear hW1
 go_region_with (first|(go_at_call 170;refine g1.mono ?_;rintro e w' ⟨rfl,rfl⟩)|(go_at_call 172;refine(r1 _).mono ?_;rintro e w' ⟨rfl,rfl⟩)|(go_at_call 172;refine(r2 _).mono ?_;rintro e w' ⟨rfl,rfl⟩)|(go_at_call 171;refine(q _ _ _).mono ?_;rintro e w' ⟨rfl,rfl⟩)|(go_at_call 94;refine(Vg _ _ _ _ (kk1 _ _) (kk2 _ _)).mono ?_;rintro e w' ⟨rfl,rfl⟩))
 all_goals (try go_wp2)
 all_goals (try go_ret)
 all_goals exact⟨rfl,hfin _⟩
end Go.Proofs.Tryz
end
