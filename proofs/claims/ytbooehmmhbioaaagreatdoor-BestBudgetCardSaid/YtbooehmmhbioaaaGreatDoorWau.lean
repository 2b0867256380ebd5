/- Texts that the last one of this claim rests on: a layer over the guide's own conditions for code; contracts of the functions that the law reaches, one by one. No conditions beside those of the given rows. -/
import Derived.WalkKit
import Derived.Sort.Grow
import Derived.Sort.Row
import Derived.Deep.RegionWith
import Derived.Test.YtbooehmmhbioaaaGreatDoorWad
import Derived.Test.YtbooehmmhbioaaaGreatDoorWah
import Derived.Test.YtbooehmmhbioaaaGreatDoorWap
import Derived.Test.YtbooehmmhbioaaaGreatDoorWas
import Derived.Test.YtbooehmmhbioaaaGreatDoorWat
set_option linter.unusedSimpArgs false
set_option linter.unusedVariables false
section
namespace Go.Av
section
variable {P :Program}
@[go_sem] theorem PJ (t t':TypeId)(v:AV):bU P .eql t (.loc t' v) .nil=if eT P t then .bool false else .undef:=by simp only[bU,cc,jq,AV.fW,Bool.and_true];split<;>rfl
@[go_sem] theorem Qw (t t':TypeId)(v:AV):bY P .eql t (.loc t' v) .nil=(eT P t=true):=by simp only[bY,cc,jq,AV.fW,Bool.and_true];split<;>simp_all
end
end Go.Av
namespace Go.Proofs.Tryz
open Go Go.Av
set_option maxRecDepth 10000
variable {W0 :World}
theorem nt (l:List Clause)(hl:l.length≤1048576)(hc: ∀c∈l,c.length≤1048576):ag prog W0 151 [aA l] (aA l):=by
 refine aj [2] [] func151 rfl rfl ntmps151 rfl rfl (dz _) λhs σ=>?_
 simp only[go_sem,simprocAttr,aA,List.length_map]
 refine af.at [6,7] (.of (by kernel_rfl)) (λA=>∃ v,A.env 3=v∧aR σ A.st v 72 (l.map aF)) ?_ λB ⟨v,h3,hb⟩=>?_
 ·refine af.upto [6,7] (.of (by kernel_rfl)) l.length (λi A=>∃ v,A.env 3=v∧A.env 8= .int .i64 i∧aR σ A.st v 72 ((l.take i).map aF)) 0 (Nat.zero_le _) ?_ λi B hi ⟨v,h3,h8,hb⟩=>?_
  ·simp only[go_sem,simprocAttr]
   exact⟨_,rfl,aR.nil (.refl _) _⟩
  simp only[go_sem,simprocAttr,h3,h8,hb.ok,hb.un,List.length_map]
  refine⟨λhlt=>⟨hlt,?_⟩,λhlt=>?_⟩
  ·obtain⟨c,ha⟩:=get_some hlt
   simp only[aw ha]
   simp only[go_sem,simprocAttr,aF,h3,h8,hb.ok,hb.un]
   refine al.fn (s9 c (hc c (List.mem_of_getElem? ha))) ?_
   simp only[go_sem,simprocAttr,h3,h8,hb.ok,hb.un,aF]
   refine bN.own 1048576 (by kernel_rfl) hb.bld (.lit _ _ _) (by simp;omega) λv' σ' ha'=>?_
   have hb':=hb.app ha'
   simp only[go_sem,simprocAttr,h3,h8,hb.ok,hb.un,hb'.ok,hb'.un]
   refine⟨hlt,_,rfl,ah hlt (by rw[ar];omega),?_⟩
   rw[ai ha,List.map_append]
   exact hb'
  ·rw[List.take_of_length_le hlt]at hb
   exact⟨_,rfl,hb⟩
 simp only[go_sem,simprocAttr,h3,hb.ok,hb.un]
 exact⟨hb.cG,hb.ext⟩
theorem jt {l:List Clause}(h:l.length≤12∧ ∀c∈l,j2 c=true):l.length≤1048576∧ ∀c∈l,c.length≤1048576:=
 ⟨by omega,λc hc=>by have:=(rW (h.2 c hc)).2.1;omega⟩
theorem Gi (p:Pkg)(hp:aW p=0):ag prog W0 91 [av p] (av p):=by
 have hg:=fE hp
 refine pD [.cell 2 54] [] func91 rfl rfl ntmps91 rfl rfl (rY _) λhs σ=>?_
 simp only[go_sem,simprocAttr,av]
 have g1:=jt hg.pre
 have g2:=jt hg.dep
 have g3:=jt hg.rcm
 refine⟨.of (by kernel_rfl),az.fn (nt p.pre g1.1 g1.2) ?_⟩
 simp only[go_sem,simprocAttr]
 refine az.fn (nt p.dep g2.1 g2.2) ?_
 simp only[go_sem,simprocAttr]
 refine az.fn (nt p.rcm g3.1 g3.2) ?_
 simp only[go_sem,simprocAttr]
 refine⟨.of (by kernel_rfl),az.fn (mR p.con (by have:=hg.con.1;omega)) ?_⟩
 simp only[go_sem,simprocAttr]
 refine az.fn (mR p.brk (by have:=hg.brk.1;omega)) ?_
 simp only[go_sem,simprocAttr]
 refine az.fn (uP p.dY (by have:=hg.dY.1;omega)) ?_
 simp only[go_sem,simprocAttr]
def eS (l:List Pkg):AV:=.loc 149 (.agg 149 [aU l])
@[go_sem] theorem Xa (gd:Option Bool)(l:List Pkg):okM gd (eS l)=True:=bT trivial
@[go_sem] theorem Xu (l:List Pkg):unm (eS l)=eS l:=rfl
@[go_sem] theorem VI (p:Pkg):unm (av p)=av p:=rfl
theorem tT (l:List Pkg):ag prog W0 43 [eS l] (.int .i64 l.length):=by
 refine aj [2] [] func43 rfl rfl ntmps43 rfl rfl (.int _ _) λhs σ=>?_
 simp only[go_sem,simprocAttr,eS,aU,List.length_map]
 try exact .refl _
theorem Ma (l:List Pkg)(i:Nat){p:Pkg}(hi:l[i]?=some p)(hp:aW p=0):ag prog W0 44 [eS l,.int .i64 i] (.tup [av p,.bool true]):=by
 have hlt:=(List.getElem?_eq_some_iff.1 hi).1
 refine pD [.cell 4 54,.tmp 5] [] func44 rfl rfl ntmps44 rfl rfl (.xr (rY _) (.bool _)) λhs σ=>?_
 simp only[go_sem,simprocAttr,eS,aU,List.length_map]
 refine az.fnG (λ_=>tT l) ?_
 simp only[go_sem,simprocAttr,eS,aU,List.length_map]
 refine⟨λh=>absurd h (by simp;omega),λ_=>⟨hlt,?_⟩⟩
 simp only[aw hi]
 simp only[go_sem,simprocAttr,av]
 refine al.fn (Gi p hp) ?_
 simp only[go_sem,simprocAttr,av]
def plB (l:List Pkg)(b:Pkg→Bool)(i:Nat):List Nat:=(List.range i).filter λi=>match l[i]? with
 |some p=>b p
 |none=>false
theorem tu {l:List Pkg}{b:Pkg→Bool}{i:Nat}{p:Pkg}(h:l[i]?=some p):plB l b (i+1)=plB l b i++if b p then [i]else []:=by
 unfold plB
 rw[List.range_succ,List.filter_append]
 congr 1
 cases hb:b p<;>simp[h,hb]
theorem Jp (l:List Pkg)(b:Pkg→Bool)(i:Nat):(plB l b i).length≤i:=by
 have:=List.length_filter_le (λi=>match l[i]? with|some p=>b p|none=>false) (List.range i)
 rwa [List.length_range]at this
def bg (l:List Pkg)(b:Pkg→Bool):List Nat:=plB l b l.length
theorem pY (l:List Pkg)(hl:l.length≤1048576)(b:Pkg→Bool)(g:FuncId)(caps:List AV)(hg: ∀p∈l,ag prog W0 g ([av p]++caps) (.bool (b p))):ag prog W0 105 [eS l,.fn g caps] (.sl 3 ((bg l b).map λi=>.int .i64 (i:Nat))):=by
 refine aj [4] [] func105 rfl rfl ntmps105 rfl rfl (.sl λx hx=>by obtain⟨i,_,rfl⟩:=List.mem_map.1 hx;exact .int _ _) λhs σ=>?_
 simp only[go_sem,simprocAttr]
 refine al.fn (tT l) ?_
 simp only[go_sem,simprocAttr]
 refine af.at [] (.of (by kernel_rfl)) (λA=>∃ v,A.env 5=v∧aR σ A.st v 3 ((bg l b).map λi=>.int .i64 (i:Nat))) ?_ λB ⟨v,h5,hb⟩=>?_
 ·refine af.upto [0,1,8] (.of (by kernel_rfl)) l.length (λi A=>∃ v,A.env 5=v∧A.env 9= .int .i64 i∧aR σ A.st v 3 ((plB l b i).map λi=>.int .i64 (i:Nat))) 0 (Nat.zero_le _) ?_ λi B hi ⟨v,h5,h9,hb⟩=>?_
  ·simp only[go_sem,simprocAttr]
   exact⟨_,rfl,aR.nil (.refl _) _⟩
  simp only[go_sem,simprocAttr,h5,h9,hb.ok,hb.un]
  refine⟨λhlt=>?_,λhlt=>?_⟩
  ·obtain⟨p,ha⟩:=get_some hlt
   simp only[go_sem,simprocAttr,eS,aU,List.length_map,h5,h9,hb.ok,hb.un]
   simp only[aw ha]
   simp only[go_sem,simprocAttr]
   refine⟨hlt,al.pure (hg p (List.mem_of_getElem? ha)) ?_⟩
   have hpl:=Jp l b i
   simp only[go_sem,simprocAttr,h5,h9,hb.ok,hb.un]
   refine⟨λhp=>?_,λhp=>?_⟩
   ·refine bN.own 1048576 (by kernel_rfl) hb.bld (.lit _ _ _) (by simp;omega) λv' σ' ha'=>?_
    have hb':=hb.app ha'
    simp only[go_sem,simprocAttr,h5,h9,hb'.ok,hb'.un]
    refine⟨hlt,_,rfl,ah hlt (by rw[ar];omega),?_⟩
    rw[tu ha,hp,if_pos rfl,List.map_append]
    exact hb'
   ·refine⟨hlt,_,rfl,ah hlt (by rw[ar];omega),?_⟩
    rw[tu ha,hp]
    simpa using hb
  ·have e:i=l.length:=by omega
   subst e
   exact⟨_,rfl,hb⟩
 simp only[go_sem,simprocAttr,h5,hb.ok,hb.un]
 exact⟨hb.cG,hb.ext⟩
theorem Gf (l:List Nat):aS 0 (lx l):=.sl λx hx=>by obtain⟨i,_,rfl⟩:=List.mem_map.1 hx;exact .int _ _
theorem HC (l:List Pkg)(hl:l.length≤1048576)(n:List UInt8):ag prog W0 47 [eS l,.str n] (lx (bg l λp=>p.name==n)):=by
 refine aj [4] [3] func47 rfl rfl ntmps47 rfl rfl (Gf _) λhs σ=>?_
 simp only[go_sem,simprocAttr]
 refine al.fn (pY l hl (λp=>p.name==n) 106 [.loc 9 (.str n)] λp _=>?_) ?_
 ·refine aj [3] [2] func106 rfl rfl ntmps106 rfl rfl (.bool _) λhs σ=>?_
  simp only[go_sem,simprocAttr,av]
  try exact .refl _
 simp only[go_sem,simprocAttr,lx]
 try exact .refl _
theorem Ai (l:List Pkg)(hl:l.length≤1048576)(a:Atom):ag prog W0 73 [eS l,aQ a] (lx (bg l λp=>eu p a)):=by
 refine aj [4] [3] func73 rfl rfl ntmps73 rfl rfl (Gf _) λhs σ=>?_
 simp only[go_sem,simprocAttr,aQ]
 refine al.fn (pY l hl (λp=>eu p a) 132 [.loc 81 (aQ a)] λp _=>?_) ?_
 ·refine aj [3] [2] func132 rfl rfl ntmps132 rfl rfl (.bool _) λhs σ=>?_
  simp only[go_sem,simprocAttr]
  refine al.fn (FN p a) ?_
  simp only[go_sem,simprocAttr]
  try exact .refl _
 simp only[go_sem,simprocAttr,lx]
 try exact .refl _
theorem KH (l:List Pkg)(hl:l.length≤1048576)(n v:List UInt8):ag prog W0 130 [eS l,.str n,.str v] (.tup [.int .i64 (((bg l λp=>p.name==n&&bm p.ver v).head?.getD 0:Nat):Int),.bool (bg l λp=>p.name==n&&bm p.ver v).head?.isSome]):=by
 refine aj [6,7] [4,5] func130 rfl rfl ntmps130 rfl rfl (.xr (.int _ _) (.bool _)) λhs σ=>?_
 simp only[go_sem,simprocAttr]
 refine al.fn (pY l hl (λp=>p.name==n&&bm p.ver v) 179 [.loc 9 (.str n),.loc 9 (.str v)] λp _=>?_) ?_
 ·refine aj [4] [3] func179 rfl rfl ntmps179 rfl rfl (.bool _) λhs σ=>?_
  simp only[go_sem,simprocAttr,av]
  refine az.fnG (λ_=>oY p.ver v) ?_
  simp only[go_sem,simprocAttr]
  try exact .refl _
 generalize bg l _=ps
 cases ps with
 |nil=>simp only[go_sem,simprocAttr];try exact .refl _
 |cons i r=>simp only[go_sem,simprocAttr];rw[show atV (AV.int IntKind.i64 i::List.map (λi:Nat=>AV.int IntKind.i64 (i:Int)) r) 0= .int .i64 i from rfl];exact .refl _
def qt (l:List Pkg)(i:Nat):Option (List UInt8):=match l[i]? with
 |some p=>if i=0∨(l[i-1]?.map Pkg.name)≠some p.name then some p.name else none
 |none=>none
def nmB (l:List Pkg)(i:Nat):List (List UInt8):=(List.range i).filterMap (qt l)
theorem s6 (l:List Pkg)(i:Nat):nmB l (i+1)=nmB l i++(qt l i).toList:=by
 unfold nmB
 rw[List.range_succ,List.filterMap_append]
 cases h:qt l i<;>simp[h]
theorem xe (l:List Pkg)(i:Nat):(nmB l i).length≤i:=by
 have:=List.length_filterMap_le (qt l) (List.range i)
 rwa [List.length_range]at this
theorem sa (u v:AV):lF true u v=u:=by
 unfold lF lW
 split<;>simp[rh]
theorem v7 (l:List (List UInt8)):aS 0 (.sl 9 (l.map .str)):=.sl λx hx=>by obtain⟨i,_,rfl⟩:=List.mem_map.1 hx;exact .str _
theorem G4 (l:List Pkg)(hl:l.length≤1048576):ag prog W0 46 [eS l] (.sl 9 ((nmB l l.length).map .str)):=by
 refine aj [2] [] func46 rfl rfl ntmps46 rfl rfl (v7 _) λhs σ=>?_
 simp only[go_sem,simprocAttr]
 refine al.fn (tT l) ?_
 simp only[go_sem,simprocAttr]
 refine af.at [] (.of (by kernel_rfl)) (λA=>∃ v,A.env 3=v∧aR σ A.st v 9 ((nmB l l.length).map .str)) ?_ λB ⟨v,h3,hb⟩=>?_
 ·refine af.upto [0,6] (.of (by kernel_rfl)) l.length (λi A=>∃ v,A.env 3=v∧A.env 7= .int .i64 i∧aR σ A.st v 9 ((nmB l i).map .str)) 0 (Nat.zero_le _) ?_ λi B hi ⟨v,h3,h7,hb⟩=>?_
  ·simp only[go_sem,simprocAttr]
   exact⟨_,rfl,aR.nil (.refl _) _⟩
  simp only[go_sem,simprocAttr,h3,h7,hb.ok,hb.un]
  refine⟨λhlt=>?_,λhlt=>?_⟩
  ·obtain⟨p,ha⟩:=get_some hlt
   have hnl:=xe l i
   rcases Nat.eq_zero_or_pos i with h0|h0
   ·subst h0
    have e0:atV (List.map av l) 0=av p:=aw (i:=0) ha
    have hn0:qt l 0=some p.name:=by simp[qt,ha]
    simp only[go_sem,simprocAttr,eS,aU,List.length_map,h3,h7,hb.ok,hb.un,e0,av,sa]
    refine⟨.of (by kernel_rfl),hlt,?_⟩
    refine bN.own 1048576 (by kernel_rfl) hb.bld (.lit _ _ _) (by simp;omega) λv' σ' ha'=>?_
    have hb':=hb.app ha'
    simp only[go_sem,simprocAttr,h3,h7,hb'.ok,hb'.un]
    refine⟨hlt,_,rfl,?_⟩
    rw[show 1=0+1 from rfl,s6,hn0,List.map_append]
    exact hb'
   ·obtain⟨q,hq⟩:=get_some (show i-1<l.length by omega)
    have w1:IntKind.i64.wrap ((i:Int)-1)=((i-1:Nat):Int):=by rw[aE (by omega)];omega
    have z1:((i:Int)==0)=false:=by simp;omega
    have z2: ¬((i:Int)=0):=by omega
    have e0:atV (List.map av l) i=av p:=aw ha
    have e1:atV (List.map av l) ((i-1:Nat):Int)=av q:=aw hq
    have hn0:qt l i=if q.name≠p.name then some p.name else none:=by
     simp[qt,ha,hq,show i≠0 by omega]
    simp only[go_sem,simprocAttr,eS,aU,List.length_map,h3,h7,hb.ok,hb.un,w1,z1,z2,e0,e1,av]
    refine⟨.of (by kernel_rfl),by omega,hlt,λhne=>⟨hlt,?_⟩,λhe=>⟨hlt,_,rfl,ah hlt (by rw[ar];omega),?_⟩⟩
    ·refine bN.own 1048576 (by kernel_rfl) hb.bld (.lit _ _ _) (by simp;omega) λv' σ' ha'=>?_
     have hb':=hb.app ha'
     simp only[go_sem,simprocAttr,h3,h7,hb'.ok,hb'.un]
     refine⟨hlt,_,rfl,ah hlt (by rw[ar];omega),?_⟩
     rw[s6,hn0,if_pos hne,List.map_append]
     exact hb'
    ·rw[s6,hn0,if_neg (λh=>h he)]
     simpa using hb
  ·have e:i=l.length:=by omega
   subst e
   exact⟨_,rfl,hb⟩
 simp only[go_sem,simprocAttr,h3,hb.ok,hb.un]
 exact⟨hb.cG,hb.ext⟩
end Go.Proofs.Tryz
end
section
namespace Go.Proofs.Tryz
open Go Go.Av
set_option maxRecDepth 10000
variable {W0 :World}
theorem ui {f:Pkg→Pkg→Int}(hw:kb (ltF f))(σ:ab)(id n:Nat)(xs:List Pkg)(hn:n=xs.length)(hx:n<40)(hid:σ[id]?=some (cb xs))(g:FuncId)(caps:List AV)(hcmp:rI W0 f xs g caps):
  aZ prog W0 92 [.row 54 id 0 n,.fn g caps] σ λr σ'=>∃ C,C.Perm xs∧cy (ltF f) C∧σ'=σ.set id (cb C):=by
 refine cO [] [] func92 rfl rfl ntmps92 rfl rfl λhs=>?_
 simp only[go_sem,simprocAttr]
 refine al.goes (by simp only[go_sem,simprocAttr]) (D5 hw σ id n xs hn hx hid g caps hcmp) λr σ1 ⟨C,p,r,hσ⟩=>?_
 simp only[go_sem,simprocAttr]
 refine bR.normal ?_
 simp only[go_sem,simprocAttr]
 exact⟨_,.refl _,by rw[hσ];simp,C,p,r,hσ⟩
theorem oc (a b:List UInt8):ag prog W0 96 [.str a,.str b] (.int .i64 (bA a b)):=by
 refine aj [4] [] func96 rfl rfl ntmps96 rfl rfl (.int _ _) λhs σ=>?_
 simp only[go_sem,simprocAttr]
 refine al.fn (nY a b) ?_
 simp only[go_sem,simprocAttr,oV]
 try exact .refl _
theorem MZ (p q:Pkg):ag prog W0 93 [av p,av q] (.int .i64 (fX p q)):=by
 refine aj [4] [2,3] func93 rfl rfl ntmps93 rfl rfl (.int _ _) λhs σ=>?_
 simp only[go_sem,simprocAttr,av]
 refine⟨.of (by kernel_rfl),az.fn (wM p.name q.name) ?_⟩
 simp only[go_sem,simprocAttr]
 refine az.fn (oc q.ver p.ver) ?_
 simp only[go_sem,simprocAttr]
 refine az.fn ((Fe [ft p.name q.name,bA q.ver p.ver]).cG (.cons (.lit _ _) .nil)) ?_
 simp only[go_sem,simprocAttr]
 have e:orL [ft p.name q.name,bA q.ver p.ver]=fX p q:=by
  unfold fX orL orL orL
  split<;>simp_all
 rw[e]
 exact .refl _
theorem JR {l:List Pkg}(hv:uk l):rI W0 uE l 93 []:=λa ha b hb=>by
 rw[CE (hv a ha) (hv b hb)]
 simpa using MZ a b
theorem Ar {g:FuncId}{caps:List AV}:ag prog W0 92 [.ay,.fn g caps] (.tup []):=by
 have h1:ag prog W0 206 [.ay,.int .i64 0,.int .i64 0,.fn g caps] (.tup []):=by
  refine aj [] [] func206 rfl rfl ntmps206 rfl rfl (.tup λx hx=>by cases hx) λhs σ=>?_
  simp only[go_sem,simprocAttr]
  refine af.cu [0,1,2,3] (.of (by kernel_rfl)) (λk E=>E.env 8= .int .i64 1∧E.st=σ) 0 ?_ λk E ⟨h8,hst⟩=>?_
  ·simp only[go_sem,simprocAttr]
  simp only[go_sem,simprocAttr,h8,hst]
  try exact .refl _
 have h2:ag prog W0 155 [.ay,.int .i64 0,.fn g caps] (.tup []):=by
  refine aj [] [] func155 rfl rfl ntmps155 rfl rfl (.tup λx hx=>by cases hx) λhs σ=>?_
  simp only[go_sem,simprocAttr]
  refine af.at [0,1,2,6] (.of (by kernel_rfl)) (λE=>E.env 7= .int .i64 0∧E.st=σ) ?_ λE ⟨h7,hst⟩=>?_
  ·refine af.cu [0,1,2,6] (.of (by kernel_rfl)) (λk E=>E.env 7= .int .i64 0∧E.env 8= .int .i64 20∧E.st=σ) 0 ?_ λk E ⟨h7,h8,hst⟩=>?_
   ·simp only[go_sem,simprocAttr]
   simp only[go_sem,simprocAttr,h7,h8,hst]
  simp only[go_sem,simprocAttr,h7,hst]
  refine al.fn h1 ?_
  simp only[go_sem,simprocAttr,h7,hst]
  refine af.cu [0,1,2] (.of (by kernel_rfl)) (λk E=>E.env 6= .int .i64 20∧E.st=σ) 0 ?_ λk E ⟨h6,hst⟩=>?_
  ·simp only[go_sem,simprocAttr,hst]
  simp only[go_sem,simprocAttr,h6,hst]
  try exact .refl _
 refine aj [] [] func92 rfl rfl ntmps92 rfl rfl (.tup λx hx=>by cases hx) λhs σ=>?_
 simp only[go_sem,simprocAttr]
 refine al.fn h2 ?_
 simp only[go_sem,simprocAttr]
 try exact .refl _
def wR (v:AV):Option cV:=some (.cells 149 [.agg 149 [v]])
structure Lq (σ st:ab)(ix:Nat)(v:AV)(xs:List Pkg):Prop where
 ext:Ext σ st
 low:σ.length≤ix
 at_:st[ix]?=some (wR v)
 row:(v= .ay∧xs=[])∨ ∃rid,v= .row 54 rid 0 xs.length∧st[rid]?=some (cb xs)∧σ.length≤rid
theorem K5 (l:List Pkg):aS 0 (eS l):=.loc (.agg λx hx=>by
 rw[List.mem_singleton]at hx
 subst hx
 exact kh l)
theorem KY (l:List Pkg)(hp: ∀p∈l,lu p)(h0:bk l=0):ag prog W0 39 [aU l] (.tup [eS (cI l),.int .i64 0]):=by
 have hm: ∀p∈l,aW p=0:=λp hp=>dC h0 hp
 have h24:=dF h0
 have hv:=(fB h0).2
 refine sW [.tmp 2,.tmp 3] [7,2000029,4000008] func39 rfl rfl ntmps39 rfl rfl (.xr (K5 _) (.int _ _)) λhs σ=>?_
 simp only[go_sem,simprocAttr]
 refine al.fn (vD l hp) ?_
 simp only[go_sem,simprocAttr,h0,aU,List.length_map]
 refine af.at [5] (.of (by kernel_rfl)) (λA=>∃ v,Lq σ A.st σ.length v l) ?_ λB ⟨v,hI⟩=>?_
 ·refine af.upto [5,15,16] (.of (by kernel_rfl)) l.length (λi A=>A.env 17= .int .i64 i∧ ∃v,Lq σ A.st σ.length v (l.take i)) 0 (Nat.zero_le _) ?_ λi B hi ⟨h17,v,hI⟩=>?_
  ·simp only[go_sem,simprocAttr]
   exact⟨.ay,(Ext.refl _).app _,Nat.le_refl _,by simp[wR],.inl ⟨rfl,rfl⟩⟩
  simp only[go_sem,simprocAttr,h17,List.length_map]
  refine⟨λhlt=>?_,λhge=>?_⟩
  ·obtain⟨p,ha⟩:=get_some hlt
   simp only[aw ha]
   have hat:=hI.at_
   have hvn:cQ v:=by rcases hI.row with⟨rfl,_⟩|⟨_,rfl,_⟩<;>trivial
   have c1:(B.st++[none])[σ.length]?=some (wR v):=(List.getElem?_append_left (List.getElem?_eq_some_iff.1 hat).1).trans hat
   have hil:(l.take i).length=i:=by rw[List.length_take];omega
   unfold wR at c1
   simp only[go_sem,simprocAttr,h17,au c1,ax c1]
   refine⟨hlt,.of (by kernel_rfl),az.fn (Gi p (hm p (List.mem_of_getElem? ha))) ?_⟩
   have hR:dh (B.st++[none]) v 54 ((l.take i).map av):=by
    rcases hI.row with⟨h1,h2⟩|⟨rid,h1,h2,h3⟩
    ·exact .inl ⟨h1,by rw[h2];rfl⟩
    ·refine .inr (.inr ⟨rid,0,_,_,h1,(List.getElem?_append_left (List.getElem?_eq_some_iff.1 h2).1).trans h2,by simp,?_⟩)
     rw[List.drop_zero]
     exact(List.take_of_length_le (l:=List.map av (l.take i)) (by simp)).symm
   have hkl:(bQ v (B.st++[none])).length=(B.st++[none]).length:=by unfold bQ;split<;>simp
   have hk1:(bQ v (B.st++[none]))[σ.length]?=some (wR v):=by
    rcases hI.row with⟨rfl,h2⟩|⟨rid,rfl,h2,h3⟩
    ·exact c1
    ·have hne:rid≠σ.length:=λe=>by rw[e,hat]at h2;simp[wR,cb]at h2
     exact(List.getElem?_set_ne hne).trans c1
   have hfp:bn prog 54 (av p)=true:=by kernel_rfl
   simp only[go_sem,simprocAttr,h17,bT hvn,cw hvn,hfp]
   refine bN.row 1048576 (by kernel_rfl) hR (.lit _ _ _) (by simp;omega) (λh=>by cases h) λ_=>?_
   have c2:(bQ v (B.st++[none])++[some (.cells 54 ((l.take i).map av++[av p]))])[σ.length]?=some (wR v):=(List.getElem?_append_left (List.getElem?_eq_some_iff.1 hk1).1).trans hk1
   unfold wR at c2
   simp only[go_sem,simprocAttr,h17,au c2,ax c2,aP c2]
   refine⟨hlt,ah hlt (by rw[ar];omega),_,?_,Nat.le_refl _,List.getElem?_set_self (List.getElem?_eq_some_iff.1 c2).1,.inr ⟨B.st.length+1,?_,?_,?_⟩⟩
   ·refine Ext.set (Ext.app ?_ _) (Nat.le_refl _) _
    unfold bQ
    split
    ·rcases hI.row with⟨h1,h2⟩|⟨rid,h1,h2,h3⟩
     ·cases h1
     ·cases h1;exact(hI.ext.app _).set h3 _
    ·exact hI.ext.app _
   ·rw[List.length_map,hil,List.length_take]
    congr 1
    omega
   ·have hne:σ.length≠B.st.length+1:=by have:=hI.ext.le;omega
    rw[List.getElem?_set_ne hne,List.getElem?_append_right (by rw[hkl];simp),hkl,cb,ai ha,List.map_append]
    simp
   ·have:=hI.ext.le;omega
  ·rw[List.take_of_length_le hge]at hI
   exact⟨v,hI⟩
 have hat:=hI.at_
 unfold wR at hat
 rcases hI.row with⟨rfl,rfl⟩|⟨rid,rfl,hr1,hr2⟩
 ·simp only[go_sem,simprocAttr,au hat,ax hat]
  refine al.fn Ar ?_
  simp only[go_sem,simprocAttr,au hat,ax hat]
  refine cH.via (.inl rfl) (.cG σ.length 0 (z':=.agg 149 [.sl 54 []]) hat rfl (.agg rfl λi a b ha hb=>by
   match i,ha,hb with
   |0,ha,hb=>cases ha;cases hb;exact .ay _) (.pt 2 rfl (List.getElem?_set_self (List.getElem?_eq_some_iff.1 hat).1) (.refl _))) ?_
  refine⟨⟨trivial,trivial,trivial⟩,?_,?_⟩
  ·exact .refl _
  ·exact(hI.ext.set (Nat.le_refl _) _).set (Nat.le_refl _) _
 ·simp only[go_sem,simprocAttr,au hat,ax hat]
  refine al.goes (by simp only[go_sem,simprocAttr]) (ui EL _ rid l.length l rfl (by omega) hr1 _ _ (JR hv)) λr σ1 ⟨C,p,r,hσ⟩=>?_
  have hC:C=cI l:=KX (fB h0).1 hv (DQ (λx hx=>hv x (p.subset hx)) r) (ke hv) p (eD l)
  have hne:rid≠σ.length:=λe=>by rw[e,hat]at hr1;simp[cb]at hr1
  have hrl:=(List.getElem?_eq_some_iff.1 hr1).1
  have hat2:σ1[σ.length]?=some (some (.cells 149 [.agg 149 [.row 54 rid 0 l.length]])):=by rw[hσ,List.getElem?_set_ne hne];exact hat
  have hr3:σ1[rid]?=some (some (.cells 54 (C.map av))):=by rw[hσ];exact List.getElem?_set_self hrl
  simp only[go_sem,simprocAttr,au hat,ax hat]
  have hlen:C.length=l.length:=p.length_eq
  refine cH.via (.inl rfl) (.cell (t:=22) (o:=0) σ.length 0 [0] hat2 rfl rfl hr3 (by simp;omega) hne (by kernel_rfl) (.pt 2 rfl (List.getElem?_set_self (by rw[List.length_set];exact(List.getElem?_eq_some_iff.1 hat2).1)) (.refl _))) ?_
  refine⟨⟨trivial,trivial,trivial⟩,?_,?_⟩
  ·have e:List.take l.length (List.drop 0 (List.map av C))=List.map av (cI l):=by
    rw[List.drop_zero,List.take_of_length_le (by simp;omega),hC]
   show cT (.tup [.loc 149 (.agg 149 [.sl 54 (List.take l.length (List.drop 0 (List.map av C)))]),.int .i64 0]) _
   rw[e]
   exact .refl _
  ·have hx:Ext σ σ1:=by rw[hσ];exact hI.ext.set hr2 _
   exact((hx.set hr2 _).set (Nat.le_refl _) _).set (Nat.le_refl _) _
theorem BW (l:List Pkg)(hp: ∀p∈l,lu p):ag prog W0 39 [aU l] (if bk l=0 then .tup [eS (cI l),.int .i64 0]else .tup [.nil,.int .i64 (bk l)]):=by
 split
 ·rename_i h0
  exact KY l hp h0
 ·rename_i h0
  refine sW [.tmp 2,.tmp 3] [7,2000029,4000008] func39 rfl rfl ntmps39 rfl rfl (.xr .nil (.int _ _)) λhs σ=>?_
  simp only[go_sem,simprocAttr]
  refine al.fn (vD l hp) ?_
  simp only[go_sem,simprocAttr,h0]
  refine cH.ret ?_
  simp only[go_sem,simprocAttr]
end Go.Proofs.Tryz
end
section
namespace Go.Proofs.Tryz
open Go Go.Av
set_option maxRecDepth 10000
variable {W0 :World}
def bP (a:aH):AV:=.agg 83 [.int .i64 a.kind,.str a.name,.str a.ver]
def br (l:List aH):AV:=.sl 83 (l.map bP)
@[go_sem] theorem Uk (gd:Option Bool)(l:List aH):okM gd (br l)=True:=eq_true trivial
@[go_sem] theorem SB (l:List aH):unm (br l)=br l:=rfl
@[go_sem] theorem Tn (gd:Option Bool)(l:List aC):okM gd (aY l)=True:=eq_true trivial
@[go_sem] theorem Va (l:List aC):unm (aY l)=aY l:=rfl
@[go_sem] theorem Th (l:List Pkg):unm (aU l)=aU l:=rfl
theorem cQ.ask (a:aH):cQ (bP a):=trivial
@[go_sem] theorem Wb (gd:Option Bool)(a:aH):okM gd (bP a)=True:=eq_true trivial
@[go_sem] theorem VQ (a:aH):unm (bP a)=bP a:=rfl
@[go_sem] theorem Wt (gd:Option Bool)(a:aC):okM gd (bC a)=True:=eq_true trivial
@[go_sem] theorem V4 (a:aC):unm (bC a)=bC a:=rfl
theorem Ce (a:aH):aS 0 (bP a):=.agg λx hx=>by
 simp only[List.mem_cons,List.not_mem_nil,or_false]at hx
 rcases hx with rfl|rfl|rfl
 ·exact .int _ _
 ·exact .str _
 ·exact .str _
theorem SM {α:Type}(enc:α→AV)(hp: ∀a,cQ (enc a))(l:List α)(q:α→Bool)(g:FuncId)(caps:List AV)(h: ∀a∈l,ag prog W0 g ([enc a]++caps) (.bool (q a))):
  ag prog W0 215 [.sl 100 (l.map enc),.fn g caps] (.int .i64 (gy q l)):=by
 refine aj [4] [] func215 rfl rfl ntmps215 rfl rfl (.int _ _) λhs σ=>?_
 have hl:=(aO (hs _ (List.mem_cons_self ..))).1
 simp only[go_sem,simprocAttr]
 refine af.upto [0,1,7] (.of (by kernel_rfl)) l.length (λi A=>A.env 8= .int .i64 i∧A.st=σ∧ ∀a∈l.take i,q a=false) 0 (Nat.zero_le _) ?_ λi B hi ⟨h8,hst,hI⟩=>?_
 ·simp only[go_sem,simprocAttr]
  all_goals simp
 simp only[go_sem,simprocAttr,h8,hst,List.length_map]
 refine⟨λhc=>⟨hc,?_⟩,λhc=>aq ?_⟩
 ·obtain⟨a,ha⟩:=get_some hc
  simp only[aw ha,bT (hp a),cw (hp a),true_and]
  refine al.pure (h a (List.mem_of_getElem? ha)) ?_
  simp only[go_sem,simprocAttr,h8,hst]
  refine⟨λhq=>aq (fj ha hq hI).symm,λhq=>⟨hc,ah hc hl,?_⟩⟩
  rw[ai ha]
  intro b hb
  rcases List.mem_append.1 hb with hb|hb
  ·exact hI b hb
  ·rw[List.mem_singleton.1 hb];exact hq
 ·rw[di]
  rwa [List.take_of_length_le hc]at hI
theorem Vc {α:Type}(enc:α→AV)(hp: ∀a,cQ (enc a))(l:List α)(q:α→Bool)(g:FuncId)(caps:List AV)(h: ∀a∈l,ag prog W0 g ([enc a]++caps) (.bool (q a))):
  ag prog W0 161 [.sl 83 (l.map enc),.fn g caps] (.int .i64 (gy q l)):=by
 refine aj [4] [] func161 rfl rfl ntmps161 rfl rfl (.int _ _) λhs σ=>?_
 have hl:=(aO (hs _ (List.mem_cons_self ..))).1
 simp only[go_sem,simprocAttr]
 refine af.upto [0,1,7] (.of (by kernel_rfl)) l.length (λi A=>A.env 8= .int .i64 i∧A.st=σ∧ ∀a∈l.take i,q a=false) 0 (Nat.zero_le _) ?_ λi B hi ⟨h8,hst,hI⟩=>?_
 ·simp only[go_sem,simprocAttr]
  all_goals simp
 simp only[go_sem,simprocAttr,h8,hst,List.length_map]
 refine⟨λhc=>⟨hc,?_⟩,λhc=>aq ?_⟩
 ·obtain⟨a,ha⟩:=get_some hc
  simp only[aw ha,bT (hp a),cw (hp a),true_and]
  refine al.pure (h a (List.mem_of_getElem? ha)) ?_
  simp only[go_sem,simprocAttr,h8,hst]
  refine⟨λhq=>aq (fj ha hq hI).symm,λhq=>⟨hc,ah hc hl,?_⟩⟩
  rw[ai ha]
  intro b hb
  rcases List.mem_append.1 hb with hb|hb
  ·exact hI b hb
  ·rw[List.mem_singleton.1 hb];exact hq
 ·rw[di]
  rwa [List.take_of_length_le hc]at hI
theorem UU {α:Type}(enc:α→AV)(hp: ∀a,cQ (enc a))(l:List α)(q:α→Bool)(g:FuncId)(caps:List AV)(h: ∀a∈l,ag prog W0 g ([enc a]++caps) (.bool (q a))):
  ag prog W0 166 [.sl 100 (l.map enc),.fn g caps] (.bool (l.any q)):=by
 refine aj [4] [] func166 rfl rfl ntmps166 rfl rfl (.bool _) λhs σ=>?_
 simp only[go_sem,simprocAttr]
 refine al.fn (SM enc hp l q g caps h) ?_
 simp only[go_sem,simprocAttr]
 exact ak iR
theorem Lo {α:Type}(enc:α→AV)(hp: ∀a,cQ (enc a))(l:List α)(q:α→Bool)(g:FuncId)(caps:List AV)(h: ∀a∈l,ag prog W0 g ([enc a]++caps) (.bool (q a))):
  ag prog W0 109 [.sl 83 (l.map enc),.fn g caps] (.bool (l.any q)):=by
 refine aj [4] [] func109 rfl rfl ntmps109 rfl rfl (.bool _) λhs σ=>?_
 simp only[go_sem,simprocAttr]
 refine al.fn (Vc enc hp l q g caps h) ?_
 simp only[go_sem,simprocAttr]
 exact ak iR
def NoB {α:Type}(q:α→Bool)(l:List α)(i:Nat):Prop:=∀ b∈l.take i,q b=false
theorem NoB.zero {α:Type}(q:α→Bool)(l:List α):NoB q l 0:=λb hb=>by simp at hb
theorem NoB.succ {α:Type}{l:List α}{i:Nat}{a:α}{q:α→Bool}(hI:NoB q l i)(ha:l[i]?=some a)(hq:q a=false):NoB q l (i+1):=by
 unfold NoB
 rw[ai ha]
 intro b hb
 rcases List.mem_append.1 hb with hb|hb
 ·exact hI b hb
 ·rw[List.mem_singleton.1 hb];exact hq
theorem NoB.all {α:Type}{l:List α}{i:Nat}{q:α→Bool}(hI:NoB q l i)(h:l.length≤i): ∀b∈l,q b=false:=by
 unfold NoB at hI
 rwa [List.take_of_length_le h]at hI
theorem wm (l:List aC)(n:List UInt8):ag prog W0 50 [aY l,.str n] (.tup [.int .i64 (if gy (λx:aC=>x.pkg.name==n) l<0 then 0 else gy (λx:aC=>x.pkg.name==n) l),.bool (decide (0≤gy (λx:aC=>x.pkg.name==n) l))]):=by
 refine aj [4,5] [7] func50 rfl rfl ntmps50 rfl rfl (.xr (.int _ _) (.bool _)) λhs σ=>?_
 have hl:=(aO (hs _ (List.mem_cons_self ..))).1
 simp only[go_sem,simprocAttr,aY,List.length_map]
 refine af.upto [1,8,9] (.of (by kernel_rfl)) l.length (λi A=>A.env 10= .int .i64 i∧Ext σ A.st∧NoB (λx:aC=>x.pkg.name==n) l i) 0 (Nat.zero_le _) ?_ λi B hi ⟨h10,hst,hI⟩=>?_
 ·simp only[go_sem,simprocAttr]
  exact⟨.refl _,.zero _ _⟩
 simp only[go_sem,simprocAttr,h10,List.length_map]
 refine⟨λhc=>⟨hc,?_⟩,λhc=>?_⟩
 ·obtain⟨a,ha⟩:=get_some hc
  simp only[aw ha]
  simp only[go_sem,simprocAttr,bC,av,h10]
  refine⟨λhq=>⟨?_,hst.app _⟩,λhq=>⟨hc,ah hc hl,hst.app _,hI.succ ha (by simpa using hq)⟩⟩
  rw[fj ha (by simpa using hq) hI,if_neg (by omega),decide_eq_true (by omega)]
  exact .refl _
 ·rw[di (hI.all hc)]
  exact⟨.refl _,hst⟩
theorem Gd (l:List aC)(n:List UInt8):ag prog W0 67 [aY l,.str n] (.int .i64 (gy (λx:aC=>x.pkg.name==n) l)):=by
 refine aj [4] [6] func67 rfl rfl ntmps67 rfl rfl (.int _ _) λhs σ=>?_
 have hl:=(aO (hs _ (List.mem_cons_self ..))).1
 simp only[go_sem,simprocAttr,aY,List.length_map]
 refine af.upto [1,7,8] (.of (by kernel_rfl)) l.length (λi A=>A.env 9= .int .i64 i∧Ext σ A.st∧NoB (λx:aC=>x.pkg.name==n) l i) 0 (Nat.zero_le _) ?_ λi B hi ⟨h10,hst,hI⟩=>?_
 ·simp only[go_sem,simprocAttr]
  exact⟨.refl _,.zero _ _⟩
 simp only[go_sem,simprocAttr,h10,List.length_map]
 refine⟨λhc=>⟨hc,?_⟩,λhc=>?_⟩
 ·obtain⟨a,ha⟩:=get_some hc
  simp only[aw ha]
  simp only[go_sem,simprocAttr,bC,av,h10]
  refine⟨λhq=>⟨?_,hst.app _⟩,λhq=>⟨hc,ah hc hl,hst.app _,hI.succ ha (by simpa using hq)⟩⟩
  rw[fj ha (by simpa using hq) hI]
  exact .refl _
 ·rw[di (hI.all hc)]
  exact⟨.refl _,hst⟩
theorem CM (l:List aH)(k:Int):ag prog W0 100 [br l,.int .i64 k] (.bool (l.any λa=>a.kind==k)):=by
 refine aj [4] [6] func100 rfl rfl ntmps100 rfl rfl (.bool _) λhs σ=>?_
 have hl:=(aO (hs _ (List.mem_cons_self ..))).1
 simp only[go_sem,simprocAttr,br,List.length_map]
 refine af.upto [1,7,8] (.of (by kernel_rfl)) l.length (λi A=>A.env 9= .int .i64 i∧Ext σ A.st∧NoB (λa:aH=>a.kind==k) l i) 0 (Nat.zero_le _) ?_ λi B hi ⟨h10,hst,hI⟩=>?_
 ·simp only[go_sem,simprocAttr]
  exact⟨.refl _,.zero _ _⟩
 simp only[go_sem,simprocAttr,h10,List.length_map]
 refine⟨λhc=>⟨hc,?_⟩,λhc=>?_⟩
 ·obtain⟨a,ha⟩:=get_some hc
  simp only[aw ha]
  simp only[go_sem,simprocAttr,bP,h10]
  refine⟨λhq=>⟨ak ?_,hst.app _⟩,λhq=>⟨hc,ah hc hl,hst.app _,hI.succ ha (by simpa using hq)⟩⟩
  exact(List.any_eq_true.2 ⟨a,List.mem_of_getElem? ha,by simpa using hq⟩).symm
 ·refine⟨ak ?_,hst⟩
  exact(List.any_eq_false.2 λx hx=>by simpa using hI.all hc x hx).symm
def dV (l:List aH):Bool:=(l.any λa=>a.kind==3)||l.any λa=>a.kind==4
theorem Bs (l:List aH):ag prog W0 42 [br l] (.bool (dV l)):=by
 refine aj [2] [] func42 rfl rfl ntmps42 rfl rfl (.bool _) λhs σ=>?_
 simp only[go_sem,simprocAttr]
 refine al.fn (CM l 3) ?_
 simp only[go_sem,simprocAttr]
 refine az.fnG (λ_=>CM l 4) ?_
 simp only[go_sem,simprocAttr,dV]
 try exact .refl _
def na :aH:=⟨0,[],[]⟩
theorem pC {α:Type}{l:List α}{i:Nat}{a:α}{q:α→Bool}(ha:l[i]?=some a)(hq:q a=true)(hI:NoB q l i):l.find? q=some a:=by
 obtain⟨hi,he⟩:=List.getElem?_eq_some_iff.1 ha
 refine List.find?_eq_some_iff_getElem.2 ⟨hq,i,hi,he,λj hj=>?_⟩
 rw[hI _ (List.mem_iff_getElem.2 ⟨j,by rw[List.length_take];omega,by rw[List.getElem_take]⟩)]
 rfl
theorem FI (p:Pkg)(all:List Pkg)(h24:all.length≤1048576):ag prog W0 102 [av p,aU all] (.int .i64 (cL all p)):=by
 refine aj [4] [2,7] func102 rfl rfl ntmps102 rfl rfl (.int _ _) λhs σ=>?_
 simp only[go_sem,simprocAttr,aU,List.length_map]
 refine af.at [] (.of (by kernel_rfl)) (λA=>A.env 5= .int .i64 (cL all p)∧Ext σ A.st) ?_ λB ⟨h5,hst⟩=>?_
 ·refine af.upto [2,8,9] (.of (by kernel_rfl)) all.length (λi A=>A.env 10= .int .i64 i∧A.env 5= .int .i64 (cL (all.take i) p)∧Ext σ A.st∧cL (all.take i) p≤i) 0 (Nat.zero_le _) ?_ λi B hi ⟨h10,h5,hst,hle⟩=>?_
  ·simp only[go_sem,simprocAttr]
   simp[cL,Ext.refl]
  simp only[go_sem,simprocAttr,h10,h5,List.length_map]
  refine⟨λhc=>⟨hc,?_⟩,λhc=>?_⟩
  ·obtain⟨q,hq⟩:=get_some hc
   have hn:cL (all.take (i+1)) p=cL (all.take i) p+if (q.name==p.name&&decide (0<bA q.ver p.ver))=true then 1 else 0:=by
    unfold cL
    rw[ai hq,List.filter_append,List.length_append]
    congr 1
    rw[List.filter_cons]
    split<;>rfl
   simp only[aw hq]
   simp only[go_sem,simprocAttr,av,h10,h5]
   refine az.fnG (λ_=>oc q.ver p.ver) ?_
   simp only[go_sem,simprocAttr,h10,h5]
   refine⟨λhb=>⟨hc,ah hc (by rw[ar];omega),?_,hst.app _,?_⟩,λhb=>⟨hc,ah hc (by rw[ar];omega),?_,hst.app _,?_⟩⟩
   ·rw[hn,if_pos hb,iT (N:=1048577) (by omega) (by rw[ar];omega)]
   ·rw[hn,if_pos hb];omega
   ·rw[hn,if_neg (by simp[hb])];rfl
   ·rw[hn,if_neg (by simp[hb])];omega
  ·rw[List.take_of_length_le hc]
   exact⟨rfl,hst⟩
 simp only[go_sem,simprocAttr,h5]
 exact hst
end Go.Proofs.Tryz
end
section
namespace Go.Proofs.Tryz
open Go Go.Av
set_option maxRecDepth 10000
set_option maxHeartbeats 1000000
variable {W0 :World}
theorem Gu {l:List Pkg}{b:Pkg→Bool}:(bg l b).head?=l.findIdx? b:=by
 have key: ∀i,i≤l.length→(plB l b i).head?=(l.take i).findIdx? b:=by
  intro i
  induction i with
  |zero=>intro _;simp[plB]
  |succ i ih=>
   intro hi
   obtain⟨p,hp⟩:=get_some (show i<l.length by omega)
   rw[tu hp,ai hp,List.head?_append,ih (by omega),List.findIdx?_append]
   cases (l.take i).findIdx? b with
   |some k=>rfl
   |none=>
    have:(l.take i).length=i:=by rw[List.length_take];omega
    cases hb:b p<;>simp[hb,this]
 have:=key l.length (Nat.le_refl _)
 rwa [List.take_length]at this
theorem IP (l:List Pkg)(n v:List UInt8):(bg l λp=>p.name==n&&bm p.ver v).head?=qb l n v:=Gu
theorem Ao (all:List Pkg)(h0:bk all=0):ag prog W0 70 [aU all,eS (cI all)] (.bool (decide (all=cI all))):=by
 have h24:=dF h0
 have hsl:(cI all).length=all.length:=(eD all).length_eq
 refine aj [4] [6] func70 rfl rfl ntmps70 rfl rfl (.bool _) λhs σ=>?_
 have hl:=(aO (hs _ (List.mem_cons_self ..))).1
 simp only[go_sem,simprocAttr,aU,List.length_map]
 refine af.upto [1,9,10] (.of (by kernel_rfl)) all.length (λi A=>A.env 11= .int .i64 i∧Ext σ A.st∧ ∀k p,k<i→all[k]?=some p→qb (cI all) p.name p.ver=some k) 0 (Nat.zero_le _) ?_ λi B hi ⟨h11,hst,hI⟩=>?_
 ·simp only[go_sem,simprocAttr]
  exact .refl _
 simp only[go_sem,simprocAttr,h11,List.length_map]
 refine⟨λhc=>⟨hc,?_⟩,λhc=>⟨ak (decide_eq_true ((qS h0).1 λk p hk=>hI k p (by have:=(List.getElem?_eq_some_iff.1 hk).1;omega) hk)).symm,hst⟩⟩
 ·obtain⟨p,hp⟩:=get_some hc
  simp only[aw hp]
  simp only[go_sem,simprocAttr,av,h11]
  refine al.fn (KH (cI all) (by omega) p.name p.ver) ?_
  rw[IP]
  simp only[go_sem,simprocAttr,h11]
  have hno:qb (cI all) p.name p.ver≠some i→all≠cI all:=λh e=>h ((qS h0).2 e i p hp)
  cases hf:qb (cI all) p.name p.ver with
  |none=>
   simp only[go_sem,simprocAttr]
   exact⟨ak (decide_eq_false (hno (by rw[hf];simp))).symm,hst.app _⟩
  |some k=>
   simp only[go_sem,simprocAttr,Option.getD_some]
   refine⟨λhne=>⟨ak (decide_eq_false (hno (by rw[hf];simp;omega))).symm,hst.app _⟩,λhe=>⟨hc,ah hc (by rw[ar];omega),hst.app _,λj q hj hq=>?_⟩⟩
   rcases Nat.lt_or_ge j i with h|h
   ·exact hI j q h hq
   ·have:j=i:=by omega
    subst this
    rw[hp]at hq
    cases hq
    rw[hf]
    congr 1
    try omega
def Jt (n:Nat)(cls:List (List Int)):AV:=.loc 191 (.agg 191 [.int .i64 n,Ae cls])
@[go_sem] theorem Ww (n:Nat)(cls:List (List Int)):unm (Jt n cls)=Jt n cls:=rfl
def Xj (n:Nat)(cls:List (List Int)):AV:=.loc 133 (.agg 133 [.int .i64 n,Jt n cls])
def marks (n:Nat):List Int→List Bool→Option (List Bool)
 |[],m=>some m
 |i::r,m=>if 0≤i∧i<n then(if (m[i.toNat]?).getD false=true then none else marks n r (m.set i.toNat true))else none
end Go.Proofs.Tryz
end
section
namespace Go.Proofs.Tryz
open Go Go.Av
set_option maxRecDepth 10000
set_option maxHeartbeats 1000000
variable {W0 :World}
def ic (all:List Pkg)(c:Clause):List Int:=c.flatMap λa=>(bg all λq=>eu q a).map eA
theorem pF {l:List Pkg}{b:Pkg→Bool}{k:Nat}:k∈bg l b↔ ∃q,l[k]?=some q∧b q=true:=by
 unfold bg plB
 simp only[List.mem_filter,List.mem_range]
 constructor
 ·rintro⟨h1,h2⟩
  obtain⟨q,hq⟩:=get_some h1
  rw[hq]at h2
  exact⟨q,hq,h2⟩
 ·rintro⟨q,h1,h2⟩
  exact⟨(List.getElem?_eq_some_iff.1 h1).1,by rw[h1];exact h2⟩
theorem Dj {c:Clause}{all:List Pkg}{x:Int}:x∈gZ c 0 all↔ ∃k q,all[k]?=some q∧c.any (eu q)=true∧x=eA k:=by
 have key: ∀(l:List Pkg) (i:Nat),x∈gZ c i l↔ ∃k q,l[k]?=some q∧c.any (eu q)=true∧x=eA (i+k):=by
  intro l
  induction l with
  |nil=>intro i;simp[gZ]
  |cons p r ih=>
   intro i
   rw[gZ,List.mem_append,ih]
   constructor
   ·rintro(h|⟨k,q,h1,h2,h3⟩)
    ·split at h
     ·rename_i hs;simp at h;exact⟨0,p,rfl,hs,by simpa using h⟩
     ·simp at h
    ·exact⟨k+1,q,by simpa using h1,h2,by rw[h3];congr 1;omega⟩
   ·rintro⟨k,q,h1,h2,h3⟩
    cases k with
    |zero=>simp at h1;subst h1;left;rw[if_pos h2];simpa using h3
    |succ k=>exact .inr ⟨k,q,by simpa using h1,h2,by rw[h3];congr 1;omega⟩
 simpa using key all 0
theorem vZ {c:Clause}{all:List Pkg}{x:Int}:x∈ic all c↔x∈gZ c 0 all:=by
 rw[Dj]
 unfold ic
 simp only[List.mem_flatMap,List.mem_map]
 constructor
 ·rintro⟨a,ha,k,hk,rfl⟩
  obtain⟨q,h1,h2⟩:=pF.1 hk
  exact⟨k,q,h1,List.any_eq_true.2 ⟨a,ha,h2⟩,rfl⟩
 ·rintro⟨k,q,h1,h2,rfl⟩
  obtain⟨a,ha,h3⟩:=List.any_eq_true.1 h2
  exact⟨a,ha,k,pF.2 ⟨q,h1,h3⟩,rfl⟩
end Go.Proofs.Tryz
end
section
namespace Go.Proofs.Tryz
open Go Go.Av Go.Sort
set_option maxRecDepth 100000
set_option maxHeartbeats 2000000
theorem Mn (a:Int)(w:World):Calls prog 251 #[.int .i64 a] w λe w'=>e= .returned (.bool false)∧w'=w:=by
 go_enter func251,ntmps251
 go_wp2
 go_ret
 exact⟨rfl,rfl⟩
theorem Oy (a b:Int)(w:World):Calls prog 226 #[.int .i64 a,.int .i64 b] w λe w'=>e= .returned (.int .i64 (sgn a b))∧w'=w:=by
 have h1:=λx W=>Mn x W
 unfold sgn
 go_enter func226,ntmps226
 go_wp2_with (go_at_call 251;refine(h1 _ _).mono ?_;rintro e w' ⟨rfl,rfl⟩)
 all_goals go_ret
 all_goals simp_all
theorem Mp (a:Int)(w:World):Calls prog 227 #[.int .u32 a] w λe w'=>e= .returned (.bool false)∧w'=w:=by
 go_enter func227,ntmps227
 go_wp2
 go_ret
 exact⟨rfl,rfl⟩
theorem OD (a b:Int)(w:World):Calls prog 171 #[.int .u32 a,.int .u32 b] w λe w'=>e= .returned (.int .i64 (sgn a b))∧w'=w:=by
 have h1:=λx W=>Mp x W
 unfold sgn
 go_enter func171,ntmps171
 go_wp2_with (go_at_call 227;refine(h1 _ _).mono ?_;rintro e w' ⟨rfl,rfl⟩)
 all_goals go_ret
 all_goals simp_all
theorem No (a:Int)(w:World):Calls prog 231 #[.int .u64 a] w λe w'=>e= .returned (.bool false)∧w'=w:=by
 go_enter func231,ntmps231
 go_wp2
 go_ret
 exact⟨rfl,rfl⟩
theorem OX (a b:Int)(w:World):Calls prog 189 #[.int .u64 a,.int .u64 b] w λe w'=>e= .returned (.int .i64 (sgn a b))∧w'=w:=by
 have h1:=λx W=>No x W
 unfold sgn
 go_enter func189,ntmps189
 go_wp2_with (go_at_call 231;refine(h1 _ _).mono ?_;rintro e w' ⟨rfl,rfl⟩)
 all_goals go_ret
 all_goals simp_all
theorem ML (a:Int)(w:World):Calls prog 232 #[.int .i64 a] w λe w'=>e= .returned (.bool false)∧w'=w:=by
 go_enter func232,ntmps232
 go_wp2
 go_ret
 exact⟨rfl,rfl⟩
theorem OC (a b:Int)(w:World):Calls prog 190 #[.int .i64 a,.int .i64 b] w λe w'=>e= .returned (.int .i64 (sgn a b))∧w'=w:=by
 have h1:=λx W=>ML x W
 unfold sgn
 go_enter func190,ntmps190
 go_wp2_with (go_at_call 232;refine(h1 _ _).mono ?_;rintro e w' ⟨rfl,rfl⟩)
 all_goals go_ret
 all_goals simp_all
theorem Uo (l:Int)(hl:l.natAbs≤1000000)(w:World):Calls prog 185 #[.int .i64 l] w λe w'=>e= .returned (.int .u64 (l.natAbs:Nat))∧w'=w:=by
 have e1:l<0→IntKind.u64.wrap (-(IntKind.u64.wrap l))=(l.natAbs:Int):=λh=>by simp[IntKind.wrap,IntKind.signed,IntKind.bits];omega
 have e2: ¬l<0→IntKind.u64.wrap l=(l.natAbs:Int):=λh=>by simp[IntKind.wrap,IntKind.signed,IntKind.bits];omega
 go_enter func185,ntmps185
 go_wp2
 all_goals go_ret
 all_goals first|exact⟨rfl,rfl⟩|simp_all
theorem Tt (a b:Int)(B:Nat)(w:World)(h0:w.cell? ⟨B,0,none⟩=some (.int .i64 a))(h1:w.cell? ⟨B,1,none⟩=some (.int .i64 b)):Calls prog 94 #[.slice (some ⟨B,0,none⟩) 2 2] w λe w'=>e= .returned (.int .i64 (orL [a,b]))∧w'=w:=by
 obtain⟨r,hr⟩: ∃r,r=orL [a,b]:=⟨_,rfl⟩
 rw[←hr]
 have f1:a≠0→r=a:=λh=>by rw[hr];simp[orL,h]
 have f2:a=0→r=b:=λh=>by rw[hr];by_cases hb:b=0<;>simp[orL,h,hb]
 clear hr
 go_enter func94,ntmps94
 go_wp2
 refine wp_loop_rounds 3 ?_
 rw[rounds_succ]
 go_wp2
 all_goals (try (rw[rounds_succ];go_wp2))
 all_goals (try (rw[rounds_succ];go_wp2))
 all_goals (try go_ret)
 all_goals refine⟨?_,rfl⟩
 all_goals simp_all
theorem M1 (a b:Int)(ha:a.natAbs≤1000000)(hb:b.natAbs≤1000000)(w:World):Calls prog 188 #[.int .i64 a,.int .i64 b] w λe w'=>e= .returned (.int .i64 (orL [sgn (a.natAbs:Nat) (b.natAbs:Nat),sgn a b]))∧ ∃q os,w'=grow (w.drewN q) os:=by
 have c1: ∀(W:World) (u v:Value),(W.alloc (.cells #[u,v] 3)).cell? ⟨W.heap.size,0,none⟩=some u:=λW u v=>by unfold World.cell?;simp only[World.alloc_heap_new];rfl
 have c2: ∀(W:World) (u v:Value),(W.alloc (.cells #[u,v] 3)).cell? ⟨W.heap.size,1,none⟩=some v:=λW u v=>by unfold World.cell?;simp only[World.alloc_heap_new];rfl
 go_enter func188,ntmps188
 go_wp2_with (first|(go_at_call 185;refine(Uo _ (by assumption) _).mono ?_;rintro e w' ⟨rfl,rfl⟩)|(go_at_call 189;refine(OX _ _ _).mono ?_;rintro e w' ⟨rfl,rfl⟩)|(go_at_call 190;refine(OC _ _ _).mono ?_;rintro e w' ⟨rfl,rfl⟩)|(go_at_call 94;refine(Tt _ _ _ _ (c1 _ _ _) (c2 _ _ _)).mono ?_;rintro e w' ⟨rfl,rfl⟩))
 all_goals go_ret
 exact⟨rfl,0,_,alloc_eq_grow _ _⟩
end Go.Proofs.Tryz
end
section
namespace Go.Proofs.Tryz
open Go Go.Av Go.Sort
set_option maxRecDepth 100000
set_option maxHeartbeats 2000000
theorem oM {x m k:Nat}{K M:Int}(hx:x<4294967296)(hm:m<4294967296)(e1:(x:Int) / K=((x >>> k:Nat):Int))(e2: ∀y:Nat,(y:Int)*K % 4294967296=((y <<< k % 4294967296:Nat):Int))(hM:M=(m:Int)):
  bits .or .u32 (bits .and .u32 ((x:Int) / K) M) (bits .and .u32 (x:Int) M*K % 4294967296)=((bE m k x:Nat):Int):=by
 subst hM
 have l1:x >>> k<4294967296:=by rw[Nat.shiftRight_eq_div_pow];exact Nat.lt_of_le_of_lt (Nat.div_le_self _ _) hx
 rw[e1,fA _ _ l1 hm,fA _ _ hx hm,e2,ie _ _ (Nat.lt_of_le_of_lt Nat.and_le_right hm) (Nat.mod_lt _ (by decide))]
 rfl
theorem KJ {x:Nat}(hx:x<4294967296):bits .or .u32 ((x:Int) / 65536) ((x:Int)*65536 % 4294967296)=(((x >>> 16) ||| ((x <<< 16) % 4294967296):Nat):Int):=by
 have e1:(x:Int) / (65536:Int)=((x >>> 16:Nat):Int):=by rw[Nat.shiftRight_eq_div_pow];omega
 have l1:x >>> 16<4294967296:=by rw[Nat.shiftRight_eq_div_pow];exact Nat.lt_of_le_of_lt (Nat.div_le_self _ _) hx
 have e2:(x:Int)*(65536:Int) % (4294967296:Int)=((x <<< 16 % 4294967296:Nat):Int):=by rw[Nat.shiftLeft_eq];omega
 rw[e1,e2,ie _ _ l1 (Nat.mod_lt _ (by decide))]
theorem Nj (x:Nat)(hx:x<4294967296)(w:World):Calls prog 252 #[.int .u32 x] w λe w'=>e= .returned (.int .u32 (((bE 16711935 8 x >>> 16) ||| ((bE 16711935 8 x <<< 16) % 4294967296):Nat):Int))∧w'=w:=by
 have h1:=oM (m:=16711935) (k:=8) (K:=256) (M:=16711935) hx (by decide) (by rw[Nat.shiftRight_eq_div_pow];omega) (λy=>by rw[Nat.shiftLeft_eq];omega) rfl
 have h2:=KJ (x:=bE 16711935 8 x) (ki (by decide))
 rw[←h2,←h1]
 clear h1 h2
 go_enter func252,ntmps252
 go_wp2
 go_ret
 exact⟨rfl,rfl⟩
theorem UW (x:Nat)(hx:x<4294967296)(w:World):Calls prog 228 #[.int .u32 x] w λe w'=>e= .returned (.int .u32 (fI x:Nat))∧w'=w:=by
 have h1:=oM (m:=1431655765) (k:=1) (K:=2) (M:=1431655765) hx (by decide) (by rw[Nat.shiftRight_eq_div_pow];omega) (λy=>by rw[Nat.shiftLeft_eq];omega) rfl
 have l1:bE 1431655765 1 x<4294967296:=ki (by decide)
 have h2:=oM (m:=858993459) (k:=2) (K:=4) (M:=858993459) l1 (by decide) (by rw[Nat.shiftRight_eq_div_pow];omega) (λy=>by rw[Nat.shiftLeft_eq];omega) rfl
 have l2:bE 858993459 2 (bE 1431655765 1 x)<4294967296:=ki (by decide)
 have h3:=oM (m:=252645135) (k:=4) (K:=16) (M:=252645135) l2 (by decide) (by rw[Nat.shiftRight_eq_div_pow];omega) (λy=>by rw[Nat.shiftLeft_eq];omega) rfl
 have l3:bE 252645135 4 (bE 858993459 2 (bE 1431655765 1 x))<4294967296:=ki (by decide)
 have q:=Nj _ l3
 rw[←h3,←h2,←h1]at q
 have hr:fI x=(bE 16711935 8 (bE 252645135 4 (bE 858993459 2 (bE 1431655765 1 x))) >>> 16) ||| ((bE 16711935 8 (bE 252645135 4 (bE 858993459 2 (bE 1431655765 1 x))) <<< 16) % 4294967296):=rfl
 rw[hr]
 generalize ((bE 16711935 8 (bE 252645135 4 (bE 858993459 2 (bE 1431655765 1 x))) >>> 16) ||| ((bE 16711935 8 (bE 252645135 4 (bE 858993459 2 (bE 1431655765 1 x))) <<< 16) % 4294967296):Nat)=r at *
 clear h1 h2 h3 hr l1 l2 l3
 go_enter func228,ntmps228
 go_wp2_with (go_at_call 252;refine(q _).mono ?_;rintro e w' ⟨rfl,rfl⟩)
 go_ret
 exact⟨rfl,rfl⟩
theorem zx (x:Nat)(hx:x<4294967296)(w:World):Calls prog 172 #[.int .u32 x] w λe w'=>e= .returned (.int .u32 (fI x:Nat))∧w'=w:=by
 have q:=UW x hx
 generalize fI x=r at *
 go_enter func172,ntmps172
 go_wp2_with (go_at_call 228;refine(q _).mono ?_;rintro e w' ⟨rfl,rfl⟩)
 go_ret
 exact⟨rfl,rfl⟩
theorem Oj (c d:List Int)(hc:c.length=5)(hd:d.length=5)(B C o:Nat)(w:World)(h1: ∀j x,c[j]?=some x→w.cell? ⟨B,1+j,none⟩=some (.int .i64 x))(h2: ∀j x,d[j]?=some x→w.cell? ⟨C,1+j,none⟩=some (.int .i64 x)):Calls prog 170 #[.slice (some ⟨B,1,none⟩) 5 5,.slice (some ⟨C,1,none⟩) 5 5] w λe w'=>e= .returned (.int .i64 (orL (List.zipWith sgn c d)))∧w'=w:=by
 obtain⟨c0,c1,c2,c3,c4,rfl⟩: ∃a b c' d e,c=[a,b,c',d,e]:=by
  match c,hc with
  |[a,b,c',d,e],_=>exact⟨a,b,c',d,e,rfl⟩
 obtain⟨d0,d1,d2,d3,d4,rfl⟩: ∃a b c' d' e,d=[a,b,c',d',e]:=by
  match d,hd with
  |[a,b,c',d',e],_=>exact⟨a,b,c',d',e,rfl⟩
 have a0:=h1 0 _ rfl
 have a1:=h1 1 _ rfl
 have a2:=h1 2 _ rfl
 have a3:=h1 3 _ rfl
 have a4:=h1 4 _ rfl
 have b0:=h2 0 _ rfl
 have b1:=h2 1 _ rfl
 have b2:=h2 2 _ rfl
 have b3:=h2 3 _ rfl
 have b4:=h2 4 _ rfl
 clear h1 h2 hc hd
 simp only[Nat.reduceAdd]at a0 a1 a2 a3 a4 b0 b1 b2 b3 b4
 have q:=λx y W=>Oy x y W
 simp only[List.zipWith_cons_cons,List.zipWith_nil_left]
 generalize hs0:sgn c0 d0=s0 at *
 generalize hs1:sgn c1 d1=s1 at *
 generalize hs2:sgn c2 d2=s2 at *
 generalize hs3:sgn c3 d3=s3 at *
 generalize hs4:sgn c4 d4=s4 at *
 have g0:s0≠0→orL [s0,s1,s2,s3,s4]=s0:=λh=>by simp[orL,h]
 have g1:s0=0→s1≠0→orL [s0,s1,s2,s3,s4]=s1:=λh h'=>by simp[orL,h,h']
 have g2:s0=0→s1=0→s2≠0→orL [s0,s1,s2,s3,s4]=s2:=λh h' h''=>by simp[orL,h,h',h'']
 have g3:s0=0→s1=0→s2=0→s3≠0→orL [s0,s1,s2,s3,s4]=s3:=λh h' h'' h3=>by simp[orL,h,h',h'',h3]
 have g4:s0=0→s1=0→s2=0→s3=0→orL [s0,s1,s2,s3,s4]=s4:=λh h' h'' h3=>by by_cases h4:s4=0<;>simp[orL,h,h',h'',h3,h4]
 generalize orL [s0,s1,s2,s3,s4]=r at *
 go_enter func170,ntmps170
 go_wp2
 refine wp_loop_rounds 6 ?_
 rw[rounds_succ]
 go_wp2_with (go_at_call 226;refine(q _ _ _).mono ?_;rintro e w' ⟨rfl,rfl⟩)
 all_goals (try (rw[rounds_succ];go_wp2_with (go_at_call 226;refine(q _ _ _).mono ?_;rintro e w' ⟨rfl,rfl⟩)))
 all_goals (try (rw[rounds_succ];go_wp2_with (go_at_call 226;refine(q _ _ _).mono ?_;rintro e w' ⟨rfl,rfl⟩)))
 all_goals (try (rw[rounds_succ];go_wp2_with (go_at_call 226;refine(q _ _ _).mono ?_;rintro e w' ⟨rfl,rfl⟩)))
 all_goals (try (rw[rounds_succ];go_wp2_with (go_at_call 226;refine(q _ _ _).mono ?_;rintro e w' ⟨rfl,rfl⟩)))
 all_goals (try (rw[rounds_succ];go_wp2_with (go_at_call 226;refine(q _ _ _).mono ?_;rintro e w' ⟨rfl,rfl⟩)))
 all_goals (try go_ret)
 all_goals refine⟨?_,rfl⟩
 all_goals simp_all
end Go.Proofs.Tryz
end
section
namespace Go.Proofs.Tryz
open Go Go.Av Go.Sort
set_option maxRecDepth 100000
set_option maxHeartbeats 4000000
theorem G3 (s t:Nat)(hs:s<4294967296)(ht:t<4294967296)(c0 c1 c2 c3 c4 d0 d1 d2 d3 d4:Int)(w:World):
  Calls prog 121 #[.agg #[.int .u32 s,.int .i64 c0,.int .i64 c1,.int .i64 c2,.int .i64 c3,.int .i64 c4],.agg #[.int .u32 t,.int .i64 d0,.int .i64 d1,.int .i64 d2,.int .i64 d3,.int .i64 d4]] w λe w'=>
   e= .returned (.int .i64 (orL [orL (List.zipWith sgn [c0,c1,c2,c3,c4] [d0,d1,d2,d3,d4]),sgn (fI t) (fI s)]))∧ ∃q os,w'=grow (w.drewN q) os:=by
 have k1: ∀(W:World) (u v:Value),(W.alloc (.cells #[u,v] 3)).cell? ⟨W.heap.size,0,none⟩=some u:=λW u v=>by unfold World.cell?;simp only[World.alloc_heap_new];rfl
 have k2: ∀(W:World) (u v:Value),(W.alloc (.cells #[u,v] 3)).cell? ⟨W.heap.size,1,none⟩=some v:=λW u v=>by unfold World.cell?;simp only[World.alloc_heap_new];rfl
 have r1:=zx s hs
 have r2:=zx t ht
 generalize fI s=rs at *
 generalize fI t=rt at *
 have q:=λx y W=>OD x y W
 generalize hz:sgn (rt:Int) rs=z at *
 obtain⟨W1,hW1⟩: ∃W1,W1=(w.alloc (.cells #[.int .u32 s,.int .i64 c0,.int .i64 c1,.int .i64 c2,.int .i64 c3,.int .i64 c4] 116)).alloc (.cells #[.int .u32 t,.int .i64 d0,.int .i64 d1,.int .i64 d2,.int .i64 d3,.int .i64 d4] 116):=⟨_,rfl⟩
 have hh0:W1.heap[w.heap.size]?=some (.cells #[.int .u32 s,.int .i64 c0,.int .i64 c1,.int .i64 c2,.int .i64 c3,.int .i64 c4] 116):=by
  rw[hW1]
  exact(RowKit.Below.heap_alloc _ _ _ (by simp)).trans (World.alloc_heap_new w _)
 have hh1:W1.heap[w.heap.size+1]?=some (.cells #[.int .u32 t,.int .i64 d0,.int .i64 d1,.int .i64 d2,.int .i64 d3,.int .i64 d4] 116):=by
  rw[hW1]
  have:=World.alloc_heap_new (w.alloc (.cells #[.int .u32 s,.int .i64 c0,.int .i64 c1,.int .i64 c2,.int .i64 c3,.int .i64 c4] 116)) (.cells #[.int .u32 t,.int .i64 d0,.int .i64 d1,.int .i64 d2,.int .i64 d3,.int .i64 d4] 116)
  rwa [World.size_alloc]at this
 have hcell: ∀(b j:Nat) (a:Array Value) (x:Value),W1.heap[b]?=some (.cells a 116)→a[j]?=some x→W1.drew.cell? ⟨b,j,none⟩=some x:=λb j a x h1 h2=>by
  show(match W1.heap[b]? with|some (.cells c _ _)=>_|_=>_)=_
  rw[h1]
  exact h2
 have g1:Calls prog 170 #[.slice (some ⟨w.heap.size,1,none⟩) 5 5,.slice (some ⟨w.heap.size+1,1,none⟩) 5 5] W1.drew λe w'=>e= .returned (.int .i64 (orL (List.zipWith sgn [c0,c1,c2,c3,c4] [d0,d1,d2,d3,d4])))∧w'=W1.drew:=Oj [c0,c1,c2,c3,c4] [d0,d1,d2,d3,d4] rfl rfl _ _ 0 _ (λj x hj=>hcell _ _ _ _ hh0 (by
  match j,hj with
  |0,hj=>cases hj;rfl
  |1,hj=>cases hj;rfl
  |2,hj=>cases hj;rfl
  |3,hj=>cases hj;rfl
  |4,hj=>cases hj;rfl)) (λj x hj=>hcell _ _ _ _ hh1 (by
  match j,hj with
  |0,hj=>cases hj;rfl
  |1,hj=>cases hj;rfl
  |2,hj=>cases hj;rfl
  |3,hj=>cases hj;rfl
  |4,hj=>cases hj;rfl))
 have e1:W1.drew.cell? ⟨w.heap.size,0,none⟩=some (.int .u32 s):=hcell _ _ _ _ hh0 rfl
 have e2:W1.drew.cell? ⟨w.heap.size+1,0,none⟩=some (.int .u32 t):=hcell _ _ _ _ hh1 rfl
 have hfin: ∀o:Obj,∃q os,(W1.alloc o).drew=grow (w.drewN q) os:=λo=>⟨1,_,by rw[hW1,alloc_eq_grow,alloc_eq_grow,alloc_eq_grow,grow_grow,grow_grow];rfl⟩
 have kk1: ∀u v:Value,(W1.alloc (.cells #[u,v] 3)).drew.cell? ⟨W1.heap.size,0,none⟩=some u:=λu v=>k1 W1 u v
 have kk2: ∀u v:Value,(W1.alloc (.cells #[u,v] 3)).drew.cell? ⟨W1.heap.size,1,none⟩=some v:=λu v=>k2 W1 u v
 clear k1 k2
 clear hh0 hh1 hcell
 generalize orL (List.zipWith sgn [c0,c1,c2,c3,c4] [d0,d1,d2,d3,d4])=y at *
 go_enter func121,ntmps121
 go_wp2
 rw[←hW1]
 clear hW1
 go_region_with (first|(go_at_call 170;refine g1.mono ?_;rintro e w' ⟨rfl,rfl⟩)|(go_at_call 172;refine(r1 _).mono ?_;rintro e w' ⟨rfl,rfl⟩)|(go_at_call 172;refine(r2 _).mono ?_;rintro e w' ⟨rfl,rfl⟩)|(go_at_call 171;refine(q _ _ _).mono ?_;rintro e w' ⟨rfl,rfl⟩)|(go_at_call 94;refine(Tt _ _ _ _ (kk1 _ _) (kk2 _ _)).mono ?_;rintro e w' ⟨rfl,rfl⟩))
 all_goals (try go_wp2)
 all_goals (try go_ret)
 all_goals exact⟨rfl,hfin _⟩
end Go.Proofs.Tryz
end
