/- Texts that the last one of this claim rests on: a layer over the guide's own conditions for code; contracts of the functions that the law reaches, one by one. No conditions beside those of the given rows. -/
import Derived.Lib.Bytealg
import Derived.Test.YtbooehmmhbioaaaGreatDoorWad
import Derived.Test.YtbooehmmhbioaaaGreatDoorWaf
import Derived.Test.YtbooehmmhbioaaaGreatDoorWag
set_option linter.unusedSimpArgs false
set_option linter.unusedVariables false
section
namespace Go.Av
open Go
def fC {α:Type}(q:α→Bool)(l:List α):Int:=match l.findIdx? q with|some i=>i|none=>-1
theorem e8 {α:Type}{q:α→Bool}{l:List α}{i:Nat}{a:α}(h:l[i]?=some a)(hq:q a=true)(hn: ∀b∈l.take i,q b=false):fC q l=i:=by
 have:l.findIdx? q=some i:=by
  obtain⟨hi,he⟩:=List.getElem?_eq_some_iff.1 h
  refine List.findIdx?_eq_some_iff_getElem.2 ⟨hi,by rw[he];exact hq,λj hj=>?_⟩
  have:=hn l[j] (List.mem_of_getElem? (i:=j) (by rw[List.getElem?_take,if_pos hj];exact List.getElem?_eq_getElem (by omega)))
  simp[this]
 rw[fC,this]
theorem dq {α:Type}{q:α→Bool}{l:List α}(hn: ∀b∈l,q b=false):fC q l= -1:=by
 have:l.findIdx? q=none:=List.findIdx?_eq_none_iff.2 hn
 rw[fC,this]
theorem iV {α:Type}{q:α→Bool}{l:List α}:decide (0≤fC q l)=l.any q:=by
 unfold fC
 cases h:l.findIdx? q with
 |none=>
  have:=List.findIdx?_eq_none_iff.1 h
  have e:l.any q=false:=by rw[List.any_eq_false];intro x hx;simp[this x hx]
  rw[e];rfl
 |some i=>
  obtain⟨hi,h1,_⟩:=List.findIdx?_eq_some_iff_getElem.1 h
  have e:l.any q=true:=List.any_eq_true.2 ⟨_,List.getElem_mem hi,h1⟩
  rw[e]
  simp
theorem bK {σ:ab}{id:Nat}{te:TypeId}{xs:List AV}(h:id<σ.length)(i:Nat)(path:List Nat):look (σ.set id (some (.cells te xs))) id i path=(xs[i]?).bind (·.at path):=by simp[look,h]
theorem ax {σ:ab}{id:Nat}{te:TypeId}{xs:List AV}(h:σ[id]?=some (some (.cells te xs)))(i:Nat)(path:List Nat):look σ id i path=(xs[i]?).bind (·.at path):=by simp[look,h]
theorem dm {σ:ab}{id:Nat}{te:TypeId}{xs:List AV}(h:id<σ.length)(i:Nat)(path:List Nat)(v:AV):dB (σ.set id (some (.cells te xs))) id i path v=σ.set id (some (.cells te (xs.set i ((xs[i]?.getD .undef).setAt path v)))):=by simp[dB,h]
theorem aM {σ:ab}{id:Nat}{te:TypeId}{xs:List AV}(h:σ[id]?=some (some (.cells te xs)))(i:Nat)(path:List Nat)(v:AV):dB σ id i path v=σ.set id (some (.cells te (xs.set i ((xs[i]?.getD .undef).setAt path v)))):=by simp[dB,h]
theorem gp {σ:ab}{id:Nat}{o:Option cM}(h:σ[id]?=some o):σ.set id o=σ:=by
 obtain⟨h1,h2⟩:=List.getElem?_eq_some_iff.1 h
 rw[←h2,List.set_getElem_self]
@[go_sem] theorem M6 (t:TypeId)(fs:List AV)(k:Nat)(r:List Nat)(v:AV):(AV.agg t fs).setAt (k::r) v= .agg t (fs.set k ((fs[k]?.getD .undef).setAt r v)):=by
 cases h:fs[k]? with
 |none=>simp only[AV.setAt,h,Option.getD_none];rw[List.set_eq_of_length_le (List.getElem?_eq_none_iff.1 h)]
 |some y=>simp only[AV.setAt,h,Option.getD_some]
theorem al.go {P:Program}{W0:World}{A:aa}{g:FuncId}{caps us:List AV}{dst:Option Nat}{k:aa→Prop}{Q:AV→ab→Prop}{σ:ab}(hσ:A.st=σ)(h:bg P W0 g (us++caps) σ Q)(hk: ∀r σ',Q r σ'→k ((A.put dst r).an σ')):al P W0 (.fn g caps) us dst A k .mk:=by
 subst hσ
 exact h.mono hk
theorem al.goes {P:Program}{W0:World}{A:aa}{g:FuncId}{us:List AV}{dst:Option Nat}{k:aa→Prop}{Q:AV→ab→Prop}{σ:ab}(hσ:A.st=σ)(h:bg P W0 g us σ Q)(hk: ∀r σ',Q r σ'→k ((A.put dst r).an σ')):al P W0 (.fn g []) us dst A k .mk:=.go hσ (by simpa using h) hk
theorem al.reads {P:Program}{W0:World}{A:aa}{g:FuncId}{us:List AV}{dst:Option Nat}{k:aa→Prop}{r:AV}{σ:ab}(hσ:A.st=σ)(h:bg P W0 g us σ λr' σ'=>r'=r∧σ'=σ)(hk:k (A.put dst r)):al P W0 (.fn g []) us dst A k .mk:=.goes hσ h λr' σ' ⟨h1,h2⟩=>by
 subst h1 h2 hσ
 rwa [oe]
theorem JT (c:UInt8):IntKind.u8.wrap (c.toNat:Int)=c.toNat:=by
 have:=c.toNat_lt
 show(c.toNat:Int) % 256=c.toNat
 omega
theorem A8 {c:UInt8}(h:c.toNat<128):yM (c.toNat:Int)=[c]:=by
 have hv:Utf8.valid (c.toNat:Int)=true:=by
  simp only[Utf8.valid]
  simp
  omega
 have e:Utf8.encode (c.toNat:Int)=⟨#[UInt8.ofNat c.toNat]⟩:=by
  unfold Utf8.encode
  rw[if_pos hv,if_pos (by simpa using h)]
  simp
 rw[yM,e]
 simp
def fL (a b:List UInt8):Int:=if Op.bytesLess a b=true then-1 else if a=b then 0 else 1
def orL :List Int→Int
 |[]=>0
 |x::r=>if x≠0 then x else orL r
theorem pU (s:List UInt8)(c:UInt8):Lib.indexByte s c=aP c s:=by
 induction s with
 |nil=>rfl
 |cons d r ih=>
  unfold Lib.indexByte
  cases h:d==c with
  |true=>simp[aP,List.findIdx?_cons,h]
  |false=>
   simp only[Bool.false_eq_true,if_false,ih]
   rcases fy c r with⟨h1,h2⟩|⟨i,h1,_,_⟩
   ·rw[h1]
    have:(d::r).findIdx? (· ==c)=none:=List.findIdx?_eq_none_iff.2 λx hx=>by
     rcases List.mem_cons.1 hx with rfl|hx
     ·exact h
     ·simp;intro e;subst e;exact h2 hx
    simp[aP,this]
   ·have hne:((aP c r)== -1)=false:=by rw[h1,beq_eq_false_iff_ne];omega
    rw[hne]
    simp only[Bool.false_eq_true,if_false]
    have hf:r.findIdx? (· ==c)=some i:=by
     unfold aP at h1
     split at h1
     ·rename_i j hj;rw[hj];congr 1;omega
     ·omega
    rw[h1]
    simp[aP,List.findIdx?_cons,h,hf]
theorem AM (s:List UInt8)(c:UInt8):decide (0≤aP c s)=s.contains c:=by
 rcases fy c s with⟨h1,h2⟩|⟨i,h1,h2,_⟩
 ·rw[h1];simp[h2]
 ·rw[h1]
  have:c∈s:=List.mem_of_getElem? h2
  simp[this]
def JB (c:UInt8)(s:List UInt8):List UInt8:=if 0≤aP c s then s.take (aP c s).toNat else s
def Hy (c:UInt8)(s:List UInt8):List UInt8:=if 0≤aP c s then s.drop ((aP c s).toNat+1)else []
def tC (c:UInt8)(s:List UInt8):AV:=.tup [.str (JB c s),.str (Hy c s),.bool (decide (0≤aP c s))]
theorem vq (c:UInt8)(s:List UInt8):aW 0 (tC c s):=by
 refine .tup λx hx=>?_
 simp at hx
 rcases hx with rfl|rfl|rfl<;>first|exact .str _|exact .bool _
end Go.Av
end
section
namespace Go.Proofs.Tryz
open Go Go.Av
set_option maxRecDepth 10000
variable {W0 :World}
def aR (a:Atom):AV:=.agg 81 [.str a.name,.int .i64 a.rel,.str a.ver]
def aB (l:List Atom):AV:=.sl 81 (l.map aR)
def aw (l:List Clause):AV:=.sl 72 (l.map aB)
def c9 (p:ir):AV:=.agg 147 [.str p.name,.str p.ver]
def bW (l:List ir):AV:=.sl 147 (l.map c9)
def av (p:Pkg):AV:=.agg 54 [.str p.name,.str p.ver,aw p.pre,aw p.dep,aw p.rcm,aB p.con,aB p.brk,bW p.dE,.bool p.ess]
def aN (l:List Pkg):AV:=.sl 54 (l.map av)
theorem xM (s:List UInt8):ah prog W0 51 [.str s] (.bool (cq s)):=by
 refine ak [2] [] func51 rfl rfl ntmps51 rfl rfl (.bool _) λhs σ=>?_
 have hsl:s.length≤maxLen:=c7 (hs _ (by simp))
 simp only[go_sem,simprocAttr]
 refine VC.upto [] s.length (λi A=>A.env 0= .str s∧A.env 6= .int .i64 s.length∧A.env 7= .int .i64 i∧A.st=σ∧ ∀j c,j<i→s[j]?=some c→gk j c=true) 0 (Nat.zero_le _) (.here ?_) λi A hi ⟨h0,h6,h7,hst,hI⟩=>?_
 ·simp only[go_sem,simprocAttr]
  all_goals simp
 simp only[go_sem,simprocAttr,h0,h6,h7,hst]
 refine⟨λhc=>⟨hc,al.fn (yJ _) ?_⟩,λhc=>?_⟩
 ·obtain⟨c,hc'⟩:=get_some hc
  simp only[go_sem,simprocAttr,h0,h6,h7,hst,hc']
  refine aA.fnG (λ_=>fD _) ?_
  simp only[go_sem,simprocAttr,h0,h6,h7,hst,hc']
  refine⟨λhb=>aj ?_,λhb=>⟨hc,.here ?_⟩⟩
  ·have:gk i c=false:=by simp[gk]at hb ⊢;refine⟨hb.1,?_⟩;omega
   rw[cq,nG hc' this,Bool.and_false]
  ·simp only[go_sem,simprocAttr,h0,h6,h7,hst]
   refine⟨ag hc hsl,λj d hj hd=>?_⟩
   rcases Nat.lt_succ_iff_lt_or_eq.1 hj with hj|rfl
   ·exact hI j d hj hd
   ·have e:d=c:=by rw[hd]at hc';exact Option.some.inj hc'
    subst e
    revert hb
    unfold gk
    cases gI d<;>cases aJ d<;>simp
    omega
 ·have:jc gk 0 s=true:=iw.2 λj c hj=>by rw[Nat.zero_add];exact hI j c (by have:=(List.getElem?_eq_some_iff.1 hj).1;omega) hj
  refine aj ?_
  rw[cq,this,Bool.and_true]
  congr 1<;>exact decide_eq_decide.2 (by omega)
theorem AL (rel:Int):(!(pJ rel==[]))=(decide (1≤rel)&&decide (rel≤5)):=by
 unfold pJ
 by_cases h1:rel=1
 ·subst h1;rfl
 by_cases h2:rel=2
 ·subst h2;rfl
 by_cases h3:rel=3
 ·subst h3;rfl
 by_cases h4:rel=4
 ·subst h4;rfl
 by_cases h5:rel=5
 ·subst h5;rfl
 rw[if_neg h1,if_neg h2,if_neg h3,if_neg h4,if_neg h5]
 simp
 omega
theorem sA (a:Atom):ah prog W0 137 [aR a] (.bool (bY a)):=by
 refine ak [2] [1] func137 rfl rfl ntmps137 rfl rfl (.bool _) λhs σ=>?_
 simp only[go_sem,simprocAttr,aR]
 refine al.fn (xM a.name) ?_
 simp only[go_sem,simprocAttr,aR]
 refine⟨λhn=>aj (by rw[bY,hn];rfl),λhn=>⟨λh0=>aj (by rw[bY,hn,if_pos h0];rfl),λh0=>al.fn (E5 a.rel) ?_⟩⟩
 simp only[go_sem,simprocAttr,aR]
 refine aA.fnG (λ_=>rn a.ver) ?_
 simp only[go_sem,simprocAttr,aR]
 refine aj ?_
 rw[bY,hn,if_neg h0,Bool.true_and,AL]
end Go.Proofs.Tryz
end
section
namespace Go.Proofs.Tryz
open Go Go.Av
set_option maxRecDepth 10000
variable {W0 :World}
theorem pj (c:UInt8):ah prog W0 200 [.int .u8 c.toNat] (.bool (aJ c)):=by
 refine ak [2] [] func200 rfl rfl ntmps200 rfl rfl (.bool _) λ_ σ=>?_
 simp only[go_sem,simprocAttr]
 exact aj (by rw[aJ];congr 1<;>exact decide_eq_decide.2 (by omega))
theorem uZ (c:UInt8):ah prog W0 236 [.int .u8 c.toNat] (.bool (cK c)):=by
 refine ak [2] [] func236 rfl rfl ntmps236 rfl rfl (.bool _) λ_ σ=>?_
 simp only[go_sem,simprocAttr]
 refine aj ?_
 unfold cK gI
 congr 2<;>exact decide_eq_decide.2 (by omega)
theorem BK (s:List UInt8):ah prog W0 198 [.str s] (.bool (decide (1≤s.length)&&decide (s.length≤9)&&s.all aJ)):=by
 refine ak [2] [] func198 rfl rfl ntmps198 rfl rfl (.bool _) λhs σ=>?_
 simp only[go_sem,simprocAttr]
 refine⟨λh=>aj ?_,λh=>?_⟩
 ·cases s with
  |nil=>rfl
  |cons c r=>
   have: ¬((c::r).length≤9):=by simp at h ⊢;omega
   rw[decide_eq_false this];simp
 have hl:1≤s.length∧s.length≤9:=by cases s<;>simp at h ⊢;omega
 refine VC.ck [] (λk A=>∃ pos,A.env 13= .it σ.length∧A.st=σ++[some (.iter s pos)]∧k=s.length-pos∧pos≤s.length∧(s.take pos).all aJ=true) s.length (.here ⟨0,?_⟩) λk A ⟨pos,h13,hst,hk,hp,hI⟩=>?_
 ·simp only[go_sem,simprocAttr]
  all_goals simp
 simp only[go_sem,simprocAttr,h13,hst]
 refine⟨λhlt=>?_,λhge=>?_⟩
 ·obtain⟨c,hc⟩:=get_some hlt
  simp only[Bool.or_eq_true,Bool.or_eq_false_iff,decide_eq_true_eq,decide_eq_false_iff_not]
  have bad:aJ c=false→(decide (1≤s.length)&&decide (s.length≤9)&&s.all aJ)=false:=λhd=>by rw[all_false hc hd,Bool.and_false]
  rcases Nat.lt_or_ge c.toNat 128 with h8|h8
  ·rw[mI hc h8]
   refine⟨λhb=>aj (bad ?_).symm,λhb=>.here (s.length-(pos+1)) (by omega) ⟨pos+1,?_⟩⟩
   ·simp[aJ];omega
   ·simp only[go_sem,simprocAttr,h13,hst]
    exact⟨by omega,mF hI hc (by simp[aJ];omega)⟩
  ·have:=qQ hc h8
   refine⟨λhb=>aj (bad ?_).symm,λhb=>by omega⟩
   simp[aJ];omega
 ·have:pos=s.length:=by omega
  rw[this,List.take_length]at hI
  refine aj ?_
  simp[hl,hI]
end Go.Proofs.Tryz
end
section
namespace Go.Proofs.Tryz
open Go Go.Av
set_option maxRecDepth 10000
variable {W0 :World}
theorem J5 {α:Type}(enc:α→AV)(hp: ∀a,cS (enc a))(l:List α)(q:α→Bool)(g:FuncId)(caps:List AV)(h: ∀a∈l,ah prog W0 g ([enc a]++caps) (.bool (q a))):
  ah prog W0 239 [.sl 81 (l.map enc),.fn g caps] (.int .i64 (fC q l)):=by
 refine ak [4] [] func239 rfl rfl ntmps239 rfl rfl (.int _ _) λhs σ=>?_
 have hl:=(aF (hs _ (List.mem_cons_self ..))).1
 simp only[go_sem,simprocAttr]
 refine ae.upto [0,1,7] (.of (by kernel_rfl)) l.length (λi A=>A.env 8= .int .i64 i∧A.st=σ∧ ∀a∈l.take i,q a=false) 0 (Nat.zero_le _) ?_ λi B hi ⟨h8,hst,hI⟩=>?_
 ·simp only[go_sem,simprocAttr]
  all_goals simp
 simp only[go_sem,simprocAttr,h8,hst,List.length_map]
 refine⟨λhc=>⟨hc,?_⟩,λhc=>au ?_⟩
 ·obtain⟨a,ha⟩:=get_some hc
  simp only[ar ha,bT (hp a),cB (hp a),true_and]
  refine al.pure (h a (List.mem_of_getElem? ha)) ?_
  simp only[go_sem,simprocAttr,h8,hst]
  refine⟨λhq=>au (e8 ha hq hI).symm,λhq=>⟨hc,ag hc hl,?_⟩⟩
  rw[ai ha]
  intro b hb
  rcases List.mem_append.1 hb with hb|hb
  ·exact hI b hb
  ·rw[List.mem_singleton.1 hb];exact hq
 ·rw[dq]
  rwa [List.take_of_length_le hc]at hI
theorem Pc {α:Type}(enc:α→AV)(hp: ∀a,cS (enc a))(l:List α)(q:α→Bool)(g:FuncId)(caps:List AV)(h: ∀a∈l,ah prog W0 g ([enc a]++caps) (.bool (q a))):
  ah prog W0 233 [.sl 81 (l.map enc),.fn g caps] (.int .i64 (fC q l)):=by
 refine ak [4] [] func233 rfl rfl ntmps233 rfl rfl (.int _ _) λhs σ=>?_
 have hl:=(aF (hs _ (List.mem_cons_self ..))).1
 simp only[go_sem,simprocAttr]
 refine ae.upto [0,1,7] (.of (by kernel_rfl)) l.length (λi A=>A.env 8= .int .i64 i∧A.st=σ∧ ∀a∈l.take i,q a=false) 0 (Nat.zero_le _) ?_ λi B hi ⟨h8,hst,hI⟩=>?_
 ·simp only[go_sem,simprocAttr]
  all_goals simp
 simp only[go_sem,simprocAttr,h8,hst,List.length_map]
 refine⟨λhc=>⟨hc,?_⟩,λhc=>au ?_⟩
 ·obtain⟨a,ha⟩:=get_some hc
  simp only[ar ha,bT (hp a),cB (hp a),true_and]
  refine al.pure (h a (List.mem_of_getElem? ha)) ?_
  simp only[go_sem,simprocAttr,h8,hst]
  refine⟨λhq=>au (e8 ha hq hI).symm,λhq=>⟨hc,ag hc hl,?_⟩⟩
  rw[ai ha]
  intro b hb
  rcases List.mem_append.1 hb with hb|hb
  ·exact hI b hb
  ·rw[List.mem_singleton.1 hb];exact hq
 ·rw[dq]
  rwa [List.take_of_length_le hc]at hI
theorem Tw {α:Type}(enc:α→AV)(hp: ∀a,cS (enc a))(l:List α)(q:α→Bool)(g:FuncId)(caps:List AV)(h: ∀a∈l,ah prog W0 g ([enc a]++caps) (.bool (q a))):
  ah prog W0 83 [.sl 54 (l.map enc),.fn g caps] (.int .i64 (fC q l)):=by
 refine ak [4] [] func83 rfl rfl ntmps83 rfl rfl (.int _ _) λhs σ=>?_
 have hl:=(aF (hs _ (List.mem_cons_self ..))).1
 simp only[go_sem,simprocAttr]
 refine ae.upto [0,1,7] (.of (by kernel_rfl)) l.length (λi A=>A.env 8= .int .i64 i∧A.st=σ∧ ∀a∈l.take i,q a=false) 0 (Nat.zero_le _) ?_ λi B hi ⟨h8,hst,hI⟩=>?_
 ·simp only[go_sem,simprocAttr]
  all_goals simp
 simp only[go_sem,simprocAttr,h8,hst,List.length_map]
 refine⟨λhc=>⟨hc,?_⟩,λhc=>au ?_⟩
 ·obtain⟨a,ha⟩:=get_some hc
  simp only[ar ha,bT (hp a),cB (hp a),true_and]
  refine al.pure (h a (List.mem_of_getElem? ha)) ?_
  simp only[go_sem,simprocAttr,h8,hst]
  refine⟨λhq=>au (e8 ha hq hI).symm,λhq=>⟨hc,ag hc hl,?_⟩⟩
  rw[ai ha]
  intro b hb
  rcases List.mem_append.1 hb with hb|hb
  ·exact hI b hb
  ·rw[List.mem_singleton.1 hb];exact hq
 ·rw[dq]
  rwa [List.take_of_length_le hc]at hI
theorem Nh {α:Type}(enc:α→AV)(hp: ∀a,cS (enc a))(l:List α)(q:α→Bool)(g:FuncId)(caps:List AV)(h: ∀a∈l,ah prog W0 g ([enc a]++caps) (.bool (q a))):
  ah prog W0 229 [.sl 147 (l.map enc),.fn g caps] (.int .i64 (fC q l)):=by
 refine ak [4] [] func229 rfl rfl ntmps229 rfl rfl (.int _ _) λhs σ=>?_
 have hl:=(aF (hs _ (List.mem_cons_self ..))).1
 simp only[go_sem,simprocAttr]
 refine ae.upto [0,1,7] (.of (by kernel_rfl)) l.length (λi A=>A.env 8= .int .i64 i∧A.st=σ∧ ∀a∈l.take i,q a=false) 0 (Nat.zero_le _) ?_ λi B hi ⟨h8,hst,hI⟩=>?_
 ·simp only[go_sem,simprocAttr]
  all_goals simp
 simp only[go_sem,simprocAttr,h8,hst,List.length_map]
 refine⟨λhc=>⟨hc,?_⟩,λhc=>au ?_⟩
 ·obtain⟨a,ha⟩:=get_some hc
  simp only[ar ha,bT (hp a),cB (hp a),true_and]
  refine al.pure (h a (List.mem_of_getElem? ha)) ?_
  simp only[go_sem,simprocAttr,h8,hst]
  refine⟨λhq=>au (e8 ha hq hI).symm,λhq=>⟨hc,ag hc hl,?_⟩⟩
  rw[ai ha]
  intro b hb
  rcases List.mem_append.1 hb with hb|hb
  ·exact hI b hb
  ·rw[List.mem_singleton.1 hb];exact hq
 ·rw[dq]
  rwa [List.take_of_length_le hc]at hI
theorem GU {α:Type}(enc:α→AV)(hp: ∀a,cS (enc a))(l:List α)(q:α→Bool)(g:FuncId)(caps:List AV)(h: ∀a∈l,ah prog W0 g ([enc a]++caps) (.bool (q a))):
  ah prog W0 238 [.sl 72 (l.map enc),.fn g caps] (.int .i64 (fC q l)):=by
 refine ak [4] [] func238 rfl rfl ntmps238 rfl rfl (.int _ _) λhs σ=>?_
 have hl:=(aF (hs _ (List.mem_cons_self ..))).1
 simp only[go_sem,simprocAttr]
 refine ae.upto [0,1,7] (.of (by kernel_rfl)) l.length (λi A=>A.env 8= .int .i64 i∧A.st=σ∧ ∀a∈l.take i,q a=false) 0 (Nat.zero_le _) ?_ λi B hi ⟨h8,hst,hI⟩=>?_
 ·simp only[go_sem,simprocAttr]
  all_goals simp
 simp only[go_sem,simprocAttr,h8,hst,List.length_map]
 refine⟨λhc=>⟨hc,?_⟩,λhc=>au ?_⟩
 ·obtain⟨a,ha⟩:=get_some hc
  simp only[ar ha,bT (hp a),cB (hp a),true_and]
  refine al.pure (h a (List.mem_of_getElem? ha)) ?_
  simp only[go_sem,simprocAttr,h8,hst]
  refine⟨λhq=>au (e8 ha hq hI).symm,λhq=>⟨hc,ag hc hl,?_⟩⟩
  rw[ai ha]
  intro b hb
  rcases List.mem_append.1 hb with hb|hb
  ·exact hI b hb
  ·rw[List.mem_singleton.1 hb];exact hq
 ·rw[dq]
  rwa [List.take_of_length_le hc]at hI
end Go.Proofs.Tryz
end
section
namespace Go.Proofs.Tryz
open Go Go.Av
set_option maxRecDepth 10000
variable {W0 :World}
theorem JL {α:Type}(enc:α→AV)(hp: ∀a,cS (enc a))(l:List α)(q:α→Bool)(g:FuncId)(caps:List AV)(h: ∀a∈l,ah prog W0 g ([enc a]++caps) (.bool (q a))):
  ah prog W0 203 [.sl 81 (l.map enc),.fn g caps] (.bool (l.any q)):=by
 refine ak [4] [] func203 rfl rfl ntmps203 rfl rfl (.bool _) λhs σ=>?_
 simp only[go_sem,simprocAttr]
 refine al.fn (J5 enc hp l q g caps h) ?_
 simp only[go_sem,simprocAttr]
 exact aj iV
theorem GC {α:Type}(enc:α→AV)(hp: ∀a,cS (enc a))(l:List α)(q:α→Bool)(g:FuncId)(caps:List AV)(h: ∀a∈l,ah prog W0 g ([enc a]++caps) (.bool (q a))):
  ah prog W0 193 [.sl 81 (l.map enc),.fn g caps] (.bool (l.any q)):=by
 refine ak [4] [] func193 rfl rfl ntmps193 rfl rfl (.bool _) λhs σ=>?_
 simp only[go_sem,simprocAttr]
 refine al.fn (Pc enc hp l q g caps h) ?_
 simp only[go_sem,simprocAttr]
 exact aj iV
theorem Mn {α:Type}(enc:α→AV)(hp: ∀a,cS (enc a))(l:List α)(q:α→Bool)(g:FuncId)(caps:List AV)(h: ∀a∈l,ah prog W0 g ([enc a]++caps) (.bool (q a))):
  ah prog W0 36 [.sl 54 (l.map enc),.fn g caps] (.bool (l.any q)):=by
 refine ak [4] [] func36 rfl rfl ntmps36 rfl rfl (.bool _) λhs σ=>?_
 simp only[go_sem,simprocAttr]
 refine al.fn (Tw enc hp l q g caps h) ?_
 simp only[go_sem,simprocAttr]
 exact aj iV
theorem OU {α:Type}(enc:α→AV)(hp: ∀a,cS (enc a))(l:List α)(q:α→Bool)(g:FuncId)(caps:List AV)(h: ∀a∈l,ah prog W0 g ([enc a]++caps) (.bool (q a))):
  ah prog W0 182 [.sl 147 (l.map enc),.fn g caps] (.bool (l.any q)):=by
 refine ak [4] [] func182 rfl rfl ntmps182 rfl rfl (.bool _) λhs σ=>?_
 simp only[go_sem,simprocAttr]
 refine al.fn (Nh enc hp l q g caps h) ?_
 simp only[go_sem,simprocAttr]
 exact aj iV
theorem GI {α:Type}(enc:α→AV)(hp: ∀a,cS (enc a))(l:List α)(q:α→Bool)(g:FuncId)(caps:List AV)(h: ∀a∈l,ah prog W0 g ([enc a]++caps) (.bool (q a))):
  ah prog W0 201 [.sl 72 (l.map enc),.fn g caps] (.bool (l.any q)):=by
 refine ak [4] [] func201 rfl rfl ntmps201 rfl rfl (.bool _) λhs σ=>?_
 simp only[go_sem,simprocAttr]
 refine al.fn (GU enc hp l q g caps h) ?_
 simp only[go_sem,simprocAttr]
 exact aj iV
theorem MW (l:List (List UInt8))(s:List UInt8):ah prog W0 205 [.sl 9 (l.map .str),.str s] (.int .i64 (fC (λx=>s==x) l)):=by
 refine ak [4] [] func205 rfl rfl ntmps205 rfl rfl (.int _ _) λhs σ=>?_
 have hl:=(aF (hs _ (List.mem_cons_self ..))).1
 simp only[go_sem,simprocAttr]
 refine ae.upto [0,1,7] (.of (by kernel_rfl)) l.length (λi A=>A.env 8= .int .i64 i∧A.st=σ∧ ∀a∈l.take i,(s==a)=false) 0 (Nat.zero_le _) ?_ λi B hi ⟨h8,hst,hI⟩=>?_
 ·simp only[go_sem,simprocAttr]
  all_goals simp
 simp only[go_sem,simprocAttr,h8,hst,List.length_map]
 refine⟨λhc=>⟨hc,?_⟩,λhc=>au ?_⟩
 ·obtain⟨a,ha⟩:=get_some hc
  simp only[ar ha]
  simp only[go_sem,simprocAttr,h8,hst]
  refine⟨λhq=>au (e8 (q:=λx=>s==x) ha (by simpa using hq) hI).symm,λhq=>⟨hc,ag hc hl,?_⟩⟩
  rw[ai ha]
  intro b hb
  rcases List.mem_append.1 hb with hb|hb
  ·simpa using hI b hb
  ·rw[List.mem_singleton.1 hb];simpa using hq
 ·rw[dq]
  rwa [List.take_of_length_le hc]at hI
theorem O5 (l:List (List UInt8))(s:List UInt8):ah prog W0 150 [.sl 9 (l.map .str),.str s] (.bool (l.any λx=>s==x)):=by
 refine ak [4] [] func150 rfl rfl ntmps150 rfl rfl (.bool _) λhs σ=>?_
 simp only[go_sem,simprocAttr]
 refine al.fn (MW l s) ?_
 simp only[go_sem,simprocAttr]
 exact aj iV
theorem Fl (a:Int):ah prog W0 251 [.int .i64 a] (.bool false):=by
 refine ak [2] [] func251 rfl rfl ntmps251 rfl rfl (.bool _) λhs σ=>?_
 simp only[go_sem,simprocAttr]
 exact aj (by simp)
theorem G2 (a b:Int):ah prog W0 226 [.int .i64 a,.int .i64 b] (.int .i64 (sgn a b)):=by
 refine ak [4] [] func226 rfl rfl ntmps226 rfl rfl (.int _ _) λhs σ=>?_
 simp only[go_sem,simprocAttr]
 refine al.fn (Fl a) ?_
 simp only[go_sem,simprocAttr]
 refine al.fn (Fl b) ?_
 simp only[go_sem,simprocAttr]
 refine⟨λh=>au (by simp[sgn,h]),λh=>⟨λh'=>au (by simp[sgn,h'];omega),λh'=>au (by rw[sgn,if_neg (by omega),if_neg (by omega)])⟩⟩
theorem CS (s:List UInt8):ah prog W0 156 [.str s] (.bool false):=by
 refine ak [2] [] func156 rfl rfl ntmps156 rfl rfl (.bool _) λhs σ=>?_
 simp only[go_sem,simprocAttr]
theorem xe (a b:List UInt8):ah prog W0 95 [.str a,.str b] (.int .i64 (fL a b)):=by
 refine ak [4] [] func95 rfl rfl ntmps95 rfl rfl (.int _ _) λhs σ=>?_
 simp only[go_sem,simprocAttr]
 refine al.fn (CS a) ?_
 simp only[go_sem,simprocAttr]
 refine al.fn (CS b) ?_
 simp only[go_sem,simprocAttr]
 refine⟨λh=>au (by simp[fL,h]),λh=>⟨λh'=>au (by simp at h';simp[fL,h,h'.2]),λh'=>au ?_⟩⟩
 rw[fL,h]
 simp at h' ⊢
 rcases h' with h'|h'
 ·rw[h]at h';cases h'
 ·exact h'
theorem Fo (l:List Int):ah prog W0 94 [.sl 3 (l.map (.int .i64))] (.int .i64 (orL l)):=by
 refine ak [2] [] func94 rfl rfl ntmps94 rfl rfl (.int _ _) λhs σ=>?_
 have hl:=(aF (hs _ (List.mem_cons_self ..))).1
 simp only[go_sem,simprocAttr]
 refine ae.upto [3,6,7] (.of (by kernel_rfl)) l.length (λi A=>A.env 8= .int .i64 i∧A.st=σ∧orL (l.drop i)=orL l) 0 (Nat.zero_le _) ?_ λi B hi ⟨h8,hst,hI⟩=>?_
 ·simp only[go_sem,simprocAttr]
  all_goals simp
 simp only[go_sem,simprocAttr,h8,hst,List.length_map]
 refine⟨λhc=>⟨hc,?_⟩,λhc=>au ?_⟩
 ·obtain⟨a,ha⟩:=get_some hc
  obtain⟨hlt,hae⟩:=List.getElem?_eq_some_iff.1 ha
  simp only[ar ha]
  simp only[go_sem,simprocAttr,h8,hst]
  rw[List.drop_eq_getElem_cons hlt,hae]at hI
  refine⟨λhq=>au (by rw[←hI,orL,if_pos hq]),λhq=>⟨hc,ag hc hl,?_⟩⟩
  rw[←hI,orL,if_neg (by simpa using hq)]
 ·rw[List.drop_eq_nil_of_le hc]at hI
  exact hI
theorem wD (s:List UInt8)(c:UInt8):ah prog W0 277 [.str s,.int .u8 c.toNat] (.int .i64 (aP c s)):=by
 refine Nu (e:=Extern.BytealgIndexByte.indexByte) func277 (by kernel_rfl) (by kernel_rfl) (by kernel_rfl) (by kernel_rfl) λw C vs hl hv=>?_
 obtain⟨x,y,rfl⟩: ∃x y,vs=[x,y]:=by
  match vs,hl with
  |[x,y],_=>exact⟨x,y,rfl⟩
 obtain⟨hx,_⟩:=(hv 0 _ x rfl rfl).gT
 have hy:=(hv 1 _ y rfl rfl).cJ
 subst hx hy
 refine⟨_,Lib.run_indexByteString _ _ w,?_⟩
 have e:Lib.indexByte s (c.toNat:Int).toNat.toUInt8=aP c s:=by rw[show(c.toNat:Int).toNat.toUInt8=c by simp];exact pU s c
 rw[show(ByteArray.mk s.toArray).data.toList=s from rfl,e]
 exact .one rfl (.int _ _)
theorem wy (s:List UInt8)(c:UInt8):ah prog W0 271 [.str s,.int .u8 c.toNat] (.int .i64 (aP c s)):=by
 refine ak [4] [] func271 rfl rfl ntmps271 rfl rfl (.int _ _) λhs σ=>?_
 simp only[go_sem,simprocAttr]
 refine al.fn (wD s c) ?_
 simp only[go_sem,simprocAttr]
theorem zH (s:List UInt8)(c:UInt8):ah prog W0 261 [.str s,.str [c]] (.int .i64 (aP c s)):=by
 refine ak [4] [] func261 rfl rfl ntmps261 rfl rfl (.int _ _) λhs σ=>?_
 simp only[go_sem,simprocAttr]
 refine⟨λh=>au (by rw[←h];simp[aP,List.findIdx?_cons]),λh=>al.fn (wy s c) ?_⟩
 simp only[go_sem,simprocAttr]
theorem Gt (s:List UInt8)(c:UInt8):ah prog W0 262 [.str s,.str [c]] (.int .i64 (aP c s)):=by
 refine ak [4] [] func262 rfl rfl ntmps262 rfl rfl (.int _ _) λhs σ=>?_
 simp only[go_sem,simprocAttr]
 refine al.fn (zH s c) ?_
 simp only[go_sem,simprocAttr]
theorem zk (s:List UInt8)(c:UInt8):ah prog W0 237 [.str s,.str [c]] (.bool (s.contains c)):=by
 refine ak [4] [] func237 rfl rfl ntmps237 rfl rfl (.bool _) λhs σ=>?_
 simp only[go_sem,simprocAttr]
 refine al.fn (Gt s c) ?_
 simp only[go_sem,simprocAttr]
 exact aj (AM s c)
theorem No (s:List UInt8)(c:UInt8):ah prog W0 234 [.str s,.str [c]] (tC c s):=by
 refine ak [4,5,6] [] func234 rfl rfl ntmps234 rfl rfl (vq c s) λhs σ=>?_
 have hl:s.length≤maxLen:=c7 (hs _ (by simp))
 simp only[go_sem,simprocAttr]
 refine al.fn (zH s c) ?_
 simp only[go_sem,simprocAttr]
 refine⟨λh=>?_,λh=>?_⟩
 ·obtain⟨i,hi,hg,hlt⟩:=(fy c s).resolve_left (λe=>by rw[e.1]at h;simp at h)
  rw[hi]
  have hw:IntKind.i64.wrap ((i:Int)+1)=((i+1:Nat):Int):=jf hlt hl
  simp only[go_sem,simprocAttr,hw]
  refine⟨.of (by kernel_rfl),by omega,by omega,?_⟩
  rw[tC,JB,Hy,hi,if_pos (by omega),if_pos (by omega),Int.toNat_natCast,decide_eq_true (by omega)]
  exact .refl _
 ·have h:=h
  simp at h
  rw[tC,JB,Hy,if_neg (by omega),if_neg (by omega),decide_eq_false (by omega)]
  exact .refl _
theorem MT (s:List UInt8)(c:UInt8):ah prog W0 196 [.str s,.str [c]] (tC c s):=by
 refine ak [4,5,6] [] func196 rfl rfl ntmps196 rfl rfl (vq c s) λhs σ=>?_
 simp only[go_sem,simprocAttr]
 refine al.fn (No s c) ?_
 simp only[go_sem,simprocAttr,tC]
theorem qn (s:List UInt8)(c:UInt8):ah prog W0 235 [.str s,.int .u8 c.toNat] (.int .i64 (lastOf c s)):=by
 refine ak [4] [] func235 rfl rfl ntmps235 rfl rfl (.int _ _) λhs σ=>?_
 have hsl:s.length≤9223372036854775807:=c7 (hs _ (by simp))
 simp only[go_sem,simprocAttr]
 refine ae.ck [0,1] (.of (by kernel_rfl)) (λk A=>A.env 5= .int .i64 ((k:Int)-1)∧A.st=σ∧k≤s.length∧lastOf c s=jK c s k) s.length ?_ λk B ⟨h5,hst,hk,hI⟩=>?_
 ·simp only[go_sem,simprocAttr]
  exact⟨by rw[aH (by omega)],rfl⟩
 simp only[go_sem,simprocAttr,h5,hst]
 refine⟨λhc=>?_,λhc=>?_⟩
 ·obtain⟨k,rfl⟩: ∃j,k=j+1:=⟨k-1,by omega⟩
  have e:(((k+1:Nat):Int)-1)=(k:Int):=by omega
  simp only[go_sem,simprocAttr,e]
  obtain⟨x,hx⟩:=get_some (show k<s.length by omega)
  simp only[hx,Option.getD_some]
  refine⟨by omega,λh=>au ?_,λh=>.here k (by omega) ?_⟩
  ·rw[hI,jK,if_pos (by rw[hx];congr 1)]
  ·simp only[go_sem,simprocAttr,hst]
   refine⟨by rw[aH (by omega)],by omega,?_⟩
   rw[hI,jK,if_neg (by rw[hx];simpa using h)]
 ·have:k=0:=by omega
  subst this
  exact au (by rw[hI];rfl)
theorem qP (s:List UInt8)(c:UInt8):ah prog W0 197 [.str s,.int .u8 c.toNat] (.int .i64 (lastOf c s)):=by
 refine ak [4] [] func197 rfl rfl ntmps197 rfl rfl (.int _ _) λhs σ=>?_
 simp only[go_sem,simprocAttr]
 refine al.fn (qn s c) ?_
 simp only[go_sem,simprocAttr]
theorem rP (s:List UInt8)(c:UInt8):ah prog W0 279 [.str s,.int .u8 c.toNat] (.str (s.dropWhile (· ==c))):=by
 refine ak [4] [] func279 rfl rfl ntmps279 rfl rfl (.str _) λhs σ=>?_
 simp only[go_sem,simprocAttr]
 refine ae.ck [1] (.of (by kernel_rfl)) (λk A=>∃ x,A.env 0= .str x∧A.st=σ∧k=x.length∧x.dropWhile (· ==c)=s.dropWhile (· ==c)) s.length ⟨s,?_⟩ λk B ⟨x,h0,hst,hk,hI⟩=>?_
 ·simp only[go_sem,simprocAttr]
 cases x with
 |nil=>
  simp only[go_sem,simprocAttr,h0,hst]
  exact ft hI
 |cons d r=>
  simp only[go_sem,simprocAttr,h0,hst]
  refine⟨λh=>.here r.length (by simp[hk]) ⟨r,?_⟩,λh=>ft ?_⟩
  ·simp only[go_sem,simprocAttr,hst]
   rw[←hI,List.dropWhile_cons,if_pos (by have h:=h;simp at h ⊢;exact UInt8.toNat_inj.1 (by omega))]
  ·rw[←hI,List.dropWhile_cons,if_neg (by have h:=h;simp at h ⊢;intro e;subst e;exact h rfl)]
theorem zh (s:List UInt8)(c:UInt8)(hc:c.toNat<128):ah prog W0 275 [.str s,.str [c]] (.str (s.dropWhile (· ==c))):=by
 refine ak [4] [] func275 rfl rfl ntmps275 rfl rfl (.str _) λhs σ=>?_
 cases s with
 |nil=>simp only[go_sem,simprocAttr];exact .refl _
 |cons d r=>
  have hc':((c.toNat:Int)<128):=by omega
  simp only[go_sem,simprocAttr,hc']
  refine al.fn (rP (d::r) c) ?_
  simp only[go_sem,simprocAttr]
end Go.Proofs.Tryz
end
section
namespace Go.Av
def yk (c:UInt8):Int:=if c.toNat=126 then-1 else if cK c then c.toNat else c.toNat+256
def rkP :List UInt8→Int
 |[]=>0
 |c::_=>if aJ c then 0 else yk c
theorem Bx {c:UInt8}(h:cK c=true):65≤c.toNat∧c.toNat≤122:=by
 simp only[cK,gI,Bool.or_eq_true,Bool.and_eq_true,decide_eq_true_eq]at h
 omega
theorem ni (c:UInt8)(h:aJ c=false):(rk [c]= -1∧rkP [c]= -1∧c.toNat=126)∨(rk [c]=1+c.toNat∧rkP [c]=c.toNat∧65≤c.toNat∧c.toNat≤122)∨(rk [c]=300+c.toNat∧rkP [c]=256+c.toNat∧True):=by
 simp only[rk,rkP,h,Bool.false_eq_true,if_false,rq,yk]
 by_cases h1:c.toNat=126
 ·left;simp[h1]
 ·right
  simp only[h1,if_false]
  cases h2:cK c with
  |true=>left;simp only[if_true,true_and];exact Bx h2
  |false=>right;simp only[Bool.false_eq_true,if_false,true_and,and_true];omega
theorem Cq (a:List UInt8):(rk a=0∧rkP a=0)∨ ∃c r,a=c::r∧aJ c=false∧rk a=rk [c]∧rkP a=rkP [c]:=by
 cases a with
 |nil=>exact .inl ⟨rfl,rfl⟩
 |cons c r=>
  cases h:aJ c with
  |true=>left;simp[rk,rkP,h]
  |false=>right;exact⟨c,r,rfl,h,rfl,rfl⟩
theorem Cs (a b:List UInt8):sgn (rkP a) (rkP b)=sgn (rk a) (rk b):=by
 have key:(rkP a<rkP b↔rk a<rk b)∧(rkP a>rkP b↔rk a>rk b):=by
  rcases Cq a with⟨a1,a2⟩|⟨c,r,_,hc,a1,a2⟩<;>rcases Cq b with⟨b1,b2⟩|⟨d,r',_,hd,b1,b2⟩
  ·rw[a1,a2,b1,b2];simp
  ·rcases ni d hd with h|h|h<;>rw[a1,a2,b1,b2,h.1,h.2.1]<;>omega
  ·rcases ni c hc with h|h|h<;>rw[a1,a2,b1,b2,h.1,h.2.1]<;>omega
  ·have hc8:=c.toNat_lt
   have hd8:=d.toNat_lt
   rcases ni c hc with h|h|h<;>rcases ni d hd with h'|h'|h'<;>rw[a1,a2,b1,b2,h.1,h.2.1,h'.1,h'.2.1]<;>omega
 unfold sgn
 simp only[key.1,key.2]
theorem yR {a b:Int}:sgn a b=0↔a=b:=⟨nY,λh=>by rw[h,mB]⟩
theorem AI (a b:List UInt8):rkP a=rkP b↔rk a=rk b:=by rw[←yR,Cs,yR]
theorem tv (a:List UInt8):rkP a=0↔rk a=0:=AI a []
theorem x0 {a:List UInt8}(h:rk a=0):bo a=a:=by
 cases a with
 |nil=>rfl
 |cons c r=>
  cases hd:aJ c with
  |true=>simp[bo,hd]
  |false=>exact absurd h (by simp[rk,hd,GG])
theorem ua {a:List UInt8}(h:rk a≠0):bo a.tail=bo a:=by
 obtain⟨c,r,rfl,hd⟩:=zD h
 simp[bo,hd]
def eU (s:List UInt8):List UInt8:=(s.takeWhile aJ).dropWhile (· ==48)
def iq (s:List UInt8):List UInt8:=s.dropWhile aJ
theorem CZ :aJ 48=true:=by decide
theorem nb (s:List UInt8):eU s=(fA s).take (bj (fA s))∧iq s=(fA s).drop (bj (fA s)):=by
 have key: ∀s:List UInt8,s.takeWhile aJ=s.take (bj s)∧s.dropWhile aJ=s.drop (bj s):=λs=>by
  induction s with
  |nil=>exact⟨rfl,rfl⟩
  |cons c r ih=>
   cases h:aJ c with
   |true=>
    have e:bj (c::r)=bj r+1:=by simp[bj,h]
    rw[e,List.takeWhile_cons,List.dropWhile_cons,if_pos h,if_pos h,List.take_succ_cons,List.drop_succ_cons,ih.1,ih.2]
    exact⟨rfl,rfl⟩
   |false=>
    have e:bj (c::r)=0:=by simp[bj,h]
    rw[e,List.takeWhile_cons,List.dropWhile_cons,h]
    exact⟨rfl,rfl⟩
 induction s with
 |nil=>exact⟨rfl,rfl⟩
 |cons c r ih=>
  by_cases h0:c=48
  ·subst h0
   have e1:fA (48::r)=fA r:=by simp[fA]
   rw[e1,←ih.1,←ih.2]
   refine⟨?_,?_⟩
   ·simp[eU,CZ]
   ·simp[iq,CZ]
  ·have e1:fA (c::r)=c::r:=by simp[fA,h0]
   rw[e1,←(key (c::r)).1,←(key (c::r)).2]
   refine⟨?_,rfl⟩
   unfold eU
   cases h:aJ c with
   |true=>simp[List.takeWhile_cons,h,h0]
   |false=>simp[List.takeWhile_cons,h]
theorem zT (s:List UInt8):(s.take (bj s)).length=bj s:=by
 rw[List.length_take]
 have:=pk s
 omega
theorem yW : ∀(a b:List UInt8),a.length=b.length→fL a b=fk a b
 |[],[],_=>rfl
 |[],_::_,h=>by simp at h
 |_::_,[],h=>by simp at h
 |x::a,y::b,h=>by
  have ih:=yW a b (by simpa using h)
  unfold fk
  by_cases hxy:x=y
  ·subst hxy
   rw[if_pos rfl,←ih]
   simp[fL,Op.bytesLess]
  ·rw[if_neg hxy]
   have hne:x.toNat≠y.toNat:=λe=>hxy (UInt8.toNat_inj.1 e)
   have hb:(x==y)=false:=by simpa using hxy
   simp only[fL,Op.bytesLess,hb,Bool.false_and,Bool.or_false,List.cons.injEq,hxy,false_and,if_false,decide_eq_true_eq,UInt8.lt_iff_toNat_lt,sgn]
   by_cases hl:x.toNat<y.toNat
   ·rw[if_pos hl,if_pos (by omega)]
   ·rw[if_neg hl,if_neg (by omega),if_pos (by omega)]
def xr (x y:List UInt8):Int:=if (eU x).length≠(eU y).length then sgn (eU x).length (eU y).length else fL (eU x) (eU y)
theorem Ac (s:List UInt8):(iq s).length≤s.length:=eX s
theorem nJ {a b:List UInt8}(h: ¬(a=[]∧b=[])):bc a b=if bP a b≠0 then bP a b else if xr (bo a) (bo b)≠0 then xr (bo a) (bo b)else bc (iq (bo a)) (iq (bo b)):=by
 rw[bc,dif_neg h]
 split
 ·rfl
 ·have ha:=nb (bo a)
  have hb:=nb (bo b)
  have la:(eU (bo a)).length=bj (aK a):=by rw[ha.1];exact zT _
  have lb:(eU (bo b)).length=bj (aK b):=by rw[hb.1];exact zT _
  have e1:(aK a).take (bj (aK a))=eU (bo a):=ha.1.symm
  have e2:(aK b).take (bj (aK b))=eU (bo b):=hb.1.symm
  have e3:(aK a).drop (bj (aK a))=iq (bo a):=ha.2.symm
  have e4:(aK b).drop (bj (aK b))=iq (bo b):=hb.2.symm
  rw[e1,e2,e3,e4,←la,←lb]
  by_cases hl:(eU (bo a)).length=(eU (bo b)).length
  ·have e:xr (bo a) (bo b)=fk (eU (bo a)) (eU (bo b)):=by rw[xr,if_neg (by simp[hl]),yW _ _ hl]
   rw[if_neg (by simp[hl]),e]
  ·have:sgn ((eU (bo a)).length:Int) (eU (bo b)).length≠0:=λe=>hl (by have:=nY e;omega)
   have e:xr (bo a) (bo b)=sgn ((eU (bo a)).length:Int) (eU (bo b)).length:=by rw[xr,if_pos hl]
   rw[if_pos (by simpa using hl),e,if_pos this]
theorem A9 {a b:List UInt8}(h: ¬(a=[]∧b=[])):(iq (bo a)).length+(iq (bo b)).length<a.length+b.length:=by
 rw[(nb (bo a)).2,(nb (bo b)).2]
 exact sS h
def fo :Option (List UInt8×List UInt8×List UInt8)→AV
 |none=>.tup [.str [],.str [],.str [],.int .i64 3]
 |some (e,u,r)=>.tup [.str e,.str u,.str r,.int .i64 0]
theorem BS (v:Option (List UInt8×List UInt8×List UInt8)):aW 0 (fo v):=by
 cases v<;>refine .tup λx hx=>?_<;>simp at hx<;>rcases hx with rfl|rfl|rfl|rfl<;>first|exact .str _|exact .int _ _
def ofV (beside:List UInt8)(s:List UInt8):Bool:=s.all λc=>aJ c||cK c||beside.contains c
theorem Lr (s:List UInt8):ofV [43,46,126] s=s.all nI:=by
 unfold ofV
 congr 1
 funext c
 have h: ∀n:Nat,n<256→((c==(n.toUInt8))=((c.toNat:Int)==(n:Int))):=λn hn=>by
  rw[Bool.eq_iff_iff]
  simp only[beq_iff_eq]
  constructor
  ·intro e;subst e;simp[Nat.mod_eq_of_lt hn]
  ·intro e;apply UInt8.toNat_inj.1;simp[Nat.mod_eq_of_lt hn];omega
 have h1:=h 43 (by omega)
 have h2:=h 46 (by omega)
 have h3:=h 126 (by omega)
 simp only[List.contains_cons,List.contains_nil,Bool.or_false,nI]
 rw[show(43:UInt8)=(43:Nat).toUInt8 from rfl,show(46:UInt8)=(46:Nat).toUInt8 from rfl,show(126:UInt8)=(126:Nat).toUInt8 from rfl,h1,h2,h3]
 cases aJ c<;>cases cK c<;>simp[Bool.or_assoc]
theorem Nq (s:List UInt8):ofV [43,46,126,45,58] s=s.all uN:=by
 unfold ofV
 congr 1
 funext c
 have h: ∀n:Nat,n<256→((c==(n.toUInt8))=((c.toNat:Int)==(n:Int))):=λn hn=>by
  rw[Bool.eq_iff_iff]
  simp only[beq_iff_eq]
  constructor
  ·intro e;subst e;simp[Nat.mod_eq_of_lt hn]
  ·intro e;apply UInt8.toNat_inj.1;simp[Nat.mod_eq_of_lt hn];omega
 have h1:=h 43 (by omega)
 have h2:=h 46 (by omega)
 have h3:=h 126 (by omega)
 have h4:=h 45 (by omega)
 have h5:=h 58 (by omega)
 simp only[List.contains_cons,List.contains_nil,Bool.or_false,uN]
 rw[show(43:UInt8)=(43:Nat).toUInt8 from rfl,show(46:UInt8)=(46:Nat).toUInt8 from rfl,show(126:UInt8)=(126:Nat).toUInt8 from rfl,show(45:UInt8)=(45:Nat).toUInt8 from rfl,show(58:UInt8)=(58:Nat).toUInt8 from rfl,h1,h2,h3,h4,h5]
 cases aJ c<;>cases cK c<;>simp[Bool.or_assoc]
theorem JY (s:List UInt8):eL s=if s.length=0∨48<s.length then none else
  (let et:=if 0≤aP 58 s then(s.take (aP 58 s).toNat,s.drop ((aP 58 s).toNat+1))else([48],s)
   match ot et.2 with
   |none=>none
   |some (u,r)=>if (decide (1≤et.1.length)&&decide (et.1.length≤9)&&et.1.all aJ)&&ofV [43,46,126] r&&fG u&&ofV [43,46,126,45,58] u then some (et.1,u,r)else none):=by
 rw[eL]
 split
 ·rfl
 simp only[nX,Lr,Nq]
 by_cases hf:0≤aP 58 s
 ·simp only[hf,if_true]
  by_cases he:1≤(s.take (aP 58 s).toNat).length∧(s.take (aP 58 s).toNat).length≤9∧(s.take (aP 58 s).toNat).all aJ=true
  ·simp only[he,and_self,if_true,decide_true,Bool.and_self,Bool.true_and]
   cases ot (s.drop ((aP 58 s).toNat+1))with
   |none=>rfl
   |some ur=>
    obtain⟨u,r⟩:=ur
    simp only[Bool.and_right_comm]
  ·rw[if_neg he]
   have hb:(decide (1≤(s.take (aP 58 s).toNat).length)&&decide ((s.take (aP 58 s).toNat).length≤9)&&(s.take (aP 58 s).toNat).all aJ)=false:=by
    cases hx:(decide (1≤(s.take (aP 58 s).toNat).length)&&decide ((s.take (aP 58 s).toNat).length≤9)&&(s.take (aP 58 s).toNat).all aJ)with
    |false=>rfl
    |true=>
     simp only[Bool.and_eq_true,decide_eq_true_eq]at hx
     exact absurd ⟨hx.1.1,hx.1.2,hx.2⟩ he
   simp only[hb,Bool.false_and,Bool.false_eq_true,if_false]
   cases ot (s.drop ((aP 58 s).toNat+1))with
   |none=>rfl
   |some ur=>rfl
 ·simp only[hf,if_false]
  have hb:(decide (1≤([48]:List UInt8).length)&&decide (([48]:List UInt8).length≤9)&&([48]:List UInt8).all aJ)=true:=by decide
  simp only[hb,Bool.true_and]
  cases ot s with
  |none=>rfl
  |some ur=>
   obtain⟨u,r⟩:=ur
   simp only[Bool.and_right_comm]
end Go.Av
end
section
namespace Go.Proofs.Tryz
open Go Go.Av
set_option maxRecDepth 10000
variable {W0 :World}
theorem Cl (s:List UInt8):ah prog W0 264 [.str s] (.int .i64 (rkP s)):=by
 refine ak [2] [] func264 rfl rfl ntmps264 rfl rfl (.int _ _) λhs σ=>?_
 cases s with
 |nil=>
  simp only[go_sem,simprocAttr]
  refine aA.fnG (λh=>by simp at h) (r:=.bool false) ?_
  simp only[go_sem,simprocAttr]
  exact .refl _
 |cons c r=>
  have h8:=c.toNat_lt
  simp only[go_sem,simprocAttr]
  refine aA.fnG (λ_=>pj c) ?_
  simp only[go_sem,simprocAttr]
  refine⟨λh=>au (by simp[rkP,h]),λh=>⟨λh'=>au ?_,λh'=>al.fn (uZ c) ?_⟩⟩
  ·have:c.toNat=126:=by omega
   simp[rkP,h,yk,this]
  simp only[go_sem,simprocAttr]
  have hn: ¬c.toNat=126:=by omega
  refine⟨λhl=>au (by simp[rkP,h,yk,hn,hl]),λhl=>au ?_⟩
  rw[aH (by omega)]
  simp[rkP,h,yk,hn,hl]
theorem u9 (s:List UInt8):ah prog W0 265 [.str s] (.tup [.str (eU s),.str (iq s)]):=by
 refine ak [2,3] [] func265 rfl rfl ntmps265 rfl rfl (.tup (by intro x hx;simp at hx;rcases hx with rfl|rfl<;>exact .str _)) λhs σ=>?_
 have hsl:s.length≤maxLen:=c7 (hs _ (by simp))
 simp only[go_sem,simprocAttr]
 refine ae.at [0] (.of (by kernel_rfl)) (λA=>∃ i:Nat,A.env 4= .int .i64 i∧A.st=σ∧i=bj s) ?_ λB ⟨i,h4,hst,hi⟩=>?_
 ·refine ae.upto [0] (.of (by kernel_rfl)) s.length (λi A=>A.env 4= .int .i64 i∧A.st=σ∧ ∀c∈s.take i,aJ c=true) 0 (Nat.zero_le _) ?_ λi B hi ⟨h4,hst,hI⟩=>?_
  ·simp only[go_sem,simprocAttr]
   simp
  simp only[go_sem,simprocAttr,h4,hst]
  refine aA.fnG (λ_=>pj _) ?_
  simp only[go_sem,simprocAttr,h4,hst]
  refine⟨λh=>?_,λh=>⟨i,rfl,?_⟩⟩
  ·obtain⟨c,hc,hd⟩:=FN.1 h
   have hlt:=(List.getElem?_eq_some_iff.1 hc).1
   refine⟨hlt,ag hlt hsl,λd hdm=>?_⟩
   rw[ai hc]at hdm
   rcases List.mem_append.1 hdm with hdm|hdm
   ·exact hI d hdm
   ·rw[List.mem_singleton.1 hdm];exact hd
  ·exact(CF hi hI (zz.1 h)).symm
 simp only[go_sem,simprocAttr,h4,hst]
 subst hi
 have hle:=pk s
 refine⟨.of (by kernel_rfl),⟨Nat.zero_le _,hle⟩,?_⟩
 refine aA.fn (zh _ 48 (by decide)) ?_
 simp only[go_sem,simprocAttr,h4,hst]
 refine⟨hle,?_⟩
 have key: ∀s:List UInt8,s.takeWhile aJ=s.take (bj s)∧s.dropWhile aJ=s.drop (bj s):=λs=>by
  induction s with
  |nil=>exact⟨rfl,rfl⟩
  |cons c r ih=>
   cases h:aJ c with
   |true=>
    have e:bj (c::r)=bj r+1:=by simp[bj,h]
    rw[e,List.takeWhile_cons,List.dropWhile_cons,if_pos h,if_pos h,List.take_succ_cons,List.drop_succ_cons,ih.1,ih.2]
    exact⟨rfl,rfl⟩
   |false=>
    have e:bj (c::r)=0:=by simp[bj,h]
    rw[e,List.takeWhile_cons,List.dropWhile_cons,h]
    exact⟨rfl,rfl⟩
 rw[eU,iq,(key s).1,(key s).2]
 exact .refl _
abbrev kh (x y:List UInt8):Option cM:=some (.cells 269 [.agg 269 [.str x,.str y]])
theorem G1 (σ:ab)(id:Nat)(a b:List UInt8)(hid:σ[id]?=some (kh a b))(hal:a.length≤maxLen)(hbl:b.length≤maxLen):
  bg prog W0 241 [.ptr 269 id 0 []] σ λr σ'=>r= .int .i64 (bP a b)∧ ∃x y,σ'=σ.set id (kh x y)∧(bP a b=0→x=bo a∧y=bo b):=by
 have hidl:id<σ.length:=(List.getElem?_eq_some_iff.1 hid).1
 refine cQ [2] [] func241 rfl rfl ntmps241 rfl rfl λhs=>?_
 simp only[go_sem,simprocAttr]
 refine ae.ck [0] (.of (by kernel_rfl)) (λk A=>∃ x y,A.st=σ.set id (kh x y)∧k=x.length+y.length∧bP x y=bP a b∧bo x=bo a∧bo y=bo b∧x.length≤maxLen∧y.length≤maxLen) (a.length+b.length) ⟨a,b,?_,rfl,rfl,rfl,rfl,hal,hbl⟩ λk B ⟨x,y,hst,hk,hI,hx,hy,hxl,hyl⟩=>?_
 ·simp only[go_sem,simprocAttr]
  exact(gp hid).symm
 simp only[go_sem,simprocAttr,hst,bK hidl]
 refine⟨.of (by kernel_rfl),aA.fn (Cl x) ?_⟩
 simp only[go_sem,simprocAttr,hst,bK hidl]
 refine aA.fn (Cl y) ?_
 simp only[go_sem,simprocAttr,hst,bK hidl]
 refine⟨λh=>al.fn (G2 _ _) ?_,λh=>⟨λh0=>bV.ret ?_,λh0=>?_⟩⟩
 ·simp only[go_sem,simprocAttr,hst,bK hidl]
  refine bV.ret ?_
  simp only[go_sem,simprocAttr,hst]
  have hne:rk x≠rk y:=λe=>h ((AI x y).2 e)
  refine⟨_,.refl _,by simp,by rw[←hI,dF hne,Cs],x,y,rfl,λh0=>?_⟩
  rw[←hI,dF hne]at h0
  exact absurd (nY h0) hne
 ·simp only[go_sem,simprocAttr,hst]
  have hx0:=(tv x).1 h0
  have hy0:rk y=0:=by rw[←tv,←h];exact h0
  refine⟨_,.refl _,by simp,by rw[←hI,fT hx0 hy0],x,y,rfl,λ_=>⟨by rw[←hx,x0 hx0],by rw[←hy,x0 hy0]⟩⟩
 ·have hx0:rk x≠0:=λe=>h0 ((tv x).2 e)
  have hxy:rk x=rk y:=(AI x y).1 h
  have hy0:rk y≠0:=by rw[←hxy];exact hx0
  obtain⟨c,r,rfl,hc⟩:=zD hx0
  obtain⟨d,r',rfl,hd⟩:=zD hy0
  simp only[go_sem,simprocAttr,hst,bK hidl,dm hidl]
  refine⟨.of (by kernel_rfl),.here (r.length+r'.length) (by simp[hk];omega) ⟨r,r',?_⟩⟩
  simp only[go_sem,simprocAttr,hst,bK hidl,dm hidl]
  simp at hxl hyl
  exact⟨by rw[←hI,fP hx0 hxy];rfl,by rw[←hx];exact ua hx0,by rw[←hy];exact ua hy0,by omega,by omega⟩
theorem BD (σ:ab)(id:Nat)(a b:List UInt8)(hid:σ[id]?=some (kh a b)):
  bg prog W0 242 [.ptr 269 id 0 []] σ λr σ'=>r= .int .i64 (xr a b)∧σ'=σ.set id (kh (iq a) (iq b)):=by
 have hidl:id<σ.length:=(List.getElem?_eq_some_iff.1 hid).1
 refine cQ [2] [] func242 rfl rfl ntmps242 rfl rfl λhs=>?_
 simp only[go_sem,simprocAttr,ax hid]
 refine al.fn (u9 a) ?_
 simp only[go_sem,simprocAttr,ax hid]
 refine al.fn (u9 b) ?_
 simp only[go_sem,simprocAttr,ax hid,aM hid,bK hidl,dm hidl]
 refine⟨λh=>al.fn (G2 _ _) ?_,λh=>al.fn (xe _ _) ?_⟩
 ·simp only[go_sem,simprocAttr]
  refine bV.ret ?_
  simp only[go_sem,simprocAttr]
  exact⟨_,.refl _,by simp,by rw[xr,if_pos h]⟩
 ·simp only[go_sem,simprocAttr]
  refine bV.ret ?_
  simp only[go_sem,simprocAttr]
  exact⟨_,.refl _,by simp,by rw[xr,if_neg (by simpa using h)]⟩
theorem wJ (a b:List UInt8):ah prog W0 208 [.str a,.str b] (.int .i64 (bc a b)):=by
 refine ak [4] [] func208 rfl rfl ntmps208 rfl rfl (.int _ _) λhs σ=>?_
 have hal:a.length≤maxLen:=c7 (hs (.str a) (by simp))
 have hbl:b.length≤maxLen:=c7 (hs (.str b) (by simp))
 simp only[go_sem,simprocAttr]
 refine ae.ck [5] (.of (by kernel_rfl)) (λk A=>∃ x y,A.st=σ++[kh x y]∧k=x.length+y.length∧bc x y=bc a b∧x.length≤maxLen∧y.length≤maxLen) (a.length+b.length) ⟨a,b,?_,rfl,rfl,hal,hbl⟩ λk B ⟨x,y,hst,hk,hI,hxl,hyl⟩=>?_
 ·simp only[go_sem,simprocAttr]
 simp only[go_sem,simprocAttr,hst]
 refine⟨λh=>?_,λh=>?_⟩
 case refine_2=>
  have:x=[]∧y=[]:=by cases x<;>cases y<;>simp at h ⊢
  exact au (by rw[←hI,bc,dif_pos this])
 have hne: ¬(x=[]∧y=[]):=λ⟨e,e'⟩=>by subst e e';simp at h
 have hid:(σ++[kh x y])[σ.length]?=some (kh x y):=by simp
 refine al.goes (by simp only[go_sem,simprocAttr,hst]) (G1 _ σ.length x y hid hxl hyl) λr σ' ⟨hr,x',y',hσ,hz⟩=>?_
 subst hr hσ
 simp only[go_sem,simprocAttr,hst]
 refine⟨λh1=>au ?_,λh1=>?_⟩
 ·rw[←hI,nJ hne,if_pos h1]
 obtain⟨rfl,rfl⟩:=hz h1
 have hid:(σ++[kh (bo x) (bo y)])[σ.length]?=some (kh (bo x) (bo y)):=by simp
 refine al.goes (by simp only[go_sem,simprocAttr]) (BD _ σ.length _ _ hid) λr σ' ⟨hr,hσ⟩=>?_
 subst hr hσ
 simp only[go_sem,simprocAttr,hst]
 have l1:=Ac (bo x)
 have l2:=Ac (bo y)
 have l3:=eX (p:=λc=>!aJ c) x
 have l4:=eX (p:=λc=>!aJ c) y
 refine⟨λh2=>au ?_,λh2=>.here ((iq (bo x)).length+(iq (bo y)).length) (by rw[hk];exact A9 hne) ⟨iq (bo x),iq (bo y),?_⟩⟩
 ·rw[←hI,nJ hne,if_neg (by simp[h1]),if_pos h2]
 ·simp only[go_sem,simprocAttr]
  unfold bo at *
  exact⟨by rw[←hI,nJ hne,if_neg (by simp[h1]),if_neg (by unfold bo;simp[h2])];rfl,by omega,by omega⟩
theorem L4 (beside s:List UInt8)(hbs: ∀c∈beside,c.toNat≤126):ah prog W0 199 [.str s,.str beside] (.bool (ofV beside s)):=by
 refine ak [4] [] func199 rfl rfl ntmps199 rfl rfl (.bool _) λhs σ=>?_
 simp only[go_sem,simprocAttr]
 refine ae.ck [1,8] (.of (by kernel_rfl)) (λk A=>∃ pos,A.st=σ++[some (.iter s pos)]∧k=s.length-pos∧pos≤s.length∧ofV beside (s.take pos)=true) s.length ⟨0,?_⟩ λk B ⟨pos,hst,hk,hp,hI⟩=>?_
 ·simp only[go_sem,simprocAttr]
  simp[ofV]
 simp only[go_sem,simprocAttr,hst]
 refine⟨λhlt=>?_,λhge=>?_⟩
 ·obtain⟨c,hc⟩:=get_some hlt
  have bad:(aJ c||cK c||beside.contains c)=false→ofV beside s=false:=λhd=>by
   unfold ofV;exact all_false hc hd
  rcases Nat.lt_or_ge c.toNat 128 with h8|h8
  ·rw[mI hc h8]
   have hcv:=JT c
   have hce:=A8 h8
   simp only[go_sem,simprocAttr,hcv,hce]
   refine aA.fnG (λ_=>pj c) ?_
   simp only[go_sem,simprocAttr,hcv,hce]
   refine aA.fnG (λ_=>uZ c) ?_
   simp only[go_sem,simprocAttr,hcv,hce]
   refine aA.fnG (λ_=>zk beside c) ?_
   simp only[go_sem,simprocAttr,hcv,hce]
   refine⟨λhb=>aj ?_,λhb=>.here (s.length-(pos+1)) (by omega) ⟨pos+1,?_⟩⟩
   ·refine(bad ?_).symm
    simp only[Bool.or_eq_true,decide_eq_true_eq,Bool.and_eq_true,Bool.not_eq_true']at hb
    rcases hb with hb|⟨⟨h1,h2⟩,h3⟩
    ·have h1:aJ c=false:=by simp[aJ];omega
     have h2:cK c=false:=by simp[cK,gI];omega
     have h3:beside.contains c=false:=by
      cases hx:beside.contains c with
      |false=>rfl
      |true=>have:=hbs c (by simpa using hx);omega
     simp only[h1,h2,h3,Bool.or_false]
    ·simp only[h1,h2,h3,Bool.or_false]
   ·simp only[go_sem,simprocAttr,hst]
    refine⟨by omega,mF hI hc ?_⟩
    simp at hb
    have hb2:=hb.2
    cases hd:aJ c<;>cases hl:cK c<;>cases hx:beside.contains c<;>simp_all
  ·have:=qQ hc h8
   have hd:decide ((126:Int)<((gH s pos).1:Int))=true:=decide_eq_true (by omega)
   simp only[go_sem,simprocAttr,hd]
   refine aA.fnG (λh=>by simp at h) (r:=.bool false) ?_
   simp only[go_sem,simprocAttr,hd]
   refine aA.fnG (λh=>by simp at h) (r:=.bool false) ?_
   simp only[go_sem,simprocAttr,hd]
   refine aA.fnG (λh=>by simp at h) (r:=.bool false) ?_
   simp only[go_sem,simprocAttr,hd]
   refine aj (bad ?_).symm
   have h1:aJ c=false:=by simp[aJ];omega
   have h2:cK c=false:=by simp[cK,gI];omega
   have h3:beside.contains c=false:=by
    cases hx:beside.contains c with
    |false=>rfl
    |true=>have:=hbs c (by simpa using hx);omega
   simp only[h1,h2,h3,Bool.or_false]
 ·have:pos=s.length:=by omega
  rw[this,List.take_length]at hI
  exact aj hI.symm
theorem jM (s:List UInt8):ah prog W0 142 [.str s] (fo (eL s)):=by
 refine ak [2,3,4,5] [] func142 rfl rfl ntmps142 rfl rfl (BS _) λhs σ=>?_
 have hsl:s.length≤maxLen:=c7 (hs _ (by simp))
 have none_end:eL s=none→cT (AV.tup [.str [],.str [],.str [],.int .i64 3]) (fo (eL s)):=λe=>by rw[e];exact .refl _
 simp only[go_sem,simprocAttr]
 refine⟨λh=>none_end ?_,λh=>?_⟩
 ·have h':s.length=0∨48<s.length:=by
   simp only[Bool.or_eq_true,beq_iff_eq,decide_eq_true_eq]at h
   rcases h with h|h
   ·left;rw[h];rfl
   ·right;omega
  rw[eL,if_pos h']
 have hlen: ¬(s.length=0∨48<s.length):=by
  simp only[Bool.or_eq_false_iff,beq_eq_false_iff_ne,decide_eq_false_iff_not]at h
  rintro(h1|h1)
  ·exact h.1 (List.length_eq_zero_iff.1 h1)
  ·exact h.2 (by omega)
 refine al.fn (MT s 58) ?_
 simp only[go_sem,simprocAttr,tC]
 have hv: ∀e t:List UInt8,(e,t)=(if 0≤aP 58 s then(s.take (aP 58 s).toNat,s.drop ((aP 58 s).toNat+1))else([48],s))→eL s=(match ot t with
   |none=>none
   |some (u,r)=>if (decide (1≤e.length)&&decide (e.length≤9)&&e.all aJ)&&ofV [43,46,126] r&&fG u&&ofV [43,46,126,45,58] u then some (e,u,r)else none):=λe t he=>by
  rw[JY,if_neg hlen,←he]<;>rfl
 refine ct.at [4] (by kernel_rfl) (λA=>∃ e t,A.env 2= .str e∧A.env 6= .str t∧A.st=σ∧t.length≤s.length∧(e,t)=(if 0≤aP 58 s then(s.take (aP 58 s).toNat,s.drop ((aP 58 s).toNat+1))else([48],s))) (λhf=>?_) (λhf=>?_) λB ⟨e,t,h2,h6,hst,htl,het⟩=>?_
 ·have hf:0≤aP 58 s:=by simpa using hf
  simp only[go_sem,simprocAttr]
  exact⟨_,_,rfl,rfl,by rw[Hy,if_pos hf];simp,by rw[JB,Hy,if_pos hf,if_pos hf,if_pos hf]⟩
 ·have hf: ¬0≤aP 58 s:=by simpa using hf
  simp only[go_sem,simprocAttr]
  exact⟨_,_,rfl,rfl,Nat.le_refl _,by rw[if_neg hf]⟩
 have hv:=hv e t het
 simp only[go_sem,simprocAttr,h2,h6,hst]
 refine al.fn (qP t 45) ?_
 simp only[go_sem,simprocAttr,h2,h6,hst]
 refine ct.at [] (by kernel_rfl) (λA=>∃ u r,ot t=some (u,r)∧A.env 2= .str e∧A.env 3= .str u∧A.env 4= .str r∧A.st=σ) (λhf=>?_) (λhf=>?_) λB ⟨u,r,hrv,h2,h3,h4,hst⟩=>?_
 ·obtain⟨i,hi,hgi,hlt⟩:=(kQ 45 t).resolve_left (λe=>by rw[e.1]at hf;simp at hf)
  rw[hi]
  have hw:IntKind.i64.wrap ((i:Int)+1)=((i+1:Nat):Int):=jf hlt (by omega)
  have hrv:ot t=if t.drop (i+1)=[]then none else some (t.take i,t.drop (i+1)):=by
   rw[ot,hi,if_pos (by omega)];rfl
  simp only[go_sem,simprocAttr,hw,h2,h6,hst]
  refine⟨.of (by kernel_rfl),by omega,by omega,λhb=>none_end (by rw[hv];simp only[hrv,if_pos hb]),λhb=>⟨t.take i,t.drop (i+1),?_⟩⟩
  rw[hrv,if_neg hb]
  simp
 ·have hf': ¬(0≤lastOf 45 t):=by simpa using hf
  simp only[go_sem,simprocAttr,h2,h6,hst]
  exact⟨t,[],by simp[ot,hf']⟩
 rw[hrv]at hv
 simp only at hv
 simp only[go_sem,simprocAttr,h2,h3,h4,hst]
 refine al.fn (BK e) ?_
 simp only[go_sem,simprocAttr,h2,h3,h4,hst]
 refine aA.fnG (λ_=>L4 [43,46,126] r (by decide)) ?_
 simp only[go_sem,simprocAttr,h2,h3,h4,hst]
 have fin: ∀b:Bool,b=(!((decide (1≤e.length)&&decide (e.length≤9)&&e.all aJ)&&ofV [43,46,126] r&&fG u&&ofV [43,46,126,45,58] u))→(b=true→eL s=none)∧(b=false→eL s=some (e,u,r)):=λb hb=>by
  rw[hv]
  refine⟨λh=>if_neg ?_,λh=>if_pos ?_⟩
  ·rw[h]at hb
   intro hc
   rw[hc]at hb
   cases hb
  ·rw[h]at hb
   cases hc:(decide (1≤e.length)&&decide (e.length≤9)&&e.all aJ)&&ofV [43,46,126] r&&fG u&&ofV [43,46,126,45,58] u with
   |true=>rfl
   |false=>rw[hc]at hb;cases hb
 cases u with
 |nil=>
  simp only[go_sem,simprocAttr,h2,h3,h4,hst]
  refine aA.fnG (λh=>by simp at h) (r:=.bool false) ?_
  simp only[go_sem,simprocAttr,h2,h3,h4,hst]
  refine aA.fnG (λh=>by simp at h) (r:=.bool false) ?_
  simp only[go_sem,simprocAttr,h2,h3,h4,hst]
  exact none_end ((fin true (by simp[fG])).1 rfl)
 |cons c u'=>
  simp only[go_sem,simprocAttr,h2,h3,h4,hst]
  refine aA.fnG (λ_=>pj c) ?_
  simp only[go_sem,simprocAttr,h2,h3,h4,hst]
  refine aA.fnG (λ_=>L4 [43,46,126,45,58] (c::u') (by decide)) ?_
  simp only[go_sem,simprocAttr,h2,h3,h4,hst]
  refine⟨λh=>none_end ((fin _ ?_).1 h),λh=>?_⟩
  ·simp only[fG]
   cases (decide (1≤e.length)&&decide (e.length≤9)&&e.all aJ)<;>cases ofV [43,46,126] r<;>cases aJ c<;>cases ofV [43,46,126,45,58] (c::u')<;>rfl
  ·rw[(fin _ (by
    simp only[fG]
    cases (decide (1≤e.length)&&decide (e.length≤9)&&e.all aJ)<;>cases ofV [43,46,126] r<;>cases aJ c<;>cases ofV [43,46,126,45,58] (c::u')<;>rfl)).2 h]
   exact .refl _
end Go.Proofs.Tryz
end
section
namespace Go.Proofs.Tryz
open Go Go.Av
set_option maxRecDepth 10000
variable {W0 :World}
def nB (a b:List UInt8):AV:=.tup [.int .i64 (bp a b),.bool (bf a&&bf b)]
theorem D1 (a b:List UInt8):aW 0 (nB a b):=by
 refine .tup λx hx=>?_
 simp at hx
 rcases hx with rfl|rfl
 ·exact .int _ _
 ·exact .bool _
theorem nW (a b:List UInt8):ah prog W0 157 [.str a,.str b] (nB a b):=by
 refine ak [4,5] [] func157 rfl rfl ntmps157 rfl rfl (D1 _ _) λhs σ=>?_
 simp only[go_sem,simprocAttr]
 refine al.fn (jM a) ?_
 cases h:eL a with
 |none=>
  simp only[go_sem,simprocAttr,fo]
  refine al.fn (jM b) ?_
  cases h':eL b with
  |none=>simp only[go_sem,simprocAttr,fo];simp only[nB,bp,bf,h,h'];exact .refl _
  |some v=>obtain⟨f,v,t⟩:=v;simp only[go_sem,simprocAttr,fo];simp only[nB,bp,bf,h,h'];exact .refl _
 |some v=>
  obtain⟨e,u,r⟩:=v
  simp only[go_sem,simprocAttr,fo]
  refine al.fn (jM b) ?_
  cases h':eL b with
  |none=>simp only[go_sem,simprocAttr,fo];simp only[nB,bp,bf,h,h'];exact .refl _
  |some v=>
   obtain⟨f,v,t⟩:=v
   simp only[go_sem,simprocAttr,fo]
   refine al.fn (wJ e f) ?_
   simp only[go_sem,simprocAttr]
   refine al.fn (wJ u v) ?_
   simp only[go_sem,simprocAttr]
   refine al.fn (wJ r t) ?_
   simp only[go_sem,simprocAttr]
   refine⟨by decide,al.fn ((Fo [bc e f,bc u v,bc r t]).cI (.cons (.lit _ _) .nil)) ?_⟩
   simp only[go_sem,simprocAttr]
   have:orL [bc e f,bc u v,bc r t]=bp a b:=by
    simp only[bp,h,h',orL]
    by_cases h1:bc e f=0
    ·by_cases h2:bc u v=0
     ·by_cases h3:bc r t=0
      ·simp[h1,h2,h3]
      ·simp[h1,h2,h3]
     ·simp[h1,h2]
    ·simp[h1]
   rw[this,nB]
   simp only[bf,h,h']
   exact .refl _
theorem o9 (a b:List UInt8):ah prog W0 103 [.str a,.str b] (.bool (ba a b)):=by
 refine ak [4] [] func103 rfl rfl ntmps103 rfl rfl (.bool _) λhs σ=>?_
 simp only[go_sem,simprocAttr]
 refine al.fn (nW a b) ?_
 simp only[go_sem,simprocAttr,nB]
 exact aj (by rw[ba])
theorem zp (rel:Int)(a b:List UInt8):ah prog W0 181 [.int .i64 rel,.str a,.str b] (.bool (ep rel a b)):=by
 refine ak [6] [] func181 rfl rfl ntmps181 rfl rfl (.bool _) λhs σ=>?_
 simp only[go_sem,simprocAttr]
 refine⟨λh0=>al.fn (jM a) ?_,λh0=>al.fn (nW a b) ?_⟩
 ·cases h:eL a with
  |none=>simp only[go_sem,simprocAttr,fo];exact aj (by rw[ep,if_pos h0,bf,h];rfl)
  |some v=>obtain⟨e,u,r⟩:=v;simp only[go_sem,simprocAttr,fo];exact aj (by rw[ep,if_pos h0,bf,h];rfl)
 simp only[go_sem,simprocAttr,nB]
 refine⟨λhb=>aj (by rw[ep,if_neg h0,hb];rfl),λhb=>?_⟩
 have hh:ep rel a b=(if rel=1 then decide (bp a b<0)else if rel=2 then decide (bp a b≤0)else if rel=3 then bp a b==0
   else if rel=4 then decide (0≤bp a b)else if rel=5 then decide (0<bp a b)else false):=by rw[ep,if_neg h0,if_pos hb]
 refine⟨λh1=>aj (by rw[hh,if_pos h1]),λh1=>⟨λh2=>aj (by rw[hh,if_neg h1,if_pos h2]),λh2=>⟨λh3=>aj (by rw[hh,if_neg h1,if_neg h2,if_pos h3]),λh3=>⟨λh4=>aj (by rw[hh,if_neg h1,if_neg h2,if_neg h3,if_pos h4]),λh4=>⟨λh5=>aj (by rw[hh,if_neg h1,if_neg h2,if_neg h3,if_neg h4,if_pos h5]),λh5=>aj (by rw[hh,if_neg h1,if_neg h2,if_neg h3,if_neg h4,if_neg h5])⟩⟩⟩⟩⟩
theorem wG (s:List UInt8):ah prog W0 143 [.str s] (.bool (cq s)):=by
 refine ak [2] [] func143 rfl rfl ntmps143 rfl rfl (.bool _) λhs σ=>?_
 have hsl:s.length≤maxLen:=c7 (hs _ (by simp))
 simp only[go_sem,simprocAttr]
 refine⟨λh=>aj ?_,λh=>?_⟩
 ·have:(decide (2≤s.length)&&decide (s.length≤24))=false:=by
   simp only[Bool.or_eq_true,decide_eq_true_eq]at h
   simp only[Bool.and_eq_false_iff,decide_eq_false_iff_not]
   omega
  rw[cq,this];rfl
 have hlen:(decide (2≤s.length)&&decide (s.length≤24))=true:=by
  simp only[Bool.or_eq_false_iff,decide_eq_false_iff_not]at h
  simp only[Bool.and_eq_true,decide_eq_true_eq]
  omega
 refine ae.ck [15] (.of (by kernel_rfl)) (λk A=>∃ pos,A.st=σ++[some (.iter s pos)]∧k=s.length-pos∧pos≤s.length∧ ∀j c,j<pos→s[j]?=some c→gk j c=true) s.length ⟨0,?_⟩ λk B ⟨pos,hst,hk,hp,hI⟩=>?_
 ·simp only[go_sem,simprocAttr]
  simp
 simp only[go_sem,simprocAttr,hst]
 refine⟨λhlt=>?_,λhge=>?_⟩
 ·obtain⟨c,hc⟩:=get_some hlt
  have bad:gk pos c=false→cq s=false:=λhd=>by
   rw[cq,nG hc hd,Bool.and_false]
  rcases Nat.lt_or_ge c.toNat 128 with h8|h8
  ·rw[mI hc h8]
   simp only[go_sem,simprocAttr]
   refine⟨λhb=>aj ?_,λhb=>.here (s.length-(pos+1)) (by omega) ⟨pos+1,?_⟩⟩
   ·refine(bad ?_).symm
    revert hb
    simp only[gk,gI,aJ]
    simp
    omega
   ·simp only[go_sem,simprocAttr,hst]
    refine⟨by omega,λj d hj hd=>?_⟩
    rcases Nat.lt_succ_iff_lt_or_eq.1 hj with hj|rfl
    ·exact hI j d hj hd
    ·have e:d=c:=by rw[hd]at hc;exact Option.some.inj hc
     subst e
     revert hb
     simp only[gk,gI,aJ]
     simp
     omega
  ·have:=qQ hc h8
   refine⟨λhb=>aj (bad ?_).symm,λhb=>?_⟩
   ·simp only[gk,gI,aJ]
    simp
    omega
   ·simp at hb
    omega
 ·have:pos=s.length:=by omega
  have:jc gk 0 s=true:=iw.2 λj c hj=>by rw[Nat.zero_add];exact hI j c (by have:=(List.getElem?_eq_some_iff.1 hj).1;omega) hj
  exact aj (by rw[cq,this,hlen];rfl)
theorem ub (a:Atom):ah prog W0 180 [aR a] (.bool (bY a)):=by
 refine ak [2] [1] func180 rfl rfl ntmps180 rfl rfl (.bool _) λhs σ=>?_
 simp only[go_sem,simprocAttr,aR]
 refine al.fn (wG a.name) ?_
 simp only[go_sem,simprocAttr,aR]
 have low:(!cq a.name||decide (a.rel<0)||decide (5<a.rel))=true→bY a=false:=λh=>by
  unfold bY
  cases hn:cq a.name with
  |false=>rfl
  |true=>
   rw[hn]at h
   simp only[Bool.not_true,Bool.false_or,Bool.or_eq_true,decide_eq_true_eq]at h
   rw[if_neg (by omega)]
   have:(decide (1≤a.rel)&&decide (a.rel≤5))=false:=by
    simp only[Bool.and_eq_false_iff,decide_eq_false_iff_not];omega
   rw[this];rfl
 have high:(!cq a.name||decide (a.rel<0)||decide (5<a.rel))=false→bY a=if a.rel=0 then a.ver==[]else bf a.ver:=λh=>by
  simp only[Bool.or_eq_false_iff,Bool.not_eq_false',decide_eq_false_iff_not]at h
  rw[bY,h.1.1,Bool.true_and]
  split
  ·rfl
  ·have h1:decide (1≤a.rel)=true:=decide_eq_true (by omega)
   have h2:decide (a.rel≤5)=true:=decide_eq_true (by omega)
   rw[h1,h2];rfl
 refine⟨λh=>aj (low h).symm,λh=>⟨λh0=>aj (by rw[high h,if_pos h0]),λh0=>al.fn (jM a.ver) ?_⟩⟩
 have hm:=high h
 rw[if_neg h0]at hm
 cases h:eL a.ver with
 |none=>simp only[go_sem,simprocAttr,fo];exact aj (by rw[hm,bf,h];rfl)
 |some v=>obtain⟨e,u,r⟩:=v;simp only[go_sem,simprocAttr,fo];exact aj (by rw[hm,bf,h];rfl)
end Go.Proofs.Tryz
end
section
namespace Go.Av
structure aQ (σ st:ab)(v:AV)(e:TypeId)(xs:List AV):Prop where
 bld:Bld st v e xs
 ext:Ext σ st
 tok: ∀t,fh v=some t→σ.length≤t
theorem aQ.nil {σ st:ab}(h:Ext σ st)(e:TypeId):aQ σ st .az e []:=⟨.inl ⟨rfl,rfl⟩,h,λt h=>by cases h⟩
theorem aQ.app {σ st st':ab}{v v':AV}{e:TypeId}{xs zs:List AV}(h:aQ σ st v e xs)(ha:App st v e zs v' st'):aQ σ st' v' e zs:=by
 have hl:=h.ext.le
 refine⟨ha.bld,?_,λt ht=>?_⟩
 ·have hl':=ha.len
  refine List.ext_getElem? λi=>?_
  rw[List.getElem?_take]
  by_cases hi:i<σ.length
  ·rw[if_pos hi,ha.old i (by omega) (λe=>by have:=h.tok i e;omega)]
   have e:=congrArg (·[i]?) h.ext
   simpa[List.getElem?_take,hi]using e
  ·rw[if_neg hi,List.getElem?_eq_none (by omega)]
 ·rcases ha.tok with e|⟨u,e,hu⟩
  ·exact h.tok t (by rw[←e];exact ht)
  ·rw[e]at ht;cases ht;omega
theorem aQ.more {σ st:ab}{v:AV}{e:TypeId}{xs:List AV}(h:aQ σ st v e xs)(l:ab):aQ σ (st++l) v e xs:=by
 refine⟨?_,h.ext.app l,h.tok⟩
 rcases h.bld with h1|h1|⟨t,h1,h2⟩
 ·exact .inl h1
 ·exact .inr (.inl h1)
 ·exact .inr (.inr ⟨t,h1,by rw[List.getElem?_append_left ((List.getElem?_eq_some_iff.1 h2).1)];exact h2⟩)
theorem aQ.cI {σ st:ab}{v:AV}{e:TypeId}{xs:List AV}(h:aQ σ st v e xs):cT v (.sl e xs):=by
 rcases h.bld with⟨rfl,rfl⟩|rfl|⟨t,rfl,_⟩
 ·exact .az _
 ·exact .lit _ _
 ·exact .own _ _ _
theorem Ext.eq {σ st:ab}(h:Ext σ st):st=σ++st.drop σ.length:=by
 have:=List.take_append_drop σ.length st
 rw[h]at this
 exact this.symm
theorem Ext.trans {σ st st':ab}(h:Ext σ st)(h':Ext st st'):Ext σ st':=by
 rw[h'.eq];exact h.app _
theorem aQ.on {σ st st':ab}{v:AV}{e:TypeId}{xs:List AV}(h:aQ σ st v e xs)(h':Ext st st'):aQ σ st' v e xs:=by
 rw[h'.eq];exact h.more _
theorem aQ.len {σ st:ab}{v:AV}{e:TypeId}{xs:List AV}(h:aQ σ st v e xs):mm v= .int .i64 xs.length:=by
 rcases h.bld with⟨rfl,rfl⟩|rfl|⟨t,rfl,_⟩<;>rfl
theorem aQ.fX {σ st:ab}{v:AV}{e:TypeId}{xs:List AV}(h:aQ σ st v e xs)(P:Program)(t:TypeId):fX P t v=((elT P t).isSome=true):=by
 rcases h.bld with⟨rfl,rfl⟩|rfl|⟨t,rfl,_⟩<;>rfl
theorem aQ.notM {σ st:ab}{v:AV}{e:TypeId}{xs:List AV}(h:aQ σ st v e xs):cS v:=by
 rcases h.bld with⟨rfl,rfl⟩|rfl|⟨t,rfl,_⟩<;>trivial
theorem aQ.ok {σ st:ab}{v:AV}{e:TypeId}{xs:List AV}(h:aQ σ st v e xs)(g:Option Bool):okM g v=True:=bT h.notM
theorem aQ.un {σ st:ab}{v:AV}{e:TypeId}{xs:List AV}(h:aQ σ st v e xs):unm v=v:=cB h.notM
attribute [go_sem] List.range'_succ List.range'_zero
theorem Sub.TH {α:Type}{f g:α→AV}{e:TypeId}(l:List α)(h: ∀a∈l,Sub (f a) (g a)):Sub (.sl e (l.map f)) (.sl e (l.map g)):=by
 refine .sls (by simp) λi x y hx hy=>?_
 rw[List.getElem?_map,Option.map_eq_some_iff]at hx hy
 obtain⟨a,ha,rfl⟩:=hx
 obtain⟨b,hb,rfl⟩:=hy
 rw[ha]at hb
 cases hb
 exact h a (List.mem_of_getElem? ha)
theorem fB.sl (st:ab)(e:TypeId)(ys:List AV):fB st (.sl e ys) e ys:=.inl rfl
theorem fB.lit (st:ab)(e:TypeId)(ys:List AV):fB st (.lit e ys) e ys:=.inl rfl
theorem ae.ats {P:Program}{W0:World}{n:Nat}{fz:List Nat}{A:aa}{c:Code}{id:Nat}{Q:Exit→aa→Prop}(ks:List Nat)(hks:Kept fz c .mk ks)(R:aa→Prop)(h:ae P W0 n fz c .mk (dT id (bZ R Q)) .mk A)(hR: ∀B,R B→Q .normal (dX ks A B)):ae P W0 n fz c .mk (dT id Q) .mk A:=by
 have e:dT id (bZ (Q .normal) Q)=dT id Q:=by
  funext e A
  cases e<;>rfl
 rw[←e]
 exact .at ks hks R h hR
def cm (l:List Clause):Int:=
 if 12<l.length∨l.any (λc=>decide (6<c.length))=true then 12 else if l.any (λc=>decide (c.length=0)||c.any λa=>!bY a)=true then 3 else 0
def single (l:List Atom):List Clause:=l.map λa=>[a]
def bJ (p:ir):Atom:=⟨p.name,if p.ver=[]then 0 else 3,p.ver⟩
def aU (p:Pkg):Int:=if (!cq p.name|| !bf p.ver)=true then 3 else orL [cm p.pre,cm p.dep,cm p.rcm,cm (single p.con),cm (single p.brk),cm (single (p.dE.map bJ))]
def dy :List Pkg→List (List UInt8)→List (List UInt8)
 |[],acc=>acc
 |p::r,acc=>dy r (if acc.any (λx=>p.name==x)then acc else acc++[p.name])
def db (p q:Pkg):Bool:=q.name==p.name&&ba q.ver p.ver
def nt :List Pkg→List Pkg→Bool
 |_,[]=>false
 |bef,p::r=>bef.any (db p)||nt (bef++[p]) r
def bt (l:List Pkg):Int:=
 if 24<l.length then 12 else if orL (l.map aU)≠0 then orL (l.map aU)else if nt [] l=true then 4 else if 10<(dy l []).length then 12 else 0
end Go.Av
end
section
namespace Go.Proofs.Tryz
open Go Go.Av
set_option maxRecDepth 10000
variable {W0 :World}
def j8 (a:Atom):AV:=.lit 81 [aR a]
theorem cS.atom (a:Atom):cS (aR a):=trivial
theorem cS.atoms (l:List Atom):cS (aB l):=trivial
@[go_sem] theorem Mw (g:Option Bool)(l:List Atom):okM g (aB l)=True:=eq_true trivial
@[go_sem] theorem LU (l:List Atom):unm (aB l)=aB l:=rfl
@[go_sem] theorem Ir (P:Program)(t:TypeId)(l:List Atom):bm P t (aB l)=cG P t:=rfl
@[go_sem] theorem IG (g:Option Bool)(l:List Clause):okM g (aw l)=True:=eq_true trivial
@[go_sem] theorem ID (l:List Clause):unm (aw l)=aw l:=rfl
@[go_sem] theorem E4 (P:Program)(t:TypeId)(l:List Clause):bm P t (aw l)=cG P t:=rfl
@[go_sem] theorem L9 (g:Option Bool)(l:List ir):okM g (bW l)=True:=eq_true trivial
@[go_sem] theorem Mb (l:List ir):unm (bW l)=bW l:=rfl
@[go_sem] theorem IS (P:Program)(t:TypeId)(l:List ir):bm P t (bW l)=cG P t:=rfl
@[go_sem] theorem Nf (g:Option Bool)(l:List Pkg):okM g (aN l)=True:=eq_true trivial
@[go_sem] theorem Pd (l:List Pkg):unm (aN l)=aN l:=rfl
@[go_sem] theorem Jt (P:Program)(t:TypeId)(l:List Pkg):bm P t (aN l)=cG P t:=rfl
theorem jG (l:List Atom):Sub (.sl 72 (l.map j8)) (aw (single l)):=by
 rw[aw,single,List.map_map]
 exact .TH l λa _=>.lit _ _
theorem gS {α:Type}{f:α→AV}{e:TypeId}(h: ∀a,aW 0 (f a))(l:List α):aW 0 (.sl e (l.map f)):=.sl λx hx=>by
 obtain⟨a,_,rfl⟩:=List.mem_map.1 hx
 exact h a
theorem oO (a:Atom):aW 0 (aR a):=.agg λx hx=>by
 simp at hx
 rcases hx with rfl|rfl|rfl
 ·exact .str _
 ·exact .int _ _
 ·exact .str _
theorem nn (l:List Atom):aW 0 (aB l):=gS oO l
theorem dL (l:List Clause):aW 0 (aw l):=gS nn l
theorem tK (a:ir):aW 0 (c9 a):=.agg λx hx=>by
 simp at hx
 rcases hx with rfl|rfl<;>exact .str _
theorem EE (l:List ir):aW 0 (bW l):=gS tK l
theorem r9 (p:Pkg):aW 0 (av p):=.agg λx hx=>by
 simp at hx
 rcases hx with rfl|rfl|rfl|rfl|rfl|rfl|rfl|rfl|rfl
 ·exact .str _
 ·exact .str _
 ·exact dL _
 ·exact dL _
 ·exact dL _
 ·exact nn _
 ·exact nn _
 ·exact EE _
 ·exact .bool _
theorem kr (l:List Pkg):aW 0 (aN l):=gS r9 l
theorem sX (l:List Atom)(hl:l.length≤1048576):ah prog W0 144 [aB l] (aw (single l)):=by
 refine ak [2] [5] func144 rfl rfl ntmps144 rfl rfl (dL _) λhs σ=>?_
 simp only[go_sem,simprocAttr,aB]
 refine ae.at [6,7] (.of (by kernel_rfl)) (λA=>∃ v,A.env 3=v∧aQ σ A.st v 72 (l.map j8)) ?_ λB ⟨v,h3,hb⟩=>?_
 ·refine ae.upto [6,7] (.of (by kernel_rfl)) l.length (λi A=>∃ v,A.env 3=v∧A.env 8= .int .i64 i∧aQ σ A.st v 72 ((l.take i).map j8)) 0 (Nat.zero_le _) ?_ λi B hi ⟨v,h3,h8,hb⟩=>?_
  ·simp only[go_sem,simprocAttr]
   exact⟨_,rfl,aQ.nil (.refl _) _⟩
  simp only[go_sem,simprocAttr,h3,h8,hb.ok,hb.un,List.length_map]
  refine⟨λhc=>⟨hc,?_⟩,λhc=>?_⟩
  ·obtain⟨a,ha⟩:=get_some hc
   simp only[ar ha]
   simp only[go_sem,simprocAttr,aR,h3,h8,hb.ok,hb.un]
   refine bQ.own 1048576 (by kernel_rfl) (hb.more _).bld (.lit _ _ _) (by simp;omega) λv' σ' ha'=>?_
   have hb':=(hb.more _).app ha'
   simp only[go_sem,simprocAttr,h3,h8,hb.ok,hb.un,hb'.ok,hb'.un]
   refine⟨hc,_,rfl,ag hc (by rw[aq];omega),?_⟩
   rw[ai ha,List.map_append]
   exact hb'
  ·rw[List.take_of_length_le hc]at hb
   exact⟨_,rfl,hb⟩
 simp only[go_sem,simprocAttr,h3,hb.ok,hb.un]
 exact⟨hb.cI.trans (.sub (jG l)),hb.ext⟩
theorem nP (l:List Atom)(hl:l.length≤1048576):ah prog W0 123 [aB l] (aw (single l)):=by
 refine ak [2] [5] func123 rfl rfl ntmps123 rfl rfl (dL _) λhs σ=>?_
 simp only[go_sem,simprocAttr,aB]
 refine ae.at [6,7] (.of (by kernel_rfl)) (λA=>∃ v,A.env 3=v∧aQ σ A.st v 72 (l.map j8)) ?_ λB ⟨v,h3,hb⟩=>?_
 ·refine ae.upto [6,7] (.of (by kernel_rfl)) l.length (λi A=>∃ v,A.env 3=v∧A.env 8= .int .i64 i∧aQ σ A.st v 72 ((l.take i).map j8)) 0 (Nat.zero_le _) ?_ λi B hi ⟨v,h3,h8,hb⟩=>?_
  ·simp only[go_sem,simprocAttr]
   exact⟨_,rfl,aQ.nil (.refl _) _⟩
  simp only[go_sem,simprocAttr,h3,h8,hb.ok,hb.un,List.length_map]
  refine⟨λhc=>⟨hc,?_⟩,λhc=>?_⟩
  ·obtain⟨a,ha⟩:=get_some hc
   simp only[ar ha]
   simp only[go_sem,simprocAttr,aR,h3,h8,hb.ok,hb.un]
   refine bQ.own 1048576 (by kernel_rfl) (hb.more _).bld (.lit _ _ _) (by simp;omega) λv' σ' ha'=>?_
   have hb':=(hb.more _).app ha'
   simp only[go_sem,simprocAttr,h3,h8,hb.ok,hb.un,hb'.ok,hb'.un]
   refine⟨hc,_,rfl,ag hc (by rw[aq];omega),?_⟩
   rw[ai ha,List.map_append]
   exact hb'
  ·rw[List.take_of_length_le hc]at hb
   exact⟨_,rfl,hb⟩
 simp only[go_sem,simprocAttr,h3,hb.ok,hb.un]
 exact⟨hb.cI.trans (.sub (jG l)),hb.ext⟩
theorem DL (l:List Atom):Sub (.sl 81 (l.map aR)) (aB l):=.refl _
theorem ym (l:List ir)(hl:l.length≤1048576):ah prog W0 145 [bW l] (aw (single (l.map bJ))):=by
 refine ak [2] [5] func145 rfl rfl ntmps145 rfl rfl (dL _) λhs σ=>?_
 simp only[go_sem,simprocAttr,bW]
 refine ae.at [7,8] (.of (by kernel_rfl)) (λA=>∃ v,A.env 3=v∧aQ σ A.st v 72 (l.map λp=>j8 (bJ p))) ?_ λB ⟨v,h3,hb⟩=>?_
 ·refine ae.upto [7,8] (.of (by kernel_rfl)) l.length (λi A=>∃ v,A.env 3=v∧A.env 9= .int .i64 i∧aQ σ A.st v 72 ((l.take i).map λp=>j8 (bJ p))) 0 (Nat.zero_le _) ?_ λi B hi ⟨v,h3,h8,hb⟩=>?_
  ·simp only[go_sem,simprocAttr]
   exact⟨_,rfl,aQ.nil (.refl _) _⟩
  simp only[go_sem,simprocAttr,h3,h8,hb.ok,hb.un,List.length_map]
  refine⟨λhc=>⟨hc,?_⟩,λhc=>?_⟩
  ·obtain⟨a,ha⟩:=get_some hc
   simp only[ar ha]
   simp only[go_sem,simprocAttr,c9,h3,h8,hb.ok,hb.un]
   refine ct.at [3,6,7,8,9] (by kernel_rfl) (λA=>A.st=B.st++[none,some (.cells 81 [aR (bJ a)])]) (λh=>?_) (λh=>?_) λA hst=>?_
   ·simp only[go_sem,simprocAttr,aR,bJ]
    simp only[Bool.not_eq_true',beq_eq_false_iff_ne]at h
    rw[if_neg h]
   ·simp only[go_sem,simprocAttr,aR,bJ]
    simp only[Bool.not_eq_false',beq_iff_eq]at h
    rw[if_pos h]
   have hb2:aQ σ A.st v 72 ((l.take i).map λp=>j8 (bJ p)):=by rw[hst];exact hb.more _
   simp only[go_sem,simprocAttr,h3,h8,hst,hb.ok,hb.un,aR]
   refine bQ.own 1048576 (by kernel_rfl) hb2.bld (.lit _ _ _) (by simp;omega) λv' σ' ha'=>?_
   have hb':=hb2.app ha'
   simp only[go_sem,simprocAttr,h3,h8,hb.ok,hb.un,hb'.ok,hb'.un]
   refine⟨hc,_,rfl,ag hc (by rw[aq];omega),?_⟩
   rw[ai ha,List.map_append]
   exact hb'
  ·rw[List.take_of_length_le hc]at hb
   exact⟨_,rfl,hb⟩
 simp only[go_sem,simprocAttr,h3,hb.ok,hb.un]
 refine⟨hb.cI.trans (.sub ?_),hb.ext⟩
 have:=jG (l.map bJ)
 rw[List.map_map]at this
 exact this
theorem Az (l:List ir)(hl:l.length≤1048576):ah prog W0 125 [bW l] (aB (l.map bJ)):=by
 refine ak [2] [5] func125 rfl rfl ntmps125 rfl rfl (nn _) λhs σ=>?_
 simp only[go_sem,simprocAttr,bW]
 refine ae.at [7,8] (.of (by kernel_rfl)) (λA=>∃ v,A.env 3=v∧aQ σ A.st v 81 (l.map λp=>aR (bJ p))) ?_ λB ⟨v,h3,hb⟩=>?_
 ·refine ae.upto [7,8] (.of (by kernel_rfl)) l.length (λi A=>∃ v,A.env 3=v∧A.env 9= .int .i64 i∧aQ σ A.st v 81 ((l.take i).map λp=>aR (bJ p))) 0 (Nat.zero_le _) ?_ λi B hi ⟨v,h3,h8,hb⟩=>?_
  ·simp only[go_sem,simprocAttr]
   exact⟨_,rfl,aQ.nil (.refl _) _⟩
  simp only[go_sem,simprocAttr,h3,h8,hb.ok,hb.un,List.length_map]
  refine⟨λhc=>⟨hc,?_⟩,λhc=>?_⟩
  ·obtain⟨a,ha⟩:=get_some hc
   simp only[ar ha]
   simp only[go_sem,simprocAttr,c9,h3,h8,hb.ok,hb.un]
   refine ct.at [3,6,7,8,9] (by kernel_rfl) (λA=>A.st=B.st++[none,some (.cells 81 [aR (bJ a)])]) (λh=>?_) (λh=>?_) λA hst=>?_
   ·simp only[go_sem,simprocAttr,aR,bJ]
    simp only[Bool.not_eq_true',beq_eq_false_iff_ne]at h
    rw[if_neg h]
   ·simp only[go_sem,simprocAttr,aR,bJ]
    simp only[Bool.not_eq_false',beq_iff_eq]at h
    rw[if_pos h]
   have hb2:aQ σ A.st v 81 ((l.take i).map λp=>aR (bJ p)):=by rw[hst];exact hb.more _
   simp only[go_sem,simprocAttr,h3,h8,hst,hb.ok,hb.un,aR]
   refine bQ.own 1048576 (by kernel_rfl) hb2.bld (.lit _ _ _) (by simp;omega) λv' σ' ha'=>?_
   have hb':=hb2.app ha'
   simp only[go_sem,simprocAttr,h3,h8,hb.ok,hb.un,hb'.ok,hb'.un]
   refine⟨hc,_,rfl,ag hc (by rw[aq];omega),?_⟩
   rw[ai ha,List.map_append]
   exact hb'
  ·rw[List.take_of_length_le hc]at hb
   exact⟨_,rfl,hb⟩
 simp only[go_sem,simprocAttr,h3,hb.ok,hb.un]
 refine⟨hb.cI.trans (.sub ?_),hb.ext⟩
 have:=DL (l.map bJ)
 rw[List.map_map]at this
 exact this
theorem lU {α:Type}(l:List α)(n:Nat):(((n:Nat):Int)<(l.length:Int))↔n<l.length:=by omega
theorem Kr (c:Clause):ah prog W0 202 [aB c] (.bool (decide (6<c.length))):=by
 refine ak [2] [] func202 rfl rfl ntmps202 rfl rfl (.bool _) λhs σ=>?_
 simp only[go_sem,simprocAttr,aB,List.length_map]
 exact aj (decide_eq_decide.2 (lU c 6))
theorem G6 (a:Atom):ah prog W0 204 [aR a] (.bool (!bY a)):=by
 refine ak [2] [1] func204 rfl rfl ntmps204 rfl rfl (.bool _) λhs σ=>?_
 simp only[go_sem,simprocAttr,aR]
 refine al.fn (ub a) ?_
 simp only[go_sem,simprocAttr]
 done
theorem GJ (l:List Clause):ah prog W0 146 [aw l] (.int .i64 (cm l)):=by
 refine ak [2] [] func146 rfl rfl ntmps146 rfl rfl (.int _ _) λhs σ=>?_
 have hl:=(aF (hs _ (List.mem_cons_self ..))).1
 simp only[go_sem,simprocAttr,aw,List.length_map]
 refine aA.fnG (λ_=>GI aB cS.atoms l (λc=>decide (6<c.length)) _ [] (λa _=>Kr a)) ?_
 simp only[go_sem,simprocAttr]
 have e:(decide ((12:Int)<l.length)||l.any λc=>decide (6<c.length))=decide (12<l.length∨(l.any λc=>decide (6<c.length))=true):=by
  rw[Bool.decide_or,Bool.decide_eq_true];congr 1;exact decide_eq_decide.2 (lU l 12)
 rw[e]
 refine⟨λh=>au (by rw[cm,if_pos (of_decide_eq_true h)]),λh=>?_⟩
 have hm:cm l=if l.any (λc=>decide (c.length=0)||c.any λa=>!bY a)=true then 3 else 0:=by rw[cm,if_neg (of_decide_eq_false h)]
 refine ae.upto [12,13] (.of (by kernel_rfl)) l.length (λi A=>A.env 14= .int .i64 i∧A.st=σ∧ ∀c∈l.take i,(decide (c.length=0)||c.any λa=>!bY a)=false) 0 (Nat.zero_le _) ?_ λi B hi ⟨h8,hst,hI⟩=>?_
 ·simp only[go_sem,simprocAttr]
  simp
 simp only[go_sem,simprocAttr,h8,hst,List.length_map]
 refine⟨λhc=>⟨hc,?_⟩,λhc=>?_⟩
 ·obtain⟨a,ha⟩:=get_some hc
  simp only[ar ha]
  simp only[go_sem,simprocAttr,aB,h8,hst,List.length_map]
  refine aA.fnG (λ_=>JL aR cS.atom a (λc=>!bY c) _ [] (λa _=>G6 a)) ?_
  simp only[go_sem,simprocAttr,h8,hst]
  have e:((a.length:Int)==0)=decide (a.length=0):=by rw[Bool.eq_iff_iff];simp
  simp only[e]
  refine⟨λhb=>au ?_,λhb=>⟨hc,ag hc hl,?_⟩⟩
  ·rw[hm,if_pos (any_true ha hb)]
  ·rw[ai ha]
   intro c hcm
   rcases List.mem_append.1 hcm with hcm|hcm
   ·exact hI c hcm
   ·rw[List.mem_singleton.1 hcm];exact hb
 ·refine au ?_
  rw[List.take_of_length_le hc]at hI
  rw[hm,if_neg]
  intro h
  obtain⟨c,hc1,hc2⟩:=List.any_eq_true.1 h
  rw[hI c hc1]at hc2
  cases hc2
end Go.Proofs.Tryz
end
section
namespace Go.Proofs.Tryz
open Go Go.Av
set_option maxRecDepth 10000
variable {W0 :World}
theorem FH (l:List Clause):ah prog W0 127 [aw l] (.int .i64 (cm l)):=by
 refine ak [2] [8] func127 rfl rfl ntmps127 rfl rfl (.int _ _) λhs σ=>?_
 have hl:=(aF (hs _ (List.mem_cons_self ..))).1
 have hls:=(aF (hs _ (List.mem_cons_self ..))).2
 simp only[go_sem,simprocAttr,aw,List.length_map]
 refine⟨λh=>au (by rw[cm,if_pos (.inl ((lU l 12).1 (by simpa using h)))]),λh=>?_⟩
 have h12: ¬12<l.length:=λe=>by have:=(lU l 12).2 e;omega
 refine ae.at [0] (.of (by kernel_rfl)) (λA=>A.st=σ∧(l.any λc=>decide (6<c.length))=false) ?_ λB ⟨hst,h6⟩=>?_
 ·refine ae.upto [0,12,13] (.of (by kernel_rfl)) l.length (λi A=>A.env 14= .int .i64 i∧A.st=σ∧ ∀c∈l.take i,c.length≤6) 0 (Nat.zero_le _) ?_ λi B hi ⟨h8,hst,hI⟩=>?_
  ·simp only[go_sem,simprocAttr]
   simp
  simp only[go_sem,simprocAttr,h8,hst,List.length_map]
  refine⟨λhc=>⟨hc,?_⟩,λhc=>?_⟩
  ·obtain⟨a,ha⟩:=get_some hc
   simp only[ar ha]
   simp only[go_sem,simprocAttr,aB,h8,hst,List.length_map]
   refine⟨λhb=>au ?_,λhb=>⟨hc,ag hc hl,?_⟩⟩
   ·rw[cm,if_pos (.inr (any_true ha (decide_eq_true ((lU a 6).1 (by simpa using hb)))))]
   ·rw[ai ha]
    intro c hcm
    rcases List.mem_append.1 hcm with hcm|hcm
    ·exact hI c hcm
    ·rw[List.mem_singleton.1 hcm];omega
  ·rw[List.take_of_length_le hc]at hI
   rw[List.any_eq_false]
   exact λc hcm=>by have:=hI c hcm;simp;omega
 have hm:cm l=if l.any (λc=>decide (c.length=0)||c.any λa=>!bY a)=true then 3 else 0:=by rw[cm,if_neg (by rw[h6];simp;omega)]
 simp only[go_sem,simprocAttr,hst]
 refine ae.upto [22,23] (.of (by kernel_rfl)) l.length (λi A=>A.env 24= .int .i64 i∧Ext σ A.st∧ ∀c∈l.take i,(decide (c.length=0)||c.any λa=>!bY a)=false) 0 (Nat.zero_le _) ?_ λi B hi ⟨h8,hst,hI⟩=>?_
 ·simp only[go_sem,simprocAttr]
  simp[hst,Ext.refl]
 simp only[go_sem,simprocAttr,h8,List.length_map]
 refine⟨λhc=>⟨hc,?_⟩,λhc=>⟨au ?_,hst⟩⟩
 ·obtain⟨c,hcc⟩:=get_some hc
  simp only[ar hcc]
  have hcl:c.length≤maxLen:=(aF (hls c (List.mem_of_getElem? hcc))).1
  simp only[go_sem,simprocAttr,aB,h8,List.length_map]
  refine⟨λh0=>⟨au ?_,hst⟩,λh0=>?_⟩
  ·have:c.length=0:=by omega
   rw[hm,if_pos (any_true hcc (by simp[this]))]
  refine ae.ats [22,23,24] (.of (by kernel_rfl)) (λA=>Ext σ A.st∧(c.any λa=>!bY a)=false) ?_ λB ⟨hst,h6⟩=>?_
  ·refine ae.upto [22,23,24,31,32] (.of (by kernel_rfl)) c.length (λi A=>A.env 33= .int .i64 i∧Ext σ A.st∧ ∀a∈c.take i,bY a=true) 0 (Nat.zero_le _) ?_ λj B hj ⟨h33,hst,hJ⟩=>?_
   ·simp only[go_sem,simprocAttr]
    simp[hst]
   simp only[go_sem,simprocAttr,h33,List.length_map]
   refine⟨λhc'=>⟨hc',?_⟩,λhc'=>?_⟩
   ·obtain⟨a,ha⟩:=get_some hc'
    simp only[ar ha]
    simp only[go_sem,simprocAttr,aR,h33]
    refine al.fn (sA a) ?_
    simp only[go_sem,simprocAttr,h33]
    refine⟨λhb=>⟨au ?_,hst.app _⟩,λhb=>⟨hc',ag hc' hcl,hst.app _,?_⟩⟩
    ·rw[hm,if_pos (any_true hcc (by rw[any_true ha (by rw[hb];rfl),Bool.or_true]))]
    ·rw[ai ha]
     intro x hxm
     rcases List.mem_append.1 hxm with hxm|hxm
     ·exact hJ x hxm
     ·rw[List.mem_singleton.1 hxm];exact hb
   ·rw[List.take_of_length_le hc']at hJ
    refine⟨hst,?_⟩
    rw[List.any_eq_false]
    exact λx hxm=>by rw[hJ x hxm];simp
  simp only[go_sem,simprocAttr,h8]
  refine⟨hc,ag hc hl,hst,?_⟩
  rw[ai hcc]
  intro x hxm
  rcases List.mem_append.1 hxm with hxm|hxm
  ·exact hI x hxm
  ·rw[List.mem_singleton.1 hxm,h6,Bool.or_false];exact decide_eq_false (by omega)
 ·rw[List.take_of_length_le hc]at hI
  rw[hm,if_neg]
  intro h
  obtain⟨c,hc1,hc2⟩:=List.any_eq_true.1 h
  rw[hI c hc1]at hc2
  cases hc2
theorem getD_map {α:Type}{f:α→AV}{l:List α}{i:Nat}{a:α}{d:AV}(h:l[i]?=some a):(l.map f)[i]?.getD d=f a:=by
 rw[List.getElem?_map,h];rfl
theorem HB (l:List Atom):ah prog W0 124 [.sl 81 (l.map aR)] (.sl 81 ((l.take 13).map aR)):=by
 refine ak [2] [] func124 rfl rfl ntmps124 rfl rfl (gS oO _) λhs σ=>?_
 have e:rX (l.length:Int) 13=((min l.length 13:Nat):Int):=by unfold rX;split<;>omega
 simp only[go_sem,simprocAttr,List.length_map,e]
 refine⟨by omega,?_⟩
 rw[←List.map_take,List.take_eq_take_iff.2 (show min (min l.length 13) l.length=min 13 l.length by omega)]
 exact .refl _
theorem AP (l:List ir):ah prog W0 126 [.sl 147 (l.map c9)] (.sl 147 ((l.take 13).map c9)):=by
 refine ak [2] [] func126 rfl rfl ntmps126 rfl rfl (gS tK _) λhs σ=>?_
 have e:rX (l.length:Int) 13=((min l.length 13:Nat):Int):=by unfold rX;split<;>omega
 simp only[go_sem,simprocAttr,List.length_map,e]
 refine⟨by omega,?_⟩
 rw[←List.map_take,List.take_eq_take_iff.2 (show min (min l.length 13) l.length=min 13 l.length by omega)]
 exact .refl _
theorem Ep (l:List Atom):cm (single (l.take 13))=cm (single l):=by
 rcases Nat.lt_or_ge 12 l.length with h|h
 ·rw[cm,cm,if_pos (.inl (by simp[single];omega)),if_pos (.inl (by simpa[single]using h))]
 ·rw[List.take_of_length_le (by omega)]
theorem Cg (p:Pkg):ah prog W0 59 [av p] (.int .i64 (aU p)):=by
 refine ak [2] [1] func59 rfl rfl ntmps59 rfl rfl (.int _ _) λhs σ=>?_
 simp only[go_sem,simprocAttr,av]
 refine al.fn (xM p.name) ?_
 simp only[go_sem,simprocAttr,av]
 refine aA.fnG (λ_=>rn p.ver) ?_
 simp only[go_sem,simprocAttr,av]
 refine⟨λh=>au (by rw[aU,if_pos h]),λh=>?_⟩
 have hm:aU p=orL [cm p.pre,cm p.dep,cm p.rcm,cm (single p.con),cm (single p.brk),cm (single (p.dE.map bJ))]:=by rw[aU,if_neg (by rw[h];simp)]
 refine⟨.of (by kernel_rfl),aA.fn (HB p.con) ?_⟩
 simp only[go_sem,simprocAttr]
 refine aA.fn (nP (p.con.take 13) (by rw[List.length_take];omega)) ?_
 simp only[go_sem,simprocAttr]
 refine aA.fn (HB p.brk) ?_
 simp only[go_sem,simprocAttr]
 refine aA.fn (nP (p.brk.take 13) (by rw[List.length_take];omega)) ?_
 simp only[go_sem,simprocAttr]
 refine aA.fn (AP p.dE) ?_
 simp only[go_sem,simprocAttr]
 refine aA.fn (Az (p.dE.take 13) (by rw[List.length_take];omega)) ?_
 simp only[go_sem,simprocAttr]
 refine aA.fn (nP ((p.dE.take 13).map bJ) (by rw[List.length_map,List.length_take];omega)) ?_
 simp only[go_sem,simprocAttr]
 let ls:=[p.pre,p.dep,p.rcm,single (p.con.take 13),single (p.brk.take 13),single ((p.dE.take 13).map bJ)]
 have hl:orL (ls.map cm)=aU p:=by
  rw[hm]
  simp only[ls,List.map_cons,List.map_nil,Ep,List.map_take]
 have e:[aw p.pre,aw p.dep,aw p.rcm,aw (single (p.con.take 13)),aw (single (p.brk.take 13)),aw (single ((p.dE.take 13).map bJ))]=ls.map aw:=rfl
 simp only[e]
 refine ae.upto [35] (.of (by kernel_rfl)) 6 (λi A=>A.env 36= .int .i64 i∧A.st=σ∧orL ((ls.map cm).drop i)=aU p) 0 (Nat.zero_le _) ?_ λi B hi ⟨h8,hst,hI⟩=>?_
 ·simp only[go_sem,simprocAttr]
  exact hl
 simp only[go_sem,simprocAttr,h8,hst]
 refine⟨λhc=>?_,λhc=>au ?_⟩
 ·have hc':i<ls.length:=by show i<6;omega
  obtain⟨c,hcc⟩:=get_some hc'
  obtain⟨hlt,hae⟩:=List.getElem?_eq_some_iff.1 hcc
  rw[List.drop_eq_getElem_cons (by simpa using hc'),List.getElem_map,hae]at hI
  simp only[getD_map hcc]
  refine⟨by simpa using hc',trivial,al.fn (FH c) ?_⟩
  simp only[go_sem,simprocAttr,h8,hst]
  refine⟨λhq=>au (by rw[←hI,orL,if_pos hq]),λhq=>⟨by omega,ag (show i<6 by omega) (by rw[aq];omega),?_⟩⟩
  rw[←hI,orL,if_neg (by simpa using hq)]
 ·rw[List.drop_eq_nil_of_le (by show 6≤i;omega)]at hI
  exact hI
structure lJ (p:Pkg):Prop where
 con:p.con.length≤1048576
 brk:p.brk.length≤1048576
 dE:p.dE.length≤1048576
theorem G7 (p:Pkg)(hp:lJ p):ah prog W0 80 [av p] (.int .i64 (aU p)):=by
 refine ak [2] [1] func80 rfl rfl ntmps80 rfl rfl (.int _ _) λhs σ=>?_
 simp only[go_sem,simprocAttr,av]
 refine al.fn (jM p.ver) ?_
 have hpv: ∃e u r,fo (eL p.ver)= .tup [.str e,.str u,.str r,.int .i64 (if bf p.ver then 0 else 3)]:=by
  cases h:eL p.ver with
  |none=>exact⟨_,_,_,by rw[bf,h];rfl⟩
  |some v=>exact⟨_,_,_,by rw[bf,h];rfl⟩
 obtain⟨e,u,r,hpv⟩:=hpv
 rw[hpv]
 simp only[go_sem,simprocAttr,av]
 refine al.fn (wG p.name) ?_
 simp only[go_sem,simprocAttr,av]
 have hb:(!cq p.name||(if bf p.ver=true then(0:Int)else 3) !=0)=(!cq p.name|| !bf p.ver):=by cases bf p.ver<;>rfl
 simp only[hb]
 refine⟨λh=>au (by rw[aU,if_pos h]),λh=>?_⟩
 have hm:aU p=orL [cm p.pre,cm p.dep,cm p.rcm,cm (single p.con),cm (single p.brk),cm (single (p.dE.map bJ))]:=by rw[aU,if_neg (by rw[h];simp)]
 refine⟨.of (by kernel_rfl),aA.fn (sX p.con hp.con) ?_⟩
 simp only[go_sem,simprocAttr]
 refine aA.fn (sX p.brk hp.brk) ?_
 simp only[go_sem,simprocAttr]
 refine aA.fn (ym p.dE hp.dE) ?_
 simp only[go_sem,simprocAttr]
 let ls:=[p.pre,p.dep,p.rcm,single p.con,single p.brk,single (p.dE.map bJ)]
 have hl:orL (ls.map cm)=aU p:=by
  rw[hm]
  simp only[ls,List.map_cons,List.map_nil]
 have e:[aw p.pre,aw p.dep,aw p.rcm,aw (single p.con),aw (single p.brk),aw (single (p.dE.map bJ))]=ls.map aw:=rfl
 simp only[e]
 refine ae.upto [41,42] (.of (by kernel_rfl)) 6 (λi A=>A.env 43= .int .i64 i∧A.st=σ∧orL ((ls.map cm).drop i)=aU p) 0 (Nat.zero_le _) ?_ λi B hi ⟨h8,hst,hI⟩=>?_
 ·simp only[go_sem,simprocAttr]
  exact hl
 simp only[go_sem,simprocAttr,h8,hst]
 refine⟨λhc=>?_,λhc=>au ?_⟩
 ·have hc':i<ls.length:=by show i<6;omega
  obtain⟨c,hcc⟩:=get_some hc'
  obtain⟨hlt,hae⟩:=List.getElem?_eq_some_iff.1 hcc
  rw[List.drop_eq_getElem_cons (by simpa using hc'),List.getElem_map,hae]at hI
  simp only[ar hcc]
  refine⟨by simpa using hc',trivial,al.fn (GJ c) ?_⟩
  simp only[go_sem,simprocAttr,h8,hst]
  refine⟨λhq=>au (by rw[←hI,orL,if_pos hq]),λhq=>⟨by omega,ag (show i<6 by omega) (by rw[aq];omega),?_⟩⟩
  rw[←hI,orL,if_neg (by simpa using hq)]
 ·rw[List.drop_eq_nil_of_le (by show 6≤i;omega)]at hI
  exact hI
theorem Ki (p q:Pkg):ah prog W0 149 [av q,.loc 54 (av p)] (.bool (db p q)):=by
 refine ak [3] [2] func149 rfl rfl ntmps149 rfl rfl (.bool _) λhs σ=>?_
 simp only[go_sem,simprocAttr,av]
 refine aA.fnG (λ_=>o9 q.ver p.ver) ?_
 simp only[go_sem,simprocAttr]
 exact aj rfl
theorem cS.pkg (p:Pkg):cS (av p):=trivial
@[go_sem] theorem Q8 (g:Option Bool)(p:Pkg):okM g (av p)=True:=eq_true trivial
@[go_sem] theorem P3 (p:Pkg):unm (av p)=av p:=rfl
theorem vz (l:List Pkg)(hp: ∀p∈l,lJ p):ah prog W0 90 [aN l] (.int .i64 (bt l)):=by
 refine ak [2] [4,8] func90 rfl rfl ntmps90 rfl rfl (.int _ _) λhs σ=>?_
 have hl:=(aF (hs _ (List.mem_cons_self ..))).1
 simp only[go_sem,simprocAttr,aN,List.length_map]
 refine⟨λh=>au (by rw[bt,if_pos ((lU l 24).1 (by simpa using h))]),λh=>?_⟩
 have h24: ¬24<l.length:=λe=>by have:=(lU l 24).2 e;omega
 refine ae.at [0] (.of (by kernel_rfl)) (λA=>Ext σ A.st∧orL (l.map aU)=0) ?_ λB ⟨hst,h6⟩=>?_
 ·refine ae.upto [0,12,13] (.of (by kernel_rfl)) l.length (λi A=>A.env 14= .int .i64 i∧Ext σ A.st∧orL ((l.map aU).drop i)=orL (l.map aU)) 0 (Nat.zero_le _) ?_ λi B hi ⟨h8,hst,hI⟩=>?_
  ·simp only[go_sem,simprocAttr]
   simp[Ext.refl]
  simp only[go_sem,simprocAttr,h8,List.length_map]
  refine⟨λhc=>⟨hc,?_⟩,λhc=>?_⟩
  ·obtain⟨a,ha⟩:=get_some hc
   obtain⟨hlt,hae⟩:=List.getElem?_eq_some_iff.1 ha
   rw[List.drop_eq_getElem_cons (by simpa using hc),List.getElem_map,hae]at hI
   simp only[ar ha]
   simp only[go_sem,simprocAttr,h8,List.length_map]
   refine⟨by kernel_rfl,al.fn (G7 a (hp a (List.mem_of_getElem? ha))) ?_⟩
   simp only[go_sem,simprocAttr,h8]
   refine⟨λhq=>⟨au ?_,hst.app _⟩,λhq=>⟨hc,ag hc hl,hst.app _,?_⟩⟩
   ·rw[orL,if_pos hq]at hI
    rw[bt,if_neg h24,if_pos (by rw[←hI];exact hq),hI]
   ·rw[←hI,orL,if_neg (by simpa using hq)]
  ·rw[List.drop_eq_nil_of_le (by simpa using hc)]at hI
   exact⟨hst,hI.symm⟩
 have hm:bt l=if nt [] l=true then 4 else if 10<(dy l []).length then 12 else 0:=by rw[bt,if_neg h24,if_neg (by simp[h6])]
 simp only[go_sem,simprocAttr,List.length_map]
 refine ae.at [0,24,25] (.of (by kernel_rfl)) (λA=>∃ v,A.env 6=v∧aQ σ A.st v 9 ((dy l []).map .str)∧nt [] l=false) ?_ λB ⟨v,h6,hb,hd⟩=>?_
 ·refine ae.upto [0,24,25] (.of (by kernel_rfl)) l.length (λi A=>∃ v acc,A.env 6=v∧A.env 26= .int .i64 i∧aQ σ A.st v 9 (acc.map .str)∧dy (l.drop i) acc=dy l []∧nt (l.take i) (l.drop i)=nt [] l∧acc.length≤i) 0 (Nat.zero_le _) ?_ λi B hi ⟨v,acc,h6,h8,hb,hn,hd,hal⟩=>?_
  ·simp only[go_sem,simprocAttr]
   exact⟨_,[],rfl,aQ.nil hst _,by simp⟩
  simp only[go_sem,simprocAttr,h6,h8,hb.ok,hb.un,List.length_map]
  refine⟨λhc=>⟨hc,?_⟩,λhc=>?_⟩
  ·obtain⟨a,ha⟩:=get_some hc
   obtain⟨hlt,hae⟩:=List.getElem?_eq_some_iff.1 ha
   rw[List.drop_eq_getElem_cons hc,hae]at hn hd
   simp only[ar ha]
   simp only[go_sem,simprocAttr,h6,h8,hb.ok,hb.un,List.length_map]
   rw[←List.map_take]
   refine⟨by kernel_rfl,⟨Nat.zero_le _,hi⟩,al.fn (Mn av cS.pkg (l.take i) (db a) _ [.loc 54 (av a)] (λq _=>Ki a q)) ?_⟩
   simp only[go_sem,simprocAttr,av,h6,h8,hb.ok,hb.un]
   rw[nt]at hd
   refine⟨λhq=>⟨au ?_,hb.ext.app _⟩,λhq=>al.fn ((O5 acc a.name).cI (.cons hb.cI (.cons (.refl _) .nil))) ?_⟩
   ·rw[hm,←hd,hq,if_pos (by simp)]
   rw[hq,Bool.false_or,←ai ha]at hd
   simp only[go_sem,simprocAttr,av,h6,h8,hb.ok,hb.un]
   rw[dy]at hn
   have hb2:=(hb.more [none])
   refine⟨λh=>?_,λh=>⟨hc,v,acc,rfl,ag hc hl,hb2,?_,hd,by omega⟩⟩
   ·refine bQ.own 1048576 (by kernel_rfl) hb2.bld (.lit _ _ _) (by simp;omega) λv' σ' ha'=>?_
    have hb':=hb2.app ha'
    simp only[go_sem,simprocAttr,h6,h8,hb'.ok,hb'.un]
    refine⟨hc,_,acc++[a.name],rfl,ag hc hl,by simpa using hb',?_,hd,by simp;omega⟩
    rw[if_neg (by simp[h])]at hn
    exact hn
   ·rw[if_pos h]at hn
    exact hn
  ·rw[List.drop_eq_nil_of_le hc]at hn hd
   exact⟨_,rfl,by rw[←hn];exact hb,hd.symm⟩
 simp only[go_sem,simprocAttr,h6,hb.ok,hb.un,hb.len,hb.fX,List.length_map]
 refine⟨λhq=>⟨au ?_,hb.ext⟩,λhq=>⟨au ?_,hb.ext⟩⟩
 ·rw[hm,hd,if_neg (by simp),if_pos ((lU _ 10).1 hq)]
 ·rw[hm,hd,if_neg (by simp),if_neg (λe=>hq ((lU _ 10).2 e))]
end Go.Proofs.Tryz
end
section
namespace Go.Proofs.Tryz
open Go Go.Av
set_option maxRecDepth 10000
variable {W0 :World}
theorem DS (l:List Pkg):ah prog W0 19 [aN l] (.int .i64 (bt l)):=by
 refine ak [2] [4,8,11] func19 rfl rfl ntmps19 rfl rfl (.int _ _) λhs σ=>?_
 have hl:=(aF (hs _ (List.mem_cons_self ..))).1
 simp only[go_sem,simprocAttr,aN,List.length_map]
 refine⟨λh=>au (by rw[bt,if_pos ((lU l 24).1 (by simpa using h))]),λh=>?_⟩
 have h24: ¬24<l.length:=λe=>by have:=(lU l 24).2 e;omega
 refine ae.at [0] (.of (by kernel_rfl)) (λA=>Ext σ A.st∧orL (l.map aU)=0) ?_ λB ⟨hst,h6⟩=>?_
 ·refine ae.upto [0,15,16] (.of (by kernel_rfl)) l.length (λi A=>A.env 17= .int .i64 i∧Ext σ A.st∧orL ((l.map aU).drop i)=orL (l.map aU)) 0 (Nat.zero_le _) ?_ λi B hi ⟨h8,hst,hI⟩=>?_
  ·simp only[go_sem,simprocAttr]
   simp[Ext.refl]
  simp only[go_sem,simprocAttr,h8,List.length_map]
  refine⟨λhc=>⟨hc,?_⟩,λhc=>?_⟩
  ·obtain⟨a,ha⟩:=get_some hc
   obtain⟨hlt,hae⟩:=List.getElem?_eq_some_iff.1 ha
   rw[List.drop_eq_getElem_cons (by simpa using hc),List.getElem_map,hae]at hI
   simp only[ar ha]
   simp only[go_sem,simprocAttr,h8,List.length_map]
   refine⟨by kernel_rfl,al.fn (Cg a) ?_⟩
   simp only[go_sem,simprocAttr,h8]
   refine⟨λhq=>⟨au ?_,hst.app _⟩,λhq=>⟨hc,ag hc hl,hst.app _,?_⟩⟩
   ·rw[orL,if_pos hq]at hI
    rw[bt,if_neg h24,if_pos (by rw[←hI];exact hq),hI]
   ·rw[←hI,orL,if_neg (by simpa using hq)]
  ·rw[List.drop_eq_nil_of_le (by simpa using hc)]at hI
   exact⟨hst,hI.symm⟩
 have hm:bt l=if nt [] l=true then 4 else if 10<(dy l []).length then 12 else 0:=by rw[bt,if_neg h24,if_neg (by simp[h6])]
 simp only[go_sem,simprocAttr,List.length_map]
 refine ae.at [0,27,28] (.of (by kernel_rfl)) (λA=>∃ v,A.env 6=v∧aQ σ A.st v 9 ((dy l []).map .str)∧nt [] l=false) ?_ λB ⟨v,h6,hb,hd⟩=>?_
 ·refine ae.upto [0,27,28] (.of (by kernel_rfl)) l.length (λi A=>∃ v acc,A.env 6=v∧A.env 29= .int .i64 i∧aQ σ A.st v 9 (acc.map .str)∧dy (l.drop i) acc=dy l []∧nt (l.take i) (l.drop i)=nt [] l∧acc.length≤i∧ ∀n,acc.any (λx=>n==x)=(l.take i).any (λq=>q.name==n)) 0 (Nat.zero_le _) ?_ λi B hi ⟨v,acc,h6,h8,hb,hn,hd,hal,hnm⟩=>?_
  ·simp only[go_sem,simprocAttr]
   exact⟨_,[],rfl,aQ.nil hst _,by simp⟩
  simp only[go_sem,simprocAttr,h6,h8,hb.ok,hb.un,List.length_map]
  refine⟨λhc=>⟨hc,?_⟩,λhc=>?_⟩
  ·obtain⟨a,ha⟩:=get_some hc
   obtain⟨hlt,hae⟩:=List.getElem?_eq_some_iff.1 ha
   rw[List.drop_eq_getElem_cons hc,hae]at hn hd
   simp only[ar ha]
   simp only[go_sem,simprocAttr,h6,h8,hb.ok,hb.un,List.length_map]
   rw[←List.map_take]
   refine⟨by kernel_rfl,⟨Nat.zero_le _,hi⟩,?_⟩
   rw[nt]at hd
   rw[dy]at hn
   have hb2:=(hb.more [none])
   have hil:(l.take i).length=i:=by rw[List.length_take];omega
   refine ae.at [0,6,8,27,28,29] (.of (by kernel_rfl)) (λA=>Ext (B.st++[none]) A.st∧A.env 9= .bool ((l.take i).any λq=>q.name==a.name)∧(l.take i).any (db a)=false) ?_ λA ⟨hst,h9,hd2⟩=>?_
   ·refine ae.upto [0,6,8,27,28,29,36,37] (.of (by kernel_rfl)) i (λj A=>A.env 38= .int .i64 j∧Ext (B.st++[none]) A.st∧A.env 9= .bool (((l.take i).take j).any λq=>q.name==a.name)∧((l.take i).take j).any (db a)=false) 0 (Nat.zero_le _) ?_ λj A hj ⟨h38,hst,h9,hd2⟩=>?_
    ·simp only[go_sem,simprocAttr,List.length_map]
     exact⟨.refl _,by simp,by simp⟩
    simp only[go_sem,simprocAttr,h38,h9,List.length_map]
    refine⟨λhj'=>⟨hj',?_⟩,λhj'=>?_⟩
    ·obtain⟨b,hbj⟩:=get_some hj'
     have hjl:j<i:=by omega
     simp only[ar hbj]
     simp only[go_sem,simprocAttr,av,h38,h9]
     have he: ∀f:Pkg→Bool,((l.take i).take (j+1)).any f=(((l.take i).take j).any f||f b):=λf=>by rw[ai hbj,List.any_append];simp
     refine⟨λhq=>al.fn (ga b.ver a.ver) ?_,λhq=>?_⟩
     ·simp only[go_sem,simprocAttr,h38,h9]
      refine⟨λhv=>⟨au ?_,hb2.ext.trans (hst.app _)⟩,λhv=>⟨hjl,ag hjl (by omega),hst.app _,?_,?_⟩⟩
      ·have:(l.take i).any (db a)=true:=any_true hbj (by simp[db,hq,hv])
       rw[hm,←hd,this,if_pos (by simp)]
      ·rw[he];simp[hq]
      ·rw[he,hd2];simp[db,hv]
     ·refine⟨hjl,ag hjl (by omega),hst.app _,?_,?_⟩
      ·rw[he];simp[hq]
      ·rw[he,hd2];simp[db,hq]
    ·rw[List.take_of_length_le hj']at h9 hd2 ⊢
     exact⟨hst,rfl,hd2⟩
   have hb3:=hb2.on hst
   rw[hd2,Bool.false_or,←ai ha]at hd
   have hns: ∀acc':List (List UInt8),acc'=(if (acc.any λx=>a.name==x)=true then acc else acc++[a.name])→ ∀n,acc'.any (λx=>n==x)=(l.take (i+1)).any (λq=>q.name==n):=λacc' e n=>by
    rw[ai ha,List.any_append,←hnm n,e]
    by_cases hx:(acc.any λx=>a.name==x)=true
    ·rw[if_pos hx]
     by_cases hna:a.name=n
     ·subst hna;simp[hx]
     ·simp[hna]
    ·rw[if_neg hx,List.any_append]
     have:(n==a.name)=(a.name==n):=by rw[Bool.eq_iff_iff,beq_iff_eq,beq_iff_eq];exact⟨Eq.symm,Eq.symm⟩
     simp[this]
   simp only[go_sem,simprocAttr,av,h6,h8,h9,hb3.ok,hb3.un]
   refine⟨λh=>?_,λh=>⟨hc,v,acc,rfl,ag hc hl,hb3,?_,hd,by omega,?_⟩⟩
   ·refine bQ.own 1048576 (by kernel_rfl) hb3.bld (.lit _ _ _) (by simp;omega) λv' σ' ha'=>?_
    have hb':=hb3.app ha'
    simp only[go_sem,simprocAttr,h6,h8,hb'.ok,hb'.un]
    rw[←hnm]at h
    rw[if_neg (by rw[h];simp)]at hn hns
    refine⟨hc,_,acc++[a.name],rfl,ag hc hl,by simpa using hb',hn,hd,by simp;omega,hns _ rfl⟩
   ·rw[←hnm]at h
    rw[if_pos h]at hn
    exact hn
   ·rw[←hnm]at h
    rw[if_pos h]at hns
    exact hns _ rfl
  ·rw[List.drop_eq_nil_of_le hc]at hn hd
   exact⟨_,rfl,by rw[←hn];exact hb,hd.symm⟩
 simp only[go_sem,simprocAttr,h6,hb.ok,hb.un,hb.len,hb.fX,List.length_map]
 refine⟨λhq=>⟨au ?_,hb.ext⟩,λhq=>⟨au ?_,hb.ext⟩⟩
 ·rw[hm,hd,if_neg (by simp),if_pos ((lU _ 10).1 hq)]
 ·rw[hm,hd,if_neg (by simp),if_neg (λe=>hq ((lU _ 10).2 e))]
end Go.Proofs.Tryz
end
section
namespace Go.Av
theorem any_succ {α:Type}{l:List α}{i:Nat}{x:α}(h:l[i]?=some x)(f:α→Bool):(l.take (i+1)).any f=((l.take i).any f||f x):=by
 rw[ai h,List.any_append];simp
theorem jS {α:Type}{l:List α}{i:Nat}(h:l.length≤i)(f:α→Bool):(l.take i).any f=l.any f:=by rw[List.take_of_length_le h]
def di (p:Pkg)(a:Atom):Bool:=
 bY a&&((p.name==a.name&&ep a.rel p.ver a.ver)||p.dE.any λv=>v.name==a.name&&(a.rel==0||ep a.rel v.ver a.ver))
def jA (p q:Pkg):Bool:=p.con.any (di q)||p.brk.any (di q)
def eI (p q:Pkg):Bool:=p.name !=q.name&&(jA p q||jA q p)
def nu (c:Clause)(l:List Pkg):Bool:=c.any λa=>l.any λp=>di p a
def pK (l bef:List Pkg)(p:Pkg):Bool:=aU p !=0||bef.any (λq=>q.name==p.name||eI p q)||(p.pre.any (λc=>!nu c l)||p.dep.any (λc=>!nu c l))
def rz (l:List Pkg):List Pkg→List Pkg→Bool
 |_,[]=>false
 |bef,p::r=>pK l bef p||rz l (bef++[p]) r
def dO (l:List Pkg):Bool:=!rz l [] l
theorem Dn :bf []=false:=rfl
theorem holds_nil {r:Int}(b:List UInt8):ep r [] b=false:=by
 unfold ep
 rw[Dn]
 split<;>rfl
end Go.Av
end
section
namespace Go.Proofs.Tryz
open Go Go.Av
set_option maxRecDepth 10000
variable {W0 :World}
@[go_sem] theorem OG (g:Option Bool)(p:Atom):okM g (aR p)=True:=eq_true trivial
@[go_sem] theorem Of (p:Atom):unm (aR p)=aR p:=rfl
@[go_sem] theorem LI (p:Atom):bm prog 81 (aR p)=true:=by kernel_rfl
@[go_sem] theorem NR (p:Pkg):bm prog 54 (av p)=true:=by kernel_rfl
@[go_sem] theorem Pg (g:Option Bool)(p:ir):okM g (c9 p)=True:=eq_true trivial
@[go_sem] theorem Pe (p:ir):unm (c9 p)=c9 p:=rfl
theorem cS.dE (p:ir):cS (c9 p):=trivial
theorem Kj (a:Atom)(v:ir):ah prog W0 183 [c9 v,.loc 81 (aR a)] (.bool (v.name==a.name&&(a.rel==0||ep a.rel v.ver a.ver))):=by
 refine ak [3] [2] func183 rfl rfl ntmps183 rfl rfl (.bool _) λhs σ=>?_
 simp only[go_sem,simprocAttr,c9,aR]
 refine aA.fnG (λ_=>zp a.rel v.ver a.ver) ?_
 simp only[go_sem,simprocAttr]
theorem H5 (p:Pkg)(a:Atom):ah prog W0 133 [av p,aR a] (.bool (di p a)):=by
 refine ak [4] [2,3] func133 rfl rfl ntmps133 rfl rfl (.bool _) λhs σ=>?_
 simp only[go_sem,simprocAttr,av,aR]
 refine al.fn (ub a) ?_
 simp only[go_sem,simprocAttr,av,aR]
 refine⟨λh=>aj (by rw[di,h];rfl),λh=>aA.fnG (λ_=>zp a.rel p.ver a.ver) ?_⟩
 simp only[go_sem,simprocAttr,av,aR]
 refine⟨λh2=>aj (by rw[di,h,h2];rfl),λh2=>al.fn (OU c9 cS.dE p.dE _ _ [.loc 81 (aR a)] (λq _=>Kj a q)) ?_⟩
 simp only[go_sem,simprocAttr]
 exact aj (by rw[di,h,h2];simp)
theorem rr (q:Pkg)(a:Atom):ah prog W0 192 [aR a,.loc 54 (av q)] (.bool (di q a)):=by
 refine ak [3] [2] func192 rfl rfl ntmps192 rfl rfl (.bool _) λhs σ=>?_
 simp only[go_sem,simprocAttr]
 refine al.fn (H5 q a) ?_
 simp only[go_sem,simprocAttr]
 try exact aj rfl
theorem tO (p q:Pkg):ah prog W0 136 [av p,av q] (.bool (jA p q)):=by
 refine ak [4] [2,3] func136 rfl rfl ntmps136 rfl rfl (.bool _) λhs σ=>?_
 simp only[go_sem,simprocAttr,av]
 refine al.fn (GC aR cS.atom p.con (di q) _ [.loc 54 (av q)] (λa _=>rr q a)) ?_
 simp only[go_sem,simprocAttr,av]
 refine aA.go (λ_=>GC aR cS.atom p.brk (di q) _ [.loc 54 (av q)] (λa _=>rr q a)) ?_
 simp only[go_sem,simprocAttr]
 try exact aj rfl
theorem zX (p q:Pkg):ah prog W0 75 [av p,av q] (.bool (eI p q)):=by
 refine ak [4] [2,3] func75 rfl rfl ntmps75 rfl rfl (.bool _) λhs σ=>?_
 simp only[go_sem,simprocAttr,av]
 refine aA.fnG (λ_=>tO p q) ?_
 simp only[go_sem,simprocAttr]
 refine aA.fnG (λ_=>tO q p) ?_
 simp only[go_sem,simprocAttr]
 try exact aj rfl
theorem CG (p:Pkg)(a:Atom):ah prog W0 76 [av p,aR a] (.bool (di p a)):=by
 refine ak [4] [2,3,6] func76 rfl rfl ntmps76 rfl rfl (.bool _) λhs σ=>?_
 have hl:=(aF (nj (hs _ (List.mem_cons_self ..)) (bW p.dE) (by simp))).1
 simp only[go_sem,simprocAttr,av,aR]
 refine al.fn (sA a) ?_
 simp only[go_sem,simprocAttr,av,aR]
 refine⟨λh=>aj (by rw[di,h];rfl),λh=>aA.fnG (λ_=>ya a.rel p.ver a.ver) ?_⟩
 simp only[go_sem,simprocAttr,av,aR]
 refine⟨λh2=>aj (by rw[di,h,h2];rfl),λh2=>?_⟩
 simp only[go_sem,simprocAttr,bW,List.length_map]
 refine ae.upto [3,25,26] (.of (by kernel_rfl)) p.dE.length (λi A=>A.env 27= .int .i64 i∧Ext σ A.st∧(p.dE.take i).any (λv=>v.name==a.name&&(a.rel==0||ep a.rel v.ver a.ver))=false) 0 (Nat.zero_le _) ?_ λi B hi ⟨h8,hst,hI⟩=>?_
 ·simp only[go_sem,simprocAttr]
  simp[Ext.refl]
 simp only[go_sem,simprocAttr,h8,List.length_map]
 refine⟨λhc=>⟨hc,?_⟩,λhc=>⟨aj ?_,hst⟩⟩
 ·obtain⟨v,hv⟩:=get_some hc
  simp only[ar hv]
  simp only[go_sem,simprocAttr,c9,h8]
  refine aA.fnG (λ_=>ya a.rel v.ver a.ver) ?_
  simp only[go_sem,simprocAttr,h8]
  have e:(v.name==a.name&&(a.rel==0|| !v.ver==[]&&ep a.rel v.ver a.ver))=(v.name==a.name&&(a.rel==0||ep a.rel v.ver a.ver)):=by
   cases hv:v.ver with
   |nil=>rw[holds_nil];simp
   |cons c r=>simp
  simp only[e]
  refine⟨λhq=>⟨aj ?_,hst.app _⟩,λhq=>⟨hc,ag hc hl,hst.app _,by rw[any_succ hv,hI,hq];rfl⟩⟩
  rw[di,h,h2,any_true hv hq];rfl
 ·rw[jS hc]at hI
  rw[di,h,h2,hI];rfl
theorem rC (p q:Pkg):ah prog W0 129 [av p,av q] (.bool (jA p q)):=by
 refine ak [4] [2,3,8] func129 rfl rfl ntmps129 rfl rfl (.bool _) λhs σ=>?_
 have hl1:=(aF (nj (hs _ (List.mem_cons_self ..)) (aB p.con) (by simp))).1
 have hl2:=(aF (nj (hs _ (List.mem_cons_self ..)) (aB p.brk) (by simp))).1
 simp only[go_sem,simprocAttr,av]
 let ls:=[p.con,p.brk]
 have e:[aB p.con,aB p.brk]=ls.map aB:=rfl
 have hls: ∀l∈ls,l.length≤maxLen:=by simp only[ls];simp[hl1,hl2]
 have ha:jA p q=ls.any λl=>l.any (di q):=by simp only[ls];simp[jA]
 simp only[e]
 refine ae.upto [3,13] (.of (by kernel_rfl)) 2 (λi A=>A.env 14= .int .i64 i∧Ext σ A.st∧((ls.take i).any λl=>l.any (di q))=false) 0 (Nat.zero_le _) ?_ λi B hi ⟨h8,hst,hI⟩=>?_
 ·simp only[go_sem,simprocAttr]
  simp[Ext.refl]
 simp only[go_sem,simprocAttr,h8]
 refine⟨λhc=>?_,λhc=>⟨aj ?_,hst⟩⟩
 ·have hc':i<ls.length:=by show i<2;omega
  obtain⟨l,hll⟩:=get_some hc'
  have hl:=hls l (List.mem_of_getElem? hll)
  simp only[getD_map hll]
  simp only[go_sem,simprocAttr,aB,List.length_map]
  refine⟨hc',ae.ats [3,13,14] (.of (by kernel_rfl)) (λA=>Ext σ A.st∧l.any (di q)=false) ?_ λA ⟨hst,hd⟩=>?_⟩
  ·refine ae.upto [3,13,14,17,18] (.of (by kernel_rfl)) l.length (λj A=>A.env 19= .int .i64 j∧Ext σ A.st∧(l.take j).any (di q)=false) 0 (Nat.zero_le _) ?_ λj A hj ⟨h19,hst,hJ⟩=>?_
   ·simp only[go_sem,simprocAttr]
    simp[hst]
   simp only[go_sem,simprocAttr,h19,List.length_map]
   refine⟨λhc'=>⟨hc',?_⟩,λhc'=>⟨hst,by rwa [jS hc']at hJ⟩⟩
   obtain⟨a,ha'⟩:=get_some hc'
   simp only[ar ha']
   simp only[go_sem,simprocAttr,h19]
   refine al.fn (CG q a) ?_
   simp only[go_sem,simprocAttr,h19]
   refine⟨λhq=>⟨aj ?_,hst.app _⟩,λhq=>⟨hc',ag hc' hl,hst.app _,by rw[any_succ ha',hJ,hq];rfl⟩⟩
   rw[ha,any_true hll (any_true ha' hq)]
  simp only[go_sem,simprocAttr,h8]
  exact⟨by omega,ag (show i<2 by omega) (by rw[aq];omega),hst,by rw[any_succ hll,hI,hd];rfl⟩
 ·rw[jS (by show 2≤i;omega)]at hI
  rw[ha,hI]
theorem DY (p q:Pkg):ah prog W0 65 [av p,av q] (.bool (eI p q)):=by
 refine ak [4] [2,3] func65 rfl rfl ntmps65 rfl rfl (.bool _) λhs σ=>?_
 simp only[go_sem,simprocAttr,av]
 refine aA.fnG (λ_=>rC p q) ?_
 simp only[go_sem,simprocAttr]
 refine aA.fnG (λ_=>rC q p) ?_
 simp only[go_sem,simprocAttr]
 try exact aj rfl
theorem KW (c:Clause)(l:List Pkg):ah prog W0 29 [aB c,aN l] (.bool (nu c l)):=by
 refine ak [4] [6,8] func29 rfl rfl ntmps29 rfl rfl (.bool _) λhs σ=>?_
 have hcl:=(aF (hs _ (List.mem_cons_self ..))).1
 have hl:=(aF (hs (aN l) (by simp))).1
 simp only[go_sem,simprocAttr,aB,aN,List.length_map]
 refine ae.upto [1,9,10] (.of (by kernel_rfl)) c.length (λi A=>A.env 11= .int .i64 i∧Ext σ A.st∧((c.take i).any λa=>l.any λp=>di p a)=false) 0 (Nat.zero_le _) ?_ λi B hi ⟨h8,hst,hI⟩=>?_
 ·simp only[go_sem,simprocAttr]
  simp[Ext.refl]
 simp only[go_sem,simprocAttr,h8,List.length_map]
 refine⟨λhc=>⟨hc,?_⟩,λhc=>⟨aj ?_,hst⟩⟩
 ·obtain⟨a,ha⟩:=get_some hc
  simp only[ar ha]
  simp only[go_sem,simprocAttr,h8,List.length_map]
  refine ae.ats [1,9,10,11] (.of (by kernel_rfl)) (λA=>Ext σ A.st∧(l.any λp=>di p a)=false) ?_ λA ⟨hst,hd⟩=>?_
  ·refine ae.upto [1,6,9,10,11,15,16] (.of (by kernel_rfl)) l.length (λj A=>A.env 17= .int .i64 j∧Ext σ A.st∧((l.take j).any λp=>di p a)=false) 0 (Nat.zero_le _) ?_ λj A hj ⟨h19,hst,hJ⟩=>?_
   ·simp only[go_sem,simprocAttr]
    simp[hst.app]
   simp only[go_sem,simprocAttr,h19,List.length_map]
   refine⟨λhc'=>⟨hc',?_⟩,λhc'=>⟨hst,by rwa [jS hc']at hJ⟩⟩
   obtain⟨p,hp⟩:=get_some hc'
   simp only[ar hp]
   simp only[go_sem,simprocAttr,h19]
   refine al.fn (CG p a) ?_
   simp only[go_sem,simprocAttr,h19]
   refine⟨λhq=>⟨aj ?_,hst.app _⟩,λhq=>⟨hc',ag hc' hl,hst.app _,by rw[any_succ hp,hJ,hq];rfl⟩⟩
   rw[nu,any_true ha (any_true hp hq)]
  simp only[go_sem,simprocAttr,h8]
  exact⟨hc,ag hc hcl,hst,by rw[any_succ ha,hI,hd];rfl⟩
 ·rw[jS hc]at hI
  exact hI.symm
theorem yy (l:List Pkg):ah prog W0 24 [aN l] (.bool (dO l)):=by
 refine ak [2] [4,6] func24 rfl rfl ntmps24 rfl rfl (.bool _) λhs σ=>?_
 have hl:=(aF (hs _ (List.mem_cons_self ..))).1
 have hls:=(aF (hs _ (List.mem_cons_self ..))).2
 simp only[go_sem,simprocAttr,aN,List.length_map]
 refine ae.upto [0,11,12] (.of (by kernel_rfl)) l.length (λi A=>A.env 13= .int .i64 i∧Ext σ A.st∧rz l (l.take i) (l.drop i)=rz l [] l) 0 (Nat.zero_le _) ?_ λi B hi ⟨h8,hst,hI⟩=>?_
 ·simp only[go_sem,simprocAttr]
  simp[Ext.refl]
 simp only[go_sem,simprocAttr,h8,List.length_map]
 refine⟨λhc=>⟨hc,?_⟩,λhc=>⟨aj ?_,hst⟩⟩
 ·obtain⟨a,ha⟩:=get_some hc
  obtain⟨hlt,hae⟩:=List.getElem?_eq_some_iff.1 ha
  have hsm:=nj (hls a (List.mem_of_getElem? ha))
  have hpre:a.pre.length≤maxLen:=(aF (hsm (aw a.pre) (by simp))).1
  have hdep:a.dep.length≤maxLen:=(aF (hsm (aw a.dep) (by simp))).1
  rw[List.drop_eq_getElem_cons hc,hae,rz]at hI
  have sick:pK l (l.take i) a=true→false=dO l:=λe=>by rw[dO,←hI,e];rfl
  simp only[ar ha]
  simp only[go_sem,simprocAttr,h8,List.length_map]
  refine al.fn (Cg a) ?_
  simp only[go_sem,simprocAttr,h8,List.length_map]
  refine⟨λhq=>⟨aj (sick ?_),hst.app _⟩,λhq=>?_⟩
  ·simp[pK,hq]
  rw[←List.map_take]
  have hil:(l.take i).length=i:=by rw[List.length_take];omega
  refine⟨⟨Nat.zero_le _,hi⟩,ae.at [0,4,11,12,13] (.of (by kernel_rfl)) (λA=>Ext σ A.st∧(l.take i).any (λq=>q.name==a.name||eI a q)=false) ?_ λA ⟨hst,hn⟩=>?_⟩
  ·refine ae.upto [0,4,11,12,13,23,24] (.of (by kernel_rfl)) i (λj A=>A.env 25= .int .i64 j∧Ext σ A.st∧((l.take i).take j).any (λq=>q.name==a.name||eI a q)=false) 0 (Nat.zero_le _) ?_ λj A hj ⟨h25,hst,hJ⟩=>?_
   ·simp only[go_sem,simprocAttr]
    simp[hst.app]
   simp only[go_sem,simprocAttr,h25,List.length_map]
   refine⟨λhj'=>⟨hj',?_⟩,λhj'=>⟨hst,by rwa [jS hj']at hJ⟩⟩
   obtain⟨b,hbj⟩:=get_some hj'
   simp only[ar hbj]
   simp only[go_sem,simprocAttr,av,h25]
   refine aA.fnG (λ_=>DY a b) ?_
   simp only[go_sem,simprocAttr,h25]
   refine⟨λhq=>⟨aj (sick ?_),hst.app _⟩,λhq=>⟨by omega,ag (show j<i by omega) (by omega),hst.app _,by rw[any_succ hbj,hJ,hq];rfl⟩⟩
   rw[pK,any_true hbj hq];simp
  simp only[go_sem,simprocAttr,av,h8]
  let ls:=[a.pre,a.dep]
  have e:[aw a.pre,aw a.dep]=ls.map aw:=rfl
  have hls: ∀l∈ls,l.length≤maxLen:=by simp only[ls];simp[hpre,hdep]
  have hms:(a.pre.any (λc=>!nu c l)||a.dep.any (λc=>!nu c l))=ls.any λd=>d.any λc=>!nu c l:=by simp only[ls];simp
  simp only[e]
  refine ae.ats [0,11,12,13] (.of (by kernel_rfl)) (λA=>Ext σ A.st∧(ls.any λd=>d.any λc=>!nu c l)=false) ?_ λA ⟨hst,hd⟩=>?_
  ·refine ae.upto [0,11,12,13,44] (.of (by kernel_rfl)) 2 (λk A=>A.env 45= .int .i64 k∧Ext σ A.st∧((ls.take k).any λd=>d.any λc=>!nu c l)=false) 0 (Nat.zero_le _) ?_ λk A hk ⟨h45,hst,hK⟩=>?_
   ·simp only[go_sem,simprocAttr]
    simp[hst]
   simp only[go_sem,simprocAttr,h45]
   refine⟨λhc=>?_,λhc=>⟨hst,by rwa [jS (by show 2≤k;omega)]at hK⟩⟩
   have hc':k<ls.length:=by show k<2;omega
   obtain⟨d,hd⟩:=get_some hc'
   have hl:=hls d (List.mem_of_getElem? hd)
   simp only[getD_map hd]
   simp only[go_sem,simprocAttr,aw,h45,List.length_map]
   refine⟨hc',ae.ats [0,11,12,13,44,45] (.of (by kernel_rfl)) (λA=>Ext σ A.st∧(d.any λc=>!nu c l)=false) ?_ λA ⟨hst,hd'⟩=>?_⟩
   ·refine ae.upto [0,11,12,13,44,45,48,49] (.of (by kernel_rfl)) d.length (λj A=>A.env 50= .int .i64 j∧Ext σ A.st∧((d.take j).any λc=>!nu c l)=false) 0 (Nat.zero_le _) ?_ λj A hj ⟨h50,hst,hJ⟩=>?_
    ·simp only[go_sem,simprocAttr]
     simp[hst]
    simp only[go_sem,simprocAttr,h50,List.length_map]
    refine⟨λhc'=>⟨hc',?_⟩,λhc'=>⟨hst,by rwa [jS hc']at hJ⟩⟩
    obtain⟨c,hcj⟩:=get_some hc'
    simp only[ar hcj]
    simp only[go_sem,simprocAttr,h50]
    refine al.fn (KW c l) ?_
    simp only[go_sem,simprocAttr,h50]
    refine⟨λhq=>⟨aj (sick ?_),hst⟩,λhq=>⟨hc',ag hc' hl,hst,by rw[any_succ hcj,hJ,hq];rfl⟩⟩
    rw[pK,hms,any_true hd (any_true hcj (by rw[hq];rfl))];simp
   simp only[go_sem,simprocAttr,h45]
   exact⟨by omega,ag (show k<2 by omega) (by rw[aq];omega),hst,by rw[any_succ hd,hK,hd'];rfl⟩
  simp only[go_sem,simprocAttr,h8]
  refine⟨hc,ag hc hl,hst,?_⟩
  have:pK l (l.take i) a=false:=by rw[pK,hn,hms,hd,hq];rfl
  rw[this,Bool.false_or,←ai ha]at hI
  exact hI
 ·rw[List.drop_eq_nil_of_le hc]at hI
  rw[dO,←hI];rfl
end Go.Proofs.Tryz
end
section
namespace Go.Av
section
variable {P :Program}{W0:World}{A:aa}
def Mf :AV→Option Nat
 | .row _ id _ _=>some id
 |_=>none
structure eC (σ st:ab)(v:AV)(e:TypeId)(xs:List AV):Prop where
 row:dC st v e xs
 ext:Ext σ st
 low: ∀id,Mf v=some id→σ.length≤id
theorem eC.nil {σ st:ab}(h:Ext σ st)(e:TypeId):eC σ st .az e []:=⟨.inl ⟨rfl,rfl⟩,h,λt h=>by cases h⟩
theorem eC.notM {σ st:ab}{v:AV}{e:TypeId}{xs:List AV}(h:eC σ st v e xs):cS v:=by
 rcases h.row with⟨rfl,rfl⟩|rfl|⟨_,_,_,_,rfl,_⟩<;>trivial
theorem eC.ok {σ st:ab}{v:AV}{e:TypeId}{xs:List AV}(h:eC σ st v e xs)(g:Option Bool):okM g v=True:=bT h.notM
theorem eC.un {σ st:ab}{v:AV}{e:TypeId}{xs:List AV}(h:eC σ st v e xs):unm v=v:=cB h.notM
theorem dC.len {st:ab}{v:AV}{e:TypeId}{xs:List AV}(h:dC st v e xs):mm v= .int .i64 xs.length:=by
 rcases h with⟨rfl,rfl⟩|rfl|⟨id,off,m,zs,rfl,_,h1,rfl⟩
 ·rfl
 ·rfl
 ·have:((zs.drop off).take m).length=m:=by simp;omega
  rw[this];rfl
theorem dC.fX {st:ab}{v:AV}{e:TypeId}{xs:List AV}(h:dC st v e xs)(P:Program)(t:TypeId):fX P t v=((elT P t).isSome=true):=by
 rcases h with⟨rfl,rfl⟩|rfl|⟨id,off,m,zs,rfl,_,h1,rfl⟩<;>rfl
theorem dC.read {st:ab}{v:AV}{e:TypeId}{xs:List AV}(h:dC st v e xs):fB st v e xs:=by
 rcases h with h|rfl|h
 ·exact .inr (.inl h)
 ·exact .inl rfl
 ·exact .inr (.inr h)
theorem eC.more {σ st:ab}{v:AV}{e:TypeId}{xs:List AV}(h:eC σ st v e xs)(l:ab):eC σ (st++l) v e xs:=by
 refine⟨?_,h.ext.app l,h.low⟩
 rcases h.row with h1|h1|⟨id,off,m,zs,h1,h2,h3⟩
 ·exact .inl h1
 ·exact .inr (.inl h1)
 ·exact .inr (.inr ⟨id,off,m,zs,h1,by rw[List.getElem?_append_left ((List.getElem?_eq_some_iff.1 h2).1)];exact h2,h3⟩)
theorem eC.MV {σ st:ab}{v:AV}{e:TypeId}{xs:List AV}(h:eC σ st v e xs)(l:ab):Ext σ (bS v st++l):=by
 refine Ext.app ?_ l
 unfold bS
 split
 ·exact h.ext.set (h.low _ rfl) _
 ·exact h.ext
theorem bQ.iS {σ:ab}{t u e:TypeId}{x y:AV}{xs ys:List AV}{dst:Option Nat}{k:aa→Prop}(N:Nat)(ho:xO P t u e N=true)(h:eC σ A.st x e xs)(hy:fB A.st y e ys)(hN:xs.length+ys.length≤N)
  (hk: ∀v st',eC σ st' v e (xs++ys)→k ((A.put dst v).an st')):bQ P [t,u] [x,y] dst A k .mk:=by
 refine bQ.row N ho h.row hy hN (λhe=>hk _ _ (by rw[he,List.append_nil];exact h)) λhe=>hk _ _ ⟨.inr (.inr ⟨A.st.length,0,_,xs++ys,rfl,?_,by simp,by rw[List.drop_zero,List.take_of_length_le (by simp)]⟩),h.MV _,λid hid=>?_⟩
 ·have:(bS x A.st).length=A.st.length:=by unfold bS;split<;>simp
  rw[←this,List.getElem?_append_right (Nat.le_refl _),Nat.sub_self]
  rfl
 ·cases hid
  exact h.ext.le
theorem eC.Jh {σ:ab}{v:AV}{e:TypeId}{xs:List AV}{d:Nat}{x:Exit}(h:eC σ A.st v e xs)(hx:x= .ret∨x= .normal)(hd:A.env d=v):bV (λA=>cT (iy A.env [d]) (.sl e xs)∧A.st.take σ.length=σ) x A:=by
 have fin: ∀{B:aa},cT (iy B.env [d]) (.sl e xs)→B.st.take σ.length=σ→bV (λA=>cT (iy A.env [d]) (.sl e xs)∧A.st.take σ.length=σ) x B:=λh1 h2=>by
  rcases hx with rfl|rfl
  ·exact .ret ⟨h1,h2⟩
  ·exact .normal ⟨h1,h2⟩
 rcases h.row with⟨rfl,rfl⟩|rfl|⟨id,off,m,zs,rfl,h1,h2,rfl⟩
 ·exact fin (by simp only[iy,hd];exact .az _) h.ext
 ·exact fin (by simp only[iy,hd];exact .lit _ _) h.ext
 ·refine bV.frz d hd h1 h2 (fin ?_ ?_)
  ·simp[iy,aa.upd,aa.an]
   exact .refl _
  ·exact h.ext.set (h.low _ rfl) _
end
end Go.Av
end
section
namespace Go.Proofs.Tryz
open Go Go.Av
set_option maxRecDepth 10000
variable {W0 :World}
theorem JR (σ:ab)(n:Nat)(hn:n≤1048576):
  bg prog W0 131 [.az,.int .i64 n] σ λr σ'=>eC σ σ' r 72 []:=by
 refine cQ [4] [] func131 rfl rfl ntmps131 rfl rfl λhs=>?_
 simp only[go_sem,simprocAttr]
 refine ct.at [0,1] (by kernel_rfl) (λA=>A.st=σ) (λh=>absurd (of_decide_eq_true h) (by omega)) (λ_=>?_) λB hst=>?_
 ·simp only[go_sem,simprocAttr]
 simp only[go_sem,simprocAttr,hst]
 have hw:IntKind.i64.wrap ((n:Int)-0)=n:=by rw[Int.sub_zero,aH (by omega)]
 simp only[hw]
 refine ct.at [] (by kernel_rfl) (λA=>eC σ A.st (A.env 0) 72 []) (λh=>?_) (λ_=>?_) λB hb=>?_
 ·simp only[go_sem,simprocAttr,hst]
  refine bQ.zero (e:=72) 1048576 (by kernel_rfl) (kn:=.i64) (by kernel_rfl) (z:=.az) (by kernel_rfl) (by kernel_rfl) (by have:=of_decide_eq_true h;omega) hn ?_
  simp only[go_sem,simprocAttr,hst]
  exact⟨Nat.zero_le _,.inr (.inr ⟨_,0,0,List.replicate n .az,rfl,by simp,by simp,rfl⟩),(Ext.refl _).app _,λid h=>by cases h;exact Nat.le_refl _⟩
 ·simp only[go_sem,simprocAttr,hst]
  exact .nil (.refl _) _
 simp only[go_sem,simprocAttr,hb.ok,hb.un]
 refine bV.ret ?_
 simp only[go_sem,simprocAttr]
 exact⟨_,.refl _,hb.ext.le,hb⟩
theorem mS {α:Type}{ls:List (List α)}{i:Nat}{l:List α}(h:ls[i]?=some l):(ls.take (i+1)).flatten=(ls.take i).flatten++l:=by
 rw[ai h,List.flatten_append];simp
theorem uW (ls:List (List Clause))(hls:ls.length≤1048576)(hn:ls.flatten.length≤1048576):
  ah prog W0 72 [.sl 50 (ls.map aw)] (aw ls.flatten):=by
 refine mi [2] [] func72 rfl rfl ntmps72 rfl rfl (dL _) λhs σ=>?_
 have hfl: ∀i,(ls.take i).flatten.length≤1048576:=λi=>by
  have:ls.flatten.length=(ls.take i).flatten.length+(ls.drop i).flatten.length:=by
   rw[←List.length_append,←List.flatten_append,List.take_append_drop]
  omega
 simp only[go_sem,simprocAttr,List.length_map]
 refine ae.at [0] (.of (by kernel_rfl)) (λA=>A.env 3= .int .i64 ls.flatten.length∧A.st=σ) ?_ λB ⟨h3,hst⟩=>?_
 ·refine ae.upto [0,9,10] (.of (by kernel_rfl)) ls.length (λi A=>A.env 11= .int .i64 i∧A.st=σ∧A.env 3= .int .i64 (ls.take i).flatten.length) 0 (Nat.zero_le _) ?_ λi B hi ⟨h8,hst,h3⟩=>?_
  ·simp only[go_sem,simprocAttr]
   try simp
  simp only[go_sem,simprocAttr,h8,h3,hst,List.length_map]
  refine⟨λhc=>⟨hc,?_⟩,λhc=>by rw[List.take_of_length_le hc]⟩
  obtain⟨l,hl⟩:=get_some hc
  simp only[ar hl]
  have h1:=hfl i
  have h2:=hfl (i+1)
  rw[mS hl,List.length_append]at h2
  have hw:IntKind.i64.wrap (((ls.take i).flatten.length:Int)+(l.length:Int))=(((ls.take (i+1)).flatten.length:Nat):Int):=by
   rw[mS hl,List.length_append,aH (by omega),Int.natCast_add]
  simp only[go_sem,simprocAttr,aw,h8,h3,hst,List.length_map,hw]
  exact⟨λh=>absurd h (by omega),λ_=>⟨hc,ag hc (by rw[aq];omega)⟩⟩
 simp only[go_sem,simprocAttr,h3,hst]
 refine al.goes (by simp only[go_sem,simprocAttr,hst]) (JR σ _ hn) λr σ' hr=>?_
 simp only[go_sem,simprocAttr,h3,hst,hr.ok,hr.un,List.length_map]
 refine ae.at [] (.of (by kernel_rfl)) (λA=>∃ v,A.env 6=v∧eC σ A.st v 72 (ls.flatten.map aB)) ?_ λB ⟨v,h6,hb⟩=>?_
 ·refine ae.upto [25,26] (.of (by kernel_rfl)) ls.length (λi A=>A.env 27= .int .i64 i∧ ∃v,A.env 6=v∧eC σ A.st v 72 ((ls.take i).flatten.map aB)) 0 (Nat.zero_le _) ?_ λi B hi ⟨h8,v,h6,hb⟩=>?_
  ·simp only[go_sem,simprocAttr]
   exact⟨_,rfl,hr⟩
  simp only[go_sem,simprocAttr,h8,h6,List.length_map]
  refine⟨λhc=>⟨hc,?_⟩,λhc=>⟨_,rfl,by rw[List.take_of_length_le hc]at hb;exact hb⟩⟩
  obtain⟨l,hl⟩:=get_some hc
  have h2:=hfl (i+1)
  rw[mS hl,List.length_append]at h2
  simp only[ar hl]
  simp only[go_sem,simprocAttr,aw,h8,h6,hb.ok,hb.un,List.length_map]
  refine bQ.iS 1048576 (by kernel_rfl) hb (.sl _ _ _) (by rw[List.length_map,List.length_map];exact h2) λv' st' hb'=>?_
  simp only[go_sem,simprocAttr,h8]
  refine⟨hc,ag hc (by rw[aq];omega),_,rfl,?_⟩
  rw[mS hl,List.map_append]
  exact hb'
 simp only[go_sem,simprocAttr,h6,hb.ok,hb.un]
 exact eC.Jh (hb) (.inl rfl) (by simp only[go_sem,simprocAttr])
end Go.Proofs.Tryz
end
section
namespace Go.Av
theorem al.Pr {P:Program}{W0:World}{A:aa}{g:FuncId}{caps us:List AV}{dst:Option Nat}{k:aa→Prop}{r:AV}{σ:ab}(hσ:A.st=σ)(h:bg P W0 g (us++caps) σ λr' σ'=>r'=r∧σ'=σ)(hk:k (A.put dst r)):al P W0 (.fn g caps) us dst A k .mk:=.go hσ h λr' σ' ⟨h1,h2⟩=>by
 subst h1 h2 hσ
 rwa [oe]
section
variable {P :Program}
@[go_sem] theorem Rh (t t':TypeId)(id i:Nat)(path:List Nat):cp P .neq t (.ptr t' id i path) .nil=if gx P t then .bool true else .undef:=by simp only[cp,cu,lg,AV.gB,Bool.and_true];split<;>rfl
@[go_sem] theorem Sq (t t':TypeId)(id i:Nat)(path:List Nat):cw P .neq t (.ptr t' id i path) .nil=(gx P t=true):=by simp only[cw,cu,lg,AV.gB,Bool.and_true];split<;>simp_all
@[go_sem] theorem Qq (t t':TypeId)(id i:Nat)(path:List Nat):cp P .eql t (.ptr t' id i path) .nil=if gx P t then .bool false else .undef:=by simp only[cp,cu,lg,AV.gB,Bool.and_true];split<;>rfl
@[go_sem] theorem Ro (t t':TypeId)(id i:Nat)(path:List Nat):cw P .eql t (.ptr t' id i path) .nil=(gx P t=true):=by simp only[cw,cu,lg,AV.gB,Bool.and_true];split<;>simp_all
end
structure Fr (F:List Nat)(σ σ':ab):Prop where
 len:σ.length≤σ'.length
 old: ∀j,j<σ.length→j∉F→σ'[j]?=σ[j]?
def bk :AV→List Nat
 | .own _ _ t=>[t]
 | .row _ id _ _=>[id]
 |_=>[]
theorem Fr.refl (F:List Nat)(σ:ab):Fr F σ σ:=⟨Nat.le_refl _,λ_ _ _=>rfl⟩
theorem Fr.ext {F:List Nat}{σ σ':ab}(h:Ext σ σ'):Fr F σ σ':=⟨h.le,λj hj _=>by
 have e:=congrArg (·[j]?) h
 simpa[List.getElem?_take,hj]using e⟩
theorem Fr.trans {F G:List Nat}{σ σ' σ'':ab}(h:Fr F σ σ')(h':Fr G σ' σ'')(hG: ∀j∈G,j∈F∨σ.length≤j):Fr F σ σ'':=⟨Nat.le_trans h.len h'.len,λj hj hF=>by
 rw[h'.old j (Nat.lt_of_lt_of_le hj h.len) (λe=>by rcases hG j e with h1|h1;exact hF h1;omega),h.old j hj hF]⟩
theorem Fr.set {F:List Nat}{σ σ':ab}(h:Fr F σ σ'){id:Nat}(hid:id∈F∨σ.length≤id)(o:Option cM):Fr F σ (σ'.set id o):=⟨by simpa using h.len,λj hj hF=>by
 rw[List.getElem?_set_ne (λe=>by subst e;rcases hid with h1|h1;exact hF h1;omega),h.old j hj hF]⟩
theorem Fr.app {F:List Nat}{σ σ':ab}(h:Fr F σ σ')(l:ab):Fr F σ (σ'++l):=⟨by have:=h.len;simp;omega,λj hj hF=>by
 rw[List.getElem?_append_left (by have:=h.len;omega),h.old j hj hF]⟩
theorem Fr.mono {F G:List Nat}{σ σ':ab}(h:Fr F σ σ')(hG: ∀j∈F,j∈G):Fr G σ σ':=⟨h.len,λj hj hF=>h.old j hj λe=>hF (hG j e)⟩
theorem Fr.yq {F:List Nat}{σ σ':ab}(h:Fr F σ σ'){τ:ab}(ht:Ext τ σ)(hF: ∀j∈F,τ.length≤j):Ext τ σ':=by
 refine List.ext_getElem? λi=>?_
 have:=ht.le
 have:=h.len
 rw[List.getElem?_take]
 by_cases hi:i<τ.length
 ·rw[if_pos hi,h.old i (by omega) (λe=>by have:=hF i e;omega)]
  have e:=congrArg (·[i]?) ht
  simpa[List.getElem?_take,hi]using e
 ·rw[if_neg hi,List.getElem?_eq_none (by omega)]
theorem gn {σ:ab}{id:Nat}{te:TypeId}{xs:List AV}(h:id<σ.length):live (σ.set id (some (.cells te xs))) id=True:=eq_true ⟨te,xs,by simp[h]⟩
theorem ay {σ:ab}{id:Nat}{te:TypeId}{xs:List AV}(h:σ[id]?=some (some (.cells te xs))):live σ id=True:=eq_true ⟨te,xs,h⟩
theorem Bld.notM {st:ab}{v:AV}{e:TypeId}{xs:List AV}(h:Bld st v e xs):cS v:=by
 rcases h with⟨rfl,rfl⟩|rfl|⟨t,rfl,_⟩<;>trivial
theorem Bld.ok {st:ab}{v:AV}{e:TypeId}{xs:List AV}(h:Bld st v e xs)(g:Option Bool):okM g v=True:=bT h.notM
theorem Bld.un {st:ab}{v:AV}{e:TypeId}{xs:List AV}(h:Bld st v e xs):unm v=v:=cB h.notM
theorem Bld.len {st:ab}{v:AV}{e:TypeId}{xs:List AV}(h:Bld st v e xs):mm v= .int .i64 xs.length:=by
 rcases h with⟨rfl,rfl⟩|rfl|⟨t,rfl,_⟩<;>rfl
theorem Bld.fX {st:ab}{v:AV}{e:TypeId}{xs:List AV}(h:Bld st v e xs)(P:Program)(t:TypeId):fX P t v=((elT P t).isSome=true):=by
 rcases h with⟨rfl,rfl⟩|rfl|⟨t,rfl,_⟩<;>rfl
theorem Bld.fits {st:ab}{v:AV}{e:TypeId}{xs:List AV}(h:Bld st v e xs)(P:Program)(t:TypeId):bm P t v=cG P t:=by
 rcases h with⟨rfl,rfl⟩|rfl|⟨t,rfl,_⟩<;>rfl
theorem dC.fits {st:ab}{v:AV}{e:TypeId}{xs:List AV}(h:dC st v e xs)(P:Program)(t:TypeId):bm P t v=cG P t:=by
 rcases h with⟨rfl,rfl⟩|rfl|⟨_,_,_,_,rfl,_⟩<;>rfl
theorem dC.notM {st:ab}{v:AV}{e:TypeId}{xs:List AV}(h:dC st v e xs):cS v:=by
 rcases h with⟨rfl,rfl⟩|rfl|⟨_,_,_,_,rfl,_⟩<;>trivial
theorem dC.ok {st:ab}{v:AV}{e:TypeId}{xs:List AV}(h:dC st v e xs)(g:Option Bool):okM g v=True:=bT h.notM
theorem dC.un {st:ab}{v:AV}{e:TypeId}{xs:List AV}(h:dC st v e xs):unm v=v:=cB h.notM
theorem bQ.xG {P:Program}{A:aa}{σ:ab}{t u e:TypeId}{x y:AV}{xs ys:List AV}{dst:Option Nat}{k:aa→Prop}(hσ:A.st=σ)(N:Nat)(ho:xO P t u e N=true)(hb:Bld σ x e xs)(hy:fB σ y e ys)(hN:xs.length+ys.length≤N)
  (hk: ∀v σ',App σ x e (xs++ys) v σ'→k ((A.put dst v).an σ')):bQ P [t,u] [x,y] dst A k .mk:=by
 subst hσ
 exact .own N ho hb hy hN hk
def dU (σ:ab)(x:AV)(e:TypeId)(xs:List AV):Prop:=(x= .az∧xs=[])∨ ∃id off m zs,x= .row e id off m∧σ[id]?=some (some (.cells e zs))∧off+m≤zs.length∧xs=(zs.drop off).take m
theorem dU.st {σ:ab}{v:AV}{e:TypeId}{xs:List AV}(h:dU σ v e xs):dC σ v e xs:=by
 rcases h with h|h
 ·exact .inl h
 ·exact .inr (.inr h)
def rL (a b:Nat):AV→AV
 | .row e id off _=>.row e id (off+a) (b-a)
 |v=>v
@[go_sem] theorem Ta (a b:Nat)(e:TypeId)(id off m:Nat):rL a b (.row e id off m)= .row e id (off+a) (b-a):=rfl
@[go_sem] theorem Sn (a b:Nat):rL a b .az= .az:=rfl
theorem dU.AH {σ:ab}{e:TypeId}{xs:List AV}{id off m:Nat}{zs:List AV}(h:off+m≤zs.length)(hx:xs=(zs.drop off).take m):xs.length=m:=by
 rw[hx];simp;omega
theorem dU.M7 {σ:ab}{v:AV}{e:TypeId}{xs:List AV}(h:dU σ v e xs)(A:aa)(lo hi:Option Operand):kg A lo hi v=rL (dc A 0 lo) (dc A xs.length hi) v:=by
 rcases h with⟨rfl,rfl⟩|⟨id,off,m,zs,rfl,h1,h2,h3⟩
 ·rfl
 ·rw[dU.AH (σ:=σ) (e:=e) (id:=id) h2 h3];rfl
theorem dU.lK {P:Program}{gd:Option Bool}{σ:ab}{v:AV}{e:TypeId}{xs:List AV}(h:dU σ v e xs){t:TypeId}(ht:elT P t=some e)(A:aa)(lo hi:Option Operand):js P gd A t lo hi v=(0<af P e∧Go.Av.lK gd A lo hi xs.length):=by
 rcases h with⟨rfl,rfl⟩|⟨id,off,m,zs,rfl,h1,h2,h3⟩
 ·rw[zY,ht]
  simp only[Option.isSome_some,true_and,Option.getD_some,Go.Av.lK,List.length_nil,Nat.le_zero]
  have:imp gd (dc A 0 lo=0∧dc A 0 hi=0)=imp gd (dc A 0 lo≤dc A 0 hi∧dc A 0 hi=0):=by
   congr 1
   refine propext ⟨λ⟨h1,h2⟩=>⟨by omega,h2⟩,λ⟨h1,h2⟩=>⟨by omega,h2⟩⟩
  rw[this]
 ·rw[Bw,ht,dU.AH (σ:=σ) (e:=e) (id:=id) h2 h3]
  simp
theorem dU.cut {σ:ab}{v:AV}{e:TypeId}{xs:List AV}(h:dU σ v e xs){a b:Nat}(hab:a≤b)(hb:b≤xs.length):dU σ (rL a b v) e ((xs.drop a).take (b-a)):=by
 rcases h with⟨rfl,rfl⟩|⟨id,off,m,zs,rfl,h1,h2,h3⟩
 ·exact .inl ⟨rfl,by simp⟩
 ·have hl:=dU.AH (σ:=σ) (e:=e) (id:=id) h2 h3
  refine .inr ⟨id,off+a,b-a,zs,rfl,h1,by omega,?_⟩
  rw[h3,List.drop_take,List.drop_drop,List.take_take,Nat.min_eq_left (by omega)]
theorem mT (a b:Nat)(v:AV):bk (rL a b v)=bk v:=by cases v<;>rfl
theorem dU.dX {st st':ab}{v:AV}{e:TypeId}{xs:List AV}(h:dU st v e xs)(hk: ∀j∈bk v,st'[j]?=st[j]?):dU st' v e xs:=by
 rcases h with h|⟨id,off,m,zs,rfl,h,h2⟩
 ·exact .inl h
 ·exact .inr ⟨id,off,m,zs,rfl,by rw[hk id (by simp[bk]),h],h2⟩
theorem dU.lt {st:ab}{v:AV}{e:TypeId}{xs:List AV}(h:dU st v e xs): ∀j∈bk v,j<st.length:=by
 rcases h with⟨rfl,_⟩|⟨id,off,m,zs,rfl,h,_⟩
 ·simp[bk]
 ·intro j hj;simp[bk]at hj;subst hj;exact(List.getElem?_eq_some_iff.1 h).1
theorem dU.ne {st:ab}{v:AV}{e te:TypeId}{xs ys:List AV}(h:dU st v e xs){id:Nat}(hid:st[id]?=some (some (.cells te ys)))(ht:te≠e):id∉bk v:=λhj=>by
 rcases h with⟨rfl,_⟩|⟨id',off,m,zs,rfl,h,_⟩
 ·simp[bk]at hj
 ·simp[bk]at hj;subst hj;rw[hid]at h;cases h;exact ht rfl
structure Uj (σ:ab)(x:AV)(e:TypeId)(zs:List AV)(v:AV)(σ':ab):Prop where
 row:dU σ' v e zs
 fr:Fr (bk x) σ σ'
 bk: ∀j∈bk v,j∈bk x∨σ.length≤j
theorem bQ.xx {P:Program}{A:aa}{σ:ab}{t u e:TypeId}{x y:AV}{xs ys:List AV}{dst:Option Nat}{k:aa→Prop}(hσ:A.st=σ)(N:Nat)(ho:xO P t u e N=true)(hb:dU σ x e xs)(hy:fB σ y e ys)(hN:xs.length+ys.length≤N)
  (hk: ∀v σ',Uj σ x e (xs++ys) v σ'→k ((A.put dst v).an σ')):bQ P [t,u] [x,y] dst A k .mk:=by
 subst hσ
 have hkl:(bS x A.st).length=A.st.length:=by unfold bS;split<;>simp
 refine bQ.row N ho hb.st hy hN (λhe=>hk _ _ ⟨by rw[he,List.append_nil];exact hb,.refl _ _,λj hj=>.inl hj⟩) λhe=>hk _ _ ⟨.inr ⟨A.st.length,0,_,xs++ys,rfl,?_,by simp,by rw[List.drop_zero,List.take_of_length_le (by simp)]⟩,?_,λj hj=>?_⟩
 ·rw[←hkl,List.getElem?_append_right (Nat.le_refl _),Nat.sub_self]
  rfl
 ·refine Fr.app ?_ _
  unfold bS
  split
  ·exact(Fr.refl _ _).set (.inl (by simp[Go.Av.bk])) _
  ·exact .refl _ _
 ·simp[Go.Av.bk]at hj
  subst hj
  exact .inr (Nat.le_refl _)
theorem Bld.cI {st:ab}{v:AV}{e:TypeId}{xs:List AV}(h:Bld st v e xs):cT v (.sl e xs):=by
 rcases h with⟨rfl,rfl⟩|rfl|⟨t,rfl,_⟩
 ·exact .az _
 ·exact .lit _ _
 ·exact .own _ _ _
theorem App.fr {σ σ':ab}{x v:AV}{e:TypeId}{zs:List AV}(h:App σ x e zs v σ'):Fr (bk x) σ σ':=⟨h.len,λj hj hF=>h.old j hj λe=>hF (by cases x<;>simp[fh]at e;subst e;simp[bk])⟩
theorem mA {st:ab}{v:AV}{e:TypeId}{xs:List AV}(h:Bld st v e xs){j:Nat}:j∈bk v↔fh v=some j:=by
 rcases h with⟨rfl,rfl⟩|rfl|⟨t,rfl,_⟩
 ·simp[bk,fh]
 ·simp[bk,fh]
 ·simp[bk,fh];exact eq_comm
theorem App.bk {σ σ':ab}{x v:AV}{e:TypeId}{zs xs:List AV}(h:App σ x e zs v σ')(hx:Bld σ x e xs): ∀j∈bk v,j∈bk x∨σ.length≤j:=λj hj=>by
 rw[mA h.bld]at hj
 rw[mA hx]
 rcases h.tok with e1|⟨t,e1,e2⟩
 ·left;rw[←e1];exact hj
 ·right;rw[e1]at hj;cases hj;exact e2
theorem Bld.dX {st st':ab}{v:AV}{e:TypeId}{xs:List AV}(h:Bld st v e xs)(hk: ∀j∈bk v,st'[j]?=st[j]?):Bld st' v e xs:=by
 rcases h with h|h|⟨t,rfl,h⟩
 ·exact .inl h
 ·exact .inr (.inl h)
 ·exact .inr (.inr ⟨t,rfl,by rw[hk t (by simp[bk]),h]⟩)
theorem Bld.lt {st:ab}{v:AV}{e:TypeId}{xs:List AV}(h:Bld st v e xs): ∀j∈bk v,j<st.length:=by
 rcases h with⟨rfl,_⟩|rfl|⟨t,rfl,h⟩
 ·simp[bk]
 ·simp[bk]
 ·intro j hj;simp[bk]at hj;subst hj;exact(List.getElem?_eq_some_iff.1 h).1
theorem Bld.ne {st:ab}{v:AV}{e:TypeId}{xs:List AV}(h:Bld st v e xs){id:Nat}{o:cM}(hid:st[id]?=some (some o))(ho:o≠ .tok):id∉bk v:=λhj=>by
 rcases h with⟨rfl,_⟩|rfl|⟨t,rfl,h⟩
 ·simp[bk]at hj
 ·simp[bk]at hj
 ·simp[bk]at hj;subst hj;rw[hid]at h;cases h;exact ho rfl
theorem dC.dX {st st':ab}{v:AV}{e:TypeId}{xs:List AV}(h:dC st v e xs)(hk: ∀j∈bk v,st'[j]?=st[j]?):dC st' v e xs:=by
 rcases h with h|h|⟨id,off,m,zs,rfl,h,h2⟩
 ·exact .inl h
 ·exact .inr (.inl h)
 ·exact .inr (.inr ⟨id,off,m,zs,rfl,by rw[hk id (by simp[bk]),h],h2⟩)
theorem dC.lt {st:ab}{v:AV}{e:TypeId}{xs:List AV}(h:dC st v e xs): ∀j∈bk v,j<st.length:=by
 rcases h with⟨rfl,_⟩|rfl|⟨id,off,m,zs,rfl,h,_⟩
 ·simp[bk]
 ·simp[bk]
 ·intro j hj;simp[bk]at hj;subst hj;exact(List.getElem?_eq_some_iff.1 h).1
def AB (M:Nat→Bool)(l:Int):Bool:=if 0<l then M l.natAbs else !M l.natAbs
def uO (M:Nat→Bool)(c:List Int):Bool:=c.any (AB M)
def gA (M:Nat→Bool)(cls:List (List Int)):Bool:=cls.all (uO M)
def wfL (n:Nat)(l:Int):Bool:=decide (l≠0)&&decide (l.natAbs≤n)
def wfC (n:Nat)(c:List Int):Bool:=c.all (wfL n)
theorem za {M:Nat→Bool}{l:Int}(h:l≠0):AB M (-l)= !AB M l:=by
 unfold AB
 rw[Int.natAbs_neg]
 by_cases h1:0<l
 ·rw[if_pos h1,if_neg (by omega)]
 ·rw[if_neg h1,if_pos (by omega),Bool.not_not]
theorem vf {M:Nat→Bool}{c d:List Int}(h: ∀l,l∈c↔l∈d):uO M c=uO M d:=by
 unfold uO
 rw[Bool.eq_iff_iff,List.any_eq_true,List.any_eq_true]
 exact⟨λ⟨l,h1,h2⟩=>⟨l,(h l).1 h1,h2⟩,λ⟨l,h1,h2⟩=>⟨l,(h l).2 h1,h2⟩⟩
end Go.Av
end
section
namespace Go.Proofs.Tryz
open Go Go.Av
set_option maxRecDepth 10000
variable {W0 :World}
theorem NZ {α:Type}(enc:α→AV)(hp: ∀a,cS (enc a))(l:List α)(q:α→Bool)(g:FuncId)(caps:List AV)(σ:ab)(h: ∀a∈l,bg prog W0 g ([enc a]++caps) σ λr σ'=>r= .bool (q a)∧σ'=σ):
  bg prog W0 195 [.sl 135 (l.map enc),.fn g caps] σ λr σ'=>r= .int .i64 (fC q l)∧σ'=σ:=by
 refine rm [4] [] func195 rfl rfl ntmps195 rfl rfl (.int _ _) λhs=>?_
 have hl:=(aF (hs _ (List.mem_cons_self ..))).1
 simp only[go_sem,simprocAttr]
 refine ae.upto [0,1,7] (.of (by kernel_rfl)) l.length (λi A=>A.env 8= .int .i64 i∧A.st=σ∧ ∀a∈l.take i,q a=false) 0 (Nat.zero_le _) ?_ λi B hi ⟨h8,hst,hI⟩=>?_
 ·simp only[go_sem,simprocAttr]
  all_goals simp
 simp only[go_sem,simprocAttr,h8,hst,List.length_map]
 refine⟨λhc=>⟨hc,?_⟩,λhc=>bV.ret ?_⟩
 ·obtain⟨a,ha⟩:=get_some hc
  simp only[ar ha,bT (hp a),cB (hp a),true_and]
  refine al.Pr (by simp only[go_sem,simprocAttr,hst]) (h a (List.mem_of_getElem? ha)) ?_
  simp only[go_sem,simprocAttr,h8,hst]
  refine⟨λhq=>bV.ret ?_,λhq=>⟨hc,ag hc hl,?_⟩⟩
  ·simp only[go_sem,simprocAttr,hst]
   exact au (e8 ha hq hI).symm
  rw[ai ha]
  intro b hb
  rcases List.mem_append.1 hb with hb|hb
  ·exact hI b hb
  ·rw[List.mem_singleton.1 hb];exact hq
 ·simp only[go_sem,simprocAttr,hst]
  rw[dq (by rwa [List.take_of_length_le hc]at hI)]
  exact .refl _
theorem MK {α:Type}(enc:α→AV)(hp: ∀a,cS (enc a))(l:List α)(q:α→Bool)(g:FuncId)(caps:List AV)(σ:ab)(h: ∀a∈l,bg prog W0 g ([enc a]++caps) σ λr σ'=>r= .bool (q a)∧σ'=σ):
  bg prog W0 139 [.sl 135 (l.map enc),.fn g caps] σ λr σ'=>r= .bool (l.any q)∧σ'=σ:=by
 refine rm [4] [] func139 rfl rfl ntmps139 rfl rfl (.bool _) λhs=>?_
 simp only[go_sem,simprocAttr]
 refine al.reads (by simp only[go_sem,simprocAttr]) (NZ enc hp l q g caps σ h) ?_
 simp only[go_sem,simprocAttr]
 refine bV.ret ?_
 simp only[go_sem,simprocAttr]
 rw[iV]
 exact .refl _
theorem mv (l:Int)(h:l.natAbs≤9223372036854775807):ah prog W0 185 [.int .i64 l] (.int .u64 (l.natAbs:Nat)):=by
 refine ak [2] [] func185 rfl rfl ntmps185 rfl rfl (.int _ _) λhs σ=>?_
 simp only[go_sem,simprocAttr]
 refine⟨λh0=>au ?_,λh0=>au ?_⟩
 ·rw[IntKind.wrap_u64,IntKind.wrap_u64];omega
 ·rw[IntKind.wrap_u64];omega
def eJ (c:List Int):AV:=.sl 135 (c.map (.int .i64))
def zo (l:List (List Int)):AV:=.sl 136 (l.map eJ)
theorem cS.int64 (n:Int):cS (AV.int .i64 n):=trivial
theorem cS.lits (c:List Int):cS (eJ c):=trivial
@[go_sem] theorem OA (g:Option Bool)(l:List Int):okM g (eJ l)=True:=eq_true trivial
@[go_sem] theorem O1 (l:List Int):unm (eJ l)=eJ l:=rfl
@[go_sem] theorem Kc (P:Program)(t:TypeId)(l:List Int):bm P t (eJ l)=cG P t:=rfl
def tg (n:Nat)(cv:AV):Option cM:=some (.cells 191 [.agg 191 [.int .i64 n,cv]])
theorem KE (σ:ab)(id n:Nat)(cv:AV)(hid:σ[id]?=some (tg n cv))(hn:n≤9223372036854775807)(l:Int)(hl:l.natAbs≤9223372036854775807):
  bg prog W0 184 [.int .i64 l,.loc 130 (.ptr 191 id 0 [])] σ λr σ'=>r= .bool (!wfL n l)∧σ'=σ:=by
 refine rm [3] [] func184 rfl rfl ntmps184 rfl rfl (.bool _) λhs=>?_
 simp only[go_sem,simprocAttr]
 refine⟨.of (by kernel_rfl),aA.fnG (λ_=>mv l hl) ?_⟩
 simp only[go_sem,simprocAttr,ax hid]
 refine bV.ret ?_
 simp only[go_sem,simprocAttr]
 refine aj ?_
 have hw:IntKind.u64.wrap (n:Int)=n:=by rw[IntKind.wrap_u64];omega
 rw[hw,wfL,Bool.not_and,←decide_not,←decide_not]
 congr 1
 ·rw[Bool.eq_iff_iff];simp
 ·exact decide_eq_decide.2 (by omega)
theorem N5 (σ:ab)(id n:Nat)(cv:AV)(cls:List (List Int))(hid:σ[id]?=some (tg n cv))(hb:Bld σ cv 136 (cls.map eJ))(hn:n≤9223372036854775807)(hc5:cls.length<5000)(c:List Int)(hc: ∀l∈c,l.natAbs≤9223372036854775807):
  bg prog W0 134 [.ptr 191 id 0 [],eJ c] σ λr σ'=>r= .bool (wfC n c)∧σ'=σ:=by
 refine rm [4] [2] func134 rfl rfl ntmps134 rfl rfl (.bool _) λhs=>?_
 have h5:decide ((cls.length:Int)<5000)=true:=decide_eq_true (by omega)
 simp only[go_sem,simprocAttr,ax hid,hb.ok,hb.un,hb.len,hb.fX,List.length_map,h5]
 refine aA.st (λ_=>MK (.int .i64) cS.int64 c (λl=>!wfL n l) _ [.loc 130 (.ptr 191 id 0 [])] σ λl hl=>KE σ id n cv hid hn l (hc l hl)) ?_
 simp only[go_sem,simprocAttr]
 refine bV.ret ?_
 simp only[go_sem,simprocAttr]
 refine aj ?_
 rw[wfC,List.all_eq_not_any_not]
theorem zR (σ:ab)(c:List Int)(h0:c≠[])(hl:c.length≤1048576):bg prog W0 186 [eJ c] σ λr σ'=>r= .row 135 σ.length 0 c.length∧σ'=σ++[some (.cells 135 (c.map (.int .i64)))]:=by
 refine cQ [2] [] func186 rfl rfl ntmps186 rfl rfl λhs=>?_
 cases c with
 |nil=>exact absurd rfl h0
 |cons x c=>
  simp only[go_sem,simprocAttr,eJ]
  refine bQ.row 1048576 (by kernel_rfl) (.inr (.inl rfl)) (.sl _ _ _) (by simpa using hl) (λh=>by cases h) λ_=>?_
  simp only[go_sem,simprocAttr]
  refine bV.ret ?_
  simp only[go_sem,simprocAttr]
  exact⟨_,.refl _,by simp[bS],by simp,rfl⟩
end Go.Proofs.Tryz
end
section
namespace Go.Proofs.Tryz
open Go Go.Av
set_option maxRecDepth 10000
variable {W0 :World}
def ints (ys:List Int):Option cM:=some (.cells 135 (ys.map (.int .i64)))
def SC (σ st:ab)(id:Nat)(xs:List Int):Prop:=∃ ys:List Int,ys.Perm xs∧st=σ.set id (ints ys)
end Go.Proofs.Tryz
end
section
namespace Go.Proofs.Tryz
open Go Go.Av
set_option maxRecDepth 10000
variable {W0 :World}
def yX (σ st:ab)(id:Nat)(xs:List Int):Prop:=(∃ys:List Int,ys.Perm xs∧st[id]?=some (ints ys))∧Fr [id] σ st
theorem yX.of {σ st:ab}{id:Nat}{xs:List Int}(hid:id<σ.length)(h:SC σ st id xs):yX σ st id xs:=by
 obtain⟨ys,hp,rfl⟩:=h
 exact⟨⟨ys,hp,List.getElem?_set_self hid⟩,⟨by simp,λj hj hn=>List.getElem?_set_ne λe=>hn (by simp[e])⟩⟩
theorem yX.step {σ τ st:ab}{id:Nat}{xs ys:List Int}(h1:Fr [id] σ τ)(hy:ys.Perm xs)(h2:yX τ st id ys):yX σ st id xs:=by
 obtain⟨⟨zs,hz,hs⟩,hf⟩:=h2
 exact⟨⟨zs,hz.trans hy,hs⟩,⟨Nat.le_trans h1.len hf.len,λj hj hn=>by rw[hf.old j (Nat.lt_of_lt_of_le hj h1.len) hn,h1.old j hj hn]⟩⟩
end Go.Proofs.Tryz
end
section
namespace Go.Proofs.Tryz
open Go Go.Av
set_option maxRecDepth 10000
variable {W0 :World}
theorem OS (σ:ab)(n:Nat)(hn:n≤200):bg prog W0 71 [.int .i64 n] σ λr σ'=>r= .ptr 191 σ.length 0 []∧σ'=σ++[tg n .az]:=by
 refine cQ [2] [] func71 rfl rfl ntmps71 rfl rfl λhs=>?_
 have e1:rX (n:Int) 200=n:=by unfold rX;split<;>omega
 have e2:yb 0 (n:Int)=n:=by unfold yb;split<;>omega
 simp only[go_sem,simprocAttr,e1,e2]
 refine bV.ret ?_
 simp only[go_sem,simprocAttr]
 exact⟨_,.refl _,by simp,rfl,rfl⟩
end Go.Proofs.Tryz
end
section
namespace Go.Av
def uy (ord:List Int)(l:Int):Int:=if l∈ord then 1 else if-l∈ord then-1 else 0
structure dW (n:Nat)(ord:List Int):Prop where
 nd:(ord.map Int.natAbs).Nodup
 wf: ∀l∈ord,l≠0∧l.natAbs≤n
theorem dW.cons {n:Nat}{ord:List Int}(h:dW n ord){l:Int}(hl:l∈ord): -l∉ord:=λhn=>by
 have h0:=(h.wf l hl).1
 obtain⟨i,hi,he⟩:=List.getElem_of_mem hl
 obtain⟨j,hj,he'⟩:=List.getElem_of_mem hn
 have:i=j:=(List.getElem_inj (i:=i) (j:=j) (h₀:=by simpa using hi) (h₁:=by simpa using hj) h.nd).1 (by simp[he,he'])
 subst this
 rw[he]at he'
 omega
theorem s9 (ord:List Int)(l:Int):(uy ord l=1∧l∈ord)∨(uy ord l= -1∧l∉ord∧ -l∈ord)∨(uy ord l=0∧l∉ord∧ -l∉ord):=by
 unfold uy
 by_cases h1:l∈ord
 ·left;simp[h1]
 ·by_cases h2: -l∈ord
  ·right;left;simp[h1,h2]
  ·right;right;simp[h1,h2]
theorem dW.nil (n:Nat):dW n []:=⟨by simp,by simp⟩
theorem dW.app {n:Nat}{ord:List Int}(h:dW n ord){l:Int}(h0:l≠0)(hn:l.natAbs≤n)(hv:uy ord l=0):dW n (ord++[l]):=by
 refine⟨?_,λm hm=>?_⟩
 ·rw[List.map_append,List.nodup_append]
  refine⟨h.nd,by simp,λa ha b hb=>?_⟩
  obtain⟨m,hm,rfl⟩:=List.mem_map.1 ha
  simp at hb
  subst hb
  intro e
  rcases s9 ord l with⟨h1,h2⟩|⟨h1,h2⟩|⟨h1,h2,h3⟩
  ·omega
  ·omega
  ·rcases Int.natAbs_eq_natAbs_iff.1 e with e|e
   ·exact h2 (e▸hm)
   ·exact h3 (e▸hm)
 ·rcases List.mem_append.1 hm with h1|h1
  ·exact h.wf m h1
  ·rw[List.mem_singleton.1 h1];exact⟨h0,hn⟩
theorem dW.take {n:Nat}{ord:List Int}(h:dW n ord)(k:Nat):dW n (ord.take k):=⟨by rw[List.map_take];exact List.Nodup.sublist (List.take_sublist _ _) h.nd,λl hl=>h.wf l (List.mem_of_mem_take hl)⟩
theorem dW.sub {n:Nat}{o p:List Int}(h:dW n p)(hs:o.Sublist p):dW n o:=⟨List.Nodup.sublist (hs.map _) h.nd,λl hl=>h.wf l (hs.subset hl)⟩
theorem Aj : ∀(n:Nat) (l:List Nat),l.Nodup→(∀x∈l,x<n)→l.length≤n
 |0,l,_,h=>by
  cases l with
  |nil=>simp
  |cons x l=>exact absurd (h x (by simp)) (by omega)
 |n+1,l,hd,h=>by
  have:=Aj n (l.erase n) (hd.erase n) λx hx=>by
   have h1:=(List.Nodup.mem_erase_iff hd).1 hx
   have:=h x h1.2
   have:=h1.1
   omega
  rw[List.length_erase]at this
  split at this<;>omega
theorem dW.len {n:Nat}{ord:List Int}(h:dW n ord):ord.length≤n:=by
 have:=Aj (n+1) (0::ord.map Int.natAbs) (List.nodup_cons.2 ⟨λh0=>by
  obtain⟨l,hl,e⟩:=List.mem_map.1 h0
  exact(h.wf l hl).1 (Int.natAbs_eq_zero.1 e),h.nd⟩) λx hx=>by
   rcases List.mem_cons.1 hx with rfl|hx
   ·omega
   ·obtain⟨l,hl,rfl⟩:=List.mem_map.1 hx
    have:=(h.wf l hl).2
    omega
 simp at this
 exact this
def Agr (M:Nat→Bool)(ord:List Int):Prop:=∀ l∈ord,AB M l=true
theorem Agr.neg {M:Nat→Bool}{n:Nat}{ord:List Int}(h:Agr M ord)(hg:dW n ord){l:Int}(hv:uy ord l= -1):AB M l=false:=by
 rcases s9 ord l with⟨h1,_⟩|⟨_,_,h2⟩|⟨h1,_⟩
 ·omega
 ·have h0:=(hg.wf _ h2).1
  have:=h _ h2
  rw[za (by omega)]at this
  simpa using this
 ·omega
def FM (ord c:List Int):Bool:=!c.any λl=>decide (0≤uy ord l)
end Go.Av
end
section
namespace Go.Proofs.Tryz
open Go Go.Av
set_option maxRecDepth 10000
variable {W0 :World}
variable {σ :ab}{tid vid n:Nat}{cv ov lv:AV}{cls:List (List Int)}{ord:List Int}{lev:List Nat}
theorem dU.at {st:ab}{v:AV}{e:TypeId}{xs:List AV}{i:Nat}{x:AV}(h:dU st v e xs)(hx:xs[i]?=some x): ∃id off m zs,v= .row e id off m∧st[id]?=some (some (.cells e zs))∧m=xs.length∧zs[off+i]?=some x:=by
 rcases h with⟨_,rfl⟩|⟨id,off,m,zs,rfl,h1,h2,h3⟩
 ·simp at hx
 ·refine⟨id,off,m,zs,rfl,h1,(dU.AH (σ:=st) (e:=e) (id:=id) h2 h3).symm,?_⟩
  rw[h3,List.getElem?_take,List.getElem?_drop]at hx
  split at hx
  ·exact hx
  ·cases hx
end Go.Proofs.Tryz
end
section
namespace Go.Proofs.Tryz
open Go Go.Av
set_option maxRecDepth 10000
variable {W0 :World}
variable {σ :ab}{tid vid n:Nat}{cv ov lv:AV}{cls:List (List Int)}{ord:List Int}{lev:List Nat}
structure Own (τ:ab)(tid:Nat)(cv:AV)(vid:Nat)(ov lv:AV):Prop where
 tid:τ.length≤tid
 vid:τ.length≤vid
 cv: ∀j∈bk cv,τ.length≤j
 ov: ∀j∈bk ov,τ.length≤j
 lv: ∀j∈bk lv,τ.length≤j
end Go.Proofs.Tryz
end
section
namespace Go.Av
def EO (ord:List Int)(stk:List (Nat×Int))(M:Nat→Bool):Prop:=∃ p∈stk,0<p.2∧Agr M (ord.take p.1)∧AB M p.2=true
def tT (n:Nat)(cls:List (List Int))(ord:List Int):Nat→List (Nat×Int)→Prop
 |lo,[]=>lo≤ord.length
 |lo,p::r=>lo≤p.1∧p.1<ord.length∧p.2≠0∧p.2.natAbs≤n∧uy (ord.take p.1) p.2=0∧cls.any (FM (ord.take p.1))=false∧tT n cls ord (p.1+1) r
theorem tT.app {n:Nat}{cls:List (List Int)}{ord:List Int}{k:Nat}{d:Int}{o2:List Int}: ∀{lo:Nat} {stk:List (Nat×Int)},tT n cls ord lo stk→(∀i,i≤ord.length→o2.take i=ord.take i)→k=ord.length→k<o2.length→d≠0→d.natAbs≤n→uy ord d=0→cls.any (FM ord)=false→tT n cls o2 lo (stk++[(k,d)])
 |lo,[],h,ho,hk,hk2,h0,hn,hv,hc=>by
  have e:o2.take k=ord:=by rw[ho k (by omega),hk,List.take_length]
  refine⟨by rw[hk];exact h,hk2,h0,hn,by show uy (o2.take k) d=0;rw[e];exact hv,by show cls.any (FM (o2.take k))=false;rw[e];exact hc,?_⟩
  show k+1≤o2.length
  omega
 |lo,p::r,⟨h1,h2,h3,h4,h5,h6,h7⟩,ho,hk,hk2,h0,hn,hv,hc=>⟨h1,by omega,h3,h4,by rw[ho _ (by omega)];exact h5,by rw[ho _ (by omega)];exact h6,h7.app ho hk hk2 h0 hn hv hc⟩
theorem tT.le {n:Nat}{cls:List (List Int)}{ord:List Int}: ∀{lo:Nat} {stk:List (Nat×Int)},tT n cls ord lo stk→lo+stk.length≤ord.length
 |lo,[],h=>by simp only[tT]at h;simpa using h
 |lo,p::r,⟨h1,_,_,_,_,_,h7⟩=>by have:=h7.le;simp;omega
theorem EO.take {ord:List Int}{stk:List (Nat×Int)}{M:Nat→Bool}{k:Nat}(hk: ∀p∈stk,p.1≤k)(h:EO ord stk M):EO (ord.take k) stk M:=by
 obtain⟨p,h1,h2,h3,h4⟩:=h
 exact⟨p,h1,h2,by rw[List.take_take,Nat.min_eq_left (hk p h1)];exact h3,h4⟩
theorem EO.more {ord o2:List Int}{stk:List (Nat×Int)}{M:Nat→Bool}(ho: ∀p∈stk,o2.take p.1=ord.take p.1)(h:EO ord stk M)(q:List (Nat×Int)):EO o2 (stk++q) M:=by
 obtain⟨p,h1,h2,h3,h4⟩:=h
 exact⟨p,by simp[h1],h2,by rw[ho p h1];exact h3,h4⟩
end Go.Av
end
section
namespace Go.Proofs.Tryz
open Go Go.Av
set_option maxRecDepth 10000
variable {W0 :World}
variable {τ σ:ab}{xid tid vid n:Nat}{cv ov lv dv:AV}{z:Int}{cls:List (List Int)}{ord dec asm:List Int}{lev lev0:List Nat}{stk:List (Nat×Int)}{base:Nat}
structure LM (n:Nat)(cls:List (List Int)):Prop where
 small:n≤200
 len:cls.length≤5000
 wf: ∀c∈cls,c≠[]∧c.length≤1048576∧ ∀l∈c,l≠0∧l.natAbs≤n
theorem Kh {n:Nat}{l:Int}:wfL n l=true↔l≠0∧l.natAbs≤n:=by simp[wfL]
end Go.Proofs.Tryz
end
section
namespace Go.Av
def eN (i:Nat):Int:=((i+1:Nat):Int)
def iA (c:Clause):Nat→List Pkg→List Int
 |_,[]=>[]
 |i,q::r=>(if c.any (di q)=true then [eN i]else [])++iA c (i+1) r
def uC (all:List Pkg)(i:Nat)(c:Clause):List Int:=-eN i::iA c 0 all
def wx (p:Pkg)(i:Nat):Nat→List Pkg→List (List Int)
 |_,[]=>[]
 |k,q::r=>(if (p.name==q.name||eI p q)=true then [[-eN i,-eN k]]else [])++wx p i (k+1) r
def NC (all:List Pkg)(i:Nat)(p:Pkg):List (List Int):=(p.pre++p.dep).map (uC all i)++wx p i 0 (all.take i)
def rW (all:List Pkg):Nat→List Pkg→List (List Int)
 |_,[]=>[]
 |i,p::r=>NC all i p++rW all (i+1) r
theorem wk {c:Clause}: ∀{i:Nat} {l:List Pkg} {x:Int},x∈iA c i l→ ∃k q,l[k]?=some q∧x=eN (i+k)
 |i,[],x,h=>by simp[iA]at h
 |i,q::r,x,h=>by
  rw[iA,List.mem_append]at h
  rcases h with h|h
  ·split at h
   ·simp at h;exact⟨0,q,rfl,by simpa using h⟩
   ·simp at h
  ·obtain⟨k,q',h1,h2⟩:=wk h
   exact⟨k+1,q',by simpa using h1,by rw[h2];congr 1;omega⟩
theorem mr {c:Clause}: ∀(i:Nat) (l:List Pkg),(iA c i l).Nodup∧ ∀x∈iA c i l,eN i≤x
 |i,[]=>by simp[iA]
 |i,q::r=>by
  obtain⟨h1,h2⟩:=mr (c:=c) (i+1) r
  rw[iA]
  refine⟨List.nodup_append.2 ⟨by split<;>simp,h1,λa ha b hb=>?_⟩,λx hx=>?_⟩
  ·split at ha
   ·simp at ha
    have:=h2 b hb
    subst ha
    unfold eN at *
    omega
   ·simp at ha
  ·rcases List.mem_append.1 hx with h|h
   ·split at h
    ·simp at h;omega
    ·simp at h
   ·have:=h2 x h
    unfold eN at *
    omega
theorem vp {c:Clause}: ∀(i:Nat) (l:List Pkg),(iA c i l).length≤l.length
 |i,[]=>by simp[iA]
 |i,q::r=>by
  have:=vp (c:=c) (i+1) r
  rw[iA,List.length_append]
  split<;>simp<;>omega
theorem v7 {p:Pkg}{i:Nat}: ∀(l:List Pkg) (j k:Nat) (q:Pkg),l[k]?=some q→wx p i j (l.take (k+1))=wx p i j (l.take k)++(if (p.name==q.name||eI p q)=true then [[-eN i,-eN (j+k)]]else [])
 |[],j,k,q,h=>by simp at h
 |p'::r,j,0,q,h=>by
  simp at h;subst h
  simp[wx]
 |p'::r,j,k+1,q,h=>by
  rw[List.take_succ_cons,List.take_succ_cons,wx,wx,v7 r (j+1) k q (by simpa using h),List.append_assoc]
  have:j+1+k=j+(k+1):=by omega
  rw[this]
theorem wb (all:List Pkg): ∀(l:List Pkg) (j k:Nat) (p:Pkg),l[k]?=some p→rW all j (l.take (k+1))=rW all j (l.take k)++NC all (j+k) p
 |[],j,k,p,h=>by simp at h
 |q::r,j,0,p,h=>by
  simp at h;subst h
  simp[rW]
 |q::r,j,k+1,p,h=>by
  rw[List.take_succ_cons,List.take_succ_cons,rW,rW,wb all r (j+1) k p (by simpa using h),List.append_assoc]
  have:j+1+k=j+(k+1):=by omega
  rw[this]
theorem pG (M:Nat→Bool)(a b:List (List Int)):gA M (a++b)=(gA M a&&gA M b):=by simp[gA]
theorem dS {all:List Pkg}(h:bt all=0):all.length≤24:=by
 unfold bt at h
 split at h
 ·omega
 ·omega
theorem fZ : ∀{l:List Int},orL l=0→ ∀x∈l,x=0
 |[],_,x,hx=>by simp at hx
 |y::r,h,x,hx=>by
  rw[orL]at h
  split at h
  ·rename_i hy;exact absurd h hy
  ·rename_i hy
   rcases List.mem_cons.1 hx with rfl|hx
   ·exact Classical.not_not.1 hy
   ·exact fZ h x hx
theorem c8 {all:List Pkg}(h:bt all=0){p:Pkg}(hp:p∈all):aU p=0:=by
 unfold bt at h
 split at h
 ·omega
 ·split at h
  ·rename_i h1;exact absurd h h1
  ·rename_i h1
   exact fZ (Classical.not_not.1 h1) _ (List.mem_map.2 ⟨p,hp,rfl⟩)
theorem vR {l:List Clause}(h:cm l=0):l.length≤12:=by
 unfold cm at h
 split at h
 ·omega
 ·rename_i h1;omega
theorem tE {p:Pkg}(h:aU p=0):p.pre.length≤12∧p.dep.length≤12:=by
 unfold aU at h
 split at h
 ·omega
 ·have:=fZ h
  exact⟨vR (this _ (by simp)),vR (this _ (by simp))⟩
theorem ky (i:Nat):0<eN i:=by unfold eN;omega
theorem pe (i:Nat):(eN i).natAbs=i+1:=by unfold eN;omega
theorem KX {all:List Pkg}{i:Nat}(hi:i<all.length)(c:Clause):wfC all.length (uC all i c)=true∧(uC all i c).Nodup∧(uC all i c).length≤all.length+1:=by
 refine⟨List.all_eq_true.2 λl hl=>?_,?_,?_⟩
 ·have:l≠0∧l.natAbs≤all.length:=by
   rcases List.mem_cons.1 hl with rfl|hl
   ·have:=ky i;have:=pe i
    exact⟨by omega,by omega⟩
   ·obtain⟨k,q,h1,rfl⟩:=wk hl
    have h2:=(List.getElem?_eq_some_iff.1 h1).1
    have:=ky (0+k);have:=pe (0+k)
    exact⟨by omega,by omega⟩
  simp[wfL,this]
 ·refine List.nodup_cons.2 ⟨λh=>?_,(mr _ _).1⟩
  have:=(mr (c:=c) 0 all).2 _ h
  have:=ky i;have:=ky 0
  omega
 ·have:=vp (c:=c) 0 all
  simp[uC];omega
theorem Ks {n i k:Nat}(hi:i<n)(hk:k<i):wfC n [-eN i,-eN k]=true∧[-eN i,-eN k].Nodup:=by
 have:=ky i;have:=pe i;have:=ky k;have:=pe k
 refine⟨by simp[wfC,wfL];omega,by simp;unfold eN;omega⟩
end Go.Av
end
section
namespace Go.Av
structure eK (σ st:ab)(v:AV)(e:TypeId)(xs:List AV):Prop where
 row:(v= .az∧xs=[])∨ ∃id,v= .row e id 0 xs.length∧st[id]?=some (some (.cells e xs))∧σ.length≤id
 ext:Ext σ st
theorem eK.nil {σ st:ab}(h:Ext σ st)(e:TypeId):eK σ st .az e []:=⟨.inl ⟨rfl,rfl⟩,h⟩
theorem eK.st {σ st:ab}{v:AV}{e:TypeId}{xs:List AV}(h:eK σ st v e xs):dC st v e xs:=by
 rcases h.row with h|⟨id,rfl,h1,_⟩
 ·exact .inl h
 ·exact .inr (.inr ⟨id,0,_,xs,rfl,h1,by simp,by simp⟩)
theorem eK.more {σ st:ab}{v:AV}{e:TypeId}{xs:List AV}(h:eK σ st v e xs)(l:ab):eK σ (st++l) v e xs:=by
 refine⟨?_,h.ext.app l⟩
 rcases h.row with h1|⟨id,h1,h2,h3⟩
 ·exact .inl h1
 ·exact .inr ⟨id,h1,by rw[List.getElem?_append_left ((List.getElem?_eq_some_iff.1 h2).1)];exact h2,h3⟩
theorem bQ.out {P:Program}{A:aa}{σ:ab}{t u e:TypeId}{x y:AV}{xs ys:List AV}{dst:Option Nat}{k:aa→Prop}(N:Nat)(ho:xO P t u e N=true)(h:eK σ A.st x e xs)(hy:fB A.st y e ys)(hN:xs.length+ys.length≤N)
  (hk: ∀v st',eK σ st' v e (xs++ys)→k ((A.put dst v).an st')):bQ P [t,u] [x,y] dst A k .mk:=by
 have hkl:(bS x A.st).length=A.st.length:=by unfold bS;split<;>simp
 refine bQ.row N ho h.st hy hN (λhe=>hk _ _ (by rw[he,List.append_nil];exact h)) λhe=>hk _ _ ⟨.inr ⟨A.st.length,by simp,?_,h.ext.le⟩,?_⟩
 ·rw[←hkl,List.getElem?_append_right (Nat.le_refl _),Nat.sub_self]
  rfl
 ·refine Ext.app ?_ _
  rcases h.row with⟨rfl,_⟩|⟨id,rfl,_,h3⟩
  ·exact h.ext
  ·exact h.ext.set h3 _
theorem eK.Jh {A:aa}{σ:ab}{v:AV}{e:TypeId}{xs:List AV}{d:Nat}{x:Exit}{R:aa→Prop}(h:eK σ A.st v e xs)(hd:A.env d=v)
  (h0:v= .az→xs=[]→bV R x A) (h1: ∀id,bV R x ((A.upd d (.sl e xs)).an (A.st.set id none))∨ ¬(σ.length≤id∧A.env d= .row e id 0 xs.length)):bV R x A:=by
 rcases h.row with⟨h2,h3⟩|⟨id,h2,h3,h4⟩
 ·exact h0 h2 h3
 ·rcases h1 id with h5|h5
  ·exact bV.frz d (by rw[hd,h2]) h3 (by simp) (by simpa using h5)
  ·exact absurd ⟨h4,by rw[hd,h2]⟩ h5
end Go.Av
end
section
namespace Go.Proofs.Tryz
open Go Go.Av
set_option maxRecDepth 10000
variable {W0 :World}
structure Rep where
 name:List UInt8
 ver:List UInt8
 can:Bool
 XT:List Nat
 never:List Nat
def lM (l:List Nat):AV:=.sl 3 (l.map λk=>.int .i64 (k:Nat))
end Go.Proofs.Tryz
end
section
namespace Go.Av
open Go
def eqK (P:Program)(ty:TypeId):Nat:=match P.underlying ty with|some (.int _)=>1|some .string=>2|some .bool=>3|_=>0
def se (P:Program)(t:TypeId):Option (List Nat):=match P.underlying t with
 | some (.struct fl) => if fl.toList.all (fun f => f.name != "_") && (!P.stoodInHeld t && !P.eqGuardType P.depth t) then (bq P t).map fun ts => ts.map (eqK P) else none
 |_=>none
def A5 :Nat→AV→AV→Option Bool
 |1,.int k a,.int k' b=>if k=k' then some (a==b)else none
 |2,.str a,.str b=>some (a==b)
 |3,.bool a,.bool b=>some (a==b)
 |_,_,_=>none
def uQ :List Nat→List AV→List AV→Option Bool
 |[],[],[]=>some true
 |ty::ts,x::xs,y::ys=>(A5 ty x y).bind λb=>(uQ ts xs ys).map λc=>b&&c
 |_,_,_=>none
theorem Vp (P:Program)(ty:TypeId)(x y:AV):eq1 P ty x y=A5 (eqK P ty) x y:=by
 unfold eq1 eqK
 cases h:P.underlying ty with
 |none=>cases x<;>cases y<;>rfl
 |some u=>cases u<;>cases x<;>cases y<;>rfl
theorem BN (P:Program): ∀(ts:List TypeId) (xs ys:List AV),qq P ts xs ys=uQ (ts.map (eqK P)) xs ys
 |[],[],[]=>rfl
 |[],[],_::_=>rfl
 |[],_::_,[]=>rfl
 |[],_::_,_::_=>rfl
 |_::_,[],[]=>rfl
 |_::_,[],_::_=>rfl
 |_::_,_::_,[]=>rfl
 |ty::ts,x::xs,y::ys=>by
  simp only[qq,List.map_cons,uQ,Vp,BN P ts xs ys]
theorem r7 {P:Program}{t:TypeId}{ks:List Nat}(h:se P t=some ks)(fs gs:List AV):iO P t fs gs=uQ ks fs gs:=by
 unfold se at h
 unfold iO
 split at h
 ·rename_i fl hu
  simp only[hu]
  split at h
  ·rename_i hc
   rw[if_pos hc]
   cases hf:bq P t with
   |none=>rw[hf]at h;cases h
   |some ts=>
    rw[hf]at h
    simp only[Option.map_some,Option.some.injEq]at h
    simp only[Option.bind_some,BN,h]
  ·cases h
 ·cases h
end Go.Av
namespace Go.Proofs.Tryz
open Go Go.Av
set_option maxRecDepth 10000
variable {W0 :World}
theorem jd {α:Type}{a b:List α}{i:Nat}{x:α}(h:a.take i=b.take i)(hx:a[i]?=some x)(hy:b[i]?=some x):a.take (i+1)=b.take (i+1):=by
 rw[ai hx,ai hy,h]
theorem mY {α:Type}{a b:List α}{i:Nat}{x y:α}(hx:a[i]?=some x)(hy:b[i]?=some y)(h:x≠y):a≠b:=by
 rintro rfl
 rw[hx]at hy
 exact h (Option.some.inj hy)
theorem ud :se prog 81=some [2,1,2]:=by kernel_rfl
theorem tu :se prog 147=some [2,2]:=by kernel_rfl
@[go_sem] theorem Uh (a b:Atom):cp prog .neq 81 (aR a) (aR b)= .bool (!decide (a=b)):=by
 obtain⟨a1,a2,a3⟩:=a
 obtain⟨b1,b2,b3⟩:=b
 simp only[aR,vF,r7 ud,uQ,A5,if_true,Option.map_some,Option.bind_some,Option.getD_some,Atom.mk.injEq,Bool.and_true]
 congr 1
 rw[Bool.eq_iff_iff]
 simp
@[go_sem] theorem VQ (a b:Atom):cw prog .neq 81 (aR a) (aR b)=True:=by
 simp[aR,vM,r7 ud,uQ,A5]
@[go_sem] theorem VD (a b:ir):cp prog .neq 147 (c9 a) (c9 b)= .bool (!decide (a=b)):=by
 obtain⟨a1,a2⟩:=a
 obtain⟨b1,b2⟩:=b
 simp only[c9,vF,r7 tu,uQ,A5,if_true,Option.map_some,Option.bind_some,Option.getD_some,ir.mk.injEq,Bool.and_true]
 congr 1
 rw[Bool.eq_iff_iff]
 simp
@[go_sem] theorem U6 (a b:ir):cw prog .neq 147 (c9 a) (c9 b)=True:=by
 simp[c9,vM,r7 tu,uQ,A5]
def atL (all:List Pkg)(t:List Nat):List Pkg:=t.filterMap λi=>all[i]?
theorem JK (all:List Pkg)(t:List Nat):(atL all t).length≤t.length:=List.length_filterMap_le _ _
end Go.Proofs.Tryz
end
section
namespace Go.Proofs.Tryz
open Go Go.Av
set_option maxRecDepth 10000
variable {W0 :World}
def xf (p q:Pkg):Bool:=Op.bytesLess q.name p.name||(q.name==p.name&&decide (0≤bp q.ver p.ver))
def qu (p:Pkg)(out:List Pkg):List Pkg:=out.takeWhile (xf p)++p::out.dropWhile (xf p)
def cL (l:List Pkg):List Pkg:=l.foldl (λo p=>qu p o) []
theorem Ch {l:List Pkg}{i:Nat}{p:Pkg}(h:l[i]?=some p):cL (l.take (i+1))=qu p (cL (l.take i)):=by
 rw[cL,ai h,List.foldl_append];rfl
theorem qO (p:Pkg)(o:List Pkg):(qu p o).Perm (p::o):=by
 unfold qu
 refine List.perm_middle.trans (.cons _ ?_)
 rw[List.takeWhile_append_dropWhile]
theorem ei (l:List Pkg):(cL l).Perm l:=by
 have key: ∀(l o:List Pkg),(l.foldl (λo p=>qu p o) o).Perm (o++l):=λl=>by
  induction l with
  |nil=>intro o;simp
  |cons p l ih=>
   intro o
   refine(ih _).trans ?_
   refine((qO p o).append_right l).trans ?_
   exact List.perm_middle.symm
 have h:=key l []
 rw[List.nil_append]at h
 exact h
theorem fO {α:Type}{f:α→Bool}: ∀{l:List α} {a:Nat},(∀k x,k<a→l[k]?=some x→f x=true)→(∀x,l[a]?=some x→f x=false)→l.takeWhile f=l.take a∧l.dropWhile f=l.drop a
 |[],a,_,_=>by simp
 |x::l,0,_,h=>by
  have:=h x rfl
  simp[this]
 |x::l,a+1,h,h2=>by
  have hx:=h 0 x (by omega) rfl
  obtain⟨e1,e2⟩:=fO (l:=l) (a:=a) (λk y hk hy=>h (k+1) y (by omega) (by simpa using hy)) (λy hy=>h2 y (by simpa using hy))
  simp[hx,e1,e2]
structure eK (σ st:ab)(v:AV)(e:TypeId)(xs:List AV):Prop where
 row:dU st v e xs
 ext:Ext σ st
 low: ∀j∈bk v,σ.length≤j
theorem eK.iS {σ st:ab}{v:AV}{e:TypeId}{xs:List AV}(h:eK σ st v e xs):eC σ st v e xs:=⟨h.row.st,h.ext,λid hid=>h.low id (by cases v<;>simp[Mf]at hid;subst hid;simp[bk])⟩
theorem eK.app {σ st st':ab}{x v:AV}{e:TypeId}{xs zs:List AV}(h:eK σ st x e xs)(ha:Uj st x e zs v st'):eK σ st' v e zs:=⟨ha.row,ha.fr.yq h.ext h.low,λj hj=>by
 rcases ha.bk j hj with h1|h1
 ·exact h.low j h1
 ·exact Nat.le_trans h.ext.le h1⟩
theorem eK.nil {σ st:ab}(h:Ext σ st)(e:TypeId):eK σ st .az e []:=⟨.inl ⟨rfl,rfl⟩,h,λj hj=>by simp[bk]at hj⟩
theorem eK.more {σ st:ab}{v:AV}{e:TypeId}{xs:List AV}(h:eK σ st v e xs)(l:ab):eK σ (st++l) v e xs:=⟨h.row.dX λj hj=>by rw[List.getElem?_append_left (h.row.lt j hj)],h.ext.app l,h.low⟩
theorem BW (l:List Pkg)(hl:l.length≤1024):ah prog W0 20 [aN l] (aN (cL l)):=by
 refine mi [2] [5,2000053,2000056,2000060,2000003] func20 rfl rfl ntmps20 rfl rfl (kr _) λhs σ=>?_
 have ht:elT prog 22=some 54:=by kernel_rfl
 simp only[go_sem,simprocAttr,aN]
 refine ae.at [7,8] (.of (by kernel_rfl)) (λA=>∃ v,A.env 3=v∧eK σ A.st v 54 ((cL l).map av)) ?_ λB ⟨v,h3,hb⟩=>?_
 ·refine ae.upto [7,8] (.of (by kernel_rfl)) l.length (λi A=>∃ v,A.env 3=v∧A.env 9= .int .i64 i∧eK σ A.st v 54 ((cL (l.take i)).map av)) 0 (Nat.zero_le _) ?_ λi B hi ⟨v,h3,h9,hb⟩=>?_
  ·simp only[go_sem,simprocAttr]
   exact⟨_,rfl,eK.nil (.refl _) _⟩
  have hok:=hb.iS.ok
  have hun:=hb.iS.un
  simp only[go_sem,simprocAttr,h3,h9,hok,hun,List.length_map]
  refine⟨λhc=>?_,λhc=>?_⟩
  ·obtain⟨p,hp⟩:=get_some hc
   have ho:(cL (l.take i)).length≤1024:=by rw[(ei _).length_eq,List.length_take];omega
   obtain⟨o,hoo⟩: ∃o,o=cL (l.take i):=⟨_,rfl⟩
   rw[←hoo]at hb ho
   have hb':=hb.more [none]
   have hlen:mm v= .int .i64 o.length:=by rw[hb.row.st.len,List.length_map]
   have hlc:=λt=>hb.row.st.fX prog t
   simp only[go_sem,simprocAttr,ar hp,av,h3,h9,hok,hun]
   refine⟨hc,ae.at [3,5,7,8,9] (.of (by kernel_rfl)) (λA=>∃ a:Nat,A.env 6= .int .i64 a∧a≤o.length∧A.st=B.st++[none]∧(∀k x,k<a→o[k]?=some x→xf p x=true)∧(∀x,o[a]?=some x→xf p x=false)) ?_ λC ⟨a,h6,hle,hst,hI,hJ⟩=>?_⟩
   ·refine ae.upto [3,5,7,8,9] (.of (by kernel_rfl)) o.length (λa A=>A.env 6= .int .i64 a∧A.st=B.st++[none]∧(∀k x,k<a→o[k]?=some x→xf p x=true)) 0 (Nat.zero_le _) ?_ λa C hle ⟨h6,hst,hI⟩=>?_
    ·simp only[go_sem,simprocAttr]
    by_cases hlt:a<o.length
    ·obtain⟨q,hq⟩:=get_some hlt
     have hok2:=hok
     rcases hb'.row with⟨rfl,h0⟩|⟨id,off,m,zs,rfl,g1,g2,g3⟩
     ·have:=congrArg List.length h0
      simp at this
      rw[this]at hlt
      exact absurd hlt (by simp)
     have hm:m=o.length:=by rw[←dU.AH (σ:=B.st) (e:=54) (id:=id) g2 g3,List.length_map]
     have hz:zs[off+a]?=some (av q):=by
      have h1:((zs.drop off).take m)[a]?=some (av q):=by rw[←g3,List.getElem?_map,hq];rfl
      rw[List.getElem?_take_of_lt (by omega),List.getElem?_drop]at h1
      exact h1
     have hk0:Av.look C.st id (off+a) [0]=some (.str q.name):=by
      rw[hst]
      unfold Av.look
      rw[g1]
      simp only[hz,Option.bind_some]
      rfl
     have hk1:Av.look C.st id (off+a) [1]=some (.str q.ver):=by
      rw[hst]
      unfold Av.look
      rw[g1]
      simp only[hz,Option.bind_some]
      rfl
     have hlv:live C.st id:=by rw[hst,ay g1];trivial
     simp only[go_sem,simprocAttr,h3,h6,hok,hun,hm,hk0,hk1,hlv,hlt]
     refine⟨.of (by kernel_rfl),aA.fnG (λ_=>lp q.ver p.ver) ?_⟩
     simp only[go_sem,simprocAttr,h3,h6,hok,hun,hm,hk0,hk1,hlv,hlt]
     refine⟨λhb1=>⟨ag hlt (by rw[aq];omega),hst,λk x hk hx=>?_⟩,λhb0=>⟨a,rfl,hle,hst,hI,λx hx=>?_⟩⟩
     ·rcases Nat.lt_succ_iff_lt_or_eq.1 hk with h|rfl
      ·exact hI k x h hx
      ·rw[hq]at hx;cases hx;exact hb1
     ·rw[hq]at hx;cases hx;exact hb0
    ·simp only[go_sem,simprocAttr,h3,h6,hok,hun,hlen,hlc,hlt]
     refine⟨.of (by kernel_rfl),aA.fnG (r:=.int .i64 0) (λh=>(Bool.false_ne_true h).elim) ?_⟩
     simp only[go_sem,simprocAttr,h3,h6,hok,hun,hlen,hlc,hlt]
     exact⟨a,rfl,hle,hst,hI,λx hx=>by rw[List.getElem?_eq_none (by omega)]at hx;cases hx⟩
   have hrow:dU C.st v 54 (o.map av):=by rw[hst];exact hb'.row
   have hle':a≤(o.map av).length:=by simpa using hle
   have hc1:=hrow.cut (Nat.zero_le a) hle'
   have hc2:=hrow.cut hle' (Nat.le_refl _)
   rw[List.length_map]at hc2
   have q1:=hc1.st.ok
   have q2:=hc1.st.un
   have q3:=hc2.st.ok
   have q4:=hc2.st.un
   simp only[go_sem,simprocAttr,h3,h6,h9,hok,hun,hrow.M7,hrow.lK ht,hle,List.length_map,q1,q2,q3,q4]
   refine⟨.of (by kernel_rfl),Nat.zero_le _,bQ.xx (σ:=C.st) (by simp only[go_sem,simprocAttr]) 1048576 (by kernel_rfl) (.inl ⟨rfl,rfl⟩) hc1.st.read (by simp;omega) λv1 σ1 ha1=>?_⟩
   have q5:=ha1.row.st.ok
   have q6:=ha1.row.st.un
   simp only[go_sem,simprocAttr,h3,h6,h9,hok,hun,q1,q2,q3,q4,q5,q6]
   refine bQ.xx (σ:=σ1) (by simp only[go_sem,simprocAttr]) 1048576 (by kernel_rfl) ha1.row (.lit _ _ _) (by simp;omega) λv2 σ2 ha2=>?_
   have q7:=ha2.row.st.ok
   have q8:=ha2.row.st.un
   have hk:dU σ2 (rL a o.length v) 54 _:=hc2.dX λj hj=>by
    rw[mT]at hj
    have hj1:=hrow.lt j hj
    have hj2:j∉bk v1:=λh=>by
     rcases ha1.bk j h with h|h
     ·simp[bk]at h
     ·omega
    rw[ha2.fr.old j (Nat.lt_of_lt_of_le hj1 ha1.fr.len) hj2,ha1.fr.old j hj1 (by simp[bk])]
   simp only[go_sem,simprocAttr,h3,h6,h9,hok,hun,q1,q2,q3,q4,q5,q6,q7,q8]
   refine bQ.xx (σ:=σ2) (by simp only[go_sem,simprocAttr]) 1048576 (by kernel_rfl) ha2.row hk.st.read (by simp;omega) λv3 σ3 ha3=>?_
   have q9:=ha3.row.st.ok
   have q10:=ha3.row.st.un
   simp only[go_sem,simprocAttr,h3,h6,h9,hok,hun,q1,q2,q3,q4,q5,q6,q7,q8,q9,q10]
   refine⟨hc,_,rfl,ag hc (by rw[aq];omega),?_⟩
   have hx:Ext σ C.st:=by rw[hst];exact hb'.ext
   have hfin:=(((eK.nil hx 54).app ha1).app ha2).app ha3
   rw[Ch hp,←hoo,qu,(fO hI hJ).1,(fO hI hJ).2]
   have he:([]++(((o.map av).drop 0).take (a-0)))++[av p]++(((o.map av).drop a).take (o.length-a))=(o.take a++p::o.drop a).map av:=by
    rw[List.take_of_length_le (l:=(o.map av).drop a) (by simp)]
    simp[List.map_take,List.map_drop]
   rw[←he]
   exact hfin
  ·rw[List.take_of_length_le hc]at hb
   exact⟨_,rfl,hb⟩
 simp only[go_sem,simprocAttr,h3,hb.iS.ok,hb.iS.un]
 exact eC.Jh (hb.iS) (.inl rfl) (by simp only[go_sem,simprocAttr])
end Go.Proofs.Tryz
end
section
namespace Go.Proofs.Tryz
open Go Go.Av
set_option maxRecDepth 10000
variable {W0 :World}
def aE (all:List Pkg)(i:Nat):Nat:=match all[i]? with
 |some p=>i+((all.drop i).takeWhile λq=>q.name==p.name).length
 |none=>i
def df (all:List Pkg):Nat→Nat→List Nat→List (List Nat)
 |0,_,t=>if dO (atL all t)=true then [t]else []
 |f+1,i,t=>if i=all.length then(if dO (atL all t)=true then [t]else [])else((List.range' i (aE all i-i)).flatMap λk=>df all f (aE all i) (t++[k]))++df all f (aE all i) t
theorem ry (all:List Pkg)(f:Nat)(t:List Nat):df all f all.length t=if dO (atL all t)=true then [t]else []:=by
 cases f<;>simp[df]
theorem xJ (u v:AV):me false u v=v:=by
 unfold me lQ
 split<;>simp[qY]
inductive sx :List AV→List AV→Prop
 |nil:sx [] []
 |cons {x y:AV} {xs ys:List AV}:Sub x y→sx xs ys→sx (x::xs) (y::ys)
theorem sx.append {a b c d:List AV}(h:sx a b)(k:sx c d):sx (a++c) (b++d):=by
 induction h with
 |nil=>exact k
 |cons h1 _ ih=>exact .cons h1 ih
theorem sx.get {a b:List AV}(h:sx a b):a.length=b.length∧ ∀(i:Nat) (x y:AV),a[i]?=some x→b[i]?=some y→Sub x y:=by
 induction h with
 |nil=>exact⟨rfl,λi x y hx _=>by simp at hx⟩
 |cons h1 _ ih=>
  refine⟨by simp[ih.1],λi x y hx hy=>?_⟩
  cases i with
  |zero=>simp at hx hy;subst hx hy;exact h1
  |succ i=>exact ih.2 i x y (by simpa using hx) (by simpa using hy)
theorem sx.sl {a b:List AV}(h:sx a b)(e:TypeId):Sub (.sl e a) (.sl e b):=.sls h.get.1 h.get.2
theorem CL {α:Type}{f:α→Bool}: ∀{l:List α} {k:Nat},k≤(l.takeWhile f).length→(∀x,l[k]?=some x→f x=true→k<(l.takeWhile f).length)∧(∀x,l[k]?=some x→f x=false→k=(l.takeWhile f).length)∧(l.length≤k→k=(l.takeWhile f).length)
 |[],k,h=>by simp at h;subst h;simp
 |a::l,k,h=>by
  cases hf:f a with
  |false=>
   simp[List.takeWhile_cons,hf]at h ⊢
   subst h
   simp[hf]
  |true=>
   simp[List.takeWhile_cons,hf]at h ⊢
   cases k with
   |zero=>simp[hf]
   |succ k=>
    obtain⟨h1,h2,h3⟩:=CL (f:=f) (l:=l) (k:=k) (by omega)
    simpa using ⟨h1,h2,h3⟩
theorem mj {all:List Pkg}{i k:Nat}{p:Pkg}(hp:all[i]?=some p)(hk:k≤aE all i-i):
  (∀q,all[i+k]?=some q→q.name=p.name→k<aE all i-i)∧(∀q,all[i+k]?=some q→ ¬q.name=p.name→i+k=aE all i)∧(all.length≤i+k→i+k=aE all i):=by
 have hr:aE all i=i+((all.drop i).takeWhile λq=>q.name==p.name).length:=by simp[aE,hp]
 rw[hr]at hk ⊢
 rw[Nat.add_sub_cancel_left]at hk ⊢
 obtain⟨h1,h2,h3⟩:=CL hk
 refine⟨λq hq e=>h1 q (by rw[List.getElem?_drop];exact hq) (by simpa using e),λq hq e=>?_,λhl=>?_⟩
 ·rw[←h2 q (by rw[List.getElem?_drop];exact hq) (by simpa using e)]
 ·rw[←h3 (by rw[List.length_drop];omega)]
theorem cD {all:List Pkg}{i:Nat}{p:Pkg}(hp:all[i]?=some p):i<aE all i∧aE all i≤all.length:=by
 have h0:=(mj hp (Nat.zero_le _)).1 p hp rfl
 refine⟨by omega,?_⟩
 have hr:aE all i=i+((all.drop i).takeWhile λq=>q.name==p.name).length:=by simp[aE,hp]
 have h1:=(List.takeWhile_sublist (λq:Pkg=>q.name==p.name) (l:=all.drop i)).length_le
 have h2:=(List.getElem?_eq_some_iff.1 hp).1
 rw[List.length_drop]at h1
 omega
theorem room {d m:Nat}:(d+1)*2^m≤2^(d+m):=by
 rw[Nat.pow_add]
 exact Nat.mul_le_mul_right _ (Nat.lt_two_pow_self)
structure NOk (all:List Pkg)(N:Nat→Nat):Prop where
 one:1≤N all.length
 step: ∀i p,all[i]?=some p→(aE all i-i+1)*N (aE all i)≤N i
theorem NOk.two (all:List Pkg):NOk all λi=>2^(all.length-i):=⟨Nat.one_le_two_pow,λi p hp=>by
 obtain⟨b1,b2⟩:=cD hp
 have hroom:=room (d:=aE all i-i) (m:=all.length-aE all i)
 rwa [show aE all i-i+(all.length-aE all i)=all.length-i by omega]at hroom⟩
end Go.Proofs.Tryz
end
section
namespace Go.Proofs.Tryz
open Go Go.Av
set_option maxRecDepth 10000
variable {W0 :World}
theorem j2 {all:List Pkg}: ∀{f i:Nat} {t u:List Nat},u∈df all f i t→i≤all.length→(∀k∈t,k<all.length)→t.length≤i→(∀k∈u,k<all.length)∧u.length≤all.length
 |0,i,t,u,h,hi,ht,hl=>by
  simp[df]at h
  rw[h.2]
  exact⟨ht,by omega⟩
 |f+1,i,t,u,h,hi,ht,hl=>by
  rw[df]at h
  split at h
  ·rename_i he
   split at h
   ·rw[List.mem_singleton.1 h]
    exact⟨ht,by omega⟩
   ·cases h
  ·rename_i he
   obtain⟨p,hp⟩:=get_some (show i<all.length by omega)
   obtain⟨b1,b2⟩:=cD hp
   rcases List.mem_append.1 h with h|h
   ·obtain⟨k,hk,h⟩:=List.mem_flatMap.1 h
    rw[List.mem_range'_1]at hk
    refine j2 h b2 (λx hx=>?_) (by simp;omega)
    rcases List.mem_append.1 hx with h1|h1
    ·exact ht x h1
    ·simp at h1;omega
   ·exact j2 h b2 ht (by omega)
end Go.Proofs.Tryz
end
section
namespace Go.Proofs.Tryz
open Go Go.Av
set_option maxRecDepth 10000
variable {W0 :World}
def MA (all:List Pkg)(j:Nat):Option (List UInt8):=(all[j]?).map λp=>p.name
end Go.Proofs.Tryz
end
section
namespace Go.Av
structure Cx (all:List Pkg)(S:Nat→Bool):Prop where
 dep: ∀(i:Nat) (p:Pkg),all[i]?=some p→S i=true→ ∀c∈p.pre++p.dep,∃(k:Nat) (q:Pkg),all[k]?=some q∧c.any (di q)=true∧S k=true
 con: ∀(i:Nat) (p:Pkg) (k:Nat) (q:Pkg),all[i]?=some p→all[k]?=some q→k<i→S i=true→S k=true→p.name≠q.name∧eI p q=false
end Go.Av
end
section
namespace Go.Av
def tW (d:List Clause):Bool:=decide (d.length≤14)&&d.all λc=>decide (c.length≤10)
def oB (i:Nat)(p:Pkg):Bool:=decide (i<26)&&decide (p.con.length+p.brk.length+p.dE.length≤40)&&[p.pre,p.dep,p.rcm].all tW
def iG :Nat→List Pkg→Bool
 |_,[]=>true
 |i,p::r=>oB i p&&iG (i+1) r
theorem tt : ∀{i:Nat} {l:List Pkg},iG i l=true→ ∀p∈l,p.con.length+p.brk.length+p.dE.length≤40
 |_,[],_,p,hp=>by simp at hp
 |i,q::r,h,p,hp=>by
  rw[iG,Bool.and_eq_true]at h
  rcases List.mem_cons.1 hp with rfl|hp
  ·have:=h.1
   simp[oB]at this
   exact this.1.2
  ·exact tt h.2 p hp
end Go.Av
end
section
namespace Go.Av
def xS {α β:Type}(f:α→β→Bool):List α→List β→Bool
 |[],[]=>true
 |x::xs,y::ys=>f x y&&xS f xs ys
 |_,_=>false
theorem pv {α β:Type}{f:α→β→Bool}: ∀{xs:List α} {ys:List β},xS f xs ys=true→xs.length=ys.length∧ ∀(i:Nat) (x:α) (y:β),xs[i]?=some x→ys[i]?=some y→f x y=true
 |[],[],_=>⟨rfl,by simp⟩
 |[],_::_,h=>by simp[xS]at h
 |_::_,[],h=>by simp[xS]at h
 |x::xs,y::ys,h=>by
  rw[xS,Bool.and_eq_true]at h
  obtain⟨h1,h2⟩:=pv h.2
  refine⟨by simp[h1],λi x' y' hx hy=>?_⟩
  cases i with
  |zero=>simp at hx hy;subst hx hy;exact h.1
  |succ i=>exact h2 i x' y' (by simpa using hx) (by simpa using hy)
def Dr :Nat→AV→AV→Bool
 |0,_,_=>false
 |n+1,x,y=>match x,y with
  | .int k a,.int k' b=>decide (k=k')&&a==b
  | .bool a,.bool b=>a==b
  | .str a,.str b=>a==b
  | .nil,.nil=>true
  | .az,.az=>true
  | .az,.sl _ []=>true
  | .sl e xs,.sl e' ys=>e==e'&&xS (Dr n) xs ys
  | .lit e xs,.sl e' ys=>e==e'&&xS (Dr n) xs ys
  | .agg t xs,.agg t' ys=>t==t'&&xS (Dr n) xs ys
  |_,_=>false
theorem jr : ∀{n:Nat} {x y:AV},Dr n x y=true→Sub x y
 |0,_,_,h=>by simp[Dr]at h
 |n+1,x,y,h=>by
  unfold Dr at h
  split at h
  ·simp only[Bool.and_eq_true,decide_eq_true_eq,beq_iff_eq]at h
   rw[h.1,h.2];exact .refl _
  ·rw[beq_iff_eq.1 h];exact .refl _
  ·rw[beq_iff_eq.1 h];exact .refl _
  ·exact .refl _
  ·exact .refl _
  ·exact .az _
  ·rw[Bool.and_eq_true,beq_iff_eq]at h
   obtain⟨rfl,h⟩:=h
   obtain⟨h1,h2⟩:=pv h
   exact .sls h1 λi x y hx hy=>jr (h2 i x y hx hy)
  ·rw[Bool.and_eq_true,beq_iff_eq]at h
   obtain⟨rfl,h⟩:=h
   obtain⟨h1,h2⟩:=pv h
   exact .trans (.lits h1 λi x y hx hy=>jr (h2 i x y hx hy)) (.lit _ _)
  ·rw[Bool.and_eq_true,beq_iff_eq]at h
   obtain⟨rfl,h⟩:=h
   obtain⟨h1,h2⟩:=pv h
   exact .agg h1 λi x y hx hy=>jr (h2 i x y hx hy)
  ·cases h
end Go.Av
end
section
namespace Go.Av
def Pp (all:List Pkg)(i:Nat):Prop:=∃ S,Cx all S∧S i=true
def Xh (all:List Pkg)(i j:Nat):Prop:=∃ S,Cx all S∧S i=true∧S j=true
def W9 (all:List Pkg)(i j:Nat):Prop:=∃ S,Cx all S∧S i=true∧S j=false
structure mH (all:List Pkg)(i j:Nat):Prop where
 ne:i≠j
 can:Pp all i
 not: ¬W9 all i j
structure uk (all:List Pkg)(i j:Nat):Prop where
 ne:i≠j
 can:Pp all i
 Uk:Pp all j
 not: ¬Xh all i j
theorem mH.sel {all:List Pkg}{i j:Nat}(h:mH all i j){S:Nat→Bool}(hS:Cx all S)(hi:S i=true):S j=true:=by
 cases hj:S j with
 |true=>rfl
 |false=>exact absurd ⟨S,hS,hi,hj⟩ h.not
theorem mH.trans {all:List Pkg}{i j k:Nat}(h:mH all i j)(h':mH all j k)(hk:k≠i):mH all i k:=
 ⟨λe=>hk e.symm,h.can,λ⟨_,hS,hi,hk⟩=>by rw[h'.sel hS (h.sel hS hi)]at hk;cases hk⟩
theorem mH.never {all:List Pkg}{i j k:Nat}(h:mH all i j)(h':uk all j k):uk all i k:=by
 refine⟨λe=>?_,h.can,h'.Uk,λ⟨S,hS,hi,hk⟩=>h'.not ⟨S,hS,h.sel hS hi,hk⟩⟩
 subst e
 obtain⟨S,hS,hi⟩:=h.can
 exact h'.not ⟨S,hS,h.sel hS hi,hi⟩
theorem uk.symm {all:List Pkg}{i j:Nat}(h:uk all i j):uk all j i:=
 ⟨λe=>h.ne e.symm,h.Uk,h.can,λ⟨S,hS,hj,hi⟩=>h.not ⟨S,hS,hi,hj⟩⟩
theorem od (p q:Pkg):eI p q=eI q p:=by
 unfold eI
 rw[Bool.or_comm (jA p q)]
 congr 1
 rw[Bool.eq_iff_iff]
 simp only[bne_iff_ne,ne_eq]
 exact⟨λh e=>h e.symm,λh e=>h e.symm⟩
end Go.Av
end
section
namespace Go.Av
theorem fw (a b:Int):sgn b a= -sgn a b:=by
 unfold sgn
 split<;>split<;>(try split)<;>(try split)<;>omega
theorem nq (a b:List UInt8):bP a b=if rk a=0∧rk b=0 then 0 else if rk a=rk b then bP a.tail b.tail else sgn (rk a) (rk b):=by
 by_cases h1:rk a=0∧rk b=0
 ·rw[if_pos h1,fT h1.1 h1.2]
 ·rw[if_neg h1]
  by_cases h2:rk a=rk b
  ·rw[if_pos h2,fP (λe=>h1 ⟨e,by rw[←h2];exact e⟩) h2]
  ·rw[if_neg h2,dF h2]
theorem rp : ∀(n:Nat) (a b:List UInt8),a.length≤n→bP b a= -bP a b
 |0,a,b,h=>by
  have:a=[]:=List.eq_nil_of_length_eq_zero (by omega)
  subst this
  rw[nq b,nq []]
  have h0:rk []=0:=rfl
  rw[h0]
  by_cases hb:rk b=0
  ·simp[hb]
  ·rw[if_neg (λe=>hb e.1),if_neg hb,if_neg (λe=>hb e.2),if_neg (λe=>hb e.symm),fw]
 |n+1,a,b,h=>by
  rw[nq b,nq a]
  by_cases h1:rk a=0∧rk b=0
  ·rw[if_pos h1,if_pos ⟨h1.2,h1.1⟩];rfl
  ·rw[if_neg h1,if_neg (λe=>h1 ⟨e.2,e.1⟩)]
   by_cases h2:rk a=rk b
   ·have ha:rk a≠0:=λe=>h1 ⟨e,by rw[←h2];exact e⟩
    obtain⟨c,r,rfl,_⟩:=zD ha
    rw[if_pos h2,if_pos h2.symm]
    exact rp n r b.tail (by simpa using h)
   ·rw[if_neg h2,if_neg (λe=>h2 e.symm),fw]
theorem vb : ∀(a b:List UInt8),fk b a= -fk a b
 |[],b=>by cases b<;>rfl
 |x::a,[]=>rfl
 |x::a,y::b=>by
  unfold fk
  by_cases h:x=y
  ·rw[if_pos h,if_pos h.symm];exact vb a b
  ·rw[if_neg h,if_neg (λe=>h e.symm),fw]
theorem sY {a b:List UInt8}(h: ¬(a=[]∧b=[])):bc a b=if bP a b≠0 then bP a b
  else if bj (aK a)≠bj (aK b)then sgn (bj (aK a)) (bj (aK b))
  else if fk ((aK a).take (bj (aK a))) ((aK b).take (bj (aK b)))≠0 then fk ((aK a).take (bj (aK a))) ((aK b).take (bj (aK b)))
  else bc ((aK a).drop (bj (aK a))) ((aK b).drop (bj (aK b))):=by
 rw[bc,dif_neg h]
theorem ui : ∀(n:Nat) (a b:List UInt8),a.length+b.length≤n→bc b a= -bc a b
 |0,a,b,h=>by
  have h1:a=[]:=List.eq_nil_of_length_eq_zero (by omega)
  have h2:b=[]:=List.eq_nil_of_length_eq_zero (by omega)
  subst h1 h2
  rw[bc,dif_pos ⟨rfl,rfl⟩];rfl
 |n+1,a,b,h=>by
  by_cases h0:a=[]∧b=[]
  ·rw[bc,dif_pos ⟨h0.2,h0.1⟩,bc,dif_pos h0];rfl
  ·have hlt:=sS h0
   have ih:=ui n ((aK a).drop (bj (aK a))) ((aK b).drop (bj (aK b))) (by omega)
   rw[sY (a:=b) (b:=a) (λe=>h0 ⟨e.2,e.1⟩),sY h0,rp _ a b (Nat.le_refl _)]
   by_cases h1:bP a b=0
   ·rw[if_neg (show ¬(-bP a b≠0) by omega),if_neg (show ¬(bP a b≠0) by omega)]
    by_cases h2:bj (aK a)=bj (aK b)
    ·rw[if_neg (show ¬(bj (aK b)≠bj (aK a)) by omega),if_neg (show ¬(bj (aK a)≠bj (aK b)) by omega),vb ((aK a).take (bj (aK a)))]
     by_cases h3:fk ((aK a).take (bj (aK a))) ((aK b).take (bj (aK b)))=0
     ·rw[if_neg (show ¬(-fk ((aK a).take (bj (aK a))) ((aK b).take (bj (aK b)))≠0) by omega),if_neg (show ¬(fk ((aK a).take (bj (aK a))) ((aK b).take (bj (aK b)))≠0) by omega)];exact ih
     ·rw[if_pos (show-fk ((aK a).take (bj (aK a))) ((aK b).take (bj (aK b)))≠0 by omega),if_pos h3]
    ·rw[if_pos (show bj (aK b)≠bj (aK a) by omega),if_pos h2,fw]
   ·rw[if_pos (show-bP a b≠0 by omega),if_pos h1]
theorem nN (a b:List UInt8):bc b a= -bc a b:=ui _ a b (Nat.le_refl _)
theorem ic (a b:List UInt8):bp b a= -bp a b:=by
 unfold bp
 rcases eL a with _|⟨e,u,r⟩
 ·rcases eL b with _|⟨f,v,s⟩<;>rfl
 ·rcases eL b with _|⟨f,v,s⟩
  ·rfl
  ·show(if bc f e≠0 then bc f e else if bc v u≠0 then bc v u else bc s r)= -(if bc e f≠0 then bc e f else if bc u v≠0 then bc u v else bc r s)
   rw[nN e f,nN u v,nN r s]
   by_cases h1:bc e f=0
   ·by_cases h2:bc u v=0
    ·simp[h1,h2]
    ·rw[if_neg (show ¬(-bc e f≠0) by omega),if_neg (show ¬(bc e f≠0) by omega),if_pos (show-bc u v≠0 by omega),if_pos h2]
   ·rw[if_pos (show-bc e f≠0 by omega),if_pos h1]
theorem kO (a b:List UInt8):ba b a=ba a b:=by
 unfold ba
 rw[ic a b,Bool.and_comm (bf b)]
 congr 1
 rw[Bool.eq_iff_iff,beq_iff_eq,beq_iff_eq]
 omega
theorem mu (p q:Pkg):db p q=db q p:=by
 unfold db
 rw[kO]
 congr 1
 rw[Bool.eq_iff_iff,beq_iff_eq,beq_iff_eq]
 exact⟨λh=>h.symm,λh=>h.symm⟩
theorem sV : ∀(l bef:List Pkg),nt bef l=false↔(∀p∈l,∀q∈bef,db p q=false)∧l.Pairwise λx y=>db y x=false
 |[],bef=>by simp[nt]
 |p::r,bef=>by
  rw[nt,Bool.or_eq_false_iff,sV r,List.pairwise_cons,List.any_eq_false]
  constructor
  ·rintro⟨h1,h2,h3⟩
   refine⟨λx hx q hq=>?_,λx hx=>h2 x hx p (by simp),h3⟩
   rcases List.mem_cons.1 hx with rfl|hx
   ·simpa using h1 q hq
   ·exact h2 x hx q (by simp[hq])
  ·rintro⟨h1,h2,h3⟩
   refine⟨λq hq=>by simpa using h1 p (by simp) q hq,λx hx q hq=>?_,h3⟩
   rcases List.mem_append.1 hq with hq|hq
   ·exact h1 x (by simp[hx]) q hq
   ·rw[List.mem_singleton.1 hq];exact h2 x hx
theorem jk : ∀(l:List Pkg) (acc:List (List UInt8)) (x:List UInt8),x∈dy l acc↔x∈acc∨ ∃p∈l,p.name=x
 |[],acc,x=>by simp[dy]
 |p::r,acc,x=>by
  rw[dy,jk r]
  by_cases h:acc.any (λx=>p.name==x)=true
  ·rw[if_pos h]
   obtain⟨y,hy,e⟩:=List.any_eq_true.1 h
   have e:=beq_iff_eq.1 e
   constructor
   ·rintro(h|⟨q,hq,e⟩)
    ·exact .inl h
    ·exact .inr ⟨q,by simp[hq],e⟩
   ·rintro(h|⟨q,hq,e'⟩)
    ·exact .inl h
    ·rcases List.mem_cons.1 hq with rfl|hq
     ·exact .inl (by rw[←e',e];exact hy)
     ·exact .inr ⟨q,hq,e'⟩
  ·rw[if_neg h,List.mem_append,List.mem_singleton]
   constructor
   ·rintro((h|rfl)|⟨q,hq,e⟩)
    ·exact .inl h
    ·exact .inr ⟨p,by simp,rfl⟩
    ·exact .inr ⟨q,by simp[hq],e⟩
   ·rintro(h|⟨q,hq,e'⟩)
    ·exact .inl (.inl h)
    ·rcases List.mem_cons.1 hq with rfl|hq
     ·exact .inl (.inr e'.symm)
     ·exact .inr ⟨q,hq,e'⟩
theorem jb : ∀(l:List Pkg) (acc:List (List UInt8)),acc.Nodup→(dy l acc).Nodup
 |[],acc,h=>h
 |p::r,acc,h=>by
  rw[dy]
  refine jb r _ ?_
  by_cases hm:acc.any (λx=>p.name==x)=true
  ·rw[if_pos hm];exact h
  ·rw[if_neg hm]
   refine List.nodup_append.2 ⟨h,by simp,λa ha b hb e=>?_⟩
   rw[List.mem_singleton]at hb
   subst hb
   exact hm (List.any_eq_true.2 ⟨a,ha,by simp[e]⟩)
theorem vQ {α:Type} [DecidableEq α]: ∀(l m:List α),l.Nodup→(∀x∈l,x∈m)→l.length≤m.length
 |[],_,_,_=>Nat.zero_le _
 |x::l,m,hn,h=>by
  rw[List.nodup_cons]at hn
  have hx:=h x (by simp)
  have:=vQ l (m.erase x) hn.2 λy hy=>by
   have hne:y≠x:=λe=>hn.1 (by rw[←e];exact hy)
   exact(List.mem_erase_of_ne hne).2 (h y (by simp[hy]))
  rw[List.length_erase_of_mem hx]at this
  have:=List.length_pos_of_mem hx
  simp;omega
theorem Cr : ∀(l:List Int),orL l=0↔ ∀x∈l,x=0
 |[]=>by simp[orL]
 |y::r=>by
  constructor
  ·exact fZ
  ·intro h
   rw[orL,if_neg (by simp[h y (by simp)])]
   exact(Cr r).2 λx hx=>h x (by simp[hx])
end Go.Av
end
section
namespace Go.Av
structure HL (l:List Pkg):Prop where
 may: ∀p∈l,aU p=0
 pair:l.Pairwise λp q=>p.name≠q.name∧eI p q=false
 met: ∀p∈l,∀c∈p.pre++p.dep,∃q∈l,c.any (di q)=true
theorem Aa {c:Clause}{l:List Pkg}:nu c l=true↔ ∃q∈l,c.any (di q)=true:=by
 unfold nu
 simp only[List.any_eq_true]
 constructor
 ·rintro⟨a,ha,q,hq,h⟩
  exact⟨q,hq,a,ha,h⟩
 ·rintro⟨q,hq,a,ha,h⟩
  exact⟨a,ha,q,hq,h⟩
theorem Es {l bef:List Pkg}{p:Pkg}:pK l bef p=false↔aU p=0∧(∀q∈bef,q.name≠p.name∧eI p q=false)∧ ∀c∈p.pre++p.dep,∃q∈l,c.any (di q)=true:=by
 unfold pK
 simp only[Bool.or_eq_false_iff,bne_eq_false_iff_eq,List.any_eq_false,Bool.not_eq_true',Bool.not_eq_true,Bool.not_eq_false',List.mem_append,←Aa]
 constructor
 ·rintro⟨⟨h1,h2⟩,h3,h4⟩
  refine⟨h1,λq hq=>?_,λc hc=>?_⟩
  ·have:=h2 q hq
   simp at this
   exact this
  ·rcases hc with hc|hc
   ·simpa using h3 c hc
   ·simpa using h4 c hc
 ·rintro⟨h1,h2,h3⟩
  refine⟨⟨h1,λq hq=>?_⟩,λc hc=>by simpa using h3 c (.inl hc),λc hc=>by simpa using h3 c (.inr hc)⟩
  have:=h2 q hq
  simp[this]
theorem wc {l:List Pkg}: ∀(r bef:List Pkg),rz l bef r=false↔(∀p∈r,aU p=0∧ ∀c∈p.pre++p.dep,∃q∈l,c.any (di q)=true)∧(∀p∈r,∀q∈bef,q.name≠p.name∧eI p q=false)∧r.Pairwise λq p=>q.name≠p.name∧eI p q=false
 |[],bef=>by simp[rz]
 |p::r,bef=>by
  rw[rz,Bool.or_eq_false_iff,Es,wc r,List.pairwise_cons]
  constructor
  ·rintro⟨⟨h1,h2,h3⟩,h4,h5,h6⟩
   refine⟨λx hx=>?_,λx hx q hq=>?_,λx hx=>h5 x hx p (by simp),h6⟩
   ·rcases List.mem_cons.1 hx with rfl|hx
    ·exact⟨h1,h3⟩
    ·exact h4 x hx
   ·rcases List.mem_cons.1 hx with rfl|hx
    ·exact h2 q hq
    ·exact h5 x hx q (by simp[hq])
  ·rintro⟨h1,h2,h3,h4⟩
   refine⟨⟨(h1 p (by simp)).1,λq hq=>h2 p (by simp) q hq,(h1 p (by simp)).2⟩,λx hx=>h1 x (by simp[hx]),λx hx q hq=>?_,h4⟩
   rcases List.mem_append.1 hq with hq|hq
   ·exact h2 x (by simp[hx]) q hq
   ·rw[List.mem_singleton.1 hq];exact h3 x hx
theorem zO {l:List Pkg}:dO l=true↔HL l:=by
 unfold dO
 rw[Bool.not_eq_true',wc]
 constructor
 ·rintro⟨h1,_,h3⟩
  exact⟨λp hp=>(h1 p hp).1,h3.imp λ{a b} h=>⟨h.1,by rw[od];exact h.2⟩,λp hp=>(h1 p hp).2⟩
 ·intro h
  exact⟨λp hp=>⟨h.may p hp,h.met p hp⟩,by simp,h.pair.imp λ{a b} h=>⟨h.1,by rw[od];exact h.2⟩⟩
theorem HL.perm {l m:List Pkg}(h:HL l)(hp:l.Perm m):HL m:=
 ⟨λp hm=>h.may p (hp.symm.subset hm),hp.pairwise h.pair λ{a b} h=>⟨λe=>h.1 e.symm,by rw[od];exact h.2⟩,λp hm c hc=>by
  obtain⟨q,h1,h2⟩:=h.met p (hp.symm.subset hm) c hc
  exact⟨q,hp.subset h1,h2⟩⟩
def pick (S:Nat→Bool):Nat→List Pkg→List Pkg
 |_,[]=>[]
 |i,p::r=>if S i=true then p::pick S (i+1) r else pick S (i+1) r
end Go.Av
end
section
namespace Go.Proofs.Tryz
open Go Go.Av
def Ml (all:List Pkg)(S:Nat→Bool)(x:Clause):Prop:=∃ (m:Nat) (q:Pkg),all[m]?=some q∧x.any (di q)=true∧S m=true
def Mi (all:List Pkg)(S:Nat→Bool)(i:Nat)(x:Atom):Prop:=∀ (m:Nat) (q:Pkg),all[m]?=some q→S m=true→m≠i→di q x=false
structure N2 (all:List Pkg)(S:Nat→Bool)(c:Nat×Nat×Nat):Prop where
 pre:c.2.1=1→ ∀p x,all[c.1]?=some p→p.pre[c.2.2]?=some x→Ml all S x
 dep:c.2.1=2→ ∀p x,all[c.1]?=some p→p.dep[c.2.2]?=some x→Ml all S x
 con:c.2.1=3→ ∀p x,all[c.1]?=some p→p.con[c.2.2]?=some x→Mi all S c.1 x
 brk:c.2.1=4→ ∀p x,all[c.1]?=some p→p.brk[c.2.2]?=some x→Mi all S c.1 x
structure XW (all:List Pkg)(e:List (Nat×Nat×Nat))(S:Nat→Bool):Prop where
 name: ∀(a b:Nat) (p q:Pkg),all[a]?=some p→all[b]?=some q→a≠b→S a=true→S b=true→p.name≠q.name
 XS: ∀c∈e,S c.1=true→N2 all S c
end Go.Proofs.Tryz
end
section
namespace Go.Proofs.Tryz
open Go Go.Av
def Lw (all:List Pkg)(c:Nat×Nat×Nat):Clause:=match all[c.1]? with
 |some p=>(match c.2.1 with
  |1=>(p.pre[c.2.2]?).getD []
  |2=>(p.dep[c.2.2]?).getD []
  |3=>((p.con[c.2.2]?).map λx=>[x]).getD []
  |_=>((p.brk[c.2.2]?).map λx=>[x]).getD [])
 |none=>[]
def Tk (all:List Pkg)(cl:Clause)(m:Nat):Bool:=match all[m]? with
 |some q=>cl.any (di q)
 |none=>false
def dz (all:List Pkg)(cl:Clause)(n:Nat):List Nat:=(List.range n).filter (Tk all cl)
def BQ (all:List Pkg)(c:Nat×Nat×Nat):List Nat:=dz all (Lw all c) all.length
structure XV (all:List Pkg)(e:List (Nat×Nat×Nat))(S:Nat→Bool):Prop where
 name: ∀i k,k<i→i<all.length→MA all k=MA all i→S i=true→S k=true→False
 con: ∀c∈e,(c.2.1=3∨c.2.1=4)→ ∀m∈BQ all c,m≠c.1→S c.1=true→S m=true→False
 dep: ∀c∈e,(c.2.1=1∨c.2.1=2)→S c.1=true→ ∃m∈BQ all c,S m=true
end Go.Proofs.Tryz
end
section
namespace Go.Proofs.Tryz
open Go Go.Av
set_option maxRecDepth 10000
variable {W0 :World}
theorem jg {x y a b:AV}(h1:cT x y)(h2:cT a b):cT (.tup [x,a]) (.tup [y,b]):=.tup rfl λi u v hu hv=>by
 rcases i with _|_|i<;>simp at hu hv
 ·subst hu hv;exact h1
 ·subst hu hv;exact h2
end Go.Proofs.Tryz
end
