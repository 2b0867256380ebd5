/- Texts that the last one of this claim rests on: a layer over the guide's own conditions for code; contracts of the functions that the law reaches, one by one. No conditions beside those of the given rows. -/
import Derived.Lib.Bytealg
import Derived.Test.YtbooehmmhbioaaaGreatDoorWad
import Derived.Test.YtbooehmmhbioaaaGreatDoorWaf
import Derived.Test.YtbooehmmhbioaaaGreatDoorWag
set_option linter.unusedSimpArgs false
set_option linter.unusedVariables false
section
namespace Go.Av
open Go
def gy {α:Type}(q:α→Bool)(l:List α):Int:=match l.findIdx? q with|some i=>i|none=>-1
theorem fj {α:Type}{q:α→Bool}{l:List α}{i:Nat}{a:α}(h:l[i]?=some a)(hq:q a=true)(hn: ∀b∈l.take i,q b=false):gy q l=i:=by
 have:l.findIdx? q=some i:=by
  obtain⟨hi,he⟩:=List.getElem?_eq_some_iff.1 h
  refine List.findIdx?_eq_some_iff_getElem.2 ⟨hi,by rw[he];exact hq,λj hj=>?_⟩
  have:=hn l[j] (List.mem_of_getElem? (i:=j) (by rw[List.getElem?_take,if_pos hj];exact List.getElem?_eq_getElem (by omega)))
  simp[this]
 rw[gy,this]
theorem di {α:Type}{q:α→Bool}{l:List α}(hn: ∀b∈l,q b=false):gy q l= -1:=by
 have:l.findIdx? q=none:=List.findIdx?_eq_none_iff.2 hn
 rw[gy,this]
theorem iR {α:Type}{q:α→Bool}{l:List α}:decide (0≤gy q l)=l.any q:=by
 unfold gy
 cases h:l.findIdx? q with
 |none=>
  have:=List.findIdx?_eq_none_iff.1 h
  have e:l.any q=false:=by rw[List.any_eq_false];intro x hx;simp[this x hx]
  rw[e];rfl
 |some i=>
  obtain⟨hi,h1,_⟩:=List.findIdx?_eq_some_iff_getElem.1 h
  have e:l.any q=true:=List.any_eq_true.2 ⟨_,List.getElem_mem hi,h1⟩
  rw[e]
  simp
theorem bO {σ:ab}{id:Nat}{te:TypeId}{xs:List AV}(h:id<σ.length)(i:Nat)(path:List Nat):look (σ.set id (some (.cells te xs))) id i path=(xs[i]?).bind (·.at path):=by simp[look,h]
theorem au {σ:ab}{id:Nat}{te:TypeId}{xs:List AV}(h:σ[id]?=some (some (.cells te xs)))(i:Nat)(path:List Nat):look σ id i path=(xs[i]?).bind (·.at path):=by simp[look,h]
theorem c8 {σ:ab}{id:Nat}{te:TypeId}{xs:List AV}(h:id<σ.length)(i:Nat)(path:List Nat)(v:AV):df (σ.set id (some (.cells te xs))) id i path v=σ.set id (some (.cells te (xs.set i ((xs[i]?.getD .undef).setAt path v)))):=by simp[df,h]
theorem aP {σ:ab}{id:Nat}{te:TypeId}{xs:List AV}(h:σ[id]?=some (some (.cells te xs)))(i:Nat)(path:List Nat)(v:AV):df σ id i path v=σ.set id (some (.cells te (xs.set i ((xs[i]?.getD .undef).setAt path v)))):=by simp[df,h]
theorem gm {σ:ab}{id:Nat}{o:Option cV}(h:σ[id]?=some o):σ.set id o=σ:=by
 obtain⟨h1,h2⟩:=List.getElem?_eq_some_iff.1 h
 rw[←h2,List.set_getElem_self]
@[go_sem] theorem NB (t:TypeId)(fs:List AV)(k:Nat)(r:List Nat)(v:AV):(AV.agg t fs).setAt (k::r) v= .agg t (fs.set k ((fs[k]?.getD .undef).setAt r v)):=by
 cases h:fs[k]? with
 |none=>simp only[AV.setAt,h,Option.getD_none];rw[List.set_eq_of_length_le (List.getElem?_eq_none_iff.1 h)]
 |some y=>simp only[AV.setAt,h,Option.getD_some]
theorem al.go {P:Program}{W0:World}{A:aa}{g:FuncId}{caps us:List AV}{dst:Option Nat}{k:aa→Prop}{Q:AV→ab→Prop}{σ:ab}(hσ:A.st=σ)(h:aZ P W0 g (us++caps) σ Q)(hk: ∀r σ',Q r σ'→k ((A.put dst r).an σ')):al P W0 (.fn g caps) us dst A k .mk:=by
 subst hσ
 exact h.mono hk
theorem al.goes {P:Program}{W0:World}{A:aa}{g:FuncId}{us:List AV}{dst:Option Nat}{k:aa→Prop}{Q:AV→ab→Prop}{σ:ab}(hσ:A.st=σ)(h:aZ P W0 g us σ Q)(hk: ∀r σ',Q r σ'→k ((A.put dst r).an σ')):al P W0 (.fn g []) us dst A k .mk:=.go hσ (by simpa using h) hk
theorem al.reads {P:Program}{W0:World}{A:aa}{g:FuncId}{us:List AV}{dst:Option Nat}{k:aa→Prop}{r:AV}{σ:ab}(hσ:A.st=σ)(h:aZ P W0 g us σ λr' σ'=>r'=r∧σ'=σ)(hk:k (A.put dst r)):al P W0 (.fn g []) us dst A k .mk:=.goes hσ h λr' σ' ⟨h1,h2⟩=>by
 subst h1 h2 hσ
 rwa [nN]
theorem KP (c:UInt8):IntKind.u8.wrap (c.toNat:Int)=c.toNat:=by
 have:=c.toNat_lt
 show(c.toNat:Int) % 256=c.toNat
 omega
theorem BJ {c:UInt8}(h:c.toNat<128):xG (c.toNat:Int)=[c]:=by
 have hv:Utf8.valid (c.toNat:Int)=true:=by
  simp only[Utf8.valid]
  simp
  omega
 have e:Utf8.encode (c.toNat:Int)=⟨#[UInt8.ofNat c.toNat]⟩:=by
  unfold Utf8.encode
  rw[if_pos hv,if_pos (by simpa using h)]
  simp
 rw[xG,e]
 simp
def ft (a b:List UInt8):Int:=if Op.bytesLess a b=true then-1 else if a=b then 0 else 1
def orL :List Int→Int
 |[]=>0
 |x::r=>if x≠0 then x else orL r
theorem pE (s:List UInt8)(c:UInt8):Lib.indexByte s c=aL c s:=by
 induction s with
 |nil=>rfl
 |cons d r ih=>
  unfold Lib.indexByte
  cases h:d==c with
  |true=>simp[aL,List.findIdx?_cons,h]
  |false=>
   simp only[Bool.false_eq_true,if_false,ih]
   rcases gK c r with⟨h1,h2⟩|⟨i,h1,_,_⟩
   ·rw[h1]
    have:(d::r).findIdx? (· ==c)=none:=List.findIdx?_eq_none_iff.2 λx hx=>by
     rcases List.mem_cons.1 hx with rfl|hx
     ·exact h
     ·simp;intro e;subst e;exact h2 hx
    simp[aL,this]
   ·have hne:((aL c r)== -1)=false:=by rw[h1,beq_eq_false_iff_ne];omega
    rw[hne]
    simp only[Bool.false_eq_true,if_false]
    have hf:r.findIdx? (· ==c)=some i:=by
     unfold aL at h1
     split at h1
     ·rename_i j hj;rw[hj];congr 1;omega
     ·omega
    rw[h1]
    simp[aL,List.findIdx?_cons,h,hf]
theorem AH (s:List UInt8)(c:UInt8):decide (0≤aL c s)=s.contains c:=by
 rcases gK c s with⟨h1,h2⟩|⟨i,h1,h2,_⟩
 ·rw[h1];simp[h2]
 ·rw[h1]
  have:c∈s:=List.mem_of_getElem? h2
  simp[this]
def IG (c:UInt8)(s:List UInt8):List UInt8:=if 0≤aL c s then s.take (aL c s).toNat else s
def Gb (c:UInt8)(s:List UInt8):List UInt8:=if 0≤aL c s then s.drop ((aL c s).toNat+1)else []
def sn (c:UInt8)(s:List UInt8):AV:=.tup [.str (IG c s),.str (Gb c s),.bool (decide (0≤aL c s))]
theorem vL (c:UInt8)(s:List UInt8):aS 0 (sn c s):=by
 refine .tup λx hx=>?_
 simp at hx
 rcases hx with rfl|rfl|rfl<;>first|exact .str _|exact .bool _
end Go.Av
end
section
namespace Go.Proofs.Tryz
open Go Go.Av
set_option maxRecDepth 10000
variable {W0 :World}
def aQ (a:Atom):AV:=.agg 81 [.str a.name,.int .i64 a.rel,.str a.ver]
def aF (l:List Atom):AV:=.sl 81 (l.map aQ)
def aA (l:List Clause):AV:=.sl 72 (l.map aF)
def cX (p:gx):AV:=.agg 147 [.str p.name,.str p.ver]
def cm (l:List gx):AV:=.sl 147 (l.map cX)
def av (p:Pkg):AV:=.agg 54 [.str p.name,.str p.ver,aA p.pre,aA p.dep,aA p.rcm,aF p.con,aF p.brk,cm p.dY,.bool p.ess]
def aU (l:List Pkg):AV:=.sl 54 (l.map av)
theorem CP (s:List UInt8):ag prog W0 51 [.str s] (.bool (c9 s)):=by
 refine aj [2] [] func51 rfl rfl ntmps51 rfl rfl (.bool _) λhs σ=>?_
 have hsl:s.length≤maxLen:=cU (hs _ (by simp))
 simp only[go_sem,simprocAttr]
 refine VC.upto [] s.length (λi A=>A.env 0= .str s∧A.env 6= .int .i64 s.length∧A.env 7= .int .i64 i∧A.st=σ∧ ∀j c,j<i→s[j]?=some c→il j c=true) 0 (Nat.zero_le _) (.here ?_) λi A hi ⟨h0,h6,h7,hst,hI⟩=>?_
 ·simp only[go_sem,simprocAttr]
  all_goals simp
 simp only[go_sem,simprocAttr,h0,h6,h7,hst]
 refine⟨λhc=>⟨hc,al.fn (Ac _) ?_⟩,λhc=>?_⟩
 ·obtain⟨c,hc'⟩:=get_some hc
  simp only[go_sem,simprocAttr,h0,h6,h7,hst,hc']
  refine az.fnG (λ_=>fe _) ?_
  simp only[go_sem,simprocAttr,h0,h6,h7,hst,hc']
  refine⟨λhb=>ak ?_,λhb=>⟨hc,.here ?_⟩⟩
  ·have:il i c=false:=by simp[il]at hb ⊢;refine⟨hb.1,?_⟩;omega
   rw[c9,np hc' this,Bool.and_false]
  ·simp only[go_sem,simprocAttr,h0,h6,h7,hst]
   refine⟨ah hc hsl,λj d hj hd=>?_⟩
   rcases Nat.lt_succ_iff_lt_or_eq.1 hj with hj|rfl
   ·exact hI j d hj hd
   ·have e:d=c:=by rw[hd]at hc';exact Option.some.inj hc'
    subst e
    revert hb
    unfold il
    cases iB d<;>cases aI d<;>simp
    omega
 ·have:iS il 0 s=true:=jM.2 λj c hj=>by rw[Nat.zero_add];exact hI j c (by have:=(List.getElem?_eq_some_iff.1 hj).1;omega) hj
  refine ak ?_
  rw[c9,this,Bool.and_true]
  congr 1<;>exact decide_eq_decide.2 (by omega)
theorem Bc (rel:Int):(!(o7 rel==[]))=(decide (1≤rel)&&decide (rel≤5)):=by
 unfold o7
 by_cases h1:rel=1
 ·subst h1;rfl
 by_cases h2:rel=2
 ·subst h2;rfl
 by_cases h3:rel=3
 ·subst h3;rfl
 by_cases h4:rel=4
 ·subst h4;rfl
 by_cases h5:rel=5
 ·subst h5;rfl
 rw[if_neg h1,if_neg h2,if_neg h3,if_neg h4,if_neg h5]
 simp
 omega
theorem AG (a:Atom):ag prog W0 137 [aQ a] (.bool (bX a)):=by
 refine aj [2] [1] func137 rfl rfl ntmps137 rfl rfl (.bool _) λhs σ=>?_
 simp only[go_sem,simprocAttr,aQ]
 refine al.fn (CP a.name) ?_
 simp only[go_sem,simprocAttr,aQ]
 refine⟨λhn=>ak (by rw[bX,hn];rfl),λhn=>⟨λh0=>ak (by rw[bX,hn,if_pos h0];rfl),λh0=>al.fn (GH a.rel) ?_⟩⟩
 simp only[go_sem,simprocAttr,aQ]
 refine az.fnG (λ_=>Cd a.ver) ?_
 simp only[go_sem,simprocAttr,aQ]
 refine ak ?_
 rw[bX,hn,if_neg h0,Bool.true_and,Bc]
end Go.Proofs.Tryz
end
section
namespace Go.Proofs.Tryz
open Go Go.Av
set_option maxRecDepth 10000
variable {W0 :World}
theorem oq (c:UInt8):ag prog W0 200 [.int .u8 c.toNat] (.bool (aI c)):=by
 refine aj [2] [] func200 rfl rfl ntmps200 rfl rfl (.bool _) λ_ σ=>?_
 simp only[go_sem,simprocAttr]
 exact ak (by rw[aI];congr 1<;>exact decide_eq_decide.2 (by omega))
theorem vh (c:UInt8):ag prog W0 236 [.int .u8 c.toNat] (.bool (cE c)):=by
 refine aj [2] [] func236 rfl rfl ntmps236 rfl rfl (.bool _) λ_ σ=>?_
 simp only[go_sem,simprocAttr]
 refine ak ?_
 unfold cE iB
 congr 2<;>exact decide_eq_decide.2 (by omega)
theorem Bz (s:List UInt8):ag prog W0 198 [.str s] (.bool (decide (1≤s.length)&&decide (s.length≤9)&&s.all aI)):=by
 refine aj [2] [] func198 rfl rfl ntmps198 rfl rfl (.bool _) λhs σ=>?_
 simp only[go_sem,simprocAttr]
 refine⟨λh=>ak ?_,λh=>?_⟩
 ·cases s with
  |nil=>rfl
  |cons c r=>
   have: ¬((c::r).length≤9):=by simp at h ⊢;omega
   rw[decide_eq_false this];simp
 have hl:1≤s.length∧s.length≤9:=by cases s<;>simp at h ⊢;omega
 refine VC.cu [] (λk A=>∃ pos,A.env 13= .it σ.length∧A.st=σ++[some (.iter s pos)]∧k=s.length-pos∧pos≤s.length∧(s.take pos).all aI=true) s.length (.here ⟨0,?_⟩) λk A ⟨pos,h13,hst,hk,hp,hI⟩=>?_
 ·simp only[go_sem,simprocAttr]
  all_goals simp
 simp only[go_sem,simprocAttr,h13,hst]
 refine⟨λhlt=>?_,λhge=>?_⟩
 ·obtain⟨c,hc⟩:=get_some hlt
  simp only[Bool.or_eq_true,Bool.or_eq_false_iff,decide_eq_true_eq,decide_eq_false_iff_not]
  have bad:aI c=false→(decide (1≤s.length)&&decide (s.length≤9)&&s.all aI)=false:=λhd=>by rw[all_false hc hd,Bool.and_false]
  rcases Nat.lt_or_ge c.toNat 128 with h8|h8
  ·rw[lK hc h8]
   refine⟨λhb=>ak (bad ?_).symm,λhb=>.here (s.length-(pos+1)) (by omega) ⟨pos+1,?_⟩⟩
   ·simp[aI];omega
   ·simp only[go_sem,simprocAttr,h13,hst]
    exact⟨by omega,lB hI hc (by simp[aI];omega)⟩
  ·have:=qD hc h8
   refine⟨λhb=>ak (bad ?_).symm,λhb=>by omega⟩
   simp[aI];omega
 ·have:pos=s.length:=by omega
  rw[this,List.take_length]at hI
  refine ak ?_
  simp[hl,hI]
end Go.Proofs.Tryz
end
section
namespace Go.Proofs.Tryz
open Go Go.Av
set_option maxRecDepth 10000
variable {W0 :World}
theorem JV {α:Type}(enc:α→AV)(hp: ∀a,cQ (enc a))(l:List α)(q:α→Bool)(g:FuncId)(caps:List AV)(h: ∀a∈l,ag prog W0 g ([enc a]++caps) (.bool (q a))):
  ag prog W0 239 [.sl 81 (l.map enc),.fn g caps] (.int .i64 (gy q l)):=by
 refine aj [4] [] func239 rfl rfl ntmps239 rfl rfl (.int _ _) λhs σ=>?_
 have hl:=(aO (hs _ (List.mem_cons_self ..))).1
 simp only[go_sem,simprocAttr]
 refine af.upto [0,1,7] (.of (by kernel_rfl)) l.length (λi A=>A.env 8= .int .i64 i∧A.st=σ∧ ∀a∈l.take i,q a=false) 0 (Nat.zero_le _) ?_ λi B hi ⟨h8,hst,hI⟩=>?_
 ·simp only[go_sem,simprocAttr]
  all_goals simp
 simp only[go_sem,simprocAttr,h8,hst,List.length_map]
 refine⟨λhc=>⟨hc,?_⟩,λhc=>aq ?_⟩
 ·obtain⟨a,ha⟩:=get_some hc
  simp only[aw ha,bT (hp a),cw (hp a),true_and]
  refine al.pure (h a (List.mem_of_getElem? ha)) ?_
  simp only[go_sem,simprocAttr,h8,hst]
  refine⟨λhq=>aq (fj ha hq hI).symm,λhq=>⟨hc,ah hc hl,?_⟩⟩
  rw[ai ha]
  intro b hb
  rcases List.mem_append.1 hb with hb|hb
  ·exact hI b hb
  ·rw[List.mem_singleton.1 hb];exact hq
 ·rw[di]
  rwa [List.take_of_length_le hc]at hI
theorem Ol {α:Type}(enc:α→AV)(hp: ∀a,cQ (enc a))(l:List α)(q:α→Bool)(g:FuncId)(caps:List AV)(h: ∀a∈l,ag prog W0 g ([enc a]++caps) (.bool (q a))):
  ag prog W0 233 [.sl 81 (l.map enc),.fn g caps] (.int .i64 (gy q l)):=by
 refine aj [4] [] func233 rfl rfl ntmps233 rfl rfl (.int _ _) λhs σ=>?_
 have hl:=(aO (hs _ (List.mem_cons_self ..))).1
 simp only[go_sem,simprocAttr]
 refine af.upto [0,1,7] (.of (by kernel_rfl)) l.length (λi A=>A.env 8= .int .i64 i∧A.st=σ∧ ∀a∈l.take i,q a=false) 0 (Nat.zero_le _) ?_ λi B hi ⟨h8,hst,hI⟩=>?_
 ·simp only[go_sem,simprocAttr]
  all_goals simp
 simp only[go_sem,simprocAttr,h8,hst,List.length_map]
 refine⟨λhc=>⟨hc,?_⟩,λhc=>aq ?_⟩
 ·obtain⟨a,ha⟩:=get_some hc
  simp only[aw ha,bT (hp a),cw (hp a),true_and]
  refine al.pure (h a (List.mem_of_getElem? ha)) ?_
  simp only[go_sem,simprocAttr,h8,hst]
  refine⟨λhq=>aq (fj ha hq hI).symm,λhq=>⟨hc,ah hc hl,?_⟩⟩
  rw[ai ha]
  intro b hb
  rcases List.mem_append.1 hb with hb|hb
  ·exact hI b hb
  ·rw[List.mem_singleton.1 hb];exact hq
 ·rw[di]
  rwa [List.take_of_length_le hc]at hI
theorem Vw {α:Type}(enc:α→AV)(hp: ∀a,cQ (enc a))(l:List α)(q:α→Bool)(g:FuncId)(caps:List AV)(h: ∀a∈l,ag prog W0 g ([enc a]++caps) (.bool (q a))):
  ag prog W0 83 [.sl 54 (l.map enc),.fn g caps] (.int .i64 (gy q l)):=by
 refine aj [4] [] func83 rfl rfl ntmps83 rfl rfl (.int _ _) λhs σ=>?_
 have hl:=(aO (hs _ (List.mem_cons_self ..))).1
 simp only[go_sem,simprocAttr]
 refine af.upto [0,1,7] (.of (by kernel_rfl)) l.length (λi A=>A.env 8= .int .i64 i∧A.st=σ∧ ∀a∈l.take i,q a=false) 0 (Nat.zero_le _) ?_ λi B hi ⟨h8,hst,hI⟩=>?_
 ·simp only[go_sem,simprocAttr]
  all_goals simp
 simp only[go_sem,simprocAttr,h8,hst,List.length_map]
 refine⟨λhc=>⟨hc,?_⟩,λhc=>aq ?_⟩
 ·obtain⟨a,ha⟩:=get_some hc
  simp only[aw ha,bT (hp a),cw (hp a),true_and]
  refine al.pure (h a (List.mem_of_getElem? ha)) ?_
  simp only[go_sem,simprocAttr,h8,hst]
  refine⟨λhq=>aq (fj ha hq hI).symm,λhq=>⟨hc,ah hc hl,?_⟩⟩
  rw[ai ha]
  intro b hb
  rcases List.mem_append.1 hb with hb|hb
  ·exact hI b hb
  ·rw[List.mem_singleton.1 hb];exact hq
 ·rw[di]
  rwa [List.take_of_length_le hc]at hI
theorem Oq {α:Type}(enc:α→AV)(hp: ∀a,cQ (enc a))(l:List α)(q:α→Bool)(g:FuncId)(caps:List AV)(h: ∀a∈l,ag prog W0 g ([enc a]++caps) (.bool (q a))):
  ag prog W0 229 [.sl 147 (l.map enc),.fn g caps] (.int .i64 (gy q l)):=by
 refine aj [4] [] func229 rfl rfl ntmps229 rfl rfl (.int _ _) λhs σ=>?_
 have hl:=(aO (hs _ (List.mem_cons_self ..))).1
 simp only[go_sem,simprocAttr]
 refine af.upto [0,1,7] (.of (by kernel_rfl)) l.length (λi A=>A.env 8= .int .i64 i∧A.st=σ∧ ∀a∈l.take i,q a=false) 0 (Nat.zero_le _) ?_ λi B hi ⟨h8,hst,hI⟩=>?_
 ·simp only[go_sem,simprocAttr]
  all_goals simp
 simp only[go_sem,simprocAttr,h8,hst,List.length_map]
 refine⟨λhc=>⟨hc,?_⟩,λhc=>aq ?_⟩
 ·obtain⟨a,ha⟩:=get_some hc
  simp only[aw ha,bT (hp a),cw (hp a),true_and]
  refine al.pure (h a (List.mem_of_getElem? ha)) ?_
  simp only[go_sem,simprocAttr,h8,hst]
  refine⟨λhq=>aq (fj ha hq hI).symm,λhq=>⟨hc,ah hc hl,?_⟩⟩
  rw[ai ha]
  intro b hb
  rcases List.mem_append.1 hb with hb|hb
  ·exact hI b hb
  ·rw[List.mem_singleton.1 hb];exact hq
 ·rw[di]
  rwa [List.take_of_length_le hc]at hI
theorem Fx {α:Type}(enc:α→AV)(hp: ∀a,cQ (enc a))(l:List α)(q:α→Bool)(g:FuncId)(caps:List AV)(h: ∀a∈l,ag prog W0 g ([enc a]++caps) (.bool (q a))):
  ag prog W0 238 [.sl 72 (l.map enc),.fn g caps] (.int .i64 (gy q l)):=by
 refine aj [4] [] func238 rfl rfl ntmps238 rfl rfl (.int _ _) λhs σ=>?_
 have hl:=(aO (hs _ (List.mem_cons_self ..))).1
 simp only[go_sem,simprocAttr]
 refine af.upto [0,1,7] (.of (by kernel_rfl)) l.length (λi A=>A.env 8= .int .i64 i∧A.st=σ∧ ∀a∈l.take i,q a=false) 0 (Nat.zero_le _) ?_ λi B hi ⟨h8,hst,hI⟩=>?_
 ·simp only[go_sem,simprocAttr]
  all_goals simp
 simp only[go_sem,simprocAttr,h8,hst,List.length_map]
 refine⟨λhc=>⟨hc,?_⟩,λhc=>aq ?_⟩
 ·obtain⟨a,ha⟩:=get_some hc
  simp only[aw ha,bT (hp a),cw (hp a),true_and]
  refine al.pure (h a (List.mem_of_getElem? ha)) ?_
  simp only[go_sem,simprocAttr,h8,hst]
  refine⟨λhq=>aq (fj ha hq hI).symm,λhq=>⟨hc,ah hc hl,?_⟩⟩
  rw[ai ha]
  intro b hb
  rcases List.mem_append.1 hb with hb|hb
  ·exact hI b hb
  ·rw[List.mem_singleton.1 hb];exact hq
 ·rw[di]
  rwa [List.take_of_length_le hc]at hI
end Go.Proofs.Tryz
end
section
namespace Go.Proofs.Tryz
open Go Go.Av
set_option maxRecDepth 10000
variable {W0 :World}
theorem Kl {α:Type}(enc:α→AV)(hp: ∀a,cQ (enc a))(l:List α)(q:α→Bool)(g:FuncId)(caps:List AV)(h: ∀a∈l,ag prog W0 g ([enc a]++caps) (.bool (q a))):
  ag prog W0 203 [.sl 81 (l.map enc),.fn g caps] (.bool (l.any q)):=by
 refine aj [4] [] func203 rfl rfl ntmps203 rfl rfl (.bool _) λhs σ=>?_
 simp only[go_sem,simprocAttr]
 refine al.fn (JV enc hp l q g caps h) ?_
 simp only[go_sem,simprocAttr]
 exact ak iR
theorem Gs {α:Type}(enc:α→AV)(hp: ∀a,cQ (enc a))(l:List α)(q:α→Bool)(g:FuncId)(caps:List AV)(h: ∀a∈l,ag prog W0 g ([enc a]++caps) (.bool (q a))):
  ag prog W0 193 [.sl 81 (l.map enc),.fn g caps] (.bool (l.any q)):=by
 refine aj [4] [] func193 rfl rfl ntmps193 rfl rfl (.bool _) λhs σ=>?_
 simp only[go_sem,simprocAttr]
 refine al.fn (Ol enc hp l q g caps h) ?_
 simp only[go_sem,simprocAttr]
 exact ak iR
theorem Mk {α:Type}(enc:α→AV)(hp: ∀a,cQ (enc a))(l:List α)(q:α→Bool)(g:FuncId)(caps:List AV)(h: ∀a∈l,ag prog W0 g ([enc a]++caps) (.bool (q a))):
  ag prog W0 36 [.sl 54 (l.map enc),.fn g caps] (.bool (l.any q)):=by
 refine aj [4] [] func36 rfl rfl ntmps36 rfl rfl (.bool _) λhs σ=>?_
 simp only[go_sem,simprocAttr]
 refine al.fn (Vw enc hp l q g caps h) ?_
 simp only[go_sem,simprocAttr]
 exact ak iR
theorem NH {α:Type}(enc:α→AV)(hp: ∀a,cQ (enc a))(l:List α)(q:α→Bool)(g:FuncId)(caps:List AV)(h: ∀a∈l,ag prog W0 g ([enc a]++caps) (.bool (q a))):
  ag prog W0 182 [.sl 147 (l.map enc),.fn g caps] (.bool (l.any q)):=by
 refine aj [4] [] func182 rfl rfl ntmps182 rfl rfl (.bool _) λhs σ=>?_
 simp only[go_sem,simprocAttr]
 refine al.fn (Oq enc hp l q g caps h) ?_
 simp only[go_sem,simprocAttr]
 exact ak iR
theorem GN {α:Type}(enc:α→AV)(hp: ∀a,cQ (enc a))(l:List α)(q:α→Bool)(g:FuncId)(caps:List AV)(h: ∀a∈l,ag prog W0 g ([enc a]++caps) (.bool (q a))):
  ag prog W0 201 [.sl 72 (l.map enc),.fn g caps] (.bool (l.any q)):=by
 refine aj [4] [] func201 rfl rfl ntmps201 rfl rfl (.bool _) λhs σ=>?_
 simp only[go_sem,simprocAttr]
 refine al.fn (Fx enc hp l q g caps h) ?_
 simp only[go_sem,simprocAttr]
 exact ak iR
theorem M6 (l:List (List UInt8))(s:List UInt8):ag prog W0 205 [.sl 9 (l.map .str),.str s] (.int .i64 (gy (λx=>s==x) l)):=by
 refine aj [4] [] func205 rfl rfl ntmps205 rfl rfl (.int _ _) λhs σ=>?_
 have hl:=(aO (hs _ (List.mem_cons_self ..))).1
 simp only[go_sem,simprocAttr]
 refine af.upto [0,1,7] (.of (by kernel_rfl)) l.length (λi A=>A.env 8= .int .i64 i∧A.st=σ∧ ∀a∈l.take i,(s==a)=false) 0 (Nat.zero_le _) ?_ λi B hi ⟨h8,hst,hI⟩=>?_
 ·simp only[go_sem,simprocAttr]
  all_goals simp
 simp only[go_sem,simprocAttr,h8,hst,List.length_map]
 refine⟨λhc=>⟨hc,?_⟩,λhc=>aq ?_⟩
 ·obtain⟨a,ha⟩:=get_some hc
  simp only[aw ha]
  simp only[go_sem,simprocAttr,h8,hst]
  refine⟨λhq=>aq (fj (q:=λx=>s==x) ha (by simpa using hq) hI).symm,λhq=>⟨hc,ah hc hl,?_⟩⟩
  rw[ai ha]
  intro b hb
  rcases List.mem_append.1 hb with hb|hb
  ·simpa using hI b hb
  ·rw[List.mem_singleton.1 hb];simpa using hq
 ·rw[di]
  rwa [List.take_of_length_le hc]at hI
theorem NW (l:List (List UInt8))(s:List UInt8):ag prog W0 150 [.sl 9 (l.map .str),.str s] (.bool (l.any λx=>s==x)):=by
 refine aj [4] [] func150 rfl rfl ntmps150 rfl rfl (.bool _) λhs σ=>?_
 simp only[go_sem,simprocAttr]
 refine al.fn (M6 l s) ?_
 simp only[go_sem,simprocAttr]
 exact ak iR
theorem Gp (a:Int):ag prog W0 251 [.int .i64 a] (.bool false):=by
 refine aj [2] [] func251 rfl rfl ntmps251 rfl rfl (.bool _) λhs σ=>?_
 simp only[go_sem,simprocAttr]
 exact ak (by simp)
theorem Ff (a b:Int):ag prog W0 226 [.int .i64 a,.int .i64 b] (.int .i64 (sgn a b)):=by
 refine aj [4] [] func226 rfl rfl ntmps226 rfl rfl (.int _ _) λhs σ=>?_
 simp only[go_sem,simprocAttr]
 refine al.fn (Gp a) ?_
 simp only[go_sem,simprocAttr]
 refine al.fn (Gp b) ?_
 simp only[go_sem,simprocAttr]
 refine⟨λh=>aq (by simp[sgn,h]),λh=>⟨λh'=>aq (by simp[sgn,h'];omega),λh'=>aq (by rw[sgn,if_neg (by omega),if_neg (by omega)])⟩⟩
theorem Cs (s:List UInt8):ag prog W0 156 [.str s] (.bool false):=by
 refine aj [2] [] func156 rfl rfl ntmps156 rfl rfl (.bool _) λhs σ=>?_
 simp only[go_sem,simprocAttr]
theorem wM (a b:List UInt8):ag prog W0 95 [.str a,.str b] (.int .i64 (ft a b)):=by
 refine aj [4] [] func95 rfl rfl ntmps95 rfl rfl (.int _ _) λhs σ=>?_
 simp only[go_sem,simprocAttr]
 refine al.fn (Cs a) ?_
 simp only[go_sem,simprocAttr]
 refine al.fn (Cs b) ?_
 simp only[go_sem,simprocAttr]
 refine⟨λh=>aq (by simp[ft,h]),λh=>⟨λh'=>aq (by simp at h';simp[ft,h,h'.2]),λh'=>aq ?_⟩⟩
 rw[ft,h]
 simp at h' ⊢
 rcases h' with h'|h'
 ·rw[h]at h';cases h'
 ·exact h'
theorem Fe (l:List Int):ag prog W0 94 [.sl 3 (l.map (.int .i64))] (.int .i64 (orL l)):=by
 refine aj [2] [] func94 rfl rfl ntmps94 rfl rfl (.int _ _) λhs σ=>?_
 have hl:=(aO (hs _ (List.mem_cons_self ..))).1
 simp only[go_sem,simprocAttr]
 refine af.upto [3,6,7] (.of (by kernel_rfl)) l.length (λi A=>A.env 8= .int .i64 i∧A.st=σ∧orL (l.drop i)=orL l) 0 (Nat.zero_le _) ?_ λi B hi ⟨h8,hst,hI⟩=>?_
 ·simp only[go_sem,simprocAttr]
  all_goals simp
 simp only[go_sem,simprocAttr,h8,hst,List.length_map]
 refine⟨λhc=>⟨hc,?_⟩,λhc=>aq ?_⟩
 ·obtain⟨a,ha⟩:=get_some hc
  obtain⟨hlt,hae⟩:=List.getElem?_eq_some_iff.1 ha
  simp only[aw ha]
  simp only[go_sem,simprocAttr,h8,hst]
  rw[List.drop_eq_getElem_cons hlt,hae]at hI
  refine⟨λhq=>aq (by rw[←hI,orL,if_pos hq]),λhq=>⟨hc,ah hc hl,?_⟩⟩
  rw[←hI,orL,if_neg (by simpa using hq)]
 ·rw[List.drop_eq_nil_of_le hc]at hI
  exact hI
theorem xd (s:List UInt8)(c:UInt8):ag prog W0 277 [.str s,.int .u8 c.toNat] (.int .i64 (aL c s)):=by
 refine Ox (e:=Extern.BytealgIndexByte.indexByte) func277 (by kernel_rfl) (by kernel_rfl) (by kernel_rfl) (by kernel_rfl) λw C vs hl hv=>?_
 obtain⟨x,y,rfl⟩: ∃x y,vs=[x,y]:=by
  match vs,hl with
  |[x,y],_=>exact⟨x,y,rfl⟩
 obtain⟨hx,_⟩:=(hv 0 _ x rfl rfl).gN
 have hy:=(hv 1 _ y rfl rfl).cF
 subst hx hy
 refine⟨_,Lib.run_indexByteString _ _ w,?_⟩
 have e:Lib.indexByte s (c.toNat:Int).toNat.toUInt8=aL c s:=by rw[show(c.toNat:Int).toNat.toUInt8=c by simp];exact pE s c
 rw[show(ByteArray.mk s.toArray).data.toList=s from rfl,e]
 exact .one rfl (.int _ _)
theorem wB (s:List UInt8)(c:UInt8):ag prog W0 271 [.str s,.int .u8 c.toNat] (.int .i64 (aL c s)):=by
 refine aj [4] [] func271 rfl rfl ntmps271 rfl rfl (.int _ _) λhs σ=>?_
 simp only[go_sem,simprocAttr]
 refine al.fn (xd s c) ?_
 simp only[go_sem,simprocAttr]
theorem xE (s:List UInt8)(c:UInt8):ag prog W0 261 [.str s,.str [c]] (.int .i64 (aL c s)):=by
 refine aj [4] [] func261 rfl rfl ntmps261 rfl rfl (.int _ _) λhs σ=>?_
 simp only[go_sem,simprocAttr]
 refine⟨λh=>aq (by rw[←h];simp[aL,List.findIdx?_cons]),λh=>al.fn (wB s c) ?_⟩
 simp only[go_sem,simprocAttr]
theorem Hg (s:List UInt8)(c:UInt8):ag prog W0 262 [.str s,.str [c]] (.int .i64 (aL c s)):=by
 refine aj [4] [] func262 rfl rfl ntmps262 rfl rfl (.int _ _) λhs σ=>?_
 simp only[go_sem,simprocAttr]
 refine al.fn (xE s c) ?_
 simp only[go_sem,simprocAttr]
theorem yq (s:List UInt8)(c:UInt8):ag prog W0 237 [.str s,.str [c]] (.bool (s.contains c)):=by
 refine aj [4] [] func237 rfl rfl ntmps237 rfl rfl (.bool _) λhs σ=>?_
 simp only[go_sem,simprocAttr]
 refine al.fn (Hg s c) ?_
 simp only[go_sem,simprocAttr]
 exact ak (AH s c)
theorem MH (s:List UInt8)(c:UInt8):ag prog W0 234 [.str s,.str [c]] (sn c s):=by
 refine aj [4,5,6] [] func234 rfl rfl ntmps234 rfl rfl (vL c s) λhs σ=>?_
 have hl:s.length≤maxLen:=cU (hs _ (by simp))
 simp only[go_sem,simprocAttr]
 refine al.fn (xE s c) ?_
 simp only[go_sem,simprocAttr]
 refine⟨λh=>?_,λh=>?_⟩
 ·obtain⟨i,hi,hg,hlt⟩:=(gK c s).resolve_left (λe=>by rw[e.1]at h;simp at h)
  rw[hi]
  have hw:IntKind.i64.wrap ((i:Int)+1)=((i+1:Nat):Int):=iT hlt hl
  simp only[go_sem,simprocAttr,hw]
  refine⟨.of (by kernel_rfl),by omega,by omega,?_⟩
  rw[sn,IG,Gb,hi,if_pos (by omega),if_pos (by omega),Int.toNat_natCast,decide_eq_true (by omega)]
  exact .refl _
 ·have h:=h
  simp at h
  rw[sn,IG,Gb,if_neg (by omega),if_neg (by omega),decide_eq_false (by omega)]
  exact .refl _
theorem OE (s:List UInt8)(c:UInt8):ag prog W0 196 [.str s,.str [c]] (sn c s):=by
 refine aj [4,5,6] [] func196 rfl rfl ntmps196 rfl rfl (vL c s) λhs σ=>?_
 simp only[go_sem,simprocAttr]
 refine al.fn (MH s c) ?_
 simp only[go_sem,simprocAttr,sn]
theorem pX (s:List UInt8)(c:UInt8):ag prog W0 235 [.str s,.int .u8 c.toNat] (.int .i64 (lastOf c s)):=by
 refine aj [4] [] func235 rfl rfl ntmps235 rfl rfl (.int _ _) λhs σ=>?_
 have hsl:s.length≤9223372036854775807:=cU (hs _ (by simp))
 simp only[go_sem,simprocAttr]
 refine af.cu [0,1] (.of (by kernel_rfl)) (λk A=>A.env 5= .int .i64 ((k:Int)-1)∧A.st=σ∧k≤s.length∧lastOf c s=jk c s k) s.length ?_ λk B ⟨h5,hst,hk,hI⟩=>?_
 ·simp only[go_sem,simprocAttr]
  exact⟨by rw[aE (by omega)],rfl⟩
 simp only[go_sem,simprocAttr,h5,hst]
 refine⟨λhc=>?_,λhc=>?_⟩
 ·obtain⟨k,rfl⟩: ∃j,k=j+1:=⟨k-1,by omega⟩
  have e:(((k+1:Nat):Int)-1)=(k:Int):=by omega
  simp only[go_sem,simprocAttr,e]
  obtain⟨x,hx⟩:=get_some (show k<s.length by omega)
  simp only[hx,Option.getD_some]
  refine⟨by omega,λh=>aq ?_,λh=>.here k (by omega) ?_⟩
  ·rw[hI,jk,if_pos (by rw[hx];congr 1)]
  ·simp only[go_sem,simprocAttr,hst]
   refine⟨by rw[aE (by omega)],by omega,?_⟩
   rw[hI,jk,if_neg (by rw[hx];simpa using h)]
 ·have:k=0:=by omega
  subst this
  exact aq (by rw[hI];rfl)
theorem qH (s:List UInt8)(c:UInt8):ag prog W0 197 [.str s,.int .u8 c.toNat] (.int .i64 (lastOf c s)):=by
 refine aj [4] [] func197 rfl rfl ntmps197 rfl rfl (.int _ _) λhs σ=>?_
 simp only[go_sem,simprocAttr]
 refine al.fn (pX s c) ?_
 simp only[go_sem,simprocAttr]
theorem rB (s:List UInt8)(c:UInt8):ag prog W0 279 [.str s,.int .u8 c.toNat] (.str (s.dropWhile (· ==c))):=by
 refine aj [4] [] func279 rfl rfl ntmps279 rfl rfl (.str _) λhs σ=>?_
 simp only[go_sem,simprocAttr]
 refine af.cu [1] (.of (by kernel_rfl)) (λk A=>∃ x,A.env 0= .str x∧A.st=σ∧k=x.length∧x.dropWhile (· ==c)=s.dropWhile (· ==c)) s.length ⟨s,?_⟩ λk B ⟨x,h0,hst,hk,hI⟩=>?_
 ·simp only[go_sem,simprocAttr]
 cases x with
 |nil=>
  simp only[go_sem,simprocAttr,h0,hst]
  exact eZ hI
 |cons d r=>
  simp only[go_sem,simprocAttr,h0,hst]
  refine⟨λh=>.here r.length (by simp[hk]) ⟨r,?_⟩,λh=>eZ ?_⟩
  ·simp only[go_sem,simprocAttr,hst]
   rw[←hI,List.dropWhile_cons,if_pos (by have h:=h;simp at h ⊢;exact UInt8.toNat_inj.1 (by omega))]
  ·rw[←hI,List.dropWhile_cons,if_neg (by have h:=h;simp at h ⊢;intro e;subst e;exact h rfl)]
theorem zH (s:List UInt8)(c:UInt8)(hc:c.toNat<128):ag prog W0 275 [.str s,.str [c]] (.str (s.dropWhile (· ==c))):=by
 refine aj [4] [] func275 rfl rfl ntmps275 rfl rfl (.str _) λhs σ=>?_
 cases s with
 |nil=>simp only[go_sem,simprocAttr];exact .refl _
 |cons d r=>
  have hc':((c.toNat:Int)<128):=by omega
  simp only[go_sem,simprocAttr,hc']
  refine al.fn (rB (d::r) c) ?_
  simp only[go_sem,simprocAttr]
end Go.Proofs.Tryz
end
section
namespace Go.Av
def yT (c:UInt8):Int:=if c.toNat=126 then-1 else if cE c then c.toNat else c.toNat+256
def rkP :List UInt8→Int
 |[]=>0
 |c::_=>if aI c then 0 else yT c
theorem AN {c:UInt8}(h:cE c=true):65≤c.toNat∧c.toNat≤122:=by
 simp only[cE,iB,Bool.or_eq_true,Bool.and_eq_true,decide_eq_true_eq]at h
 omega
theorem mX (c:UInt8)(h:aI c=false):(rk [c]= -1∧rkP [c]= -1∧c.toNat=126)∨(rk [c]=1+c.toNat∧rkP [c]=c.toNat∧65≤c.toNat∧c.toNat≤122)∨(rk [c]=300+c.toNat∧rkP [c]=256+c.toNat∧True):=by
 simp only[rk,rkP,h,Bool.false_eq_true,if_false,rv,yT]
 by_cases h1:c.toNat=126
 ·left;simp[h1]
 ·right
  simp only[h1,if_false]
  cases h2:cE c with
  |true=>left;simp only[if_true,true_and];exact AN h2
  |false=>right;simp only[Bool.false_eq_true,if_false,true_and,and_true];omega
theorem Ct (a:List UInt8):(rk a=0∧rkP a=0)∨ ∃c r,a=c::r∧aI c=false∧rk a=rk [c]∧rkP a=rkP [c]:=by
 cases a with
 |nil=>exact .inl ⟨rfl,rfl⟩
 |cons c r=>
  cases h:aI c with
  |true=>left;simp[rk,rkP,h]
  |false=>right;exact⟨c,r,rfl,h,rfl,rfl⟩
theorem CL (a b:List UInt8):sgn (rkP a) (rkP b)=sgn (rk a) (rk b):=by
 have key:(rkP a<rkP b↔rk a<rk b)∧(rkP a>rkP b↔rk a>rk b):=by
  rcases Ct a with⟨a1,a2⟩|⟨c,r,_,hc,a1,a2⟩<;>rcases Ct b with⟨b1,b2⟩|⟨d,r',_,hd,b1,b2⟩
  ·rw[a1,a2,b1,b2];simp
  ·rcases mX d hd with h|h|h<;>rw[a1,a2,b1,b2,h.1,h.2.1]<;>omega
  ·rcases mX c hc with h|h|h<;>rw[a1,a2,b1,b2,h.1,h.2.1]<;>omega
  ·have hc8:=c.toNat_lt
   have hd8:=d.toNat_lt
   rcases mX c hc with h|h|h<;>rcases mX d hd with h'|h'|h'<;>rw[a1,a2,b1,b2,h.1,h.2.1,h'.1,h'.2.1]<;>omega
 unfold sgn
 simp only[key.1,key.2]
theorem zX {a b:Int}:sgn a b=0↔a=b:=⟨nB,λh=>by rw[h,mg]⟩
theorem AK (a b:List UInt8):rkP a=rkP b↔rk a=rk b:=by rw[←zX,CL,zX]
theorem tO (a:List UInt8):rkP a=0↔rk a=0:=AK a []
theorem zu {a:List UInt8}(h:rk a=0):bh a=a:=by
 cases a with
 |nil=>rfl
 |cons c r=>
  cases hd:aI c with
  |true=>simp[bh,hd]
  |false=>exact absurd h (by simp[rk,hd,HQ])
theorem tN {a:List UInt8}(h:rk a≠0):bh a.tail=bh a:=by
 obtain⟨c,r,rfl,hd⟩:=zZ h
 simp[bh,hd]
def eG (s:List UInt8):List UInt8:=(s.takeWhile aI).dropWhile (· ==48)
def ia (s:List UInt8):List UInt8:=s.dropWhile aI
theorem Ck :aI 48=true:=by decide
theorem mJ (s:List UInt8):eG s=(e8 s).take (bc (e8 s))∧ia s=(e8 s).drop (bc (e8 s)):=by
 have key: ∀s:List UInt8,s.takeWhile aI=s.take (bc s)∧s.dropWhile aI=s.drop (bc s):=λs=>by
  induction s with
  |nil=>exact⟨rfl,rfl⟩
  |cons c r ih=>
   cases h:aI c with
   |true=>
    have e:bc (c::r)=bc r+1:=by simp[bc,h]
    rw[e,List.takeWhile_cons,List.dropWhile_cons,if_pos h,if_pos h,List.take_succ_cons,List.drop_succ_cons,ih.1,ih.2]
    exact⟨rfl,rfl⟩
   |false=>
    have e:bc (c::r)=0:=by simp[bc,h]
    rw[e,List.takeWhile_cons,List.dropWhile_cons,h]
    exact⟨rfl,rfl⟩
 induction s with
 |nil=>exact⟨rfl,rfl⟩
 |cons c r ih=>
  by_cases h0:c=48
  ·subst h0
   have e1:e8 (48::r)=e8 r:=by simp[e8]
   rw[e1,←ih.1,←ih.2]
   refine⟨?_,?_⟩
   ·simp[eG,Ck]
   ·simp[ia,Ck]
  ·have e1:e8 (c::r)=c::r:=by simp[e8,h0]
   rw[e1,←(key (c::r)).1,←(key (c::r)).2]
   refine⟨?_,rfl⟩
   unfold eG
   cases h:aI c with
   |true=>simp[List.takeWhile_cons,h,h0]
   |false=>simp[List.takeWhile_cons,h]
theorem Aa (s:List UInt8):(s.take (bc s)).length=bc s:=by
 rw[List.length_take]
 have:=pz s
 omega
theorem yh : ∀(a b:List UInt8),a.length=b.length→ft a b=eW a b
 |[],[],_=>rfl
 |[],_::_,h=>by simp at h
 |_::_,[],h=>by simp at h
 |x::a,y::b,h=>by
  have ih:=yh a b (by simpa using h)
  unfold eW
  by_cases hxy:x=y
  ·subst hxy
   rw[if_pos rfl,←ih]
   simp[ft,Op.bytesLess]
  ·rw[if_neg hxy]
   have hne:x.toNat≠y.toNat:=λe=>hxy (UInt8.toNat_inj.1 e)
   have hb:(x==y)=false:=by simpa using hxy
   simp only[ft,Op.bytesLess,hb,Bool.false_and,Bool.or_false,List.cons.injEq,hxy,false_and,if_false,decide_eq_true_eq,UInt8.lt_iff_toNat_lt,sgn]
   by_cases hl:x.toNat<y.toNat
   ·rw[if_pos hl,if_pos (by omega)]
   ·rw[if_neg hl,if_neg (by omega),if_pos (by omega)]
def wJ (x y:List UInt8):Int:=if (eG x).length≠(eG y).length then sgn (eG x).length (eG y).length else ft (eG x) (eG y)
theorem zQ (s:List UInt8):(ia s).length≤s.length:=eQ s
theorem nA {a b:List UInt8}(h: ¬(a=[]∧b=[])):bb a b=if bM a b≠0 then bM a b else if wJ (bh a) (bh b)≠0 then wJ (bh a) (bh b)else bb (ia (bh a)) (ia (bh b)):=by
 rw[bb,dif_neg h]
 split
 ·rfl
 ·have ha:=mJ (bh a)
  have hb:=mJ (bh b)
  have la:(eG (bh a)).length=bc (aJ a):=by rw[ha.1];exact Aa _
  have lb:(eG (bh b)).length=bc (aJ b):=by rw[hb.1];exact Aa _
  have e1:(aJ a).take (bc (aJ a))=eG (bh a):=ha.1.symm
  have e2:(aJ b).take (bc (aJ b))=eG (bh b):=hb.1.symm
  have e3:(aJ a).drop (bc (aJ a))=ia (bh a):=ha.2.symm
  have e4:(aJ b).drop (bc (aJ b))=ia (bh b):=hb.2.symm
  rw[e1,e2,e3,e4,←la,←lb]
  by_cases hl:(eG (bh a)).length=(eG (bh b)).length
  ·have e:wJ (bh a) (bh b)=eW (eG (bh a)) (eG (bh b)):=by rw[wJ,if_neg (by simp[hl]),yh _ _ hl]
   rw[if_neg (by simp[hl]),e]
  ·have:sgn ((eG (bh a)).length:Int) (eG (bh b)).length≠0:=λe=>hl (by have:=nB e;omega)
   have e:wJ (bh a) (bh b)=sgn ((eG (bh a)).length:Int) (eG (bh b)).length:=by rw[wJ,if_pos hl]
   rw[if_pos (by simpa using hl),e,if_pos this]
theorem Bt {a b:List UInt8}(h: ¬(a=[]∧b=[])):(ia (bh a)).length+(ia (bh b)).length<a.length+b.length:=by
 rw[(mJ (bh a)).2,(mJ (bh b)).2]
 exact ua h
def eV :Option (List UInt8×List UInt8×List UInt8)→AV
 |none=>.tup [.str [],.str [],.str [],.int .i64 3]
 |some (e,u,r)=>.tup [.str e,.str u,.str r,.int .i64 0]
theorem Bg (v:Option (List UInt8×List UInt8×List UInt8)):aS 0 (eV v):=by
 cases v<;>refine .tup λx hx=>?_<;>simp at hx<;>rcases hx with rfl|rfl|rfl|rfl<;>first|exact .str _|exact .int _ _
def ofV (beside:List UInt8)(s:List UInt8):Bool:=s.all λc=>aI c||cE c||beside.contains c
theorem K6 (s:List UInt8):ofV [43,46,126] s=s.all qZ:=by
 unfold ofV
 congr 1
 funext c
 have h: ∀n:Nat,n<256→((c==(n.toUInt8))=((c.toNat:Int)==(n:Int))):=λn hn=>by
  rw[Bool.eq_iff_iff]
  simp only[beq_iff_eq]
  constructor
  ·intro e;subst e;simp[Nat.mod_eq_of_lt hn]
  ·intro e;apply UInt8.toNat_inj.1;simp[Nat.mod_eq_of_lt hn];omega
 have h1:=h 43 (by omega)
 have h2:=h 46 (by omega)
 have h3:=h 126 (by omega)
 simp only[List.contains_cons,List.contains_nil,Bool.or_false,qZ]
 rw[show(43:UInt8)=(43:Nat).toUInt8 from rfl,show(46:UInt8)=(46:Nat).toUInt8 from rfl,show(126:UInt8)=(126:Nat).toUInt8 from rfl,h1,h2,h3]
 cases aI c<;>cases cE c<;>simp[Bool.or_assoc]
theorem N2 (s:List UInt8):ofV [43,46,126,45,58] s=s.all yn:=by
 unfold ofV
 congr 1
 funext c
 have h: ∀n:Nat,n<256→((c==(n.toUInt8))=((c.toNat:Int)==(n:Int))):=λn hn=>by
  rw[Bool.eq_iff_iff]
  simp only[beq_iff_eq]
  constructor
  ·intro e;subst e;simp[Nat.mod_eq_of_lt hn]
  ·intro e;apply UInt8.toNat_inj.1;simp[Nat.mod_eq_of_lt hn];omega
 have h1:=h 43 (by omega)
 have h2:=h 46 (by omega)
 have h3:=h 126 (by omega)
 have h4:=h 45 (by omega)
 have h5:=h 58 (by omega)
 simp only[List.contains_cons,List.contains_nil,Bool.or_false,yn]
 rw[show(43:UInt8)=(43:Nat).toUInt8 from rfl,show(46:UInt8)=(46:Nat).toUInt8 from rfl,show(126:UInt8)=(126:Nat).toUInt8 from rfl,show(45:UInt8)=(45:Nat).toUInt8 from rfl,show(58:UInt8)=(58:Nat).toUInt8 from rfl,h1,h2,h3,h4,h5]
 cases aI c<;>cases cE c<;>simp[Bool.or_assoc]
theorem JU (s:List UInt8):eB s=if s.length=0∨48<s.length then none else
  (let et:=if 0≤aL 58 s then(s.take (aL 58 s).toNat,s.drop ((aL 58 s).toNat+1))else([48],s)
   match pc et.2 with
   |none=>none
   |some (u,r)=>if (decide (1≤et.1.length)&&decide (et.1.length≤9)&&et.1.all aI)&&ofV [43,46,126] r&&fo u&&ofV [43,46,126,45,58] u then some (et.1,u,r)else none):=by
 rw[eB]
 split
 ·rfl
 simp only[pU,K6,N2]
 by_cases hf:0≤aL 58 s
 ·simp only[hf,if_true]
  by_cases he:1≤(s.take (aL 58 s).toNat).length∧(s.take (aL 58 s).toNat).length≤9∧(s.take (aL 58 s).toNat).all aI=true
  ·simp only[he,and_self,if_true,decide_true,Bool.and_self,Bool.true_and]
   cases pc (s.drop ((aL 58 s).toNat+1))with
   |none=>rfl
   |some ur=>
    obtain⟨u,r⟩:=ur
    simp only[Bool.and_right_comm]
  ·rw[if_neg he]
   have hb:(decide (1≤(s.take (aL 58 s).toNat).length)&&decide ((s.take (aL 58 s).toNat).length≤9)&&(s.take (aL 58 s).toNat).all aI)=false:=by
    cases hx:(decide (1≤(s.take (aL 58 s).toNat).length)&&decide ((s.take (aL 58 s).toNat).length≤9)&&(s.take (aL 58 s).toNat).all aI)with
    |false=>rfl
    |true=>
     simp only[Bool.and_eq_true,decide_eq_true_eq]at hx
     exact absurd ⟨hx.1.1,hx.1.2,hx.2⟩ he
   simp only[hb,Bool.false_and,Bool.false_eq_true,if_false]
   cases pc (s.drop ((aL 58 s).toNat+1))with
   |none=>rfl
   |some ur=>rfl
 ·simp only[hf,if_false]
  have hb:(decide (1≤([48]:List UInt8).length)&&decide (([48]:List UInt8).length≤9)&&([48]:List UInt8).all aI)=true:=by decide
  simp only[hb,Bool.true_and]
  cases pc s with
  |none=>rfl
  |some ur=>
   obtain⟨u,r⟩:=ur
   simp only[Bool.and_right_comm]
end Go.Av
end
section
namespace Go.Proofs.Tryz
open Go Go.Av
set_option maxRecDepth 10000
variable {W0 :World}
theorem C6 (s:List UInt8):ag prog W0 264 [.str s] (.int .i64 (rkP s)):=by
 refine aj [2] [] func264 rfl rfl ntmps264 rfl rfl (.int _ _) λhs σ=>?_
 cases s with
 |nil=>
  simp only[go_sem,simprocAttr]
  refine az.fnG (λh=>by simp at h) (r:=.bool false) ?_
  simp only[go_sem,simprocAttr]
  exact .refl _
 |cons c r=>
  have h8:=c.toNat_lt
  simp only[go_sem,simprocAttr]
  refine az.fnG (λ_=>oq c) ?_
  simp only[go_sem,simprocAttr]
  refine⟨λh=>aq (by simp[rkP,h]),λh=>⟨λh'=>aq ?_,λh'=>al.fn (vh c) ?_⟩⟩
  ·have:c.toNat=126:=by omega
   simp[rkP,h,yT,this]
  simp only[go_sem,simprocAttr]
  have hn: ¬c.toNat=126:=by omega
  refine⟨λhl=>aq (by simp[rkP,h,yT,hn,hl]),λhl=>aq ?_⟩
  rw[aE (by omega)]
  simp[rkP,h,yT,hn,hl]
theorem vG (s:List UInt8):ag prog W0 265 [.str s] (.tup [.str (eG s),.str (ia s)]):=by
 refine aj [2,3] [] func265 rfl rfl ntmps265 rfl rfl (.tup (by intro x hx;simp at hx;rcases hx with rfl|rfl<;>exact .str _)) λhs σ=>?_
 have hsl:s.length≤maxLen:=cU (hs _ (by simp))
 simp only[go_sem,simprocAttr]
 refine af.at [0] (.of (by kernel_rfl)) (λA=>∃ i:Nat,A.env 4= .int .i64 i∧A.st=σ∧i=bc s) ?_ λB ⟨i,h4,hst,hi⟩=>?_
 ·refine af.upto [0] (.of (by kernel_rfl)) s.length (λi A=>A.env 4= .int .i64 i∧A.st=σ∧ ∀c∈s.take i,aI c=true) 0 (Nat.zero_le _) ?_ λi B hi ⟨h4,hst,hI⟩=>?_
  ·simp only[go_sem,simprocAttr]
   simp
  simp only[go_sem,simprocAttr,h4,hst]
  refine az.fnG (λ_=>oq _) ?_
  simp only[go_sem,simprocAttr,h4,hst]
  refine⟨λh=>?_,λh=>⟨i,rfl,?_⟩⟩
  ·obtain⟨c,hc,hd⟩:=E4.1 h
   have hlt:=(List.getElem?_eq_some_iff.1 hc).1
   refine⟨hlt,ah hlt hsl,λd hdm=>?_⟩
   rw[ai hc]at hdm
   rcases List.mem_append.1 hdm with hdm|hdm
   ·exact hI d hdm
   ·rw[List.mem_singleton.1 hdm];exact hd
  ·exact(B0 hi hI (zI.1 h)).symm
 simp only[go_sem,simprocAttr,h4,hst]
 subst hi
 have hle:=pz s
 refine⟨.of (by kernel_rfl),⟨Nat.zero_le _,hle⟩,?_⟩
 refine az.fn (zH _ 48 (by decide)) ?_
 simp only[go_sem,simprocAttr,h4,hst]
 refine⟨hle,?_⟩
 have key: ∀s:List UInt8,s.takeWhile aI=s.take (bc s)∧s.dropWhile aI=s.drop (bc s):=λs=>by
  induction s with
  |nil=>exact⟨rfl,rfl⟩
  |cons c r ih=>
   cases h:aI c with
   |true=>
    have e:bc (c::r)=bc r+1:=by simp[bc,h]
    rw[e,List.takeWhile_cons,List.dropWhile_cons,if_pos h,if_pos h,List.take_succ_cons,List.drop_succ_cons,ih.1,ih.2]
    exact⟨rfl,rfl⟩
   |false=>
    have e:bc (c::r)=0:=by simp[bc,h]
    rw[e,List.takeWhile_cons,List.dropWhile_cons,h]
    exact⟨rfl,rfl⟩
 rw[eG,ia,(key s).1,(key s).2]
 exact .refl _
abbrev jX (x y:List UInt8):Option cV:=some (.cells 269 [.agg 269 [.str x,.str y]])
theorem E5 (σ:ab)(id:Nat)(a b:List UInt8)(hid:σ[id]?=some (jX a b))(hal:a.length≤maxLen)(hbl:b.length≤maxLen):
  aZ prog W0 241 [.ptr 269 id 0 []] σ λr σ'=>r= .int .i64 (bM a b)∧ ∃x y,σ'=σ.set id (jX x y)∧(bM a b=0→x=bh a∧y=bh b):=by
 have hidl:id<σ.length:=(List.getElem?_eq_some_iff.1 hid).1
 refine cO [2] [] func241 rfl rfl ntmps241 rfl rfl λhs=>?_
 simp only[go_sem,simprocAttr]
 refine af.cu [0] (.of (by kernel_rfl)) (λk A=>∃ x y,A.st=σ.set id (jX x y)∧k=x.length+y.length∧bM x y=bM a b∧bh x=bh a∧bh y=bh b∧x.length≤maxLen∧y.length≤maxLen) (a.length+b.length) ⟨a,b,?_,rfl,rfl,rfl,rfl,hal,hbl⟩ λk B ⟨x,y,hst,hk,hI,hx,hy,hxl,hyl⟩=>?_
 ·simp only[go_sem,simprocAttr]
  exact(gm hid).symm
 simp only[go_sem,simprocAttr,hst,bO hidl]
 refine⟨.of (by kernel_rfl),az.fn (C6 x) ?_⟩
 simp only[go_sem,simprocAttr,hst,bO hidl]
 refine az.fn (C6 y) ?_
 simp only[go_sem,simprocAttr,hst,bO hidl]
 refine⟨λh=>al.fn (Ff _ _) ?_,λh=>⟨λh0=>bR.ret ?_,λh0=>?_⟩⟩
 ·simp only[go_sem,simprocAttr,hst,bO hidl]
  refine bR.ret ?_
  simp only[go_sem,simprocAttr,hst]
  have hne:rk x≠rk y:=λe=>h ((AK x y).2 e)
  refine⟨_,.refl _,by simp,by rw[←hI,dp hne,CL],x,y,rfl,λh0=>?_⟩
  rw[←hI,dp hne]at h0
  exact absurd (nB h0) hne
 ·simp only[go_sem,simprocAttr,hst]
  have hx0:=(tO x).1 h0
  have hy0:rk y=0:=by rw[←tO,←h];exact h0
  refine⟨_,.refl _,by simp,by rw[←hI,fw hx0 hy0],x,y,rfl,λ_=>⟨by rw[←hx,zu hx0],by rw[←hy,zu hy0]⟩⟩
 ·have hx0:rk x≠0:=λe=>h0 ((tO x).2 e)
  have hxy:rk x=rk y:=(AK x y).1 h
  have hy0:rk y≠0:=by rw[←hxy];exact hx0
  obtain⟨c,r,rfl,hc⟩:=zZ hx0
  obtain⟨d,r',rfl,hd⟩:=zZ hy0
  simp only[go_sem,simprocAttr,hst,bO hidl,c8 hidl]
  refine⟨.of (by kernel_rfl),.here (r.length+r'.length) (by simp[hk];omega) ⟨r,r',?_⟩⟩
  simp only[go_sem,simprocAttr,hst,bO hidl,c8 hidl]
  simp at hxl hyl
  exact⟨by rw[←hI,fx hx0 hxy];rfl,by rw[←hx];exact tN hx0,by rw[←hy];exact tN hy0,by omega,by omega⟩
theorem BY (σ:ab)(id:Nat)(a b:List UInt8)(hid:σ[id]?=some (jX a b)):
  aZ prog W0 242 [.ptr 269 id 0 []] σ λr σ'=>r= .int .i64 (wJ a b)∧σ'=σ.set id (jX (ia a) (ia b)):=by
 have hidl:id<σ.length:=(List.getElem?_eq_some_iff.1 hid).1
 refine cO [2] [] func242 rfl rfl ntmps242 rfl rfl λhs=>?_
 simp only[go_sem,simprocAttr,au hid]
 refine al.fn (vG a) ?_
 simp only[go_sem,simprocAttr,au hid]
 refine al.fn (vG b) ?_
 simp only[go_sem,simprocAttr,au hid,aP hid,bO hidl,c8 hidl]
 refine⟨λh=>al.fn (Ff _ _) ?_,λh=>al.fn (wM _ _) ?_⟩
 ·simp only[go_sem,simprocAttr]
  refine bR.ret ?_
  simp only[go_sem,simprocAttr]
  exact⟨_,.refl _,by simp,by rw[wJ,if_pos h]⟩
 ·simp only[go_sem,simprocAttr]
  refine bR.ret ?_
  simp only[go_sem,simprocAttr]
  exact⟨_,.refl _,by simp,by rw[wJ,if_neg (by simpa using h)]⟩
theorem wj (a b:List UInt8):ag prog W0 208 [.str a,.str b] (.int .i64 (bb a b)):=by
 refine aj [4] [] func208 rfl rfl ntmps208 rfl rfl (.int _ _) λhs σ=>?_
 have hal:a.length≤maxLen:=cU (hs (.str a) (by simp))
 have hbl:b.length≤maxLen:=cU (hs (.str b) (by simp))
 simp only[go_sem,simprocAttr]
 refine af.cu [5] (.of (by kernel_rfl)) (λk A=>∃ x y,A.st=σ++[jX x y]∧k=x.length+y.length∧bb x y=bb a b∧x.length≤maxLen∧y.length≤maxLen) (a.length+b.length) ⟨a,b,?_,rfl,rfl,hal,hbl⟩ λk B ⟨x,y,hst,hk,hI,hxl,hyl⟩=>?_
 ·simp only[go_sem,simprocAttr]
 simp only[go_sem,simprocAttr,hst]
 refine⟨λh=>?_,λh=>?_⟩
 case refine_2=>
  have:x=[]∧y=[]:=by cases x<;>cases y<;>simp at h ⊢
  exact aq (by rw[←hI,bb,dif_pos this])
 have hne: ¬(x=[]∧y=[]):=λ⟨e,e'⟩=>by subst e e';simp at h
 have hid:(σ++[jX x y])[σ.length]?=some (jX x y):=by simp
 refine al.goes (by simp only[go_sem,simprocAttr,hst]) (E5 _ σ.length x y hid hxl hyl) λr σ' ⟨hr,x',y',hσ,hz⟩=>?_
 subst hr hσ
 simp only[go_sem,simprocAttr,hst]
 refine⟨λh1=>aq ?_,λh1=>?_⟩
 ·rw[←hI,nA hne,if_pos h1]
 obtain⟨rfl,rfl⟩:=hz h1
 have hid:(σ++[jX (bh x) (bh y)])[σ.length]?=some (jX (bh x) (bh y)):=by simp
 refine al.goes (by simp only[go_sem,simprocAttr]) (BY _ σ.length _ _ hid) λr σ' ⟨hr,hσ⟩=>?_
 subst hr hσ
 simp only[go_sem,simprocAttr,hst]
 have l1:=zQ (bh x)
 have l2:=zQ (bh y)
 have l3:=eQ (p:=λc=>!aI c) x
 have l4:=eQ (p:=λc=>!aI c) y
 refine⟨λh2=>aq ?_,λh2=>.here ((ia (bh x)).length+(ia (bh y)).length) (by rw[hk];exact Bt hne) ⟨ia (bh x),ia (bh y),?_⟩⟩
 ·rw[←hI,nA hne,if_neg (by simp[h1]),if_pos h2]
 ·simp only[go_sem,simprocAttr]
  unfold bh at *
  exact⟨by rw[←hI,nA hne,if_neg (by simp[h1]),if_neg (by unfold bh;simp[h2])];rfl,by omega,by omega⟩
theorem L7 (beside s:List UInt8)(hbs: ∀c∈beside,c.toNat≤126):ag prog W0 199 [.str s,.str beside] (.bool (ofV beside s)):=by
 refine aj [4] [] func199 rfl rfl ntmps199 rfl rfl (.bool _) λhs σ=>?_
 simp only[go_sem,simprocAttr]
 refine af.cu [1,8] (.of (by kernel_rfl)) (λk A=>∃ pos,A.st=σ++[some (.iter s pos)]∧k=s.length-pos∧pos≤s.length∧ofV beside (s.take pos)=true) s.length ⟨0,?_⟩ λk B ⟨pos,hst,hk,hp,hI⟩=>?_
 ·simp only[go_sem,simprocAttr]
  simp[ofV]
 simp only[go_sem,simprocAttr,hst]
 refine⟨λhlt=>?_,λhge=>?_⟩
 ·obtain⟨c,hc⟩:=get_some hlt
  have bad:(aI c||cE c||beside.contains c)=false→ofV beside s=false:=λhd=>by
   unfold ofV;exact all_false hc hd
  rcases Nat.lt_or_ge c.toNat 128 with h8|h8
  ·rw[lK hc h8]
   have hcv:=KP c
   have hce:=BJ h8
   simp only[go_sem,simprocAttr,hcv,hce]
   refine az.fnG (λ_=>oq c) ?_
   simp only[go_sem,simprocAttr,hcv,hce]
   refine az.fnG (λ_=>vh c) ?_
   simp only[go_sem,simprocAttr,hcv,hce]
   refine az.fnG (λ_=>yq beside c) ?_
   simp only[go_sem,simprocAttr,hcv,hce]
   refine⟨λhb=>ak ?_,λhb=>.here (s.length-(pos+1)) (by omega) ⟨pos+1,?_⟩⟩
   ·refine(bad ?_).symm
    simp only[Bool.or_eq_true,decide_eq_true_eq,Bool.and_eq_true,Bool.not_eq_true']at hb
    rcases hb with hb|⟨⟨h1,h2⟩,h3⟩
    ·have h1:aI c=false:=by simp[aI];omega
     have h2:cE c=false:=by simp[cE,iB];omega
     have h3:beside.contains c=false:=by
      cases hx:beside.contains c with
      |false=>rfl
      |true=>have:=hbs c (by simpa using hx);omega
     simp only[h1,h2,h3,Bool.or_false]
    ·simp only[h1,h2,h3,Bool.or_false]
   ·simp only[go_sem,simprocAttr,hst]
    refine⟨by omega,lB hI hc ?_⟩
    simp at hb
    have hb2:=hb.2
    cases hd:aI c<;>cases hl:cE c<;>cases hx:beside.contains c<;>simp_all
  ·have:=qD hc h8
   have hd:decide ((126:Int)<((gu s pos).1:Int))=true:=decide_eq_true (by omega)
   simp only[go_sem,simprocAttr,hd]
   refine az.fnG (λh=>by simp at h) (r:=.bool false) ?_
   simp only[go_sem,simprocAttr,hd]
   refine az.fnG (λh=>by simp at h) (r:=.bool false) ?_
   simp only[go_sem,simprocAttr,hd]
   refine az.fnG (λh=>by simp at h) (r:=.bool false) ?_
   simp only[go_sem,simprocAttr,hd]
   refine ak (bad ?_).symm
   have h1:aI c=false:=by simp[aI];omega
   have h2:cE c=false:=by simp[cE,iB];omega
   have h3:beside.contains c=false:=by
    cases hx:beside.contains c with
    |false=>rfl
    |true=>have:=hbs c (by simpa using hx);omega
   simp only[h1,h2,h3,Bool.or_false]
 ·have:pos=s.length:=by omega
  rw[this,List.take_length]at hI
  exact ak hI.symm
theorem jm (s:List UInt8):ag prog W0 142 [.str s] (eV (eB s)):=by
 refine aj [2,3,4,5] [] func142 rfl rfl ntmps142 rfl rfl (Bg _) λhs σ=>?_
 have hsl:s.length≤maxLen:=cU (hs _ (by simp))
 have none_end:eB s=none→cT (AV.tup [.str [],.str [],.str [],.int .i64 3]) (eV (eB s)):=λe=>by rw[e];exact .refl _
 simp only[go_sem,simprocAttr]
 refine⟨λh=>none_end ?_,λh=>?_⟩
 ·have h':s.length=0∨48<s.length:=by
   simp only[Bool.or_eq_true,beq_iff_eq,decide_eq_true_eq]at h
   rcases h with h|h
   ·left;rw[h];rfl
   ·right;omega
  rw[eB,if_pos h']
 have hlen: ¬(s.length=0∨48<s.length):=by
  simp only[Bool.or_eq_false_iff,beq_eq_false_iff_ne,decide_eq_false_iff_not]at h
  rintro(h1|h1)
  ·exact h.1 (List.length_eq_zero_iff.1 h1)
  ·exact h.2 (by omega)
 refine al.fn (OE s 58) ?_
 simp only[go_sem,simprocAttr,sn]
 have hv: ∀e t:List UInt8,(e,t)=(if 0≤aL 58 s then(s.take (aL 58 s).toNat,s.drop ((aL 58 s).toNat+1))else([48],s))→eB s=(match pc t with
   |none=>none
   |some (u,r)=>if (decide (1≤e.length)&&decide (e.length≤9)&&e.all aI)&&ofV [43,46,126] r&&fo u&&ofV [43,46,126,45,58] u then some (e,u,r)else none):=λe t he=>by
  rw[JU,if_neg hlen,←he]<;>rfl
 refine cJ.at [4] (by kernel_rfl) (λA=>∃ e t,A.env 2= .str e∧A.env 6= .str t∧A.st=σ∧t.length≤s.length∧(e,t)=(if 0≤aL 58 s then(s.take (aL 58 s).toNat,s.drop ((aL 58 s).toNat+1))else([48],s))) (λhf=>?_) (λhf=>?_) λB ⟨e,t,h2,h6,hst,htl,het⟩=>?_
 ·have hf:0≤aL 58 s:=by simpa using hf
  simp only[go_sem,simprocAttr]
  exact⟨_,_,rfl,rfl,by rw[Gb,if_pos hf];simp,by rw[IG,Gb,if_pos hf,if_pos hf,if_pos hf]⟩
 ·have hf: ¬0≤aL 58 s:=by simpa using hf
  simp only[go_sem,simprocAttr]
  exact⟨_,_,rfl,rfl,Nat.le_refl _,by rw[if_neg hf]⟩
 have hv:=hv e t het
 simp only[go_sem,simprocAttr,h2,h6,hst]
 refine al.fn (qH t 45) ?_
 simp only[go_sem,simprocAttr,h2,h6,hst]
 refine cJ.at [] (by kernel_rfl) (λA=>∃ u r,pc t=some (u,r)∧A.env 2= .str e∧A.env 3= .str u∧A.env 4= .str r∧A.st=σ) (λhf=>?_) (λhf=>?_) λB ⟨u,r,hrv,h2,h3,h4,hst⟩=>?_
 ·obtain⟨i,hi,hgi,hlt⟩:=(oN 45 t).resolve_left (λe=>by rw[e.1]at hf;simp at hf)
  rw[hi]
  have hw:IntKind.i64.wrap ((i:Int)+1)=((i+1:Nat):Int):=iT hlt (by omega)
  have hrv:pc t=if t.drop (i+1)=[]then none else some (t.take i,t.drop (i+1)):=by
   rw[pc,hi,if_pos (by omega)];rfl
  simp only[go_sem,simprocAttr,hw,h2,h6,hst]
  refine⟨.of (by kernel_rfl),by omega,by omega,λhb=>none_end (by rw[hv];simp only[hrv,if_pos hb]),λhb=>⟨t.take i,t.drop (i+1),?_⟩⟩
  rw[hrv,if_neg hb]
  simp
 ·have hf': ¬(0≤lastOf 45 t):=by simpa using hf
  simp only[go_sem,simprocAttr,h2,h6,hst]
  exact⟨t,[],by simp[pc,hf']⟩
 rw[hrv]at hv
 simp only at hv
 simp only[go_sem,simprocAttr,h2,h3,h4,hst]
 refine al.fn (Bz e) ?_
 simp only[go_sem,simprocAttr,h2,h3,h4,hst]
 refine az.fnG (λ_=>L7 [43,46,126] r (by decide)) ?_
 simp only[go_sem,simprocAttr,h2,h3,h4,hst]
 have fin: ∀b:Bool,b=(!((decide (1≤e.length)&&decide (e.length≤9)&&e.all aI)&&ofV [43,46,126] r&&fo u&&ofV [43,46,126,45,58] u))→(b=true→eB s=none)∧(b=false→eB s=some (e,u,r)):=λb hb=>by
  rw[hv]
  refine⟨λh=>if_neg ?_,λh=>if_pos ?_⟩
  ·rw[h]at hb
   intro hc
   rw[hc]at hb
   cases hb
  ·rw[h]at hb
   cases hc:(decide (1≤e.length)&&decide (e.length≤9)&&e.all aI)&&ofV [43,46,126] r&&fo u&&ofV [43,46,126,45,58] u with
   |true=>rfl
   |false=>rw[hc]at hb;cases hb
 cases u with
 |nil=>
  simp only[go_sem,simprocAttr,h2,h3,h4,hst]
  refine az.fnG (λh=>by simp at h) (r:=.bool false) ?_
  simp only[go_sem,simprocAttr,h2,h3,h4,hst]
  refine az.fnG (λh=>by simp at h) (r:=.bool false) ?_
  simp only[go_sem,simprocAttr,h2,h3,h4,hst]
  exact none_end ((fin true (by simp[fo])).1 rfl)
 |cons c u'=>
  simp only[go_sem,simprocAttr,h2,h3,h4,hst]
  refine az.fnG (λ_=>oq c) ?_
  simp only[go_sem,simprocAttr,h2,h3,h4,hst]
  refine az.fnG (λ_=>L7 [43,46,126,45,58] (c::u') (by decide)) ?_
  simp only[go_sem,simprocAttr,h2,h3,h4,hst]
  refine⟨λh=>none_end ((fin _ ?_).1 h),λh=>?_⟩
  ·simp only[fo]
   cases (decide (1≤e.length)&&decide (e.length≤9)&&e.all aI)<;>cases ofV [43,46,126] r<;>cases aI c<;>cases ofV [43,46,126,45,58] (c::u')<;>rfl
  ·rw[(fin _ (by
    simp only[fo]
    cases (decide (1≤e.length)&&decide (e.length≤9)&&e.all aI)<;>cases ofV [43,46,126] r<;>cases aI c<;>cases ofV [43,46,126,45,58] (c::u')<;>rfl)).2 h]
   exact .refl _
end Go.Proofs.Tryz
end
section
namespace Go.Proofs.Tryz
open Go Go.Av
set_option maxRecDepth 10000
variable {W0 :World}
def oV (a b:List UInt8):AV:=.tup [.int .i64 (bA a b),.bool (bw a&&bw b)]
theorem DT (a b:List UInt8):aS 0 (oV a b):=by
 refine .tup λx hx=>?_
 simp at hx
 rcases hx with rfl|rfl
 ·exact .int _ _
 ·exact .bool _
theorem nY (a b:List UInt8):ag prog W0 157 [.str a,.str b] (oV a b):=by
 refine aj [4,5] [] func157 rfl rfl ntmps157 rfl rfl (DT _ _) λhs σ=>?_
 simp only[go_sem,simprocAttr]
 refine al.fn (jm a) ?_
 cases h:eB a with
 |none=>
  simp only[go_sem,simprocAttr,eV]
  refine al.fn (jm b) ?_
  cases h':eB b with
  |none=>simp only[go_sem,simprocAttr,eV];simp only[oV,bA,bw,h,h'];exact .refl _
  |some v=>obtain⟨f,v,t⟩:=v;simp only[go_sem,simprocAttr,eV];simp only[oV,bA,bw,h,h'];exact .refl _
 |some v=>
  obtain⟨e,u,r⟩:=v
  simp only[go_sem,simprocAttr,eV]
  refine al.fn (jm b) ?_
  cases h':eB b with
  |none=>simp only[go_sem,simprocAttr,eV];simp only[oV,bA,bw,h,h'];exact .refl _
  |some v=>
   obtain⟨f,v,t⟩:=v
   simp only[go_sem,simprocAttr,eV]
   refine al.fn (wj e f) ?_
   simp only[go_sem,simprocAttr]
   refine al.fn (wj u v) ?_
   simp only[go_sem,simprocAttr]
   refine al.fn (wj r t) ?_
   simp only[go_sem,simprocAttr]
   refine⟨by decide,al.fn ((Fe [bb e f,bb u v,bb r t]).cG (.cons (.lit _ _) .nil)) ?_⟩
   simp only[go_sem,simprocAttr]
   have:orL [bb e f,bb u v,bb r t]=bA a b:=by
    simp only[bA,h,h',orL]
    by_cases h1:bb e f=0
    ·by_cases h2:bb u v=0
     ·by_cases h3:bb r t=0
      ·simp[h1,h2,h3]
      ·simp[h1,h2,h3]
     ·simp[h1,h2]
    ·simp[h1]
   rw[this,oV]
   simp only[bw,h,h']
   exact .refl _
theorem oY (a b:List UInt8):ag prog W0 103 [.str a,.str b] (.bool (bm a b)):=by
 refine aj [4] [] func103 rfl rfl ntmps103 rfl rfl (.bool _) λhs σ=>?_
 simp only[go_sem,simprocAttr]
 refine al.fn (nY a b) ?_
 simp only[go_sem,simprocAttr,oV]
 exact ak (by rw[bm])
theorem z8 (rel:Int)(a b:List UInt8):ag prog W0 181 [.int .i64 rel,.str a,.str b] (.bool (kO rel a b)):=by
 refine aj [6] [] func181 rfl rfl ntmps181 rfl rfl (.bool _) λhs σ=>?_
 simp only[go_sem,simprocAttr]
 refine⟨λh0=>al.fn (jm a) ?_,λh0=>al.fn (nY a b) ?_⟩
 ·cases h:eB a with
  |none=>simp only[go_sem,simprocAttr,eV];exact ak (by rw[kO,if_pos h0,bw,h];rfl)
  |some v=>obtain⟨e,u,r⟩:=v;simp only[go_sem,simprocAttr,eV];exact ak (by rw[kO,if_pos h0,bw,h];rfl)
 simp only[go_sem,simprocAttr,oV]
 refine⟨λhb=>ak (by rw[kO,if_neg h0,hb];rfl),λhb=>?_⟩
 have hh:kO rel a b=(if rel=1 then decide (bA a b<0)else if rel=2 then decide (bA a b≤0)else if rel=3 then bA a b==0
   else if rel=4 then decide (0≤bA a b)else if rel=5 then decide (0<bA a b)else false):=by rw[kO,if_neg h0,if_pos hb]
 refine⟨λh1=>ak (by rw[hh,if_pos h1]),λh1=>⟨λh2=>ak (by rw[hh,if_neg h1,if_pos h2]),λh2=>⟨λh3=>ak (by rw[hh,if_neg h1,if_neg h2,if_pos h3]),λh3=>⟨λh4=>ak (by rw[hh,if_neg h1,if_neg h2,if_neg h3,if_pos h4]),λh4=>⟨λh5=>ak (by rw[hh,if_neg h1,if_neg h2,if_neg h3,if_neg h4,if_pos h5]),λh5=>ak (by rw[hh,if_neg h1,if_neg h2,if_neg h3,if_neg h4,if_neg h5])⟩⟩⟩⟩⟩
theorem wv (s:List UInt8):ag prog W0 143 [.str s] (.bool (c9 s)):=by
 refine aj [2] [] func143 rfl rfl ntmps143 rfl rfl (.bool _) λhs σ=>?_
 have hsl:s.length≤maxLen:=cU (hs _ (by simp))
 simp only[go_sem,simprocAttr]
 refine⟨λh=>ak ?_,λh=>?_⟩
 ·have:(decide (2≤s.length)&&decide (s.length≤24))=false:=by
   simp only[Bool.or_eq_true,decide_eq_true_eq]at h
   simp only[Bool.and_eq_false_iff,decide_eq_false_iff_not]
   omega
  rw[c9,this];rfl
 have hlen:(decide (2≤s.length)&&decide (s.length≤24))=true:=by
  simp only[Bool.or_eq_false_iff,decide_eq_false_iff_not]at h
  simp only[Bool.and_eq_true,decide_eq_true_eq]
  omega
 refine af.cu [15] (.of (by kernel_rfl)) (λk A=>∃ pos,A.st=σ++[some (.iter s pos)]∧k=s.length-pos∧pos≤s.length∧ ∀j c,j<pos→s[j]?=some c→il j c=true) s.length ⟨0,?_⟩ λk B ⟨pos,hst,hk,hp,hI⟩=>?_
 ·simp only[go_sem,simprocAttr]
  simp
 simp only[go_sem,simprocAttr,hst]
 refine⟨λhlt=>?_,λhge=>?_⟩
 ·obtain⟨c,hc⟩:=get_some hlt
  have bad:il pos c=false→c9 s=false:=λhd=>by
   rw[c9,np hc hd,Bool.and_false]
  rcases Nat.lt_or_ge c.toNat 128 with h8|h8
  ·rw[lK hc h8]
   simp only[go_sem,simprocAttr]
   refine⟨λhb=>ak ?_,λhb=>.here (s.length-(pos+1)) (by omega) ⟨pos+1,?_⟩⟩
   ·refine(bad ?_).symm
    revert hb
    simp only[il,iB,aI]
    simp
    omega
   ·simp only[go_sem,simprocAttr,hst]
    refine⟨by omega,λj d hj hd=>?_⟩
    rcases Nat.lt_succ_iff_lt_or_eq.1 hj with hj|rfl
    ·exact hI j d hj hd
    ·have e:d=c:=by rw[hd]at hc;exact Option.some.inj hc
     subst e
     revert hb
     simp only[il,iB,aI]
     simp
     omega
  ·have:=qD hc h8
   refine⟨λhb=>ak (bad ?_).symm,λhb=>?_⟩
   ·simp only[il,iB,aI]
    simp
    omega
   ·simp at hb
    omega
 ·have:pos=s.length:=by omega
  have:iS il 0 s=true:=jM.2 λj c hj=>by rw[Nat.zero_add];exact hI j c (by have:=(List.getElem?_eq_some_iff.1 hj).1;omega) hj
  exact ak (by rw[c9,this,hlen];rfl)
theorem tn (a:Atom):ag prog W0 180 [aQ a] (.bool (bX a)):=by
 refine aj [2] [1] func180 rfl rfl ntmps180 rfl rfl (.bool _) λhs σ=>?_
 simp only[go_sem,simprocAttr,aQ]
 refine al.fn (wv a.name) ?_
 simp only[go_sem,simprocAttr,aQ]
 have low:(!c9 a.name||decide (a.rel<0)||decide (5<a.rel))=true→bX a=false:=λh=>by
  unfold bX
  cases hn:c9 a.name with
  |false=>rfl
  |true=>
   rw[hn]at h
   simp only[Bool.not_true,Bool.false_or,Bool.or_eq_true,decide_eq_true_eq]at h
   rw[if_neg (by omega)]
   have:(decide (1≤a.rel)&&decide (a.rel≤5))=false:=by
    simp only[Bool.and_eq_false_iff,decide_eq_false_iff_not];omega
   rw[this];rfl
 have high:(!c9 a.name||decide (a.rel<0)||decide (5<a.rel))=false→bX a=if a.rel=0 then a.ver==[]else bw a.ver:=λh=>by
  simp only[Bool.or_eq_false_iff,Bool.not_eq_false',decide_eq_false_iff_not]at h
  rw[bX,h.1.1,Bool.true_and]
  split
  ·rfl
  ·have h1:decide (1≤a.rel)=true:=decide_eq_true (by omega)
   have h2:decide (a.rel≤5)=true:=decide_eq_true (by omega)
   rw[h1,h2];rfl
 refine⟨λh=>ak (low h).symm,λh=>⟨λh0=>ak (by rw[high h,if_pos h0]),λh0=>al.fn (jm a.ver) ?_⟩⟩
 have hm:=high h
 rw[if_neg h0]at hm
 cases h:eB a.ver with
 |none=>simp only[go_sem,simprocAttr,eV];exact ak (by rw[hm,bw,h];rfl)
 |some v=>obtain⟨e,u,r⟩:=v;simp only[go_sem,simprocAttr,eV];exact ak (by rw[hm,bw,h];rfl)
end Go.Proofs.Tryz
end
section
namespace Go.Av
structure aR (σ st:ab)(v:AV)(e:TypeId)(xs:List AV):Prop where
 bld:Bld st v e xs
 ext:Ext σ st
 tok: ∀t,eR v=some t→σ.length≤t
theorem aR.nil {σ st:ab}(h:Ext σ st)(e:TypeId):aR σ st .ay e []:=⟨.inl ⟨rfl,rfl⟩,h,λt h=>by cases h⟩
theorem aR.app {σ st st':ab}{v v':AV}{e:TypeId}{xs zs:List AV}(h:aR σ st v e xs)(ha:App st v e zs v' st'):aR σ st' v' e zs:=by
 have hl:=h.ext.le
 refine⟨ha.bld,?_,λt ht=>?_⟩
 ·have hl':=ha.len
  refine List.ext_getElem? λi=>?_
  rw[List.getElem?_take]
  by_cases hi:i<σ.length
  ·rw[if_pos hi,ha.old i (by omega) (λe=>by have:=h.tok i e;omega)]
   have e:=congrArg (·[i]?) h.ext
   simpa[List.getElem?_take,hi]using e
  ·rw[if_neg hi,List.getElem?_eq_none (by omega)]
 ·rcases ha.tok with e|⟨u,e,hu⟩
  ·exact h.tok t (by rw[←e];exact ht)
  ·rw[e]at ht;cases ht;omega
theorem aR.more {σ st:ab}{v:AV}{e:TypeId}{xs:List AV}(h:aR σ st v e xs)(l:ab):aR σ (st++l) v e xs:=by
 refine⟨?_,h.ext.app l,h.tok⟩
 rcases h.bld with h1|h1|⟨t,h1,h2⟩
 ·exact .inl h1
 ·exact .inr (.inl h1)
 ·exact .inr (.inr ⟨t,h1,by rw[List.getElem?_append_left ((List.getElem?_eq_some_iff.1 h2).1)];exact h2⟩)
theorem aR.cG {σ st:ab}{v:AV}{e:TypeId}{xs:List AV}(h:aR σ st v e xs):cT v (.sl e xs):=by
 rcases h.bld with⟨rfl,rfl⟩|rfl|⟨t,rfl,_⟩
 ·exact .ay _
 ·exact .lit _ _
 ·exact .own _ _ _
theorem Ext.eq {σ st:ab}(h:Ext σ st):st=σ++st.drop σ.length:=by
 have:=List.take_append_drop σ.length st
 rw[h]at this
 exact this.symm
theorem Ext.trans {σ st st':ab}(h:Ext σ st)(h':Ext st st'):Ext σ st':=by
 rw[h'.eq];exact h.app _
theorem aR.on {σ st st':ab}{v:AV}{e:TypeId}{xs:List AV}(h:aR σ st v e xs)(h':Ext st st'):aR σ st' v e xs:=by
 rw[h'.eq];exact h.more _
theorem aR.len {σ st:ab}{v:AV}{e:TypeId}{xs:List AV}(h:aR σ st v e xs):lV v= .int .i64 xs.length:=by
 rcases h.bld with⟨rfl,rfl⟩|rfl|⟨t,rfl,_⟩<;>rfl
theorem aR.fQ {σ st:ab}{v:AV}{e:TypeId}{xs:List AV}(h:aR σ st v e xs)(P:Program)(t:TypeId):fQ P t v=((elT P t).isSome=true):=by
 rcases h.bld with⟨rfl,rfl⟩|rfl|⟨t,rfl,_⟩<;>rfl
theorem aR.notM {σ st:ab}{v:AV}{e:TypeId}{xs:List AV}(h:aR σ st v e xs):cQ v:=by
 rcases h.bld with⟨rfl,rfl⟩|rfl|⟨t,rfl,_⟩<;>trivial
theorem aR.ok {σ st:ab}{v:AV}{e:TypeId}{xs:List AV}(h:aR σ st v e xs)(g:Option Bool):okM g v=True:=bT h.notM
theorem aR.un {σ st:ab}{v:AV}{e:TypeId}{xs:List AV}(h:aR σ st v e xs):unm v=v:=cw h.notM
attribute [go_sem] List.range'_succ List.range'_zero
theorem Sub.S6 {α:Type}{f g:α→AV}{e:TypeId}(l:List α)(h: ∀a∈l,Sub (f a) (g a)):Sub (.sl e (l.map f)) (.sl e (l.map g)):=by
 refine .sls (by simp) λi x y hx hy=>?_
 rw[List.getElem?_map,Option.map_eq_some_iff]at hx hy
 obtain⟨a,ha,rfl⟩:=hx
 obtain⟨b,hb,rfl⟩:=hy
 rw[ha]at hb
 cases hb
 exact h a (List.mem_of_getElem? ha)
theorem eY.sl (st:ab)(e:TypeId)(ys:List AV):eY st (.sl e ys) e ys:=.inl rfl
theorem eY.lit (st:ab)(e:TypeId)(ys:List AV):eY st (.lit e ys) e ys:=.inl rfl
theorem af.ats {P:Program}{W0:World}{n:Nat}{fz:List Nat}{A:aa}{c:Code}{id:Nat}{Q:Exit→aa→Prop}(ks:List Nat)(hks:Kept fz c .mk ks)(R:aa→Prop)(h:af P W0 n fz c .mk (dA id (bW R Q)) .mk A)(hR: ∀B,R B→Q .normal (ey ks A B)):af P W0 n fz c .mk (dA id Q) .mk A:=by
 have e:dA id (bW (Q .normal) Q)=dA id Q:=by
  funext e A
  cases e<;>rfl
 rw[←e]
 exact .at ks hks R h hR
def cj (l:List Clause):Int:=
 if 12<l.length∨l.any (λc=>decide (6<c.length))=true then 12 else if l.any (λc=>decide (c.length=0)||c.any λa=>!bX a)=true then 3 else 0
def single (l:List Atom):List Clause:=l.map λa=>[a]
def bG (p:gx):Atom:=⟨p.name,if p.ver=[]then 0 else 3,p.ver⟩
def aW (p:Pkg):Int:=if (!c9 p.name|| !bw p.ver)=true then 3 else orL [cj p.pre,cj p.dep,cj p.rcm,cj (single p.con),cj (single p.brk),cj (single (p.dY.map bG))]
def de :List Pkg→List (List UInt8)→List (List UInt8)
 |[],acc=>acc
 |p::r,acc=>de r (if acc.any (λx=>p.name==x)then acc else acc++[p.name])
def dc (p q:Pkg):Bool:=q.name==p.name&&bm q.ver p.ver
def ng :List Pkg→List Pkg→Bool
 |_,[]=>false
 |bef,p::r=>bef.any (dc p)||ng (bef++[p]) r
def bk (l:List Pkg):Int:=
 if 24<l.length then 12 else if orL (l.map aW)≠0 then orL (l.map aW)else if ng [] l=true then 4 else if 10<(de l []).length then 12 else 0
end Go.Av
end
section
namespace Go.Proofs.Tryz
open Go Go.Av
set_option maxRecDepth 10000
variable {W0 :World}
def jF (a:Atom):AV:=.lit 81 [aQ a]
theorem cQ.atom (a:Atom):cQ (aQ a):=trivial
theorem cQ.atoms (l:List Atom):cQ (aF l):=trivial
@[go_sem] theorem Le (g:Option Bool)(l:List Atom):okM g (aF l)=True:=eq_true trivial
@[go_sem] theorem Ls (l:List Atom):unm (aF l)=aF l:=rfl
@[go_sem] theorem It (P:Program)(t:TypeId)(l:List Atom):bn P t (aF l)=cD P t:=rfl
@[go_sem] theorem Ie (g:Option Bool)(l:List Clause):okM g (aA l)=True:=eq_true trivial
@[go_sem] theorem Iu (l:List Clause):unm (aA l)=aA l:=rfl
@[go_sem] theorem EG (P:Program)(t:TypeId)(l:List Clause):bn P t (aA l)=cD P t:=rfl
@[go_sem] theorem Lm (g:Option Bool)(l:List gx):okM g (cm l)=True:=eq_true trivial
@[go_sem] theorem Mh (l:List gx):unm (cm l)=cm l:=rfl
@[go_sem] theorem Ic (P:Program)(t:TypeId)(l:List gx):bn P t (cm l)=cD P t:=rfl
@[go_sem] theorem Mz (g:Option Bool)(l:List Pkg):okM g (aU l)=True:=eq_true trivial
@[go_sem] theorem NA (l:List Pkg):unm (aU l)=aU l:=rfl
@[go_sem] theorem Jy (P:Program)(t:TypeId)(l:List Pkg):bn P t (aU l)=cD P t:=rfl
theorem iY (l:List Atom):Sub (.sl 72 (l.map jF)) (aA (single l)):=by
 rw[aA,single,List.map_map]
 exact .S6 l λa _=>.lit _ _
theorem gO {α:Type}{f:α→AV}{e:TypeId}(h: ∀a,aS 0 (f a))(l:List α):aS 0 (.sl e (l.map f)):=.sl λx hx=>by
 obtain⟨a,_,rfl⟩:=List.mem_map.1 hx
 exact h a
theorem pj (a:Atom):aS 0 (aQ a):=.agg λx hx=>by
 simp at hx
 rcases hx with rfl|rfl|rfl
 ·exact .str _
 ·exact .int _ _
 ·exact .str _
theorem mI (l:List Atom):aS 0 (aF l):=gO pj l
theorem dz (l:List Clause):aS 0 (aA l):=gO mI l
theorem tj (a:gx):aS 0 (cX a):=.agg λx hx=>by
 simp at hx
 rcases hx with rfl|rfl<;>exact .str _
theorem DB (l:List gx):aS 0 (cm l):=gO tj l
theorem rY (p:Pkg):aS 0 (av p):=.agg λx hx=>by
 simp at hx
 rcases hx with rfl|rfl|rfl|rfl|rfl|rfl|rfl|rfl|rfl
 ·exact .str _
 ·exact .str _
 ·exact dz _
 ·exact dz _
 ·exact dz _
 ·exact mI _
 ·exact mI _
 ·exact DB _
 ·exact .bool _
theorem kh (l:List Pkg):aS 0 (aU l):=gO rY l
theorem sq (l:List Atom)(hl:l.length≤1048576):ag prog W0 144 [aF l] (aA (single l)):=by
 refine aj [2] [5] func144 rfl rfl ntmps144 rfl rfl (dz _) λhs σ=>?_
 simp only[go_sem,simprocAttr,aF]
 refine af.at [6,7] (.of (by kernel_rfl)) (λA=>∃ v,A.env 3=v∧aR σ A.st v 72 (l.map jF)) ?_ λB ⟨v,h3,hb⟩=>?_
 ·refine af.upto [6,7] (.of (by kernel_rfl)) l.length (λi A=>∃ v,A.env 3=v∧A.env 8= .int .i64 i∧aR σ A.st v 72 ((l.take i).map jF)) 0 (Nat.zero_le _) ?_ λi B hi ⟨v,h3,h8,hb⟩=>?_
  ·simp only[go_sem,simprocAttr]
   exact⟨_,rfl,aR.nil (.refl _) _⟩
  simp only[go_sem,simprocAttr,h3,h8,hb.ok,hb.un,List.length_map]
  refine⟨λhc=>⟨hc,?_⟩,λhc=>?_⟩
  ·obtain⟨a,ha⟩:=get_some hc
   simp only[aw ha]
   simp only[go_sem,simprocAttr,aQ,h3,h8,hb.ok,hb.un]
   refine bN.own 1048576 (by kernel_rfl) (hb.more _).bld (.lit _ _ _) (by simp;omega) λv' σ' ha'=>?_
   have hb':=(hb.more _).app ha'
   simp only[go_sem,simprocAttr,h3,h8,hb.ok,hb.un,hb'.ok,hb'.un]
   refine⟨hc,_,rfl,ah hc (by rw[ar];omega),?_⟩
   rw[ai ha,List.map_append]
   exact hb'
  ·rw[List.take_of_length_le hc]at hb
   exact⟨_,rfl,hb⟩
 simp only[go_sem,simprocAttr,h3,hb.ok,hb.un]
 exact⟨hb.cG.trans (.sub (iY l)),hb.ext⟩
theorem nR (l:List Atom)(hl:l.length≤1048576):ag prog W0 123 [aF l] (aA (single l)):=by
 refine aj [2] [5] func123 rfl rfl ntmps123 rfl rfl (dz _) λhs σ=>?_
 simp only[go_sem,simprocAttr,aF]
 refine af.at [6,7] (.of (by kernel_rfl)) (λA=>∃ v,A.env 3=v∧aR σ A.st v 72 (l.map jF)) ?_ λB ⟨v,h3,hb⟩=>?_
 ·refine af.upto [6,7] (.of (by kernel_rfl)) l.length (λi A=>∃ v,A.env 3=v∧A.env 8= .int .i64 i∧aR σ A.st v 72 ((l.take i).map jF)) 0 (Nat.zero_le _) ?_ λi B hi ⟨v,h3,h8,hb⟩=>?_
  ·simp only[go_sem,simprocAttr]
   exact⟨_,rfl,aR.nil (.refl _) _⟩
  simp only[go_sem,simprocAttr,h3,h8,hb.ok,hb.un,List.length_map]
  refine⟨λhc=>⟨hc,?_⟩,λhc=>?_⟩
  ·obtain⟨a,ha⟩:=get_some hc
   simp only[aw ha]
   simp only[go_sem,simprocAttr,aQ,h3,h8,hb.ok,hb.un]
   refine bN.own 1048576 (by kernel_rfl) (hb.more _).bld (.lit _ _ _) (by simp;omega) λv' σ' ha'=>?_
   have hb':=(hb.more _).app ha'
   simp only[go_sem,simprocAttr,h3,h8,hb.ok,hb.un,hb'.ok,hb'.un]
   refine⟨hc,_,rfl,ah hc (by rw[ar];omega),?_⟩
   rw[ai ha,List.map_append]
   exact hb'
  ·rw[List.take_of_length_le hc]at hb
   exact⟨_,rfl,hb⟩
 simp only[go_sem,simprocAttr,h3,hb.ok,hb.un]
 exact⟨hb.cG.trans (.sub (iY l)),hb.ext⟩
theorem Dq (l:List Atom):Sub (.sl 81 (l.map aQ)) (aF l):=.refl _
theorem xR (l:List gx)(hl:l.length≤1048576):ag prog W0 145 [cm l] (aA (single (l.map bG))):=by
 refine aj [2] [5] func145 rfl rfl ntmps145 rfl rfl (dz _) λhs σ=>?_
 simp only[go_sem,simprocAttr,cm]
 refine af.at [7,8] (.of (by kernel_rfl)) (λA=>∃ v,A.env 3=v∧aR σ A.st v 72 (l.map λp=>jF (bG p))) ?_ λB ⟨v,h3,hb⟩=>?_
 ·refine af.upto [7,8] (.of (by kernel_rfl)) l.length (λi A=>∃ v,A.env 3=v∧A.env 9= .int .i64 i∧aR σ A.st v 72 ((l.take i).map λp=>jF (bG p))) 0 (Nat.zero_le _) ?_ λi B hi ⟨v,h3,h8,hb⟩=>?_
  ·simp only[go_sem,simprocAttr]
   exact⟨_,rfl,aR.nil (.refl _) _⟩
  simp only[go_sem,simprocAttr,h3,h8,hb.ok,hb.un,List.length_map]
  refine⟨λhc=>⟨hc,?_⟩,λhc=>?_⟩
  ·obtain⟨a,ha⟩:=get_some hc
   simp only[aw ha]
   simp only[go_sem,simprocAttr,cX,h3,h8,hb.ok,hb.un]
   refine cJ.at [3,6,7,8,9] (by kernel_rfl) (λA=>A.st=B.st++[none,some (.cells 81 [aQ (bG a)])]) (λh=>?_) (λh=>?_) λA hst=>?_
   ·simp only[go_sem,simprocAttr,aQ,bG]
    simp only[Bool.not_eq_true',beq_eq_false_iff_ne]at h
    rw[if_neg h]
   ·simp only[go_sem,simprocAttr,aQ,bG]
    simp only[Bool.not_eq_false',beq_iff_eq]at h
    rw[if_pos h]
   have hb2:aR σ A.st v 72 ((l.take i).map λp=>jF (bG p)):=by rw[hst];exact hb.more _
   simp only[go_sem,simprocAttr,h3,h8,hst,hb.ok,hb.un,aQ]
   refine bN.own 1048576 (by kernel_rfl) hb2.bld (.lit _ _ _) (by simp;omega) λv' σ' ha'=>?_
   have hb':=hb2.app ha'
   simp only[go_sem,simprocAttr,h3,h8,hb.ok,hb.un,hb'.ok,hb'.un]
   refine⟨hc,_,rfl,ah hc (by rw[ar];omega),?_⟩
   rw[ai ha,List.map_append]
   exact hb'
  ·rw[List.take_of_length_le hc]at hb
   exact⟨_,rfl,hb⟩
 simp only[go_sem,simprocAttr,h3,hb.ok,hb.un]
 refine⟨hb.cG.trans (.sub ?_),hb.ext⟩
 have:=iY (l.map bG)
 rw[List.map_map]at this
 exact this
theorem xJ (l:List gx)(hl:l.length≤1048576):ag prog W0 125 [cm l] (aF (l.map bG)):=by
 refine aj [2] [5] func125 rfl rfl ntmps125 rfl rfl (mI _) λhs σ=>?_
 simp only[go_sem,simprocAttr,cm]
 refine af.at [7,8] (.of (by kernel_rfl)) (λA=>∃ v,A.env 3=v∧aR σ A.st v 81 (l.map λp=>aQ (bG p))) ?_ λB ⟨v,h3,hb⟩=>?_
 ·refine af.upto [7,8] (.of (by kernel_rfl)) l.length (λi A=>∃ v,A.env 3=v∧A.env 9= .int .i64 i∧aR σ A.st v 81 ((l.take i).map λp=>aQ (bG p))) 0 (Nat.zero_le _) ?_ λi B hi ⟨v,h3,h8,hb⟩=>?_
  ·simp only[go_sem,simprocAttr]
   exact⟨_,rfl,aR.nil (.refl _) _⟩
  simp only[go_sem,simprocAttr,h3,h8,hb.ok,hb.un,List.length_map]
  refine⟨λhc=>⟨hc,?_⟩,λhc=>?_⟩
  ·obtain⟨a,ha⟩:=get_some hc
   simp only[aw ha]
   simp only[go_sem,simprocAttr,cX,h3,h8,hb.ok,hb.un]
   refine cJ.at [3,6,7,8,9] (by kernel_rfl) (λA=>A.st=B.st++[none,some (.cells 81 [aQ (bG a)])]) (λh=>?_) (λh=>?_) λA hst=>?_
   ·simp only[go_sem,simprocAttr,aQ,bG]
    simp only[Bool.not_eq_true',beq_eq_false_iff_ne]at h
    rw[if_neg h]
   ·simp only[go_sem,simprocAttr,aQ,bG]
    simp only[Bool.not_eq_false',beq_iff_eq]at h
    rw[if_pos h]
   have hb2:aR σ A.st v 81 ((l.take i).map λp=>aQ (bG p)):=by rw[hst];exact hb.more _
   simp only[go_sem,simprocAttr,h3,h8,hst,hb.ok,hb.un,aQ]
   refine bN.own 1048576 (by kernel_rfl) hb2.bld (.lit _ _ _) (by simp;omega) λv' σ' ha'=>?_
   have hb':=hb2.app ha'
   simp only[go_sem,simprocAttr,h3,h8,hb.ok,hb.un,hb'.ok,hb'.un]
   refine⟨hc,_,rfl,ah hc (by rw[ar];omega),?_⟩
   rw[ai ha,List.map_append]
   exact hb'
  ·rw[List.take_of_length_le hc]at hb
   exact⟨_,rfl,hb⟩
 simp only[go_sem,simprocAttr,h3,hb.ok,hb.un]
 refine⟨hb.cG.trans (.sub ?_),hb.ext⟩
 have:=Dq (l.map bG)
 rw[List.map_map]at this
 exact this
theorem lG {α:Type}(l:List α)(n:Nat):(((n:Nat):Int)<(l.length:Int))↔n<l.length:=by omega
theorem I6 (c:Clause):ag prog W0 202 [aF c] (.bool (decide (6<c.length))):=by
 refine aj [2] [] func202 rfl rfl ntmps202 rfl rfl (.bool _) λhs σ=>?_
 simp only[go_sem,simprocAttr,aF,List.length_map]
 exact ak (decide_eq_decide.2 (lG c 6))
theorem Gr (a:Atom):ag prog W0 204 [aQ a] (.bool (!bX a)):=by
 refine aj [2] [1] func204 rfl rfl ntmps204 rfl rfl (.bool _) λhs σ=>?_
 simp only[go_sem,simprocAttr,aQ]
 refine al.fn (tn a) ?_
 simp only[go_sem,simprocAttr]
 done
theorem Hh (l:List Clause):ag prog W0 146 [aA l] (.int .i64 (cj l)):=by
 refine aj [2] [] func146 rfl rfl ntmps146 rfl rfl (.int _ _) λhs σ=>?_
 have hl:=(aO (hs _ (List.mem_cons_self ..))).1
 simp only[go_sem,simprocAttr,aA,List.length_map]
 refine az.fnG (λ_=>GN aF cQ.atoms l (λc=>decide (6<c.length)) _ [] (λa _=>I6 a)) ?_
 simp only[go_sem,simprocAttr]
 have e:(decide ((12:Int)<l.length)||l.any λc=>decide (6<c.length))=decide (12<l.length∨(l.any λc=>decide (6<c.length))=true):=by
  rw[Bool.decide_or,Bool.decide_eq_true];congr 1;exact decide_eq_decide.2 (lG l 12)
 rw[e]
 refine⟨λh=>aq (by rw[cj,if_pos (of_decide_eq_true h)]),λh=>?_⟩
 have hm:cj l=if l.any (λc=>decide (c.length=0)||c.any λa=>!bX a)=true then 3 else 0:=by rw[cj,if_neg (of_decide_eq_false h)]
 refine af.upto [12,13] (.of (by kernel_rfl)) l.length (λi A=>A.env 14= .int .i64 i∧A.st=σ∧ ∀c∈l.take i,(decide (c.length=0)||c.any λa=>!bX a)=false) 0 (Nat.zero_le _) ?_ λi B hi ⟨h8,hst,hI⟩=>?_
 ·simp only[go_sem,simprocAttr]
  simp
 simp only[go_sem,simprocAttr,h8,hst,List.length_map]
 refine⟨λhc=>⟨hc,?_⟩,λhc=>?_⟩
 ·obtain⟨a,ha⟩:=get_some hc
  simp only[aw ha]
  simp only[go_sem,simprocAttr,aF,h8,hst,List.length_map]
  refine az.fnG (λ_=>Kl aQ cQ.atom a (λc=>!bX c) _ [] (λa _=>Gr a)) ?_
  simp only[go_sem,simprocAttr,h8,hst]
  have e:((a.length:Int)==0)=decide (a.length=0):=by rw[Bool.eq_iff_iff];simp
  simp only[e]
  refine⟨λhb=>aq ?_,λhb=>⟨hc,ah hc hl,?_⟩⟩
  ·rw[hm,if_pos (any_true ha hb)]
  ·rw[ai ha]
   intro c hcm
   rcases List.mem_append.1 hcm with hcm|hcm
   ·exact hI c hcm
   ·rw[List.mem_singleton.1 hcm];exact hb
 ·refine aq ?_
  rw[List.take_of_length_le hc]at hI
  rw[hm,if_neg]
  intro h
  obtain⟨c,hc1,hc2⟩:=List.any_eq_true.1 h
  rw[hI c hc1]at hc2
  cases hc2
end Go.Proofs.Tryz
end
section
namespace Go.Proofs.Tryz
open Go Go.Av
set_option maxRecDepth 10000
variable {W0 :World}
theorem E6 (l:List Clause):ag prog W0 127 [aA l] (.int .i64 (cj l)):=by
 refine aj [2] [8] func127 rfl rfl ntmps127 rfl rfl (.int _ _) λhs σ=>?_
 have hl:=(aO (hs _ (List.mem_cons_self ..))).1
 have hls:=(aO (hs _ (List.mem_cons_self ..))).2
 simp only[go_sem,simprocAttr,aA,List.length_map]
 refine⟨λh=>aq (by rw[cj,if_pos (.inl ((lG l 12).1 (by simpa using h)))]),λh=>?_⟩
 have h12: ¬12<l.length:=λe=>by have:=(lG l 12).2 e;omega
 refine af.at [0] (.of (by kernel_rfl)) (λA=>A.st=σ∧(l.any λc=>decide (6<c.length))=false) ?_ λB ⟨hst,h6⟩=>?_
 ·refine af.upto [0,12,13] (.of (by kernel_rfl)) l.length (λi A=>A.env 14= .int .i64 i∧A.st=σ∧ ∀c∈l.take i,c.length≤6) 0 (Nat.zero_le _) ?_ λi B hi ⟨h8,hst,hI⟩=>?_
  ·simp only[go_sem,simprocAttr]
   simp
  simp only[go_sem,simprocAttr,h8,hst,List.length_map]
  refine⟨λhc=>⟨hc,?_⟩,λhc=>?_⟩
  ·obtain⟨a,ha⟩:=get_some hc
   simp only[aw ha]
   simp only[go_sem,simprocAttr,aF,h8,hst,List.length_map]
   refine⟨λhb=>aq ?_,λhb=>⟨hc,ah hc hl,?_⟩⟩
   ·rw[cj,if_pos (.inr (any_true ha (decide_eq_true ((lG a 6).1 (by simpa using hb)))))]
   ·rw[ai ha]
    intro c hcm
    rcases List.mem_append.1 hcm with hcm|hcm
    ·exact hI c hcm
    ·rw[List.mem_singleton.1 hcm];omega
  ·rw[List.take_of_length_le hc]at hI
   rw[List.any_eq_false]
   exact λc hcm=>by have:=hI c hcm;simp;omega
 have hm:cj l=if l.any (λc=>decide (c.length=0)||c.any λa=>!bX a)=true then 3 else 0:=by rw[cj,if_neg (by rw[h6];simp;omega)]
 simp only[go_sem,simprocAttr,hst]
 refine af.upto [22,23] (.of (by kernel_rfl)) l.length (λi A=>A.env 24= .int .i64 i∧Ext σ A.st∧ ∀c∈l.take i,(decide (c.length=0)||c.any λa=>!bX a)=false) 0 (Nat.zero_le _) ?_ λi B hi ⟨h8,hst,hI⟩=>?_
 ·simp only[go_sem,simprocAttr]
  simp[hst,Ext.refl]
 simp only[go_sem,simprocAttr,h8,List.length_map]
 refine⟨λhc=>⟨hc,?_⟩,λhc=>⟨aq ?_,hst⟩⟩
 ·obtain⟨c,hcc⟩:=get_some hc
  simp only[aw hcc]
  have hcl:c.length≤maxLen:=(aO (hls c (List.mem_of_getElem? hcc))).1
  simp only[go_sem,simprocAttr,aF,h8,List.length_map]
  refine⟨λh0=>⟨aq ?_,hst⟩,λh0=>?_⟩
  ·have:c.length=0:=by omega
   rw[hm,if_pos (any_true hcc (by simp[this]))]
  refine af.ats [22,23,24] (.of (by kernel_rfl)) (λA=>Ext σ A.st∧(c.any λa=>!bX a)=false) ?_ λB ⟨hst,h6⟩=>?_
  ·refine af.upto [22,23,24,31,32] (.of (by kernel_rfl)) c.length (λi A=>A.env 33= .int .i64 i∧Ext σ A.st∧ ∀a∈c.take i,bX a=true) 0 (Nat.zero_le _) ?_ λj B hj ⟨h33,hst,hJ⟩=>?_
   ·simp only[go_sem,simprocAttr]
    simp[hst]
   simp only[go_sem,simprocAttr,h33,List.length_map]
   refine⟨λhc'=>⟨hc',?_⟩,λhc'=>?_⟩
   ·obtain⟨a,ha⟩:=get_some hc'
    simp only[aw ha]
    simp only[go_sem,simprocAttr,aQ,h33]
    refine al.fn (AG a) ?_
    simp only[go_sem,simprocAttr,h33]
    refine⟨λhb=>⟨aq ?_,hst.app _⟩,λhb=>⟨hc',ah hc' hcl,hst.app _,?_⟩⟩
    ·rw[hm,if_pos (any_true hcc (by rw[any_true ha (by rw[hb];rfl),Bool.or_true]))]
    ·rw[ai ha]
     intro x hxm
     rcases List.mem_append.1 hxm with hxm|hxm
     ·exact hJ x hxm
     ·rw[List.mem_singleton.1 hxm];exact hb
   ·rw[List.take_of_length_le hc']at hJ
    refine⟨hst,?_⟩
    rw[List.any_eq_false]
    exact λx hxm=>by rw[hJ x hxm];simp
  simp only[go_sem,simprocAttr,h8]
  refine⟨hc,ah hc hl,hst,?_⟩
  rw[ai hcc]
  intro x hxm
  rcases List.mem_append.1 hxm with hxm|hxm
  ·exact hI x hxm
  ·rw[List.mem_singleton.1 hxm,h6,Bool.or_false];exact decide_eq_false (by omega)
 ·rw[List.take_of_length_le hc]at hI
  rw[hm,if_neg]
  intro h
  obtain⟨c,hc1,hc2⟩:=List.any_eq_true.1 h
  rw[hI c hc1]at hc2
  cases hc2
theorem getD_map {α:Type}{f:α→AV}{l:List α}{i:Nat}{a:α}{d:AV}(h:l[i]?=some a):(l.map f)[i]?.getD d=f a:=by
 rw[List.getElem?_map,h];rfl
theorem FV (l:List Atom):ag prog W0 124 [.sl 81 (l.map aQ)] (.sl 81 ((l.take 13).map aQ)):=by
 refine aj [2] [] func124 rfl rfl ntmps124 rfl rfl (gO pj _) λhs σ=>?_
 have e:ry (l.length:Int) 13=((min l.length 13:Nat):Int):=by unfold ry;split<;>omega
 simp only[go_sem,simprocAttr,List.length_map,e]
 refine⟨by omega,?_⟩
 rw[←List.map_take,List.take_eq_take_iff.2 (show min (min l.length 13) l.length=min 13 l.length by omega)]
 exact .refl _
theorem Bh (l:List gx):ag prog W0 126 [.sl 147 (l.map cX)] (.sl 147 ((l.take 13).map cX)):=by
 refine aj [2] [] func126 rfl rfl ntmps126 rfl rfl (gO tj _) λhs σ=>?_
 have e:ry (l.length:Int) 13=((min l.length 13:Nat):Int):=by unfold ry;split<;>omega
 simp only[go_sem,simprocAttr,List.length_map,e]
 refine⟨by omega,?_⟩
 rw[←List.map_take,List.take_eq_take_iff.2 (show min (min l.length 13) l.length=min 13 l.length by omega)]
 exact .refl _
theorem DF (l:List Atom):cj (single (l.take 13))=cj (single l):=by
 rcases Nat.lt_or_ge 12 l.length with h|h
 ·rw[cj,cj,if_pos (.inl (by simp[single];omega)),if_pos (.inl (by simpa[single]using h))]
 ·rw[List.take_of_length_le (by omega)]
theorem HK (p:Pkg):ag prog W0 59 [av p] (.int .i64 (aW p)):=by
 refine aj [2] [1] func59 rfl rfl ntmps59 rfl rfl (.int _ _) λhs σ=>?_
 simp only[go_sem,simprocAttr,av]
 refine al.fn (CP p.name) ?_
 simp only[go_sem,simprocAttr,av]
 refine az.fnG (λ_=>Cd p.ver) ?_
 simp only[go_sem,simprocAttr,av]
 refine⟨λh=>aq (by rw[aW,if_pos h]),λh=>?_⟩
 have hm:aW p=orL [cj p.pre,cj p.dep,cj p.rcm,cj (single p.con),cj (single p.brk),cj (single (p.dY.map bG))]:=by rw[aW,if_neg (by rw[h];simp)]
 refine⟨.of (by kernel_rfl),az.fn (FV p.con) ?_⟩
 simp only[go_sem,simprocAttr]
 refine az.fn (nR (p.con.take 13) (by rw[List.length_take];omega)) ?_
 simp only[go_sem,simprocAttr]
 refine az.fn (FV p.brk) ?_
 simp only[go_sem,simprocAttr]
 refine az.fn (nR (p.brk.take 13) (by rw[List.length_take];omega)) ?_
 simp only[go_sem,simprocAttr]
 refine az.fn (Bh p.dY) ?_
 simp only[go_sem,simprocAttr]
 refine az.fn (xJ (p.dY.take 13) (by rw[List.length_take];omega)) ?_
 simp only[go_sem,simprocAttr]
 refine az.fn (nR ((p.dY.take 13).map bG) (by rw[List.length_map,List.length_take];omega)) ?_
 simp only[go_sem,simprocAttr]
 let ls:=[p.pre,p.dep,p.rcm,single (p.con.take 13),single (p.brk.take 13),single ((p.dY.take 13).map bG)]
 have hl:orL (ls.map cj)=aW p:=by
  rw[hm]
  simp only[ls,List.map_cons,List.map_nil,DF,List.map_take]
 have e:[aA p.pre,aA p.dep,aA p.rcm,aA (single (p.con.take 13)),aA (single (p.brk.take 13)),aA (single ((p.dY.take 13).map bG))]=ls.map aA:=rfl
 simp only[e]
 refine af.upto [35] (.of (by kernel_rfl)) 6 (λi A=>A.env 36= .int .i64 i∧A.st=σ∧orL ((ls.map cj).drop i)=aW p) 0 (Nat.zero_le _) ?_ λi B hi ⟨h8,hst,hI⟩=>?_
 ·simp only[go_sem,simprocAttr]
  exact hl
 simp only[go_sem,simprocAttr,h8,hst]
 refine⟨λhc=>?_,λhc=>aq ?_⟩
 ·have hc':i<ls.length:=by show i<6;omega
  obtain⟨c,hcc⟩:=get_some hc'
  obtain⟨hlt,hae⟩:=List.getElem?_eq_some_iff.1 hcc
  rw[List.drop_eq_getElem_cons (by simpa using hc'),List.getElem_map,hae]at hI
  simp only[getD_map hcc]
  refine⟨by simpa using hc',trivial,al.fn (E6 c) ?_⟩
  simp only[go_sem,simprocAttr,h8,hst]
  refine⟨λhq=>aq (by rw[←hI,orL,if_pos hq]),λhq=>⟨by omega,ah (show i<6 by omega) (by rw[ar];omega),?_⟩⟩
  rw[←hI,orL,if_neg (by simpa using hq)]
 ·rw[List.drop_eq_nil_of_le (by show 6≤i;omega)]at hI
  exact hI
structure lu (p:Pkg):Prop where
 con:p.con.length≤1048576
 brk:p.brk.length≤1048576
 dY:p.dY.length≤1048576
theorem F5 (p:Pkg)(hp:lu p):ag prog W0 80 [av p] (.int .i64 (aW p)):=by
 refine aj [2] [1] func80 rfl rfl ntmps80 rfl rfl (.int _ _) λhs σ=>?_
 simp only[go_sem,simprocAttr,av]
 refine al.fn (jm p.ver) ?_
 have hpv: ∃e u r,eV (eB p.ver)= .tup [.str e,.str u,.str r,.int .i64 (if bw p.ver then 0 else 3)]:=by
  cases h:eB p.ver with
  |none=>exact⟨_,_,_,by rw[bw,h];rfl⟩
  |some v=>exact⟨_,_,_,by rw[bw,h];rfl⟩
 obtain⟨e,u,r,hpv⟩:=hpv
 rw[hpv]
 simp only[go_sem,simprocAttr,av]
 refine al.fn (wv p.name) ?_
 simp only[go_sem,simprocAttr,av]
 have hb:(!c9 p.name||(if bw p.ver=true then(0:Int)else 3) !=0)=(!c9 p.name|| !bw p.ver):=by cases bw p.ver<;>rfl
 simp only[hb]
 refine⟨λh=>aq (by rw[aW,if_pos h]),λh=>?_⟩
 have hm:aW p=orL [cj p.pre,cj p.dep,cj p.rcm,cj (single p.con),cj (single p.brk),cj (single (p.dY.map bG))]:=by rw[aW,if_neg (by rw[h];simp)]
 refine⟨.of (by kernel_rfl),az.fn (sq p.con hp.con) ?_⟩
 simp only[go_sem,simprocAttr]
 refine az.fn (sq p.brk hp.brk) ?_
 simp only[go_sem,simprocAttr]
 refine az.fn (xR p.dY hp.dY) ?_
 simp only[go_sem,simprocAttr]
 let ls:=[p.pre,p.dep,p.rcm,single p.con,single p.brk,single (p.dY.map bG)]
 have hl:orL (ls.map cj)=aW p:=by
  rw[hm]
  simp only[ls,List.map_cons,List.map_nil]
 have e:[aA p.pre,aA p.dep,aA p.rcm,aA (single p.con),aA (single p.brk),aA (single (p.dY.map bG))]=ls.map aA:=rfl
 simp only[e]
 refine af.upto [41,42] (.of (by kernel_rfl)) 6 (λi A=>A.env 43= .int .i64 i∧A.st=σ∧orL ((ls.map cj).drop i)=aW p) 0 (Nat.zero_le _) ?_ λi B hi ⟨h8,hst,hI⟩=>?_
 ·simp only[go_sem,simprocAttr]
  exact hl
 simp only[go_sem,simprocAttr,h8,hst]
 refine⟨λhc=>?_,λhc=>aq ?_⟩
 ·have hc':i<ls.length:=by show i<6;omega
  obtain⟨c,hcc⟩:=get_some hc'
  obtain⟨hlt,hae⟩:=List.getElem?_eq_some_iff.1 hcc
  rw[List.drop_eq_getElem_cons (by simpa using hc'),List.getElem_map,hae]at hI
  simp only[aw hcc]
  refine⟨by simpa using hc',trivial,al.fn (Hh c) ?_⟩
  simp only[go_sem,simprocAttr,h8,hst]
  refine⟨λhq=>aq (by rw[←hI,orL,if_pos hq]),λhq=>⟨by omega,ah (show i<6 by omega) (by rw[ar];omega),?_⟩⟩
  rw[←hI,orL,if_neg (by simpa using hq)]
 ·rw[List.drop_eq_nil_of_le (by show 6≤i;omega)]at hI
  exact hI
theorem JT (p q:Pkg):ag prog W0 149 [av q,.loc 54 (av p)] (.bool (dc p q)):=by
 refine aj [3] [2] func149 rfl rfl ntmps149 rfl rfl (.bool _) λhs σ=>?_
 simp only[go_sem,simprocAttr,av]
 refine az.fnG (λ_=>oY q.ver p.ver) ?_
 simp only[go_sem,simprocAttr]
 exact ak rfl
theorem cQ.pkg (p:Pkg):cQ (av p):=trivial
@[go_sem] theorem PY (g:Option Bool)(p:Pkg):okM g (av p)=True:=eq_true trivial
@[go_sem] theorem Pc (p:Pkg):unm (av p)=av p:=rfl
theorem vD (l:List Pkg)(hp: ∀p∈l,lu p):ag prog W0 90 [aU l] (.int .i64 (bk l)):=by
 refine aj [2] [4,8] func90 rfl rfl ntmps90 rfl rfl (.int _ _) λhs σ=>?_
 have hl:=(aO (hs _ (List.mem_cons_self ..))).1
 simp only[go_sem,simprocAttr,aU,List.length_map]
 refine⟨λh=>aq (by rw[bk,if_pos ((lG l 24).1 (by simpa using h))]),λh=>?_⟩
 have h24: ¬24<l.length:=λe=>by have:=(lG l 24).2 e;omega
 refine af.at [0] (.of (by kernel_rfl)) (λA=>Ext σ A.st∧orL (l.map aW)=0) ?_ λB ⟨hst,h6⟩=>?_
 ·refine af.upto [0,12,13] (.of (by kernel_rfl)) l.length (λi A=>A.env 14= .int .i64 i∧Ext σ A.st∧orL ((l.map aW).drop i)=orL (l.map aW)) 0 (Nat.zero_le _) ?_ λi B hi ⟨h8,hst,hI⟩=>?_
  ·simp only[go_sem,simprocAttr]
   simp[Ext.refl]
  simp only[go_sem,simprocAttr,h8,List.length_map]
  refine⟨λhc=>⟨hc,?_⟩,λhc=>?_⟩
  ·obtain⟨a,ha⟩:=get_some hc
   obtain⟨hlt,hae⟩:=List.getElem?_eq_some_iff.1 ha
   rw[List.drop_eq_getElem_cons (by simpa using hc),List.getElem_map,hae]at hI
   simp only[aw ha]
   simp only[go_sem,simprocAttr,h8,List.length_map]
   refine⟨by kernel_rfl,al.fn (F5 a (hp a (List.mem_of_getElem? ha))) ?_⟩
   simp only[go_sem,simprocAttr,h8]
   refine⟨λhq=>⟨aq ?_,hst.app _⟩,λhq=>⟨hc,ah hc hl,hst.app _,?_⟩⟩
   ·rw[orL,if_pos hq]at hI
    rw[bk,if_neg h24,if_pos (by rw[←hI];exact hq),hI]
   ·rw[←hI,orL,if_neg (by simpa using hq)]
  ·rw[List.drop_eq_nil_of_le (by simpa using hc)]at hI
   exact⟨hst,hI.symm⟩
 have hm:bk l=if ng [] l=true then 4 else if 10<(de l []).length then 12 else 0:=by rw[bk,if_neg h24,if_neg (by simp[h6])]
 simp only[go_sem,simprocAttr,List.length_map]
 refine af.at [0,24,25] (.of (by kernel_rfl)) (λA=>∃ v,A.env 6=v∧aR σ A.st v 9 ((de l []).map .str)∧ng [] l=false) ?_ λB ⟨v,h6,hb,hd⟩=>?_
 ·refine af.upto [0,24,25] (.of (by kernel_rfl)) l.length (λi A=>∃ v acc,A.env 6=v∧A.env 26= .int .i64 i∧aR σ A.st v 9 (acc.map .str)∧de (l.drop i) acc=de l []∧ng (l.take i) (l.drop i)=ng [] l∧acc.length≤i) 0 (Nat.zero_le _) ?_ λi B hi ⟨v,acc,h6,h8,hb,hn,hd,hal⟩=>?_
  ·simp only[go_sem,simprocAttr]
   exact⟨_,[],rfl,aR.nil hst _,by simp⟩
  simp only[go_sem,simprocAttr,h6,h8,hb.ok,hb.un,List.length_map]
  refine⟨λhc=>⟨hc,?_⟩,λhc=>?_⟩
  ·obtain⟨a,ha⟩:=get_some hc
   obtain⟨hlt,hae⟩:=List.getElem?_eq_some_iff.1 ha
   rw[List.drop_eq_getElem_cons hc,hae]at hn hd
   simp only[aw ha]
   simp only[go_sem,simprocAttr,h6,h8,hb.ok,hb.un,List.length_map]
   rw[←List.map_take]
   refine⟨by kernel_rfl,⟨Nat.zero_le _,hi⟩,al.fn (Mk av cQ.pkg (l.take i) (dc a) _ [.loc 54 (av a)] (λq _=>JT a q)) ?_⟩
   simp only[go_sem,simprocAttr,av,h6,h8,hb.ok,hb.un]
   rw[ng]at hd
   refine⟨λhq=>⟨aq ?_,hb.ext.app _⟩,λhq=>al.fn ((NW acc a.name).cG (.cons hb.cG (.cons (.refl _) .nil))) ?_⟩
   ·rw[hm,←hd,hq,if_pos (by simp)]
   rw[hq,Bool.false_or,←ai ha]at hd
   simp only[go_sem,simprocAttr,av,h6,h8,hb.ok,hb.un]
   rw[de]at hn
   have hb2:=(hb.more [none])
   refine⟨λh=>?_,λh=>⟨hc,v,acc,rfl,ah hc hl,hb2,?_,hd,by omega⟩⟩
   ·refine bN.own 1048576 (by kernel_rfl) hb2.bld (.lit _ _ _) (by simp;omega) λv' σ' ha'=>?_
    have hb':=hb2.app ha'
    simp only[go_sem,simprocAttr,h6,h8,hb'.ok,hb'.un]
    refine⟨hc,_,acc++[a.name],rfl,ah hc hl,by simpa using hb',?_,hd,by simp;omega⟩
    rw[if_neg (by simp[h])]at hn
    exact hn
   ·rw[if_pos h]at hn
    exact hn
  ·rw[List.drop_eq_nil_of_le hc]at hn hd
   exact⟨_,rfl,by rw[←hn];exact hb,hd.symm⟩
 simp only[go_sem,simprocAttr,h6,hb.ok,hb.un,hb.len,hb.fQ,List.length_map]
 refine⟨λhq=>⟨aq ?_,hb.ext⟩,λhq=>⟨aq ?_,hb.ext⟩⟩
 ·rw[hm,hd,if_neg (by simp),if_pos ((lG _ 10).1 hq)]
 ·rw[hm,hd,if_neg (by simp),if_neg (λe=>hq ((lG _ 10).2 e))]
end Go.Proofs.Tryz
end
section
namespace Go.Proofs.Tryz
open Go Go.Av
set_option maxRecDepth 10000
variable {W0 :World}
theorem Dr (l:List Pkg):ag prog W0 19 [aU l] (.int .i64 (bk l)):=by
 refine aj [2] [4,8,11] func19 rfl rfl ntmps19 rfl rfl (.int _ _) λhs σ=>?_
 have hl:=(aO (hs _ (List.mem_cons_self ..))).1
 simp only[go_sem,simprocAttr,aU,List.length_map]
 refine⟨λh=>aq (by rw[bk,if_pos ((lG l 24).1 (by simpa using h))]),λh=>?_⟩
 have h24: ¬24<l.length:=λe=>by have:=(lG l 24).2 e;omega
 refine af.at [0] (.of (by kernel_rfl)) (λA=>Ext σ A.st∧orL (l.map aW)=0) ?_ λB ⟨hst,h6⟩=>?_
 ·refine af.upto [0,15,16] (.of (by kernel_rfl)) l.length (λi A=>A.env 17= .int .i64 i∧Ext σ A.st∧orL ((l.map aW).drop i)=orL (l.map aW)) 0 (Nat.zero_le _) ?_ λi B hi ⟨h8,hst,hI⟩=>?_
  ·simp only[go_sem,simprocAttr]
   simp[Ext.refl]
  simp only[go_sem,simprocAttr,h8,List.length_map]
  refine⟨λhc=>⟨hc,?_⟩,λhc=>?_⟩
  ·obtain⟨a,ha⟩:=get_some hc
   obtain⟨hlt,hae⟩:=List.getElem?_eq_some_iff.1 ha
   rw[List.drop_eq_getElem_cons (by simpa using hc),List.getElem_map,hae]at hI
   simp only[aw ha]
   simp only[go_sem,simprocAttr,h8,List.length_map]
   refine⟨by kernel_rfl,al.fn (HK a) ?_⟩
   simp only[go_sem,simprocAttr,h8]
   refine⟨λhq=>⟨aq ?_,hst.app _⟩,λhq=>⟨hc,ah hc hl,hst.app _,?_⟩⟩
   ·rw[orL,if_pos hq]at hI
    rw[bk,if_neg h24,if_pos (by rw[←hI];exact hq),hI]
   ·rw[←hI,orL,if_neg (by simpa using hq)]
  ·rw[List.drop_eq_nil_of_le (by simpa using hc)]at hI
   exact⟨hst,hI.symm⟩
 have hm:bk l=if ng [] l=true then 4 else if 10<(de l []).length then 12 else 0:=by rw[bk,if_neg h24,if_neg (by simp[h6])]
 simp only[go_sem,simprocAttr,List.length_map]
 refine af.at [0,27,28] (.of (by kernel_rfl)) (λA=>∃ v,A.env 6=v∧aR σ A.st v 9 ((de l []).map .str)∧ng [] l=false) ?_ λB ⟨v,h6,hb,hd⟩=>?_
 ·refine af.upto [0,27,28] (.of (by kernel_rfl)) l.length (λi A=>∃ v acc,A.env 6=v∧A.env 29= .int .i64 i∧aR σ A.st v 9 (acc.map .str)∧de (l.drop i) acc=de l []∧ng (l.take i) (l.drop i)=ng [] l∧acc.length≤i∧ ∀n,acc.any (λx=>n==x)=(l.take i).any (λq=>q.name==n)) 0 (Nat.zero_le _) ?_ λi B hi ⟨v,acc,h6,h8,hb,hn,hd,hal,hnm⟩=>?_
  ·simp only[go_sem,simprocAttr]
   exact⟨_,[],rfl,aR.nil hst _,by simp⟩
  simp only[go_sem,simprocAttr,h6,h8,hb.ok,hb.un,List.length_map]
  refine⟨λhc=>⟨hc,?_⟩,λhc=>?_⟩
  ·obtain⟨a,ha⟩:=get_some hc
   obtain⟨hlt,hae⟩:=List.getElem?_eq_some_iff.1 ha
   rw[List.drop_eq_getElem_cons hc,hae]at hn hd
   simp only[aw ha]
   simp only[go_sem,simprocAttr,h6,h8,hb.ok,hb.un,List.length_map]
   rw[←List.map_take]
   refine⟨by kernel_rfl,⟨Nat.zero_le _,hi⟩,?_⟩
   rw[ng]at hd
   rw[de]at hn
   have hb2:=(hb.more [none])
   have hil:(l.take i).length=i:=by rw[List.length_take];omega
   refine af.at [0,6,8,27,28,29] (.of (by kernel_rfl)) (λA=>Ext (B.st++[none]) A.st∧A.env 9= .bool ((l.take i).any λq=>q.name==a.name)∧(l.take i).any (dc a)=false) ?_ λA ⟨hst,h9,hd2⟩=>?_
   ·refine af.upto [0,6,8,27,28,29,36,37] (.of (by kernel_rfl)) i (λj A=>A.env 38= .int .i64 j∧Ext (B.st++[none]) A.st∧A.env 9= .bool (((l.take i).take j).any λq=>q.name==a.name)∧((l.take i).take j).any (dc a)=false) 0 (Nat.zero_le _) ?_ λj A hj ⟨h38,hst,h9,hd2⟩=>?_
    ·simp only[go_sem,simprocAttr,List.length_map]
     exact⟨.refl _,by simp,by simp⟩
    simp only[go_sem,simprocAttr,h38,h9,List.length_map]
    refine⟨λhj'=>⟨hj',?_⟩,λhj'=>?_⟩
    ·obtain⟨b,hbj⟩:=get_some hj'
     have hjl:j<i:=by omega
     simp only[aw hbj]
     simp only[go_sem,simprocAttr,av,h38,h9]
     have he: ∀f:Pkg→Bool,((l.take i).take (j+1)).any f=(((l.take i).take j).any f||f b):=λf=>by rw[ai hbj,List.any_append];simp
     refine⟨λhq=>al.fn (lL b.ver a.ver) ?_,λhq=>?_⟩
     ·simp only[go_sem,simprocAttr,h38,h9]
      refine⟨λhv=>⟨aq ?_,hb2.ext.trans (hst.app _)⟩,λhv=>⟨hjl,ah hjl (by omega),hst.app _,?_,?_⟩⟩
      ·have:(l.take i).any (dc a)=true:=any_true hbj (by simp[dc,hq,hv])
       rw[hm,←hd,this,if_pos (by simp)]
      ·rw[he];simp[hq]
      ·rw[he,hd2];simp[dc,hv]
     ·refine⟨hjl,ah hjl (by omega),hst.app _,?_,?_⟩
      ·rw[he];simp[hq]
      ·rw[he,hd2];simp[dc,hq]
    ·rw[List.take_of_length_le hj']at h9 hd2 ⊢
     exact⟨hst,rfl,hd2⟩
   have hb3:=hb2.on hst
   rw[hd2,Bool.false_or,←ai ha]at hd
   have hns: ∀acc':List (List UInt8),acc'=(if (acc.any λx=>a.name==x)=true then acc else acc++[a.name])→ ∀n,acc'.any (λx=>n==x)=(l.take (i+1)).any (λq=>q.name==n):=λacc' e n=>by
    rw[ai ha,List.any_append,←hnm n,e]
    by_cases hx:(acc.any λx=>a.name==x)=true
    ·rw[if_pos hx]
     by_cases hna:a.name=n
     ·subst hna;simp[hx]
     ·simp[hna]
    ·rw[if_neg hx,List.any_append]
     have:(n==a.name)=(a.name==n):=by rw[Bool.eq_iff_iff,beq_iff_eq,beq_iff_eq];exact⟨Eq.symm,Eq.symm⟩
     simp[this]
   simp only[go_sem,simprocAttr,av,h6,h8,h9,hb3.ok,hb3.un]
   refine⟨λh=>?_,λh=>⟨hc,v,acc,rfl,ah hc hl,hb3,?_,hd,by omega,?_⟩⟩
   ·refine bN.own 1048576 (by kernel_rfl) hb3.bld (.lit _ _ _) (by simp;omega) λv' σ' ha'=>?_
    have hb':=hb3.app ha'
    simp only[go_sem,simprocAttr,h6,h8,hb'.ok,hb'.un]
    rw[←hnm]at h
    rw[if_neg (by rw[h];simp)]at hn hns
    refine⟨hc,_,acc++[a.name],rfl,ah hc hl,by simpa using hb',hn,hd,by simp;omega,hns _ rfl⟩
   ·rw[←hnm]at h
    rw[if_pos h]at hn
    exact hn
   ·rw[←hnm]at h
    rw[if_pos h]at hns
    exact hns _ rfl
  ·rw[List.drop_eq_nil_of_le hc]at hn hd
   exact⟨_,rfl,by rw[←hn];exact hb,hd.symm⟩
 simp only[go_sem,simprocAttr,h6,hb.ok,hb.un,hb.len,hb.fQ,List.length_map]
 refine⟨λhq=>⟨aq ?_,hb.ext⟩,λhq=>⟨aq ?_,hb.ext⟩⟩
 ·rw[hm,hd,if_neg (by simp),if_pos ((lG _ 10).1 hq)]
 ·rw[hm,hd,if_neg (by simp),if_neg (λe=>hq ((lG _ 10).2 e))]
end Go.Proofs.Tryz
end
section
namespace Go.Av
def eu (p:Pkg)(a:Atom):Bool:=
 bX a&&((p.name==a.name&&kO a.rel p.ver a.ver)||p.dY.any λv=>v.name==a.name&&(a.rel==0||kO a.rel v.ver a.ver))
def oZ (p q:Pkg):Bool:=p.con.any (eu q)||p.brk.any (eu q)
def fp (p q:Pkg):Bool:=p.name !=q.name&&(oZ p q||oZ q p)
def A0 (c:Clause)(l:List Pkg):Bool:=c.any λa=>l.any λp=>eu p a
def EV (l bef:List Pkg)(p:Pkg):Bool:=aW p !=0||bef.any (λq=>q.name==p.name||fp p q)||(p.pre.any (λc=>!A0 c l)||p.dep.any (λc=>!A0 c l))
def ya (l:List Pkg):List Pkg→List Pkg→Bool
 |_,[]=>false
 |bef,p::r=>EV l bef p||ya l (bef++[p]) r
def fU (l:List Pkg):Bool:=!ya l [] l
end Go.Av
end
section
namespace Go.Proofs.Tryz
open Go Go.Av
set_option maxRecDepth 10000
variable {W0 :World}
@[go_sem] theorem OQ (g:Option Bool)(p:Atom):okM g (aQ p)=True:=eq_true trivial
@[go_sem] theorem NS (p:Atom):unm (aQ p)=aQ p:=rfl
@[go_sem] theorem Lb (p:Atom):bn prog 81 (aQ p)=true:=by kernel_rfl
@[go_sem] theorem N0 (p:Pkg):bn prog 54 (av p)=true:=by kernel_rfl
@[go_sem] theorem ND (g:Option Bool)(p:gx):okM g (cX p)=True:=eq_true trivial
@[go_sem] theorem M0 (p:gx):unm (cX p)=cX p:=rfl
theorem cQ.dY (p:gx):cQ (cX p):=trivial
theorem I9 (a:Atom)(v:gx):ag prog W0 183 [cX v,.loc 81 (aQ a)] (.bool (v.name==a.name&&(a.rel==0||kO a.rel v.ver a.ver))):=by
 refine aj [3] [2] func183 rfl rfl ntmps183 rfl rfl (.bool _) λhs σ=>?_
 simp only[go_sem,simprocAttr,cX,aQ]
 refine az.fnG (λ_=>z8 a.rel v.ver a.ver) ?_
 simp only[go_sem,simprocAttr]
theorem FN (p:Pkg)(a:Atom):ag prog W0 133 [av p,aQ a] (.bool (eu p a)):=by
 refine aj [4] [2,3] func133 rfl rfl ntmps133 rfl rfl (.bool _) λhs σ=>?_
 simp only[go_sem,simprocAttr,av,aQ]
 refine al.fn (tn a) ?_
 simp only[go_sem,simprocAttr,av,aQ]
 refine⟨λh=>ak (by rw[eu,h];rfl),λh=>az.fnG (λ_=>z8 a.rel p.ver a.ver) ?_⟩
 simp only[go_sem,simprocAttr,av,aQ]
 refine⟨λh2=>ak (by rw[eu,h,h2];rfl),λh2=>al.fn (NH cX cQ.dY p.dY _ _ [.loc 81 (aQ a)] (λq _=>I9 a q)) ?_⟩
 simp only[go_sem,simprocAttr]
 exact ak (by rw[eu,h,h2];simp)
theorem qO (q:Pkg)(a:Atom):ag prog W0 192 [aQ a,.loc 54 (av q)] (.bool (eu q a)):=by
 refine aj [3] [2] func192 rfl rfl ntmps192 rfl rfl (.bool _) λhs σ=>?_
 simp only[go_sem,simprocAttr]
 refine al.fn (FN q a) ?_
 simp only[go_sem,simprocAttr]
 try exact ak rfl
theorem sw (p q:Pkg):ag prog W0 136 [av p,av q] (.bool (oZ p q)):=by
 refine aj [4] [2,3] func136 rfl rfl ntmps136 rfl rfl (.bool _) λhs σ=>?_
 simp only[go_sem,simprocAttr,av]
 refine al.fn (Gs aQ cQ.atom p.con (eu q) _ [.loc 54 (av q)] (λa _=>qO q a)) ?_
 simp only[go_sem,simprocAttr,av]
 refine az.go (λ_=>Gs aQ cQ.atom p.brk (eu q) _ [.loc 54 (av q)] (λa _=>qO q a)) ?_
 simp only[go_sem,simprocAttr]
 try exact ak rfl
theorem yS (p q:Pkg):ag prog W0 75 [av p,av q] (.bool (fp p q)):=by
 refine aj [4] [2,3] func75 rfl rfl ntmps75 rfl rfl (.bool _) λhs σ=>?_
 simp only[go_sem,simprocAttr,av]
 refine az.fnG (λ_=>sw p q) ?_
 simp only[go_sem,simprocAttr]
 refine az.fnG (λ_=>sw q p) ?_
 simp only[go_sem,simprocAttr]
 try exact ak rfl
end Go.Proofs.Tryz
end
section
namespace Go.Av
section
variable {P :Program}{W0:World}{A:aa}
def L5 :AV→Option Nat
 | .row _ id _ _=>some id
 |_=>none
structure en (σ st:ab)(v:AV)(e:TypeId)(xs:List AV):Prop where
 row:dh st v e xs
 ext:Ext σ st
 low: ∀id,L5 v=some id→σ.length≤id
theorem en.nil {σ st:ab}(h:Ext σ st)(e:TypeId):en σ st .ay e []:=⟨.inl ⟨rfl,rfl⟩,h,λt h=>by cases h⟩
theorem en.notM {σ st:ab}{v:AV}{e:TypeId}{xs:List AV}(h:en σ st v e xs):cQ v:=by
 rcases h.row with⟨rfl,rfl⟩|rfl|⟨_,_,_,_,rfl,_⟩<;>trivial
theorem en.ok {σ st:ab}{v:AV}{e:TypeId}{xs:List AV}(h:en σ st v e xs)(g:Option Bool):okM g v=True:=bT h.notM
theorem en.un {σ st:ab}{v:AV}{e:TypeId}{xs:List AV}(h:en σ st v e xs):unm v=v:=cw h.notM
theorem dh.len {st:ab}{v:AV}{e:TypeId}{xs:List AV}(h:dh st v e xs):lV v= .int .i64 xs.length:=by
 rcases h with⟨rfl,rfl⟩|rfl|⟨id,off,m,zs,rfl,_,h1,rfl⟩
 ·rfl
 ·rfl
 ·have:((zs.drop off).take m).length=m:=by simp;omega
  rw[this];rfl
theorem dh.fQ {st:ab}{v:AV}{e:TypeId}{xs:List AV}(h:dh st v e xs)(P:Program)(t:TypeId):fQ P t v=((elT P t).isSome=true):=by
 rcases h with⟨rfl,rfl⟩|rfl|⟨id,off,m,zs,rfl,_,h1,rfl⟩<;>rfl
theorem dh.read {st:ab}{v:AV}{e:TypeId}{xs:List AV}(h:dh st v e xs):eY st v e xs:=by
 rcases h with h|rfl|h
 ·exact .inr (.inl h)
 ·exact .inl rfl
 ·exact .inr (.inr h)
theorem en.more {σ st:ab}{v:AV}{e:TypeId}{xs:List AV}(h:en σ st v e xs)(l:ab):en σ (st++l) v e xs:=by
 refine⟨?_,h.ext.app l,h.low⟩
 rcases h.row with h1|h1|⟨id,off,m,zs,h1,h2,h3⟩
 ·exact .inl h1
 ·exact .inr (.inl h1)
 ·exact .inr (.inr ⟨id,off,m,zs,h1,by rw[List.getElem?_append_left ((List.getElem?_eq_some_iff.1 h2).1)];exact h2,h3⟩)
theorem en.Ob {σ st:ab}{v:AV}{e:TypeId}{xs:List AV}(h:en σ st v e xs)(l:ab):Ext σ (bQ v st++l):=by
 refine Ext.app ?_ l
 unfold bQ
 split
 ·exact h.ext.set (h.low _ rfl) _
 ·exact h.ext
theorem bN.iI {σ:ab}{t u e:TypeId}{x y:AV}{xs ys:List AV}{dst:Option Nat}{k:aa→Prop}(N:Nat)(ho:xh P t u e N=true)(h:en σ A.st x e xs)(hy:eY A.st y e ys)(hN:xs.length+ys.length≤N)
  (hk: ∀v st',en σ st' v e (xs++ys)→k ((A.put dst v).an st')):bN P [t,u] [x,y] dst A k .mk:=by
 refine bN.row N ho h.row hy hN (λhe=>hk _ _ (by rw[he,List.append_nil];exact h)) λhe=>hk _ _ ⟨.inr (.inr ⟨A.st.length,0,_,xs++ys,rfl,?_,by simp,by rw[List.drop_zero,List.take_of_length_le (by simp)]⟩),h.Ob _,λid hid=>?_⟩
 ·have:(bQ x A.st).length=A.st.length:=by unfold bQ;split<;>simp
  rw[←this,List.getElem?_append_right (Nat.le_refl _),Nat.sub_self]
  rfl
 ·cases hid
  exact h.ext.le
theorem en.I5 {σ:ab}{v:AV}{e:TypeId}{xs:List AV}{d:Nat}{x:Exit}(h:en σ A.st v e xs)(hx:x= .ret∨x= .normal)(hd:A.env d=v):bR (λA=>cT (ib A.env [d]) (.sl e xs)∧A.st.take σ.length=σ) x A:=by
 have fin: ∀{B:aa},cT (ib B.env [d]) (.sl e xs)→B.st.take σ.length=σ→bR (λA=>cT (ib A.env [d]) (.sl e xs)∧A.st.take σ.length=σ) x B:=λh1 h2=>by
  rcases hx with rfl|rfl
  ·exact .ret ⟨h1,h2⟩
  ·exact .normal ⟨h1,h2⟩
 rcases h.row with⟨rfl,rfl⟩|rfl|⟨id,off,m,zs,rfl,h1,h2,rfl⟩
 ·exact fin (by simp only[ib,hd];exact .ay _) h.ext
 ·exact fin (by simp only[ib,hd];exact .lit _ _) h.ext
 ·refine bR.frz d hd h1 h2 (fin ?_ ?_)
  ·simp[ib,aa.upd,aa.an]
   exact .refl _
  ·exact h.ext.set (h.low _ rfl) _
end
end Go.Av
end
section
namespace Go.Proofs.Tryz
open Go Go.Av
set_option maxRecDepth 10000
variable {W0 :World}
theorem IN (σ:ab)(n:Nat)(hn:n≤1048576):
  aZ prog W0 131 [.ay,.int .i64 n] σ λr σ'=>en σ σ' r 72 []:=by
 refine cO [4] [] func131 rfl rfl ntmps131 rfl rfl λhs=>?_
 simp only[go_sem,simprocAttr]
 refine cJ.at [0,1] (by kernel_rfl) (λA=>A.st=σ) (λh=>absurd (of_decide_eq_true h) (by omega)) (λ_=>?_) λB hst=>?_
 ·simp only[go_sem,simprocAttr]
 simp only[go_sem,simprocAttr,hst]
 have hw:IntKind.i64.wrap ((n:Int)-0)=n:=by rw[Int.sub_zero,aE (by omega)]
 simp only[hw]
 refine cJ.at [] (by kernel_rfl) (λA=>en σ A.st (A.env 0) 72 []) (λh=>?_) (λ_=>?_) λB hb=>?_
 ·simp only[go_sem,simprocAttr,hst]
  refine bN.zero (e:=72) 1048576 (by kernel_rfl) (kn:=.i64) (by kernel_rfl) (z:=.ay) (by kernel_rfl) (by kernel_rfl) (by have:=of_decide_eq_true h;omega) hn ?_
  simp only[go_sem,simprocAttr,hst]
  exact⟨Nat.zero_le _,.inr (.inr ⟨_,0,0,List.replicate n .ay,rfl,by simp,by simp,rfl⟩),(Ext.refl _).app _,λid h=>by cases h;exact Nat.le_refl _⟩
 ·simp only[go_sem,simprocAttr,hst]
  exact .nil (.refl _) _
 simp only[go_sem,simprocAttr,hb.ok,hb.un]
 refine bR.ret ?_
 simp only[go_sem,simprocAttr]
 exact⟨_,.refl _,hb.ext.le,hb⟩
theorem mF {α:Type}{ls:List (List α)}{i:Nat}{l:List α}(h:ls[i]?=some l):(ls.take (i+1)).flatten=(ls.take i).flatten++l:=by
 rw[ai h,List.flatten_append];simp
theorem va (ls:List (List Clause))(hls:ls.length≤1048576)(hn:ls.flatten.length≤1048576):
  ag prog W0 72 [.sl 50 (ls.map aA)] (aA ls.flatten):=by
 refine lZ [2] [] func72 rfl rfl ntmps72 rfl rfl (dz _) λhs σ=>?_
 have hfl: ∀i,(ls.take i).flatten.length≤1048576:=λi=>by
  have:ls.flatten.length=(ls.take i).flatten.length+(ls.drop i).flatten.length:=by
   rw[←List.length_append,←List.flatten_append,List.take_append_drop]
  omega
 simp only[go_sem,simprocAttr,List.length_map]
 refine af.at [0] (.of (by kernel_rfl)) (λA=>A.env 3= .int .i64 ls.flatten.length∧A.st=σ) ?_ λB ⟨h3,hst⟩=>?_
 ·refine af.upto [0,9,10] (.of (by kernel_rfl)) ls.length (λi A=>A.env 11= .int .i64 i∧A.st=σ∧A.env 3= .int .i64 (ls.take i).flatten.length) 0 (Nat.zero_le _) ?_ λi B hi ⟨h8,hst,h3⟩=>?_
  ·simp only[go_sem,simprocAttr]
   try simp
  simp only[go_sem,simprocAttr,h8,h3,hst,List.length_map]
  refine⟨λhc=>⟨hc,?_⟩,λhc=>by rw[List.take_of_length_le hc]⟩
  obtain⟨l,hl⟩:=get_some hc
  simp only[aw hl]
  have h1:=hfl i
  have h2:=hfl (i+1)
  rw[mF hl,List.length_append]at h2
  have hw:IntKind.i64.wrap (((ls.take i).flatten.length:Int)+(l.length:Int))=(((ls.take (i+1)).flatten.length:Nat):Int):=by
   rw[mF hl,List.length_append,aE (by omega),Int.natCast_add]
  simp only[go_sem,simprocAttr,aA,h8,h3,hst,List.length_map,hw]
  exact⟨λh=>absurd h (by omega),λ_=>⟨hc,ah hc (by rw[ar];omega)⟩⟩
 simp only[go_sem,simprocAttr,h3,hst]
 refine al.goes (by simp only[go_sem,simprocAttr,hst]) (IN σ _ hn) λr σ' hr=>?_
 simp only[go_sem,simprocAttr,h3,hst,hr.ok,hr.un,List.length_map]
 refine af.at [] (.of (by kernel_rfl)) (λA=>∃ v,A.env 6=v∧en σ A.st v 72 (ls.flatten.map aF)) ?_ λB ⟨v,h6,hb⟩=>?_
 ·refine af.upto [25,26] (.of (by kernel_rfl)) ls.length (λi A=>A.env 27= .int .i64 i∧ ∃v,A.env 6=v∧en σ A.st v 72 ((ls.take i).flatten.map aF)) 0 (Nat.zero_le _) ?_ λi B hi ⟨h8,v,h6,hb⟩=>?_
  ·simp only[go_sem,simprocAttr]
   exact⟨_,rfl,hr⟩
  simp only[go_sem,simprocAttr,h8,h6,List.length_map]
  refine⟨λhc=>⟨hc,?_⟩,λhc=>⟨_,rfl,by rw[List.take_of_length_le hc]at hb;exact hb⟩⟩
  obtain⟨l,hl⟩:=get_some hc
  have h2:=hfl (i+1)
  rw[mF hl,List.length_append]at h2
  simp only[aw hl]
  simp only[go_sem,simprocAttr,aA,h8,h6,hb.ok,hb.un,List.length_map]
  refine bN.iI 1048576 (by kernel_rfl) hb (.sl _ _ _) (by rw[List.length_map,List.length_map];exact h2) λv' st' hb'=>?_
  simp only[go_sem,simprocAttr,h8]
  refine⟨hc,ah hc (by rw[ar];omega),_,rfl,?_⟩
  rw[mF hl,List.map_append]
  exact hb'
 simp only[go_sem,simprocAttr,h6,hb.ok,hb.un]
 exact en.I5 (hb) (.inl rfl) (by simp only[go_sem,simprocAttr])
end Go.Proofs.Tryz
end
section
namespace Go.Av
theorem al.Mw {P:Program}{W0:World}{A:aa}{g:FuncId}{caps us:List AV}{dst:Option Nat}{k:aa→Prop}{r:AV}{σ:ab}(hσ:A.st=σ)(h:aZ P W0 g (us++caps) σ λr' σ'=>r'=r∧σ'=σ)(hk:k (A.put dst r)):al P W0 (.fn g caps) us dst A k .mk:=.go hσ h λr' σ' ⟨h1,h2⟩=>by
 subst h1 h2 hσ
 rwa [nN]
section
variable {P :Program}
@[go_sem] theorem RX (t t':TypeId)(id i:Nat)(path:List Nat):bU P .neq t (.ptr t' id i path) .nil=if eT P t then .bool true else .undef:=by simp only[bU,cc,jq,AV.fW,Bool.and_true];split<;>rfl
@[go_sem] theorem Rc (t t':TypeId)(id i:Nat)(path:List Nat):bY P .neq t (.ptr t' id i path) .nil=(eT P t=true):=by simp only[bY,cc,jq,AV.fW,Bool.and_true];split<;>simp_all
@[go_sem] theorem QN (t t':TypeId)(id i:Nat)(path:List Nat):bU P .eql t (.ptr t' id i path) .nil=if eT P t then .bool false else .undef:=by simp only[bU,cc,jq,AV.fW,Bool.and_true];split<;>rfl
@[go_sem] theorem QH (t t':TypeId)(id i:Nat)(path:List Nat):bY P .eql t (.ptr t' id i path) .nil=(eT P t=true):=by simp only[bY,cc,jq,AV.fW,Bool.and_true];split<;>simp_all
@[go_sem] theorem Pm (t:TypeId):bU P .eql t .nil .nil=if eT P t then .bool true else .undef:=by simp only[bU,cc,jq];split<;>rfl
@[go_sem] theorem PD (t:TypeId):bY P .eql t .nil .nil=(eT P t=true):=by simp only[bY,cc,jq];split<;>simp_all
end
structure Fr (F:List Nat)(σ σ':ab):Prop where
 len:σ.length≤σ'.length
 old: ∀j,j<σ.length→j∉F→σ'[j]?=σ[j]?
def bf :AV→List Nat
 | .own _ _ t=>[t]
 | .row _ id _ _=>[id]
 |_=>[]
theorem Fr.refl (F:List Nat)(σ:ab):Fr F σ σ:=⟨Nat.le_refl _,λ_ _ _=>rfl⟩
theorem Fr.ext {F:List Nat}{σ σ':ab}(h:Ext σ σ'):Fr F σ σ':=⟨h.le,λj hj _=>by
 have e:=congrArg (·[j]?) h
 simpa[List.getElem?_take,hj]using e⟩
theorem Fr.trans {F G:List Nat}{σ σ' σ'':ab}(h:Fr F σ σ')(h':Fr G σ' σ'')(hG: ∀j∈G,j∈F∨σ.length≤j):Fr F σ σ'':=⟨Nat.le_trans h.len h'.len,λj hj hF=>by
 rw[h'.old j (Nat.lt_of_lt_of_le hj h.len) (λe=>by rcases hG j e with h1|h1;exact hF h1;omega),h.old j hj hF]⟩
theorem Fr.set {F:List Nat}{σ σ':ab}(h:Fr F σ σ'){id:Nat}(hid:id∈F∨σ.length≤id)(o:Option cV):Fr F σ (σ'.set id o):=⟨by simpa using h.len,λj hj hF=>by
 rw[List.getElem?_set_ne (λe=>by subst e;rcases hid with h1|h1;exact hF h1;omega),h.old j hj hF]⟩
theorem Fr.app {F:List Nat}{σ σ':ab}(h:Fr F σ σ')(l:ab):Fr F σ (σ'++l):=⟨by have:=h.len;simp;omega,λj hj hF=>by
 rw[List.getElem?_append_left (by have:=h.len;omega),h.old j hj hF]⟩
theorem Fr.mono {F G:List Nat}{σ σ':ab}(h:Fr F σ σ')(hG: ∀j∈F,j∈G):Fr G σ σ':=⟨h.len,λj hj hF=>h.old j hj λe=>hF (hG j e)⟩
theorem Fr.qX {F:List Nat}{σ σ':ab}(h:Fr F σ σ'){τ:ab}(ht:Ext τ σ)(hF: ∀j∈F,τ.length≤j):Ext τ σ':=by
 refine List.ext_getElem? λi=>?_
 have:=ht.le
 have:=h.len
 rw[List.getElem?_take]
 by_cases hi:i<τ.length
 ·rw[if_pos hi,h.old i (by omega) (λe=>by have:=hF i e;omega)]
  have e:=congrArg (·[i]?) ht
  simpa[List.getElem?_take,hi]using e
 ·rw[if_neg hi,List.getElem?_eq_none (by omega)]
theorem gl {σ:ab}{id:Nat}{te:TypeId}{xs:List AV}(h:id<σ.length):live (σ.set id (some (.cells te xs))) id=True:=eq_true ⟨te,xs,by simp[h]⟩
theorem ax {σ:ab}{id:Nat}{te:TypeId}{xs:List AV}(h:σ[id]?=some (some (.cells te xs))):live σ id=True:=eq_true ⟨te,xs,h⟩
theorem Bld.notM {st:ab}{v:AV}{e:TypeId}{xs:List AV}(h:Bld st v e xs):cQ v:=by
 rcases h with⟨rfl,rfl⟩|rfl|⟨t,rfl,_⟩<;>trivial
theorem Bld.ok {st:ab}{v:AV}{e:TypeId}{xs:List AV}(h:Bld st v e xs)(g:Option Bool):okM g v=True:=bT h.notM
theorem Bld.un {st:ab}{v:AV}{e:TypeId}{xs:List AV}(h:Bld st v e xs):unm v=v:=cw h.notM
theorem Bld.len {st:ab}{v:AV}{e:TypeId}{xs:List AV}(h:Bld st v e xs):lV v= .int .i64 xs.length:=by
 rcases h with⟨rfl,rfl⟩|rfl|⟨t,rfl,_⟩<;>rfl
theorem Bld.fQ {st:ab}{v:AV}{e:TypeId}{xs:List AV}(h:Bld st v e xs)(P:Program)(t:TypeId):fQ P t v=((elT P t).isSome=true):=by
 rcases h with⟨rfl,rfl⟩|rfl|⟨t,rfl,_⟩<;>rfl
theorem Bld.fits {st:ab}{v:AV}{e:TypeId}{xs:List AV}(h:Bld st v e xs)(P:Program)(t:TypeId):bn P t v=cD P t:=by
 rcases h with⟨rfl,rfl⟩|rfl|⟨t,rfl,_⟩<;>rfl
theorem dh.fits {st:ab}{v:AV}{e:TypeId}{xs:List AV}(h:dh st v e xs)(P:Program)(t:TypeId):bn P t v=cD P t:=by
 rcases h with⟨rfl,rfl⟩|rfl|⟨_,_,_,_,rfl,_⟩<;>rfl
theorem dh.notM {st:ab}{v:AV}{e:TypeId}{xs:List AV}(h:dh st v e xs):cQ v:=by
 rcases h with⟨rfl,rfl⟩|rfl|⟨_,_,_,_,rfl,_⟩<;>trivial
theorem dh.ok {st:ab}{v:AV}{e:TypeId}{xs:List AV}(h:dh st v e xs)(g:Option Bool):okM g v=True:=bT h.notM
theorem dh.un {st:ab}{v:AV}{e:TypeId}{xs:List AV}(h:dh st v e xs):unm v=v:=cw h.notM
theorem bN.yK {P:Program}{A:aa}{σ:ab}{t u e:TypeId}{x y:AV}{xs ys:List AV}{dst:Option Nat}{k:aa→Prop}(hσ:A.st=σ)(N:Nat)(ho:xh P t u e N=true)(hb:Bld σ x e xs)(hy:eY σ y e ys)(hN:xs.length+ys.length≤N)
  (hk: ∀v σ',App σ x e (xs++ys) v σ'→k ((A.put dst v).an σ')):bN P [t,u] [x,y] dst A k .mk:=by
 subst hσ
 exact .own N ho hb hy hN hk
def dB (σ:ab)(x:AV)(e:TypeId)(xs:List AV):Prop:=(x= .ay∧xs=[])∨ ∃id off m zs,x= .row e id off m∧σ[id]?=some (some (.cells e zs))∧off+m≤zs.length∧xs=(zs.drop off).take m
theorem dB.st {σ:ab}{v:AV}{e:TypeId}{xs:List AV}(h:dB σ v e xs):dh σ v e xs:=by
 rcases h with h|h
 ·exact .inl h
 ·exact .inr (.inr h)
def rF (a b:Nat):AV→AV
 | .row e id off _=>.row e id (off+a) (b-a)
 |v=>v
@[go_sem] theorem UH (a b:Nat)(e:TypeId)(id off m:Nat):rF a b (.row e id off m)= .row e id (off+a) (b-a):=rfl
@[go_sem] theorem Q5 (a b:Nat):rF a b .ay= .ay:=rfl
theorem dB.AJ {σ:ab}{e:TypeId}{xs:List AV}{id off m:Nat}{zs:List AV}(h:off+m≤zs.length)(hx:xs=(zs.drop off).take m):xs.length=m:=by
 rw[hx];simp;omega
theorem dB.N3 {σ:ab}{v:AV}{e:TypeId}{xs:List AV}(h:dB σ v e xs)(A:aa)(lo hi:Option Operand):j1 A lo hi v=rF (cW A 0 lo) (cW A xs.length hi) v:=by
 rcases h with⟨rfl,rfl⟩|⟨id,off,m,zs,rfl,h1,h2,h3⟩
 ·rfl
 ·rw[dB.AJ (σ:=σ) (e:=e) (id:=id) h2 h3];rfl
theorem dB.lr {P:Program}{gd:Option Bool}{σ:ab}{v:AV}{e:TypeId}{xs:List AV}(h:dB σ v e xs){t:TypeId}(ht:elT P t=some e)(A:aa)(lo hi:Option Operand):iX P gd A t lo hi v=(0<ae P e∧Go.Av.lr gd A lo hi xs.length):=by
 rcases h with⟨rfl,rfl⟩|⟨id,off,m,zs,rfl,h1,h2,h3⟩
 ·rw[zB,ht]
  simp only[Option.isSome_some,true_and,Option.getD_some,Go.Av.lr,List.length_nil,Nat.le_zero]
  have:imp gd (cW A 0 lo=0∧cW A 0 hi=0)=imp gd (cW A 0 lo≤cW A 0 hi∧cW A 0 hi=0):=by
   congr 1
   refine propext ⟨λ⟨h1,h2⟩=>⟨by omega,h2⟩,λ⟨h1,h2⟩=>⟨by omega,h2⟩⟩
  rw[this]
 ·rw[A4,ht,dB.AJ (σ:=σ) (e:=e) (id:=id) h2 h3]
  simp
theorem dB.cut {σ:ab}{v:AV}{e:TypeId}{xs:List AV}(h:dB σ v e xs){a b:Nat}(hab:a≤b)(hb:b≤xs.length):dB σ (rF a b v) e ((xs.drop a).take (b-a)):=by
 rcases h with⟨rfl,rfl⟩|⟨id,off,m,zs,rfl,h1,h2,h3⟩
 ·exact .inl ⟨rfl,by simp⟩
 ·have hl:=dB.AJ (σ:=σ) (e:=e) (id:=id) h2 h3
  refine .inr ⟨id,off+a,b-a,zs,rfl,h1,by omega,?_⟩
  rw[h3,List.drop_take,List.drop_drop,List.take_take,Nat.min_eq_left (by omega)]
theorem mQ (a b:Nat)(v:AV):bf (rF a b v)=bf v:=by cases v<;>rfl
theorem dB.ey {st st':ab}{v:AV}{e:TypeId}{xs:List AV}(h:dB st v e xs)(hk: ∀j∈bf v,st'[j]?=st[j]?):dB st' v e xs:=by
 rcases h with h|⟨id,off,m,zs,rfl,h,h2⟩
 ·exact .inl h
 ·exact .inr ⟨id,off,m,zs,rfl,by rw[hk id (by simp[bf]),h],h2⟩
theorem dB.lt {st:ab}{v:AV}{e:TypeId}{xs:List AV}(h:dB st v e xs): ∀j∈bf v,j<st.length:=by
 rcases h with⟨rfl,_⟩|⟨id,off,m,zs,rfl,h,_⟩
 ·simp[bf]
 ·intro j hj;simp[bf]at hj;subst hj;exact(List.getElem?_eq_some_iff.1 h).1
theorem dB.ne {st:ab}{v:AV}{e te:TypeId}{xs ys:List AV}(h:dB st v e xs){id:Nat}(hid:st[id]?=some (some (.cells te ys)))(ht:te≠e):id∉bf v:=λhj=>by
 rcases h with⟨rfl,_⟩|⟨id',off,m,zs,rfl,h,_⟩
 ·simp[bf]at hj
 ·simp[bf]at hj;subst hj;rw[hid]at h;cases h;exact ht rfl
structure Sz (σ:ab)(x:AV)(e:TypeId)(zs:List AV)(v:AV)(σ':ab):Prop where
 row:dB σ' v e zs
 fr:Fr (bf x) σ σ'
 bf: ∀j∈bf v,j∈bf x∨σ.length≤j
theorem bN.wo {P:Program}{A:aa}{σ:ab}{t u e:TypeId}{x y:AV}{xs ys:List AV}{dst:Option Nat}{k:aa→Prop}(hσ:A.st=σ)(N:Nat)(ho:xh P t u e N=true)(hb:dB σ x e xs)(hy:eY σ y e ys)(hN:xs.length+ys.length≤N)
  (hk: ∀v σ',Sz σ x e (xs++ys) v σ'→k ((A.put dst v).an σ')):bN P [t,u] [x,y] dst A k .mk:=by
 subst hσ
 have hkl:(bQ x A.st).length=A.st.length:=by unfold bQ;split<;>simp
 refine bN.row N ho hb.st hy hN (λhe=>hk _ _ ⟨by rw[he,List.append_nil];exact hb,.refl _ _,λj hj=>.inl hj⟩) λhe=>hk _ _ ⟨.inr ⟨A.st.length,0,_,xs++ys,rfl,?_,by simp,by rw[List.drop_zero,List.take_of_length_le (by simp)]⟩,?_,λj hj=>?_⟩
 ·rw[←hkl,List.getElem?_append_right (Nat.le_refl _),Nat.sub_self]
  rfl
 ·refine Fr.app ?_ _
  unfold bQ
  split
  ·exact(Fr.refl _ _).set (.inl (by simp[Go.Av.bf])) _
  ·exact .refl _ _
 ·simp[Go.Av.bf]at hj
  subst hj
  exact .inr (Nat.le_refl _)
theorem Bld.cG {st:ab}{v:AV}{e:TypeId}{xs:List AV}(h:Bld st v e xs):cT v (.sl e xs):=by
 rcases h with⟨rfl,rfl⟩|rfl|⟨t,rfl,_⟩
 ·exact .ay _
 ·exact .lit _ _
 ·exact .own _ _ _
theorem App.fr {σ σ':ab}{x v:AV}{e:TypeId}{zs:List AV}(h:App σ x e zs v σ'):Fr (bf x) σ σ':=⟨h.len,λj hj hF=>h.old j hj λe=>hF (by cases x<;>simp[eR]at e;subst e;simp[bf])⟩
theorem yD {st:ab}{v:AV}{e:TypeId}{xs:List AV}(h:Bld st v e xs){j:Nat}:j∈bf v↔eR v=some j:=by
 rcases h with⟨rfl,rfl⟩|rfl|⟨t,rfl,_⟩
 ·simp[bf,eR]
 ·simp[bf,eR]
 ·simp[bf,eR];exact eq_comm
theorem App.bf {σ σ':ab}{x v:AV}{e:TypeId}{zs xs:List AV}(h:App σ x e zs v σ')(hx:Bld σ x e xs): ∀j∈bf v,j∈bf x∨σ.length≤j:=λj hj=>by
 rw[yD h.bld]at hj
 rw[yD hx]
 rcases h.tok with e1|⟨t,e1,e2⟩
 ·left;rw[←e1];exact hj
 ·right;rw[e1]at hj;cases hj;exact e2
theorem Bld.ey {st st':ab}{v:AV}{e:TypeId}{xs:List AV}(h:Bld st v e xs)(hk: ∀j∈bf v,st'[j]?=st[j]?):Bld st' v e xs:=by
 rcases h with h|h|⟨t,rfl,h⟩
 ·exact .inl h
 ·exact .inr (.inl h)
 ·exact .inr (.inr ⟨t,rfl,by rw[hk t (by simp[bf]),h]⟩)
theorem Bld.lt {st:ab}{v:AV}{e:TypeId}{xs:List AV}(h:Bld st v e xs): ∀j∈bf v,j<st.length:=by
 rcases h with⟨rfl,_⟩|rfl|⟨t,rfl,h⟩
 ·simp[bf]
 ·simp[bf]
 ·intro j hj;simp[bf]at hj;subst hj;exact(List.getElem?_eq_some_iff.1 h).1
theorem Bld.ne {st:ab}{v:AV}{e:TypeId}{xs:List AV}(h:Bld st v e xs){id:Nat}{o:cV}(hid:st[id]?=some (some o))(ho:o≠ .tok):id∉bf v:=λhj=>by
 rcases h with⟨rfl,_⟩|rfl|⟨t,rfl,h⟩
 ·simp[bf]at hj
 ·simp[bf]at hj
 ·simp[bf]at hj;subst hj;rw[hid]at h;cases h;exact ho rfl
theorem dh.ey {st st':ab}{v:AV}{e:TypeId}{xs:List AV}(h:dh st v e xs)(hk: ∀j∈bf v,st'[j]?=st[j]?):dh st' v e xs:=by
 rcases h with h|h|⟨id,off,m,zs,rfl,h,h2⟩
 ·exact .inl h
 ·exact .inr (.inl h)
 ·exact .inr (.inr ⟨id,off,m,zs,rfl,by rw[hk id (by simp[bf]),h],h2⟩)
theorem dh.lt {st:ab}{v:AV}{e:TypeId}{xs:List AV}(h:dh st v e xs): ∀j∈bf v,j<st.length:=by
 rcases h with⟨rfl,_⟩|rfl|⟨id,off,m,zs,rfl,h,_⟩
 ·simp[bf]
 ·simp[bf]
 ·intro j hj;simp[bf]at hj;subst hj;exact(List.getElem?_eq_some_iff.1 h).1
def yR (M:Nat→Bool)(l:Int):Bool:=if 0<l then M l.natAbs else !M l.natAbs
def uA (M:Nat→Bool)(c:List Int):Bool:=c.any (yR M)
def fN (M:Nat→Bool)(cls:List (List Int)):Bool:=cls.all (uA M)
def wfL (n:Nat)(l:Int):Bool:=decide (l≠0)&&decide (l.natAbs≤n)
def wfC (n:Nat)(c:List Int):Bool:=c.all (wfL n)
theorem xQ {M:Nat→Bool}{l:Int}(h:l≠0):yR M (-l)= !yR M l:=by
 unfold yR
 rw[Int.natAbs_neg]
 by_cases h1:0<l
 ·rw[if_pos h1,if_neg (by omega)]
 ·rw[if_neg h1,if_pos (by omega),Bool.not_not]
theorem vT {M:Nat→Bool}{c d:List Int}(h: ∀l,l∈c↔l∈d):uA M c=uA M d:=by
 unfold uA
 rw[Bool.eq_iff_iff,List.any_eq_true,List.any_eq_true]
 exact⟨λ⟨l,h1,h2⟩=>⟨l,(h l).1 h1,h2⟩,λ⟨l,h1,h2⟩=>⟨l,(h l).2 h1,h2⟩⟩
end Go.Av
end
section
namespace Go.Proofs.Tryz
open Go Go.Av
set_option maxRecDepth 10000
variable {W0 :World}
theorem O4 {α:Type}(enc:α→AV)(hp: ∀a,cQ (enc a))(l:List α)(q:α→Bool)(g:FuncId)(caps:List AV)(σ:ab)(h: ∀a∈l,aZ prog W0 g ([enc a]++caps) σ λr σ'=>r= .bool (q a)∧σ'=σ):
  aZ prog W0 195 [.sl 135 (l.map enc),.fn g caps] σ λr σ'=>r= .int .i64 (gy q l)∧σ'=σ:=by
 refine om [4] [] func195 rfl rfl ntmps195 rfl rfl (.int _ _) λhs=>?_
 have hl:=(aO (hs _ (List.mem_cons_self ..))).1
 simp only[go_sem,simprocAttr]
 refine af.upto [0,1,7] (.of (by kernel_rfl)) l.length (λi A=>A.env 8= .int .i64 i∧A.st=σ∧ ∀a∈l.take i,q a=false) 0 (Nat.zero_le _) ?_ λi B hi ⟨h8,hst,hI⟩=>?_
 ·simp only[go_sem,simprocAttr]
  all_goals simp
 simp only[go_sem,simprocAttr,h8,hst,List.length_map]
 refine⟨λhc=>⟨hc,?_⟩,λhc=>bR.ret ?_⟩
 ·obtain⟨a,ha⟩:=get_some hc
  simp only[aw ha,bT (hp a),cw (hp a),true_and]
  refine al.Mw (by simp only[go_sem,simprocAttr,hst]) (h a (List.mem_of_getElem? ha)) ?_
  simp only[go_sem,simprocAttr,h8,hst]
  refine⟨λhq=>bR.ret ?_,λhq=>⟨hc,ah hc hl,?_⟩⟩
  ·simp only[go_sem,simprocAttr,hst]
   exact aq (fj ha hq hI).symm
  rw[ai ha]
  intro b hb
  rcases List.mem_append.1 hb with hb|hb
  ·exact hI b hb
  ·rw[List.mem_singleton.1 hb];exact hq
 ·simp only[go_sem,simprocAttr,hst]
  rw[di (by rwa [List.take_of_length_le hc]at hI)]
  exact .refl _
theorem N6 {α:Type}(enc:α→AV)(hp: ∀a,cQ (enc a))(l:List α)(q:α→Bool)(g:FuncId)(caps:List AV)(σ:ab)(h: ∀a∈l,aZ prog W0 g ([enc a]++caps) σ λr σ'=>r= .bool (q a)∧σ'=σ):
  aZ prog W0 139 [.sl 135 (l.map enc),.fn g caps] σ λr σ'=>r= .bool (l.any q)∧σ'=σ:=by
 refine om [4] [] func139 rfl rfl ntmps139 rfl rfl (.bool _) λhs=>?_
 simp only[go_sem,simprocAttr]
 refine al.reads (by simp only[go_sem,simprocAttr]) (O4 enc hp l q g caps σ h) ?_
 simp only[go_sem,simprocAttr]
 refine bR.ret ?_
 simp only[go_sem,simprocAttr]
 rw[iR]
 exact .refl _
theorem lC (l:Int)(h:l.natAbs≤9223372036854775807):ag prog W0 185 [.int .i64 l] (.int .u64 (l.natAbs:Nat)):=by
 refine aj [2] [] func185 rfl rfl ntmps185 rfl rfl (.int _ _) λhs σ=>?_
 simp only[go_sem,simprocAttr]
 refine⟨λh0=>aq ?_,λh0=>aq ?_⟩
 ·rw[IntKind.wrap_u64,IntKind.wrap_u64];omega
 ·rw[IntKind.wrap_u64];omega
def ez (c:List Int):AV:=.sl 135 (c.map (.int .i64))
def Ae (l:List (List Int)):AV:=.sl 136 (l.map ez)
theorem cQ.int64 (n:Int):cQ (AV.int .i64 n):=trivial
theorem cQ.lits (c:List Int):cQ (ez c):=trivial
@[go_sem] theorem OV (g:Option Bool)(l:List Int):okM g (ez l)=True:=eq_true trivial
@[go_sem] theorem M7 (l:List Int):unm (ez l)=ez l:=rfl
@[go_sem] theorem Jb (P:Program)(t:TypeId)(l:List Int):bn P t (ez l)=cD P t:=rfl
def tD (n:Nat)(cv:AV):Option cV:=some (.cells 191 [.agg 191 [.int .i64 n,cv]])
theorem K3 (σ:ab)(id n:Nat)(cv:AV)(hid:σ[id]?=some (tD n cv))(hn:n≤9223372036854775807)(l:Int)(hl:l.natAbs≤9223372036854775807):
  aZ prog W0 184 [.int .i64 l,.loc 130 (.ptr 191 id 0 [])] σ λr σ'=>r= .bool (!wfL n l)∧σ'=σ:=by
 refine om [3] [] func184 rfl rfl ntmps184 rfl rfl (.bool _) λhs=>?_
 simp only[go_sem,simprocAttr]
 refine⟨.of (by kernel_rfl),az.fnG (λ_=>lC l hl) ?_⟩
 simp only[go_sem,simprocAttr,au hid]
 refine bR.ret ?_
 simp only[go_sem,simprocAttr]
 refine ak ?_
 have hw:IntKind.u64.wrap (n:Int)=n:=by rw[IntKind.wrap_u64];omega
 rw[hw,wfL,Bool.not_and,←decide_not,←decide_not]
 congr 1
 ·rw[Bool.eq_iff_iff];simp
 ·exact decide_eq_decide.2 (by omega)
theorem Ny (σ:ab)(id n:Nat)(cv:AV)(cls:List (List Int))(hid:σ[id]?=some (tD n cv))(hb:Bld σ cv 136 (cls.map ez))(hn:n≤9223372036854775807)(hc5:cls.length<5000)(c:List Int)(hc: ∀l∈c,l.natAbs≤9223372036854775807):
  aZ prog W0 134 [.ptr 191 id 0 [],ez c] σ λr σ'=>r= .bool (wfC n c)∧σ'=σ:=by
 refine om [4] [2] func134 rfl rfl ntmps134 rfl rfl (.bool _) λhs=>?_
 have h5:decide ((cls.length:Int)<5000)=true:=decide_eq_true (by omega)
 simp only[go_sem,simprocAttr,au hid,hb.ok,hb.un,hb.len,hb.fQ,List.length_map,h5]
 refine az.st (λ_=>N6 (.int .i64) cQ.int64 c (λl=>!wfL n l) _ [.loc 130 (.ptr 191 id 0 [])] σ λl hl=>K3 σ id n cv hid hn l (hc l hl)) ?_
 simp only[go_sem,simprocAttr]
 refine bR.ret ?_
 simp only[go_sem,simprocAttr]
 refine ak ?_
 rw[wfC,List.all_eq_not_any_not]
theorem zy (σ:ab)(c:List Int)(h0:c≠[])(hl:c.length≤1048576):aZ prog W0 186 [ez c] σ λr σ'=>r= .row 135 σ.length 0 c.length∧σ'=σ++[some (.cells 135 (c.map (.int .i64)))]:=by
 refine cO [2] [] func186 rfl rfl ntmps186 rfl rfl λhs=>?_
 cases c with
 |nil=>exact absurd rfl h0
 |cons x c=>
  simp only[go_sem,simprocAttr,ez]
  refine bN.row 1048576 (by kernel_rfl) (.inr (.inl rfl)) (.sl _ _ _) (by simpa using hl) (λh=>by cases h) λ_=>?_
  simp only[go_sem,simprocAttr]
  refine bR.ret ?_
  simp only[go_sem,simprocAttr]
  exact⟨_,.refl _,by simp[bQ],by simp,rfl⟩
end Go.Proofs.Tryz
end
section
namespace Go.Proofs.Tryz
open Go Go.Av
set_option maxRecDepth 10000
variable {W0 :World}
def ints (ys:List Int):Option cV:=some (.cells 135 (ys.map (.int .i64)))
def Uv (σ st:ab)(id:Nat)(xs:List Int):Prop:=∃ ys:List Int,ys.Perm xs∧st=σ.set id (ints ys)
end Go.Proofs.Tryz
end
section
namespace Go.Proofs.Tryz
open Go Go.Av
set_option maxRecDepth 10000
variable {W0 :World}
def zL (σ st:ab)(id:Nat)(xs:List Int):Prop:=(∃ys:List Int,ys.Perm xs∧st[id]?=some (ints ys))∧Fr [id] σ st
theorem zL.of {σ st:ab}{id:Nat}{xs:List Int}(hid:id<σ.length)(h:Uv σ st id xs):zL σ st id xs:=by
 obtain⟨ys,hp,rfl⟩:=h
 exact⟨⟨ys,hp,List.getElem?_set_self hid⟩,⟨by simp,λj hj hn=>List.getElem?_set_ne λe=>hn (by simp[e])⟩⟩
theorem zL.step {σ τ st:ab}{id:Nat}{xs ys:List Int}(h1:Fr [id] σ τ)(hy:ys.Perm xs)(h2:zL τ st id ys):zL σ st id xs:=by
 obtain⟨⟨zs,hz,hs⟩,hf⟩:=h2
 exact⟨⟨zs,hz.trans hy,hs⟩,⟨Nat.le_trans h1.len hf.len,λj hj hn=>by rw[hf.old j (Nat.lt_of_lt_of_le hj h1.len) hn,h1.old j hj hn]⟩⟩
end Go.Proofs.Tryz
end
section
namespace Go.Proofs.Tryz
open Go Go.Av
set_option maxRecDepth 10000
variable {W0 :World}
theorem Mo (σ:ab)(n:Nat)(hn:n≤200):aZ prog W0 71 [.int .i64 n] σ λr σ'=>r= .ptr 191 σ.length 0 []∧σ'=σ++[tD n .ay]:=by
 refine cO [2] [] func71 rfl rfl ntmps71 rfl rfl λhs=>?_
 have e1:ry (n:Int) 200=n:=by unfold ry;split<;>omega
 have e2:xD 0 (n:Int)=n:=by unfold xD;split<;>omega
 simp only[go_sem,simprocAttr,e1,e2]
 refine bR.ret ?_
 simp only[go_sem,simprocAttr]
 exact⟨_,.refl _,by simp,rfl,rfl⟩
end Go.Proofs.Tryz
end
section
namespace Go.Av
def ug (ord:List Int)(l:Int):Int:=if l∈ord then 1 else if-l∈ord then-1 else 0
structure dI (n:Nat)(ord:List Int):Prop where
 nd:(ord.map Int.natAbs).Nodup
 wf: ∀l∈ord,l≠0∧l.natAbs≤n
theorem dI.cons {n:Nat}{ord:List Int}(h:dI n ord){l:Int}(hl:l∈ord): -l∉ord:=λhn=>by
 have h0:=(h.wf l hl).1
 obtain⟨i,hi,he⟩:=List.getElem_of_mem hl
 obtain⟨j,hj,he'⟩:=List.getElem_of_mem hn
 have:i=j:=(List.getElem_inj (i:=i) (j:=j) (h₀:=by simpa using hi) (h₁:=by simpa using hj) h.nd).1 (by simp[he,he'])
 subst this
 rw[he]at he'
 omega
theorem tW (ord:List Int)(l:Int):(ug ord l=1∧l∈ord)∨(ug ord l= -1∧l∉ord∧ -l∈ord)∨(ug ord l=0∧l∉ord∧ -l∉ord):=by
 unfold ug
 by_cases h1:l∈ord
 ·left;simp[h1]
 ·by_cases h2: -l∈ord
  ·right;left;simp[h1,h2]
  ·right;right;simp[h1,h2]
theorem dI.nil (n:Nat):dI n []:=⟨by simp,by simp⟩
theorem dI.app {n:Nat}{ord:List Int}(h:dI n ord){l:Int}(h0:l≠0)(hn:l.natAbs≤n)(hv:ug ord l=0):dI n (ord++[l]):=by
 refine⟨?_,λm hm=>?_⟩
 ·rw[List.map_append,List.nodup_append]
  refine⟨h.nd,by simp,λa ha b hb=>?_⟩
  obtain⟨m,hm,rfl⟩:=List.mem_map.1 ha
  simp at hb
  subst hb
  intro e
  rcases tW ord l with⟨h1,h2⟩|⟨h1,h2⟩|⟨h1,h2,h3⟩
  ·omega
  ·omega
  ·rcases Int.natAbs_eq_natAbs_iff.1 e with e|e
   ·exact h2 (e▸hm)
   ·exact h3 (e▸hm)
 ·rcases List.mem_append.1 hm with h1|h1
  ·exact h.wf m h1
  ·rw[List.mem_singleton.1 h1];exact⟨h0,hn⟩
theorem dI.take {n:Nat}{ord:List Int}(h:dI n ord)(k:Nat):dI n (ord.take k):=⟨by rw[List.map_take];exact List.Nodup.sublist (List.take_sublist _ _) h.nd,λl hl=>h.wf l (List.mem_of_mem_take hl)⟩
theorem dI.sub {n:Nat}{o p:List Int}(h:dI n p)(hs:o.Sublist p):dI n o:=⟨List.Nodup.sublist (hs.map _) h.nd,λl hl=>h.wf l (hs.subset hl)⟩
theorem zg : ∀(n:Nat) (l:List Nat),l.Nodup→(∀x∈l,x<n)→l.length≤n
 |0,l,_,h=>by
  cases l with
  |nil=>simp
  |cons x l=>exact absurd (h x (by simp)) (by omega)
 |n+1,l,hd,h=>by
  have:=zg n (l.erase n) (hd.erase n) λx hx=>by
   have h1:=(List.Nodup.mem_erase_iff hd).1 hx
   have:=h x h1.2
   have:=h1.1
   omega
  rw[List.length_erase]at this
  split at this<;>omega
theorem dI.len {n:Nat}{ord:List Int}(h:dI n ord):ord.length≤n:=by
 have:=zg (n+1) (0::ord.map Int.natAbs) (List.nodup_cons.2 ⟨λh0=>by
  obtain⟨l,hl,e⟩:=List.mem_map.1 h0
  exact(h.wf l hl).1 (Int.natAbs_eq_zero.1 e),h.nd⟩) λx hx=>by
   rcases List.mem_cons.1 hx with rfl|hx
   ·omega
   ·obtain⟨l,hl,rfl⟩:=List.mem_map.1 hx
    have:=(h.wf l hl).2
    omega
 simp at this
 exact this
def Agr (M:Nat→Bool)(ord:List Int):Prop:=∀ l∈ord,yR M l=true
theorem Agr.neg {M:Nat→Bool}{n:Nat}{ord:List Int}(h:Agr M ord)(hg:dI n ord){l:Int}(hv:ug ord l= -1):yR M l=false:=by
 rcases tW ord l with⟨h1,_⟩|⟨_,_,h2⟩|⟨h1,_⟩
 ·omega
 ·have h0:=(hg.wf _ h2).1
  have:=h _ h2
  rw[xQ (by omega)]at this
  simpa using this
 ·omega
def FO (ord c:List Int):Bool:=!c.any λl=>decide (0≤ug ord l)
end Go.Av
end
section
namespace Go.Proofs.Tryz
open Go Go.Av
set_option maxRecDepth 10000
variable {W0 :World}
variable {σ :ab}{tid vid n:Nat}{cv ov lv:AV}{cls:List (List Int)}{ord:List Int}{lev:List Nat}
theorem dB.at {st:ab}{v:AV}{e:TypeId}{xs:List AV}{i:Nat}{x:AV}(h:dB st v e xs)(hx:xs[i]?=some x): ∃id off m zs,v= .row e id off m∧st[id]?=some (some (.cells e zs))∧m=xs.length∧zs[off+i]?=some x:=by
 rcases h with⟨_,rfl⟩|⟨id,off,m,zs,rfl,h1,h2,h3⟩
 ·simp at hx
 ·refine⟨id,off,m,zs,rfl,h1,(dB.AJ (σ:=st) (e:=e) (id:=id) h2 h3).symm,?_⟩
  rw[h3,List.getElem?_take,List.getElem?_drop]at hx
  split at hx
  ·exact hx
  ·cases hx
end Go.Proofs.Tryz
end
section
namespace Go.Proofs.Tryz
open Go Go.Av
set_option maxRecDepth 10000
variable {W0 :World}
variable {σ :ab}{tid vid n:Nat}{cv ov lv:AV}{cls:List (List Int)}{ord:List Int}{lev:List Nat}
structure Own (τ:ab)(tid:Nat)(cv:AV)(vid:Nat)(ov lv:AV):Prop where
 tid:τ.length≤tid
 vid:τ.length≤vid
 cv: ∀j∈bf cv,τ.length≤j
 ov: ∀j∈bf ov,τ.length≤j
 lv: ∀j∈bf lv,τ.length≤j
end Go.Proofs.Tryz
end
section
namespace Go.Av
def DG (ord:List Int)(stk:List (Nat×Int))(M:Nat→Bool):Prop:=∃ p∈stk,0<p.2∧Agr M (ord.take p.1)∧yR M p.2=true
def tR (n:Nat)(cls:List (List Int))(ord:List Int):Nat→List (Nat×Int)→Prop
 |lo,[]=>lo≤ord.length
 |lo,p::r=>lo≤p.1∧p.1<ord.length∧p.2≠0∧p.2.natAbs≤n∧ug (ord.take p.1) p.2=0∧cls.any (FO (ord.take p.1))=false∧tR n cls ord (p.1+1) r
theorem tR.app {n:Nat}{cls:List (List Int)}{ord:List Int}{k:Nat}{d:Int}{o2:List Int}: ∀{lo:Nat} {stk:List (Nat×Int)},tR n cls ord lo stk→(∀i,i≤ord.length→o2.take i=ord.take i)→k=ord.length→k<o2.length→d≠0→d.natAbs≤n→ug ord d=0→cls.any (FO ord)=false→tR n cls o2 lo (stk++[(k,d)])
 |lo,[],h,ho,hk,hk2,h0,hn,hv,hc=>by
  have e:o2.take k=ord:=by rw[ho k (by omega),hk,List.take_length]
  refine⟨by rw[hk];exact h,hk2,h0,hn,by show ug (o2.take k) d=0;rw[e];exact hv,by show cls.any (FO (o2.take k))=false;rw[e];exact hc,?_⟩
  show k+1≤o2.length
  omega
 |lo,p::r,⟨h1,h2,h3,h4,h5,h6,h7⟩,ho,hk,hk2,h0,hn,hv,hc=>⟨h1,by omega,h3,h4,by rw[ho _ (by omega)];exact h5,by rw[ho _ (by omega)];exact h6,h7.app ho hk hk2 h0 hn hv hc⟩
theorem tR.le {n:Nat}{cls:List (List Int)}{ord:List Int}: ∀{lo:Nat} {stk:List (Nat×Int)},tR n cls ord lo stk→lo+stk.length≤ord.length
 |lo,[],h=>by simp only[tR]at h;simpa using h
 |lo,p::r,⟨h1,_,_,_,_,_,h7⟩=>by have:=h7.le;simp;omega
theorem DG.take {ord:List Int}{stk:List (Nat×Int)}{M:Nat→Bool}{k:Nat}(hk: ∀p∈stk,p.1≤k)(h:DG ord stk M):DG (ord.take k) stk M:=by
 obtain⟨p,h1,h2,h3,h4⟩:=h
 exact⟨p,h1,h2,by rw[List.take_take,Nat.min_eq_left (hk p h1)];exact h3,h4⟩
theorem DG.more {ord o2:List Int}{stk:List (Nat×Int)}{M:Nat→Bool}(ho: ∀p∈stk,o2.take p.1=ord.take p.1)(h:DG ord stk M)(q:List (Nat×Int)):DG o2 (stk++q) M:=by
 obtain⟨p,h1,h2,h3,h4⟩:=h
 exact⟨p,by simp[h1],h2,by rw[ho p h1];exact h3,h4⟩
end Go.Av
end
section
namespace Go.Proofs.Tryz
open Go Go.Av
set_option maxRecDepth 10000
variable {W0 :World}
variable {τ σ:ab}{xid tid vid n:Nat}{cv ov lv dv:AV}{z:Int}{cls:List (List Int)}{ord dec asm:List Int}{lev lev0:List Nat}{stk:List (Nat×Int)}{base:Nat}
structure Lx (n:Nat)(cls:List (List Int)):Prop where
 small:n≤200
 len:cls.length≤5000
 wf: ∀c∈cls,c≠[]∧c.length≤1048576∧ ∀l∈c,l≠0∧l.natAbs≤n
theorem IF {n:Nat}{l:Int}:wfL n l=true↔l≠0∧l.natAbs≤n:=by simp[wfL]
end Go.Proofs.Tryz
end
section
namespace Go.Av
def eA (i:Nat):Int:=((i+1:Nat):Int)
def gZ (c:Clause):Nat→List Pkg→List Int
 |_,[]=>[]
 |i,q::r=>(if c.any (eu q)=true then [eA i]else [])++gZ c (i+1) r
def uv (all:List Pkg)(i:Nat)(c:Clause):List Int:=-eA i::gZ c 0 all
def xn (p:Pkg)(i:Nat):Nat→List Pkg→List (List Int)
 |_,[]=>[]
 |k,q::r=>(if (p.name==q.name||fp p q)=true then [[-eA i,-eA k]]else [])++xn p i (k+1) r
def Ow (all:List Pkg)(i:Nat)(p:Pkg):List (List Int):=(p.pre++p.dep).map (uv all i)++xn p i 0 (all.take i)
def rz (all:List Pkg):Nat→List Pkg→List (List Int)
 |_,[]=>[]
 |i,p::r=>Ow all i p++rz all (i+1) r
theorem vI {c:Clause}: ∀{i:Nat} {l:List Pkg} {x:Int},x∈gZ c i l→ ∃k q,l[k]?=some q∧x=eA (i+k)
 |i,[],x,h=>by simp[gZ]at h
 |i,q::r,x,h=>by
  rw[gZ,List.mem_append]at h
  rcases h with h|h
  ·split at h
   ·simp at h;exact⟨0,q,rfl,by simpa using h⟩
   ·simp at h
  ·obtain⟨k,q',h1,h2⟩:=vI h
   exact⟨k+1,q',by simpa using h1,by rw[h2];congr 1;omega⟩
theorem lS {c:Clause}: ∀(i:Nat) (l:List Pkg),(gZ c i l).Nodup∧ ∀x∈gZ c i l,eA i≤x
 |i,[]=>by simp[gZ]
 |i,q::r=>by
  obtain⟨h1,h2⟩:=lS (c:=c) (i+1) r
  rw[gZ]
  refine⟨List.nodup_append.2 ⟨by split<;>simp,h1,λa ha b hb=>?_⟩,λx hx=>?_⟩
  ·split at ha
   ·simp at ha
    have:=h2 b hb
    subst ha
    unfold eA at *
    omega
   ·simp at ha
  ·rcases List.mem_append.1 hx with h|h
   ·split at h
    ·simp at h;omega
    ·simp at h
   ·have:=h2 x h
    unfold eA at *
    omega
theorem uK {c:Clause}: ∀(i:Nat) (l:List Pkg),(gZ c i l).length≤l.length
 |i,[]=>by simp[gZ]
 |i,q::r=>by
  have:=uK (c:=c) (i+1) r
  rw[gZ,List.length_append]
  split<;>simp<;>omega
theorem vn {p:Pkg}{i:Nat}: ∀(l:List Pkg) (j k:Nat) (q:Pkg),l[k]?=some q→xn p i j (l.take (k+1))=xn p i j (l.take k)++(if (p.name==q.name||fp p q)=true then [[-eA i,-eA (j+k)]]else [])
 |[],j,k,q,h=>by simp at h
 |p'::r,j,0,q,h=>by
  simp at h;subst h
  simp[xn]
 |p'::r,j,k+1,q,h=>by
  rw[List.take_succ_cons,List.take_succ_cons,xn,xn,vn r (j+1) k q (by simpa using h),List.append_assoc]
  have:j+1+k=j+(k+1):=by omega
  rw[this]
theorem wb (all:List Pkg): ∀(l:List Pkg) (j k:Nat) (p:Pkg),l[k]?=some p→rz all j (l.take (k+1))=rz all j (l.take k)++Ow all (j+k) p
 |[],j,k,p,h=>by simp at h
 |q::r,j,0,p,h=>by
  simp at h;subst h
  simp[rz]
 |q::r,j,k+1,p,h=>by
  rw[List.take_succ_cons,List.take_succ_cons,rz,rz,wb all r (j+1) k p (by simpa using h),List.append_assoc]
  have:j+1+k=j+(k+1):=by omega
  rw[this]
theorem oW (M:Nat→Bool)(a b:List (List Int)):fN M (a++b)=(fN M a&&fN M b):=by simp[fN]
theorem dF {all:List Pkg}(h:bk all=0):all.length≤24:=by
 unfold bk at h
 split at h
 ·omega
 ·omega
theorem gb : ∀{l:List Int},orL l=0→ ∀x∈l,x=0
 |[],_,x,hx=>by simp at hx
 |y::r,h,x,hx=>by
  rw[orL]at h
  split at h
  ·rename_i hy;exact absurd h hy
  ·rename_i hy
   rcases List.mem_cons.1 hx with rfl|hx
   ·exact Classical.not_not.1 hy
   ·exact gb h x hx
theorem dC {all:List Pkg}(h:bk all=0){p:Pkg}(hp:p∈all):aW p=0:=by
 unfold bk at h
 split at h
 ·omega
 ·split at h
  ·rename_i h1;exact absurd h h1
  ·rename_i h1
   exact gb (Classical.not_not.1 h1) _ (List.mem_map.2 ⟨p,hp,rfl⟩)
theorem vA {l:List Clause}(h:cj l=0):l.length≤12:=by
 unfold cj at h
 split at h
 ·omega
 ·rename_i h1;omega
theorem si {p:Pkg}(h:aW p=0):p.pre.length≤12∧p.dep.length≤12:=by
 unfold aW at h
 split at h
 ·omega
 ·have:=gb h
  exact⟨vA (this _ (by simp)),vA (this _ (by simp))⟩
theorem j5 (i:Nat):0<eA i:=by unfold eA;omega
theorem pk (i:Nat):(eA i).natAbs=i+1:=by unfold eA;omega
theorem KS {all:List Pkg}{i:Nat}(hi:i<all.length)(c:Clause):wfC all.length (uv all i c)=true∧(uv all i c).Nodup∧(uv all i c).length≤all.length+1:=by
 refine⟨List.all_eq_true.2 λl hl=>?_,?_,?_⟩
 ·have:l≠0∧l.natAbs≤all.length:=by
   rcases List.mem_cons.1 hl with rfl|hl
   ·have:=j5 i;have:=pk i
    exact⟨by omega,by omega⟩
   ·obtain⟨k,q,h1,rfl⟩:=vI hl
    have h2:=(List.getElem?_eq_some_iff.1 h1).1
    have:=j5 (0+k);have:=pk (0+k)
    exact⟨by omega,by omega⟩
  simp[wfL,this]
 ·refine List.nodup_cons.2 ⟨λh=>?_,(lS _ _).1⟩
  have:=(lS (c:=c) 0 all).2 _ h
  have:=j5 i;have:=j5 0
  omega
 ·have:=uK (c:=c) 0 all
  simp[uv];omega
theorem JH {n i k:Nat}(hi:i<n)(hk:k<i):wfC n [-eA i,-eA k]=true∧[-eA i,-eA k].Nodup:=by
 have:=j5 i;have:=pk i;have:=j5 k;have:=pk k
 refine⟨by simp[wfC,wfL];omega,by simp;unfold eA;omega⟩
end Go.Av
end
section
namespace Go.Av
structure ew (σ st:ab)(v:AV)(e:TypeId)(xs:List AV):Prop where
 row:(v= .ay∧xs=[])∨ ∃id,v= .row e id 0 xs.length∧st[id]?=some (some (.cells e xs))∧σ.length≤id
 ext:Ext σ st
theorem ew.nil {σ st:ab}(h:Ext σ st)(e:TypeId):ew σ st .ay e []:=⟨.inl ⟨rfl,rfl⟩,h⟩
theorem ew.st {σ st:ab}{v:AV}{e:TypeId}{xs:List AV}(h:ew σ st v e xs):dh st v e xs:=by
 rcases h.row with h|⟨id,rfl,h1,_⟩
 ·exact .inl h
 ·exact .inr (.inr ⟨id,0,_,xs,rfl,h1,by simp,by simp⟩)
theorem ew.more {σ st:ab}{v:AV}{e:TypeId}{xs:List AV}(h:ew σ st v e xs)(l:ab):ew σ (st++l) v e xs:=by
 refine⟨?_,h.ext.app l⟩
 rcases h.row with h1|⟨id,h1,h2,h3⟩
 ·exact .inl h1
 ·exact .inr ⟨id,h1,by rw[List.getElem?_append_left ((List.getElem?_eq_some_iff.1 h2).1)];exact h2,h3⟩
theorem bN.out {P:Program}{A:aa}{σ:ab}{t u e:TypeId}{x y:AV}{xs ys:List AV}{dst:Option Nat}{k:aa→Prop}(N:Nat)(ho:xh P t u e N=true)(h:ew σ A.st x e xs)(hy:eY A.st y e ys)(hN:xs.length+ys.length≤N)
  (hk: ∀v st',ew σ st' v e (xs++ys)→k ((A.put dst v).an st')):bN P [t,u] [x,y] dst A k .mk:=by
 have hkl:(bQ x A.st).length=A.st.length:=by unfold bQ;split<;>simp
 refine bN.row N ho h.st hy hN (λhe=>hk _ _ (by rw[he,List.append_nil];exact h)) λhe=>hk _ _ ⟨.inr ⟨A.st.length,by simp,?_,h.ext.le⟩,?_⟩
 ·rw[←hkl,List.getElem?_append_right (Nat.le_refl _),Nat.sub_self]
  rfl
 ·refine Ext.app ?_ _
  rcases h.row with⟨rfl,_⟩|⟨id,rfl,_,h3⟩
  ·exact h.ext
  ·exact h.ext.set h3 _
theorem ew.I5 {A:aa}{σ:ab}{v:AV}{e:TypeId}{xs:List AV}{d:Nat}{x:Exit}{R:aa→Prop}(h:ew σ A.st v e xs)(hd:A.env d=v)
  (h0:v= .ay→xs=[]→bR R x A) (h1: ∀id,bR R x ((A.upd d (.sl e xs)).an (A.st.set id none))∨ ¬(σ.length≤id∧A.env d= .row e id 0 xs.length)):bR R x A:=by
 rcases h.row with⟨h2,h3⟩|⟨id,h2,h3,h4⟩
 ·exact h0 h2 h3
 ·rcases h1 id with h5|h5
  ·exact bR.frz d (by rw[hd,h2]) h3 (by simp) (by simpa using h5)
  ·exact absurd ⟨h4,by rw[hd,h2]⟩ h5
end Go.Av
end
section
namespace Go.Proofs.Tryz
open Go Go.Av
set_option maxRecDepth 10000
variable {W0 :World}
structure Rep where
 name:List UInt8
 ver:List UInt8
 can:Bool
 Xx:List Nat
 never:List Nat
def lx (l:List Nat):AV:=.sl 3 (l.map λk=>.int .i64 (k:Nat))
end Go.Proofs.Tryz
end
section
namespace Go.Av
open Go
def eqK (P:Program)(ty:TypeId):Nat:=match P.underlying ty with|some (.int _)=>1|some .string=>2|some .bool=>3|_=>0
def r9 (P:Program)(t:TypeId):Option (List Nat):=match P.underlying t with
 | some (.struct fl) => if fl.toList.all (fun f => f.name != "_") && (!P.stoodInHeld t && !P.eqGuardType P.depth t) then (bo P t).map fun ts => ts.map (eqK P) else none
 |_=>none
def AD :Nat→AV→AV→Option Bool
 |1,.int k a,.int k' b=>if k=k' then some (a==b)else none
 |2,.str a,.str b=>some (a==b)
 |3,.bool a,.bool b=>some (a==b)
 |_,_,_=>none
def uq :List Nat→List AV→List AV→Option Bool
 |[],[],[]=>some true
 |ty::ts,x::xs,y::ys=>(AD ty x y).bind λb=>(uq ts xs ys).map λc=>b&&c
 |_,_,_=>none
theorem Ub (P:Program)(ty:TypeId)(x y:AV):eq1 P ty x y=AD (eqK P ty) x y:=by
 unfold eq1 eqK
 cases h:P.underlying ty with
 |none=>cases x<;>cases y<;>rfl
 |some u=>cases u<;>cases x<;>cases y<;>rfl
theorem Bk (P:Program): ∀(ts:List TypeId) (xs ys:List AV),qC P ts xs ys=uq (ts.map (eqK P)) xs ys
 |[],[],[]=>rfl
 |[],[],_::_=>rfl
 |[],_::_,[]=>rfl
 |[],_::_,_::_=>rfl
 |_::_,[],[]=>rfl
 |_::_,[],_::_=>rfl
 |_::_,_::_,[]=>rfl
 |ty::ts,x::xs,y::ys=>by
  simp only[qC,List.map_cons,uq,Ub,Bk P ts xs ys]
theorem sc {P:Program}{t:TypeId}{ks:List Nat}(h:r9 P t=some ks)(fs gs:List AV):iK P t fs gs=uq ks fs gs:=by
 unfold r9 at h
 unfold iK
 split at h
 ·rename_i fl hu
  simp only[hu]
  split at h
  ·rename_i hc
   rw[if_pos hc]
   cases hf:bo P t with
   |none=>rw[hf]at h;cases h
   |some ts=>
    rw[hf]at h
    simp only[Option.map_some,Option.some.injEq]at h
    simp only[Option.bind_some,Bk,h]
  ·cases h
 ·cases h
end Go.Av
namespace Go.Proofs.Tryz
open Go Go.Av
set_option maxRecDepth 10000
variable {W0 :World}
theorem du {α:Type}{a b:List α}{i:Nat}{x:α}(h:a.take i=b.take i)(hx:a[i]?=some x)(hy:b[i]?=some x):a.take (i+1)=b.take (i+1):=by
 rw[ai hx,ai hy,h]
theorem fH {α:Type}{a b:List α}{i:Nat}{x y:α}(hx:a[i]?=some x)(hy:b[i]?=some y)(h:x≠y):a≠b:=by
 rintro rfl
 rw[hx]at hy
 exact h (Option.some.inj hy)
theorem sM :r9 prog 81=some [2,1,2]:=by kernel_rfl
theorem tV :r9 prog 147=some [2,2]:=by kernel_rfl
@[go_sem] theorem Vh (a b:Atom):bU prog .neq 81 (aQ a) (aQ b)= .bool (!decide (a=b)):=by
 obtain⟨a1,a2,a3⟩:=a
 obtain⟨b1,b2,b3⟩:=b
 simp only[aQ,ve,sc sM,uq,AD,if_true,Option.map_some,Option.bind_some,Option.getD_some,Atom.mk.injEq,Bool.and_true]
 congr 1
 rw[Bool.eq_iff_iff]
 simp
@[go_sem] theorem Sb (a b:Atom):bY prog .neq 81 (aQ a) (aQ b)=True:=by
 simp[aQ,vB,sc sM,uq,AD]
@[go_sem] theorem Vb (a b:gx):bU prog .neq 147 (cX a) (cX b)= .bool (!decide (a=b)):=by
 obtain⟨a1,a2⟩:=a
 obtain⟨b1,b2⟩:=b
 simp only[cX,ve,sc tV,uq,AD,if_true,Option.map_some,Option.bind_some,Option.getD_some,gx.mk.injEq,Bool.and_true]
 congr 1
 rw[Bool.eq_iff_iff]
 simp
@[go_sem] theorem St (a b:gx):bY prog .neq 147 (cX a) (cX b)=True:=by
 simp[cX,vB,sc tV,uq,AD]
theorem kq (a b:List Atom):ag prog W0 63 [aF a,aF b] (.bool (decide (a=b))):=by
 refine aj [4] [] func63 rfl rfl ntmps63 rfl rfl (.bool _) λhs σ=>?_
 have hl:=(aO (hs _ (List.mem_cons_self ..))).1
 simp only[go_sem,simprocAttr,aF,List.length_map]
 refine⟨λh=>ak (decide_eq_false λe=>h (by rw[e])).symm,λh=>?_⟩
 have hab:a.length=b.length:=by omega
 refine af.upto [0,1,12] (.of (by kernel_rfl)) a.length (λi A=>A.env 13= .int .i64 i∧A.st=σ∧a.take i=b.take i) 0 (Nat.zero_le _) ?_ λi B hi ⟨h13,hst,hI⟩=>?_
 ·simp only[go_sem,simprocAttr]
  simp
 simp only[go_sem,simprocAttr,h13,hst,List.length_map]
 refine⟨λhc=>?_,λhc=>ak ?_⟩
 ·obtain⟨x,hx⟩:=get_some hc
  obtain⟨y,hy⟩:=get_some (show i<b.length by omega)
  simp only[go_sem,simprocAttr,h13,hst,List.length_map,aw hx,aw hy]
  exact⟨.of (by kernel_rfl),hc,by omega,λhne=>ak (decide_eq_false (fH hx hy hne)).symm,λe=>⟨hc,ah hc hl,du hI hx (e▸hy)⟩⟩
 ·rw[List.take_of_length_le hc,List.take_of_length_le (by omega)]at hI
  exact(decide_eq_true hI).symm
theorem rE (a b:List gx):ag prog W0 64 [cm a,cm b] (.bool (decide (a=b))):=by
 refine aj [4] [] func64 rfl rfl ntmps64 rfl rfl (.bool _) λhs σ=>?_
 have hl:=(aO (hs _ (List.mem_cons_self ..))).1
 simp only[go_sem,simprocAttr,cm,List.length_map]
 refine⟨λh=>ak (decide_eq_false λe=>h (by rw[e])).symm,λh=>?_⟩
 have hab:a.length=b.length:=by omega
 refine af.upto [0,1,12] (.of (by kernel_rfl)) a.length (λi A=>A.env 13= .int .i64 i∧A.st=σ∧a.take i=b.take i) 0 (Nat.zero_le _) ?_ λi B hi ⟨h13,hst,hI⟩=>?_
 ·simp only[go_sem,simprocAttr]
  simp
 simp only[go_sem,simprocAttr,h13,hst,List.length_map]
 refine⟨λhc=>?_,λhc=>ak ?_⟩
 ·obtain⟨x,hx⟩:=get_some hc
  obtain⟨y,hy⟩:=get_some (show i<b.length by omega)
  simp only[go_sem,simprocAttr,h13,hst,List.length_map,aw hx,aw hy]
  exact⟨.of (by kernel_rfl),hc,by omega,λhne=>ak (decide_eq_false (fH hx hy hne)).symm,λe=>⟨hc,ah hc hl,du hI hx (e▸hy)⟩⟩
 ·rw[List.take_of_length_le hc,List.take_of_length_le (by omega)]at hI
  exact(decide_eq_true hI).symm
theorem js (a b:List Clause):ag prog W0 62 [aA a,aA b] (.bool (decide (a=b))):=by
 refine aj [4] [] func62 rfl rfl ntmps62 rfl rfl (.bool _) λhs σ=>?_
 have hl:=(aO (hs _ (List.mem_cons_self ..))).1
 simp only[go_sem,simprocAttr,aA,List.length_map]
 refine⟨λh=>ak (decide_eq_false λe=>h (by rw[e])).symm,λh=>?_⟩
 have hab:a.length=b.length:=by omega
 refine af.upto [0,1,12] (.of (by kernel_rfl)) a.length (λi A=>A.env 13= .int .i64 i∧A.st=σ∧a.take i=b.take i) 0 (Nat.zero_le _) ?_ λi B hi ⟨h13,hst,hI⟩=>?_
 ·simp only[go_sem,simprocAttr]
  simp
 simp only[go_sem,simprocAttr,h13,hst,List.length_map]
 refine⟨λhc=>?_,λhc=>ak ?_⟩
 ·obtain⟨x,hx⟩:=get_some hc
  obtain⟨y,hy⟩:=get_some (show i<b.length by omega)
  simp only[go_sem,simprocAttr,h13,hst,List.length_map,aw hx,aw hy]
  refine⟨.of (by kernel_rfl),hc,by omega,az.fn (kq x y) ?_⟩
  simp only[go_sem,simprocAttr,h13,hst,List.length_map]
  exact⟨λhne=>ak (decide_eq_false (fH hx hy hne)).symm,λe=>⟨hc,ah hc hl,du hI hx (e▸hy)⟩⟩
 ·rw[List.take_of_length_le hc,List.take_of_length_le (by omega)]at hI
  exact(decide_eq_true hI).symm
theorem IW (p q:Pkg):ag prog W0 22 [av p,av q] (.bool (decide (p=q))):=by
 refine aj [4] [2,3] func22 rfl rfl ntmps22 rfl rfl (.bool _) λhs σ=>?_
 simp only[go_sem,simprocAttr,av]
 refine az.fnG (λ_=>js _ _) ?_
 simp only[go_sem,simprocAttr]
 refine az.fnG (λ_=>js _ _) ?_
 simp only[go_sem,simprocAttr]
 refine az.fnG (λ_=>js _ _) ?_
 simp only[go_sem,simprocAttr]
 refine az.fnG (λ_=>kq _ _) ?_
 simp only[go_sem,simprocAttr]
 refine az.fnG (λ_=>kq _ _) ?_
 simp only[go_sem,simprocAttr]
 refine az.fnG (λ_=>rE _ _) ?_
 simp only[go_sem,simprocAttr]
 refine ak ?_
 obtain⟨a1,a2,a3,a4,a5,a6,a7,a8,a9⟩:=p
 obtain⟨b1,b2,b3,b4,b5,b6,b7,b8,b9⟩:=q
 rw[Bool.eq_iff_iff]
 simp only[Bool.and_eq_true,beq_iff_eq,decide_eq_true_eq,and_assoc,Pkg.mk.injEq]
 exact⟨λ⟨h1,h2,h3,h4,h5,h6,h7,h8,h9⟩=>⟨h1,h2,h4,h5,h6,h7,h8,h9,h3⟩,λ⟨h1,h2,h4,h5,h6,h7,h8,h9,h3⟩=>⟨h1,h2,h3,h4,h5,h6,h7,h8,h9⟩⟩
def atL (all:List Pkg)(t:List Nat):List Pkg:=t.filterMap λi=>all[i]?
end Go.Proofs.Tryz
end
section
namespace Go.Proofs.Tryz
open Go Go.Av
set_option maxRecDepth 10000
variable {W0 :World}
def wV (p q:Pkg):Bool:=Op.bytesLess q.name p.name||(q.name==p.name&&decide (0≤bA q.ver p.ver))
def ql (p:Pkg)(out:List Pkg):List Pkg:=out.takeWhile (wV p)++p::out.dropWhile (wV p)
def cI (l:List Pkg):List Pkg:=l.foldl (λo p=>ql p o) []
theorem Ay {l:List Pkg}{i:Nat}{p:Pkg}(h:l[i]?=some p):cI (l.take (i+1))=ql p (cI (l.take i)):=by
 rw[cI,ai h,List.foldl_append];rfl
theorem qx (p:Pkg)(o:List Pkg):(ql p o).Perm (p::o):=by
 unfold ql
 refine List.perm_middle.trans (.cons _ ?_)
 rw[List.takeWhile_append_dropWhile]
theorem eD (l:List Pkg):(cI l).Perm l:=by
 have key: ∀(l o:List Pkg),(l.foldl (λo p=>ql p o) o).Perm (o++l):=λl=>by
  induction l with
  |nil=>intro o;simp
  |cons p l ih=>
   intro o
   refine(ih _).trans ?_
   refine((qx p o).append_right l).trans ?_
   exact List.perm_middle.symm
 have h:=key l []
 rw[List.nil_append]at h
 exact h
theorem fG {α:Type}{f:α→Bool}: ∀{l:List α} {a:Nat},(∀k x,k<a→l[k]?=some x→f x=true)→(∀x,l[a]?=some x→f x=false)→l.takeWhile f=l.take a∧l.dropWhile f=l.drop a
 |[],a,_,_=>by simp
 |x::l,0,_,h=>by
  have:=h x rfl
  simp[this]
 |x::l,a+1,h,h2=>by
  have hx:=h 0 x (by omega) rfl
  obtain⟨e1,e2⟩:=fG (l:=l) (a:=a) (λk y hk hy=>h (k+1) y (by omega) (by simpa using hy)) (λy hy=>h2 y (by simpa using hy))
  simp[hx,e1,e2]
structure ew (σ st:ab)(v:AV)(e:TypeId)(xs:List AV):Prop where
 row:dB st v e xs
 ext:Ext σ st
 low: ∀j∈bf v,σ.length≤j
theorem ew.iI {σ st:ab}{v:AV}{e:TypeId}{xs:List AV}(h:ew σ st v e xs):en σ st v e xs:=⟨h.row.st,h.ext,λid hid=>h.low id (by cases v<;>simp[L5]at hid;subst hid;simp[bf])⟩
theorem ew.app {σ st st':ab}{x v:AV}{e:TypeId}{xs zs:List AV}(h:ew σ st x e xs)(ha:Sz st x e zs v st'):ew σ st' v e zs:=⟨ha.row,ha.fr.qX h.ext h.low,λj hj=>by
 rcases ha.bf j hj with h1|h1
 ·exact h.low j h1
 ·exact Nat.le_trans h.ext.le h1⟩
theorem ew.nil {σ st:ab}(h:Ext σ st)(e:TypeId):ew σ st .ay e []:=⟨.inl ⟨rfl,rfl⟩,h,λj hj=>by simp[bf]at hj⟩
theorem ew.more {σ st:ab}{v:AV}{e:TypeId}{xs:List AV}(h:ew σ st v e xs)(l:ab):ew σ (st++l) v e xs:=⟨h.row.ey λj hj=>by rw[List.getElem?_append_left (h.row.lt j hj)],h.ext.app l,h.low⟩
theorem By (l:List Pkg)(hl:l.length≤1024):ag prog W0 20 [aU l] (aU (cI l)):=by
 refine lZ [2] [5,2000053,2000056,2000060,2000003] func20 rfl rfl ntmps20 rfl rfl (kh _) λhs σ=>?_
 have ht:elT prog 22=some 54:=by kernel_rfl
 simp only[go_sem,simprocAttr,aU]
 refine af.at [7,8] (.of (by kernel_rfl)) (λA=>∃ v,A.env 3=v∧ew σ A.st v 54 ((cI l).map av)) ?_ λB ⟨v,h3,hb⟩=>?_
 ·refine af.upto [7,8] (.of (by kernel_rfl)) l.length (λi A=>∃ v,A.env 3=v∧A.env 9= .int .i64 i∧ew σ A.st v 54 ((cI (l.take i)).map av)) 0 (Nat.zero_le _) ?_ λi B hi ⟨v,h3,h9,hb⟩=>?_
  ·simp only[go_sem,simprocAttr]
   exact⟨_,rfl,ew.nil (.refl _) _⟩
  have hok:=hb.iI.ok
  have hun:=hb.iI.un
  simp only[go_sem,simprocAttr,h3,h9,hok,hun,List.length_map]
  refine⟨λhc=>?_,λhc=>?_⟩
  ·obtain⟨p,hp⟩:=get_some hc
   have ho:(cI (l.take i)).length≤1024:=by rw[(eD _).length_eq,List.length_take];omega
   obtain⟨o,hoo⟩: ∃o,o=cI (l.take i):=⟨_,rfl⟩
   rw[←hoo]at hb ho
   have hb':=hb.more [none]
   have hlen:lV v= .int .i64 o.length:=by rw[hb.row.st.len,List.length_map]
   have hlc:=λt=>hb.row.st.fQ prog t
   simp only[go_sem,simprocAttr,aw hp,av,h3,h9,hok,hun]
   refine⟨hc,af.at [3,5,7,8,9] (.of (by kernel_rfl)) (λA=>∃ a:Nat,A.env 6= .int .i64 a∧a≤o.length∧A.st=B.st++[none]∧(∀k x,k<a→o[k]?=some x→wV p x=true)∧(∀x,o[a]?=some x→wV p x=false)) ?_ λC ⟨a,h6,hle,hst,hI,hJ⟩=>?_⟩
   ·refine af.upto [3,5,7,8,9] (.of (by kernel_rfl)) o.length (λa A=>A.env 6= .int .i64 a∧A.st=B.st++[none]∧(∀k x,k<a→o[k]?=some x→wV p x=true)) 0 (Nat.zero_le _) ?_ λa C hle ⟨h6,hst,hI⟩=>?_
    ·simp only[go_sem,simprocAttr]
    by_cases hlt:a<o.length
    ·obtain⟨q,hq⟩:=get_some hlt
     have hok2:=hok
     rcases hb'.row with⟨rfl,h0⟩|⟨id,off,m,zs,rfl,g1,g2,g3⟩
     ·have:=congrArg List.length h0
      simp at this
      rw[this]at hlt
      exact absurd hlt (by simp)
     have hm:m=o.length:=by rw[←dB.AJ (σ:=B.st) (e:=54) (id:=id) g2 g3,List.length_map]
     have hz:zs[off+a]?=some (av q):=by
      have h1:((zs.drop off).take m)[a]?=some (av q):=by rw[←g3,List.getElem?_map,hq];rfl
      rw[List.getElem?_take_of_lt (by omega),List.getElem?_drop]at h1
      exact h1
     have hk0:Av.look C.st id (off+a) [0]=some (.str q.name):=by
      rw[hst]
      unfold Av.look
      rw[g1]
      simp only[hz,Option.bind_some]
      rfl
     have hk1:Av.look C.st id (off+a) [1]=some (.str q.ver):=by
      rw[hst]
      unfold Av.look
      rw[g1]
      simp only[hz,Option.bind_some]
      rfl
     have hlv:live C.st id:=by rw[hst,ax g1];trivial
     simp only[go_sem,simprocAttr,h3,h6,hok,hun,hm,hk0,hk1,hlv,hlt]
     refine⟨.of (by kernel_rfl),az.fnG (λ_=>sA q.ver p.ver) ?_⟩
     simp only[go_sem,simprocAttr,h3,h6,hok,hun,hm,hk0,hk1,hlv,hlt]
     refine⟨λhb1=>⟨ah hlt (by rw[ar];omega),hst,λk x hk hx=>?_⟩,λhb0=>⟨a,rfl,hle,hst,hI,λx hx=>?_⟩⟩
     ·rcases Nat.lt_succ_iff_lt_or_eq.1 hk with h|rfl
      ·exact hI k x h hx
      ·rw[hq]at hx;cases hx;exact hb1
     ·rw[hq]at hx;cases hx;exact hb0
    ·simp only[go_sem,simprocAttr,h3,h6,hok,hun,hlen,hlc,hlt]
     refine⟨.of (by kernel_rfl),az.fnG (r:=.int .i64 0) (λh=>(Bool.false_ne_true h).elim) ?_⟩
     simp only[go_sem,simprocAttr,h3,h6,hok,hun,hlen,hlc,hlt]
     exact⟨a,rfl,hle,hst,hI,λx hx=>by rw[List.getElem?_eq_none (by omega)]at hx;cases hx⟩
   have hrow:dB C.st v 54 (o.map av):=by rw[hst];exact hb'.row
   have hle':a≤(o.map av).length:=by simpa using hle
   have hc1:=hrow.cut (Nat.zero_le a) hle'
   have hc2:=hrow.cut hle' (Nat.le_refl _)
   rw[List.length_map]at hc2
   have q1:=hc1.st.ok
   have q2:=hc1.st.un
   have q3:=hc2.st.ok
   have q4:=hc2.st.un
   simp only[go_sem,simprocAttr,h3,h6,h9,hok,hun,hrow.N3,hrow.lr ht,hle,List.length_map,q1,q2,q3,q4]
   refine⟨.of (by kernel_rfl),Nat.zero_le _,bN.wo (σ:=C.st) (by simp only[go_sem,simprocAttr]) 1048576 (by kernel_rfl) (.inl ⟨rfl,rfl⟩) hc1.st.read (by simp;omega) λv1 σ1 ha1=>?_⟩
   have q5:=ha1.row.st.ok
   have q6:=ha1.row.st.un
   simp only[go_sem,simprocAttr,h3,h6,h9,hok,hun,q1,q2,q3,q4,q5,q6]
   refine bN.wo (σ:=σ1) (by simp only[go_sem,simprocAttr]) 1048576 (by kernel_rfl) ha1.row (.lit _ _ _) (by simp;omega) λv2 σ2 ha2=>?_
   have q7:=ha2.row.st.ok
   have q8:=ha2.row.st.un
   have hk:dB σ2 (rF a o.length v) 54 _:=hc2.ey λj hj=>by
    rw[mQ]at hj
    have hj1:=hrow.lt j hj
    have hj2:j∉bf v1:=λh=>by
     rcases ha1.bf j h with h|h
     ·simp[bf]at h
     ·omega
    rw[ha2.fr.old j (Nat.lt_of_lt_of_le hj1 ha1.fr.len) hj2,ha1.fr.old j hj1 (by simp[bf])]
   simp only[go_sem,simprocAttr,h3,h6,h9,hok,hun,q1,q2,q3,q4,q5,q6,q7,q8]
   refine bN.wo (σ:=σ2) (by simp only[go_sem,simprocAttr]) 1048576 (by kernel_rfl) ha2.row hk.st.read (by simp;omega) λv3 σ3 ha3=>?_
   have q9:=ha3.row.st.ok
   have q10:=ha3.row.st.un
   simp only[go_sem,simprocAttr,h3,h6,h9,hok,hun,q1,q2,q3,q4,q5,q6,q7,q8,q9,q10]
   refine⟨hc,_,rfl,ah hc (by rw[ar];omega),?_⟩
   have hx:Ext σ C.st:=by rw[hst];exact hb'.ext
   have hfin:=(((ew.nil hx 54).app ha1).app ha2).app ha3
   rw[Ay hp,←hoo,ql,(fG hI hJ).1,(fG hI hJ).2]
   have he:([]++(((o.map av).drop 0).take (a-0)))++[av p]++(((o.map av).drop a).take (o.length-a))=(o.take a++p::o.drop a).map av:=by
    rw[List.take_of_length_le (l:=(o.map av).drop a) (by simp)]
    simp[List.map_take,List.map_drop]
   rw[←he]
   exact hfin
  ·rw[List.take_of_length_le hc]at hb
   exact⟨_,rfl,hb⟩
 simp only[go_sem,simprocAttr,h3,hb.iI.ok,hb.iI.un]
 exact en.I5 (hb.iI) (.inl rfl) (by simp only[go_sem,simprocAttr])
end Go.Proofs.Tryz
end
section
namespace Go.Proofs.Tryz
open Go Go.Av
set_option maxRecDepth 10000
variable {W0 :World}
def aD (all:List Pkg)(i:Nat):Nat:=match all[i]? with
 |some p=>i+((all.drop i).takeWhile λq=>q.name==p.name).length
 |none=>i
def dH (all:List Pkg):Nat→Nat→List Nat→List (List Nat)
 |0,_,t=>if fU (atL all t)=true then [t]else []
 |f+1,i,t=>if i=all.length then(if fU (atL all t)=true then [t]else [])else((List.range' i (aD all i-i)).flatMap λk=>dH all f (aD all i) (t++[k]))++dH all f (aD all i) t
theorem rp (all:List Pkg)(f:Nat)(t:List Nat):dH all f all.length t=if fU (atL all t)=true then [t]else []:=by
 cases f<;>simp[dH]
theorem wZ (u v:AV):lF false u v=v:=by
 unfold lF lW
 split<;>simp[rh]
inductive sU :List AV→List AV→Prop
 |nil:sU [] []
 |cons {x y:AV} {xs ys:List AV}:Sub x y→sU xs ys→sU (x::xs) (y::ys)
theorem sU.append {a b c d:List AV}(h:sU a b)(k:sU c d):sU (a++c) (b++d):=by
 induction h with
 |nil=>exact k
 |cons h1 _ ih=>exact .cons h1 ih
theorem sU.get {a b:List AV}(h:sU a b):a.length=b.length∧ ∀(i:Nat) (x y:AV),a[i]?=some x→b[i]?=some y→Sub x y:=by
 induction h with
 |nil=>exact⟨rfl,λi x y hx _=>by simp at hx⟩
 |cons h1 _ ih=>
  refine⟨by simp[ih.1],λi x y hx hy=>?_⟩
  cases i with
  |zero=>simp at hx hy;subst hx hy;exact h1
  |succ i=>exact ih.2 i x y (by simpa using hx) (by simpa using hy)
theorem sU.sl {a b:List AV}(h:sU a b)(e:TypeId):Sub (.sl e a) (.sl e b):=.sls h.get.1 h.get.2
theorem Cg {α:Type}{f:α→Bool}: ∀{l:List α} {k:Nat},k≤(l.takeWhile f).length→(∀x,l[k]?=some x→f x=true→k<(l.takeWhile f).length)∧(∀x,l[k]?=some x→f x=false→k=(l.takeWhile f).length)∧(l.length≤k→k=(l.takeWhile f).length)
 |[],k,h=>by simp at h;subst h;simp
 |a::l,k,h=>by
  cases hf:f a with
  |false=>
   simp[List.takeWhile_cons,hf]at h ⊢
   subst h
   simp[hf]
  |true=>
   simp[List.takeWhile_cons,hf]at h ⊢
   cases k with
   |zero=>simp[hf]
   |succ k=>
    obtain⟨h1,h2,h3⟩:=Cg (f:=f) (l:=l) (k:=k) (by omega)
    simpa using ⟨h1,h2,h3⟩
theorem lO {all:List Pkg}{i k:Nat}{p:Pkg}(hp:all[i]?=some p)(hk:k≤aD all i-i):
  (∀q,all[i+k]?=some q→q.name=p.name→k<aD all i-i)∧(∀q,all[i+k]?=some q→ ¬q.name=p.name→i+k=aD all i)∧(all.length≤i+k→i+k=aD all i):=by
 have hr:aD all i=i+((all.drop i).takeWhile λq=>q.name==p.name).length:=by simp[aD,hp]
 rw[hr]at hk ⊢
 rw[Nat.add_sub_cancel_left]at hk ⊢
 obtain⟨h1,h2,h3⟩:=Cg hk
 refine⟨λq hq e=>h1 q (by rw[List.getElem?_drop];exact hq) (by simpa using e),λq hq e=>?_,λhl=>?_⟩
 ·rw[←h2 q (by rw[List.getElem?_drop];exact hq) (by simpa using e)]
 ·rw[←h3 (by rw[List.length_drop];omega)]
theorem cM {all:List Pkg}{i:Nat}{p:Pkg}(hp:all[i]?=some p):i<aD all i∧aD all i≤all.length:=by
 have h0:=(lO hp (Nat.zero_le _)).1 p hp rfl
 refine⟨by omega,?_⟩
 have hr:aD all i=i+((all.drop i).takeWhile λq=>q.name==p.name).length:=by simp[aD,hp]
 have h1:=(List.takeWhile_sublist (λq:Pkg=>q.name==p.name) (l:=all.drop i)).length_le
 have h2:=(List.getElem?_eq_some_iff.1 hp).1
 rw[List.length_drop]at h1
 omega
theorem room {d m:Nat}:(d+1)*2^m≤2^(d+m):=by
 rw[Nat.pow_add]
 exact Nat.mul_le_mul_right _ (Nat.lt_two_pow_self)
structure NOk (all:List Pkg)(N:Nat→Nat):Prop where
 one:1≤N all.length
 step: ∀i p,all[i]?=some p→(aD all i-i+1)*N (aD all i)≤N i
theorem NOk.two (all:List Pkg):NOk all λi=>2^(all.length-i):=⟨Nat.one_le_two_pow,λi p hp=>by
 obtain⟨b1,b2⟩:=cM hp
 have hroom:=room (d:=aD all i-i) (m:=all.length-aD all i)
 rwa [show aD all i-i+(all.length-aD all i)=all.length-i by omega]at hroom⟩
end Go.Proofs.Tryz
end
section
namespace Go.Proofs.Tryz
open Go Go.Av
set_option maxRecDepth 10000
variable {W0 :World}
def Ll (all:List Pkg)(j:Nat):Option (List UInt8):=(all[j]?).map λp=>p.name
end Go.Proofs.Tryz
end
section
namespace Go.Av
structure Cp (all:List Pkg)(S:Nat→Bool):Prop where
 dep: ∀(i:Nat) (p:Pkg),all[i]?=some p→S i=true→ ∀c∈p.pre++p.dep,∃(k:Nat) (q:Pkg),all[k]?=some q∧c.any (eu q)=true∧S k=true
 con: ∀(i:Nat) (p:Pkg) (k:Nat) (q:Pkg),all[i]?=some p→all[k]?=some q→k<i→S i=true→S k=true→p.name≠q.name∧fp p q=false
end Go.Av
end
section
namespace Go.Av
def tC (d:List Clause):Bool:=decide (d.length≤14)&&d.all λc=>decide (c.length≤10)
def nL (i:Nat)(p:Pkg):Bool:=decide (i<26)&&decide (p.con.length+p.brk.length+p.dY.length≤40)&&[p.pre,p.dep,p.rcm].all tC
def iu :Nat→List Pkg→Bool
 |_,[]=>true
 |i,p::r=>nL i p&&iu (i+1) r
theorem tL : ∀{i:Nat} {l:List Pkg},iu i l=true→ ∀p∈l,p.con.length+p.brk.length+p.dY.length≤40
 |_,[],_,p,hp=>by simp at hp
 |i,q::r,h,p,hp=>by
  rw[iu,Bool.and_eq_true]at h
  rcases List.mem_cons.1 hp with rfl|hp
  ·have:=h.1
   simp[nL]at this
   exact this.1.2
  ·exact tL h.2 p hp
end Go.Av
end
section
namespace Go.Av
def ye {α β:Type}(f:α→β→Bool):List α→List β→Bool
 |[],[]=>true
 |x::xs,y::ys=>f x y&&ye f xs ys
 |_,_=>false
theorem oD {α β:Type}{f:α→β→Bool}: ∀{xs:List α} {ys:List β},ye f xs ys=true→xs.length=ys.length∧ ∀(i:Nat) (x:α) (y:β),xs[i]?=some x→ys[i]?=some y→f x y=true
 |[],[],_=>⟨rfl,by simp⟩
 |[],_::_,h=>by simp[ye]at h
 |_::_,[],h=>by simp[ye]at h
 |x::xs,y::ys,h=>by
  rw[ye,Bool.and_eq_true]at h
  obtain⟨h1,h2⟩:=oD h.2
  refine⟨by simp[h1],λi x' y' hx hy=>?_⟩
  cases i with
  |zero=>simp at hx hy;subst hx hy;exact h.1
  |succ i=>exact h2 i x' y' (by simpa using hx) (by simpa using hy)
def DU :Nat→AV→AV→Bool
 |0,_,_=>false
 |n+1,x,y=>match x,y with
  | .int k a,.int k' b=>decide (k=k')&&a==b
  | .bool a,.bool b=>a==b
  | .str a,.str b=>a==b
  | .nil,.nil=>true
  | .ay,.ay=>true
  | .ay,.sl _ []=>true
  | .sl e xs,.sl e' ys=>e==e'&&ye (DU n) xs ys
  | .lit e xs,.sl e' ys=>e==e'&&ye (DU n) xs ys
  | .agg t xs,.agg t' ys=>t==t'&&ye (DU n) xs ys
  |_,_=>false
theorem jn : ∀{n:Nat} {x y:AV},DU n x y=true→Sub x y
 |0,_,_,h=>by simp[DU]at h
 |n+1,x,y,h=>by
  unfold DU at h
  split at h
  ·simp only[Bool.and_eq_true,decide_eq_true_eq,beq_iff_eq]at h
   rw[h.1,h.2];exact .refl _
  ·rw[beq_iff_eq.1 h];exact .refl _
  ·rw[beq_iff_eq.1 h];exact .refl _
  ·exact .refl _
  ·exact .refl _
  ·exact .ay _
  ·rw[Bool.and_eq_true,beq_iff_eq]at h
   obtain⟨rfl,h⟩:=h
   obtain⟨h1,h2⟩:=oD h
   exact .sls h1 λi x y hx hy=>jn (h2 i x y hx hy)
  ·rw[Bool.and_eq_true,beq_iff_eq]at h
   obtain⟨rfl,h⟩:=h
   obtain⟨h1,h2⟩:=oD h
   exact .trans (.lits h1 λi x y hx hy=>jn (h2 i x y hx hy)) (.lit _ _)
  ·rw[Bool.and_eq_true,beq_iff_eq]at h
   obtain⟨rfl,h⟩:=h
   obtain⟨h1,h2⟩:=oD h
   exact .agg h1 λi x y hx hy=>jn (h2 i x y hx hy)
  ·cases h
end Go.Av
end
section
namespace Go.Av
def Nw (all:List Pkg)(i:Nat):Prop:=∃ S,Cp all S∧S i=true
def Xh (all:List Pkg)(i j:Nat):Prop:=∃ S,Cp all S∧S i=true∧S j=true
def Xd (all:List Pkg)(i j:Nat):Prop:=∃ S,Cp all S∧S i=true∧S j=false
structure lJ (all:List Pkg)(i j:Nat):Prop where
 ne:i≠j
 can:Nw all i
 not: ¬Xd all i j
structure s5 (all:List Pkg)(i j:Nat):Prop where
 ne:i≠j
 can:Nw all i
 Vm:Nw all j
 not: ¬Xh all i j
theorem lJ.sel {all:List Pkg}{i j:Nat}(h:lJ all i j){S:Nat→Bool}(hS:Cp all S)(hi:S i=true):S j=true:=by
 cases hj:S j with
 |true=>rfl
 |false=>exact absurd ⟨S,hS,hi,hj⟩ h.not
theorem lJ.trans {all:List Pkg}{i j k:Nat}(h:lJ all i j)(h':lJ all j k)(hk:k≠i):lJ all i k:=
 ⟨λe=>hk e.symm,h.can,λ⟨_,hS,hi,hk⟩=>by rw[h'.sel hS (h.sel hS hi)]at hk;cases hk⟩
theorem lJ.never {all:List Pkg}{i j k:Nat}(h:lJ all i j)(h':s5 all j k):s5 all i k:=by
 refine⟨λe=>?_,h.can,h'.Vm,λ⟨S,hS,hi,hk⟩=>h'.not ⟨S,hS,h.sel hS hi,hk⟩⟩
 subst e
 obtain⟨S,hS,hi⟩:=h.can
 exact h'.not ⟨S,hS,h.sel hS hi,hi⟩
theorem s5.symm {all:List Pkg}{i j:Nat}(h:s5 all i j):s5 all j i:=
 ⟨λe=>h.ne e.symm,h.Vm,h.can,λ⟨S,hS,hj,hi⟩=>h.not ⟨S,hS,hi,hj⟩⟩
theorem nM (p q:Pkg):fp p q=fp q p:=by
 unfold fp
 rw[Bool.or_comm (oZ p q)]
 congr 1
 rw[Bool.eq_iff_iff]
 simp only[bne_iff_ne,ne_eq]
 exact⟨λh e=>h e.symm,λh e=>h e.symm⟩
end Go.Av
end
section
namespace Go.Av
theorem fc (a b:Int):sgn b a= -sgn a b:=by
 unfold sgn
 split<;>split<;>(try split)<;>(try split)<;>omega
theorem mY (a b:List UInt8):bM a b=if rk a=0∧rk b=0 then 0 else if rk a=rk b then bM a.tail b.tail else sgn (rk a) (rk b):=by
 by_cases h1:rk a=0∧rk b=0
 ·rw[if_pos h1,fw h1.1 h1.2]
 ·rw[if_neg h1]
  by_cases h2:rk a=rk b
  ·rw[if_pos h2,fx (λe=>h1 ⟨e,by rw[←h2];exact e⟩) h2]
  ·rw[if_neg h2,dp h2]
theorem rj : ∀(n:Nat) (a b:List UInt8),a.length≤n→bM b a= -bM a b
 |0,a,b,h=>by
  have:a=[]:=List.eq_nil_of_length_eq_zero (by omega)
  subst this
  rw[mY b,mY []]
  have h0:rk []=0:=rfl
  rw[h0]
  by_cases hb:rk b=0
  ·simp[hb]
  ·rw[if_neg (λe=>hb e.1),if_neg hb,if_neg (λe=>hb e.2),if_neg (λe=>hb e.symm),fc]
 |n+1,a,b,h=>by
  rw[mY b,mY a]
  by_cases h1:rk a=0∧rk b=0
  ·rw[if_pos h1,if_pos ⟨h1.2,h1.1⟩];rfl
  ·rw[if_neg h1,if_neg (λe=>h1 ⟨e.2,e.1⟩)]
   by_cases h2:rk a=rk b
   ·have ha:rk a≠0:=λe=>h1 ⟨e,by rw[←h2];exact e⟩
    obtain⟨c,r,rfl,_⟩:=zZ ha
    rw[if_pos h2,if_pos h2.symm]
    exact rj n r b.tail (by simpa using h)
   ·rw[if_neg h2,if_neg (λe=>h2 e.symm),fc]
theorem vV : ∀(a b:List UInt8),eW b a= -eW a b
 |[],b=>by cases b<;>rfl
 |x::a,[]=>rfl
 |x::a,y::b=>by
  unfold eW
  by_cases h:x=y
  ·rw[if_pos h,if_pos h.symm];exact vV a b
  ·rw[if_neg h,if_neg (λe=>h e.symm),fc]
theorem sd {a b:List UInt8}(h: ¬(a=[]∧b=[])):bb a b=if bM a b≠0 then bM a b
  else if bc (aJ a)≠bc (aJ b)then sgn (bc (aJ a)) (bc (aJ b))
  else if eW ((aJ a).take (bc (aJ a))) ((aJ b).take (bc (aJ b)))≠0 then eW ((aJ a).take (bc (aJ a))) ((aJ b).take (bc (aJ b)))
  else bb ((aJ a).drop (bc (aJ a))) ((aJ b).drop (bc (aJ b))):=by
 rw[bb,dif_neg h]
theorem sV : ∀(n:Nat) (a b:List UInt8),a.length+b.length≤n→bb b a= -bb a b
 |0,a,b,h=>by
  have h1:a=[]:=List.eq_nil_of_length_eq_zero (by omega)
  have h2:b=[]:=List.eq_nil_of_length_eq_zero (by omega)
  subst h1 h2
  rw[bb,dif_pos ⟨rfl,rfl⟩];rfl
 |n+1,a,b,h=>by
  by_cases h0:a=[]∧b=[]
  ·rw[bb,dif_pos ⟨h0.2,h0.1⟩,bb,dif_pos h0];rfl
  ·have hlt:=ua h0
   have ih:=sV n ((aJ a).drop (bc (aJ a))) ((aJ b).drop (bc (aJ b))) (by omega)
   rw[sd (a:=b) (b:=a) (λe=>h0 ⟨e.2,e.1⟩),sd h0,rj _ a b (Nat.le_refl _)]
   by_cases h1:bM a b=0
   ·rw[if_neg (show ¬(-bM a b≠0) by omega),if_neg (show ¬(bM a b≠0) by omega)]
    by_cases h2:bc (aJ a)=bc (aJ b)
    ·rw[if_neg (show ¬(bc (aJ b)≠bc (aJ a)) by omega),if_neg (show ¬(bc (aJ a)≠bc (aJ b)) by omega),vV ((aJ a).take (bc (aJ a)))]
     by_cases h3:eW ((aJ a).take (bc (aJ a))) ((aJ b).take (bc (aJ b)))=0
     ·rw[if_neg (show ¬(-eW ((aJ a).take (bc (aJ a))) ((aJ b).take (bc (aJ b)))≠0) by omega),if_neg (show ¬(eW ((aJ a).take (bc (aJ a))) ((aJ b).take (bc (aJ b)))≠0) by omega)];exact ih
     ·rw[if_pos (show-eW ((aJ a).take (bc (aJ a))) ((aJ b).take (bc (aJ b)))≠0 by omega),if_pos h3]
    ·rw[if_pos (show bc (aJ b)≠bc (aJ a) by omega),if_pos h2,fc]
   ·rw[if_pos (show-bM a b≠0 by omega),if_pos h1]
theorem nH (a b:List UInt8):bb b a= -bb a b:=sV _ a b (Nat.le_refl _)
theorem jB (a b:List UInt8):bA b a= -bA a b:=by
 unfold bA
 rcases eB a with _|⟨e,u,r⟩
 ·rcases eB b with _|⟨f,v,s⟩<;>rfl
 ·rcases eB b with _|⟨f,v,s⟩
  ·rfl
  ·show(if bb f e≠0 then bb f e else if bb v u≠0 then bb v u else bb s r)= -(if bb e f≠0 then bb e f else if bb u v≠0 then bb u v else bb r s)
   rw[nH e f,nH u v,nH r s]
   by_cases h1:bb e f=0
   ·by_cases h2:bb u v=0
    ·simp[h1,h2]
    ·rw[if_neg (show ¬(-bb e f≠0) by omega),if_neg (show ¬(bb e f≠0) by omega),if_pos (show-bb u v≠0 by omega),if_pos h2]
   ·rw[if_pos (show-bb e f≠0 by omega),if_pos h1]
theorem kv (a b:List UInt8):bm b a=bm a b:=by
 unfold bm
 rw[jB a b,Bool.and_comm (bw b)]
 congr 1
 rw[Bool.eq_iff_iff,beq_iff_eq,beq_iff_eq]
 omega
theorem rm (p q:Pkg):dc p q=dc q p:=by
 unfold dc
 rw[kv]
 congr 1
 rw[Bool.eq_iff_iff,beq_iff_eq,beq_iff_eq]
 exact⟨λh=>h.symm,λh=>h.symm⟩
theorem sT : ∀(l bef:List Pkg),ng bef l=false↔(∀p∈l,∀q∈bef,dc p q=false)∧l.Pairwise λx y=>dc y x=false
 |[],bef=>by simp[ng]
 |p::r,bef=>by
  rw[ng,Bool.or_eq_false_iff,sT r,List.pairwise_cons,List.any_eq_false]
  constructor
  ·rintro⟨h1,h2,h3⟩
   refine⟨λx hx q hq=>?_,λx hx=>h2 x hx p (by simp),h3⟩
   rcases List.mem_cons.1 hx with rfl|hx
   ·simpa using h1 q hq
   ·exact h2 x hx q (by simp[hq])
  ·rintro⟨h1,h2,h3⟩
   refine⟨λq hq=>by simpa using h1 p (by simp) q hq,λx hx q hq=>?_,h3⟩
   rcases List.mem_append.1 hq with hq|hq
   ·exact h1 x (by simp[hx]) q hq
   ·rw[List.mem_singleton.1 hq];exact h2 x hx
theorem jy : ∀(l:List Pkg) (acc:List (List UInt8)) (x:List UInt8),x∈de l acc↔x∈acc∨ ∃p∈l,p.name=x
 |[],acc,x=>by simp[de]
 |p::r,acc,x=>by
  rw[de,jy r]
  by_cases h:acc.any (λx=>p.name==x)=true
  ·rw[if_pos h]
   obtain⟨y,hy,e⟩:=List.any_eq_true.1 h
   have e:=beq_iff_eq.1 e
   constructor
   ·rintro(h|⟨q,hq,e⟩)
    ·exact .inl h
    ·exact .inr ⟨q,by simp[hq],e⟩
   ·rintro(h|⟨q,hq,e'⟩)
    ·exact .inl h
    ·rcases List.mem_cons.1 hq with rfl|hq
     ·exact .inl (by rw[←e',e];exact hy)
     ·exact .inr ⟨q,hq,e'⟩
  ·rw[if_neg h,List.mem_append,List.mem_singleton]
   constructor
   ·rintro((h|rfl)|⟨q,hq,e⟩)
    ·exact .inl h
    ·exact .inr ⟨p,by simp,rfl⟩
    ·exact .inr ⟨q,by simp[hq],e⟩
   ·rintro(h|⟨q,hq,e'⟩)
    ·exact .inl (.inl h)
    ·rcases List.mem_cons.1 hq with rfl|hq
     ·exact .inl (.inr e'.symm)
     ·exact .inr ⟨q,hq,e'⟩
theorem iQ : ∀(l:List Pkg) (acc:List (List UInt8)),acc.Nodup→(de l acc).Nodup
 |[],acc,h=>h
 |p::r,acc,h=>by
  rw[de]
  refine iQ r _ ?_
  by_cases hm:acc.any (λx=>p.name==x)=true
  ·rw[if_pos hm];exact h
  ·rw[if_neg hm]
   refine List.nodup_append.2 ⟨h,by simp,λa ha b hb e=>?_⟩
   rw[List.mem_singleton]at hb
   subst hb
   exact hm (List.any_eq_true.2 ⟨a,ha,by simp[e]⟩)
theorem vC {α:Type} [DecidableEq α]: ∀(l m:List α),l.Nodup→(∀x∈l,x∈m)→l.length≤m.length
 |[],_,_,_=>Nat.zero_le _
 |x::l,m,hn,h=>by
  rw[List.nodup_cons]at hn
  have hx:=h x (by simp)
  have:=vC l (m.erase x) hn.2 λy hy=>by
   have hne:y≠x:=λe=>hn.1 (by rw[←e];exact hy)
   exact(List.mem_erase_of_ne hne).2 (h y (by simp[hy]))
  rw[List.length_erase_of_mem hx]at this
  have:=List.length_pos_of_mem hx
  simp;omega
theorem B7 : ∀(l:List Int),orL l=0↔ ∀x∈l,x=0
 |[]=>by simp[orL]
 |y::r=>by
  constructor
  ·exact gb
  ·intro h
   rw[orL,if_neg (by simp[h y (by simp)])]
   exact(B7 r).2 λx hx=>h x (by simp[hx])
end Go.Av
end
section
namespace Go.Av
structure HL (l:List Pkg):Prop where
 may: ∀p∈l,aW p=0
 pair:l.Pairwise λp q=>p.name≠q.name∧fp p q=false
 met: ∀p∈l,∀c∈p.pre++p.dep,∃q∈l,c.any (eu q)=true
theorem zb {c:Clause}{l:List Pkg}:A0 c l=true↔ ∃q∈l,c.any (eu q)=true:=by
 unfold A0
 simp only[List.any_eq_true]
 constructor
 ·rintro⟨a,ha,q,hq,h⟩
  exact⟨q,hq,a,ha,h⟩
 ·rintro⟨q,hq,a,ha,h⟩
  exact⟨a,ha,q,hq,h⟩
theorem Ew {l bef:List Pkg}{p:Pkg}:EV l bef p=false↔aW p=0∧(∀q∈bef,q.name≠p.name∧fp p q=false)∧ ∀c∈p.pre++p.dep,∃q∈l,c.any (eu q)=true:=by
 unfold EV
 simp only[Bool.or_eq_false_iff,bne_eq_false_iff_eq,List.any_eq_false,Bool.not_eq_true',Bool.not_eq_true,Bool.not_eq_false',List.mem_append,←zb]
 constructor
 ·rintro⟨⟨h1,h2⟩,h3,h4⟩
  refine⟨h1,λq hq=>?_,λc hc=>?_⟩
  ·have:=h2 q hq
   simp at this
   exact this
  ·rcases hc with hc|hc
   ·simpa using h3 c hc
   ·simpa using h4 c hc
 ·rintro⟨h1,h2,h3⟩
  refine⟨⟨h1,λq hq=>?_⟩,λc hc=>by simpa using h3 c (.inl hc),λc hc=>by simpa using h3 c (.inr hc)⟩
  have:=h2 q hq
  simp[this]
theorem vu {l:List Pkg}: ∀(r bef:List Pkg),ya l bef r=false↔(∀p∈r,aW p=0∧ ∀c∈p.pre++p.dep,∃q∈l,c.any (eu q)=true)∧(∀p∈r,∀q∈bef,q.name≠p.name∧fp p q=false)∧r.Pairwise λq p=>q.name≠p.name∧fp p q=false
 |[],bef=>by simp[ya]
 |p::r,bef=>by
  rw[ya,Bool.or_eq_false_iff,Ew,vu r,List.pairwise_cons]
  constructor
  ·rintro⟨⟨h1,h2,h3⟩,h4,h5,h6⟩
   refine⟨λx hx=>?_,λx hx q hq=>?_,λx hx=>h5 x hx p (by simp),h6⟩
   ·rcases List.mem_cons.1 hx with rfl|hx
    ·exact⟨h1,h3⟩
    ·exact h4 x hx
   ·rcases List.mem_cons.1 hx with rfl|hx
    ·exact h2 q hq
    ·exact h5 x hx q (by simp[hq])
  ·rintro⟨h1,h2,h3,h4⟩
   refine⟨⟨(h1 p (by simp)).1,λq hq=>h2 p (by simp) q hq,(h1 p (by simp)).2⟩,λx hx=>h1 x (by simp[hx]),λx hx q hq=>?_,h4⟩
   rcases List.mem_append.1 hq with hq|hq
   ·exact h2 x (by simp[hx]) q hq
   ·rw[List.mem_singleton.1 hq];exact h3 x hx
theorem yj {l:List Pkg}:fU l=true↔HL l:=by
 unfold fU
 rw[Bool.not_eq_true',vu]
 constructor
 ·rintro⟨h1,_,h3⟩
  exact⟨λp hp=>(h1 p hp).1,h3.imp λ{a b} h=>⟨h.1,by rw[nM];exact h.2⟩,λp hp=>(h1 p hp).2⟩
 ·intro h
  exact⟨λp hp=>⟨h.may p hp,h.met p hp⟩,by simp,h.pair.imp λ{a b} h=>⟨h.1,by rw[nM];exact h.2⟩⟩
theorem HL.perm {l m:List Pkg}(h:HL l)(hp:l.Perm m):HL m:=
 ⟨λp hm=>h.may p (hp.symm.subset hm),hp.pairwise h.pair λ{a b} h=>⟨λe=>h.1 e.symm,by rw[nM];exact h.2⟩,λp hm c hc=>by
  obtain⟨q,h1,h2⟩:=h.met p (hp.symm.subset hm) c hc
  exact⟨q,hp.subset h1,h2⟩⟩
def pick (S:Nat→Bool):Nat→List Pkg→List Pkg
 |_,[]=>[]
 |i,p::r=>if S i=true then p::pick S (i+1) r else pick S (i+1) r
end Go.Av
end
section
namespace Go.Proofs.Tryz
open Go Go.Av
def LP (all:List Pkg)(S:Nat→Bool)(x:Clause):Prop:=∃ (m:Nat) (q:Pkg),all[m]?=some q∧x.any (eu q)=true∧S m=true
def L9 (all:List Pkg)(S:Nat→Bool)(i:Nat)(x:Atom):Prop:=∀ (m:Nat) (q:Pkg),all[m]?=some q→S m=true→m≠i→eu q x=false
structure MJ (all:List Pkg)(S:Nat→Bool)(c:Nat×Nat×Nat):Prop where
 pre:c.2.1=1→ ∀p x,all[c.1]?=some p→p.pre[c.2.2]?=some x→LP all S x
 dep:c.2.1=2→ ∀p x,all[c.1]?=some p→p.dep[c.2.2]?=some x→LP all S x
 con:c.2.1=3→ ∀p x,all[c.1]?=some p→p.con[c.2.2]?=some x→L9 all S c.1 x
 brk:c.2.1=4→ ∀p x,all[c.1]?=some p→p.brk[c.2.2]?=some x→L9 all S c.1 x
structure XA (all:List Pkg)(e:List (Nat×Nat×Nat))(S:Nat→Bool):Prop where
 name: ∀(a b:Nat) (p q:Pkg),all[a]?=some p→all[b]?=some q→a≠b→S a=true→S b=true→p.name≠q.name
 Xz: ∀c∈e,S c.1=true→MJ all S c
end Go.Proofs.Tryz
end
section
namespace Go.Proofs.Tryz
open Go Go.Av
def K4 (all:List Pkg)(c:Nat×Nat×Nat):Clause:=match all[c.1]? with
 |some p=>(match c.2.1 with
  |1=>(p.pre[c.2.2]?).getD []
  |2=>(p.dep[c.2.2]?).getD []
  |3=>((p.con[c.2.2]?).map λx=>[x]).getD []
  |_=>((p.brk[c.2.2]?).map λx=>[x]).getD [])
 |none=>[]
def Vi (all:List Pkg)(cl:Clause)(m:Nat):Bool:=match all[m]? with
 |some q=>cl.any (eu q)
 |none=>false
def gE (all:List Pkg)(cl:Clause)(n:Nat):List Nat:=(List.range n).filter (Vi all cl)
def A9 (all:List Pkg)(c:Nat×Nat×Nat):List Nat:=gE all (K4 all c) all.length
structure XC (all:List Pkg)(e:List (Nat×Nat×Nat))(S:Nat→Bool):Prop where
 name: ∀i k,k<i→i<all.length→Ll all k=Ll all i→S i=true→S k=true→False
 con: ∀c∈e,(c.2.1=3∨c.2.1=4)→ ∀m∈A9 all c,m≠c.1→S c.1=true→S m=true→False
 dep: ∀c∈e,(c.2.1=1∨c.2.1=2)→S c.1=true→ ∃m∈A9 all c,S m=true
end Go.Proofs.Tryz
end
section
namespace Go.Proofs.Tryz
open Go Go.Av
set_option maxRecDepth 10000
variable {W0 :World}
theorem iW {x y a b:AV}(h1:cT x y)(h2:cT a b):cT (.tup [x,a]) (.tup [y,b]):=.tup rfl λi u v hu hv=>by
 rcases i with _|_|i<;>simp at hu hv
 ·subst hu hv;exact h1
 ·subst hu hv;exact h2
end Go.Proofs.Tryz
end
